/- Each of these functions computes what its plain function computes (written by gen.py). -/
import Derived.Test.YtheaknjhanchbaaDoorSBase
import Derived.KernelRfl
import Derived.Test.YtheaknjhanchbaaDoorEvDraw
import Derived.Test.YtheaknjhanchbaaDoorPCode
namespace Go.Proofs.YtheaknjhanchbaaDoor
open Go Esp Ev Pure
set_option linter.unusedSimpArgs false
set_option linter.unusedVariables false
set_option maxRecDepth 100000
set_option maxHeartbeats 1000000
/-- the functions that may be put off -/
def okds : List FuncId := []
theorem quiets : ∀ g ∈ okds, ∀ (args : Array Value) (w : World), (callFunc g args).run Tryd.prog w = .ok (.enter g args) w ∧ CallsD Tryd.prog g args .returning w fun e u w' => u = .returning ∧ (∃ v, e = .returned v) ∧ w' = w := by
  intro g hg args w
  cases hg
variable [Tabs]
/-- what is put off -/
class UDef : Prop where
  ok : ∀ g ∈ ([] : List Nat), g ∈ Tabs.okd
variable [QuietD Tryd.prog] [UDef] [UTabs]
def TT : List (TypeId × Ty) := [(2, .i64), (3, .i64), (4, .bool), (5, .u8), (6, .u8), (9, .str), (10, .str), (11, .str), (12, .u64), (21, .i32), (22, (.lst (.lst .val))), (23, (.lst .cnt)), (24, (.lst .cnt)), (25, .i64), (29, (.lst .val)), (30, (.lst .val)), (32, .cnt), (37, (.lst (.lst .cnt))), (40, .val), (47, (.lst .i64)), (54, .guest), (63, (.two (.lst .cnt))), (73, (.lst .u32)), (92, .u64), (106, (.lst .u8)), (112, .u64), (114, .u64), (136, .u32), (148, .u8), (149, .u8), (152, .i32), (153, .i32)]

noncomputable def F_eL_GuestTake : FnT := ⟨3, ⟨[], [(0, .guest), (1, (.lst .cnt)), (2, .i64)], []⟩, [.v .bool], []⟩
noncomputable def F_guest_Take : FnT := ⟨3, ⟨[], [(0, .guest), (1, (.lst .cnt)), (2, .i64)], []⟩, [.v .guest, .v (.lst .cnt), .v .bool, .v .i64], []⟩
noncomputable def F_guest_Check : FnT := ⟨1, ⟨[], [(0, .guest)], []⟩, [.v .i64], []⟩
noncomputable def F_bag_Check : FnT := ⟨1, ⟨[], [(0, (.lst .cnt))], []⟩, [.v .i64], []⟩
noncomputable def F_value_Check : FnT := ⟨1, ⟨[], [(0, .val)], []⟩, [.v .i64], []⟩
noncomputable def F_value_check : FnT := ⟨2, ⟨[], [(0, .val), (1, .i64)], []⟩, [.v .i64], []⟩
noncomputable def C_value_check : Code := bodyOf Tryd.f83
noncomputable def M_value_check : List (Nat × ArgM) := [(70, ⟨[], [], [], true⟩), (83, ⟨[], [], [], true⟩)]
instance : DfOk M_value_check := .none rfl
noncomputable def O_value_check {ρ : Type} (self_value_check : Ev.Val × Int × Unit → Option (Int × Unit)) (n : Nat) : Orc ρ := orcCons 70 F_valid (validN) (orcCons 83 F_value_check (self_value_check) (orcNil))
omit [QuietD Tryd.prog] [UDef] in
theorem O_value_check_ok {ρ : Type} (self_value_check : Ev.Val × Int × Unit → Option (Int × Unit)) (h_value_check : Contract Tryd.prog 83 F_value_check self_value_check) (n : Nat) : (O_value_check self_value_check n : Orc ρ).ok Tryd.prog := orcCons_ok (by kernel_rfl) (validN_ok) (orcCons_ok (by kernel_rfl) (h_value_check) (orcNil_ok))
noncomputable def T_value_check_s1 : Tm := ⟨[(2, .ptr 2 0)], [(1, .i64), (90, (.lst .val)), (91, .i64), (92, .i64)], [(2, .box [.d .val])]⟩
noncomputable def X_value_check_s1 : Tm := ⟨[(2, .ptr 2 0)], [], [(2, .box [.d .val])]⟩
noncomputable def R_value_check_s1 : Tm := ⟨[], [(4, .i64)], []⟩
noncomputable def L_value_check_s1 {ρ : Type} (self_value_check : Ev.Val × Int × Unit → Option (Int × Unit)) (n : Nat) : LOrc ρ := lorcNil
omit [Tabs] [QuietD Tryd.prog] [UDef] [UTabs] in
theorem s_value_check_s1 {ρ : Type} (self_value_check : Ev.Val × Int × Unit → Option (Int × Unit)) (n : Nat) (rec : T_value_check_s1.den → Option ρ) kx kr s : dStep Tryd.prog 114 TT M_value_check (O_value_check self_value_check n) (L_value_check_s1 self_value_check n) dorcNil 1 (lbody 1000 C_value_check 0) T_value_check_s1 X_value_check_s1 R_value_check_s1 ⟨[], [], []⟩ rec kx kr s = value_check_s1 self_value_check n rec kx kr s := by kernel_rfl
noncomputable def L_value_check {ρ : Type} (self_value_check : Ev.Val × Int × Unit → Option (Int × Unit)) (n : Nat) : LOrc ρ := lorcCons 1 (loopL 114 1 n T_value_check_s1 X_value_check_s1 R_value_check_s1 ⟨[], [], []⟩ (value_check_s1 self_value_check n)) (lorcNil)
omit [Tabs] [QuietD Tryd.prog] [UDef] [UTabs] in
theorem e_value_check (self_value_check : Ev.Val × Int × Unit → Option (Int × Unit)) (n : Nat) (x) : evF Tryd.prog 114 TT M_value_check F_value_check (O_value_check self_value_check n) (L_value_check self_value_check n) dorcNil ⟨[], [], []⟩ [.tmp 4] C_value_check x = value_check_b self_value_check n x := by kernel_rfl
omit [UDef] in
theorem okb_value_check (self_value_check : Ev.Val × Int × Unit → Option (Int × Unit)) (h_value_check : Contract Tryd.prog 83 F_value_check self_value_check) (n : Nat) : Contract Tryd.prog 83 F_value_check (value_check_b self_value_check n) :=
  Contract.of_ev (c := C_value_check) (N := 114) Tryd.func83 (by kernel_rfl) (by kernel_rfl) (by kernel_rfl) (by kernel_rfl) (O_value_check_ok self_value_check h_value_check n) dorcNil_ok (.of (l := [(1, (lbody 1000 C_value_check 0))]) (by kernel_rfl) ⟨.head (loopL_sound (O_value_check_ok self_value_check h_value_check n) dorcNil_ok (.of (l := []) (by kernel_rfl) trivial) (s_value_check_s1 self_value_check n)), trivial⟩) (e_value_check self_value_check n)
omit [UDef] in
theorem ok_value_check : ∀ n, Contract Tryd.prog 83 F_value_check (value_check n)
  | 0 => fun _ _ h => by cases h
  | n + 1 => okb_value_check _ (ok_value_check n) n

noncomputable def C_value_Check : Code := bodyOf Tryd.f62
noncomputable def M_value_Check : List (Nat × ArgM) := [(83, ⟨[], [], [], true⟩)]
instance : DfOk M_value_Check := .none rfl
noncomputable def O_value_Check {ρ : Type} (n : Nat) : Orc ρ := orcCons 83 F_value_check (value_check n) (orcNil)
omit [UDef] in
theorem O_value_Check_ok {ρ : Type} (n : Nat) : (O_value_Check n : Orc ρ).ok Tryd.prog := orcCons_ok (by kernel_rfl) (ok_value_check n) (orcNil_ok)
noncomputable def L_value_Check {ρ : Type} (n : Nat) : LOrc ρ := lorcNil
omit [Tabs] [QuietD Tryd.prog] [UDef] [UTabs] in
theorem e_value_Check (n : Nat) (x) : evF Tryd.prog 5 TT M_value_Check F_value_Check (O_value_Check n) (L_value_Check n) dorcNil ⟨[], [], []⟩ [.tmp 2] C_value_Check x = value_Check n x := by kernel_rfl
omit [UDef] in
theorem ok_value_Check (n : Nat) : Contract Tryd.prog 62 F_value_Check (value_Check n) :=
  Contract.of_ev (c := C_value_Check) (N := 5) Tryd.func62 (by kernel_rfl) (by kernel_rfl) (by kernel_rfl) (by kernel_rfl) (O_value_Check_ok n) dorcNil_ok (.of (l := []) (by kernel_rfl) trivial) (e_value_Check n)

noncomputable def F_bag_Compare : FnT := ⟨2, ⟨[], [(0, (.lst .val)), (1, (.lst .val))], []⟩, [.v .i64], []⟩
noncomputable def F_slices_CompareFunc_W_W_V_V_value_Order : FnT := ⟨3, ⟨[(2, .fn 68)], [(0, (.lst .val)), (1, (.lst .val))], []⟩, [.v .i64], []⟩
noncomputable def F_value_Order : FnT := ⟨2, ⟨[], [(0, .val), (1, .val)], []⟩, [.v .i64], []⟩
noncomputable def F_cmp_Compare_int : FnT := ⟨2, ⟨[], [(0, .i64), (1, .i64)], []⟩, [.v .i64], []⟩
noncomputable def F_cmp_isNaN_int : FnT := ⟨1, ⟨[], [(0, .i64)], []⟩, [.v .bool], []⟩
noncomputable def C_cmp_isNaN_int : Code := bodyOf Tryd.f110
noncomputable def M_cmp_isNaN_int : List (Nat × ArgM) := []
instance : DfOk M_cmp_isNaN_int := .none rfl
noncomputable def O_cmp_isNaN_int {ρ : Type} : Orc ρ := orcNil
omit [QuietD Tryd.prog] [UDef] [UTabs] in
theorem O_cmp_isNaN_int_ok {ρ : Type} : (O_cmp_isNaN_int : Orc ρ).ok Tryd.prog := orcNil_ok
noncomputable def L_cmp_isNaN_int {ρ : Type} : LOrc ρ := lorcNil
omit [Tabs] [QuietD Tryd.prog] [UDef] [UTabs] in
theorem e_cmp_isNaN_int (x) : evF Tryd.prog 6 TT M_cmp_isNaN_int F_cmp_isNaN_int (O_cmp_isNaN_int) (L_cmp_isNaN_int) dorcNil ⟨[], [], []⟩ [.tmp 2] C_cmp_isNaN_int x = cmp_isNaN_int x := by kernel_rfl
omit [UDef] [UTabs] in
theorem ok_cmp_isNaN_int : Contract Tryd.prog 110 F_cmp_isNaN_int (cmp_isNaN_int) :=
  Contract.of_ev (c := C_cmp_isNaN_int) (N := 6) Tryd.func110 (by kernel_rfl) (by kernel_rfl) (by kernel_rfl) (by kernel_rfl) (O_cmp_isNaN_int_ok) dorcNil_ok (.of (l := []) (by kernel_rfl) trivial) (e_cmp_isNaN_int)

noncomputable def C_cmp_Compare_int : Code := bodyOf Tryd.f95
noncomputable def M_cmp_Compare_int : List (Nat × ArgM) := [(110, ⟨[], [], [], true⟩)]
instance : DfOk M_cmp_Compare_int := .none rfl
noncomputable def O_cmp_Compare_int {ρ : Type} : Orc ρ := orcCons 110 F_cmp_isNaN_int (cmp_isNaN_int) (orcNil)
omit [UDef] [UTabs] in
theorem O_cmp_Compare_int_ok {ρ : Type} : (O_cmp_Compare_int : Orc ρ).ok Tryd.prog := orcCons_ok (by kernel_rfl) (ok_cmp_isNaN_int) (orcNil_ok)
noncomputable def L_cmp_Compare_int {ρ : Type} : LOrc ρ := lorcNil
omit [Tabs] [QuietD Tryd.prog] [UDef] [UTabs] in
theorem e_cmp_Compare_int (x) : evF Tryd.prog 20 TT M_cmp_Compare_int F_cmp_Compare_int (O_cmp_Compare_int) (L_cmp_Compare_int) dorcNil ⟨[], [], []⟩ [.tmp 4] C_cmp_Compare_int x = cmp_Compare_int x := by kernel_rfl
omit [UDef] [UTabs] in
theorem ok_cmp_Compare_int : Contract Tryd.prog 95 F_cmp_Compare_int (cmp_Compare_int) :=
  Contract.of_ev (c := C_cmp_Compare_int) (N := 20) Tryd.func95 (by kernel_rfl) (by kernel_rfl) (by kernel_rfl) (by kernel_rfl) (O_cmp_Compare_int_ok) dorcNil_ok (.of (l := []) (by kernel_rfl) trivial) (e_cmp_Compare_int)

noncomputable def F_cmp_Compare_string : FnT := ⟨2, ⟨[], [(0, .str), (1, .str)], []⟩, [.v .i64], []⟩
noncomputable def F_cmp_isNaN_string : FnT := ⟨1, ⟨[], [(0, .str)], []⟩, [.v .bool], []⟩
noncomputable def C_cmp_isNaN_string : Code := bodyOf Tryd.f111
noncomputable def M_cmp_isNaN_string : List (Nat × ArgM) := []
instance : DfOk M_cmp_isNaN_string := .none rfl
noncomputable def O_cmp_isNaN_string {ρ : Type} : Orc ρ := orcNil
omit [QuietD Tryd.prog] [UDef] [UTabs] in
theorem O_cmp_isNaN_string_ok {ρ : Type} : (O_cmp_isNaN_string : Orc ρ).ok Tryd.prog := orcNil_ok
noncomputable def L_cmp_isNaN_string {ρ : Type} : LOrc ρ := lorcNil
omit [Tabs] [QuietD Tryd.prog] [UDef] [UTabs] in
theorem e_cmp_isNaN_string (x) : evF Tryd.prog 6 TT M_cmp_isNaN_string F_cmp_isNaN_string (O_cmp_isNaN_string) (L_cmp_isNaN_string) dorcNil ⟨[], [], []⟩ [.tmp 2] C_cmp_isNaN_string x = cmp_isNaN_string x := by kernel_rfl
omit [UDef] [UTabs] in
theorem ok_cmp_isNaN_string : Contract Tryd.prog 111 F_cmp_isNaN_string (cmp_isNaN_string) :=
  Contract.of_ev (c := C_cmp_isNaN_string) (N := 6) Tryd.func111 (by kernel_rfl) (by kernel_rfl) (by kernel_rfl) (by kernel_rfl) (O_cmp_isNaN_string_ok) dorcNil_ok (.of (l := []) (by kernel_rfl) trivial) (e_cmp_isNaN_string)

noncomputable def C_cmp_Compare_string : Code := bodyOf Tryd.f97
noncomputable def M_cmp_Compare_string : List (Nat × ArgM) := [(111, ⟨[], [], [], true⟩)]
instance : DfOk M_cmp_Compare_string := .none rfl
noncomputable def O_cmp_Compare_string {ρ : Type} : Orc ρ := orcCons 111 F_cmp_isNaN_string (cmp_isNaN_string) (orcNil)
omit [UDef] [UTabs] in
theorem O_cmp_Compare_string_ok {ρ : Type} : (O_cmp_Compare_string : Orc ρ).ok Tryd.prog := orcCons_ok (by kernel_rfl) (ok_cmp_isNaN_string) (orcNil_ok)
noncomputable def L_cmp_Compare_string {ρ : Type} : LOrc ρ := lorcNil
omit [Tabs] [QuietD Tryd.prog] [UDef] [UTabs] in
theorem e_cmp_Compare_string (x) : evF Tryd.prog 20 TT M_cmp_Compare_string F_cmp_Compare_string (O_cmp_Compare_string) (L_cmp_Compare_string) dorcNil ⟨[], [], []⟩ [.tmp 4] C_cmp_Compare_string x = cmp_Compare_string x := by kernel_rfl
omit [UDef] [UTabs] in
theorem ok_cmp_Compare_string : Contract Tryd.prog 97 F_cmp_Compare_string (cmp_Compare_string) :=
  Contract.of_ev (c := C_cmp_Compare_string) (N := 20) Tryd.func97 (by kernel_rfl) (by kernel_rfl) (by kernel_rfl) (by kernel_rfl) (O_cmp_Compare_string_ok) dorcNil_ok (.of (l := []) (by kernel_rfl) trivial) (e_cmp_Compare_string)

noncomputable def F_slices_CompareFunc_V_V_V_V_value_Order : FnT := ⟨3, ⟨[(2, .fn 68)], [(0, (.lst .val)), (1, (.lst .val))], []⟩, [.v .i64], []⟩
noncomputable def C_slices_CompareFunc_V_V_V_V_value_Order : Code := bodyOf Tryd.f98
noncomputable def M_slices_CompareFunc_V_V_V_V_value_Order : List (Nat × ArgM) := [(68, ⟨[], [], [], true⟩)]
instance : DfOk M_slices_CompareFunc_V_V_V_V_value_Order := .none rfl
noncomputable def O_slices_CompareFunc_V_V_V_V_value_Order {ρ : Type} (self_value_Order : Ev.Val × Ev.Val × Unit → Option (Int × Unit)) (n : Nat) : Orc ρ := orcCons 68 F_value_Order (self_value_Order) (orcNil)
omit [QuietD Tryd.prog] [UDef] [UTabs] in
theorem O_slices_CompareFunc_V_V_V_V_value_Order_ok {ρ : Type} (self_value_Order : Ev.Val × Ev.Val × Unit → Option (Int × Unit)) (h_value_Order : Contract Tryd.prog 68 F_value_Order self_value_Order) (n : Nat) : (O_slices_CompareFunc_V_V_V_V_value_Order self_value_Order n : Orc ρ).ok Tryd.prog := orcCons_ok (by kernel_rfl) (h_value_Order) (orcNil_ok)
noncomputable def T_slices_CompareFunc_V_V_V_V_value_Order_s0 : Tm := ⟨[(2, .fn 68)], [(0, (.lst .val)), (1, (.lst .val)), (11, (.lst .val)), (12, .i64), (13, .i64)], []⟩
noncomputable def X_slices_CompareFunc_V_V_V_V_value_Order_s0 : Tm := ⟨[], [(0, (.lst .val)), (1, (.lst .val))], []⟩
noncomputable def R_slices_CompareFunc_V_V_V_V_value_Order_s0 : Tm := ⟨[], [(6, .i64)], []⟩
noncomputable def L_slices_CompareFunc_V_V_V_V_value_Order_s0 {ρ : Type} (self_value_Order : Ev.Val × Ev.Val × Unit → Option (Int × Unit)) (n : Nat) : LOrc ρ := lorcNil
omit [Tabs] [QuietD Tryd.prog] [UDef] [UTabs] in
theorem s_slices_CompareFunc_V_V_V_V_value_Order_s0 {ρ : Type} (self_value_Order : Ev.Val × Ev.Val × Unit → Option (Int × Unit)) (n : Nat) (rec : T_slices_CompareFunc_V_V_V_V_value_Order_s0.den → Option ρ) kx kr s : dStep Tryd.prog 39 TT M_slices_CompareFunc_V_V_V_V_value_Order (O_slices_CompareFunc_V_V_V_V_value_Order self_value_Order n) (L_slices_CompareFunc_V_V_V_V_value_Order_s0 self_value_Order n) dorcNil 0 (lbody 1000 C_slices_CompareFunc_V_V_V_V_value_Order 0) T_slices_CompareFunc_V_V_V_V_value_Order_s0 X_slices_CompareFunc_V_V_V_V_value_Order_s0 R_slices_CompareFunc_V_V_V_V_value_Order_s0 ⟨[], [], []⟩ rec kx kr s = slices_CompareFunc_V_V_V_V_value_Order_s0 self_value_Order n rec kx kr s := by kernel_rfl
noncomputable def L_slices_CompareFunc_V_V_V_V_value_Order {ρ : Type} (self_value_Order : Ev.Val × Ev.Val × Unit → Option (Int × Unit)) (n : Nat) : LOrc ρ := lorcCons 0 (loopL 39 0 n T_slices_CompareFunc_V_V_V_V_value_Order_s0 X_slices_CompareFunc_V_V_V_V_value_Order_s0 R_slices_CompareFunc_V_V_V_V_value_Order_s0 ⟨[], [], []⟩ (slices_CompareFunc_V_V_V_V_value_Order_s0 self_value_Order n)) (lorcNil)
omit [Tabs] [QuietD Tryd.prog] [UDef] [UTabs] in
theorem e_slices_CompareFunc_V_V_V_V_value_Order (self_value_Order : Ev.Val × Ev.Val × Unit → Option (Int × Unit)) (n : Nat) (x) : evF Tryd.prog 39 TT M_slices_CompareFunc_V_V_V_V_value_Order F_slices_CompareFunc_V_V_V_V_value_Order (O_slices_CompareFunc_V_V_V_V_value_Order self_value_Order n) (L_slices_CompareFunc_V_V_V_V_value_Order self_value_Order n) dorcNil ⟨[], [], []⟩ [.tmp 6] C_slices_CompareFunc_V_V_V_V_value_Order x = slices_CompareFunc_V_V_V_V_value_Order self_value_Order n x := by kernel_rfl
omit [UDef] [UTabs] in
theorem ok_slices_CompareFunc_V_V_V_V_value_Order (self_value_Order : Ev.Val × Ev.Val × Unit → Option (Int × Unit)) (h_value_Order : Contract Tryd.prog 68 F_value_Order self_value_Order) (n : Nat) : Contract Tryd.prog 98 F_slices_CompareFunc_V_V_V_V_value_Order (slices_CompareFunc_V_V_V_V_value_Order self_value_Order n) :=
  Contract.of_ev (c := C_slices_CompareFunc_V_V_V_V_value_Order) (N := 39) Tryd.func98 (by kernel_rfl) (by kernel_rfl) (by kernel_rfl) (by kernel_rfl) (O_slices_CompareFunc_V_V_V_V_value_Order_ok self_value_Order h_value_Order n) dorcNil_ok (.of (l := [(0, (lbody 1000 C_slices_CompareFunc_V_V_V_V_value_Order 0))]) (by kernel_rfl) ⟨.head (loopL_sound (O_slices_CompareFunc_V_V_V_V_value_Order_ok self_value_Order h_value_Order n) dorcNil_ok (.of (l := []) (by kernel_rfl) trivial) (s_slices_CompareFunc_V_V_V_V_value_Order_s0 self_value_Order n)), trivial⟩) (e_slices_CompareFunc_V_V_V_V_value_Order self_value_Order n)

noncomputable def F_cmp_Or_int : FnT := ⟨1, ⟨[], [(0, (.lst .i64))], []⟩, [.v .i64], []⟩
noncomputable def C_cmp_Or_int : Code := bodyOf Tryd.f96
noncomputable def M_cmp_Or_int : List (Nat × ArgM) := []
instance : DfOk M_cmp_Or_int := .none rfl
noncomputable def O_cmp_Or_int {ρ : Type} (n : Nat) : Orc ρ := orcNil
omit [QuietD Tryd.prog] [UDef] [UTabs] in
theorem O_cmp_Or_int_ok {ρ : Type} (n : Nat) : (O_cmp_Or_int n : Orc ρ).ok Tryd.prog := orcNil_ok
noncomputable def T_cmp_Or_int_s0 : Tm := ⟨[], [(3, .i64), (6, (.lst .i64)), (7, .i64), (8, .i64)], []⟩
noncomputable def X_cmp_Or_int_s0 : Tm := ⟨[], [(3, .i64)], []⟩
noncomputable def R_cmp_Or_int_s0 : Tm := ⟨[], [(2, .i64)], []⟩
noncomputable def L_cmp_Or_int_s0 {ρ : Type} (n : Nat) : LOrc ρ := lorcNil
omit [Tabs] [QuietD Tryd.prog] [UDef] [UTabs] in
theorem s_cmp_Or_int_s0 {ρ : Type} (n : Nat) (rec : T_cmp_Or_int_s0.den → Option ρ) kx kr s : dStep Tryd.prog 18 TT M_cmp_Or_int (O_cmp_Or_int n) (L_cmp_Or_int_s0 n) dorcNil 0 (lbody 1000 C_cmp_Or_int 0) T_cmp_Or_int_s0 X_cmp_Or_int_s0 R_cmp_Or_int_s0 ⟨[], [], []⟩ rec kx kr s = cmp_Or_int_s0 n rec kx kr s := by kernel_rfl
noncomputable def L_cmp_Or_int {ρ : Type} (n : Nat) : LOrc ρ := lorcCons 0 (loopL 18 0 n T_cmp_Or_int_s0 X_cmp_Or_int_s0 R_cmp_Or_int_s0 ⟨[], [], []⟩ (cmp_Or_int_s0 n)) (lorcNil)
omit [Tabs] [QuietD Tryd.prog] [UDef] [UTabs] in
theorem e_cmp_Or_int (n : Nat) (x) : evF Tryd.prog 18 TT M_cmp_Or_int F_cmp_Or_int (O_cmp_Or_int n) (L_cmp_Or_int n) dorcNil ⟨[], [], []⟩ [.tmp 2] C_cmp_Or_int x = cmp_Or_int n x := by kernel_rfl
omit [UDef] [UTabs] in
theorem ok_cmp_Or_int (n : Nat) : Contract Tryd.prog 96 F_cmp_Or_int (cmp_Or_int n) :=
  Contract.of_ev (c := C_cmp_Or_int) (N := 18) Tryd.func96 (by kernel_rfl) (by kernel_rfl) (by kernel_rfl) (by kernel_rfl) (O_cmp_Or_int_ok n) dorcNil_ok (.of (l := [(0, (lbody 1000 C_cmp_Or_int 0))]) (by kernel_rfl) ⟨.head (loopL_sound (O_cmp_Or_int_ok n) dorcNil_ok (.of (l := []) (by kernel_rfl) trivial) (s_cmp_Or_int_s0 n)), trivial⟩) (e_cmp_Or_int n)

noncomputable def C_value_Order : Code := bodyOf Tryd.f68
noncomputable def M_value_Order : List (Nat × ArgM) := [(95, ⟨[], [], [], true⟩), (97, ⟨[], [], [], true⟩), (98, ⟨[], [], [], true⟩), (96, ⟨[], [], [], true⟩)]
instance : DfOk M_value_Order := .none rfl
noncomputable def O_value_Order {ρ : Type} (self_value_Order : Ev.Val × Ev.Val × Unit → Option (Int × Unit)) (n : Nat) : Orc ρ := orcCons 95 F_cmp_Compare_int (cmp_Compare_int) (orcCons 97 F_cmp_Compare_string (cmp_Compare_string) (orcCons 98 F_slices_CompareFunc_V_V_V_V_value_Order (slices_CompareFunc_V_V_V_V_value_Order self_value_Order n) (orcCons 96 F_cmp_Or_int (cmp_Or_int n) (orcNil))))
omit [UDef] [UTabs] in
theorem O_value_Order_ok {ρ : Type} (self_value_Order : Ev.Val × Ev.Val × Unit → Option (Int × Unit)) (h_value_Order : Contract Tryd.prog 68 F_value_Order self_value_Order) (n : Nat) : (O_value_Order self_value_Order n : Orc ρ).ok Tryd.prog := orcCons_ok (by kernel_rfl) (ok_cmp_Compare_int) (orcCons_ok (by kernel_rfl) (ok_cmp_Compare_string) (orcCons_ok (by kernel_rfl) (ok_slices_CompareFunc_V_V_V_V_value_Order _ h_value_Order n) (orcCons_ok (by kernel_rfl) (ok_cmp_Or_int n) (orcNil_ok))))
noncomputable def L_value_Order {ρ : Type} (self_value_Order : Ev.Val × Ev.Val × Unit → Option (Int × Unit)) (n : Nat) : LOrc ρ := lorcNil
omit [Tabs] [QuietD Tryd.prog] [UDef] [UTabs] in
theorem e_value_Order (self_value_Order : Ev.Val × Ev.Val × Unit → Option (Int × Unit)) (n : Nat) (x) : evF Tryd.prog 31 TT M_value_Order F_value_Order (O_value_Order self_value_Order n) (L_value_Order self_value_Order n) (evDraw Tryd.prog 31 TT M_value_Order (O_value_Order self_value_Order n)) ⟨[], [], []⟩ [.tmp 4] C_value_Order x = value_Order_b self_value_Order n x := by kernel_rfl
omit [UDef] [UTabs] in
theorem okb_value_Order (self_value_Order : Ev.Val × Ev.Val × Unit → Option (Int × Unit)) (h_value_Order : Contract Tryd.prog 68 F_value_Order self_value_Order) (n : Nat) : Contract Tryd.prog 68 F_value_Order (value_Order_b self_value_Order n) :=
  Contract.of_ev (c := C_value_Order) (N := 31) Tryd.func68 (by kernel_rfl) (by kernel_rfl) (by kernel_rfl) (by kernel_rfl) (O_value_Order_ok self_value_Order h_value_Order n) (evDraw_ok (O_value_Order_ok self_value_Order h_value_Order n) (by kernel_rfl)) (.of (l := []) (by kernel_rfl) trivial) (e_value_Order self_value_Order n)
omit [UDef] [UTabs] in
theorem ok_value_Order : ∀ n, Contract Tryd.prog 68 F_value_Order (value_Order n)
  | 0 => fun _ _ h => by cases h
  | n + 1 => okb_value_Order _ (ok_value_Order n) n

noncomputable def C_slices_CompareFunc_W_W_V_V_value_Order : Code := bodyOf Tryd.f67
noncomputable def M_slices_CompareFunc_W_W_V_V_value_Order : List (Nat × ArgM) := [(68, ⟨[], [], [], true⟩)]
instance : DfOk M_slices_CompareFunc_W_W_V_V_value_Order := .none rfl
noncomputable def O_slices_CompareFunc_W_W_V_V_value_Order {ρ : Type} (n : Nat) : Orc ρ := orcCons 68 F_value_Order (value_Order n) (orcNil)
omit [UDef] [UTabs] in
theorem O_slices_CompareFunc_W_W_V_V_value_Order_ok {ρ : Type} (n : Nat) : (O_slices_CompareFunc_W_W_V_V_value_Order n : Orc ρ).ok Tryd.prog := orcCons_ok (by kernel_rfl) (ok_value_Order n) (orcNil_ok)
noncomputable def T_slices_CompareFunc_W_W_V_V_value_Order_s0 : Tm := ⟨[(2, .fn 68)], [(0, (.lst .val)), (1, (.lst .val)), (11, (.lst .val)), (12, .i64), (13, .i64)], []⟩
noncomputable def X_slices_CompareFunc_W_W_V_V_value_Order_s0 : Tm := ⟨[], [(0, (.lst .val)), (1, (.lst .val))], []⟩
noncomputable def R_slices_CompareFunc_W_W_V_V_value_Order_s0 : Tm := ⟨[], [(6, .i64)], []⟩
noncomputable def L_slices_CompareFunc_W_W_V_V_value_Order_s0 {ρ : Type} (n : Nat) : LOrc ρ := lorcNil
omit [Tabs] [QuietD Tryd.prog] [UDef] [UTabs] in
theorem s_slices_CompareFunc_W_W_V_V_value_Order_s0 {ρ : Type} (n : Nat) (rec : T_slices_CompareFunc_W_W_V_V_value_Order_s0.den → Option ρ) kx kr s : dStep Tryd.prog 39 TT M_slices_CompareFunc_W_W_V_V_value_Order (O_slices_CompareFunc_W_W_V_V_value_Order n) (L_slices_CompareFunc_W_W_V_V_value_Order_s0 n) dorcNil 0 (lbody 1000 C_slices_CompareFunc_W_W_V_V_value_Order 0) T_slices_CompareFunc_W_W_V_V_value_Order_s0 X_slices_CompareFunc_W_W_V_V_value_Order_s0 R_slices_CompareFunc_W_W_V_V_value_Order_s0 ⟨[], [], []⟩ rec kx kr s = slices_CompareFunc_W_W_V_V_value_Order_s0 n rec kx kr s := by kernel_rfl
noncomputable def L_slices_CompareFunc_W_W_V_V_value_Order {ρ : Type} (n : Nat) : LOrc ρ := lorcCons 0 (loopL 39 0 n T_slices_CompareFunc_W_W_V_V_value_Order_s0 X_slices_CompareFunc_W_W_V_V_value_Order_s0 R_slices_CompareFunc_W_W_V_V_value_Order_s0 ⟨[], [], []⟩ (slices_CompareFunc_W_W_V_V_value_Order_s0 n)) (lorcNil)
omit [Tabs] [QuietD Tryd.prog] [UDef] [UTabs] in
theorem e_slices_CompareFunc_W_W_V_V_value_Order (n : Nat) (x) : evF Tryd.prog 39 TT M_slices_CompareFunc_W_W_V_V_value_Order F_slices_CompareFunc_W_W_V_V_value_Order (O_slices_CompareFunc_W_W_V_V_value_Order n) (L_slices_CompareFunc_W_W_V_V_value_Order n) dorcNil ⟨[], [], []⟩ [.tmp 6] C_slices_CompareFunc_W_W_V_V_value_Order x = slices_CompareFunc_W_W_V_V_value_Order n x := by kernel_rfl
omit [UDef] [UTabs] in
theorem ok_slices_CompareFunc_W_W_V_V_value_Order (n : Nat) : Contract Tryd.prog 67 F_slices_CompareFunc_W_W_V_V_value_Order (slices_CompareFunc_W_W_V_V_value_Order n) :=
  Contract.of_ev (c := C_slices_CompareFunc_W_W_V_V_value_Order) (N := 39) Tryd.func67 (by kernel_rfl) (by kernel_rfl) (by kernel_rfl) (by kernel_rfl) (O_slices_CompareFunc_W_W_V_V_value_Order_ok n) dorcNil_ok (.of (l := [(0, (lbody 1000 C_slices_CompareFunc_W_W_V_V_value_Order 0))]) (by kernel_rfl) ⟨.head (loopL_sound (O_slices_CompareFunc_W_W_V_V_value_Order_ok n) dorcNil_ok (.of (l := []) (by kernel_rfl) trivial) (s_slices_CompareFunc_W_W_V_V_value_Order_s0 n)), trivial⟩) (e_slices_CompareFunc_W_W_V_V_value_Order n)

noncomputable def C_bag_Compare : Code := bodyOf Tryd.f34
noncomputable def M_bag_Compare : List (Nat × ArgM) := [(67, ⟨[], [], [], true⟩)]
instance : DfOk M_bag_Compare := .none rfl
noncomputable def O_bag_Compare {ρ : Type} (n : Nat) : Orc ρ := orcCons 67 F_slices_CompareFunc_W_W_V_V_value_Order (slices_CompareFunc_W_W_V_V_value_Order n) (orcNil)
omit [UDef] [UTabs] in
theorem O_bag_Compare_ok {ρ : Type} (n : Nat) : (O_bag_Compare n : Orc ρ).ok Tryd.prog := orcCons_ok (by kernel_rfl) (ok_slices_CompareFunc_W_W_V_V_value_Order n) (orcNil_ok)
noncomputable def L_bag_Compare {ρ : Type} (n : Nat) : LOrc ρ := lorcNil
omit [Tabs] [QuietD Tryd.prog] [UDef] [UTabs] in
theorem e_bag_Compare (n : Nat) (x) : evF Tryd.prog 8 TT M_bag_Compare F_bag_Compare (O_bag_Compare n) (L_bag_Compare n) dorcNil ⟨[], [], []⟩ [.tmp 4] C_bag_Compare x = bag_Compare n x := by kernel_rfl
omit [UDef] [UTabs] in
theorem ok_bag_Compare (n : Nat) : Contract Tryd.prog 34 F_bag_Compare (bag_Compare n) :=
  Contract.of_ev (c := C_bag_Compare) (N := 8) Tryd.func34 (by kernel_rfl) (by kernel_rfl) (by kernel_rfl) (by kernel_rfl) (O_bag_Compare_ok n) dorcNil_ok (.of (l := []) (by kernel_rfl) trivial) (e_bag_Compare n)

noncomputable def C_bag_Check : Code := bodyOf Tryd.f28
noncomputable def M_bag_Check : List (Nat × ArgM) := [(62, ⟨[], [], [], true⟩), (34, ⟨[], [], [], true⟩)]
instance : DfOk M_bag_Check := .none rfl
noncomputable def O_bag_Check {ρ : Type} (n : Nat) : Orc ρ := orcCons 62 F_value_Check (value_Check n) (orcCons 34 F_bag_Compare (bag_Compare n) (orcNil))
omit [UDef] in
theorem O_bag_Check_ok {ρ : Type} (n : Nat) : (O_bag_Check n : Orc ρ).ok Tryd.prog := orcCons_ok (by kernel_rfl) (ok_value_Check n) (orcCons_ok (by kernel_rfl) (ok_bag_Compare n) (orcNil_ok))
noncomputable def T_bag_Check_s2 : Tm := ⟨[(4, .ptr 4 0)], [(0, (.lst .cnt)), (3, .i64), (11, (.lst .cnt)), (12, .i64), (13, .i64), (23, (.lst .val)), (24, .i64), (25, .i64)], [(4, .box [.d .cnt])]⟩
noncomputable def X_bag_Check_s2 : Tm := ⟨[(4, .ptr 4 0)], [(0, (.lst .cnt)), (3, .i64), (11, (.lst .cnt)), (12, .i64), (13, .i64)], [(4, .box [.d .cnt])]⟩
noncomputable def R_bag_Check_s2 : Tm := ⟨[], [(2, .i64)], []⟩
noncomputable def L_bag_Check_s2 {ρ : Type} (n : Nat) : LOrc ρ := lorcNil
omit [Tabs] [QuietD Tryd.prog] [UDef] [UTabs] in
theorem s_bag_Check_s2 {ρ : Type} (n : Nat) (rec : T_bag_Check_s2.den → Option ρ) kx kr s : dStep Tryd.prog 63 TT M_bag_Check (O_bag_Check n) (L_bag_Check_s2 n) (evDraw Tryd.prog 63 TT M_bag_Check (O_bag_Check n)) 2 (lbody 0 (lbody 1000 C_bag_Check 0) 0) T_bag_Check_s2 X_bag_Check_s2 R_bag_Check_s2 ⟨[], [], []⟩ rec kx kr s = bag_Check_s2 n rec kx kr s := by kernel_rfl
noncomputable def T_bag_Check_s0 : Tm := ⟨[], [(0, (.lst .cnt)), (11, (.lst .cnt)), (12, .i64), (13, .i64)], []⟩
noncomputable def X_bag_Check_s0 : Tm := ⟨[], [], []⟩
noncomputable def R_bag_Check_s0 : Tm := ⟨[], [(2, .i64)], []⟩
noncomputable def L_bag_Check_s0 {ρ : Type} (n : Nat) : LOrc ρ := lorcCons 2 (loopL 63 2 n T_bag_Check_s2 X_bag_Check_s2 R_bag_Check_s2 ⟨[], [], []⟩ (bag_Check_s2 n)) (lorcNil)
omit [Tabs] [QuietD Tryd.prog] [UDef] [UTabs] in
theorem s_bag_Check_s0 {ρ : Type} (n : Nat) (rec : T_bag_Check_s0.den → Option ρ) kx kr s : dStep Tryd.prog 63 TT M_bag_Check (O_bag_Check n) (L_bag_Check_s0 n) (evDraw Tryd.prog 63 TT M_bag_Check (O_bag_Check n)) 0 (lbody 1000 C_bag_Check 0) T_bag_Check_s0 X_bag_Check_s0 R_bag_Check_s0 ⟨[], [], []⟩ rec kx kr s = bag_Check_s0 n rec kx kr s := by kernel_rfl
noncomputable def L_bag_Check {ρ : Type} (n : Nat) : LOrc ρ := lorcCons 0 (loopL 63 0 n T_bag_Check_s0 X_bag_Check_s0 R_bag_Check_s0 ⟨[], [], []⟩ (bag_Check_s0 n)) (lorcNil)
omit [Tabs] [QuietD Tryd.prog] [UDef] [UTabs] in
theorem e_bag_Check (n : Nat) (x) : evF Tryd.prog 63 TT M_bag_Check F_bag_Check (O_bag_Check n) (L_bag_Check n) (evDraw Tryd.prog 63 TT M_bag_Check (O_bag_Check n)) ⟨[], [], []⟩ [.tmp 2] C_bag_Check x = bag_Check n x := by kernel_rfl
omit [UDef] in
theorem ok_bag_Check (n : Nat) : Contract Tryd.prog 28 F_bag_Check (bag_Check n) :=
  Contract.of_ev (c := C_bag_Check) (N := 63) Tryd.func28 (by kernel_rfl) (by kernel_rfl) (by kernel_rfl) (by kernel_rfl) (O_bag_Check_ok n) (evDraw_ok (O_bag_Check_ok n) (by kernel_rfl)) (.of (l := [(0, (lbody 1000 C_bag_Check 0))]) (by kernel_rfl) ⟨.head (loopL_sound (O_bag_Check_ok n) (evDraw_ok (O_bag_Check_ok n) (by kernel_rfl)) (.of (l := [(2, (lbody 0 (lbody 1000 C_bag_Check 0) 0))]) (by kernel_rfl) ⟨.head (loopL_sound (O_bag_Check_ok n) (evDraw_ok (O_bag_Check_ok n) (by kernel_rfl)) (.of (l := []) (by kernel_rfl) trivial) (s_bag_Check_s2 n)), trivial⟩) (s_bag_Check_s0 n)), trivial⟩) (e_bag_Check n)

noncomputable def C_guest_Check : Code := bodyOf Tryd.f54
noncomputable def M_guest_Check : List (Nat × ArgM) := [(28, ⟨[], [], [], true⟩)]
instance : DfOk M_guest_Check := .none rfl
noncomputable def O_guest_Check {ρ : Type} (n : Nat) : Orc ρ := orcCons 28 F_bag_Check (bag_Check n) (orcNil)
omit [UDef] in
theorem O_guest_Check_ok {ρ : Type} (n : Nat) : (O_guest_Check n : Orc ρ).ok Tryd.prog := orcCons_ok (by kernel_rfl) (ok_bag_Check n) (orcNil_ok)
noncomputable def T_guest_Check_s0 : Tm := ⟨[(1, .ptr 1 0)], [(3, .i64), (16, (.lst (.lst .cnt))), (17, .i64), (18, .i64)], [(1, .box [.d .guest])]⟩
noncomputable def X_guest_Check_s0 : Tm := ⟨[(1, .ptr 1 0)], [(3, .i64)], [(1, .box [.d .guest])]⟩
noncomputable def R_guest_Check_s0 : Tm := ⟨[], [(2, .i64)], []⟩
noncomputable def L_guest_Check_s0 {ρ : Type} (n : Nat) : LOrc ρ := lorcNil
omit [Tabs] [QuietD Tryd.prog] [UDef] [UTabs] in
theorem s_guest_Check_s0 {ρ : Type} (n : Nat) (rec : T_guest_Check_s0.den → Option ρ) kx kr s : dStep Tryd.prog 43 TT M_guest_Check (O_guest_Check n) (L_guest_Check_s0 n) dorcNil 0 (lbody 1000 C_guest_Check 0) T_guest_Check_s0 X_guest_Check_s0 R_guest_Check_s0 ⟨[], [], []⟩ rec kx kr s = guest_Check_s0 n rec kx kr s := by kernel_rfl
noncomputable def L_guest_Check {ρ : Type} (n : Nat) : LOrc ρ := lorcCons 0 (loopL 43 0 n T_guest_Check_s0 X_guest_Check_s0 R_guest_Check_s0 ⟨[], [], []⟩ (guest_Check_s0 n)) (lorcNil)
omit [Tabs] [QuietD Tryd.prog] [UDef] [UTabs] in
theorem e_guest_Check (n : Nat) (x) : evF Tryd.prog 43 TT M_guest_Check F_guest_Check (O_guest_Check n) (L_guest_Check n) dorcNil ⟨[], [], []⟩ [.tmp 2] C_guest_Check x = guest_Check n x := by kernel_rfl
omit [UDef] in
theorem ok_guest_Check (n : Nat) : Contract Tryd.prog 54 F_guest_Check (guest_Check n) :=
  Contract.of_ev (c := C_guest_Check) (N := 43) Tryd.func54 (by kernel_rfl) (by kernel_rfl) (by kernel_rfl) (by kernel_rfl) (O_guest_Check_ok n) dorcNil_ok (.of (l := [(0, (lbody 1000 C_guest_Check 0))]) (by kernel_rfl) ⟨.head (loopL_sound (O_guest_Check_ok n) dorcNil_ok (.of (l := []) (by kernel_rfl) trivial) (s_guest_Check_s0 n)), trivial⟩) (e_guest_Check n)

noncomputable def F_guest_own : FnT := ⟨1, ⟨[], [(0, (.lst .cnt))], []⟩, [.v (.lst .cnt)], []⟩
noncomputable def F_bag_CopyRow : FnT := ⟨1, ⟨[], [(0, (.lst .val))], []⟩, [.v (.lst .val)], []⟩
noncomputable def F_value_Copy : FnT := ⟨1, ⟨[], [(0, .val)], []⟩, [.v .val], []⟩
noncomputable def C_value_Copy : Code := bodyOf Tryd.f79
noncomputable def M_value_Copy : List (Nat × ArgM) := []
instance : DfOk M_value_Copy := .none rfl
noncomputable def O_value_Copy {ρ : Type} (self_value_Copy : Ev.Val × Unit → Option (Ev.Val × Unit)) (n : Nat) : Orc ρ := orcCons 79 F_value_Copy (self_value_Copy) (orcNil)
omit [QuietD Tryd.prog] [UDef] [UTabs] in
theorem O_value_Copy_ok {ρ : Type} (self_value_Copy : Ev.Val × Unit → Option (Ev.Val × Unit)) (h_value_Copy : Contract Tryd.prog 79 F_value_Copy self_value_Copy) (n : Nat) : (O_value_Copy self_value_Copy n : Orc ρ).ok Tryd.prog := orcCons_ok (by kernel_rfl) (h_value_Copy) (orcNil_ok)
noncomputable def T_value_Copy_s0 : Tm := ⟨[(1, .ptr 1 0), (2, .ptr 2 0)], [(9, (.lst .val)), (10, .i64), (11, .i64)], [(1, .box [.d .i64, .d .i64, .d .str, .ref (.own 300043)]), (2, .box [.d .val]), (300043, .arr 40 .val)]⟩
noncomputable def X_value_Copy_s0 : Tm := ⟨[(1, .ptr 1 0), (2, .ptr 2 0)], [], [(1, .box [.d .i64, .d .i64, .d .str, .ref (.own 300043)]), (2, .box [.d .val]), (300043, .arr 40 .val)]⟩
noncomputable def R_value_Copy_s0 : Tm := ⟨[], [], []⟩
noncomputable def L_value_Copy_s0 {ρ : Type} (self_value_Copy : Ev.Val × Unit → Option (Ev.Val × Unit)) (n : Nat) : LOrc ρ := lorcNil
omit [Tabs] [QuietD Tryd.prog] [UDef] [UTabs] in
theorem s_value_Copy_s0 {ρ : Type} (self_value_Copy : Ev.Val × Unit → Option (Ev.Val × Unit)) (n : Nat) (rec : T_value_Copy_s0.den → Option ρ) kx kr s : dStep Tryd.prog 24 TT M_value_Copy (O_value_Copy self_value_Copy n) (L_value_Copy_s0 self_value_Copy n) (evDraw Tryd.prog 24 TT M_value_Copy (O_value_Copy self_value_Copy n)) 0 (lbody 1000 C_value_Copy 0) T_value_Copy_s0 X_value_Copy_s0 R_value_Copy_s0 ⟨[], [], [(1, 3, 300043, 40, 4)]⟩ rec kx kr s = value_Copy_s0 self_value_Copy n rec kx kr s := by kernel_rfl
noncomputable def L_value_Copy {ρ : Type} (self_value_Copy : Ev.Val × Unit → Option (Ev.Val × Unit)) (n : Nat) : LOrc ρ := lorcCons 0 (loopL 24 0 n T_value_Copy_s0 X_value_Copy_s0 R_value_Copy_s0 ⟨[], [], [(1, 3, 300043, 40, 4)]⟩ (value_Copy_s0 self_value_Copy n)) (lorcNil)
omit [Tabs] [QuietD Tryd.prog] [UDef] [UTabs] in
theorem e_value_Copy (self_value_Copy : Ev.Val × Unit → Option (Ev.Val × Unit)) (n : Nat) (x) : evF Tryd.prog 24 TT M_value_Copy F_value_Copy (O_value_Copy self_value_Copy n) (L_value_Copy self_value_Copy n) (evDraw Tryd.prog 24 TT M_value_Copy (O_value_Copy self_value_Copy n)) ⟨[], [], []⟩ [.cell 2 40] C_value_Copy x = value_Copy_b self_value_Copy n x := by kernel_rfl
omit [UDef] [UTabs] in
theorem okb_value_Copy (self_value_Copy : Ev.Val × Unit → Option (Ev.Val × Unit)) (h_value_Copy : Contract Tryd.prog 79 F_value_Copy self_value_Copy) (n : Nat) : Contract Tryd.prog 79 F_value_Copy (value_Copy_b self_value_Copy n) :=
  Contract.of_ev (c := C_value_Copy) (N := 24) Tryd.func79 (by kernel_rfl) (by kernel_rfl) (by kernel_rfl) (by kernel_rfl) (O_value_Copy_ok self_value_Copy h_value_Copy n) (evDraw_ok (O_value_Copy_ok self_value_Copy h_value_Copy n) (by kernel_rfl)) (.of (l := [(0, (lbody 1000 C_value_Copy 0))]) (by kernel_rfl) ⟨.head (loopL_sound (O_value_Copy_ok self_value_Copy h_value_Copy n) (evDraw_ok (O_value_Copy_ok self_value_Copy h_value_Copy n) (by kernel_rfl)) (.of (l := []) (by kernel_rfl) trivial) (s_value_Copy_s0 self_value_Copy n)), trivial⟩) (e_value_Copy self_value_Copy n)
omit [UDef] [UTabs] in
theorem ok_value_Copy : ∀ n, Contract Tryd.prog 79 F_value_Copy (value_Copy n)
  | 0 => fun _ _ h => by cases h
  | n + 1 => okb_value_Copy _ (ok_value_Copy n) n

noncomputable def C_bag_CopyRow : Code := bodyOf Tryd.f51
noncomputable def M_bag_CopyRow : List (Nat × ArgM) := []
instance : DfOk M_bag_CopyRow := .none rfl
noncomputable def O_bag_CopyRow {ρ : Type} (n : Nat) : Orc ρ := orcCons 79 F_value_Copy (value_Copy n) (orcNil)
omit [UDef] [UTabs] in
theorem O_bag_CopyRow_ok {ρ : Type} (n : Nat) : (O_bag_CopyRow n : Orc ρ).ok Tryd.prog := orcCons_ok (by kernel_rfl) (ok_value_Copy n) (orcNil_ok)
noncomputable def T_bag_CopyRow_s0 : Tm := ⟨[(3, .own 3)], [(6, (.lst .val)), (7, .i64), (8, .i64)], [(3, .arr 40 .val)]⟩
noncomputable def X_bag_CopyRow_s0 : Tm := ⟨[(3, .own 3)], [], [(3, .arr 40 .val)]⟩
noncomputable def R_bag_CopyRow_s0 : Tm := ⟨[], [], []⟩
noncomputable def L_bag_CopyRow_s0 {ρ : Type} (n : Nat) : LOrc ρ := lorcNil
omit [Tabs] [QuietD Tryd.prog] [UDef] [UTabs] in
theorem s_bag_CopyRow_s0 {ρ : Type} (n : Nat) (rec : T_bag_CopyRow_s0.den → Option ρ) kx kr s : dStep Tryd.prog 19 TT M_bag_CopyRow (O_bag_CopyRow n) (L_bag_CopyRow_s0 n) dorcNil 0 (lbody 1000 C_bag_CopyRow 0) T_bag_CopyRow_s0 X_bag_CopyRow_s0 R_bag_CopyRow_s0 ⟨[], [(3, 3, 40, 4)], []⟩ rec kx kr s = bag_CopyRow_s0 n rec kx kr s := by kernel_rfl
noncomputable def L_bag_CopyRow {ρ : Type} (n : Nat) : LOrc ρ := lorcCons 0 (loopL 19 0 n T_bag_CopyRow_s0 X_bag_CopyRow_s0 R_bag_CopyRow_s0 ⟨[], [(3, 3, 40, 4)], []⟩ (bag_CopyRow_s0 n)) (lorcNil)
omit [Tabs] [QuietD Tryd.prog] [UDef] [UTabs] in
theorem e_bag_CopyRow (n : Nat) (x) : evF Tryd.prog 19 TT M_bag_CopyRow F_bag_CopyRow (O_bag_CopyRow n) (L_bag_CopyRow n) dorcNil ⟨[], [], []⟩ [.tmp 2] C_bag_CopyRow x = bag_CopyRow n x := by kernel_rfl
omit [UDef] [UTabs] in
theorem ok_bag_CopyRow (n : Nat) : Contract Tryd.prog 51 F_bag_CopyRow (bag_CopyRow n) :=
  Contract.of_ev (c := C_bag_CopyRow) (N := 19) Tryd.func51 (by kernel_rfl) (by kernel_rfl) (by kernel_rfl) (by kernel_rfl) (O_bag_CopyRow_ok n) dorcNil_ok (.of (l := [(0, (lbody 1000 C_bag_CopyRow 0))]) (by kernel_rfl) ⟨.head (loopL_sound (O_bag_CopyRow_ok n) dorcNil_ok (.of (l := []) (by kernel_rfl) trivial) (s_bag_CopyRow_s0 n)), trivial⟩) (e_bag_CopyRow n)

noncomputable def C_guest_own : Code := bodyOf Tryd.f55
noncomputable def M_guest_own : List (Nat × ArgM) := []
instance : DfOk M_guest_own := .none rfl
noncomputable def O_guest_own {ρ : Type} (n : Nat) : Orc ρ := orcCons 51 F_bag_CopyRow (bag_CopyRow n) (orcNil)
omit [UDef] [UTabs] in
theorem O_guest_own_ok {ρ : Type} (n : Nat) : (O_guest_own n : Orc ρ).ok Tryd.prog := orcCons_ok (by kernel_rfl) (ok_bag_CopyRow n) (orcNil_ok)
noncomputable def T_guest_own_s0 : Tm := ⟨[(3, .own 3)], [(6, (.lst .cnt)), (7, .i64), (8, .i64)], [(3, .arr 32 .cnt)]⟩
noncomputable def X_guest_own_s0 : Tm := ⟨[(3, .own 3)], [], [(3, .arr 32 .cnt)]⟩
noncomputable def R_guest_own_s0 : Tm := ⟨[], [], []⟩
noncomputable def L_guest_own_s0 {ρ : Type} (n : Nat) : LOrc ρ := lorcNil
omit [Tabs] [QuietD Tryd.prog] [UDef] [UTabs] in
theorem s_guest_own_s0 {ρ : Type} (n : Nat) (rec : T_guest_own_s0.den → Option ρ) kx kr s : dStep Tryd.prog 23 TT M_guest_own (O_guest_own n) (L_guest_own_s0 n) (evDraw Tryd.prog 23 TT M_guest_own (O_guest_own n)) 0 (lbody 1000 C_guest_own 0) T_guest_own_s0 X_guest_own_s0 R_guest_own_s0 ⟨[], [(3, 3, 32, 2)], []⟩ rec kx kr s = guest_own_s0 n rec kx kr s := by kernel_rfl
noncomputable def L_guest_own {ρ : Type} (n : Nat) : LOrc ρ := lorcCons 0 (loopL 23 0 n T_guest_own_s0 X_guest_own_s0 R_guest_own_s0 ⟨[], [(3, 3, 32, 2)], []⟩ (guest_own_s0 n)) (lorcNil)
omit [Tabs] [QuietD Tryd.prog] [UDef] [UTabs] in
theorem e_guest_own (n : Nat) (x) : evF Tryd.prog 23 TT M_guest_own F_guest_own (O_guest_own n) (L_guest_own n) (evDraw Tryd.prog 23 TT M_guest_own (O_guest_own n)) ⟨[], [], []⟩ [.tmp 2] C_guest_own x = guest_own n x := by kernel_rfl
omit [UDef] [UTabs] in
theorem ok_guest_own (n : Nat) : Contract Tryd.prog 55 F_guest_own (guest_own n) :=
  Contract.of_ev (c := C_guest_own) (N := 23) Tryd.func55 (by kernel_rfl) (by kernel_rfl) (by kernel_rfl) (by kernel_rfl) (O_guest_own_ok n) (evDraw_ok (O_guest_own_ok n) (by kernel_rfl)) (.of (l := [(0, (lbody 1000 C_guest_own 0))]) (by kernel_rfl) ⟨.head (loopL_sound (O_guest_own_ok n) (evDraw_ok (O_guest_own_ok n) (by kernel_rfl)) (.of (l := []) (by kernel_rfl) trivial) (s_guest_own_s0 n)), trivial⟩) (e_guest_own n)

noncomputable def F_slices_Clone_C_C : FnT := ⟨1, ⟨[], [(0, (.lst .cnt))], []⟩, [.v (.lst .cnt)], []⟩
noncomputable def C_slices_Clone_C_C : Code := bodyOf Tryd.f22
noncomputable def M_slices_Clone_C_C : List (Nat × ArgM) := []
instance : DfOk M_slices_Clone_C_C := .none rfl
noncomputable def O_slices_Clone_C_C {ρ : Type} : Orc ρ := orcNil
omit [QuietD Tryd.prog] [UDef] [UTabs] in
theorem O_slices_Clone_C_C_ok {ρ : Type} : (O_slices_Clone_C_C : Orc ρ).ok Tryd.prog := orcNil_ok
noncomputable def L_slices_Clone_C_C {ρ : Type} : LOrc ρ := lorcNil
omit [Tabs] [QuietD Tryd.prog] [UDef] [UTabs] in
theorem e_slices_Clone_C_C (x) : evF Tryd.prog 8 TT M_slices_Clone_C_C F_slices_Clone_C_C (O_slices_Clone_C_C) (L_slices_Clone_C_C) dorcNil ⟨[], [], []⟩ [.tmp 2] C_slices_Clone_C_C x = slices_Clone_C_C x := by kernel_rfl
omit [UDef] [UTabs] in
theorem ok_slices_Clone_C_C : Contract Tryd.prog 22 F_slices_Clone_C_C (slices_Clone_C_C) :=
  Contract.of_ev (c := C_slices_Clone_C_C) (N := 8) Tryd.func22 (by kernel_rfl) (by kernel_rfl) (by kernel_rfl) (by kernel_rfl) (O_slices_Clone_C_C_ok) dorcNil_ok (.of (l := []) (by kernel_rfl) trivial) (e_slices_Clone_C_C)

noncomputable def F_bag_Gather : FnT := ⟨1, ⟨[], [(0, (.lst .cnt))], []⟩, [.v (.lst .cnt)], []⟩
noncomputable def F_slices_Clone_C_C_own : FnT := ⟨1, ⟨[], [(0, (.lst .cnt))], []⟩, [.ref (.own 5)], [(5, .arr 32 .cnt)]⟩
noncomputable def C_slices_Clone_C_C_own : Code := bodyOf Tryd.f22
noncomputable def M_slices_Clone_C_C_own : List (Nat × ArgM) := []
instance : DfOk M_slices_Clone_C_C_own := .none rfl
noncomputable def O_slices_Clone_C_C_own {ρ : Type} : Orc ρ := orcNil
omit [QuietD Tryd.prog] [UDef] [UTabs] in
theorem O_slices_Clone_C_C_own_ok {ρ : Type} : (O_slices_Clone_C_C_own : Orc ρ).ok Tryd.prog := orcNil_ok
noncomputable def L_slices_Clone_C_C_own {ρ : Type} : LOrc ρ := lorcNil
omit [Tabs] [QuietD Tryd.prog] [UDef] [UTabs] in
theorem e_slices_Clone_C_C_own (x) : evF Tryd.prog 8 TT M_slices_Clone_C_C_own F_slices_Clone_C_C_own (O_slices_Clone_C_C_own) (L_slices_Clone_C_C_own) dorcNil ⟨[], [(2, 5, 32, 2)], []⟩ [.tmp 2] C_slices_Clone_C_C_own x = slices_Clone_C_C_own x := by kernel_rfl
omit [UDef] [UTabs] in
theorem ok_slices_Clone_C_C_own : Contract Tryd.prog 22 F_slices_Clone_C_C_own (slices_Clone_C_C_own) :=
  Contract.of_ev (c := C_slices_Clone_C_C_own) (N := 8) Tryd.func22 (by kernel_rfl) (by kernel_rfl) (by kernel_rfl) (by kernel_rfl) (O_slices_Clone_C_C_own_ok) dorcNil_ok (.of (l := []) (by kernel_rfl) trivial) (e_slices_Clone_C_C_own)

noncomputable def F_slices_SortStableFunc_C_C_bag_Gather_1 : FnT := ⟨2, ⟨[(0, .own 2000000), (1, .fn 59)], [], [(2000000, .arr 32 .cnt)]⟩, [], [(2000000, .arr 32 .cnt)]⟩
noncomputable def F_slices_stableCF_C_bag_Gather_1 : FnT := ⟨3, ⟨[(0, .own 2000000), (2, .fn 59)], [(1, .i64)], [(2000000, .arr 32 .cnt)]⟩, [], [(2000000, .arr 32 .cnt)]⟩
noncomputable def F_slices_insertionSortCF_C_bag_Gather_1 : FnT := ⟨4, ⟨[(0, .own 2000000), (3, .fn 59)], [(1, .i64), (2, .i64)], [(2000000, .arr 32 .cnt)]⟩, [], [(2000000, .arr 32 .cnt)]⟩
noncomputable def F_bag_Gather_1 : FnT := ⟨2, ⟨[], [(0, .cnt), (1, .cnt)], []⟩, [.v .i64], []⟩
noncomputable def C_bag_Gather_1 : Code := bodyOf Tryd.f59
noncomputable def M_bag_Gather_1 : List (Nat × ArgM) := [(34, ⟨[], [], [], true⟩)]
instance : DfOk M_bag_Gather_1 := .none rfl
noncomputable def O_bag_Gather_1 {ρ : Type} (n : Nat) : Orc ρ := orcCons 34 F_bag_Compare (bag_Compare n) (orcNil)
omit [UDef] [UTabs] in
theorem O_bag_Gather_1_ok {ρ : Type} (n : Nat) : (O_bag_Gather_1 n : Orc ρ).ok Tryd.prog := orcCons_ok (by kernel_rfl) (ok_bag_Compare n) (orcNil_ok)
noncomputable def L_bag_Gather_1 {ρ : Type} (n : Nat) : LOrc ρ := lorcNil
omit [Tabs] [QuietD Tryd.prog] [UDef] [UTabs] in
theorem e_bag_Gather_1 (n : Nat) (x) : evF Tryd.prog 10 TT M_bag_Gather_1 F_bag_Gather_1 (O_bag_Gather_1 n) (L_bag_Gather_1 n) dorcNil ⟨[], [], []⟩ [.tmp 4] C_bag_Gather_1 x = bag_Gather_1 n x := by kernel_rfl
omit [UDef] [UTabs] in
theorem ok_bag_Gather_1 (n : Nat) : Contract Tryd.prog 59 F_bag_Gather_1 (bag_Gather_1 n) :=
  Contract.of_ev (c := C_bag_Gather_1) (N := 10) Tryd.func59 (by kernel_rfl) (by kernel_rfl) (by kernel_rfl) (by kernel_rfl) (O_bag_Gather_1_ok n) dorcNil_ok (.of (l := []) (by kernel_rfl) trivial) (e_bag_Gather_1 n)

noncomputable def C_slices_insertionSortCF_C_bag_Gather_1 : Code := bodyOf Tryd.f107
noncomputable def M_slices_insertionSortCF_C_bag_Gather_1 : List (Nat × ArgM) := [(999999999, ⟨[1], [], [], false⟩), (59, ⟨[], [], [], true⟩)]
instance : DfOk M_slices_insertionSortCF_C_bag_Gather_1 := .none rfl
noncomputable def O_slices_insertionSortCF_C_bag_Gather_1 {ρ : Type} (n : Nat) : Orc ρ := orcCons 59 F_bag_Gather_1 (bag_Gather_1 n) (orcNil)
omit [UDef] [UTabs] in
theorem O_slices_insertionSortCF_C_bag_Gather_1_ok {ρ : Type} (n : Nat) : (O_slices_insertionSortCF_C_bag_Gather_1 n : Orc ρ).ok Tryd.prog := orcCons_ok (by kernel_rfl) (ok_bag_Gather_1 n) (orcNil_ok)
noncomputable def T_slices_insertionSortCF_C_bag_Gather_1_s2 : Tm := ⟨[(0, .own 2000000), (3, .fn 59)], [(1, .i64), (2, .i64), (8, .i64), (9, .i64)], [(2000000, .arr 32 .cnt)]⟩
noncomputable def X_slices_insertionSortCF_C_bag_Gather_1_s2 : Tm := ⟨[(0, .own 2000000), (3, .fn 59)], [(1, .i64), (2, .i64), (8, .i64)], [(2000000, .arr 32 .cnt)]⟩
noncomputable def R_slices_insertionSortCF_C_bag_Gather_1_s2 : Tm := ⟨[], [], []⟩
noncomputable def L_slices_insertionSortCF_C_bag_Gather_1_s2 {ρ : Type} (n : Nat) : LOrc ρ := lorcNil
omit [Tabs] [QuietD Tryd.prog] [UDef] [UTabs] in
theorem s_slices_insertionSortCF_C_bag_Gather_1_s2 {ρ : Type} (n : Nat) (rec : T_slices_insertionSortCF_C_bag_Gather_1_s2.den → Option ρ) kx kr s : dStep Tryd.prog 53 TT M_slices_insertionSortCF_C_bag_Gather_1 (O_slices_insertionSortCF_C_bag_Gather_1 n) (L_slices_insertionSortCF_C_bag_Gather_1_s2 n) (evDraw Tryd.prog 53 TT M_slices_insertionSortCF_C_bag_Gather_1 (O_slices_insertionSortCF_C_bag_Gather_1 n)) 2 (lbody 0 (lbody 1000 C_slices_insertionSortCF_C_bag_Gather_1 0) 0) T_slices_insertionSortCF_C_bag_Gather_1_s2 X_slices_insertionSortCF_C_bag_Gather_1_s2 R_slices_insertionSortCF_C_bag_Gather_1_s2 ⟨[], [], []⟩ rec kx kr s = slices_insertionSortCF_C_bag_Gather_1_s2 n rec kx kr s := by kernel_rfl
noncomputable def T_slices_insertionSortCF_C_bag_Gather_1_s0 : Tm := ⟨[(0, .own 2000000), (3, .fn 59)], [(1, .i64), (2, .i64), (8, .i64)], [(2000000, .arr 32 .cnt)]⟩
noncomputable def X_slices_insertionSortCF_C_bag_Gather_1_s0 : Tm := ⟨[], [], [(2000000, .arr 32 .cnt)]⟩
noncomputable def R_slices_insertionSortCF_C_bag_Gather_1_s0 : Tm := ⟨[], [], []⟩
noncomputable def L_slices_insertionSortCF_C_bag_Gather_1_s0 {ρ : Type} (n : Nat) : LOrc ρ := lorcCons 2 (loopL 53 2 n T_slices_insertionSortCF_C_bag_Gather_1_s2 X_slices_insertionSortCF_C_bag_Gather_1_s2 R_slices_insertionSortCF_C_bag_Gather_1_s2 ⟨[], [], []⟩ (slices_insertionSortCF_C_bag_Gather_1_s2 n)) (lorcNil)
omit [Tabs] [QuietD Tryd.prog] [UDef] [UTabs] in
theorem s_slices_insertionSortCF_C_bag_Gather_1_s0 {ρ : Type} (n : Nat) (rec : T_slices_insertionSortCF_C_bag_Gather_1_s0.den → Option ρ) kx kr s : dStep Tryd.prog 53 TT M_slices_insertionSortCF_C_bag_Gather_1 (O_slices_insertionSortCF_C_bag_Gather_1 n) (L_slices_insertionSortCF_C_bag_Gather_1_s0 n) (evDraw Tryd.prog 53 TT M_slices_insertionSortCF_C_bag_Gather_1 (O_slices_insertionSortCF_C_bag_Gather_1 n)) 0 (lbody 1000 C_slices_insertionSortCF_C_bag_Gather_1 0) T_slices_insertionSortCF_C_bag_Gather_1_s0 X_slices_insertionSortCF_C_bag_Gather_1_s0 R_slices_insertionSortCF_C_bag_Gather_1_s0 ⟨[], [], []⟩ rec kx kr s = slices_insertionSortCF_C_bag_Gather_1_s0 n rec kx kr s := by kernel_rfl
noncomputable def L_slices_insertionSortCF_C_bag_Gather_1 {ρ : Type} (n : Nat) : LOrc ρ := lorcCons 0 (loopL 53 0 n T_slices_insertionSortCF_C_bag_Gather_1_s0 X_slices_insertionSortCF_C_bag_Gather_1_s0 R_slices_insertionSortCF_C_bag_Gather_1_s0 ⟨[], [], []⟩ (slices_insertionSortCF_C_bag_Gather_1_s0 n)) (lorcNil)
omit [Tabs] [QuietD Tryd.prog] [UDef] [UTabs] in
theorem e_slices_insertionSortCF_C_bag_Gather_1 (n : Nat) (x) : evF Tryd.prog 53 TT M_slices_insertionSortCF_C_bag_Gather_1 F_slices_insertionSortCF_C_bag_Gather_1 (O_slices_insertionSortCF_C_bag_Gather_1 n) (L_slices_insertionSortCF_C_bag_Gather_1 n) (evDraw Tryd.prog 53 TT M_slices_insertionSortCF_C_bag_Gather_1 (O_slices_insertionSortCF_C_bag_Gather_1 n)) ⟨[], [], []⟩ [] C_slices_insertionSortCF_C_bag_Gather_1 x = slices_insertionSortCF_C_bag_Gather_1 n x := by kernel_rfl
omit [UDef] [UTabs] in
theorem ok_slices_insertionSortCF_C_bag_Gather_1 (n : Nat) : Contract Tryd.prog 107 F_slices_insertionSortCF_C_bag_Gather_1 (slices_insertionSortCF_C_bag_Gather_1 n) :=
  Contract.of_ev (c := C_slices_insertionSortCF_C_bag_Gather_1) (N := 53) Tryd.func107 (by kernel_rfl) (by kernel_rfl) (by kernel_rfl) (by kernel_rfl) (O_slices_insertionSortCF_C_bag_Gather_1_ok n) (evDraw_ok (O_slices_insertionSortCF_C_bag_Gather_1_ok n) (by kernel_rfl)) (.of (l := [(0, (lbody 1000 C_slices_insertionSortCF_C_bag_Gather_1 0))]) (by kernel_rfl) ⟨.head (loopL_sound (O_slices_insertionSortCF_C_bag_Gather_1_ok n) (evDraw_ok (O_slices_insertionSortCF_C_bag_Gather_1_ok n) (by kernel_rfl)) (.of (l := [(2, (lbody 0 (lbody 1000 C_slices_insertionSortCF_C_bag_Gather_1 0) 0))]) (by kernel_rfl) ⟨.head (loopL_sound (O_slices_insertionSortCF_C_bag_Gather_1_ok n) (evDraw_ok (O_slices_insertionSortCF_C_bag_Gather_1_ok n) (by kernel_rfl)) (.of (l := []) (by kernel_rfl) trivial) (s_slices_insertionSortCF_C_bag_Gather_1_s2 n)), trivial⟩) (s_slices_insertionSortCF_C_bag_Gather_1_s0 n)), trivial⟩) (e_slices_insertionSortCF_C_bag_Gather_1 n)

noncomputable def F_slices_symMergeCF_C_bag_Gather_1 : FnT := ⟨5, ⟨[(0, .own 2000000), (4, .fn 59)], [(1, .i64), (2, .i64), (3, .i64)], [(2000000, .arr 32 .cnt)]⟩, [], [(2000000, .arr 32 .cnt)]⟩
noncomputable def F_slices_rotateCF_C_bag_Gather_1 : FnT := ⟨5, ⟨[(0, .own 2000000), (4, .fn 59)], [(1, .i64), (2, .i64), (3, .i64)], [(2000000, .arr 32 .cnt)]⟩, [], [(2000000, .arr 32 .cnt)]⟩
noncomputable def F_slices_swapRangeCF_C_bag_Gather_1 : FnT := ⟨5, ⟨[(0, .own 2000000), (4, .fn 59)], [(1, .i64), (2, .i64), (3, .i64)], [(2000000, .arr 32 .cnt)]⟩, [], [(2000000, .arr 32 .cnt)]⟩
noncomputable def C_slices_swapRangeCF_C_bag_Gather_1 : Code := bodyOf Tryd.f114
noncomputable def M_slices_swapRangeCF_C_bag_Gather_1 : List (Nat × ArgM) := [(999999999, ⟨[1], [], [], false⟩)]
instance : DfOk M_slices_swapRangeCF_C_bag_Gather_1 := .none rfl
noncomputable def O_slices_swapRangeCF_C_bag_Gather_1 {ρ : Type} (n : Nat) : Orc ρ := orcNil
omit [QuietD Tryd.prog] [UDef] [UTabs] in
theorem O_slices_swapRangeCF_C_bag_Gather_1_ok {ρ : Type} (n : Nat) : (O_slices_swapRangeCF_C_bag_Gather_1 n : Orc ρ).ok Tryd.prog := orcNil_ok
noncomputable def T_slices_swapRangeCF_C_bag_Gather_1_s0 : Tm := ⟨[(0, .own 2000000)], [(1, .i64), (2, .i64), (3, .i64), (10, .i64)], [(2000000, .arr 32 .cnt)]⟩
noncomputable def X_slices_swapRangeCF_C_bag_Gather_1_s0 : Tm := ⟨[], [], [(2000000, .arr 32 .cnt)]⟩
noncomputable def R_slices_swapRangeCF_C_bag_Gather_1_s0 : Tm := ⟨[], [], []⟩
noncomputable def L_slices_swapRangeCF_C_bag_Gather_1_s0 {ρ : Type} (n : Nat) : LOrc ρ := lorcNil
omit [Tabs] [QuietD Tryd.prog] [UDef] [UTabs] in
theorem s_slices_swapRangeCF_C_bag_Gather_1_s0 {ρ : Type} (n : Nat) (rec : T_slices_swapRangeCF_C_bag_Gather_1_s0.den → Option ρ) kx kr s : dStep Tryd.prog 38 TT M_slices_swapRangeCF_C_bag_Gather_1 (O_slices_swapRangeCF_C_bag_Gather_1 n) (L_slices_swapRangeCF_C_bag_Gather_1_s0 n) (evDraw Tryd.prog 38 TT M_slices_swapRangeCF_C_bag_Gather_1 (O_slices_swapRangeCF_C_bag_Gather_1 n)) 0 (lbody 1000 C_slices_swapRangeCF_C_bag_Gather_1 0) T_slices_swapRangeCF_C_bag_Gather_1_s0 X_slices_swapRangeCF_C_bag_Gather_1_s0 R_slices_swapRangeCF_C_bag_Gather_1_s0 ⟨[], [], []⟩ rec kx kr s = slices_swapRangeCF_C_bag_Gather_1_s0 n rec kx kr s := by kernel_rfl
noncomputable def L_slices_swapRangeCF_C_bag_Gather_1 {ρ : Type} (n : Nat) : LOrc ρ := lorcCons 0 (loopL 38 0 n T_slices_swapRangeCF_C_bag_Gather_1_s0 X_slices_swapRangeCF_C_bag_Gather_1_s0 R_slices_swapRangeCF_C_bag_Gather_1_s0 ⟨[], [], []⟩ (slices_swapRangeCF_C_bag_Gather_1_s0 n)) (lorcNil)
omit [Tabs] [QuietD Tryd.prog] [UDef] [UTabs] in
theorem e_slices_swapRangeCF_C_bag_Gather_1 (n : Nat) (x) : evF Tryd.prog 38 TT M_slices_swapRangeCF_C_bag_Gather_1 F_slices_swapRangeCF_C_bag_Gather_1 (O_slices_swapRangeCF_C_bag_Gather_1 n) (L_slices_swapRangeCF_C_bag_Gather_1 n) (evDraw Tryd.prog 38 TT M_slices_swapRangeCF_C_bag_Gather_1 (O_slices_swapRangeCF_C_bag_Gather_1 n)) ⟨[], [], []⟩ [] C_slices_swapRangeCF_C_bag_Gather_1 x = slices_swapRangeCF_C_bag_Gather_1 n x := by kernel_rfl
omit [UDef] [UTabs] in
theorem ok_slices_swapRangeCF_C_bag_Gather_1 (n : Nat) : Contract Tryd.prog 114 F_slices_swapRangeCF_C_bag_Gather_1 (slices_swapRangeCF_C_bag_Gather_1 n) :=
  Contract.of_ev (c := C_slices_swapRangeCF_C_bag_Gather_1) (N := 38) Tryd.func114 (by kernel_rfl) (by kernel_rfl) (by kernel_rfl) (by kernel_rfl) (O_slices_swapRangeCF_C_bag_Gather_1_ok n) (evDraw_ok (O_slices_swapRangeCF_C_bag_Gather_1_ok n) (by kernel_rfl)) (.of (l := [(0, (lbody 1000 C_slices_swapRangeCF_C_bag_Gather_1 0))]) (by kernel_rfl) ⟨.head (loopL_sound (O_slices_swapRangeCF_C_bag_Gather_1_ok n) (evDraw_ok (O_slices_swapRangeCF_C_bag_Gather_1_ok n) (by kernel_rfl)) (.of (l := []) (by kernel_rfl) trivial) (s_slices_swapRangeCF_C_bag_Gather_1_s0 n)), trivial⟩) (e_slices_swapRangeCF_C_bag_Gather_1 n)

noncomputable def C_slices_rotateCF_C_bag_Gather_1 : Code := bodyOf Tryd.f112
noncomputable def M_slices_rotateCF_C_bag_Gather_1 : List (Nat × ArgM) := [(999999999, ⟨[1], [], [], false⟩), (114, ⟨[1000], [], [], false⟩)]
instance : DfOk M_slices_rotateCF_C_bag_Gather_1 := .none rfl
noncomputable def O_slices_rotateCF_C_bag_Gather_1 {ρ : Type} (n : Nat) : Orc ρ := orcCons 114 F_slices_swapRangeCF_C_bag_Gather_1 (slices_swapRangeCF_C_bag_Gather_1 n) (orcNil)
omit [UDef] [UTabs] in
theorem O_slices_rotateCF_C_bag_Gather_1_ok {ρ : Type} (n : Nat) : (O_slices_rotateCF_C_bag_Gather_1 n : Orc ρ).ok Tryd.prog := orcCons_ok (by kernel_rfl) (ok_slices_swapRangeCF_C_bag_Gather_1 n) (orcNil_ok)
noncomputable def T_slices_rotateCF_C_bag_Gather_1_s0 : Tm := ⟨[(0, .own 2000000), (4, .fn 59)], [(2, .i64), (10, .i64), (11, .i64)], [(2000000, .arr 32 .cnt)]⟩
noncomputable def X_slices_rotateCF_C_bag_Gather_1_s0 : Tm := ⟨[(0, .own 2000000), (4, .fn 59)], [(2, .i64), (10, .i64)], [(2000000, .arr 32 .cnt)]⟩
noncomputable def R_slices_rotateCF_C_bag_Gather_1_s0 : Tm := ⟨[], [], []⟩
noncomputable def L_slices_rotateCF_C_bag_Gather_1_s0 {ρ : Type} (n : Nat) : LOrc ρ := lorcNil
omit [Tabs] [QuietD Tryd.prog] [UDef] [UTabs] in
theorem s_slices_rotateCF_C_bag_Gather_1_s0 {ρ : Type} (n : Nat) (rec : T_slices_rotateCF_C_bag_Gather_1_s0.den → Option ρ) kx kr s : dStep Tryd.prog 58 TT M_slices_rotateCF_C_bag_Gather_1 (O_slices_rotateCF_C_bag_Gather_1 n) (L_slices_rotateCF_C_bag_Gather_1_s0 n) dorcNil 0 (lbody 1000 C_slices_rotateCF_C_bag_Gather_1 0) T_slices_rotateCF_C_bag_Gather_1_s0 X_slices_rotateCF_C_bag_Gather_1_s0 R_slices_rotateCF_C_bag_Gather_1_s0 ⟨[], [], []⟩ rec kx kr s = slices_rotateCF_C_bag_Gather_1_s0 n rec kx kr s := by kernel_rfl
noncomputable def L_slices_rotateCF_C_bag_Gather_1 {ρ : Type} (n : Nat) : LOrc ρ := lorcCons 0 (loopL 58 0 n T_slices_rotateCF_C_bag_Gather_1_s0 X_slices_rotateCF_C_bag_Gather_1_s0 R_slices_rotateCF_C_bag_Gather_1_s0 ⟨[], [], []⟩ (slices_rotateCF_C_bag_Gather_1_s0 n)) (lorcNil)
omit [Tabs] [QuietD Tryd.prog] [UDef] [UTabs] in
theorem e_slices_rotateCF_C_bag_Gather_1 (n : Nat) (x) : evF Tryd.prog 58 TT M_slices_rotateCF_C_bag_Gather_1 F_slices_rotateCF_C_bag_Gather_1 (O_slices_rotateCF_C_bag_Gather_1 n) (L_slices_rotateCF_C_bag_Gather_1 n) dorcNil ⟨[], [], []⟩ [] C_slices_rotateCF_C_bag_Gather_1 x = slices_rotateCF_C_bag_Gather_1 n x := by kernel_rfl
omit [UDef] [UTabs] in
theorem ok_slices_rotateCF_C_bag_Gather_1 (n : Nat) : Contract Tryd.prog 112 F_slices_rotateCF_C_bag_Gather_1 (slices_rotateCF_C_bag_Gather_1 n) :=
  Contract.of_ev (c := C_slices_rotateCF_C_bag_Gather_1) (N := 58) Tryd.func112 (by kernel_rfl) (by kernel_rfl) (by kernel_rfl) (by kernel_rfl) (O_slices_rotateCF_C_bag_Gather_1_ok n) dorcNil_ok (.of (l := [(0, (lbody 1000 C_slices_rotateCF_C_bag_Gather_1 0))]) (by kernel_rfl) ⟨.head (loopL_sound (O_slices_rotateCF_C_bag_Gather_1_ok n) dorcNil_ok (.of (l := []) (by kernel_rfl) trivial) (s_slices_rotateCF_C_bag_Gather_1_s0 n)), trivial⟩) (e_slices_rotateCF_C_bag_Gather_1 n)

noncomputable def C_slices_symMergeCF_C_bag_Gather_1 : Code := bodyOf Tryd.f108
noncomputable def M_slices_symMergeCF_C_bag_Gather_1 : List (Nat × ArgM) := [(999999999, ⟨[1], [], [], false⟩), (112, ⟨[1000], [], [], false⟩), (108, ⟨[1000], [], [], false⟩), (59, ⟨[], [], [], true⟩)]
instance : DfOk M_slices_symMergeCF_C_bag_Gather_1 := .none rfl
noncomputable def O_slices_symMergeCF_C_bag_Gather_1 {ρ : Type} (self_slices_symMergeCF_C_bag_Gather_1 : Int × Int × Int × (List Ev.Cnt) × Unit → Option ((List Ev.Cnt) × Unit)) (n : Nat) : Orc ρ := orcCons 59 F_bag_Gather_1 (bag_Gather_1 n) (orcCons 112 F_slices_rotateCF_C_bag_Gather_1 (slices_rotateCF_C_bag_Gather_1 n) (orcCons 108 F_slices_symMergeCF_C_bag_Gather_1 (self_slices_symMergeCF_C_bag_Gather_1) (orcNil)))
omit [UDef] [UTabs] in
theorem O_slices_symMergeCF_C_bag_Gather_1_ok {ρ : Type} (self_slices_symMergeCF_C_bag_Gather_1 : Int × Int × Int × (List Ev.Cnt) × Unit → Option ((List Ev.Cnt) × Unit)) (h_slices_symMergeCF_C_bag_Gather_1 : Contract Tryd.prog 108 F_slices_symMergeCF_C_bag_Gather_1 self_slices_symMergeCF_C_bag_Gather_1) (n : Nat) : (O_slices_symMergeCF_C_bag_Gather_1 self_slices_symMergeCF_C_bag_Gather_1 n : Orc ρ).ok Tryd.prog := orcCons_ok (by kernel_rfl) (ok_bag_Gather_1 n) (orcCons_ok (by kernel_rfl) (ok_slices_rotateCF_C_bag_Gather_1 n) (orcCons_ok (by kernel_rfl) (h_slices_symMergeCF_C_bag_Gather_1) (orcNil_ok)))
noncomputable def T_slices_symMergeCF_C_bag_Gather_1_s0 : Tm := ⟨[(0, .own 2000000), (4, .fn 59)], [(1, .i64), (10, .i64), (11, .i64)], [(2000000, .arr 32 .cnt)]⟩
noncomputable def X_slices_symMergeCF_C_bag_Gather_1_s0 : Tm := ⟨[(0, .own 2000000)], [(1, .i64), (10, .i64)], [(2000000, .arr 32 .cnt)]⟩
noncomputable def R_slices_symMergeCF_C_bag_Gather_1_s0 : Tm := ⟨[], [], []⟩
noncomputable def L_slices_symMergeCF_C_bag_Gather_1_s0 {ρ : Type} (self_slices_symMergeCF_C_bag_Gather_1 : Int × Int × Int × (List Ev.Cnt) × Unit → Option ((List Ev.Cnt) × Unit)) (n : Nat) : LOrc ρ := lorcNil
omit [Tabs] [QuietD Tryd.prog] [UDef] [UTabs] in
theorem s_slices_symMergeCF_C_bag_Gather_1_s0 {ρ : Type} (self_slices_symMergeCF_C_bag_Gather_1 : Int × Int × Int × (List Ev.Cnt) × Unit → Option ((List Ev.Cnt) × Unit)) (n : Nat) (rec : T_slices_symMergeCF_C_bag_Gather_1_s0.den → Option ρ) kx kr s : dStep Tryd.prog 220 TT M_slices_symMergeCF_C_bag_Gather_1 (O_slices_symMergeCF_C_bag_Gather_1 self_slices_symMergeCF_C_bag_Gather_1 n) (L_slices_symMergeCF_C_bag_Gather_1_s0 self_slices_symMergeCF_C_bag_Gather_1 n) (evDraw Tryd.prog 220 TT M_slices_symMergeCF_C_bag_Gather_1 (O_slices_symMergeCF_C_bag_Gather_1 self_slices_symMergeCF_C_bag_Gather_1 n)) 0 (lbody 1000 C_slices_symMergeCF_C_bag_Gather_1 0) T_slices_symMergeCF_C_bag_Gather_1_s0 X_slices_symMergeCF_C_bag_Gather_1_s0 R_slices_symMergeCF_C_bag_Gather_1_s0 ⟨[], [], []⟩ rec kx kr s = slices_symMergeCF_C_bag_Gather_1_s0 self_slices_symMergeCF_C_bag_Gather_1 n rec kx kr s := by kernel_rfl
noncomputable def T_slices_symMergeCF_C_bag_Gather_1_s2 : Tm := ⟨[(0, .own 2000000)], [(10, .i64), (13, .i64)], [(2000000, .arr 32 .cnt)]⟩
noncomputable def X_slices_symMergeCF_C_bag_Gather_1_s2 : Tm := ⟨[], [], [(2000000, .arr 32 .cnt)]⟩
noncomputable def R_slices_symMergeCF_C_bag_Gather_1_s2 : Tm := ⟨[], [], []⟩
noncomputable def L_slices_symMergeCF_C_bag_Gather_1_s2 {ρ : Type} (self_slices_symMergeCF_C_bag_Gather_1 : Int × Int × Int × (List Ev.Cnt) × Unit → Option ((List Ev.Cnt) × Unit)) (n : Nat) : LOrc ρ := lorcNil
omit [Tabs] [QuietD Tryd.prog] [UDef] [UTabs] in
theorem s_slices_symMergeCF_C_bag_Gather_1_s2 {ρ : Type} (self_slices_symMergeCF_C_bag_Gather_1 : Int × Int × Int × (List Ev.Cnt) × Unit → Option ((List Ev.Cnt) × Unit)) (n : Nat) (rec : T_slices_symMergeCF_C_bag_Gather_1_s2.den → Option ρ) kx kr s : dStep Tryd.prog 220 TT M_slices_symMergeCF_C_bag_Gather_1 (O_slices_symMergeCF_C_bag_Gather_1 self_slices_symMergeCF_C_bag_Gather_1 n) (L_slices_symMergeCF_C_bag_Gather_1_s2 self_slices_symMergeCF_C_bag_Gather_1 n) (evDraw Tryd.prog 220 TT M_slices_symMergeCF_C_bag_Gather_1 (O_slices_symMergeCF_C_bag_Gather_1 self_slices_symMergeCF_C_bag_Gather_1 n)) 2 (lbody 1000 C_slices_symMergeCF_C_bag_Gather_1 1) T_slices_symMergeCF_C_bag_Gather_1_s2 X_slices_symMergeCF_C_bag_Gather_1_s2 R_slices_symMergeCF_C_bag_Gather_1_s2 ⟨[], [], []⟩ rec kx kr s = slices_symMergeCF_C_bag_Gather_1_s2 self_slices_symMergeCF_C_bag_Gather_1 n rec kx kr s := by kernel_rfl
noncomputable def T_slices_symMergeCF_C_bag_Gather_1_s4 : Tm := ⟨[(0, .own 2000000), (4, .fn 59)], [(2, .i64), (14, .i64), (15, .i64)], [(2000000, .arr 32 .cnt)]⟩
noncomputable def X_slices_symMergeCF_C_bag_Gather_1_s4 : Tm := ⟨[(0, .own 2000000)], [(2, .i64), (14, .i64)], [(2000000, .arr 32 .cnt)]⟩
noncomputable def R_slices_symMergeCF_C_bag_Gather_1_s4 : Tm := ⟨[], [], []⟩
noncomputable def L_slices_symMergeCF_C_bag_Gather_1_s4 {ρ : Type} (self_slices_symMergeCF_C_bag_Gather_1 : Int × Int × Int × (List Ev.Cnt) × Unit → Option ((List Ev.Cnt) × Unit)) (n : Nat) : LOrc ρ := lorcNil
omit [Tabs] [QuietD Tryd.prog] [UDef] [UTabs] in
theorem s_slices_symMergeCF_C_bag_Gather_1_s4 {ρ : Type} (self_slices_symMergeCF_C_bag_Gather_1 : Int × Int × Int × (List Ev.Cnt) × Unit → Option ((List Ev.Cnt) × Unit)) (n : Nat) (rec : T_slices_symMergeCF_C_bag_Gather_1_s4.den → Option ρ) kx kr s : dStep Tryd.prog 220 TT M_slices_symMergeCF_C_bag_Gather_1 (O_slices_symMergeCF_C_bag_Gather_1 self_slices_symMergeCF_C_bag_Gather_1 n) (L_slices_symMergeCF_C_bag_Gather_1_s4 self_slices_symMergeCF_C_bag_Gather_1 n) (evDraw Tryd.prog 220 TT M_slices_symMergeCF_C_bag_Gather_1 (O_slices_symMergeCF_C_bag_Gather_1 self_slices_symMergeCF_C_bag_Gather_1 n)) 4 (lbody 1000 C_slices_symMergeCF_C_bag_Gather_1 2) T_slices_symMergeCF_C_bag_Gather_1_s4 X_slices_symMergeCF_C_bag_Gather_1_s4 R_slices_symMergeCF_C_bag_Gather_1_s4 ⟨[], [], []⟩ rec kx kr s = slices_symMergeCF_C_bag_Gather_1_s4 self_slices_symMergeCF_C_bag_Gather_1 n rec kx kr s := by kernel_rfl
noncomputable def T_slices_symMergeCF_C_bag_Gather_1_s6 : Tm := ⟨[(0, .own 2000000)], [(14, .i64), (17, .i64)], [(2000000, .arr 32 .cnt)]⟩
noncomputable def X_slices_symMergeCF_C_bag_Gather_1_s6 : Tm := ⟨[], [], [(2000000, .arr 32 .cnt)]⟩
noncomputable def R_slices_symMergeCF_C_bag_Gather_1_s6 : Tm := ⟨[], [], []⟩
noncomputable def L_slices_symMergeCF_C_bag_Gather_1_s6 {ρ : Type} (self_slices_symMergeCF_C_bag_Gather_1 : Int × Int × Int × (List Ev.Cnt) × Unit → Option ((List Ev.Cnt) × Unit)) (n : Nat) : LOrc ρ := lorcNil
omit [Tabs] [QuietD Tryd.prog] [UDef] [UTabs] in
theorem s_slices_symMergeCF_C_bag_Gather_1_s6 {ρ : Type} (self_slices_symMergeCF_C_bag_Gather_1 : Int × Int × Int × (List Ev.Cnt) × Unit → Option ((List Ev.Cnt) × Unit)) (n : Nat) (rec : T_slices_symMergeCF_C_bag_Gather_1_s6.den → Option ρ) kx kr s : dStep Tryd.prog 220 TT M_slices_symMergeCF_C_bag_Gather_1 (O_slices_symMergeCF_C_bag_Gather_1 self_slices_symMergeCF_C_bag_Gather_1 n) (L_slices_symMergeCF_C_bag_Gather_1_s6 self_slices_symMergeCF_C_bag_Gather_1 n) (evDraw Tryd.prog 220 TT M_slices_symMergeCF_C_bag_Gather_1 (O_slices_symMergeCF_C_bag_Gather_1 self_slices_symMergeCF_C_bag_Gather_1 n)) 6 (lbody 1000 C_slices_symMergeCF_C_bag_Gather_1 3) T_slices_symMergeCF_C_bag_Gather_1_s6 X_slices_symMergeCF_C_bag_Gather_1_s6 R_slices_symMergeCF_C_bag_Gather_1_s6 ⟨[], [], []⟩ rec kx kr s = slices_symMergeCF_C_bag_Gather_1_s6 self_slices_symMergeCF_C_bag_Gather_1 n rec kx kr s := by kernel_rfl
noncomputable def T_slices_symMergeCF_C_bag_Gather_1_s8 : Tm := ⟨[(0, .own 2000000), (4, .fn 59)], [(1, .i64), (2, .i64), (3, .i64), (18, .i64), (19, .i64), (20, .i64), (21, .i64), (22, .i64)], [(2000000, .arr 32 .cnt)]⟩
noncomputable def X_slices_symMergeCF_C_bag_Gather_1_s8 : Tm := ⟨[(0, .own 2000000), (4, .fn 59)], [(1, .i64), (2, .i64), (3, .i64), (18, .i64), (19, .i64), (20, .i64)], [(2000000, .arr 32 .cnt)]⟩
noncomputable def R_slices_symMergeCF_C_bag_Gather_1_s8 : Tm := ⟨[], [], []⟩
noncomputable def L_slices_symMergeCF_C_bag_Gather_1_s8 {ρ : Type} (self_slices_symMergeCF_C_bag_Gather_1 : Int × Int × Int × (List Ev.Cnt) × Unit → Option ((List Ev.Cnt) × Unit)) (n : Nat) : LOrc ρ := lorcNil
omit [Tabs] [QuietD Tryd.prog] [UDef] [UTabs] in
theorem s_slices_symMergeCF_C_bag_Gather_1_s8 {ρ : Type} (self_slices_symMergeCF_C_bag_Gather_1 : Int × Int × Int × (List Ev.Cnt) × Unit → Option ((List Ev.Cnt) × Unit)) (n : Nat) (rec : T_slices_symMergeCF_C_bag_Gather_1_s8.den → Option ρ) kx kr s : dStep Tryd.prog 220 TT M_slices_symMergeCF_C_bag_Gather_1 (O_slices_symMergeCF_C_bag_Gather_1 self_slices_symMergeCF_C_bag_Gather_1 n) (L_slices_symMergeCF_C_bag_Gather_1_s8 self_slices_symMergeCF_C_bag_Gather_1 n) (evDraw Tryd.prog 220 TT M_slices_symMergeCF_C_bag_Gather_1 (O_slices_symMergeCF_C_bag_Gather_1 self_slices_symMergeCF_C_bag_Gather_1 n)) 8 (lbody 1000 C_slices_symMergeCF_C_bag_Gather_1 4) T_slices_symMergeCF_C_bag_Gather_1_s8 X_slices_symMergeCF_C_bag_Gather_1_s8 R_slices_symMergeCF_C_bag_Gather_1_s8 ⟨[], [], []⟩ rec kx kr s = slices_symMergeCF_C_bag_Gather_1_s8 self_slices_symMergeCF_C_bag_Gather_1 n rec kx kr s := by kernel_rfl
noncomputable def L_slices_symMergeCF_C_bag_Gather_1 {ρ : Type} (self_slices_symMergeCF_C_bag_Gather_1 : Int × Int × Int × (List Ev.Cnt) × Unit → Option ((List Ev.Cnt) × Unit)) (n : Nat) : LOrc ρ := lorcCons 0 (loopL 220 0 n T_slices_symMergeCF_C_bag_Gather_1_s0 X_slices_symMergeCF_C_bag_Gather_1_s0 R_slices_symMergeCF_C_bag_Gather_1_s0 ⟨[], [], []⟩ (slices_symMergeCF_C_bag_Gather_1_s0 self_slices_symMergeCF_C_bag_Gather_1 n)) (lorcCons 2 (loopL 220 2 n T_slices_symMergeCF_C_bag_Gather_1_s2 X_slices_symMergeCF_C_bag_Gather_1_s2 R_slices_symMergeCF_C_bag_Gather_1_s2 ⟨[], [], []⟩ (slices_symMergeCF_C_bag_Gather_1_s2 self_slices_symMergeCF_C_bag_Gather_1 n)) (lorcCons 4 (loopL 220 4 n T_slices_symMergeCF_C_bag_Gather_1_s4 X_slices_symMergeCF_C_bag_Gather_1_s4 R_slices_symMergeCF_C_bag_Gather_1_s4 ⟨[], [], []⟩ (slices_symMergeCF_C_bag_Gather_1_s4 self_slices_symMergeCF_C_bag_Gather_1 n)) (lorcCons 6 (loopL 220 6 n T_slices_symMergeCF_C_bag_Gather_1_s6 X_slices_symMergeCF_C_bag_Gather_1_s6 R_slices_symMergeCF_C_bag_Gather_1_s6 ⟨[], [], []⟩ (slices_symMergeCF_C_bag_Gather_1_s6 self_slices_symMergeCF_C_bag_Gather_1 n)) (lorcCons 8 (loopL 220 8 n T_slices_symMergeCF_C_bag_Gather_1_s8 X_slices_symMergeCF_C_bag_Gather_1_s8 R_slices_symMergeCF_C_bag_Gather_1_s8 ⟨[], [], []⟩ (slices_symMergeCF_C_bag_Gather_1_s8 self_slices_symMergeCF_C_bag_Gather_1 n)) (lorcNil)))))
omit [Tabs] [QuietD Tryd.prog] [UDef] [UTabs] in
theorem e_slices_symMergeCF_C_bag_Gather_1 (self_slices_symMergeCF_C_bag_Gather_1 : Int × Int × Int × (List Ev.Cnt) × Unit → Option ((List Ev.Cnt) × Unit)) (n : Nat) (x) : evF Tryd.prog 220 TT M_slices_symMergeCF_C_bag_Gather_1 F_slices_symMergeCF_C_bag_Gather_1 (O_slices_symMergeCF_C_bag_Gather_1 self_slices_symMergeCF_C_bag_Gather_1 n) (L_slices_symMergeCF_C_bag_Gather_1 self_slices_symMergeCF_C_bag_Gather_1 n) (evDraw Tryd.prog 220 TT M_slices_symMergeCF_C_bag_Gather_1 (O_slices_symMergeCF_C_bag_Gather_1 self_slices_symMergeCF_C_bag_Gather_1 n)) ⟨[], [], []⟩ [] C_slices_symMergeCF_C_bag_Gather_1 x = slices_symMergeCF_C_bag_Gather_1_b self_slices_symMergeCF_C_bag_Gather_1 n x := by kernel_rfl
omit [UDef] [UTabs] in
theorem okb_slices_symMergeCF_C_bag_Gather_1 (self_slices_symMergeCF_C_bag_Gather_1 : Int × Int × Int × (List Ev.Cnt) × Unit → Option ((List Ev.Cnt) × Unit)) (h_slices_symMergeCF_C_bag_Gather_1 : Contract Tryd.prog 108 F_slices_symMergeCF_C_bag_Gather_1 self_slices_symMergeCF_C_bag_Gather_1) (n : Nat) : Contract Tryd.prog 108 F_slices_symMergeCF_C_bag_Gather_1 (slices_symMergeCF_C_bag_Gather_1_b self_slices_symMergeCF_C_bag_Gather_1 n) :=
  Contract.of_ev (c := C_slices_symMergeCF_C_bag_Gather_1) (N := 220) Tryd.func108 (by kernel_rfl) (by kernel_rfl) (by kernel_rfl) (by kernel_rfl) (O_slices_symMergeCF_C_bag_Gather_1_ok self_slices_symMergeCF_C_bag_Gather_1 h_slices_symMergeCF_C_bag_Gather_1 n) (evDraw_ok (O_slices_symMergeCF_C_bag_Gather_1_ok self_slices_symMergeCF_C_bag_Gather_1 h_slices_symMergeCF_C_bag_Gather_1 n) (by kernel_rfl)) (.of (l := [(0, (lbody 1000 C_slices_symMergeCF_C_bag_Gather_1 0)), (2, (lbody 1000 C_slices_symMergeCF_C_bag_Gather_1 1)), (4, (lbody 1000 C_slices_symMergeCF_C_bag_Gather_1 2)), (6, (lbody 1000 C_slices_symMergeCF_C_bag_Gather_1 3)), (8, (lbody 1000 C_slices_symMergeCF_C_bag_Gather_1 4))]) (by kernel_rfl) ⟨.head (loopL_sound (O_slices_symMergeCF_C_bag_Gather_1_ok self_slices_symMergeCF_C_bag_Gather_1 h_slices_symMergeCF_C_bag_Gather_1 n) (evDraw_ok (O_slices_symMergeCF_C_bag_Gather_1_ok self_slices_symMergeCF_C_bag_Gather_1 h_slices_symMergeCF_C_bag_Gather_1 n) (by kernel_rfl)) (.of (l := []) (by kernel_rfl) trivial) (s_slices_symMergeCF_C_bag_Gather_1_s0 self_slices_symMergeCF_C_bag_Gather_1 n)), ⟨.tail rfl (.head (loopL_sound (O_slices_symMergeCF_C_bag_Gather_1_ok self_slices_symMergeCF_C_bag_Gather_1 h_slices_symMergeCF_C_bag_Gather_1 n) (evDraw_ok (O_slices_symMergeCF_C_bag_Gather_1_ok self_slices_symMergeCF_C_bag_Gather_1 h_slices_symMergeCF_C_bag_Gather_1 n) (by kernel_rfl)) (.of (l := []) (by kernel_rfl) trivial) (s_slices_symMergeCF_C_bag_Gather_1_s2 self_slices_symMergeCF_C_bag_Gather_1 n))), ⟨.tail rfl (.tail rfl (.head (loopL_sound (O_slices_symMergeCF_C_bag_Gather_1_ok self_slices_symMergeCF_C_bag_Gather_1 h_slices_symMergeCF_C_bag_Gather_1 n) (evDraw_ok (O_slices_symMergeCF_C_bag_Gather_1_ok self_slices_symMergeCF_C_bag_Gather_1 h_slices_symMergeCF_C_bag_Gather_1 n) (by kernel_rfl)) (.of (l := []) (by kernel_rfl) trivial) (s_slices_symMergeCF_C_bag_Gather_1_s4 self_slices_symMergeCF_C_bag_Gather_1 n)))), ⟨.tail rfl (.tail rfl (.tail rfl (.head (loopL_sound (O_slices_symMergeCF_C_bag_Gather_1_ok self_slices_symMergeCF_C_bag_Gather_1 h_slices_symMergeCF_C_bag_Gather_1 n) (evDraw_ok (O_slices_symMergeCF_C_bag_Gather_1_ok self_slices_symMergeCF_C_bag_Gather_1 h_slices_symMergeCF_C_bag_Gather_1 n) (by kernel_rfl)) (.of (l := []) (by kernel_rfl) trivial) (s_slices_symMergeCF_C_bag_Gather_1_s6 self_slices_symMergeCF_C_bag_Gather_1 n))))), ⟨.tail rfl (.tail rfl (.tail rfl (.tail rfl (.head (loopL_sound (O_slices_symMergeCF_C_bag_Gather_1_ok self_slices_symMergeCF_C_bag_Gather_1 h_slices_symMergeCF_C_bag_Gather_1 n) (evDraw_ok (O_slices_symMergeCF_C_bag_Gather_1_ok self_slices_symMergeCF_C_bag_Gather_1 h_slices_symMergeCF_C_bag_Gather_1 n) (by kernel_rfl)) (.of (l := []) (by kernel_rfl) trivial) (s_slices_symMergeCF_C_bag_Gather_1_s8 self_slices_symMergeCF_C_bag_Gather_1 n)))))), trivial⟩⟩⟩⟩⟩) (e_slices_symMergeCF_C_bag_Gather_1 self_slices_symMergeCF_C_bag_Gather_1 n)
omit [UDef] [UTabs] in
theorem ok_slices_symMergeCF_C_bag_Gather_1 : ∀ n, Contract Tryd.prog 108 F_slices_symMergeCF_C_bag_Gather_1 (slices_symMergeCF_C_bag_Gather_1 n)
  | 0 => fun _ _ h => by cases h
  | n + 1 => okb_slices_symMergeCF_C_bag_Gather_1 _ (ok_slices_symMergeCF_C_bag_Gather_1 n) n

noncomputable def C_slices_stableCF_C_bag_Gather_1 : Code := bodyOf Tryd.f81
noncomputable def M_slices_stableCF_C_bag_Gather_1 : List (Nat × ArgM) := [(999999999, ⟨[1], [], [], false⟩), (107, ⟨[1000], [], [], false⟩), (108, ⟨[1000], [], [], false⟩)]
instance : DfOk M_slices_stableCF_C_bag_Gather_1 := .none rfl
noncomputable def O_slices_stableCF_C_bag_Gather_1 {ρ : Type} (n : Nat) : Orc ρ := orcCons 107 F_slices_insertionSortCF_C_bag_Gather_1 (slices_insertionSortCF_C_bag_Gather_1 n) (orcCons 108 F_slices_symMergeCF_C_bag_Gather_1 (slices_symMergeCF_C_bag_Gather_1 n) (orcNil))
omit [UDef] [UTabs] in
theorem O_slices_stableCF_C_bag_Gather_1_ok {ρ : Type} (n : Nat) : (O_slices_stableCF_C_bag_Gather_1 n : Orc ρ).ok Tryd.prog := orcCons_ok (by kernel_rfl) (ok_slices_insertionSortCF_C_bag_Gather_1 n) (orcCons_ok (by kernel_rfl) (ok_slices_symMergeCF_C_bag_Gather_1 n) (orcNil_ok))
noncomputable def T_slices_stableCF_C_bag_Gather_1_s0 : Tm := ⟨[(0, .own 2000000), (2, .fn 59)], [(1, .i64), (6, .i64), (7, .i64), (8, .i64)], [(2000000, .arr 32 .cnt)]⟩
noncomputable def X_slices_stableCF_C_bag_Gather_1_s0 : Tm := ⟨[(0, .own 2000000), (2, .fn 59)], [(1, .i64), (6, .i64), (7, .i64)], [(2000000, .arr 32 .cnt)]⟩
noncomputable def R_slices_stableCF_C_bag_Gather_1_s0 : Tm := ⟨[], [], []⟩
noncomputable def L_slices_stableCF_C_bag_Gather_1_s0 {ρ : Type} (n : Nat) : LOrc ρ := lorcNil
omit [Tabs] [QuietD Tryd.prog] [UDef] [UTabs] in
theorem s_slices_stableCF_C_bag_Gather_1_s0 {ρ : Type} (n : Nat) (rec : T_slices_stableCF_C_bag_Gather_1_s0.den → Option ρ) kx kr s : dStep Tryd.prog 63 TT M_slices_stableCF_C_bag_Gather_1 (O_slices_stableCF_C_bag_Gather_1 n) (L_slices_stableCF_C_bag_Gather_1_s0 n) dorcNil 0 (lbody 1000 C_slices_stableCF_C_bag_Gather_1 0) T_slices_stableCF_C_bag_Gather_1_s0 X_slices_stableCF_C_bag_Gather_1_s0 R_slices_stableCF_C_bag_Gather_1_s0 ⟨[], [], []⟩ rec kx kr s = slices_stableCF_C_bag_Gather_1_s0 n rec kx kr s := by kernel_rfl
noncomputable def T_slices_stableCF_C_bag_Gather_1_s4 : Tm := ⟨[(0, .own 2000000), (2, .fn 59)], [(1, .i64), (6, .i64), (7, .i64), (8, .i64)], [(2000000, .arr 32 .cnt)]⟩
noncomputable def X_slices_stableCF_C_bag_Gather_1_s4 : Tm := ⟨[(0, .own 2000000), (2, .fn 59)], [(1, .i64), (6, .i64), (7, .i64)], [(2000000, .arr 32 .cnt)]⟩
noncomputable def R_slices_stableCF_C_bag_Gather_1_s4 : Tm := ⟨[], [], []⟩
noncomputable def L_slices_stableCF_C_bag_Gather_1_s4 {ρ : Type} (n : Nat) : LOrc ρ := lorcNil
omit [Tabs] [QuietD Tryd.prog] [UDef] [UTabs] in
theorem s_slices_stableCF_C_bag_Gather_1_s4 {ρ : Type} (n : Nat) (rec : T_slices_stableCF_C_bag_Gather_1_s4.den → Option ρ) kx kr s : dStep Tryd.prog 63 TT M_slices_stableCF_C_bag_Gather_1 (O_slices_stableCF_C_bag_Gather_1 n) (L_slices_stableCF_C_bag_Gather_1_s4 n) dorcNil 4 (lbody 2 (lbody 1000 C_slices_stableCF_C_bag_Gather_1 1) 0) T_slices_stableCF_C_bag_Gather_1_s4 X_slices_stableCF_C_bag_Gather_1_s4 R_slices_stableCF_C_bag_Gather_1_s4 ⟨[], [], []⟩ rec kx kr s = slices_stableCF_C_bag_Gather_1_s4 n rec kx kr s := by kernel_rfl
noncomputable def T_slices_stableCF_C_bag_Gather_1_s2 : Tm := ⟨[(0, .own 2000000), (2, .fn 59)], [(1, .i64), (6, .i64)], [(2000000, .arr 32 .cnt)]⟩
noncomputable def X_slices_stableCF_C_bag_Gather_1_s2 : Tm := ⟨[], [], [(2000000, .arr 32 .cnt)]⟩
noncomputable def R_slices_stableCF_C_bag_Gather_1_s2 : Tm := ⟨[], [], []⟩
noncomputable def L_slices_stableCF_C_bag_Gather_1_s2 {ρ : Type} (n : Nat) : LOrc ρ := lorcCons 4 (loopL 63 4 n T_slices_stableCF_C_bag_Gather_1_s4 X_slices_stableCF_C_bag_Gather_1_s4 R_slices_stableCF_C_bag_Gather_1_s4 ⟨[], [], []⟩ (slices_stableCF_C_bag_Gather_1_s4 n)) (lorcNil)
omit [Tabs] [QuietD Tryd.prog] [UDef] [UTabs] in
theorem s_slices_stableCF_C_bag_Gather_1_s2 {ρ : Type} (n : Nat) (rec : T_slices_stableCF_C_bag_Gather_1_s2.den → Option ρ) kx kr s : dStep Tryd.prog 63 TT M_slices_stableCF_C_bag_Gather_1 (O_slices_stableCF_C_bag_Gather_1 n) (L_slices_stableCF_C_bag_Gather_1_s2 n) dorcNil 2 (lbody 1000 C_slices_stableCF_C_bag_Gather_1 1) T_slices_stableCF_C_bag_Gather_1_s2 X_slices_stableCF_C_bag_Gather_1_s2 R_slices_stableCF_C_bag_Gather_1_s2 ⟨[], [], []⟩ rec kx kr s = slices_stableCF_C_bag_Gather_1_s2 n rec kx kr s := by kernel_rfl
noncomputable def L_slices_stableCF_C_bag_Gather_1 {ρ : Type} (n : Nat) : LOrc ρ := lorcCons 0 (loopL 63 0 n T_slices_stableCF_C_bag_Gather_1_s0 X_slices_stableCF_C_bag_Gather_1_s0 R_slices_stableCF_C_bag_Gather_1_s0 ⟨[], [], []⟩ (slices_stableCF_C_bag_Gather_1_s0 n)) (lorcCons 2 (loopL 63 2 n T_slices_stableCF_C_bag_Gather_1_s2 X_slices_stableCF_C_bag_Gather_1_s2 R_slices_stableCF_C_bag_Gather_1_s2 ⟨[], [], []⟩ (slices_stableCF_C_bag_Gather_1_s2 n)) (lorcNil))
omit [Tabs] [QuietD Tryd.prog] [UDef] [UTabs] in
theorem e_slices_stableCF_C_bag_Gather_1 (n : Nat) (x) : evF Tryd.prog 63 TT M_slices_stableCF_C_bag_Gather_1 F_slices_stableCF_C_bag_Gather_1 (O_slices_stableCF_C_bag_Gather_1 n) (L_slices_stableCF_C_bag_Gather_1 n) dorcNil ⟨[], [], []⟩ [] C_slices_stableCF_C_bag_Gather_1 x = slices_stableCF_C_bag_Gather_1 n x := by kernel_rfl
omit [UDef] [UTabs] in
theorem ok_slices_stableCF_C_bag_Gather_1 (n : Nat) : Contract Tryd.prog 81 F_slices_stableCF_C_bag_Gather_1 (slices_stableCF_C_bag_Gather_1 n) :=
  Contract.of_ev (c := C_slices_stableCF_C_bag_Gather_1) (N := 63) Tryd.func81 (by kernel_rfl) (by kernel_rfl) (by kernel_rfl) (by kernel_rfl) (O_slices_stableCF_C_bag_Gather_1_ok n) dorcNil_ok (.of (l := [(0, (lbody 1000 C_slices_stableCF_C_bag_Gather_1 0)), (2, (lbody 1000 C_slices_stableCF_C_bag_Gather_1 1))]) (by kernel_rfl) ⟨.head (loopL_sound (O_slices_stableCF_C_bag_Gather_1_ok n) dorcNil_ok (.of (l := []) (by kernel_rfl) trivial) (s_slices_stableCF_C_bag_Gather_1_s0 n)), ⟨.tail rfl (.head (loopL_sound (O_slices_stableCF_C_bag_Gather_1_ok n) dorcNil_ok (.of (l := [(4, (lbody 2 (lbody 1000 C_slices_stableCF_C_bag_Gather_1 1) 0))]) (by kernel_rfl) ⟨.head (loopL_sound (O_slices_stableCF_C_bag_Gather_1_ok n) dorcNil_ok (.of (l := []) (by kernel_rfl) trivial) (s_slices_stableCF_C_bag_Gather_1_s4 n)), trivial⟩) (s_slices_stableCF_C_bag_Gather_1_s2 n))), trivial⟩⟩) (e_slices_stableCF_C_bag_Gather_1 n)

noncomputable def C_slices_SortStableFunc_C_C_bag_Gather_1 : Code := bodyOf Tryd.f58
noncomputable def M_slices_SortStableFunc_C_C_bag_Gather_1 : List (Nat × ArgM) := [(999999999, ⟨[1], [], [], false⟩), (81, ⟨[1000], [], [], false⟩)]
instance : DfOk M_slices_SortStableFunc_C_C_bag_Gather_1 := .none rfl
noncomputable def O_slices_SortStableFunc_C_C_bag_Gather_1 {ρ : Type} (n : Nat) : Orc ρ := orcCons 81 F_slices_stableCF_C_bag_Gather_1 (slices_stableCF_C_bag_Gather_1 n) (orcNil)
omit [UDef] [UTabs] in
theorem O_slices_SortStableFunc_C_C_bag_Gather_1_ok {ρ : Type} (n : Nat) : (O_slices_SortStableFunc_C_C_bag_Gather_1 n : Orc ρ).ok Tryd.prog := orcCons_ok (by kernel_rfl) (ok_slices_stableCF_C_bag_Gather_1 n) (orcNil_ok)
noncomputable def L_slices_SortStableFunc_C_C_bag_Gather_1 {ρ : Type} (n : Nat) : LOrc ρ := lorcNil
omit [Tabs] [QuietD Tryd.prog] [UDef] [UTabs] in
theorem e_slices_SortStableFunc_C_C_bag_Gather_1 (n : Nat) (x) : evF Tryd.prog 9 TT M_slices_SortStableFunc_C_C_bag_Gather_1 F_slices_SortStableFunc_C_C_bag_Gather_1 (O_slices_SortStableFunc_C_C_bag_Gather_1 n) (L_slices_SortStableFunc_C_C_bag_Gather_1 n) dorcNil ⟨[], [], []⟩ [] C_slices_SortStableFunc_C_C_bag_Gather_1 x = slices_SortStableFunc_C_C_bag_Gather_1 n x := by kernel_rfl
omit [UDef] [UTabs] in
theorem ok_slices_SortStableFunc_C_C_bag_Gather_1 (n : Nat) : Contract Tryd.prog 58 F_slices_SortStableFunc_C_C_bag_Gather_1 (slices_SortStableFunc_C_C_bag_Gather_1 n) :=
  Contract.of_ev (c := C_slices_SortStableFunc_C_C_bag_Gather_1) (N := 9) Tryd.func58 (by kernel_rfl) (by kernel_rfl) (by kernel_rfl) (by kernel_rfl) (O_slices_SortStableFunc_C_C_bag_Gather_1_ok n) dorcNil_ok (.of (l := []) (by kernel_rfl) trivial) (e_slices_SortStableFunc_C_C_bag_Gather_1 n)

noncomputable def F_slices_DeleteFunc_api_Bag_C_bag_Gather_2 : FnT := ⟨2, ⟨[(0, .own 1000000), (1, .fn 61)], [], [(1000000, .arr 32 .cnt)]⟩, [.ref (.own 1000000)], [(1000000, .arr 32 .cnt)]⟩
noncomputable def F_slices_IndexFunc_api_Bag_C_bag_Gather_2 : FnT := ⟨2, ⟨[(1, .fn 61)], [(0, (.lst .cnt))], []⟩, [.v .i64], []⟩
noncomputable def F_bag_Gather_2 : FnT := ⟨1, ⟨[], [(0, .cnt)], []⟩, [.v .bool], []⟩
noncomputable def C_bag_Gather_2 : Code := bodyOf Tryd.f61
noncomputable def M_bag_Gather_2 : List (Nat × ArgM) := []
instance : DfOk M_bag_Gather_2 := .none rfl
noncomputable def O_bag_Gather_2 {ρ : Type} : Orc ρ := orcNil
omit [QuietD Tryd.prog] [UDef] [UTabs] in
theorem O_bag_Gather_2_ok {ρ : Type} : (O_bag_Gather_2 : Orc ρ).ok Tryd.prog := orcNil_ok
noncomputable def L_bag_Gather_2 {ρ : Type} : LOrc ρ := lorcNil
omit [Tabs] [QuietD Tryd.prog] [UDef] [UTabs] in
theorem e_bag_Gather_2 (x) : evF Tryd.prog 6 TT M_bag_Gather_2 F_bag_Gather_2 (O_bag_Gather_2) (L_bag_Gather_2) dorcNil ⟨[], [], []⟩ [.tmp 2] C_bag_Gather_2 x = bag_Gather_2 x := by kernel_rfl
omit [UDef] [UTabs] in
theorem ok_bag_Gather_2 : Contract Tryd.prog 61 F_bag_Gather_2 (bag_Gather_2) :=
  Contract.of_ev (c := C_bag_Gather_2) (N := 6) Tryd.func61 (by kernel_rfl) (by kernel_rfl) (by kernel_rfl) (by kernel_rfl) (O_bag_Gather_2_ok) dorcNil_ok (.of (l := []) (by kernel_rfl) trivial) (e_bag_Gather_2)

noncomputable def C_slices_IndexFunc_api_Bag_C_bag_Gather_2 : Code := bodyOf Tryd.f82
noncomputable def M_slices_IndexFunc_api_Bag_C_bag_Gather_2 : List (Nat × ArgM) := [(61, ⟨[], [], [], true⟩)]
instance : DfOk M_slices_IndexFunc_api_Bag_C_bag_Gather_2 := .none rfl
noncomputable def O_slices_IndexFunc_api_Bag_C_bag_Gather_2 {ρ : Type} (n : Nat) : Orc ρ := orcCons 61 F_bag_Gather_2 (bag_Gather_2) (orcNil)
omit [UDef] [UTabs] in
theorem O_slices_IndexFunc_api_Bag_C_bag_Gather_2_ok {ρ : Type} (n : Nat) : (O_slices_IndexFunc_api_Bag_C_bag_Gather_2 n : Orc ρ).ok Tryd.prog := orcCons_ok (by kernel_rfl) (ok_bag_Gather_2) (orcNil_ok)
noncomputable def T_slices_IndexFunc_api_Bag_C_bag_Gather_2_s0 : Tm := ⟨[(1, .fn 61)], [(0, (.lst .cnt)), (7, .i64), (8, .i64)], []⟩
noncomputable def X_slices_IndexFunc_api_Bag_C_bag_Gather_2_s0 : Tm := ⟨[], [], []⟩
noncomputable def R_slices_IndexFunc_api_Bag_C_bag_Gather_2_s0 : Tm := ⟨[], [(4, .i64)], []⟩
noncomputable def L_slices_IndexFunc_api_Bag_C_bag_Gather_2_s0 {ρ : Type} (n : Nat) : LOrc ρ := lorcNil
omit [Tabs] [QuietD Tryd.prog] [UDef] [UTabs] in
theorem s_slices_IndexFunc_api_Bag_C_bag_Gather_2_s0 {ρ : Type} (n : Nat) (rec : T_slices_IndexFunc_api_Bag_C_bag_Gather_2_s0.den → Option ρ) kx kr s : dStep Tryd.prog 19 TT M_slices_IndexFunc_api_Bag_C_bag_Gather_2 (O_slices_IndexFunc_api_Bag_C_bag_Gather_2 n) (L_slices_IndexFunc_api_Bag_C_bag_Gather_2_s0 n) dorcNil 0 (lbody 1000 C_slices_IndexFunc_api_Bag_C_bag_Gather_2 0) T_slices_IndexFunc_api_Bag_C_bag_Gather_2_s0 X_slices_IndexFunc_api_Bag_C_bag_Gather_2_s0 R_slices_IndexFunc_api_Bag_C_bag_Gather_2_s0 ⟨[], [], []⟩ rec kx kr s = slices_IndexFunc_api_Bag_C_bag_Gather_2_s0 n rec kx kr s := by kernel_rfl
noncomputable def L_slices_IndexFunc_api_Bag_C_bag_Gather_2 {ρ : Type} (n : Nat) : LOrc ρ := lorcCons 0 (loopL 19 0 n T_slices_IndexFunc_api_Bag_C_bag_Gather_2_s0 X_slices_IndexFunc_api_Bag_C_bag_Gather_2_s0 R_slices_IndexFunc_api_Bag_C_bag_Gather_2_s0 ⟨[], [], []⟩ (slices_IndexFunc_api_Bag_C_bag_Gather_2_s0 n)) (lorcNil)
omit [Tabs] [QuietD Tryd.prog] [UDef] [UTabs] in
theorem e_slices_IndexFunc_api_Bag_C_bag_Gather_2 (n : Nat) (x) : evF Tryd.prog 19 TT M_slices_IndexFunc_api_Bag_C_bag_Gather_2 F_slices_IndexFunc_api_Bag_C_bag_Gather_2 (O_slices_IndexFunc_api_Bag_C_bag_Gather_2 n) (L_slices_IndexFunc_api_Bag_C_bag_Gather_2 n) dorcNil ⟨[], [], []⟩ [.tmp 4] C_slices_IndexFunc_api_Bag_C_bag_Gather_2 x = slices_IndexFunc_api_Bag_C_bag_Gather_2 n x := by kernel_rfl
omit [UDef] [UTabs] in
theorem ok_slices_IndexFunc_api_Bag_C_bag_Gather_2 (n : Nat) : Contract Tryd.prog 82 F_slices_IndexFunc_api_Bag_C_bag_Gather_2 (slices_IndexFunc_api_Bag_C_bag_Gather_2 n) :=
  Contract.of_ev (c := C_slices_IndexFunc_api_Bag_C_bag_Gather_2) (N := 19) Tryd.func82 (by kernel_rfl) (by kernel_rfl) (by kernel_rfl) (by kernel_rfl) (O_slices_IndexFunc_api_Bag_C_bag_Gather_2_ok n) dorcNil_ok (.of (l := [(0, (lbody 1000 C_slices_IndexFunc_api_Bag_C_bag_Gather_2 0))]) (by kernel_rfl) ⟨.head (loopL_sound (O_slices_IndexFunc_api_Bag_C_bag_Gather_2_ok n) dorcNil_ok (.of (l := []) (by kernel_rfl) trivial) (s_slices_IndexFunc_api_Bag_C_bag_Gather_2_s0 n)), trivial⟩) (e_slices_IndexFunc_api_Bag_C_bag_Gather_2 n)

noncomputable def C_slices_DeleteFunc_api_Bag_C_bag_Gather_2 : Code := bodyOf Tryd.f60
noncomputable def M_slices_DeleteFunc_api_Bag_C_bag_Gather_2 : List (Nat × ArgM) := [(999999999, ⟨[1], [], [], false⟩), (82, ⟨[], [], [], true⟩), (61, ⟨[], [], [], true⟩)]
instance : DfOk M_slices_DeleteFunc_api_Bag_C_bag_Gather_2 := .none rfl
noncomputable def O_slices_DeleteFunc_api_Bag_C_bag_Gather_2 {ρ : Type} (n : Nat) : Orc ρ := orcCons 82 F_slices_IndexFunc_api_Bag_C_bag_Gather_2 (slices_IndexFunc_api_Bag_C_bag_Gather_2 n) (orcCons 61 F_bag_Gather_2 (bag_Gather_2) (orcNil))
omit [UDef] [UTabs] in
theorem O_slices_DeleteFunc_api_Bag_C_bag_Gather_2_ok {ρ : Type} (n : Nat) : (O_slices_DeleteFunc_api_Bag_C_bag_Gather_2 n : Orc ρ).ok Tryd.prog := orcCons_ok (by kernel_rfl) (ok_slices_IndexFunc_api_Bag_C_bag_Gather_2 n) (orcCons_ok (by kernel_rfl) (ok_bag_Gather_2) (orcNil_ok))
noncomputable def T_slices_DeleteFunc_api_Bag_C_bag_Gather_2_s0 : Tm := ⟨[(0, .own 1000000), (1, .fn 61)], [(5, .i64), (6, .i64)], [(1000000, .arr 32 .cnt)]⟩
noncomputable def X_slices_DeleteFunc_api_Bag_C_bag_Gather_2_s0 : Tm := ⟨[(0, .own 1000000)], [(5, .i64)], [(1000000, .arr 32 .cnt)]⟩
noncomputable def R_slices_DeleteFunc_api_Bag_C_bag_Gather_2_s0 : Tm := ⟨[], [], []⟩
noncomputable def L_slices_DeleteFunc_api_Bag_C_bag_Gather_2_s0 {ρ : Type} (n : Nat) : LOrc ρ := lorcNil
omit [Tabs] [QuietD Tryd.prog] [UDef] [UTabs] in
theorem s_slices_DeleteFunc_api_Bag_C_bag_Gather_2_s0 {ρ : Type} (n : Nat) (rec : T_slices_DeleteFunc_api_Bag_C_bag_Gather_2_s0.den → Option ρ) kx kr s : dStep Tryd.prog 42 TT M_slices_DeleteFunc_api_Bag_C_bag_Gather_2 (O_slices_DeleteFunc_api_Bag_C_bag_Gather_2 n) (L_slices_DeleteFunc_api_Bag_C_bag_Gather_2_s0 n) dorcNil 0 (lbody 1000 C_slices_DeleteFunc_api_Bag_C_bag_Gather_2 0) T_slices_DeleteFunc_api_Bag_C_bag_Gather_2_s0 X_slices_DeleteFunc_api_Bag_C_bag_Gather_2_s0 R_slices_DeleteFunc_api_Bag_C_bag_Gather_2_s0 ⟨[], [], []⟩ rec kx kr s = slices_DeleteFunc_api_Bag_C_bag_Gather_2_s0 n rec kx kr s := by kernel_rfl
noncomputable def L_slices_DeleteFunc_api_Bag_C_bag_Gather_2 {ρ : Type} (n : Nat) : LOrc ρ := lorcCons 0 (loopL 42 0 n T_slices_DeleteFunc_api_Bag_C_bag_Gather_2_s0 X_slices_DeleteFunc_api_Bag_C_bag_Gather_2_s0 R_slices_DeleteFunc_api_Bag_C_bag_Gather_2_s0 ⟨[], [], []⟩ (slices_DeleteFunc_api_Bag_C_bag_Gather_2_s0 n)) (lorcNil)
omit [Tabs] [QuietD Tryd.prog] [UDef] [UTabs] in
theorem e_slices_DeleteFunc_api_Bag_C_bag_Gather_2 (n : Nat) (x) : evF Tryd.prog 42 TT M_slices_DeleteFunc_api_Bag_C_bag_Gather_2 F_slices_DeleteFunc_api_Bag_C_bag_Gather_2 (O_slices_DeleteFunc_api_Bag_C_bag_Gather_2 n) (L_slices_DeleteFunc_api_Bag_C_bag_Gather_2 n) dorcNil ⟨[], [], []⟩ [.tmp 4] C_slices_DeleteFunc_api_Bag_C_bag_Gather_2 x = slices_DeleteFunc_api_Bag_C_bag_Gather_2 n x := by kernel_rfl
omit [UDef] [UTabs] in
theorem ok_slices_DeleteFunc_api_Bag_C_bag_Gather_2 (n : Nat) : Contract Tryd.prog 60 F_slices_DeleteFunc_api_Bag_C_bag_Gather_2 (slices_DeleteFunc_api_Bag_C_bag_Gather_2 n) :=
  Contract.of_ev (c := C_slices_DeleteFunc_api_Bag_C_bag_Gather_2) (N := 42) Tryd.func60 (by kernel_rfl) (by kernel_rfl) (by kernel_rfl) (by kernel_rfl) (O_slices_DeleteFunc_api_Bag_C_bag_Gather_2_ok n) dorcNil_ok (.of (l := [(0, (lbody 1000 C_slices_DeleteFunc_api_Bag_C_bag_Gather_2 0))]) (by kernel_rfl) ⟨.head (loopL_sound (O_slices_DeleteFunc_api_Bag_C_bag_Gather_2_ok n) dorcNil_ok (.of (l := []) (by kernel_rfl) trivial) (s_slices_DeleteFunc_api_Bag_C_bag_Gather_2_s0 n)), trivial⟩) (e_slices_DeleteFunc_api_Bag_C_bag_Gather_2 n)

noncomputable def C_bag_Gather : Code := bodyOf Tryd.f27
noncomputable def M_bag_Gather : List (Nat × ArgM) := [(999999999, ⟨[1], [], [], false⟩), (58, ⟨[1000], [], [], false⟩), (60, ⟨[0], [⟨0, 1000000, 32, 2⟩], [], false⟩), (22, ⟨[], [], [5], false⟩), (34, ⟨[], [], [], true⟩)]
instance : DfOk M_bag_Gather := .none rfl
noncomputable def O_bag_Gather {ρ : Type} (n : Nat) : Orc ρ := orcCons 22 F_slices_Clone_C_C_own (slices_Clone_C_C_own) (orcCons 58 F_slices_SortStableFunc_C_C_bag_Gather_1 (slices_SortStableFunc_C_C_bag_Gather_1 n) (orcCons 34 F_bag_Compare (bag_Compare n) (orcCons 51 F_bag_CopyRow (bag_CopyRow n) (orcCons 60 F_slices_DeleteFunc_api_Bag_C_bag_Gather_2 (slices_DeleteFunc_api_Bag_C_bag_Gather_2 n) (orcNil)))))
omit [UDef] [UTabs] in
theorem O_bag_Gather_ok {ρ : Type} (n : Nat) : (O_bag_Gather n : Orc ρ).ok Tryd.prog := orcCons_ok (by kernel_rfl) (ok_slices_Clone_C_C_own) (orcCons_ok (by kernel_rfl) (ok_slices_SortStableFunc_C_C_bag_Gather_1 n) (orcCons_ok (by kernel_rfl) (ok_bag_Compare n) (orcCons_ok (by kernel_rfl) (ok_bag_CopyRow n) (orcCons_ok (by kernel_rfl) (ok_slices_DeleteFunc_api_Bag_C_bag_Gather_2 n) (orcNil_ok)))))
noncomputable def T_bag_Gather_s0 : Tm := ⟨[(3, .own 3)], [(11, (.lst .cnt)), (12, .i64), (13, .i64)], [(3, .arr 32 .cnt)]⟩
noncomputable def X_bag_Gather_s0 : Tm := ⟨[(3, .own 3)], [], [(3, .arr 32 .cnt)]⟩
noncomputable def R_bag_Gather_s0 : Tm := ⟨[], [], []⟩
noncomputable def L_bag_Gather_s0 {ρ : Type} (n : Nat) : LOrc ρ := lorcNil
omit [Tabs] [QuietD Tryd.prog] [UDef] [UTabs] in
theorem s_bag_Gather_s0 {ρ : Type} (n : Nat) (rec : T_bag_Gather_s0.den → Option ρ) kx kr s : dStep Tryd.prog 55 TT M_bag_Gather (O_bag_Gather n) (L_bag_Gather_s0 n) (evDraw Tryd.prog 55 TT M_bag_Gather (O_bag_Gather n)) 0 (lbody 1000 C_bag_Gather 0) T_bag_Gather_s0 X_bag_Gather_s0 R_bag_Gather_s0 ⟨[8], [(3, 3, 32, 2)], []⟩ rec kx kr s = bag_Gather_s0 n rec kx kr s := by kernel_rfl
noncomputable def L_bag_Gather {ρ : Type} (n : Nat) : LOrc ρ := lorcCons 0 (loopL 55 0 n T_bag_Gather_s0 X_bag_Gather_s0 R_bag_Gather_s0 ⟨[8], [(3, 3, 32, 2)], []⟩ (bag_Gather_s0 n)) (lorcNil)
omit [Tabs] [QuietD Tryd.prog] [UDef] [UTabs] in
theorem e_bag_Gather (n : Nat) (x) : evF Tryd.prog 55 TT M_bag_Gather F_bag_Gather (O_bag_Gather n) (L_bag_Gather n) (evDraw Tryd.prog 55 TT M_bag_Gather (O_bag_Gather n)) ⟨[], [], []⟩ [.tmp 2] C_bag_Gather x = bag_Gather n x := by kernel_rfl
omit [UDef] [UTabs] in
theorem ok_bag_Gather (n : Nat) : Contract Tryd.prog 27 F_bag_Gather (bag_Gather n) :=
  Contract.of_ev (c := C_bag_Gather) (N := 55) Tryd.func27 (by kernel_rfl) (by kernel_rfl) (by kernel_rfl) (by kernel_rfl) (O_bag_Gather_ok n) (evDraw_ok (O_bag_Gather_ok n) (by kernel_rfl)) (.of (l := [(0, (lbody 1000 C_bag_Gather 0))]) (by kernel_rfl) ⟨.head (loopL_sound (O_bag_Gather_ok n) (evDraw_ok (O_bag_Gather_ok n) (by kernel_rfl)) (.of (l := []) (by kernel_rfl) trivial) (s_bag_Gather_s0 n)), trivial⟩) (e_bag_Gather n)

noncomputable def C_guest_Take : Code := bodyOf Tryd.f23
noncomputable def M_guest_Take : List (Nat × ArgM) := [(54, ⟨[], [], [], true⟩), (28, ⟨[], [], [], true⟩)]
instance : DfOk M_guest_Take := .none rfl
noncomputable def O_guest_Take {ρ : Type} (n : Nat) : Orc ρ := orcCons 54 F_guest_Check (guest_Check n) (orcCons 28 F_bag_Check (bag_Check n) (orcCons 55 F_guest_own (guest_own n) (orcCons 22 F_slices_Clone_C_C (slices_Clone_C_C) (orcCons 27 F_bag_Gather (bag_Gather n) (orcNil)))))
omit [UDef] in
theorem O_guest_Take_ok {ρ : Type} (n : Nat) : (O_guest_Take n : Orc ρ).ok Tryd.prog := orcCons_ok (by kernel_rfl) (ok_guest_Check n) (orcCons_ok (by kernel_rfl) (ok_bag_Check n) (orcCons_ok (by kernel_rfl) (ok_guest_own n) (orcCons_ok (by kernel_rfl) (ok_slices_Clone_C_C) (orcCons_ok (by kernel_rfl) (ok_bag_Gather n) (orcNil_ok)))))
noncomputable def T_guest_Take_s0 : Tm := ⟨[(6, .ptr 6 0), (12, .own 12)], [(43, (.lst (.lst .cnt))), (44, .i64), (45, .i64)], [(6, .box [.d .guest]), (12, .arr 32 .cnt)]⟩
noncomputable def X_guest_Take_s0 : Tm := ⟨[(6, .ptr 6 0), (12, .own 12)], [], [(6, .box [.d .guest]), (12, .arr 32 .cnt)]⟩
noncomputable def R_guest_Take_s0 : Tm := ⟨[], [], []⟩
noncomputable def L_guest_Take_s0 {ρ : Type} (n : Nat) : LOrc ρ := lorcNil
omit [Tabs] [QuietD Tryd.prog] [UDef] [UTabs] in
theorem s_guest_Take_s0 {ρ : Type} (n : Nat) (rec : T_guest_Take_s0.den → Option ρ) kx kr s : dStep Tryd.prog 64 TT M_guest_Take (O_guest_Take n) (L_guest_Take_s0 n) (evDraw Tryd.prog 64 TT M_guest_Take (O_guest_Take n)) 0 (lbody 1000 C_guest_Take 0) T_guest_Take_s0 X_guest_Take_s0 R_guest_Take_s0 ⟨[], [(12, 12, 32, 2)], []⟩ rec kx kr s = guest_Take_s0 n rec kx kr s := by kernel_rfl
noncomputable def L_guest_Take {ρ : Type} (n : Nat) : LOrc ρ := lorcCons 0 (loopL 64 0 n T_guest_Take_s0 X_guest_Take_s0 R_guest_Take_s0 ⟨[], [(12, 12, 32, 2)], []⟩ (guest_Take_s0 n)) (lorcNil)
omit [Tabs] [QuietD Tryd.prog] [UDef] [UTabs] in
theorem e_guest_Take (n : Nat) (x) : evF Tryd.prog 64 TT M_guest_Take F_guest_Take (O_guest_Take n) (L_guest_Take n) (evDraw Tryd.prog 64 TT M_guest_Take (O_guest_Take n)) ⟨[], [], []⟩ [.cell 6 54, .tmp 7, .tmp 8, .tmp 9] C_guest_Take x = guest_Take n x := by kernel_rfl
omit [UDef] in
theorem ok_guest_Take (n : Nat) : Contract Tryd.prog 23 F_guest_Take (guest_Take n) :=
  Contract.of_ev (c := C_guest_Take) (N := 64) Tryd.func23 (by kernel_rfl) (by kernel_rfl) (by kernel_rfl) (by kernel_rfl) (O_guest_Take_ok n) (evDraw_ok (O_guest_Take_ok n) (by kernel_rfl)) (.of (l := [(0, (lbody 1000 C_guest_Take 0))]) (by kernel_rfl) ⟨.head (loopL_sound (O_guest_Take_ok n) (evDraw_ok (O_guest_Take_ok n) (by kernel_rfl)) (.of (l := []) (by kernel_rfl) trivial) (s_guest_Take_s0 n)), trivial⟩) (e_guest_Take n)

noncomputable def F_eL_checkGuest : FnT := ⟨1, ⟨[], [(0, .guest)], []⟩, [.v .i64], []⟩
noncomputable def F_eR_CheckBag : FnT := ⟨1, ⟨[], [(0, (.lst .cnt))], []⟩, [.v .i64], []⟩
noncomputable def F_eR_CheckValue : FnT := ⟨2, ⟨[], [(0, .val), (1, .i64)], []⟩, [.v .i64], []⟩
noncomputable def C_eR_CheckValue : Code := bodyOf Tryd.f38
noncomputable def M_eR_CheckValue : List (Nat × ArgM) := [(38, ⟨[], [], [], true⟩), (70, ⟨[], [], [], true⟩)]
instance : DfOk M_eR_CheckValue := .none rfl
noncomputable def O_eR_CheckValue {ρ : Type} (self_eR_CheckValue : Ev.Val × Int × Unit → Option (Int × Unit)) (n : Nat) : Orc ρ := orcCons 38 F_eR_CheckValue (self_eR_CheckValue) (orcCons 70 F_valid (validN) (orcNil))
omit [QuietD Tryd.prog] [UDef] in
theorem O_eR_CheckValue_ok {ρ : Type} (self_eR_CheckValue : Ev.Val × Int × Unit → Option (Int × Unit)) (h_eR_CheckValue : Contract Tryd.prog 38 F_eR_CheckValue self_eR_CheckValue) (n : Nat) : (O_eR_CheckValue self_eR_CheckValue n : Orc ρ).ok Tryd.prog := orcCons_ok (by kernel_rfl) (h_eR_CheckValue) (orcCons_ok (by kernel_rfl) (validN_ok) (orcNil_ok))
noncomputable def T_eR_CheckValue_s1 : Tm := ⟨[], [(1, .i64), (5, .bool), (6, .bool), (34, (.lst .val)), (35, .i64), (36, .i64)], []⟩
noncomputable def X_eR_CheckValue_s1 : Tm := ⟨[], [(5, .bool), (6, .bool)], []⟩
noncomputable def R_eR_CheckValue_s1 : Tm := ⟨[], [(4, .i64)], []⟩
noncomputable def L_eR_CheckValue_s1 {ρ : Type} (self_eR_CheckValue : Ev.Val × Int × Unit → Option (Int × Unit)) (n : Nat) : LOrc ρ := lorcNil
omit [Tabs] [QuietD Tryd.prog] [UDef] [UTabs] in
theorem s_eR_CheckValue_s1 {ρ : Type} (self_eR_CheckValue : Ev.Val × Int × Unit → Option (Int × Unit)) (n : Nat) (rec : T_eR_CheckValue_s1.den → Option ρ) kx kr s : dStep Tryd.prog 96 TT M_eR_CheckValue (O_eR_CheckValue self_eR_CheckValue n) (L_eR_CheckValue_s1 self_eR_CheckValue n) (evDraw Tryd.prog 96 TT M_eR_CheckValue (O_eR_CheckValue self_eR_CheckValue n)) 1 (lbody 1000 C_eR_CheckValue 0) T_eR_CheckValue_s1 X_eR_CheckValue_s1 R_eR_CheckValue_s1 ⟨[], [], []⟩ rec kx kr s = eR_CheckValue_s1 self_eR_CheckValue n rec kx kr s := by kernel_rfl
noncomputable def L_eR_CheckValue {ρ : Type} (self_eR_CheckValue : Ev.Val × Int × Unit → Option (Int × Unit)) (n : Nat) : LOrc ρ := lorcCons 1 (loopL 96 1 n T_eR_CheckValue_s1 X_eR_CheckValue_s1 R_eR_CheckValue_s1 ⟨[], [], []⟩ (eR_CheckValue_s1 self_eR_CheckValue n)) (lorcNil)
omit [Tabs] [QuietD Tryd.prog] [UDef] [UTabs] in
theorem e_eR_CheckValue (self_eR_CheckValue : Ev.Val × Int × Unit → Option (Int × Unit)) (n : Nat) (x) : evF Tryd.prog 96 TT M_eR_CheckValue F_eR_CheckValue (O_eR_CheckValue self_eR_CheckValue n) (L_eR_CheckValue self_eR_CheckValue n) (evDraw Tryd.prog 96 TT M_eR_CheckValue (O_eR_CheckValue self_eR_CheckValue n)) ⟨[], [], []⟩ [.tmp 4] C_eR_CheckValue x = eR_CheckValue_b self_eR_CheckValue n x := by kernel_rfl
omit [UDef] in
theorem okb_eR_CheckValue (self_eR_CheckValue : Ev.Val × Int × Unit → Option (Int × Unit)) (h_eR_CheckValue : Contract Tryd.prog 38 F_eR_CheckValue self_eR_CheckValue) (n : Nat) : Contract Tryd.prog 38 F_eR_CheckValue (eR_CheckValue_b self_eR_CheckValue n) :=
  Contract.of_ev (c := C_eR_CheckValue) (N := 96) Tryd.func38 (by kernel_rfl) (by kernel_rfl) (by kernel_rfl) (by kernel_rfl) (O_eR_CheckValue_ok self_eR_CheckValue h_eR_CheckValue n) (evDraw_ok (O_eR_CheckValue_ok self_eR_CheckValue h_eR_CheckValue n) (by kernel_rfl)) (.of (l := [(1, (lbody 1000 C_eR_CheckValue 0))]) (by kernel_rfl) ⟨.head (loopL_sound (O_eR_CheckValue_ok self_eR_CheckValue h_eR_CheckValue n) (evDraw_ok (O_eR_CheckValue_ok self_eR_CheckValue h_eR_CheckValue n) (by kernel_rfl)) (.of (l := []) (by kernel_rfl) trivial) (s_eR_CheckValue_s1 self_eR_CheckValue n)), trivial⟩) (e_eR_CheckValue self_eR_CheckValue n)
omit [UDef] in
theorem ok_eR_CheckValue : ∀ n, Contract Tryd.prog 38 F_eR_CheckValue (eR_CheckValue n)
  | 0 => fun _ _ h => by cases h
  | n + 1 => okb_eR_CheckValue _ (ok_eR_CheckValue n) n

noncomputable def F_eR_CompareRows : FnT := ⟨2, ⟨[], [(0, (.lst .val)), (1, (.lst .val))], []⟩, [.v .i64], []⟩
noncomputable def F_eR_OrderOf : FnT := ⟨2, ⟨[], [(0, .val), (1, .val)], []⟩, [.v .i64], []⟩
noncomputable def F_bytes_Compare : FnT := ⟨2, ⟨[], [(0, (.lst .u8)), (1, (.lst .u8))], []⟩, [.v .i64], []⟩
noncomputable def C_bytes_Compare : Code := bodyOf Tryd.f71
noncomputable def M_bytes_Compare : List (Nat × ArgM) := []
instance : DfOk M_bytes_Compare := .none rfl
noncomputable def O_bytes_Compare {ρ : Type} : Orc ρ := orcCons 100 T_cmpB (cmpN) (orcNil)
omit [QuietD Tryd.prog] [UDef] [UTabs] in
theorem O_bytes_Compare_ok {ρ : Type} : (O_bytes_Compare : Orc ρ).ok Tryd.prog := orcExt_ok (by kernel_rfl) (cmp_ok) (orcNil_ok)
noncomputable def L_bytes_Compare {ρ : Type} : LOrc ρ := lorcNil
omit [Tabs] [QuietD Tryd.prog] [UDef] [UTabs] in
theorem e_bytes_Compare (x) : evF Tryd.prog 8 TT M_bytes_Compare F_bytes_Compare (O_bytes_Compare) (L_bytes_Compare) dorcNil ⟨[], [], []⟩ [.tmp 4] C_bytes_Compare x = bytes_Compare x := by kernel_rfl
omit [UDef] [UTabs] in
theorem ok_bytes_Compare : Contract Tryd.prog 71 F_bytes_Compare (bytes_Compare) :=
  Contract.of_ev (c := C_bytes_Compare) (N := 8) Tryd.func71 (by kernel_rfl) (by kernel_rfl) (by kernel_rfl) (by kernel_rfl) (O_bytes_Compare_ok) dorcNil_ok (.of (l := []) (by kernel_rfl) trivial) (e_bytes_Compare)

noncomputable def C_eR_OrderOf : Code := bodyOf Tryd.f39
noncomputable def M_eR_OrderOf : List (Nat × ArgM) := [(71, ⟨[], [], [], true⟩), (39, ⟨[], [], [], true⟩)]
instance : DfOk M_eR_OrderOf := .none rfl
noncomputable def O_eR_OrderOf {ρ : Type} (self_eR_OrderOf : Ev.Val × Ev.Val × Unit → Option (Int × Unit)) (n : Nat) : Orc ρ := orcCons 71 F_bytes_Compare (bytes_Compare) (orcCons 39 F_eR_OrderOf (self_eR_OrderOf) (orcNil))
omit [UDef] [UTabs] in
theorem O_eR_OrderOf_ok {ρ : Type} (self_eR_OrderOf : Ev.Val × Ev.Val × Unit → Option (Int × Unit)) (h_eR_OrderOf : Contract Tryd.prog 39 F_eR_OrderOf self_eR_OrderOf) (n : Nat) : (O_eR_OrderOf self_eR_OrderOf n : Orc ρ).ok Tryd.prog := orcCons_ok (by kernel_rfl) (ok_bytes_Compare) (orcCons_ok (by kernel_rfl) (h_eR_OrderOf) (orcNil_ok))
noncomputable def T_eR_OrderOf_s1 : Tm := ⟨[(2, .ptr 2 0), (3, .ptr 3 0)], [(5, .i64)], [(2, .box [.d .val]), (3, .box [.d .val])]⟩
noncomputable def X_eR_OrderOf_s1 : Tm := ⟨[(2, .ptr 2 0), (3, .ptr 3 0)], [], [(2, .box [.d .val]), (3, .box [.d .val])]⟩
noncomputable def R_eR_OrderOf_s1 : Tm := ⟨[], [(4, .i64)], []⟩
noncomputable def L_eR_OrderOf_s1 {ρ : Type} (self_eR_OrderOf : Ev.Val × Ev.Val × Unit → Option (Int × Unit)) (n : Nat) : LOrc ρ := lorcNil
omit [Tabs] [QuietD Tryd.prog] [UDef] [UTabs] in
theorem s_eR_OrderOf_s1 {ρ : Type} (self_eR_OrderOf : Ev.Val × Ev.Val × Unit → Option (Int × Unit)) (n : Nat) (rec : T_eR_OrderOf_s1.den → Option ρ) kx kr s : dStep Tryd.prog 88 TT M_eR_OrderOf (O_eR_OrderOf self_eR_OrderOf n) (L_eR_OrderOf_s1 self_eR_OrderOf n) (evDraw Tryd.prog 88 TT M_eR_OrderOf (O_eR_OrderOf self_eR_OrderOf n)) 1 (lbody 1000 C_eR_OrderOf 0) T_eR_OrderOf_s1 X_eR_OrderOf_s1 R_eR_OrderOf_s1 ⟨[], [], []⟩ rec kx kr s = eR_OrderOf_s1 self_eR_OrderOf n rec kx kr s := by kernel_rfl
noncomputable def L_eR_OrderOf {ρ : Type} (self_eR_OrderOf : Ev.Val × Ev.Val × Unit → Option (Int × Unit)) (n : Nat) : LOrc ρ := lorcCons 1 (loopL 88 1 n T_eR_OrderOf_s1 X_eR_OrderOf_s1 R_eR_OrderOf_s1 ⟨[], [], []⟩ (eR_OrderOf_s1 self_eR_OrderOf n)) (lorcNil)
omit [Tabs] [QuietD Tryd.prog] [UDef] [UTabs] in
theorem e_eR_OrderOf (self_eR_OrderOf : Ev.Val × Ev.Val × Unit → Option (Int × Unit)) (n : Nat) (x) : evF Tryd.prog 88 TT M_eR_OrderOf F_eR_OrderOf (O_eR_OrderOf self_eR_OrderOf n) (L_eR_OrderOf self_eR_OrderOf n) (evDraw Tryd.prog 88 TT M_eR_OrderOf (O_eR_OrderOf self_eR_OrderOf n)) ⟨[], [], []⟩ [.tmp 4] C_eR_OrderOf x = eR_OrderOf_b self_eR_OrderOf n x := by kernel_rfl
omit [UDef] [UTabs] in
theorem okb_eR_OrderOf (self_eR_OrderOf : Ev.Val × Ev.Val × Unit → Option (Int × Unit)) (h_eR_OrderOf : Contract Tryd.prog 39 F_eR_OrderOf self_eR_OrderOf) (n : Nat) : Contract Tryd.prog 39 F_eR_OrderOf (eR_OrderOf_b self_eR_OrderOf n) :=
  Contract.of_ev (c := C_eR_OrderOf) (N := 88) Tryd.func39 (by kernel_rfl) (by kernel_rfl) (by kernel_rfl) (by kernel_rfl) (O_eR_OrderOf_ok self_eR_OrderOf h_eR_OrderOf n) (evDraw_ok (O_eR_OrderOf_ok self_eR_OrderOf h_eR_OrderOf n) (by kernel_rfl)) (.of (l := [(1, (lbody 1000 C_eR_OrderOf 0))]) (by kernel_rfl) ⟨.head (loopL_sound (O_eR_OrderOf_ok self_eR_OrderOf h_eR_OrderOf n) (evDraw_ok (O_eR_OrderOf_ok self_eR_OrderOf h_eR_OrderOf n) (by kernel_rfl)) (.of (l := []) (by kernel_rfl) trivial) (s_eR_OrderOf_s1 self_eR_OrderOf n)), trivial⟩) (e_eR_OrderOf self_eR_OrderOf n)
omit [UDef] [UTabs] in
theorem ok_eR_OrderOf : ∀ n, Contract Tryd.prog 39 F_eR_OrderOf (eR_OrderOf n)
  | 0 => fun _ _ h => by cases h
  | n + 1 => okb_eR_OrderOf _ (ok_eR_OrderOf n) n

noncomputable def C_eR_CompareRows : Code := bodyOf Tryd.f31
noncomputable def M_eR_CompareRows : List (Nat × ArgM) := [(39, ⟨[], [], [], true⟩)]
instance : DfOk M_eR_CompareRows := .none rfl
noncomputable def O_eR_CompareRows {ρ : Type} (n : Nat) : Orc ρ := orcCons 39 F_eR_OrderOf (eR_OrderOf n) (orcNil)
omit [UDef] [UTabs] in
theorem O_eR_CompareRows_ok {ρ : Type} (n : Nat) : (O_eR_CompareRows n : Orc ρ).ok Tryd.prog := orcCons_ok (by kernel_rfl) (ok_eR_OrderOf n) (orcNil_ok)
noncomputable def L_eR_CompareRows {ρ : Type} (n : Nat) : LOrc ρ := lorcNil
omit [Tabs] [QuietD Tryd.prog] [UDef] [UTabs] in
theorem e_eR_CompareRows (n : Nat) (x) : evF Tryd.prog 10 TT M_eR_CompareRows F_eR_CompareRows (O_eR_CompareRows n) (L_eR_CompareRows n) dorcNil ⟨[], [], []⟩ [.tmp 4] C_eR_CompareRows x = eR_CompareRows n x := by kernel_rfl
omit [UDef] [UTabs] in
theorem ok_eR_CompareRows (n : Nat) : Contract Tryd.prog 31 F_eR_CompareRows (eR_CompareRows n) :=
  Contract.of_ev (c := C_eR_CompareRows) (N := 10) Tryd.func31 (by kernel_rfl) (by kernel_rfl) (by kernel_rfl) (by kernel_rfl) (O_eR_CompareRows_ok n) dorcNil_ok (.of (l := []) (by kernel_rfl) trivial) (e_eR_CompareRows n)

noncomputable def C_eR_CheckBag : Code := bodyOf Tryd.f13
noncomputable def M_eR_CheckBag : List (Nat × ArgM) := [(38, ⟨[], [], [], true⟩), (31, ⟨[], [], [], true⟩)]
instance : DfOk M_eR_CheckBag := .none rfl
noncomputable def O_eR_CheckBag {ρ : Type} (n : Nat) : Orc ρ := orcCons 38 F_eR_CheckValue (eR_CheckValue n) (orcCons 31 F_eR_CompareRows (eR_CompareRows n) (orcNil))
omit [UDef] in
theorem O_eR_CheckBag_ok {ρ : Type} (n : Nat) : (O_eR_CheckBag n : Orc ρ).ok Tryd.prog := orcCons_ok (by kernel_rfl) (ok_eR_CheckValue n) (orcCons_ok (by kernel_rfl) (ok_eR_CompareRows n) (orcNil_ok))
noncomputable def T_eR_CheckBag_s2 : Tm := ⟨[(4, .ptr 4 0)], [(0, (.lst .cnt)), (3, .i64), (11, (.lst .cnt)), (12, .i64), (13, .i64), (23, (.lst .val)), (24, .i64), (25, .i64)], [(4, .box [.d .cnt])]⟩
noncomputable def X_eR_CheckBag_s2 : Tm := ⟨[(4, .ptr 4 0)], [(0, (.lst .cnt)), (3, .i64), (11, (.lst .cnt)), (12, .i64), (13, .i64)], [(4, .box [.d .cnt])]⟩
noncomputable def R_eR_CheckBag_s2 : Tm := ⟨[], [(2, .i64)], []⟩
noncomputable def L_eR_CheckBag_s2 {ρ : Type} (n : Nat) : LOrc ρ := lorcNil
omit [Tabs] [QuietD Tryd.prog] [UDef] [UTabs] in
theorem s_eR_CheckBag_s2 {ρ : Type} (n : Nat) (rec : T_eR_CheckBag_s2.den → Option ρ) kx kr s : dStep Tryd.prog 63 TT M_eR_CheckBag (O_eR_CheckBag n) (L_eR_CheckBag_s2 n) (evDraw Tryd.prog 63 TT M_eR_CheckBag (O_eR_CheckBag n)) 2 (lbody 0 (lbody 1000 C_eR_CheckBag 0) 0) T_eR_CheckBag_s2 X_eR_CheckBag_s2 R_eR_CheckBag_s2 ⟨[], [], []⟩ rec kx kr s = eR_CheckBag_s2 n rec kx kr s := by kernel_rfl
noncomputable def T_eR_CheckBag_s0 : Tm := ⟨[], [(0, (.lst .cnt)), (11, (.lst .cnt)), (12, .i64), (13, .i64)], []⟩
noncomputable def X_eR_CheckBag_s0 : Tm := ⟨[], [], []⟩
noncomputable def R_eR_CheckBag_s0 : Tm := ⟨[], [(2, .i64)], []⟩
noncomputable def L_eR_CheckBag_s0 {ρ : Type} (n : Nat) : LOrc ρ := lorcCons 2 (loopL 63 2 n T_eR_CheckBag_s2 X_eR_CheckBag_s2 R_eR_CheckBag_s2 ⟨[], [], []⟩ (eR_CheckBag_s2 n)) (lorcNil)
omit [Tabs] [QuietD Tryd.prog] [UDef] [UTabs] in
theorem s_eR_CheckBag_s0 {ρ : Type} (n : Nat) (rec : T_eR_CheckBag_s0.den → Option ρ) kx kr s : dStep Tryd.prog 63 TT M_eR_CheckBag (O_eR_CheckBag n) (L_eR_CheckBag_s0 n) (evDraw Tryd.prog 63 TT M_eR_CheckBag (O_eR_CheckBag n)) 0 (lbody 1000 C_eR_CheckBag 0) T_eR_CheckBag_s0 X_eR_CheckBag_s0 R_eR_CheckBag_s0 ⟨[], [], []⟩ rec kx kr s = eR_CheckBag_s0 n rec kx kr s := by kernel_rfl
noncomputable def L_eR_CheckBag {ρ : Type} (n : Nat) : LOrc ρ := lorcCons 0 (loopL 63 0 n T_eR_CheckBag_s0 X_eR_CheckBag_s0 R_eR_CheckBag_s0 ⟨[], [], []⟩ (eR_CheckBag_s0 n)) (lorcNil)
omit [Tabs] [QuietD Tryd.prog] [UDef] [UTabs] in
theorem e_eR_CheckBag (n : Nat) (x) : evF Tryd.prog 63 TT M_eR_CheckBag F_eR_CheckBag (O_eR_CheckBag n) (L_eR_CheckBag n) (evDraw Tryd.prog 63 TT M_eR_CheckBag (O_eR_CheckBag n)) ⟨[], [], []⟩ [.tmp 2] C_eR_CheckBag x = eR_CheckBag n x := by kernel_rfl
omit [UDef] in
theorem ok_eR_CheckBag (n : Nat) : Contract Tryd.prog 13 F_eR_CheckBag (eR_CheckBag n) :=
  Contract.of_ev (c := C_eR_CheckBag) (N := 63) Tryd.func13 (by kernel_rfl) (by kernel_rfl) (by kernel_rfl) (by kernel_rfl) (O_eR_CheckBag_ok n) (evDraw_ok (O_eR_CheckBag_ok n) (by kernel_rfl)) (.of (l := [(0, (lbody 1000 C_eR_CheckBag 0))]) (by kernel_rfl) ⟨.head (loopL_sound (O_eR_CheckBag_ok n) (evDraw_ok (O_eR_CheckBag_ok n) (by kernel_rfl)) (.of (l := [(2, (lbody 0 (lbody 1000 C_eR_CheckBag 0) 0))]) (by kernel_rfl) ⟨.head (loopL_sound (O_eR_CheckBag_ok n) (evDraw_ok (O_eR_CheckBag_ok n) (by kernel_rfl)) (.of (l := []) (by kernel_rfl) trivial) (s_eR_CheckBag_s2 n)), trivial⟩) (s_eR_CheckBag_s0 n)), trivial⟩) (e_eR_CheckBag n)

noncomputable def C_eL_checkGuest : Code := bodyOf Tryd.f24
noncomputable def M_eL_checkGuest : List (Nat × ArgM) := [(13, ⟨[], [], [], true⟩)]
instance : DfOk M_eL_checkGuest := .none rfl
noncomputable def O_eL_checkGuest {ρ : Type} (n : Nat) : Orc ρ := orcCons 13 F_eR_CheckBag (eR_CheckBag n) (orcNil)
omit [UDef] in
theorem O_eL_checkGuest_ok {ρ : Type} (n : Nat) : (O_eL_checkGuest n : Orc ρ).ok Tryd.prog := orcCons_ok (by kernel_rfl) (ok_eR_CheckBag n) (orcNil_ok)
noncomputable def T_eL_checkGuest_s0 : Tm := ⟨[(1, .ptr 1 0)], [(3, .i64), (16, (.lst (.lst .cnt))), (17, .i64), (18, .i64)], [(1, .box [.d .guest])]⟩
noncomputable def X_eL_checkGuest_s0 : Tm := ⟨[(1, .ptr 1 0)], [(3, .i64)], [(1, .box [.d .guest])]⟩
noncomputable def R_eL_checkGuest_s0 : Tm := ⟨[], [(2, .i64)], []⟩
noncomputable def L_eL_checkGuest_s0 {ρ : Type} (n : Nat) : LOrc ρ := lorcNil
omit [Tabs] [QuietD Tryd.prog] [UDef] [UTabs] in
theorem s_eL_checkGuest_s0 {ρ : Type} (n : Nat) (rec : T_eL_checkGuest_s0.den → Option ρ) kx kr s : dStep Tryd.prog 45 TT M_eL_checkGuest (O_eL_checkGuest n) (L_eL_checkGuest_s0 n) dorcNil 0 (lbody 1000 C_eL_checkGuest 0) T_eL_checkGuest_s0 X_eL_checkGuest_s0 R_eL_checkGuest_s0 ⟨[], [], []⟩ rec kx kr s = eL_checkGuest_s0 n rec kx kr s := by kernel_rfl
noncomputable def L_eL_checkGuest {ρ : Type} (n : Nat) : LOrc ρ := lorcCons 0 (loopL 45 0 n T_eL_checkGuest_s0 X_eL_checkGuest_s0 R_eL_checkGuest_s0 ⟨[], [], []⟩ (eL_checkGuest_s0 n)) (lorcNil)
omit [Tabs] [QuietD Tryd.prog] [UDef] [UTabs] in
theorem e_eL_checkGuest (n : Nat) (x) : evF Tryd.prog 45 TT M_eL_checkGuest F_eL_checkGuest (O_eL_checkGuest n) (L_eL_checkGuest n) dorcNil ⟨[], [], []⟩ [.tmp 2] C_eL_checkGuest x = eL_checkGuest n x := by kernel_rfl
omit [UDef] in
theorem ok_eL_checkGuest (n : Nat) : Contract Tryd.prog 24 F_eL_checkGuest (eL_checkGuest n) :=
  Contract.of_ev (c := C_eL_checkGuest) (N := 45) Tryd.func24 (by kernel_rfl) (by kernel_rfl) (by kernel_rfl) (by kernel_rfl) (O_eL_checkGuest_ok n) dorcNil_ok (.of (l := [(0, (lbody 1000 C_eL_checkGuest 0))]) (by kernel_rfl) ⟨.head (loopL_sound (O_eL_checkGuest_ok n) dorcNil_ok (.of (l := []) (by kernel_rfl) trivial) (s_eL_checkGuest_s0 n)), trivial⟩) (e_eL_checkGuest n)

noncomputable def F_eR_BagOf : FnT := ⟨1, ⟨[], [(0, (.lst .cnt))], []⟩, [.v (.lst .cnt)], []⟩
noncomputable def F_sort_stable_func_two_eR_BagOf_1_c : FnT := ⟨2, ⟨[(0, .two (.clo 30 [2000000]) (.cls 92 2000001 3 32))], [(1, .i64)], [(2000000, .box [.ref (.own 2000001)]), (2000001, .arr 32 .cnt)]⟩, [], [(2000000, .box [.ref (.own 2000001)]), (2000001, .arr 32 .cnt)]⟩
noncomputable def F_sort_insertionSort_func_two_eR_BagOf_1_c : FnT := ⟨3, ⟨[(0, .two (.clo 30 [2000000]) (.cls 92 2000001 3 32))], [(1, .i64), (2, .i64)], [(2000000, .box [.ref (.own 2000001)]), (2000001, .arr 32 .cnt)]⟩, [], [(2000000, .box [.ref (.own 2000001)]), (2000001, .arr 32 .cnt)]⟩
noncomputable def F_eR_BagOf_1 : FnT := ⟨3, ⟨[(2, .ptr 2000000 0)], [(0, .i64), (1, .i64)], [(2000000, .box [.ref (.own 2000001)]), (2000001, .arr 32 .cnt)]⟩, [.v .bool], [(2000000, .box [.ref (.own 2000001)]), (2000001, .arr 32 .cnt)]⟩
noncomputable def C_eR_BagOf_1 : Code := bodyOf Tryd.f30
noncomputable def M_eR_BagOf_1 : List (Nat × ArgM) := [(999999999, ⟨[1], [], [], false⟩), (31, ⟨[], [], [], true⟩)]
instance : DfOk M_eR_BagOf_1 := .none rfl
noncomputable def O_eR_BagOf_1 {ρ : Type} (n : Nat) : Orc ρ := orcCons 31 F_eR_CompareRows (eR_CompareRows n) (orcNil)
omit [UDef] [UTabs] in
theorem O_eR_BagOf_1_ok {ρ : Type} (n : Nat) : (O_eR_BagOf_1 n : Orc ρ).ok Tryd.prog := orcCons_ok (by kernel_rfl) (ok_eR_CompareRows n) (orcNil_ok)
noncomputable def L_eR_BagOf_1 {ρ : Type} (n : Nat) : LOrc ρ := lorcNil
omit [Tabs] [QuietD Tryd.prog] [UDef] [UTabs] in
theorem e_eR_BagOf_1 (n : Nat) (x) : evF Tryd.prog 18 TT M_eR_BagOf_1 F_eR_BagOf_1 (O_eR_BagOf_1 n) (L_eR_BagOf_1 n) (evDraw Tryd.prog 18 TT M_eR_BagOf_1 (O_eR_BagOf_1 n)) ⟨[], [], []⟩ [.tmp 5] C_eR_BagOf_1 x = eR_BagOf_1 n x := by kernel_rfl
omit [UDef] [UTabs] in
theorem ok_eR_BagOf_1 (n : Nat) : Contract Tryd.prog 30 F_eR_BagOf_1 (eR_BagOf_1 n) :=
  Contract.of_ev (c := C_eR_BagOf_1) (N := 18) Tryd.func30 (by kernel_rfl) (by kernel_rfl) (by kernel_rfl) (by kernel_rfl) (O_eR_BagOf_1_ok n) (evDraw_ok (O_eR_BagOf_1_ok n) (by kernel_rfl)) (.of (l := []) (by kernel_rfl) trivial) (e_eR_BagOf_1 n)

noncomputable def C_sort_insertionSort_func_two_eR_BagOf_1_c : Code := bodyOf Tryd.f93
noncomputable def M_sort_insertionSort_func_two_eR_BagOf_1_c : List (Nat × ArgM) := [(999999999, ⟨[1], [], [], false⟩), (30, ⟨[1002], [], [], false⟩), (92, ⟨[1002], [], [], false⟩)]
instance : DfOk M_sort_insertionSort_func_two_eR_BagOf_1_c := .none rfl
noncomputable def O_sort_insertionSort_func_two_eR_BagOf_1_c {ρ : Type} (n : Nat) : Orc ρ := orcCons 30 F_eR_BagOf_1 (eR_BagOf_1 n) (orcXA 92 (F_swap 3 32) (swapN) (orcNil))
omit [UDef] [UTabs] in
theorem O_sort_insertionSort_func_two_eR_BagOf_1_c_ok {ρ : Type} (n : Nat) : (O_sort_insertionSort_func_two_eR_BagOf_1_c n : Orc ρ).ok Tryd.prog := orcCons_ok (by kernel_rfl) (ok_eR_BagOf_1 n) (orcXA_ok (by kernel_rfl) (swapN_ok) (orcNil_ok))
noncomputable def T_sort_insertionSort_func_two_eR_BagOf_1_c_s2 : Tm := ⟨[(3, .ptr 3 0)], [(1, .i64), (2, .i64), (6, .i64), (7, .i64)], [(3, .box [.ref (.clo 30 [2000000]), .ref (.cls 92 2000001 3 32)]), (2000000, .box [.ref (.own 2000001)]), (2000001, .arr 32 .cnt)]⟩
noncomputable def X_sort_insertionSort_func_two_eR_BagOf_1_c_s2 : Tm := ⟨[(3, .ptr 3 0)], [(1, .i64), (2, .i64), (6, .i64)], [(3, .box [.ref (.clo 30 [2000000]), .ref (.cls 92 2000001 3 32)]), (2000000, .box [.ref (.own 2000001)]), (2000001, .arr 32 .cnt)]⟩
noncomputable def R_sort_insertionSort_func_two_eR_BagOf_1_c_s2 : Tm := ⟨[], [], []⟩
noncomputable def L_sort_insertionSort_func_two_eR_BagOf_1_c_s2 {ρ : Type} (n : Nat) : LOrc ρ := lorcNil
omit [Tabs] [QuietD Tryd.prog] [UDef] [UTabs] in
theorem s_sort_insertionSort_func_two_eR_BagOf_1_c_s2 {ρ : Type} (n : Nat) (rec : T_sort_insertionSort_func_two_eR_BagOf_1_c_s2.den → Option ρ) kx kr s : dStep Tryd.prog 35 TT M_sort_insertionSort_func_two_eR_BagOf_1_c (O_sort_insertionSort_func_two_eR_BagOf_1_c n) (L_sort_insertionSort_func_two_eR_BagOf_1_c_s2 n) dorcNil 2 (lbody 0 (lbody 1000 C_sort_insertionSort_func_two_eR_BagOf_1_c 0) 0) T_sort_insertionSort_func_two_eR_BagOf_1_c_s2 X_sort_insertionSort_func_two_eR_BagOf_1_c_s2 R_sort_insertionSort_func_two_eR_BagOf_1_c_s2 ⟨[], [], []⟩ rec kx kr s = sort_insertionSort_func_two_eR_BagOf_1_c_s2 n rec kx kr s := by kernel_rfl
noncomputable def T_sort_insertionSort_func_two_eR_BagOf_1_c_s0 : Tm := ⟨[(3, .ptr 3 0)], [(1, .i64), (2, .i64), (6, .i64)], [(3, .box [.ref (.clo 30 [2000000]), .ref (.cls 92 2000001 3 32)]), (2000000, .box [.ref (.own 2000001)]), (2000001, .arr 32 .cnt)]⟩
noncomputable def X_sort_insertionSort_func_two_eR_BagOf_1_c_s0 : Tm := ⟨[], [], [(2000000, .box [.ref (.own 2000001)]), (2000001, .arr 32 .cnt)]⟩
noncomputable def R_sort_insertionSort_func_two_eR_BagOf_1_c_s0 : Tm := ⟨[], [], []⟩
noncomputable def L_sort_insertionSort_func_two_eR_BagOf_1_c_s0 {ρ : Type} (n : Nat) : LOrc ρ := lorcCons 2 (loopL 35 2 n T_sort_insertionSort_func_two_eR_BagOf_1_c_s2 X_sort_insertionSort_func_two_eR_BagOf_1_c_s2 R_sort_insertionSort_func_two_eR_BagOf_1_c_s2 ⟨[], [], []⟩ (sort_insertionSort_func_two_eR_BagOf_1_c_s2 n)) (lorcNil)
omit [Tabs] [QuietD Tryd.prog] [UDef] [UTabs] in
theorem s_sort_insertionSort_func_two_eR_BagOf_1_c_s0 {ρ : Type} (n : Nat) (rec : T_sort_insertionSort_func_two_eR_BagOf_1_c_s0.den → Option ρ) kx kr s : dStep Tryd.prog 35 TT M_sort_insertionSort_func_two_eR_BagOf_1_c (O_sort_insertionSort_func_two_eR_BagOf_1_c n) (L_sort_insertionSort_func_two_eR_BagOf_1_c_s0 n) dorcNil 0 (lbody 1000 C_sort_insertionSort_func_two_eR_BagOf_1_c 0) T_sort_insertionSort_func_two_eR_BagOf_1_c_s0 X_sort_insertionSort_func_two_eR_BagOf_1_c_s0 R_sort_insertionSort_func_two_eR_BagOf_1_c_s0 ⟨[], [], []⟩ rec kx kr s = sort_insertionSort_func_two_eR_BagOf_1_c_s0 n rec kx kr s := by kernel_rfl
noncomputable def L_sort_insertionSort_func_two_eR_BagOf_1_c {ρ : Type} (n : Nat) : LOrc ρ := lorcCons 0 (loopL 35 0 n T_sort_insertionSort_func_two_eR_BagOf_1_c_s0 X_sort_insertionSort_func_two_eR_BagOf_1_c_s0 R_sort_insertionSort_func_two_eR_BagOf_1_c_s0 ⟨[], [], []⟩ (sort_insertionSort_func_two_eR_BagOf_1_c_s0 n)) (lorcNil)
omit [Tabs] [QuietD Tryd.prog] [UDef] [UTabs] in
theorem e_sort_insertionSort_func_two_eR_BagOf_1_c (n : Nat) (x) : evF Tryd.prog 35 TT M_sort_insertionSort_func_two_eR_BagOf_1_c F_sort_insertionSort_func_two_eR_BagOf_1_c (O_sort_insertionSort_func_two_eR_BagOf_1_c n) (L_sort_insertionSort_func_two_eR_BagOf_1_c n) dorcNil ⟨[], [], []⟩ [] C_sort_insertionSort_func_two_eR_BagOf_1_c x = sort_insertionSort_func_two_eR_BagOf_1_c n x := by kernel_rfl
omit [UDef] [UTabs] in
theorem ok_sort_insertionSort_func_two_eR_BagOf_1_c (n : Nat) : Contract Tryd.prog 93 F_sort_insertionSort_func_two_eR_BagOf_1_c (sort_insertionSort_func_two_eR_BagOf_1_c n) :=
  Contract.of_ev (c := C_sort_insertionSort_func_two_eR_BagOf_1_c) (N := 35) Tryd.func93 (by kernel_rfl) (by kernel_rfl) (by kernel_rfl) (by kernel_rfl) (O_sort_insertionSort_func_two_eR_BagOf_1_c_ok n) dorcNil_ok (.of (l := [(0, (lbody 1000 C_sort_insertionSort_func_two_eR_BagOf_1_c 0))]) (by kernel_rfl) ⟨.head (loopL_sound (O_sort_insertionSort_func_two_eR_BagOf_1_c_ok n) dorcNil_ok (.of (l := [(2, (lbody 0 (lbody 1000 C_sort_insertionSort_func_two_eR_BagOf_1_c 0) 0))]) (by kernel_rfl) ⟨.head (loopL_sound (O_sort_insertionSort_func_two_eR_BagOf_1_c_ok n) dorcNil_ok (.of (l := []) (by kernel_rfl) trivial) (s_sort_insertionSort_func_two_eR_BagOf_1_c_s2 n)), trivial⟩) (s_sort_insertionSort_func_two_eR_BagOf_1_c_s0 n)), trivial⟩) (e_sort_insertionSort_func_two_eR_BagOf_1_c n)

noncomputable def F_sort_symMerge_func_two_eR_BagOf_1_c : FnT := ⟨4, ⟨[(0, .two (.clo 30 [2000000]) (.cls 92 2000001 3 32))], [(1, .i64), (2, .i64), (3, .i64)], [(2000000, .box [.ref (.own 2000001)]), (2000001, .arr 32 .cnt)]⟩, [], [(2000000, .box [.ref (.own 2000001)]), (2000001, .arr 32 .cnt)]⟩
noncomputable def F_sort_rotate_func_two_eR_BagOf_1_c : FnT := ⟨4, ⟨[(0, .two (.clo 30 [2000000]) (.cls 92 2000001 3 32))], [(1, .i64), (2, .i64), (3, .i64)], [(2000000, .box [.ref (.own 2000001)]), (2000001, .arr 32 .cnt)]⟩, [], [(2000000, .box [.ref (.own 2000001)]), (2000001, .arr 32 .cnt)]⟩
noncomputable def F_sort_swapRange_func_two_eR_BagOf_1_c : FnT := ⟨4, ⟨[(0, .two (.clo 30 [2000000]) (.cls 92 2000001 3 32))], [(1, .i64), (2, .i64), (3, .i64)], [(2000000, .box [.ref (.own 2000001)]), (2000001, .arr 32 .cnt)]⟩, [], [(2000000, .box [.ref (.own 2000001)]), (2000001, .arr 32 .cnt)]⟩
noncomputable def C_sort_swapRange_func_two_eR_BagOf_1_c : Code := bodyOf Tryd.f113
noncomputable def M_sort_swapRange_func_two_eR_BagOf_1_c : List (Nat × ArgM) := [(999999999, ⟨[1], [], [], false⟩), (92, ⟨[1002], [], [], false⟩)]
instance : DfOk M_sort_swapRange_func_two_eR_BagOf_1_c := .none rfl
noncomputable def O_sort_swapRange_func_two_eR_BagOf_1_c {ρ : Type} (n : Nat) : Orc ρ := orcXA 92 (F_swap 3 32) (swapN) (orcNil)
omit [QuietD Tryd.prog] [UDef] [UTabs] in
theorem O_sort_swapRange_func_two_eR_BagOf_1_c_ok {ρ : Type} (n : Nat) : (O_sort_swapRange_func_two_eR_BagOf_1_c n : Orc ρ).ok Tryd.prog := orcXA_ok (by kernel_rfl) (swapN_ok) (orcNil_ok)
noncomputable def T_sort_swapRange_func_two_eR_BagOf_1_c_s0 : Tm := ⟨[(4, .ptr 4 0)], [(1, .i64), (2, .i64), (3, .i64), (8, .i64)], [(4, .box [.ref (.clo 30 [2000000]), .ref (.cls 92 2000001 3 32)]), (2000000, .box [.ref (.own 2000001)]), (2000001, .arr 32 .cnt)]⟩
noncomputable def X_sort_swapRange_func_two_eR_BagOf_1_c_s0 : Tm := ⟨[], [], [(2000000, .box [.ref (.own 2000001)]), (2000001, .arr 32 .cnt)]⟩
noncomputable def R_sort_swapRange_func_two_eR_BagOf_1_c_s0 : Tm := ⟨[], [], []⟩
noncomputable def L_sort_swapRange_func_two_eR_BagOf_1_c_s0 {ρ : Type} (n : Nat) : LOrc ρ := lorcNil
omit [Tabs] [QuietD Tryd.prog] [UDef] [UTabs] in
theorem s_sort_swapRange_func_two_eR_BagOf_1_c_s0 {ρ : Type} (n : Nat) (rec : T_sort_swapRange_func_two_eR_BagOf_1_c_s0.den → Option ρ) kx kr s : dStep Tryd.prog 23 TT M_sort_swapRange_func_two_eR_BagOf_1_c (O_sort_swapRange_func_two_eR_BagOf_1_c n) (L_sort_swapRange_func_two_eR_BagOf_1_c_s0 n) dorcNil 0 (lbody 1000 C_sort_swapRange_func_two_eR_BagOf_1_c 0) T_sort_swapRange_func_two_eR_BagOf_1_c_s0 X_sort_swapRange_func_two_eR_BagOf_1_c_s0 R_sort_swapRange_func_two_eR_BagOf_1_c_s0 ⟨[], [], []⟩ rec kx kr s = sort_swapRange_func_two_eR_BagOf_1_c_s0 n rec kx kr s := by kernel_rfl
noncomputable def L_sort_swapRange_func_two_eR_BagOf_1_c {ρ : Type} (n : Nat) : LOrc ρ := lorcCons 0 (loopL 23 0 n T_sort_swapRange_func_two_eR_BagOf_1_c_s0 X_sort_swapRange_func_two_eR_BagOf_1_c_s0 R_sort_swapRange_func_two_eR_BagOf_1_c_s0 ⟨[], [], []⟩ (sort_swapRange_func_two_eR_BagOf_1_c_s0 n)) (lorcNil)
omit [Tabs] [QuietD Tryd.prog] [UDef] [UTabs] in
theorem e_sort_swapRange_func_two_eR_BagOf_1_c (n : Nat) (x) : evF Tryd.prog 23 TT M_sort_swapRange_func_two_eR_BagOf_1_c F_sort_swapRange_func_two_eR_BagOf_1_c (O_sort_swapRange_func_two_eR_BagOf_1_c n) (L_sort_swapRange_func_two_eR_BagOf_1_c n) dorcNil ⟨[], [], []⟩ [] C_sort_swapRange_func_two_eR_BagOf_1_c x = sort_swapRange_func_two_eR_BagOf_1_c n x := by kernel_rfl
omit [UDef] [UTabs] in
theorem ok_sort_swapRange_func_two_eR_BagOf_1_c (n : Nat) : Contract Tryd.prog 113 F_sort_swapRange_func_two_eR_BagOf_1_c (sort_swapRange_func_two_eR_BagOf_1_c n) :=
  Contract.of_ev (c := C_sort_swapRange_func_two_eR_BagOf_1_c) (N := 23) Tryd.func113 (by kernel_rfl) (by kernel_rfl) (by kernel_rfl) (by kernel_rfl) (O_sort_swapRange_func_two_eR_BagOf_1_c_ok n) dorcNil_ok (.of (l := [(0, (lbody 1000 C_sort_swapRange_func_two_eR_BagOf_1_c 0))]) (by kernel_rfl) ⟨.head (loopL_sound (O_sort_swapRange_func_two_eR_BagOf_1_c_ok n) dorcNil_ok (.of (l := []) (by kernel_rfl) trivial) (s_sort_swapRange_func_two_eR_BagOf_1_c_s0 n)), trivial⟩) (e_sort_swapRange_func_two_eR_BagOf_1_c n)

noncomputable def C_sort_rotate_func_two_eR_BagOf_1_c : Code := bodyOf Tryd.f109
noncomputable def M_sort_rotate_func_two_eR_BagOf_1_c : List (Nat × ArgM) := [(999999999, ⟨[1], [], [], false⟩), (113, ⟨[1000], [], [], false⟩)]
instance : DfOk M_sort_rotate_func_two_eR_BagOf_1_c := .none rfl
noncomputable def O_sort_rotate_func_two_eR_BagOf_1_c {ρ : Type} (n : Nat) : Orc ρ := orcCons 113 F_sort_swapRange_func_two_eR_BagOf_1_c (sort_swapRange_func_two_eR_BagOf_1_c n) (orcNil)
omit [UDef] [UTabs] in
theorem O_sort_rotate_func_two_eR_BagOf_1_c_ok {ρ : Type} (n : Nat) : (O_sort_rotate_func_two_eR_BagOf_1_c n : Orc ρ).ok Tryd.prog := orcCons_ok (by kernel_rfl) (ok_sort_swapRange_func_two_eR_BagOf_1_c n) (orcNil_ok)
noncomputable def T_sort_rotate_func_two_eR_BagOf_1_c_s0 : Tm := ⟨[(4, .ptr 4 0)], [(2, .i64), (8, .i64), (9, .i64)], [(4, .box [.ref (.clo 30 [2000000]), .ref (.cls 92 2000001 3 32)]), (2000000, .box [.ref (.own 2000001)]), (2000001, .arr 32 .cnt)]⟩
noncomputable def X_sort_rotate_func_two_eR_BagOf_1_c_s0 : Tm := ⟨[(4, .ptr 4 0)], [(2, .i64), (8, .i64)], [(4, .box [.ref (.clo 30 [2000000]), .ref (.cls 92 2000001 3 32)]), (2000000, .box [.ref (.own 2000001)]), (2000001, .arr 32 .cnt)]⟩
noncomputable def R_sort_rotate_func_two_eR_BagOf_1_c_s0 : Tm := ⟨[], [], []⟩
noncomputable def L_sort_rotate_func_two_eR_BagOf_1_c_s0 {ρ : Type} (n : Nat) : LOrc ρ := lorcNil
omit [Tabs] [QuietD Tryd.prog] [UDef] [UTabs] in
theorem s_sort_rotate_func_two_eR_BagOf_1_c_s0 {ρ : Type} (n : Nat) (rec : T_sort_rotate_func_two_eR_BagOf_1_c_s0.den → Option ρ) kx kr s : dStep Tryd.prog 53 TT M_sort_rotate_func_two_eR_BagOf_1_c (O_sort_rotate_func_two_eR_BagOf_1_c n) (L_sort_rotate_func_two_eR_BagOf_1_c_s0 n) dorcNil 0 (lbody 1000 C_sort_rotate_func_two_eR_BagOf_1_c 0) T_sort_rotate_func_two_eR_BagOf_1_c_s0 X_sort_rotate_func_two_eR_BagOf_1_c_s0 R_sort_rotate_func_two_eR_BagOf_1_c_s0 ⟨[], [], []⟩ rec kx kr s = sort_rotate_func_two_eR_BagOf_1_c_s0 n rec kx kr s := by kernel_rfl
noncomputable def L_sort_rotate_func_two_eR_BagOf_1_c {ρ : Type} (n : Nat) : LOrc ρ := lorcCons 0 (loopL 53 0 n T_sort_rotate_func_two_eR_BagOf_1_c_s0 X_sort_rotate_func_two_eR_BagOf_1_c_s0 R_sort_rotate_func_two_eR_BagOf_1_c_s0 ⟨[], [], []⟩ (sort_rotate_func_two_eR_BagOf_1_c_s0 n)) (lorcNil)
omit [Tabs] [QuietD Tryd.prog] [UDef] [UTabs] in
theorem e_sort_rotate_func_two_eR_BagOf_1_c (n : Nat) (x) : evF Tryd.prog 53 TT M_sort_rotate_func_two_eR_BagOf_1_c F_sort_rotate_func_two_eR_BagOf_1_c (O_sort_rotate_func_two_eR_BagOf_1_c n) (L_sort_rotate_func_two_eR_BagOf_1_c n) dorcNil ⟨[], [], []⟩ [] C_sort_rotate_func_two_eR_BagOf_1_c x = sort_rotate_func_two_eR_BagOf_1_c n x := by kernel_rfl
omit [UDef] [UTabs] in
theorem ok_sort_rotate_func_two_eR_BagOf_1_c (n : Nat) : Contract Tryd.prog 109 F_sort_rotate_func_two_eR_BagOf_1_c (sort_rotate_func_two_eR_BagOf_1_c n) :=
  Contract.of_ev (c := C_sort_rotate_func_two_eR_BagOf_1_c) (N := 53) Tryd.func109 (by kernel_rfl) (by kernel_rfl) (by kernel_rfl) (by kernel_rfl) (O_sort_rotate_func_two_eR_BagOf_1_c_ok n) dorcNil_ok (.of (l := [(0, (lbody 1000 C_sort_rotate_func_two_eR_BagOf_1_c 0))]) (by kernel_rfl) ⟨.head (loopL_sound (O_sort_rotate_func_two_eR_BagOf_1_c_ok n) dorcNil_ok (.of (l := []) (by kernel_rfl) trivial) (s_sort_rotate_func_two_eR_BagOf_1_c_s0 n)), trivial⟩) (e_sort_rotate_func_two_eR_BagOf_1_c n)

noncomputable def C_sort_symMerge_func_two_eR_BagOf_1_c : Code := bodyOf Tryd.f94
noncomputable def M_sort_symMerge_func_two_eR_BagOf_1_c : List (Nat × ArgM) := [(999999999, ⟨[1], [], [], false⟩), (30, ⟨[1002], [], [], false⟩), (92, ⟨[1002], [], [], false⟩), (109, ⟨[1000], [], [], false⟩), (94, ⟨[1000], [], [], false⟩)]
instance : DfOk M_sort_symMerge_func_two_eR_BagOf_1_c := .none rfl
noncomputable def O_sort_symMerge_func_two_eR_BagOf_1_c {ρ : Type} (self_sort_symMerge_func_two_eR_BagOf_1_c : Int × Int × Int × Unit × (List Ev.Cnt) × Unit → Option (Unit × (List Ev.Cnt) × Unit)) (n : Nat) : Orc ρ := orcCons 30 F_eR_BagOf_1 (eR_BagOf_1 n) (orcXA 92 (F_swap 3 32) (swapN) (orcCons 109 F_sort_rotate_func_two_eR_BagOf_1_c (sort_rotate_func_two_eR_BagOf_1_c n) (orcCons 94 F_sort_symMerge_func_two_eR_BagOf_1_c (self_sort_symMerge_func_two_eR_BagOf_1_c) (orcNil))))
omit [UDef] [UTabs] in
theorem O_sort_symMerge_func_two_eR_BagOf_1_c_ok {ρ : Type} (self_sort_symMerge_func_two_eR_BagOf_1_c : Int × Int × Int × Unit × (List Ev.Cnt) × Unit → Option (Unit × (List Ev.Cnt) × Unit)) (h_sort_symMerge_func_two_eR_BagOf_1_c : Contract Tryd.prog 94 F_sort_symMerge_func_two_eR_BagOf_1_c self_sort_symMerge_func_two_eR_BagOf_1_c) (n : Nat) : (O_sort_symMerge_func_two_eR_BagOf_1_c self_sort_symMerge_func_two_eR_BagOf_1_c n : Orc ρ).ok Tryd.prog := orcCons_ok (by kernel_rfl) (ok_eR_BagOf_1 n) (orcXA_ok (by kernel_rfl) (swapN_ok) (orcCons_ok (by kernel_rfl) (ok_sort_rotate_func_two_eR_BagOf_1_c n) (orcCons_ok (by kernel_rfl) (h_sort_symMerge_func_two_eR_BagOf_1_c) (orcNil_ok))))
noncomputable def T_sort_symMerge_func_two_eR_BagOf_1_c_s0 : Tm := ⟨[(4, .ptr 4 0)], [(1, .i64), (8, .i64), (9, .i64)], [(4, .box [.ref (.clo 30 [2000000]), .ref (.cls 92 2000001 3 32)]), (2000000, .box [.ref (.own 2000001)]), (2000001, .arr 32 .cnt)]⟩
noncomputable def X_sort_symMerge_func_two_eR_BagOf_1_c_s0 : Tm := ⟨[(4, .ptr 4 0)], [(1, .i64), (8, .i64)], [(4, .box [.ref (.clo 30 [2000000]), .ref (.cls 92 2000001 3 32)]), (2000000, .box [.ref (.own 2000001)]), (2000001, .arr 32 .cnt)]⟩
noncomputable def R_sort_symMerge_func_two_eR_BagOf_1_c_s0 : Tm := ⟨[], [], []⟩
noncomputable def L_sort_symMerge_func_two_eR_BagOf_1_c_s0 {ρ : Type} (self_sort_symMerge_func_two_eR_BagOf_1_c : Int × Int × Int × Unit × (List Ev.Cnt) × Unit → Option (Unit × (List Ev.Cnt) × Unit)) (n : Nat) : LOrc ρ := lorcNil
omit [Tabs] [QuietD Tryd.prog] [UDef] [UTabs] in
theorem s_sort_symMerge_func_two_eR_BagOf_1_c_s0 {ρ : Type} (self_sort_symMerge_func_two_eR_BagOf_1_c : Int × Int × Int × Unit × (List Ev.Cnt) × Unit → Option (Unit × (List Ev.Cnt) × Unit)) (n : Nat) (rec : T_sort_symMerge_func_two_eR_BagOf_1_c_s0.den → Option ρ) kx kr s : dStep Tryd.prog 177 TT M_sort_symMerge_func_two_eR_BagOf_1_c (O_sort_symMerge_func_two_eR_BagOf_1_c self_sort_symMerge_func_two_eR_BagOf_1_c n) (L_sort_symMerge_func_two_eR_BagOf_1_c_s0 self_sort_symMerge_func_two_eR_BagOf_1_c n) dorcNil 0 (lbody 1000 C_sort_symMerge_func_two_eR_BagOf_1_c 0) T_sort_symMerge_func_two_eR_BagOf_1_c_s0 X_sort_symMerge_func_two_eR_BagOf_1_c_s0 R_sort_symMerge_func_two_eR_BagOf_1_c_s0 ⟨[], [], []⟩ rec kx kr s = sort_symMerge_func_two_eR_BagOf_1_c_s0 self_sort_symMerge_func_two_eR_BagOf_1_c n rec kx kr s := by kernel_rfl
noncomputable def T_sort_symMerge_func_two_eR_BagOf_1_c_s2 : Tm := ⟨[(4, .ptr 4 0)], [(8, .i64), (11, .i64)], [(4, .box [.ref (.clo 30 [2000000]), .ref (.cls 92 2000001 3 32)]), (2000000, .box [.ref (.own 2000001)]), (2000001, .arr 32 .cnt)]⟩
noncomputable def X_sort_symMerge_func_two_eR_BagOf_1_c_s2 : Tm := ⟨[], [], [(2000000, .box [.ref (.own 2000001)]), (2000001, .arr 32 .cnt)]⟩
noncomputable def R_sort_symMerge_func_two_eR_BagOf_1_c_s2 : Tm := ⟨[], [], []⟩
noncomputable def L_sort_symMerge_func_two_eR_BagOf_1_c_s2 {ρ : Type} (self_sort_symMerge_func_two_eR_BagOf_1_c : Int × Int × Int × Unit × (List Ev.Cnt) × Unit → Option (Unit × (List Ev.Cnt) × Unit)) (n : Nat) : LOrc ρ := lorcNil
omit [Tabs] [QuietD Tryd.prog] [UDef] [UTabs] in
theorem s_sort_symMerge_func_two_eR_BagOf_1_c_s2 {ρ : Type} (self_sort_symMerge_func_two_eR_BagOf_1_c : Int × Int × Int × Unit × (List Ev.Cnt) × Unit → Option (Unit × (List Ev.Cnt) × Unit)) (n : Nat) (rec : T_sort_symMerge_func_two_eR_BagOf_1_c_s2.den → Option ρ) kx kr s : dStep Tryd.prog 177 TT M_sort_symMerge_func_two_eR_BagOf_1_c (O_sort_symMerge_func_two_eR_BagOf_1_c self_sort_symMerge_func_two_eR_BagOf_1_c n) (L_sort_symMerge_func_two_eR_BagOf_1_c_s2 self_sort_symMerge_func_two_eR_BagOf_1_c n) dorcNil 2 (lbody 1000 C_sort_symMerge_func_two_eR_BagOf_1_c 1) T_sort_symMerge_func_two_eR_BagOf_1_c_s2 X_sort_symMerge_func_two_eR_BagOf_1_c_s2 R_sort_symMerge_func_two_eR_BagOf_1_c_s2 ⟨[], [], []⟩ rec kx kr s = sort_symMerge_func_two_eR_BagOf_1_c_s2 self_sort_symMerge_func_two_eR_BagOf_1_c n rec kx kr s := by kernel_rfl
noncomputable def T_sort_symMerge_func_two_eR_BagOf_1_c_s4 : Tm := ⟨[(4, .ptr 4 0)], [(2, .i64), (12, .i64), (13, .i64)], [(4, .box [.ref (.clo 30 [2000000]), .ref (.cls 92 2000001 3 32)]), (2000000, .box [.ref (.own 2000001)]), (2000001, .arr 32 .cnt)]⟩
noncomputable def X_sort_symMerge_func_two_eR_BagOf_1_c_s4 : Tm := ⟨[(4, .ptr 4 0)], [(2, .i64), (12, .i64)], [(4, .box [.ref (.clo 30 [2000000]), .ref (.cls 92 2000001 3 32)]), (2000000, .box [.ref (.own 2000001)]), (2000001, .arr 32 .cnt)]⟩
noncomputable def R_sort_symMerge_func_two_eR_BagOf_1_c_s4 : Tm := ⟨[], [], []⟩
noncomputable def L_sort_symMerge_func_two_eR_BagOf_1_c_s4 {ρ : Type} (self_sort_symMerge_func_two_eR_BagOf_1_c : Int × Int × Int × Unit × (List Ev.Cnt) × Unit → Option (Unit × (List Ev.Cnt) × Unit)) (n : Nat) : LOrc ρ := lorcNil
omit [Tabs] [QuietD Tryd.prog] [UDef] [UTabs] in
theorem s_sort_symMerge_func_two_eR_BagOf_1_c_s4 {ρ : Type} (self_sort_symMerge_func_two_eR_BagOf_1_c : Int × Int × Int × Unit × (List Ev.Cnt) × Unit → Option (Unit × (List Ev.Cnt) × Unit)) (n : Nat) (rec : T_sort_symMerge_func_two_eR_BagOf_1_c_s4.den → Option ρ) kx kr s : dStep Tryd.prog 177 TT M_sort_symMerge_func_two_eR_BagOf_1_c (O_sort_symMerge_func_two_eR_BagOf_1_c self_sort_symMerge_func_two_eR_BagOf_1_c n) (L_sort_symMerge_func_two_eR_BagOf_1_c_s4 self_sort_symMerge_func_two_eR_BagOf_1_c n) dorcNil 4 (lbody 1000 C_sort_symMerge_func_two_eR_BagOf_1_c 2) T_sort_symMerge_func_two_eR_BagOf_1_c_s4 X_sort_symMerge_func_two_eR_BagOf_1_c_s4 R_sort_symMerge_func_two_eR_BagOf_1_c_s4 ⟨[], [], []⟩ rec kx kr s = sort_symMerge_func_two_eR_BagOf_1_c_s4 self_sort_symMerge_func_two_eR_BagOf_1_c n rec kx kr s := by kernel_rfl
noncomputable def T_sort_symMerge_func_two_eR_BagOf_1_c_s6 : Tm := ⟨[(4, .ptr 4 0)], [(12, .i64), (15, .i64)], [(4, .box [.ref (.clo 30 [2000000]), .ref (.cls 92 2000001 3 32)]), (2000000, .box [.ref (.own 2000001)]), (2000001, .arr 32 .cnt)]⟩
noncomputable def X_sort_symMerge_func_two_eR_BagOf_1_c_s6 : Tm := ⟨[], [], [(2000000, .box [.ref (.own 2000001)]), (2000001, .arr 32 .cnt)]⟩
noncomputable def R_sort_symMerge_func_two_eR_BagOf_1_c_s6 : Tm := ⟨[], [], []⟩
noncomputable def L_sort_symMerge_func_two_eR_BagOf_1_c_s6 {ρ : Type} (self_sort_symMerge_func_two_eR_BagOf_1_c : Int × Int × Int × Unit × (List Ev.Cnt) × Unit → Option (Unit × (List Ev.Cnt) × Unit)) (n : Nat) : LOrc ρ := lorcNil
omit [Tabs] [QuietD Tryd.prog] [UDef] [UTabs] in
theorem s_sort_symMerge_func_two_eR_BagOf_1_c_s6 {ρ : Type} (self_sort_symMerge_func_two_eR_BagOf_1_c : Int × Int × Int × Unit × (List Ev.Cnt) × Unit → Option (Unit × (List Ev.Cnt) × Unit)) (n : Nat) (rec : T_sort_symMerge_func_two_eR_BagOf_1_c_s6.den → Option ρ) kx kr s : dStep Tryd.prog 177 TT M_sort_symMerge_func_two_eR_BagOf_1_c (O_sort_symMerge_func_two_eR_BagOf_1_c self_sort_symMerge_func_two_eR_BagOf_1_c n) (L_sort_symMerge_func_two_eR_BagOf_1_c_s6 self_sort_symMerge_func_two_eR_BagOf_1_c n) dorcNil 6 (lbody 1000 C_sort_symMerge_func_two_eR_BagOf_1_c 3) T_sort_symMerge_func_two_eR_BagOf_1_c_s6 X_sort_symMerge_func_two_eR_BagOf_1_c_s6 R_sort_symMerge_func_two_eR_BagOf_1_c_s6 ⟨[], [], []⟩ rec kx kr s = sort_symMerge_func_two_eR_BagOf_1_c_s6 self_sort_symMerge_func_two_eR_BagOf_1_c n rec kx kr s := by kernel_rfl
noncomputable def T_sort_symMerge_func_two_eR_BagOf_1_c_s8 : Tm := ⟨[(4, .ptr 4 0)], [(1, .i64), (2, .i64), (3, .i64), (16, .i64), (17, .i64), (18, .i64), (19, .i64), (20, .i64)], [(4, .box [.ref (.clo 30 [2000000]), .ref (.cls 92 2000001 3 32)]), (2000000, .box [.ref (.own 2000001)]), (2000001, .arr 32 .cnt)]⟩
noncomputable def X_sort_symMerge_func_two_eR_BagOf_1_c_s8 : Tm := ⟨[(4, .ptr 4 0)], [(1, .i64), (2, .i64), (3, .i64), (16, .i64), (17, .i64), (18, .i64)], [(4, .box [.ref (.clo 30 [2000000]), .ref (.cls 92 2000001 3 32)]), (2000000, .box [.ref (.own 2000001)]), (2000001, .arr 32 .cnt)]⟩
noncomputable def R_sort_symMerge_func_two_eR_BagOf_1_c_s8 : Tm := ⟨[], [], []⟩
noncomputable def L_sort_symMerge_func_two_eR_BagOf_1_c_s8 {ρ : Type} (self_sort_symMerge_func_two_eR_BagOf_1_c : Int × Int × Int × Unit × (List Ev.Cnt) × Unit → Option (Unit × (List Ev.Cnt) × Unit)) (n : Nat) : LOrc ρ := lorcNil
omit [Tabs] [QuietD Tryd.prog] [UDef] [UTabs] in
theorem s_sort_symMerge_func_two_eR_BagOf_1_c_s8 {ρ : Type} (self_sort_symMerge_func_two_eR_BagOf_1_c : Int × Int × Int × Unit × (List Ev.Cnt) × Unit → Option (Unit × (List Ev.Cnt) × Unit)) (n : Nat) (rec : T_sort_symMerge_func_two_eR_BagOf_1_c_s8.den → Option ρ) kx kr s : dStep Tryd.prog 177 TT M_sort_symMerge_func_two_eR_BagOf_1_c (O_sort_symMerge_func_two_eR_BagOf_1_c self_sort_symMerge_func_two_eR_BagOf_1_c n) (L_sort_symMerge_func_two_eR_BagOf_1_c_s8 self_sort_symMerge_func_two_eR_BagOf_1_c n) dorcNil 8 (lbody 1000 C_sort_symMerge_func_two_eR_BagOf_1_c 4) T_sort_symMerge_func_two_eR_BagOf_1_c_s8 X_sort_symMerge_func_two_eR_BagOf_1_c_s8 R_sort_symMerge_func_two_eR_BagOf_1_c_s8 ⟨[], [], []⟩ rec kx kr s = sort_symMerge_func_two_eR_BagOf_1_c_s8 self_sort_symMerge_func_two_eR_BagOf_1_c n rec kx kr s := by kernel_rfl
noncomputable def L_sort_symMerge_func_two_eR_BagOf_1_c {ρ : Type} (self_sort_symMerge_func_two_eR_BagOf_1_c : Int × Int × Int × Unit × (List Ev.Cnt) × Unit → Option (Unit × (List Ev.Cnt) × Unit)) (n : Nat) : LOrc ρ := lorcCons 0 (loopL 177 0 n T_sort_symMerge_func_two_eR_BagOf_1_c_s0 X_sort_symMerge_func_two_eR_BagOf_1_c_s0 R_sort_symMerge_func_two_eR_BagOf_1_c_s0 ⟨[], [], []⟩ (sort_symMerge_func_two_eR_BagOf_1_c_s0 self_sort_symMerge_func_two_eR_BagOf_1_c n)) (lorcCons 2 (loopL 177 2 n T_sort_symMerge_func_two_eR_BagOf_1_c_s2 X_sort_symMerge_func_two_eR_BagOf_1_c_s2 R_sort_symMerge_func_two_eR_BagOf_1_c_s2 ⟨[], [], []⟩ (sort_symMerge_func_two_eR_BagOf_1_c_s2 self_sort_symMerge_func_two_eR_BagOf_1_c n)) (lorcCons 4 (loopL 177 4 n T_sort_symMerge_func_two_eR_BagOf_1_c_s4 X_sort_symMerge_func_two_eR_BagOf_1_c_s4 R_sort_symMerge_func_two_eR_BagOf_1_c_s4 ⟨[], [], []⟩ (sort_symMerge_func_two_eR_BagOf_1_c_s4 self_sort_symMerge_func_two_eR_BagOf_1_c n)) (lorcCons 6 (loopL 177 6 n T_sort_symMerge_func_two_eR_BagOf_1_c_s6 X_sort_symMerge_func_two_eR_BagOf_1_c_s6 R_sort_symMerge_func_two_eR_BagOf_1_c_s6 ⟨[], [], []⟩ (sort_symMerge_func_two_eR_BagOf_1_c_s6 self_sort_symMerge_func_two_eR_BagOf_1_c n)) (lorcCons 8 (loopL 177 8 n T_sort_symMerge_func_two_eR_BagOf_1_c_s8 X_sort_symMerge_func_two_eR_BagOf_1_c_s8 R_sort_symMerge_func_two_eR_BagOf_1_c_s8 ⟨[], [], []⟩ (sort_symMerge_func_two_eR_BagOf_1_c_s8 self_sort_symMerge_func_two_eR_BagOf_1_c n)) (lorcNil)))))
omit [Tabs] [QuietD Tryd.prog] [UDef] [UTabs] in
theorem e_sort_symMerge_func_two_eR_BagOf_1_c (self_sort_symMerge_func_two_eR_BagOf_1_c : Int × Int × Int × Unit × (List Ev.Cnt) × Unit → Option (Unit × (List Ev.Cnt) × Unit)) (n : Nat) (x) : evF Tryd.prog 177 TT M_sort_symMerge_func_two_eR_BagOf_1_c F_sort_symMerge_func_two_eR_BagOf_1_c (O_sort_symMerge_func_two_eR_BagOf_1_c self_sort_symMerge_func_two_eR_BagOf_1_c n) (L_sort_symMerge_func_two_eR_BagOf_1_c self_sort_symMerge_func_two_eR_BagOf_1_c n) dorcNil ⟨[], [], []⟩ [] C_sort_symMerge_func_two_eR_BagOf_1_c x = sort_symMerge_func_two_eR_BagOf_1_c_b self_sort_symMerge_func_two_eR_BagOf_1_c n x := by kernel_rfl
omit [UDef] [UTabs] in
theorem okb_sort_symMerge_func_two_eR_BagOf_1_c (self_sort_symMerge_func_two_eR_BagOf_1_c : Int × Int × Int × Unit × (List Ev.Cnt) × Unit → Option (Unit × (List Ev.Cnt) × Unit)) (h_sort_symMerge_func_two_eR_BagOf_1_c : Contract Tryd.prog 94 F_sort_symMerge_func_two_eR_BagOf_1_c self_sort_symMerge_func_two_eR_BagOf_1_c) (n : Nat) : Contract Tryd.prog 94 F_sort_symMerge_func_two_eR_BagOf_1_c (sort_symMerge_func_two_eR_BagOf_1_c_b self_sort_symMerge_func_two_eR_BagOf_1_c n) :=
  Contract.of_ev (c := C_sort_symMerge_func_two_eR_BagOf_1_c) (N := 177) Tryd.func94 (by kernel_rfl) (by kernel_rfl) (by kernel_rfl) (by kernel_rfl) (O_sort_symMerge_func_two_eR_BagOf_1_c_ok self_sort_symMerge_func_two_eR_BagOf_1_c h_sort_symMerge_func_two_eR_BagOf_1_c n) dorcNil_ok (.of (l := [(0, (lbody 1000 C_sort_symMerge_func_two_eR_BagOf_1_c 0)), (2, (lbody 1000 C_sort_symMerge_func_two_eR_BagOf_1_c 1)), (4, (lbody 1000 C_sort_symMerge_func_two_eR_BagOf_1_c 2)), (6, (lbody 1000 C_sort_symMerge_func_two_eR_BagOf_1_c 3)), (8, (lbody 1000 C_sort_symMerge_func_two_eR_BagOf_1_c 4))]) (by kernel_rfl) ⟨.head (loopL_sound (O_sort_symMerge_func_two_eR_BagOf_1_c_ok self_sort_symMerge_func_two_eR_BagOf_1_c h_sort_symMerge_func_two_eR_BagOf_1_c n) dorcNil_ok (.of (l := []) (by kernel_rfl) trivial) (s_sort_symMerge_func_two_eR_BagOf_1_c_s0 self_sort_symMerge_func_two_eR_BagOf_1_c n)), ⟨.tail rfl (.head (loopL_sound (O_sort_symMerge_func_two_eR_BagOf_1_c_ok self_sort_symMerge_func_two_eR_BagOf_1_c h_sort_symMerge_func_two_eR_BagOf_1_c n) dorcNil_ok (.of (l := []) (by kernel_rfl) trivial) (s_sort_symMerge_func_two_eR_BagOf_1_c_s2 self_sort_symMerge_func_two_eR_BagOf_1_c n))), ⟨.tail rfl (.tail rfl (.head (loopL_sound (O_sort_symMerge_func_two_eR_BagOf_1_c_ok self_sort_symMerge_func_two_eR_BagOf_1_c h_sort_symMerge_func_two_eR_BagOf_1_c n) dorcNil_ok (.of (l := []) (by kernel_rfl) trivial) (s_sort_symMerge_func_two_eR_BagOf_1_c_s4 self_sort_symMerge_func_two_eR_BagOf_1_c n)))), ⟨.tail rfl (.tail rfl (.tail rfl (.head (loopL_sound (O_sort_symMerge_func_two_eR_BagOf_1_c_ok self_sort_symMerge_func_two_eR_BagOf_1_c h_sort_symMerge_func_two_eR_BagOf_1_c n) dorcNil_ok (.of (l := []) (by kernel_rfl) trivial) (s_sort_symMerge_func_two_eR_BagOf_1_c_s6 self_sort_symMerge_func_two_eR_BagOf_1_c n))))), ⟨.tail rfl (.tail rfl (.tail rfl (.tail rfl (.head (loopL_sound (O_sort_symMerge_func_two_eR_BagOf_1_c_ok self_sort_symMerge_func_two_eR_BagOf_1_c h_sort_symMerge_func_two_eR_BagOf_1_c n) dorcNil_ok (.of (l := []) (by kernel_rfl) trivial) (s_sort_symMerge_func_two_eR_BagOf_1_c_s8 self_sort_symMerge_func_two_eR_BagOf_1_c n)))))), trivial⟩⟩⟩⟩⟩) (e_sort_symMerge_func_two_eR_BagOf_1_c self_sort_symMerge_func_two_eR_BagOf_1_c n)
omit [UDef] [UTabs] in
theorem ok_sort_symMerge_func_two_eR_BagOf_1_c : ∀ n, Contract Tryd.prog 94 F_sort_symMerge_func_two_eR_BagOf_1_c (sort_symMerge_func_two_eR_BagOf_1_c n)
  | 0 => fun _ _ h => by cases h
  | n + 1 => okb_sort_symMerge_func_two_eR_BagOf_1_c _ (ok_sort_symMerge_func_two_eR_BagOf_1_c n) n

noncomputable def C_sort_stable_func_two_eR_BagOf_1_c : Code := bodyOf Tryd.f65
noncomputable def M_sort_stable_func_two_eR_BagOf_1_c : List (Nat × ArgM) := [(999999999, ⟨[1], [], [], false⟩), (93, ⟨[1000], [], [], false⟩), (94, ⟨[1000], [], [], false⟩)]
instance : DfOk M_sort_stable_func_two_eR_BagOf_1_c := .none rfl
noncomputable def O_sort_stable_func_two_eR_BagOf_1_c {ρ : Type} (n : Nat) : Orc ρ := orcCons 93 F_sort_insertionSort_func_two_eR_BagOf_1_c (sort_insertionSort_func_two_eR_BagOf_1_c n) (orcCons 94 F_sort_symMerge_func_two_eR_BagOf_1_c (sort_symMerge_func_two_eR_BagOf_1_c n) (orcNil))
omit [UDef] [UTabs] in
theorem O_sort_stable_func_two_eR_BagOf_1_c_ok {ρ : Type} (n : Nat) : (O_sort_stable_func_two_eR_BagOf_1_c n : Orc ρ).ok Tryd.prog := orcCons_ok (by kernel_rfl) (ok_sort_insertionSort_func_two_eR_BagOf_1_c n) (orcCons_ok (by kernel_rfl) (ok_sort_symMerge_func_two_eR_BagOf_1_c n) (orcNil_ok))
noncomputable def T_sort_stable_func_two_eR_BagOf_1_c_s0 : Tm := ⟨[(2, .ptr 2 0)], [(1, .i64), (4, .i64), (5, .i64), (6, .i64)], [(2, .box [.ref (.clo 30 [2000000]), .ref (.cls 92 2000001 3 32)]), (2000000, .box [.ref (.own 2000001)]), (2000001, .arr 32 .cnt)]⟩
noncomputable def X_sort_stable_func_two_eR_BagOf_1_c_s0 : Tm := ⟨[(2, .ptr 2 0)], [(1, .i64), (4, .i64), (5, .i64)], [(2, .box [.ref (.clo 30 [2000000]), .ref (.cls 92 2000001 3 32)]), (2000000, .box [.ref (.own 2000001)]), (2000001, .arr 32 .cnt)]⟩
noncomputable def R_sort_stable_func_two_eR_BagOf_1_c_s0 : Tm := ⟨[], [], []⟩
noncomputable def L_sort_stable_func_two_eR_BagOf_1_c_s0 {ρ : Type} (n : Nat) : LOrc ρ := lorcNil
omit [Tabs] [QuietD Tryd.prog] [UDef] [UTabs] in
theorem s_sort_stable_func_two_eR_BagOf_1_c_s0 {ρ : Type} (n : Nat) (rec : T_sort_stable_func_two_eR_BagOf_1_c_s0.den → Option ρ) kx kr s : dStep Tryd.prog 57 TT M_sort_stable_func_two_eR_BagOf_1_c (O_sort_stable_func_two_eR_BagOf_1_c n) (L_sort_stable_func_two_eR_BagOf_1_c_s0 n) dorcNil 0 (lbody 1000 C_sort_stable_func_two_eR_BagOf_1_c 0) T_sort_stable_func_two_eR_BagOf_1_c_s0 X_sort_stable_func_two_eR_BagOf_1_c_s0 R_sort_stable_func_two_eR_BagOf_1_c_s0 ⟨[], [], []⟩ rec kx kr s = sort_stable_func_two_eR_BagOf_1_c_s0 n rec kx kr s := by kernel_rfl
noncomputable def T_sort_stable_func_two_eR_BagOf_1_c_s4 : Tm := ⟨[(2, .ptr 2 0)], [(1, .i64), (4, .i64), (5, .i64), (6, .i64)], [(2, .box [.ref (.clo 30 [2000000]), .ref (.cls 92 2000001 3 32)]), (2000000, .box [.ref (.own 2000001)]), (2000001, .arr 32 .cnt)]⟩
noncomputable def X_sort_stable_func_two_eR_BagOf_1_c_s4 : Tm := ⟨[(2, .ptr 2 0)], [(1, .i64), (4, .i64), (5, .i64)], [(2, .box [.ref (.clo 30 [2000000]), .ref (.cls 92 2000001 3 32)]), (2000000, .box [.ref (.own 2000001)]), (2000001, .arr 32 .cnt)]⟩
noncomputable def R_sort_stable_func_two_eR_BagOf_1_c_s4 : Tm := ⟨[], [], []⟩
noncomputable def L_sort_stable_func_two_eR_BagOf_1_c_s4 {ρ : Type} (n : Nat) : LOrc ρ := lorcNil
omit [Tabs] [QuietD Tryd.prog] [UDef] [UTabs] in
theorem s_sort_stable_func_two_eR_BagOf_1_c_s4 {ρ : Type} (n : Nat) (rec : T_sort_stable_func_two_eR_BagOf_1_c_s4.den → Option ρ) kx kr s : dStep Tryd.prog 57 TT M_sort_stable_func_two_eR_BagOf_1_c (O_sort_stable_func_two_eR_BagOf_1_c n) (L_sort_stable_func_two_eR_BagOf_1_c_s4 n) dorcNil 4 (lbody 2 (lbody 1000 C_sort_stable_func_two_eR_BagOf_1_c 1) 0) T_sort_stable_func_two_eR_BagOf_1_c_s4 X_sort_stable_func_two_eR_BagOf_1_c_s4 R_sort_stable_func_two_eR_BagOf_1_c_s4 ⟨[], [], []⟩ rec kx kr s = sort_stable_func_two_eR_BagOf_1_c_s4 n rec kx kr s := by kernel_rfl
noncomputable def T_sort_stable_func_two_eR_BagOf_1_c_s2 : Tm := ⟨[(2, .ptr 2 0)], [(1, .i64), (4, .i64)], [(2, .box [.ref (.clo 30 [2000000]), .ref (.cls 92 2000001 3 32)]), (2000000, .box [.ref (.own 2000001)]), (2000001, .arr 32 .cnt)]⟩
noncomputable def X_sort_stable_func_two_eR_BagOf_1_c_s2 : Tm := ⟨[], [], [(2000000, .box [.ref (.own 2000001)]), (2000001, .arr 32 .cnt)]⟩
noncomputable def R_sort_stable_func_two_eR_BagOf_1_c_s2 : Tm := ⟨[], [], []⟩
noncomputable def L_sort_stable_func_two_eR_BagOf_1_c_s2 {ρ : Type} (n : Nat) : LOrc ρ := lorcCons 4 (loopL 57 4 n T_sort_stable_func_two_eR_BagOf_1_c_s4 X_sort_stable_func_two_eR_BagOf_1_c_s4 R_sort_stable_func_two_eR_BagOf_1_c_s4 ⟨[], [], []⟩ (sort_stable_func_two_eR_BagOf_1_c_s4 n)) (lorcNil)
omit [Tabs] [QuietD Tryd.prog] [UDef] [UTabs] in
theorem s_sort_stable_func_two_eR_BagOf_1_c_s2 {ρ : Type} (n : Nat) (rec : T_sort_stable_func_two_eR_BagOf_1_c_s2.den → Option ρ) kx kr s : dStep Tryd.prog 57 TT M_sort_stable_func_two_eR_BagOf_1_c (O_sort_stable_func_two_eR_BagOf_1_c n) (L_sort_stable_func_two_eR_BagOf_1_c_s2 n) dorcNil 2 (lbody 1000 C_sort_stable_func_two_eR_BagOf_1_c 1) T_sort_stable_func_two_eR_BagOf_1_c_s2 X_sort_stable_func_two_eR_BagOf_1_c_s2 R_sort_stable_func_two_eR_BagOf_1_c_s2 ⟨[], [], []⟩ rec kx kr s = sort_stable_func_two_eR_BagOf_1_c_s2 n rec kx kr s := by kernel_rfl
noncomputable def L_sort_stable_func_two_eR_BagOf_1_c {ρ : Type} (n : Nat) : LOrc ρ := lorcCons 0 (loopL 57 0 n T_sort_stable_func_two_eR_BagOf_1_c_s0 X_sort_stable_func_two_eR_BagOf_1_c_s0 R_sort_stable_func_two_eR_BagOf_1_c_s0 ⟨[], [], []⟩ (sort_stable_func_two_eR_BagOf_1_c_s0 n)) (lorcCons 2 (loopL 57 2 n T_sort_stable_func_two_eR_BagOf_1_c_s2 X_sort_stable_func_two_eR_BagOf_1_c_s2 R_sort_stable_func_two_eR_BagOf_1_c_s2 ⟨[], [], []⟩ (sort_stable_func_two_eR_BagOf_1_c_s2 n)) (lorcNil))
omit [Tabs] [QuietD Tryd.prog] [UDef] [UTabs] in
theorem e_sort_stable_func_two_eR_BagOf_1_c (n : Nat) (x) : evF Tryd.prog 57 TT M_sort_stable_func_two_eR_BagOf_1_c F_sort_stable_func_two_eR_BagOf_1_c (O_sort_stable_func_two_eR_BagOf_1_c n) (L_sort_stable_func_two_eR_BagOf_1_c n) dorcNil ⟨[], [], []⟩ [] C_sort_stable_func_two_eR_BagOf_1_c x = sort_stable_func_two_eR_BagOf_1_c n x := by kernel_rfl
omit [UDef] [UTabs] in
theorem ok_sort_stable_func_two_eR_BagOf_1_c (n : Nat) : Contract Tryd.prog 65 F_sort_stable_func_two_eR_BagOf_1_c (sort_stable_func_two_eR_BagOf_1_c n) :=
  Contract.of_ev (c := C_sort_stable_func_two_eR_BagOf_1_c) (N := 57) Tryd.func65 (by kernel_rfl) (by kernel_rfl) (by kernel_rfl) (by kernel_rfl) (O_sort_stable_func_two_eR_BagOf_1_c_ok n) dorcNil_ok (.of (l := [(0, (lbody 1000 C_sort_stable_func_two_eR_BagOf_1_c 0)), (2, (lbody 1000 C_sort_stable_func_two_eR_BagOf_1_c 1))]) (by kernel_rfl) ⟨.head (loopL_sound (O_sort_stable_func_two_eR_BagOf_1_c_ok n) dorcNil_ok (.of (l := []) (by kernel_rfl) trivial) (s_sort_stable_func_two_eR_BagOf_1_c_s0 n)), ⟨.tail rfl (.head (loopL_sound (O_sort_stable_func_two_eR_BagOf_1_c_ok n) dorcNil_ok (.of (l := [(4, (lbody 2 (lbody 1000 C_sort_stable_func_two_eR_BagOf_1_c 1) 0))]) (by kernel_rfl) ⟨.head (loopL_sound (O_sort_stable_func_two_eR_BagOf_1_c_ok n) dorcNil_ok (.of (l := []) (by kernel_rfl) trivial) (s_sort_stable_func_two_eR_BagOf_1_c_s4 n)), trivial⟩) (s_sort_stable_func_two_eR_BagOf_1_c_s2 n))), trivial⟩⟩) (e_sort_stable_func_two_eR_BagOf_1_c n)

omit [UDef] [UTabs] in
theorem ssN_sort_stable_func_two_eR_BagOf_1_c_ok (n : Nat) : Contract Tryd.prog 29 (F_ss 23 32 30) (ssN_sort_stable_func_two_eR_BagOf_1_c n) := sliceStable_ok (ok_sort_stable_func_two_eR_BagOf_1_c n)

noncomputable def C_eR_BagOf : Code := bodyOf Tryd.f11
noncomputable def M_eR_BagOf : List (Nat × ArgM) := [(999999999, ⟨[1], [], [], false⟩), (29, ⟨[1000, 1001], [], [], false⟩), (22, ⟨[], [], [5], false⟩), (31, ⟨[], [], [], true⟩)]
instance : DfOk M_eR_BagOf := .none rfl
noncomputable def O_eR_BagOf {ρ : Type} (n : Nat) : Orc ρ := orcCons 22 F_slices_Clone_C_C_own (slices_Clone_C_C_own) (orcCons 29 (F_ss 23 32 30) (ssN_sort_stable_func_two_eR_BagOf_1_c n) (orcCons 31 F_eR_CompareRows (eR_CompareRows n) (orcNil)))
omit [UDef] [UTabs] in
theorem O_eR_BagOf_ok {ρ : Type} (n : Nat) : (O_eR_BagOf n : Orc ρ).ok Tryd.prog := orcCons_ok (by kernel_rfl) (ok_slices_Clone_C_C_own) (orcCons_ok (by kernel_rfl) (ssN_sort_stable_func_two_eR_BagOf_1_c_ok n) (orcCons_ok (by kernel_rfl) (ok_eR_CompareRows n) (orcNil_ok)))
noncomputable def T_eR_BagOf_s2 : Tm := ⟨[(1, .ptr 1 0), (3, .own 3), (5, .ptr 5 0)], [(4, .i64)], [(1, .box [.ref (.own 7)]), (3, .arr 32 .cnt), (5, .box [.d .cnt]), (7, .arr 32 .cnt)]⟩
noncomputable def X_eR_BagOf_s2 : Tm := ⟨[(1, .ptr 1 0), (3, .own 3), (5, .ptr 5 0)], [(4, .i64)], [(1, .box [.ref (.own 7)]), (3, .arr 32 .cnt), (5, .box [.d .cnt]), (7, .arr 32 .cnt)]⟩
noncomputable def R_eR_BagOf_s2 : Tm := ⟨[], [], []⟩
noncomputable def L_eR_BagOf_s2 {ρ : Type} (n : Nat) : LOrc ρ := lorcNil
omit [Tabs] [QuietD Tryd.prog] [UDef] [UTabs] in
theorem s_eR_BagOf_s2 {ρ : Type} (n : Nat) (rec : T_eR_BagOf_s2.den → Option ρ) kx kr s : dStep Tryd.prog 56 TT M_eR_BagOf (O_eR_BagOf n) (L_eR_BagOf_s2 n) (evDraw Tryd.prog 56 TT M_eR_BagOf (O_eR_BagOf n)) 2 (lbody 0 (lbody 1000 C_eR_BagOf 0) 0) T_eR_BagOf_s2 X_eR_BagOf_s2 R_eR_BagOf_s2 ⟨[], [], []⟩ rec kx kr s = eR_BagOf_s2 n rec kx kr s := by kernel_rfl
noncomputable def T_eR_BagOf_s0 : Tm := ⟨[(1, .ptr 1 0), (3, .own 3)], [(4, .i64)], [(1, .box [.ref (.own 7)]), (3, .arr 32 .cnt), (7, .arr 32 .cnt)]⟩
noncomputable def X_eR_BagOf_s0 : Tm := ⟨[(3, .own 3)], [], [(3, .arr 32 .cnt)]⟩
noncomputable def R_eR_BagOf_s0 : Tm := ⟨[], [], []⟩
noncomputable def L_eR_BagOf_s0 {ρ : Type} (n : Nat) : LOrc ρ := lorcCons 2 (loopL 56 2 n T_eR_BagOf_s2 X_eR_BagOf_s2 R_eR_BagOf_s2 ⟨[], [], []⟩ (eR_BagOf_s2 n)) (lorcNil)
omit [Tabs] [QuietD Tryd.prog] [UDef] [UTabs] in
theorem s_eR_BagOf_s0 {ρ : Type} (n : Nat) (rec : T_eR_BagOf_s0.den → Option ρ) kx kr s : dStep Tryd.prog 56 TT M_eR_BagOf (O_eR_BagOf n) (L_eR_BagOf_s0 n) (evDraw Tryd.prog 56 TT M_eR_BagOf (O_eR_BagOf n)) 0 (lbody 1000 C_eR_BagOf 0) T_eR_BagOf_s0 X_eR_BagOf_s0 R_eR_BagOf_s0 ⟨[], [(3, 3, 32, 2)], []⟩ rec kx kr s = eR_BagOf_s0 n rec kx kr s := by kernel_rfl
noncomputable def L_eR_BagOf {ρ : Type} (n : Nat) : LOrc ρ := lorcCons 0 (loopL 56 0 n T_eR_BagOf_s0 X_eR_BagOf_s0 R_eR_BagOf_s0 ⟨[], [(3, 3, 32, 2)], []⟩ (eR_BagOf_s0 n)) (lorcNil)
omit [Tabs] [QuietD Tryd.prog] [UDef] [UTabs] in
theorem e_eR_BagOf (n : Nat) (x) : evF Tryd.prog 56 TT M_eR_BagOf F_eR_BagOf (O_eR_BagOf n) (L_eR_BagOf n) (evDraw Tryd.prog 56 TT M_eR_BagOf (O_eR_BagOf n)) ⟨[], [], []⟩ [.tmp 2] C_eR_BagOf x = eR_BagOf n x := by kernel_rfl
omit [UDef] [UTabs] in
theorem ok_eR_BagOf (n : Nat) : Contract Tryd.prog 11 F_eR_BagOf (eR_BagOf n) :=
  Contract.of_ev (c := C_eR_BagOf) (N := 56) Tryd.func11 (by kernel_rfl) (by kernel_rfl) (by kernel_rfl) (by kernel_rfl) (O_eR_BagOf_ok n) (evDraw_ok (O_eR_BagOf_ok n) (by kernel_rfl)) (.of (l := [(0, (lbody 1000 C_eR_BagOf 0))]) (by kernel_rfl) ⟨.head (loopL_sound (O_eR_BagOf_ok n) (evDraw_ok (O_eR_BagOf_ok n) (by kernel_rfl)) (.of (l := [(2, (lbody 0 (lbody 1000 C_eR_BagOf 0) 0))]) (by kernel_rfl) ⟨.head (loopL_sound (O_eR_BagOf_ok n) (evDraw_ok (O_eR_BagOf_ok n) (by kernel_rfl)) (.of (l := []) (by kernel_rfl) trivial) (s_eR_BagOf_s2 n)), trivial⟩) (s_eR_BagOf_s0 n)), trivial⟩) (e_eR_BagOf n)

noncomputable def F_eL_waits : FnT := ⟨0, ⟨[], [], []⟩, [.v .bool], []⟩
noncomputable def F_eL_num : FnT := ⟨1, ⟨[], [(0, .i64)], []⟩, [.v .val], []⟩
noncomputable def C_eL_num : Code := bodyOf Tryd.f16
noncomputable def M_eL_num : List (Nat × ArgM) := []
instance : DfOk M_eL_num := .none rfl
noncomputable def O_eL_num {ρ : Type} : Orc ρ := orcNil
omit [QuietD Tryd.prog] [UDef] [UTabs] in
theorem O_eL_num_ok {ρ : Type} : (O_eL_num : Orc ρ).ok Tryd.prog := orcNil_ok
noncomputable def L_eL_num {ρ : Type} : LOrc ρ := lorcNil
omit [Tabs] [QuietD Tryd.prog] [UDef] [UTabs] in
theorem e_eL_num (x) : evF Tryd.prog 5 TT M_eL_num F_eL_num (O_eL_num) (L_eL_num) dorcNil ⟨[], [], []⟩ [.cell 2 40] C_eL_num x = eL_num x := by kernel_rfl
omit [UDef] [UTabs] in
theorem ok_eL_num : Contract Tryd.prog 16 F_eL_num (eL_num) :=
  Contract.of_ev (c := C_eL_num) (N := 5) Tryd.func16 (by kernel_rfl) (by kernel_rfl) (by kernel_rfl) (by kernel_rfl) (O_eL_num_ok) dorcNil_ok (.of (l := []) (by kernel_rfl) trivial) (e_eL_num)

noncomputable def F_guest_Tell : FnT := ⟨2, ⟨[], [(0, .guest), (1, (.lst .cnt))], []⟩, [.v .guest, .v .i64], []⟩
noncomputable def F_guest_Tell_1 : FnT := ⟨3, ⟨[(1, .ptr 1000000 0), (2, .ptr 1000016 0)], [(0, (.lst .cnt))], [(1000000, .box [.d .i64]), (1000016, .box [.ref (.own 1000017)]), (1000017, .arr 24 (.lst .cnt))]⟩, [], [(1000000, .box [.d .i64]), (1000016, .box [.ref (.own 1000017)]), (1000017, .arr 24 (.lst .cnt))]⟩
noncomputable def C_guest_Tell_1 : Code := bodyOf Tryd.f80
noncomputable def M_guest_Tell_1 : List (Nat × ArgM) := []
instance : DfOk M_guest_Tell_1 := .none rfl
noncomputable def O_guest_Tell_1 {ρ : Type} (n : Nat) : Orc ρ := orcCons 55 F_guest_own (guest_own n) (orcNil)
omit [UDef] [UTabs] in
theorem O_guest_Tell_1_ok {ρ : Type} (n : Nat) : (O_guest_Tell_1 n : Orc ρ).ok Tryd.prog := orcCons_ok (by kernel_rfl) (ok_guest_own n) (orcNil_ok)
noncomputable def L_guest_Tell_1 {ρ : Type} (n : Nat) : LOrc ρ := lorcNil
omit [Tabs] [QuietD Tryd.prog] [UDef] [UTabs] in
theorem e_guest_Tell_1 (n : Nat) (x) : evF Tryd.prog 13 TT M_guest_Tell_1 F_guest_Tell_1 (O_guest_Tell_1 n) (L_guest_Tell_1 n) (evDraw Tryd.prog 13 TT M_guest_Tell_1 (O_guest_Tell_1 n)) ⟨[], [], []⟩ [] C_guest_Tell_1 x = guest_Tell_1 n x := by kernel_rfl
omit [UDef] [UTabs] in
theorem ok_guest_Tell_1 (n : Nat) : Contract Tryd.prog 80 F_guest_Tell_1 (guest_Tell_1 n) :=
  Contract.of_ev (c := C_guest_Tell_1) (N := 13) Tryd.func80 (by kernel_rfl) (by kernel_rfl) (by kernel_rfl) (by kernel_rfl) (O_guest_Tell_1_ok n) (evDraw_ok (O_guest_Tell_1_ok n) (by kernel_rfl)) (.of (l := []) (by kernel_rfl) trivial) (e_guest_Tell_1 n)

noncomputable def C_guest_Tell : Code := bodyOf Tryd.f56
noncomputable def M_guest_Tell : List (Nat × ArgM) := [(80, ⟨[1, 2], [], [], false⟩), (54, ⟨[], [], [], true⟩), (28, ⟨[], [], [], true⟩)]
instance : DfOk M_guest_Tell := .none rfl
noncomputable def O_guest_Tell {ρ : Type} (n : Nat) : Orc ρ := orcCons 54 F_guest_Check (guest_Check n) (orcCons 28 F_bag_Check (bag_Check n) (orcCons 80 F_guest_Tell_1 (guest_Tell_1 n) (orcNil)))
omit [UDef] in
theorem O_guest_Tell_ok {ρ : Type} (n : Nat) : (O_guest_Tell n : Orc ρ).ok Tryd.prog := orcCons_ok (by kernel_rfl) (ok_guest_Check n) (orcCons_ok (by kernel_rfl) (ok_bag_Check n) (orcCons_ok (by kernel_rfl) (ok_guest_Tell_1 n) (orcNil_ok)))
noncomputable def T_guest_Tell_s0 : Tm := ⟨[(2, .ptr 2 0), (4, .ptr 4 0), (8, .ptr 8 0), (9, .ptr 9 0), (10, .clo 80 [8, 9])], [(1, (.lst .cnt)), (27, (.lst (.lst .cnt))), (28, .i64), (29, .i64)], [(2, .box [.d .guest]), (4, .box [.d .guest]), (8, .box [.d .i64]), (9, .box [.ref (.own 300360)]), (300360, .arr 24 (.lst .cnt))]⟩
noncomputable def X_guest_Tell_s0 : Tm := ⟨[(2, .ptr 2 0), (4, .ptr 4 0), (8, .ptr 8 0), (9, .ptr 9 0), (10, .clo 80 [8, 9])], [(1, (.lst .cnt))], [(2, .box [.d .guest]), (4, .box [.d .guest]), (8, .box [.d .i64]), (9, .box [.ref (.own 300360)]), (300360, .arr 24 (.lst .cnt))]⟩
noncomputable def R_guest_Tell_s0 : Tm := ⟨[], [], []⟩
noncomputable def L_guest_Tell_s0 {ρ : Type} (n : Nat) : LOrc ρ := lorcNil
omit [Tabs] [QuietD Tryd.prog] [UDef] [UTabs] in
theorem s_guest_Tell_s0 {ρ : Type} (n : Nat) (rec : T_guest_Tell_s0.den → Option ρ) kx kr s : dStep Tryd.prog 54 TT M_guest_Tell (O_guest_Tell n) (L_guest_Tell_s0 n) dorcNil 0 (lbody 1000 C_guest_Tell 0) T_guest_Tell_s0 X_guest_Tell_s0 R_guest_Tell_s0 ⟨[], [], [(9, 0, 300360, 24, 1)]⟩ rec kx kr s = guest_Tell_s0 n rec kx kr s := by kernel_rfl
noncomputable def L_guest_Tell {ρ : Type} (n : Nat) : LOrc ρ := lorcCons 0 (loopL 54 0 n T_guest_Tell_s0 X_guest_Tell_s0 R_guest_Tell_s0 ⟨[], [], [(9, 0, 300360, 24, 1)]⟩ (guest_Tell_s0 n)) (lorcNil)
omit [Tabs] [QuietD Tryd.prog] [UDef] [UTabs] in
theorem e_guest_Tell (n : Nat) (x) : evF Tryd.prog 54 TT M_guest_Tell F_guest_Tell (O_guest_Tell n) (L_guest_Tell n) dorcNil ⟨[], [], []⟩ [.cell 4 54, .tmp 5] C_guest_Tell x = guest_Tell n x := by kernel_rfl
omit [UDef] in
theorem ok_guest_Tell (n : Nat) : Contract Tryd.prog 56 F_guest_Tell (guest_Tell n) :=
  Contract.of_ev (c := C_guest_Tell) (N := 54) Tryd.func56 (by kernel_rfl) (by kernel_rfl) (by kernel_rfl) (by kernel_rfl) (O_guest_Tell_ok n) dorcNil_ok (.of (l := [(0, (lbody 1000 C_guest_Tell 0))]) (by kernel_rfl) ⟨.head (loopL_sound (O_guest_Tell_ok n) dorcNil_ok (.of (l := []) (by kernel_rfl) trivial) (s_guest_Tell_s0 n)), trivial⟩) (e_guest_Tell n)

noncomputable def F_eR_SameBag : FnT := ⟨2, ⟨[], [(0, (.lst .cnt)), (1, (.lst .cnt))], []⟩, [.v .bool], []⟩
noncomputable def F_slices_EqualFunc_api_Bag_api_Bag_C_C_eR_SameBag_1 : FnT := ⟨3, ⟨[(2, .fn 53)], [(0, (.lst .cnt)), (1, (.lst .cnt))], []⟩, [.v .bool], []⟩
noncomputable def F_eR_SameBag_1 : FnT := ⟨2, ⟨[], [(0, .cnt), (1, .cnt)], []⟩, [.v .bool], []⟩
noncomputable def C_eR_SameBag_1 : Code := bodyOf Tryd.f53
noncomputable def M_eR_SameBag_1 : List (Nat × ArgM) := [(31, ⟨[], [], [], true⟩)]
instance : DfOk M_eR_SameBag_1 := .none rfl
noncomputable def O_eR_SameBag_1 {ρ : Type} (n : Nat) : Orc ρ := orcCons 31 F_eR_CompareRows (eR_CompareRows n) (orcNil)
omit [UDef] [UTabs] in
theorem O_eR_SameBag_1_ok {ρ : Type} (n : Nat) : (O_eR_SameBag_1 n : Orc ρ).ok Tryd.prog := orcCons_ok (by kernel_rfl) (ok_eR_CompareRows n) (orcNil_ok)
noncomputable def L_eR_SameBag_1 {ρ : Type} (n : Nat) : LOrc ρ := lorcNil
omit [Tabs] [QuietD Tryd.prog] [UDef] [UTabs] in
theorem e_eR_SameBag_1 (n : Nat) (x) : evF Tryd.prog 18 TT M_eR_SameBag_1 F_eR_SameBag_1 (O_eR_SameBag_1 n) (L_eR_SameBag_1 n) dorcNil ⟨[], [], []⟩ [.tmp 4] C_eR_SameBag_1 x = eR_SameBag_1 n x := by kernel_rfl
omit [UDef] [UTabs] in
theorem ok_eR_SameBag_1 (n : Nat) : Contract Tryd.prog 53 F_eR_SameBag_1 (eR_SameBag_1 n) :=
  Contract.of_ev (c := C_eR_SameBag_1) (N := 18) Tryd.func53 (by kernel_rfl) (by kernel_rfl) (by kernel_rfl) (by kernel_rfl) (O_eR_SameBag_1_ok n) dorcNil_ok (.of (l := []) (by kernel_rfl) trivial) (e_eR_SameBag_1 n)

noncomputable def C_slices_EqualFunc_api_Bag_api_Bag_C_C_eR_SameBag_1 : Code := bodyOf Tryd.f52
noncomputable def M_slices_EqualFunc_api_Bag_api_Bag_C_C_eR_SameBag_1 : List (Nat × ArgM) := [(53, ⟨[], [], [], true⟩)]
instance : DfOk M_slices_EqualFunc_api_Bag_api_Bag_C_C_eR_SameBag_1 := .none rfl
noncomputable def O_slices_EqualFunc_api_Bag_api_Bag_C_C_eR_SameBag_1 {ρ : Type} (n : Nat) : Orc ρ := orcCons 53 F_eR_SameBag_1 (eR_SameBag_1 n) (orcNil)
omit [UDef] [UTabs] in
theorem O_slices_EqualFunc_api_Bag_api_Bag_C_C_eR_SameBag_1_ok {ρ : Type} (n : Nat) : (O_slices_EqualFunc_api_Bag_api_Bag_C_C_eR_SameBag_1 n : Orc ρ).ok Tryd.prog := orcCons_ok (by kernel_rfl) (ok_eR_SameBag_1 n) (orcNil_ok)
noncomputable def T_slices_EqualFunc_api_Bag_api_Bag_C_C_eR_SameBag_1_s0 : Tm := ⟨[(2, .fn 53)], [(1, (.lst .cnt)), (15, (.lst .cnt)), (16, .i64), (17, .i64)], []⟩
noncomputable def X_slices_EqualFunc_api_Bag_api_Bag_C_C_eR_SameBag_1_s0 : Tm := ⟨[], [], []⟩
noncomputable def R_slices_EqualFunc_api_Bag_api_Bag_C_C_eR_SameBag_1_s0 : Tm := ⟨[], [(6, .bool)], []⟩
noncomputable def L_slices_EqualFunc_api_Bag_api_Bag_C_C_eR_SameBag_1_s0 {ρ : Type} (n : Nat) : LOrc ρ := lorcNil
omit [Tabs] [QuietD Tryd.prog] [UDef] [UTabs] in
theorem s_slices_EqualFunc_api_Bag_api_Bag_C_C_eR_SameBag_1_s0 {ρ : Type} (n : Nat) (rec : T_slices_EqualFunc_api_Bag_api_Bag_C_C_eR_SameBag_1_s0.den → Option ρ) kx kr s : dStep Tryd.prog 32 TT M_slices_EqualFunc_api_Bag_api_Bag_C_C_eR_SameBag_1 (O_slices_EqualFunc_api_Bag_api_Bag_C_C_eR_SameBag_1 n) (L_slices_EqualFunc_api_Bag_api_Bag_C_C_eR_SameBag_1_s0 n) dorcNil 0 (lbody 1000 C_slices_EqualFunc_api_Bag_api_Bag_C_C_eR_SameBag_1 0) T_slices_EqualFunc_api_Bag_api_Bag_C_C_eR_SameBag_1_s0 X_slices_EqualFunc_api_Bag_api_Bag_C_C_eR_SameBag_1_s0 R_slices_EqualFunc_api_Bag_api_Bag_C_C_eR_SameBag_1_s0 ⟨[], [], []⟩ rec kx kr s = slices_EqualFunc_api_Bag_api_Bag_C_C_eR_SameBag_1_s0 n rec kx kr s := by kernel_rfl
noncomputable def L_slices_EqualFunc_api_Bag_api_Bag_C_C_eR_SameBag_1 {ρ : Type} (n : Nat) : LOrc ρ := lorcCons 0 (loopL 32 0 n T_slices_EqualFunc_api_Bag_api_Bag_C_C_eR_SameBag_1_s0 X_slices_EqualFunc_api_Bag_api_Bag_C_C_eR_SameBag_1_s0 R_slices_EqualFunc_api_Bag_api_Bag_C_C_eR_SameBag_1_s0 ⟨[], [], []⟩ (slices_EqualFunc_api_Bag_api_Bag_C_C_eR_SameBag_1_s0 n)) (lorcNil)
omit [Tabs] [QuietD Tryd.prog] [UDef] [UTabs] in
theorem e_slices_EqualFunc_api_Bag_api_Bag_C_C_eR_SameBag_1 (n : Nat) (x) : evF Tryd.prog 32 TT M_slices_EqualFunc_api_Bag_api_Bag_C_C_eR_SameBag_1 F_slices_EqualFunc_api_Bag_api_Bag_C_C_eR_SameBag_1 (O_slices_EqualFunc_api_Bag_api_Bag_C_C_eR_SameBag_1 n) (L_slices_EqualFunc_api_Bag_api_Bag_C_C_eR_SameBag_1 n) dorcNil ⟨[], [], []⟩ [.tmp 6] C_slices_EqualFunc_api_Bag_api_Bag_C_C_eR_SameBag_1 x = slices_EqualFunc_api_Bag_api_Bag_C_C_eR_SameBag_1 n x := by kernel_rfl
omit [UDef] [UTabs] in
theorem ok_slices_EqualFunc_api_Bag_api_Bag_C_C_eR_SameBag_1 (n : Nat) : Contract Tryd.prog 52 F_slices_EqualFunc_api_Bag_api_Bag_C_C_eR_SameBag_1 (slices_EqualFunc_api_Bag_api_Bag_C_C_eR_SameBag_1 n) :=
  Contract.of_ev (c := C_slices_EqualFunc_api_Bag_api_Bag_C_C_eR_SameBag_1) (N := 32) Tryd.func52 (by kernel_rfl) (by kernel_rfl) (by kernel_rfl) (by kernel_rfl) (O_slices_EqualFunc_api_Bag_api_Bag_C_C_eR_SameBag_1_ok n) dorcNil_ok (.of (l := [(0, (lbody 1000 C_slices_EqualFunc_api_Bag_api_Bag_C_C_eR_SameBag_1 0))]) (by kernel_rfl) ⟨.head (loopL_sound (O_slices_EqualFunc_api_Bag_api_Bag_C_C_eR_SameBag_1_ok n) dorcNil_ok (.of (l := []) (by kernel_rfl) trivial) (s_slices_EqualFunc_api_Bag_api_Bag_C_C_eR_SameBag_1_s0 n)), trivial⟩) (e_slices_EqualFunc_api_Bag_api_Bag_C_C_eR_SameBag_1 n)

noncomputable def C_eR_SameBag : Code := bodyOf Tryd.f21
noncomputable def M_eR_SameBag : List (Nat × ArgM) := [(52, ⟨[], [], [], true⟩)]
instance : DfOk M_eR_SameBag := .none rfl
noncomputable def O_eR_SameBag {ρ : Type} (n : Nat) : Orc ρ := orcCons 52 F_slices_EqualFunc_api_Bag_api_Bag_C_C_eR_SameBag_1 (slices_EqualFunc_api_Bag_api_Bag_C_C_eR_SameBag_1 n) (orcNil)
omit [UDef] [UTabs] in
theorem O_eR_SameBag_ok {ρ : Type} (n : Nat) : (O_eR_SameBag n : Orc ρ).ok Tryd.prog := orcCons_ok (by kernel_rfl) (ok_slices_EqualFunc_api_Bag_api_Bag_C_C_eR_SameBag_1 n) (orcNil_ok)
noncomputable def L_eR_SameBag {ρ : Type} (n : Nat) : LOrc ρ := lorcNil
omit [Tabs] [QuietD Tryd.prog] [UDef] [UTabs] in
theorem e_eR_SameBag (n : Nat) (x) : evF Tryd.prog 8 TT M_eR_SameBag F_eR_SameBag (O_eR_SameBag n) (L_eR_SameBag n) dorcNil ⟨[], [], []⟩ [.tmp 4] C_eR_SameBag x = eR_SameBag n x := by kernel_rfl
omit [UDef] [UTabs] in
theorem ok_eR_SameBag (n : Nat) : Contract Tryd.prog 21 F_eR_SameBag (eR_SameBag n) :=
  Contract.of_ev (c := C_eR_SameBag) (N := 8) Tryd.func21 (by kernel_rfl) (by kernel_rfl) (by kernel_rfl) (by kernel_rfl) (O_eR_SameBag_ok n) dorcNil_ok (.of (l := []) (by kernel_rfl) trivial) (e_eR_SameBag n)

noncomputable def C_eL_waits : Code := bodyOf Tryd.f25
noncomputable def M_eL_waits : List (Nat × ArgM) := [(21, ⟨[], [], [], true⟩)]
instance : DfOk M_eL_waits := .none rfl
noncomputable def O_eL_waits {ρ : Type} (n : Nat) : Orc ρ := orcCons 16 F_eL_num (eL_num) (orcCons 56 F_guest_Tell (guest_Tell n) (orcCons 23 F_guest_Take (guest_Take n) (orcCons 21 F_eR_SameBag (eR_SameBag n) (orcNil))))
omit [UDef] in
theorem O_eL_waits_ok {ρ : Type} (n : Nat) : (O_eL_waits n : Orc ρ).ok Tryd.prog := orcCons_ok (by kernel_rfl) (ok_eL_num) (orcCons_ok (by kernel_rfl) (ok_guest_Tell n) (orcCons_ok (by kernel_rfl) (ok_guest_Take n) (orcCons_ok (by kernel_rfl) (ok_eR_SameBag n) (orcNil_ok))))
noncomputable def L_eL_waits {ρ : Type} (n : Nat) : LOrc ρ := lorcNil
omit [Tabs] [QuietD Tryd.prog] [UDef] [UTabs] in
theorem e_eL_waits (n : Nat) (x) : evF Tryd.prog 59 TT M_eL_waits F_eL_waits (O_eL_waits n) (L_eL_waits n) dorcNil ⟨[], [], []⟩ [.tmp 0] C_eL_waits x = eL_waits n x := by kernel_rfl
omit [UDef] in
theorem ok_eL_waits (n : Nat) : Contract Tryd.prog 25 F_eL_waits (eL_waits n) :=
  Contract.of_ev (c := C_eL_waits) (N := 59) Tryd.func25 (by kernel_rfl) (by kernel_rfl) (by kernel_rfl) (by kernel_rfl) (O_eL_waits_ok n) dorcNil_ok (.of (l := []) (by kernel_rfl) trivial) (e_eL_waits n)

noncomputable def F_eL_sameGuest : FnT := ⟨2, ⟨[], [(0, .guest), (1, .guest)], []⟩, [.v .bool], []⟩
noncomputable def F_slices_EqualFunc_api_Bag_api_Bag_api_Bag_api_Bag_eR_SameBag : FnT := ⟨3, ⟨[(2, .fn 21)], [(0, (.lst (.lst .cnt))), (1, (.lst (.lst .cnt)))], []⟩, [.v .bool], []⟩
noncomputable def C_slices_EqualFunc_api_Bag_api_Bag_api_Bag_api_Bag_eR_SameBag : Code := bodyOf Tryd.f57
noncomputable def M_slices_EqualFunc_api_Bag_api_Bag_api_Bag_api_Bag_eR_SameBag : List (Nat × ArgM) := [(21, ⟨[], [], [], true⟩)]
instance : DfOk M_slices_EqualFunc_api_Bag_api_Bag_api_Bag_api_Bag_eR_SameBag := .none rfl
noncomputable def O_slices_EqualFunc_api_Bag_api_Bag_api_Bag_api_Bag_eR_SameBag {ρ : Type} (n : Nat) : Orc ρ := orcCons 21 F_eR_SameBag (eR_SameBag n) (orcNil)
omit [UDef] [UTabs] in
theorem O_slices_EqualFunc_api_Bag_api_Bag_api_Bag_api_Bag_eR_SameBag_ok {ρ : Type} (n : Nat) : (O_slices_EqualFunc_api_Bag_api_Bag_api_Bag_api_Bag_eR_SameBag n : Orc ρ).ok Tryd.prog := orcCons_ok (by kernel_rfl) (ok_eR_SameBag n) (orcNil_ok)
noncomputable def T_slices_EqualFunc_api_Bag_api_Bag_api_Bag_api_Bag_eR_SameBag_s0 : Tm := ⟨[(2, .fn 21)], [(1, (.lst (.lst .cnt))), (15, (.lst (.lst .cnt))), (16, .i64), (17, .i64)], []⟩
noncomputable def X_slices_EqualFunc_api_Bag_api_Bag_api_Bag_api_Bag_eR_SameBag_s0 : Tm := ⟨[], [], []⟩
noncomputable def R_slices_EqualFunc_api_Bag_api_Bag_api_Bag_api_Bag_eR_SameBag_s0 : Tm := ⟨[], [(6, .bool)], []⟩
noncomputable def L_slices_EqualFunc_api_Bag_api_Bag_api_Bag_api_Bag_eR_SameBag_s0 {ρ : Type} (n : Nat) : LOrc ρ := lorcNil
omit [Tabs] [QuietD Tryd.prog] [UDef] [UTabs] in
theorem s_slices_EqualFunc_api_Bag_api_Bag_api_Bag_api_Bag_eR_SameBag_s0 {ρ : Type} (n : Nat) (rec : T_slices_EqualFunc_api_Bag_api_Bag_api_Bag_api_Bag_eR_SameBag_s0.den → Option ρ) kx kr s : dStep Tryd.prog 32 TT M_slices_EqualFunc_api_Bag_api_Bag_api_Bag_api_Bag_eR_SameBag (O_slices_EqualFunc_api_Bag_api_Bag_api_Bag_api_Bag_eR_SameBag n) (L_slices_EqualFunc_api_Bag_api_Bag_api_Bag_api_Bag_eR_SameBag_s0 n) dorcNil 0 (lbody 1000 C_slices_EqualFunc_api_Bag_api_Bag_api_Bag_api_Bag_eR_SameBag 0) T_slices_EqualFunc_api_Bag_api_Bag_api_Bag_api_Bag_eR_SameBag_s0 X_slices_EqualFunc_api_Bag_api_Bag_api_Bag_api_Bag_eR_SameBag_s0 R_slices_EqualFunc_api_Bag_api_Bag_api_Bag_api_Bag_eR_SameBag_s0 ⟨[], [], []⟩ rec kx kr s = slices_EqualFunc_api_Bag_api_Bag_api_Bag_api_Bag_eR_SameBag_s0 n rec kx kr s := by kernel_rfl
noncomputable def L_slices_EqualFunc_api_Bag_api_Bag_api_Bag_api_Bag_eR_SameBag {ρ : Type} (n : Nat) : LOrc ρ := lorcCons 0 (loopL 32 0 n T_slices_EqualFunc_api_Bag_api_Bag_api_Bag_api_Bag_eR_SameBag_s0 X_slices_EqualFunc_api_Bag_api_Bag_api_Bag_api_Bag_eR_SameBag_s0 R_slices_EqualFunc_api_Bag_api_Bag_api_Bag_api_Bag_eR_SameBag_s0 ⟨[], [], []⟩ (slices_EqualFunc_api_Bag_api_Bag_api_Bag_api_Bag_eR_SameBag_s0 n)) (lorcNil)
omit [Tabs] [QuietD Tryd.prog] [UDef] [UTabs] in
theorem e_slices_EqualFunc_api_Bag_api_Bag_api_Bag_api_Bag_eR_SameBag (n : Nat) (x) : evF Tryd.prog 32 TT M_slices_EqualFunc_api_Bag_api_Bag_api_Bag_api_Bag_eR_SameBag F_slices_EqualFunc_api_Bag_api_Bag_api_Bag_api_Bag_eR_SameBag (O_slices_EqualFunc_api_Bag_api_Bag_api_Bag_api_Bag_eR_SameBag n) (L_slices_EqualFunc_api_Bag_api_Bag_api_Bag_api_Bag_eR_SameBag n) dorcNil ⟨[], [], []⟩ [.tmp 6] C_slices_EqualFunc_api_Bag_api_Bag_api_Bag_api_Bag_eR_SameBag x = slices_EqualFunc_api_Bag_api_Bag_api_Bag_api_Bag_eR_SameBag n x := by kernel_rfl
omit [UDef] [UTabs] in
theorem ok_slices_EqualFunc_api_Bag_api_Bag_api_Bag_api_Bag_eR_SameBag (n : Nat) : Contract Tryd.prog 57 F_slices_EqualFunc_api_Bag_api_Bag_api_Bag_api_Bag_eR_SameBag (slices_EqualFunc_api_Bag_api_Bag_api_Bag_api_Bag_eR_SameBag n) :=
  Contract.of_ev (c := C_slices_EqualFunc_api_Bag_api_Bag_api_Bag_api_Bag_eR_SameBag) (N := 32) Tryd.func57 (by kernel_rfl) (by kernel_rfl) (by kernel_rfl) (by kernel_rfl) (O_slices_EqualFunc_api_Bag_api_Bag_api_Bag_api_Bag_eR_SameBag_ok n) dorcNil_ok (.of (l := [(0, (lbody 1000 C_slices_EqualFunc_api_Bag_api_Bag_api_Bag_api_Bag_eR_SameBag 0))]) (by kernel_rfl) ⟨.head (loopL_sound (O_slices_EqualFunc_api_Bag_api_Bag_api_Bag_api_Bag_eR_SameBag_ok n) dorcNil_ok (.of (l := []) (by kernel_rfl) trivial) (s_slices_EqualFunc_api_Bag_api_Bag_api_Bag_api_Bag_eR_SameBag_s0 n)), trivial⟩) (e_slices_EqualFunc_api_Bag_api_Bag_api_Bag_api_Bag_eR_SameBag n)

noncomputable def C_eL_sameGuest : Code := bodyOf Tryd.f26
noncomputable def M_eL_sameGuest : List (Nat × ArgM) := [(57, ⟨[], [], [], true⟩)]
instance : DfOk M_eL_sameGuest := .none rfl
noncomputable def O_eL_sameGuest {ρ : Type} (n : Nat) : Orc ρ := orcCons 57 F_slices_EqualFunc_api_Bag_api_Bag_api_Bag_api_Bag_eR_SameBag (slices_EqualFunc_api_Bag_api_Bag_api_Bag_api_Bag_eR_SameBag n) (orcNil)
omit [UDef] [UTabs] in
theorem O_eL_sameGuest_ok {ρ : Type} (n : Nat) : (O_eL_sameGuest n : Orc ρ).ok Tryd.prog := orcCons_ok (by kernel_rfl) (ok_slices_EqualFunc_api_Bag_api_Bag_api_Bag_api_Bag_eR_SameBag n) (orcNil_ok)
noncomputable def L_eL_sameGuest {ρ : Type} (n : Nat) : LOrc ρ := lorcNil
omit [Tabs] [QuietD Tryd.prog] [UDef] [UTabs] in
theorem e_eL_sameGuest (n : Nat) (x) : evF Tryd.prog 31 TT M_eL_sameGuest F_eL_sameGuest (O_eL_sameGuest n) (L_eL_sameGuest n) dorcNil ⟨[], [], []⟩ [.tmp 4] C_eL_sameGuest x = eL_sameGuest n x := by kernel_rfl
omit [UDef] [UTabs] in
theorem ok_eL_sameGuest (n : Nat) : Contract Tryd.prog 26 F_eL_sameGuest (eL_sameGuest n) :=
  Contract.of_ev (c := C_eL_sameGuest) (N := 31) Tryd.func26 (by kernel_rfl) (by kernel_rfl) (by kernel_rfl) (by kernel_rfl) (O_eL_sameGuest_ok n) dorcNil_ok (.of (l := []) (by kernel_rfl) trivial) (e_eL_sameGuest n)

noncomputable def C_eL_GuestTake : Code := bodyOf Tryd.f7
noncomputable def M_eL_GuestTake : List (Nat × ArgM) := [(24, ⟨[], [], [], true⟩), (13, ⟨[], [], [], true⟩), (25, ⟨[], [], [], true⟩), (26, ⟨[], [], [], true⟩), (21, ⟨[], [], [], true⟩)]
instance : DfOk M_eL_GuestTake := .none rfl
noncomputable def O_eL_GuestTake {ρ : Type} (n : Nat) : Orc ρ := orcCons 23 F_guest_Take (guest_Take n) (orcCons 24 F_eL_checkGuest (eL_checkGuest n) (orcCons 13 F_eR_CheckBag (eR_CheckBag n) (orcCons 11 F_eR_BagOf (eR_BagOf n) (orcCons 25 F_eL_waits (eL_waits n) (orcCons 26 F_eL_sameGuest (eL_sameGuest n) (orcCons 21 F_eR_SameBag (eR_SameBag n) (orcNil)))))))
omit [UDef] in
theorem O_eL_GuestTake_ok {ρ : Type} (n : Nat) : (O_eL_GuestTake n : Orc ρ).ok Tryd.prog := orcCons_ok (by kernel_rfl) (ok_guest_Take n) (orcCons_ok (by kernel_rfl) (ok_eL_checkGuest n) (orcCons_ok (by kernel_rfl) (ok_eR_CheckBag n) (orcCons_ok (by kernel_rfl) (ok_eR_BagOf n) (orcCons_ok (by kernel_rfl) (ok_eL_waits n) (orcCons_ok (by kernel_rfl) (ok_eL_sameGuest n) (orcCons_ok (by kernel_rfl) (ok_eR_SameBag n) (orcNil_ok)))))))
noncomputable def T_eL_GuestTake_s0 : Tm := ⟨[(3, .ptr 3 0), (7, .ptr 7 0), (12, .own 12)], [(1, (.lst .cnt)), (2, .i64), (8, (.lst .cnt)), (9, .bool), (10, .i64), (11, .i64), (40, (.lst (.lst .cnt))), (41, .i64), (42, .i64)], [(3, .box [.d .guest]), (7, .box [.d .guest]), (12, .arr 32 .cnt)]⟩
noncomputable def X_eL_GuestTake_s0 : Tm := ⟨[(3, .ptr 3 0), (7, .ptr 7 0), (12, .own 12)], [(1, (.lst .cnt)), (2, .i64), (8, (.lst .cnt)), (9, .bool), (10, .i64), (11, .i64)], [(3, .box [.d .guest]), (7, .box [.d .guest]), (12, .arr 32 .cnt)]⟩
noncomputable def R_eL_GuestTake_s0 : Tm := ⟨[], [], []⟩
noncomputable def L_eL_GuestTake_s0 {ρ : Type} (n : Nat) : LOrc ρ := lorcNil
omit [Tabs] [QuietD Tryd.prog] [UDef] [UTabs] in
theorem s_eL_GuestTake_s0 {ρ : Type} (n : Nat) (rec : T_eL_GuestTake_s0.den → Option ρ) kx kr s : dStep Tryd.prog 106 TT M_eL_GuestTake (O_eL_GuestTake n) (L_eL_GuestTake_s0 n) dorcNil 0 (lbody 1000 C_eL_GuestTake 0) T_eL_GuestTake_s0 X_eL_GuestTake_s0 R_eL_GuestTake_s0 ⟨[], [(12, 12, 32, 2)], []⟩ rec kx kr s = eL_GuestTake_s0 n rec kx kr s := by kernel_rfl
noncomputable def L_eL_GuestTake {ρ : Type} (n : Nat) : LOrc ρ := lorcCons 0 (loopL 106 0 n T_eL_GuestTake_s0 X_eL_GuestTake_s0 R_eL_GuestTake_s0 ⟨[], [(12, 12, 32, 2)], []⟩ (eL_GuestTake_s0 n)) (lorcNil)
omit [Tabs] [QuietD Tryd.prog] [UDef] [UTabs] in
theorem e_eL_GuestTake (n : Nat) (x) : evF Tryd.prog 106 TT M_eL_GuestTake F_eL_GuestTake (O_eL_GuestTake n) (L_eL_GuestTake n) dorcNil ⟨[], [], []⟩ [.tmp 6] C_eL_GuestTake x = eL_GuestTake n x := by kernel_rfl
omit [UDef] in
theorem ok_eL_GuestTake (n : Nat) : Contract Tryd.prog 7 F_eL_GuestTake (eL_GuestTake n) :=
  Contract.of_ev (c := C_eL_GuestTake) (N := 106) Tryd.func7 (by kernel_rfl) (by kernel_rfl) (by kernel_rfl) (by kernel_rfl) (O_eL_GuestTake_ok n) dorcNil_ok (.of (l := [(0, (lbody 1000 C_eL_GuestTake 0))]) (by kernel_rfl) ⟨.head (loopL_sound (O_eL_GuestTake_ok n) dorcNil_ok (.of (l := []) (by kernel_rfl) trivial) (s_eL_GuestTake_s0 n)), trivial⟩) (e_eL_GuestTake n)

end Go.Proofs.YtheaknjhanchbaaDoor

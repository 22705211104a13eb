/- Each of these functions computes what its plain function computes (written by gen.py). -/
import Derived.Test.YtheaknjhanchbaaDoorSBase
import Derived.KernelRfl
import Derived.Test.YtheaknjhanchbaaDoorEvDraw
import Derived.Test.YtheaknjhanchbaaDoorPCode
namespace Go.Proofs.YtheaknjhanchbaaDoor
open Go Esp Ev Pure
set_option linter.unusedSimpArgs false
set_option linter.unusedVariables false
set_option maxRecDepth 100000
set_option maxHeartbeats 1000000
/-- the functions that may be put off -/
def okds : List FuncId := []
theorem quiets : ∀ g ∈ okds, ∀ (args : Array Value) (w : World), (callFunc g args).run Tryd.prog w = .ok (.enter g args) w ∧ CallsD Tryd.prog g args .returning w fun e u w' => u = .returning ∧ (∃ v, e = .returned v) ∧ w' = w := by
  intro g hg args w
  cases hg
variable [Tabs]
/-- what is put off -/
class UDef : Prop where
  ok : ∀ g ∈ ([] : List Nat), g ∈ Tabs.okd
variable [QuietD Tryd.prog] [UDef] [UTabs]
def TT : List (TypeId × Ty) := [(2, .i64), (3, .i64), (4, .bool), (5, .u8), (6, .u8), (9, .str), (10, .str), (11, .str), (12, .u64), (21, .i32), (22, (.lst (.lst .val))), (23, (.lst .cnt)), (24, (.lst .cnt)), (25, .i64), (29, (.lst .val)), (30, (.lst .val)), (32, .cnt), (37, (.lst (.lst .cnt))), (40, .val), (47, (.lst .i64)), (54, .guest), (63, (.two (.lst .cnt))), (73, (.lst .u32)), (92, .u64), (106, (.lst .u8)), (112, .u64), (114, .u64), (136, .u32), (148, .u8), (149, .u8), (152, .i32), (153, .i32)]

noncomputable def F_eL_BagJoin : FnT := ⟨3, ⟨[], [(0, (.lst .cnt)), (1, (.lst .cnt)), (2, .i64)], []⟩, [.v .bool], []⟩
noncomputable def F_bag_Join : FnT := ⟨3, ⟨[], [(0, (.lst .cnt)), (1, (.lst .cnt)), (2, .i64)], []⟩, [.v (.lst .cnt), .v .i64], []⟩
noncomputable def F_bag_both_bag_Join_1_c : FnT := ⟨3, ⟨[(2, .clo 33 [1000000, 1000001, 1000002, 1000003])], [(0, (.lst .cnt)), (1, (.lst .cnt))], [(1000000, .box [.d (.lst .cnt)]), (1000001, .box [.d (.lst .cnt)]), (1000002, .box [.d .i64]), (1000003, .box [.d .bool])]⟩, [.v (.lst .cnt), .v .i64], [(1000000, .box [.d (.lst .cnt)]), (1000001, .box [.d (.lst .cnt)]), (1000002, .box [.d .i64]), (1000003, .box [.d .bool])]⟩
noncomputable def F_bag_Check : FnT := ⟨1, ⟨[], [(0, (.lst .cnt))], []⟩, [.v .i64], []⟩
noncomputable def F_value_Check : FnT := ⟨1, ⟨[], [(0, .val)], []⟩, [.v .i64], []⟩
noncomputable def F_value_check : FnT := ⟨2, ⟨[], [(0, .val), (1, .i64)], []⟩, [.v .i64], []⟩
noncomputable def C_value_check : Code := bodyOf Tryd.f83
noncomputable def M_value_check : List (Nat × ArgM) := [(70, ⟨[], [], [], true⟩), (83, ⟨[], [], [], true⟩)]
instance : DfOk M_value_check := .none rfl
noncomputable def O_value_check {ρ : Type} (self_value_check : Ev.Val × Int × Unit → Option (Int × Unit)) (n : Nat) : Orc ρ := orcCons 70 F_valid (validN) (orcCons 83 F_value_check (self_value_check) (orcNil))
omit [QuietD Tryd.prog] [UDef] in
theorem O_value_check_ok {ρ : Type} (self_value_check : Ev.Val × Int × Unit → Option (Int × Unit)) (h_value_check : Contract Tryd.prog 83 F_value_check self_value_check) (n : Nat) : (O_value_check self_value_check n : Orc ρ).ok Tryd.prog := orcCons_ok (by kernel_rfl) (validN_ok) (orcCons_ok (by kernel_rfl) (h_value_check) (orcNil_ok))
noncomputable def T_value_check_s1 : Tm := ⟨[(2, .ptr 2 0)], [(1, .i64), (90, (.lst .val)), (91, .i64), (92, .i64)], [(2, .box [.d .val])]⟩
noncomputable def X_value_check_s1 : Tm := ⟨[(2, .ptr 2 0)], [], [(2, .box [.d .val])]⟩
noncomputable def R_value_check_s1 : Tm := ⟨[], [(4, .i64)], []⟩
noncomputable def L_value_check_s1 {ρ : Type} (self_value_check : Ev.Val × Int × Unit → Option (Int × Unit)) (n : Nat) : LOrc ρ := lorcNil
omit [Tabs] [QuietD Tryd.prog] [UDef] [UTabs] in
theorem s_value_check_s1 {ρ : Type} (self_value_check : Ev.Val × Int × Unit → Option (Int × Unit)) (n : Nat) (rec : T_value_check_s1.den → Option ρ) kx kr s : dStep Tryd.prog 114 TT M_value_check (O_value_check self_value_check n) (L_value_check_s1 self_value_check n) dorcNil 1 (lbody 1000 C_value_check 0) T_value_check_s1 X_value_check_s1 R_value_check_s1 ⟨[], [], []⟩ rec kx kr s = value_check_s1 self_value_check n rec kx kr s := by kernel_rfl
noncomputable def L_value_check {ρ : Type} (self_value_check : Ev.Val × Int × Unit → Option (Int × Unit)) (n : Nat) : LOrc ρ := lorcCons 1 (loopL 114 1 n T_value_check_s1 X_value_check_s1 R_value_check_s1 ⟨[], [], []⟩ (value_check_s1 self_value_check n)) (lorcNil)
omit [Tabs] [QuietD Tryd.prog] [UDef] [UTabs] in
theorem e_value_check (self_value_check : Ev.Val × Int × Unit → Option (Int × Unit)) (n : Nat) (x) : evF Tryd.prog 114 TT M_value_check F_value_check (O_value_check self_value_check n) (L_value_check self_value_check n) dorcNil ⟨[], [], []⟩ [.tmp 4] C_value_check x = value_check_b self_value_check n x := by kernel_rfl
omit [UDef] in
theorem okb_value_check (self_value_check : Ev.Val × Int × Unit → Option (Int × Unit)) (h_value_check : Contract Tryd.prog 83 F_value_check self_value_check) (n : Nat) : Contract Tryd.prog 83 F_value_check (value_check_b self_value_check n) :=
  Contract.of_ev (c := C_value_check) (N := 114) Tryd.func83 (by kernel_rfl) (by kernel_rfl) (by kernel_rfl) (by kernel_rfl) (O_value_check_ok self_value_check h_value_check n) dorcNil_ok (.of (l := [(1, (lbody 1000 C_value_check 0))]) (by kernel_rfl) ⟨.head (loopL_sound (O_value_check_ok self_value_check h_value_check n) dorcNil_ok (.of (l := []) (by kernel_rfl) trivial) (s_value_check_s1 self_value_check n)), trivial⟩) (e_value_check self_value_check n)
omit [UDef] in
theorem ok_value_check : ∀ n, Contract Tryd.prog 83 F_value_check (value_check n)
  | 0 => fun _ _ h => by cases h
  | n + 1 => okb_value_check _ (ok_value_check n) n

noncomputable def C_value_Check : Code := bodyOf Tryd.f62
noncomputable def M_value_Check : List (Nat × ArgM) := [(83, ⟨[], [], [], true⟩)]
instance : DfOk M_value_Check := .none rfl
noncomputable def O_value_Check {ρ : Type} (n : Nat) : Orc ρ := orcCons 83 F_value_check (value_check n) (orcNil)
omit [UDef] in
theorem O_value_Check_ok {ρ : Type} (n : Nat) : (O_value_Check n : Orc ρ).ok Tryd.prog := orcCons_ok (by kernel_rfl) (ok_value_check n) (orcNil_ok)
noncomputable def L_value_Check {ρ : Type} (n : Nat) : LOrc ρ := lorcNil
omit [Tabs] [QuietD Tryd.prog] [UDef] [UTabs] in
theorem e_value_Check (n : Nat) (x) : evF Tryd.prog 5 TT M_value_Check F_value_Check (O_value_Check n) (L_value_Check n) dorcNil ⟨[], [], []⟩ [.tmp 2] C_value_Check x = value_Check n x := by kernel_rfl
omit [UDef] in
theorem ok_value_Check (n : Nat) : Contract Tryd.prog 62 F_value_Check (value_Check n) :=
  Contract.of_ev (c := C_value_Check) (N := 5) Tryd.func62 (by kernel_rfl) (by kernel_rfl) (by kernel_rfl) (by kernel_rfl) (O_value_Check_ok n) dorcNil_ok (.of (l := []) (by kernel_rfl) trivial) (e_value_Check n)

noncomputable def F_bag_Compare : FnT := ⟨2, ⟨[], [(0, (.lst .val)), (1, (.lst .val))], []⟩, [.v .i64], []⟩
noncomputable def F_sl_CompareFunc_W_W_V_V_value_Order : FnT := ⟨3, ⟨[(2, .fn 68)], [(0, (.lst .val)), (1, (.lst .val))], []⟩, [.v .i64], []⟩
noncomputable def F_value_Order : FnT := ⟨2, ⟨[], [(0, .val), (1, .val)], []⟩, [.v .i64], []⟩
noncomputable def F_cmp_Compare_int : FnT := ⟨2, ⟨[], [(0, .i64), (1, .i64)], []⟩, [.v .i64], []⟩
noncomputable def F_cmp_isNaN_int : FnT := ⟨1, ⟨[], [(0, .i64)], []⟩, [.v .bool], []⟩
noncomputable def C_cmp_isNaN_int : Code := bodyOf Tryd.f110
noncomputable def M_cmp_isNaN_int : List (Nat × ArgM) := []
instance : DfOk M_cmp_isNaN_int := .none rfl
noncomputable def O_cmp_isNaN_int {ρ : Type} : Orc ρ := orcNil
omit [QuietD Tryd.prog] [UDef] [UTabs] in
theorem O_cmp_isNaN_int_ok {ρ : Type} : (O_cmp_isNaN_int : Orc ρ).ok Tryd.prog := orcNil_ok
noncomputable def L_cmp_isNaN_int {ρ : Type} : LOrc ρ := lorcNil
omit [Tabs] [QuietD Tryd.prog] [UDef] [UTabs] in
theorem e_cmp_isNaN_int (x) : evF Tryd.prog 6 TT M_cmp_isNaN_int F_cmp_isNaN_int (O_cmp_isNaN_int) (L_cmp_isNaN_int) dorcNil ⟨[], [], []⟩ [.tmp 2] C_cmp_isNaN_int x = cmp_isNaN_int x := by kernel_rfl
omit [UDef] [UTabs] in
theorem ok_cmp_isNaN_int : Contract Tryd.prog 110 F_cmp_isNaN_int (cmp_isNaN_int) :=
  Contract.of_ev (c := C_cmp_isNaN_int) (N := 6) Tryd.func110 (by kernel_rfl) (by kernel_rfl) (by kernel_rfl) (by kernel_rfl) (O_cmp_isNaN_int_ok) dorcNil_ok (.of (l := []) (by kernel_rfl) trivial) (e_cmp_isNaN_int)

noncomputable def C_cmp_Compare_int : Code := bodyOf Tryd.f95
noncomputable def M_cmp_Compare_int : List (Nat × ArgM) := [(110, ⟨[], [], [], true⟩)]
instance : DfOk M_cmp_Compare_int := .none rfl
noncomputable def O_cmp_Compare_int {ρ : Type} : Orc ρ := orcCons 110 F_cmp_isNaN_int (cmp_isNaN_int) (orcNil)
omit [UDef] [UTabs] in
theorem O_cmp_Compare_int_ok {ρ : Type} : (O_cmp_Compare_int : Orc ρ).ok Tryd.prog := orcCons_ok (by kernel_rfl) (ok_cmp_isNaN_int) (orcNil_ok)
noncomputable def L_cmp_Compare_int {ρ : Type} : LOrc ρ := lorcNil
omit [Tabs] [QuietD Tryd.prog] [UDef] [UTabs] in
theorem e_cmp_Compare_int (x) : evF Tryd.prog 20 TT M_cmp_Compare_int F_cmp_Compare_int (O_cmp_Compare_int) (L_cmp_Compare_int) dorcNil ⟨[], [], []⟩ [.tmp 4] C_cmp_Compare_int x = cmp_Compare_int x := by kernel_rfl
omit [UDef] [UTabs] in
theorem ok_cmp_Compare_int : Contract Tryd.prog 95 F_cmp_Compare_int (cmp_Compare_int) :=
  Contract.of_ev (c := C_cmp_Compare_int) (N := 20) Tryd.func95 (by kernel_rfl) (by kernel_rfl) (by kernel_rfl) (by kernel_rfl) (O_cmp_Compare_int_ok) dorcNil_ok (.of (l := []) (by kernel_rfl) trivial) (e_cmp_Compare_int)

noncomputable def F_cmp_Compare_string : FnT := ⟨2, ⟨[], [(0, .str), (1, .str)], []⟩, [.v .i64], []⟩
noncomputable def F_cmp_isNaN_string : FnT := ⟨1, ⟨[], [(0, .str)], []⟩, [.v .bool], []⟩
noncomputable def C_cmp_isNaN_string : Code := bodyOf Tryd.f111
noncomputable def M_cmp_isNaN_string : List (Nat × ArgM) := []
instance : DfOk M_cmp_isNaN_string := .none rfl
noncomputable def O_cmp_isNaN_string {ρ : Type} : Orc ρ := orcNil
omit [QuietD Tryd.prog] [UDef] [UTabs] in
theorem O_cmp_isNaN_string_ok {ρ : Type} : (O_cmp_isNaN_string : Orc ρ).ok Tryd.prog := orcNil_ok
noncomputable def L_cmp_isNaN_string {ρ : Type} : LOrc ρ := lorcNil
omit [Tabs] [QuietD Tryd.prog] [UDef] [UTabs] in
theorem e_cmp_isNaN_string (x) : evF Tryd.prog 6 TT M_cmp_isNaN_string F_cmp_isNaN_string (O_cmp_isNaN_string) (L_cmp_isNaN_string) dorcNil ⟨[], [], []⟩ [.tmp 2] C_cmp_isNaN_string x = cmp_isNaN_string x := by kernel_rfl
omit [UDef] [UTabs] in
theorem ok_cmp_isNaN_string : Contract Tryd.prog 111 F_cmp_isNaN_string (cmp_isNaN_string) :=
  Contract.of_ev (c := C_cmp_isNaN_string) (N := 6) Tryd.func111 (by kernel_rfl) (by kernel_rfl) (by kernel_rfl) (by kernel_rfl) (O_cmp_isNaN_string_ok) dorcNil_ok (.of (l := []) (by kernel_rfl) trivial) (e_cmp_isNaN_string)

noncomputable def C_cmp_Compare_string : Code := bodyOf Tryd.f97
noncomputable def M_cmp_Compare_string : List (Nat × ArgM) := [(111, ⟨[], [], [], true⟩)]
instance : DfOk M_cmp_Compare_string := .none rfl
noncomputable def O_cmp_Compare_string {ρ : Type} : Orc ρ := orcCons 111 F_cmp_isNaN_string (cmp_isNaN_string) (orcNil)
omit [UDef] [UTabs] in
theorem O_cmp_Compare_string_ok {ρ : Type} : (O_cmp_Compare_string : Orc ρ).ok Tryd.prog := orcCons_ok (by kernel_rfl) (ok_cmp_isNaN_string) (orcNil_ok)
noncomputable def L_cmp_Compare_string {ρ : Type} : LOrc ρ := lorcNil
omit [Tabs] [QuietD Tryd.prog] [UDef] [UTabs] in
theorem e_cmp_Compare_string (x) : evF Tryd.prog 20 TT M_cmp_Compare_string F_cmp_Compare_string (O_cmp_Compare_string) (L_cmp_Compare_string) dorcNil ⟨[], [], []⟩ [.tmp 4] C_cmp_Compare_string x = cmp_Compare_string x := by kernel_rfl
omit [UDef] [UTabs] in
theorem ok_cmp_Compare_string : Contract Tryd.prog 97 F_cmp_Compare_string (cmp_Compare_string) :=
  Contract.of_ev (c := C_cmp_Compare_string) (N := 20) Tryd.func97 (by kernel_rfl) (by kernel_rfl) (by kernel_rfl) (by kernel_rfl) (O_cmp_Compare_string_ok) dorcNil_ok (.of (l := []) (by kernel_rfl) trivial) (e_cmp_Compare_string)

noncomputable def F_sl_CompareFunc_V_V_V_V_value_Order : FnT := ⟨3, ⟨[(2, .fn 68)], [(0, (.lst .val)), (1, (.lst .val))], []⟩, [.v .i64], []⟩
noncomputable def C_sl_CompareFunc_V_V_V_V_value_Order : Code := bodyOf Tryd.f98
noncomputable def M_sl_CompareFunc_V_V_V_V_value_Order : List (Nat × ArgM) := [(68, ⟨[], [], [], true⟩)]
instance : DfOk M_sl_CompareFunc_V_V_V_V_value_Order := .none rfl
noncomputable def O_sl_CompareFunc_V_V_V_V_value_Order {ρ : Type} (self_value_Order : Ev.Val × Ev.Val × Unit → Option (Int × Unit)) (n : Nat) : Orc ρ := orcCons 68 F_value_Order (self_value_Order) (orcNil)
omit [QuietD Tryd.prog] [UDef] [UTabs] in
theorem O_sl_CompareFunc_V_V_V_V_value_Order_ok {ρ : Type} (self_value_Order : Ev.Val × Ev.Val × Unit → Option (Int × Unit)) (h_value_Order : Contract Tryd.prog 68 F_value_Order self_value_Order) (n : Nat) : (O_sl_CompareFunc_V_V_V_V_value_Order self_value_Order n : Orc ρ).ok Tryd.prog := orcCons_ok (by kernel_rfl) (h_value_Order) (orcNil_ok)
noncomputable def T_sl_CompareFunc_V_V_V_V_value_Order_s0 : Tm := ⟨[(2, .fn 68)], [(0, (.lst .val)), (1, (.lst .val)), (11, (.lst .val)), (12, .i64), (13, .i64)], []⟩
noncomputable def X_sl_CompareFunc_V_V_V_V_value_Order_s0 : Tm := ⟨[], [(0, (.lst .val)), (1, (.lst .val))], []⟩
noncomputable def R_sl_CompareFunc_V_V_V_V_value_Order_s0 : Tm := ⟨[], [(6, .i64)], []⟩
noncomputable def L_sl_CompareFunc_V_V_V_V_value_Order_s0 {ρ : Type} (self_value_Order : Ev.Val × Ev.Val × Unit → Option (Int × Unit)) (n : Nat) : LOrc ρ := lorcNil
omit [Tabs] [QuietD Tryd.prog] [UDef] [UTabs] in
theorem s_sl_CompareFunc_V_V_V_V_value_Order_s0 {ρ : Type} (self_value_Order : Ev.Val × Ev.Val × Unit → Option (Int × Unit)) (n : Nat) (rec : T_sl_CompareFunc_V_V_V_V_value_Order_s0.den → Option ρ) kx kr s : dStep Tryd.prog 39 TT M_sl_CompareFunc_V_V_V_V_value_Order (O_sl_CompareFunc_V_V_V_V_value_Order self_value_Order n) (L_sl_CompareFunc_V_V_V_V_value_Order_s0 self_value_Order n) dorcNil 0 (lbody 1000 C_sl_CompareFunc_V_V_V_V_value_Order 0) T_sl_CompareFunc_V_V_V_V_value_Order_s0 X_sl_CompareFunc_V_V_V_V_value_Order_s0 R_sl_CompareFunc_V_V_V_V_value_Order_s0 ⟨[], [], []⟩ rec kx kr s = sl_CompareFunc_V_V_V_V_value_Order_s0 self_value_Order n rec kx kr s := by kernel_rfl
noncomputable def L_sl_CompareFunc_V_V_V_V_value_Order {ρ : Type} (self_value_Order : Ev.Val × Ev.Val × Unit → Option (Int × Unit)) (n : Nat) : LOrc ρ := lorcCons 0 (loopL 39 0 n T_sl_CompareFunc_V_V_V_V_value_Order_s0 X_sl_CompareFunc_V_V_V_V_value_Order_s0 R_sl_CompareFunc_V_V_V_V_value_Order_s0 ⟨[], [], []⟩ (sl_CompareFunc_V_V_V_V_value_Order_s0 self_value_Order n)) (lorcNil)
omit [Tabs] [QuietD Tryd.prog] [UDef] [UTabs] in
theorem e_sl_CompareFunc_V_V_V_V_value_Order (self_value_Order : Ev.Val × Ev.Val × Unit → Option (Int × Unit)) (n : Nat) (x) : evF Tryd.prog 39 TT M_sl_CompareFunc_V_V_V_V_value_Order F_sl_CompareFunc_V_V_V_V_value_Order (O_sl_CompareFunc_V_V_V_V_value_Order self_value_Order n) (L_sl_CompareFunc_V_V_V_V_value_Order self_value_Order n) dorcNil ⟨[], [], []⟩ [.tmp 6] C_sl_CompareFunc_V_V_V_V_value_Order x = sl_CompareFunc_V_V_V_V_value_Order self_value_Order n x := by kernel_rfl
omit [UDef] [UTabs] in
theorem ok_sl_CompareFunc_V_V_V_V_value_Order (self_value_Order : Ev.Val × Ev.Val × Unit → Option (Int × Unit)) (h_value_Order : Contract Tryd.prog 68 F_value_Order self_value_Order) (n : Nat) : Contract Tryd.prog 98 F_sl_CompareFunc_V_V_V_V_value_Order (sl_CompareFunc_V_V_V_V_value_Order self_value_Order n) :=
  Contract.of_ev (c := C_sl_CompareFunc_V_V_V_V_value_Order) (N := 39) Tryd.func98 (by kernel_rfl) (by kernel_rfl) (by kernel_rfl) (by kernel_rfl) (O_sl_CompareFunc_V_V_V_V_value_Order_ok self_value_Order h_value_Order n) dorcNil_ok (.of (l := [(0, (lbody 1000 C_sl_CompareFunc_V_V_V_V_value_Order 0))]) (by kernel_rfl) ⟨.head (loopL_sound (O_sl_CompareFunc_V_V_V_V_value_Order_ok self_value_Order h_value_Order n) dorcNil_ok (.of (l := []) (by kernel_rfl) trivial) (s_sl_CompareFunc_V_V_V_V_value_Order_s0 self_value_Order n)), trivial⟩) (e_sl_CompareFunc_V_V_V_V_value_Order self_value_Order n)

noncomputable def F_cmp_Or_int : FnT := ⟨1, ⟨[], [(0, (.lst .i64))], []⟩, [.v .i64], []⟩
noncomputable def C_cmp_Or_int : Code := bodyOf Tryd.f96
noncomputable def M_cmp_Or_int : List (Nat × ArgM) := []
instance : DfOk M_cmp_Or_int := .none rfl
noncomputable def O_cmp_Or_int {ρ : Type} (n : Nat) : Orc ρ := orcNil
omit [QuietD Tryd.prog] [UDef] [UTabs] in
theorem O_cmp_Or_int_ok {ρ : Type} (n : Nat) : (O_cmp_Or_int n : Orc ρ).ok Tryd.prog := orcNil_ok
noncomputable def T_cmp_Or_int_s0 : Tm := ⟨[], [(3, .i64), (6, (.lst .i64)), (7, .i64), (8, .i64)], []⟩
noncomputable def X_cmp_Or_int_s0 : Tm := ⟨[], [(3, .i64)], []⟩
noncomputable def R_cmp_Or_int_s0 : Tm := ⟨[], [(2, .i64)], []⟩
noncomputable def L_cmp_Or_int_s0 {ρ : Type} (n : Nat) : LOrc ρ := lorcNil
omit [Tabs] [QuietD Tryd.prog] [UDef] [UTabs] in
theorem s_cmp_Or_int_s0 {ρ : Type} (n : Nat) (rec : T_cmp_Or_int_s0.den → Option ρ) kx kr s : dStep Tryd.prog 18 TT M_cmp_Or_int (O_cmp_Or_int n) (L_cmp_Or_int_s0 n) dorcNil 0 (lbody 1000 C_cmp_Or_int 0) T_cmp_Or_int_s0 X_cmp_Or_int_s0 R_cmp_Or_int_s0 ⟨[], [], []⟩ rec kx kr s = cmp_Or_int_s0 n rec kx kr s := by kernel_rfl
noncomputable def L_cmp_Or_int {ρ : Type} (n : Nat) : LOrc ρ := lorcCons 0 (loopL 18 0 n T_cmp_Or_int_s0 X_cmp_Or_int_s0 R_cmp_Or_int_s0 ⟨[], [], []⟩ (cmp_Or_int_s0 n)) (lorcNil)
omit [Tabs] [QuietD Tryd.prog] [UDef] [UTabs] in
theorem e_cmp_Or_int (n : Nat) (x) : evF Tryd.prog 18 TT M_cmp_Or_int F_cmp_Or_int (O_cmp_Or_int n) (L_cmp_Or_int n) dorcNil ⟨[], [], []⟩ [.tmp 2] C_cmp_Or_int x = cmp_Or_int n x := by kernel_rfl
omit [UDef] [UTabs] in
theorem ok_cmp_Or_int (n : Nat) : Contract Tryd.prog 96 F_cmp_Or_int (cmp_Or_int n) :=
  Contract.of_ev (c := C_cmp_Or_int) (N := 18) Tryd.func96 (by kernel_rfl) (by kernel_rfl) (by kernel_rfl) (by kernel_rfl) (O_cmp_Or_int_ok n) dorcNil_ok (.of (l := [(0, (lbody 1000 C_cmp_Or_int 0))]) (by kernel_rfl) ⟨.head (loopL_sound (O_cmp_Or_int_ok n) dorcNil_ok (.of (l := []) (by kernel_rfl) trivial) (s_cmp_Or_int_s0 n)), trivial⟩) (e_cmp_Or_int n)

noncomputable def C_value_Order : Code := bodyOf Tryd.f68
noncomputable def M_value_Order : List (Nat × ArgM) := [(95, ⟨[], [], [], true⟩), (97, ⟨[], [], [], true⟩), (98, ⟨[], [], [], true⟩), (96, ⟨[], [], [], true⟩)]
instance : DfOk M_value_Order := .none rfl
noncomputable def O_value_Order {ρ : Type} (self_value_Order : Ev.Val × Ev.Val × Unit → Option (Int × Unit)) (n : Nat) : Orc ρ := orcCons 95 F_cmp_Compare_int (cmp_Compare_int) (orcCons 97 F_cmp_Compare_string (cmp_Compare_string) (orcCons 98 F_sl_CompareFunc_V_V_V_V_value_Order (sl_CompareFunc_V_V_V_V_value_Order self_value_Order n) (orcCons 96 F_cmp_Or_int (cmp_Or_int n) (orcNil))))
omit [UDef] [UTabs] in
theorem O_value_Order_ok {ρ : Type} (self_value_Order : Ev.Val × Ev.Val × Unit → Option (Int × Unit)) (h_value_Order : Contract Tryd.prog 68 F_value_Order self_value_Order) (n : Nat) : (O_value_Order self_value_Order n : Orc ρ).ok Tryd.prog := orcCons_ok (by kernel_rfl) (ok_cmp_Compare_int) (orcCons_ok (by kernel_rfl) (ok_cmp_Compare_string) (orcCons_ok (by kernel_rfl) (ok_sl_CompareFunc_V_V_V_V_value_Order _ h_value_Order n) (orcCons_ok (by kernel_rfl) (ok_cmp_Or_int n) (orcNil_ok))))
noncomputable def L_value_Order {ρ : Type} (self_value_Order : Ev.Val × Ev.Val × Unit → Option (Int × Unit)) (n : Nat) : LOrc ρ := lorcNil
omit [Tabs] [QuietD Tryd.prog] [UDef] [UTabs] in
theorem e_value_Order (self_value_Order : Ev.Val × Ev.Val × Unit → Option (Int × Unit)) (n : Nat) (x) : evF Tryd.prog 31 TT M_value_Order F_value_Order (O_value_Order self_value_Order n) (L_value_Order self_value_Order n) (evDraw Tryd.prog 31 TT M_value_Order (O_value_Order self_value_Order n)) ⟨[], [], []⟩ [.tmp 4] C_value_Order x = value_Order_b self_value_Order n x := by kernel_rfl
omit [UDef] [UTabs] in
theorem okb_value_Order (self_value_Order : Ev.Val × Ev.Val × Unit → Option (Int × Unit)) (h_value_Order : Contract Tryd.prog 68 F_value_Order self_value_Order) (n : Nat) : Contract Tryd.prog 68 F_value_Order (value_Order_b self_value_Order n) :=
  Contract.of_ev (c := C_value_Order) (N := 31) Tryd.func68 (by kernel_rfl) (by kernel_rfl) (by kernel_rfl) (by kernel_rfl) (O_value_Order_ok self_value_Order h_value_Order n) (evDraw_ok (O_value_Order_ok self_value_Order h_value_Order n) (by kernel_rfl)) (.of (l := []) (by kernel_rfl) trivial) (e_value_Order self_value_Order n)
omit [UDef] [UTabs] in
theorem ok_value_Order : ∀ n, Contract Tryd.prog 68 F_value_Order (value_Order n)
  | 0 => fun _ _ h => by cases h
  | n + 1 => okb_value_Order _ (ok_value_Order n) n

noncomputable def C_sl_CompareFunc_W_W_V_V_value_Order : Code := bodyOf Tryd.f67
noncomputable def M_sl_CompareFunc_W_W_V_V_value_Order : List (Nat × ArgM) := [(68, ⟨[], [], [], true⟩)]
instance : DfOk M_sl_CompareFunc_W_W_V_V_value_Order := .none rfl
noncomputable def O_sl_CompareFunc_W_W_V_V_value_Order {ρ : Type} (n : Nat) : Orc ρ := orcCons 68 F_value_Order (value_Order n) (orcNil)
omit [UDef] [UTabs] in
theorem O_sl_CompareFunc_W_W_V_V_value_Order_ok {ρ : Type} (n : Nat) : (O_sl_CompareFunc_W_W_V_V_value_Order n : Orc ρ).ok Tryd.prog := orcCons_ok (by kernel_rfl) (ok_value_Order n) (orcNil_ok)
noncomputable def T_sl_CompareFunc_W_W_V_V_value_Order_s0 : Tm := ⟨[(2, .fn 68)], [(0, (.lst .val)), (1, (.lst .val)), (11, (.lst .val)), (12, .i64), (13, .i64)], []⟩
noncomputable def X_sl_CompareFunc_W_W_V_V_value_Order_s0 : Tm := ⟨[], [(0, (.lst .val)), (1, (.lst .val))], []⟩
noncomputable def R_sl_CompareFunc_W_W_V_V_value_Order_s0 : Tm := ⟨[], [(6, .i64)], []⟩
noncomputable def L_sl_CompareFunc_W_W_V_V_value_Order_s0 {ρ : Type} (n : Nat) : LOrc ρ := lorcNil
omit [Tabs] [QuietD Tryd.prog] [UDef] [UTabs] in
theorem s_sl_CompareFunc_W_W_V_V_value_Order_s0 {ρ : Type} (n : Nat) (rec : T_sl_CompareFunc_W_W_V_V_value_Order_s0.den → Option ρ) kx kr s : dStep Tryd.prog 39 TT M_sl_CompareFunc_W_W_V_V_value_Order (O_sl_CompareFunc_W_W_V_V_value_Order n) (L_sl_CompareFunc_W_W_V_V_value_Order_s0 n) dorcNil 0 (lbody 1000 C_sl_CompareFunc_W_W_V_V_value_Order 0) T_sl_CompareFunc_W_W_V_V_value_Order_s0 X_sl_CompareFunc_W_W_V_V_value_Order_s0 R_sl_CompareFunc_W_W_V_V_value_Order_s0 ⟨[], [], []⟩ rec kx kr s = sl_CompareFunc_W_W_V_V_value_Order_s0 n rec kx kr s := by kernel_rfl
noncomputable def L_sl_CompareFunc_W_W_V_V_value_Order {ρ : Type} (n : Nat) : LOrc ρ := lorcCons 0 (loopL 39 0 n T_sl_CompareFunc_W_W_V_V_value_Order_s0 X_sl_CompareFunc_W_W_V_V_value_Order_s0 R_sl_CompareFunc_W_W_V_V_value_Order_s0 ⟨[], [], []⟩ (sl_CompareFunc_W_W_V_V_value_Order_s0 n)) (lorcNil)
omit [Tabs] [QuietD Tryd.prog] [UDef] [UTabs] in
theorem e_sl_CompareFunc_W_W_V_V_value_Order (n : Nat) (x) : evF Tryd.prog 39 TT M_sl_CompareFunc_W_W_V_V_value_Order F_sl_CompareFunc_W_W_V_V_value_Order (O_sl_CompareFunc_W_W_V_V_value_Order n) (L_sl_CompareFunc_W_W_V_V_value_Order n) dorcNil ⟨[], [], []⟩ [.tmp 6] C_sl_CompareFunc_W_W_V_V_value_Order x = sl_CompareFunc_W_W_V_V_value_Order n x := by kernel_rfl
omit [UDef] [UTabs] in
theorem ok_sl_CompareFunc_W_W_V_V_value_Order (n : Nat) : Contract Tryd.prog 67 F_sl_CompareFunc_W_W_V_V_value_Order (sl_CompareFunc_W_W_V_V_value_Order n) :=
  Contract.of_ev (c := C_sl_CompareFunc_W_W_V_V_value_Order) (N := 39) Tryd.func67 (by kernel_rfl) (by kernel_rfl) (by kernel_rfl) (by kernel_rfl) (O_sl_CompareFunc_W_W_V_V_value_Order_ok n) dorcNil_ok (.of (l := [(0, (lbody 1000 C_sl_CompareFunc_W_W_V_V_value_Order 0))]) (by kernel_rfl) ⟨.head (loopL_sound (O_sl_CompareFunc_W_W_V_V_value_Order_ok n) dorcNil_ok (.of (l := []) (by kernel_rfl) trivial) (s_sl_CompareFunc_W_W_V_V_value_Order_s0 n)), trivial⟩) (e_sl_CompareFunc_W_W_V_V_value_Order n)

noncomputable def C_bag_Compare : Code := bodyOf Tryd.f34
noncomputable def M_bag_Compare : List (Nat × ArgM) := [(67, ⟨[], [], [], true⟩)]
instance : DfOk M_bag_Compare := .none rfl
noncomputable def O_bag_Compare {ρ : Type} (n : Nat) : Orc ρ := orcCons 67 F_sl_CompareFunc_W_W_V_V_value_Order (sl_CompareFunc_W_W_V_V_value_Order n) (orcNil)
omit [UDef] [UTabs] in
theorem O_bag_Compare_ok {ρ : Type} (n : Nat) : (O_bag_Compare n : Orc ρ).ok Tryd.prog := orcCons_ok (by kernel_rfl) (ok_sl_CompareFunc_W_W_V_V_value_Order n) (orcNil_ok)
noncomputable def L_bag_Compare {ρ : Type} (n : Nat) : LOrc ρ := lorcNil
omit [Tabs] [QuietD Tryd.prog] [UDef] [UTabs] in
theorem e_bag_Compare (n : Nat) (x) : evF Tryd.prog 8 TT M_bag_Compare F_bag_Compare (O_bag_Compare n) (L_bag_Compare n) dorcNil ⟨[], [], []⟩ [.tmp 4] C_bag_Compare x = bag_Compare n x := by kernel_rfl
omit [UDef] [UTabs] in
theorem ok_bag_Compare (n : Nat) : Contract Tryd.prog 34 F_bag_Compare (bag_Compare n) :=
  Contract.of_ev (c := C_bag_Compare) (N := 8) Tryd.func34 (by kernel_rfl) (by kernel_rfl) (by kernel_rfl) (by kernel_rfl) (O_bag_Compare_ok n) dorcNil_ok (.of (l := []) (by kernel_rfl) trivial) (e_bag_Compare n)

noncomputable def C_bag_Check : Code := bodyOf Tryd.f28
noncomputable def M_bag_Check : List (Nat × ArgM) := [(62, ⟨[], [], [], true⟩), (34, ⟨[], [], [], true⟩)]
instance : DfOk M_bag_Check := .none rfl
noncomputable def O_bag_Check {ρ : Type} (n : Nat) : Orc ρ := orcCons 62 F_value_Check (value_Check n) (orcCons 34 F_bag_Compare (bag_Compare n) (orcNil))
omit [UDef] in
theorem O_bag_Check_ok {ρ : Type} (n : Nat) : (O_bag_Check n : Orc ρ).ok Tryd.prog := orcCons_ok (by kernel_rfl) (ok_value_Check n) (orcCons_ok (by kernel_rfl) (ok_bag_Compare n) (orcNil_ok))
noncomputable def T_bag_Check_s2 : Tm := ⟨[(4, .ptr 4 0)], [(0, (.lst .cnt)), (3, .i64), (11, (.lst .cnt)), (12, .i64), (13, .i64), (23, (.lst .val)), (24, .i64), (25, .i64)], [(4, .box [.d .cnt])]⟩
noncomputable def X_bag_Check_s2 : Tm := ⟨[(4, .ptr 4 0)], [(0, (.lst .cnt)), (3, .i64), (11, (.lst .cnt)), (12, .i64), (13, .i64)], [(4, .box [.d .cnt])]⟩
noncomputable def R_bag_Check_s2 : Tm := ⟨[], [(2, .i64)], []⟩
noncomputable def L_bag_Check_s2 {ρ : Type} (n : Nat) : LOrc ρ := lorcNil
omit [Tabs] [QuietD Tryd.prog] [UDef] [UTabs] in
theorem s_bag_Check_s2 {ρ : Type} (n : Nat) (rec : T_bag_Check_s2.den → Option ρ) kx kr s : dStep Tryd.prog 63 TT M_bag_Check (O_bag_Check n) (L_bag_Check_s2 n) (evDraw Tryd.prog 63 TT M_bag_Check (O_bag_Check n)) 2 (lbody 0 (lbody 1000 C_bag_Check 0) 0) T_bag_Check_s2 X_bag_Check_s2 R_bag_Check_s2 ⟨[], [], []⟩ rec kx kr s = bag_Check_s2 n rec kx kr s := by kernel_rfl
noncomputable def T_bag_Check_s0 : Tm := ⟨[], [(0, (.lst .cnt)), (11, (.lst .cnt)), (12, .i64), (13, .i64)], []⟩
noncomputable def X_bag_Check_s0 : Tm := ⟨[], [], []⟩
noncomputable def R_bag_Check_s0 : Tm := ⟨[], [(2, .i64)], []⟩
noncomputable def L_bag_Check_s0 {ρ : Type} (n : Nat) : LOrc ρ := lorcCons 2 (loopL 63 2 n T_bag_Check_s2 X_bag_Check_s2 R_bag_Check_s2 ⟨[], [], []⟩ (bag_Check_s2 n)) (lorcNil)
omit [Tabs] [QuietD Tryd.prog] [UDef] [UTabs] in
theorem s_bag_Check_s0 {ρ : Type} (n : Nat) (rec : T_bag_Check_s0.den → Option ρ) kx kr s : dStep Tryd.prog 63 TT M_bag_Check (O_bag_Check n) (L_bag_Check_s0 n) (evDraw Tryd.prog 63 TT M_bag_Check (O_bag_Check n)) 0 (lbody 1000 C_bag_Check 0) T_bag_Check_s0 X_bag_Check_s0 R_bag_Check_s0 ⟨[], [], []⟩ rec kx kr s = bag_Check_s0 n rec kx kr s := by kernel_rfl
noncomputable def L_bag_Check {ρ : Type} (n : Nat) : LOrc ρ := lorcCons 0 (loopL 63 0 n T_bag_Check_s0 X_bag_Check_s0 R_bag_Check_s0 ⟨[], [], []⟩ (bag_Check_s0 n)) (lorcNil)
omit [Tabs] [QuietD Tryd.prog] [UDef] [UTabs] in
theorem e_bag_Check (n : Nat) (x) : evF Tryd.prog 63 TT M_bag_Check F_bag_Check (O_bag_Check n) (L_bag_Check n) (evDraw Tryd.prog 63 TT M_bag_Check (O_bag_Check n)) ⟨[], [], []⟩ [.tmp 2] C_bag_Check x = bag_Check n x := by kernel_rfl
omit [UDef] in
theorem ok_bag_Check (n : Nat) : Contract Tryd.prog 28 F_bag_Check (bag_Check n) :=
  Contract.of_ev (c := C_bag_Check) (N := 63) Tryd.func28 (by kernel_rfl) (by kernel_rfl) (by kernel_rfl) (by kernel_rfl) (O_bag_Check_ok n) (evDraw_ok (O_bag_Check_ok n) (by kernel_rfl)) (.of (l := [(0, (lbody 1000 C_bag_Check 0))]) (by kernel_rfl) ⟨.head (loopL_sound (O_bag_Check_ok n) (evDraw_ok (O_bag_Check_ok n) (by kernel_rfl)) (.of (l := [(2, (lbody 0 (lbody 1000 C_bag_Check 0) 0))]) (by kernel_rfl) ⟨.head (loopL_sound (O_bag_Check_ok n) (evDraw_ok (O_bag_Check_ok n) (by kernel_rfl)) (.of (l := []) (by kernel_rfl) trivial) (s_bag_Check_s2 n)), trivial⟩) (s_bag_Check_s0 n)), trivial⟩) (e_bag_Check n)

noncomputable def F_bag_Join_1 : FnT := ⟨4, ⟨[(0, .ptr 1000000 0), (1, .ptr 1000016 0), (2, .ptr 1000032 0), (3, .ptr 1000048 0)], [], [(1000000, .box [.d (.lst .cnt)]), (1000016, .box [.d (.lst .cnt)]), (1000032, .box [.d .i64]), (1000048, .box [.d .bool])]⟩, [.v (.lst .cnt)], [(1000000, .box [.d (.lst .cnt)]), (1000016, .box [.d (.lst .cnt)]), (1000032, .box [.d .i64]), (1000048, .box [.d .bool])]⟩
noncomputable def F_sl_ContainsFunc_W_V_bag_Join_1_1 : FnT := ⟨2, ⟨[(1, .fn 36)], [(0, (.lst .val))], []⟩, [.v .bool], []⟩
noncomputable def F_sl_IndexFunc_W_V_bag_Join_1_1 : FnT := ⟨2, ⟨[(1, .fn 36)], [(0, (.lst .val))], []⟩, [.v .i64], []⟩
noncomputable def F_bag_Join_1_1 : FnT := ⟨1, ⟨[], [(0, .val)], []⟩, [.v .bool], []⟩
noncomputable def C_bag_Join_1_1 : Code := bodyOf Tryd.f36
noncomputable def M_bag_Join_1_1 : List (Nat × ArgM) := []
instance : DfOk M_bag_Join_1_1 := .none rfl
noncomputable def O_bag_Join_1_1 {ρ : Type} : Orc ρ := orcNil
omit [QuietD Tryd.prog] [UDef] [UTabs] in
theorem O_bag_Join_1_1_ok {ρ : Type} : (O_bag_Join_1_1 : Orc ρ).ok Tryd.prog := orcNil_ok
noncomputable def L_bag_Join_1_1 {ρ : Type} : LOrc ρ := lorcNil
omit [Tabs] [QuietD Tryd.prog] [UDef] [UTabs] in
theorem e_bag_Join_1_1 (x) : evF Tryd.prog 6 TT M_bag_Join_1_1 F_bag_Join_1_1 (O_bag_Join_1_1) (L_bag_Join_1_1) dorcNil ⟨[], [], []⟩ [.tmp 2] C_bag_Join_1_1 x = bag_Join_1_1 x := by kernel_rfl
omit [UDef] [UTabs] in
theorem ok_bag_Join_1_1 : Contract Tryd.prog 36 F_bag_Join_1_1 (bag_Join_1_1) :=
  Contract.of_ev (c := C_bag_Join_1_1) (N := 6) Tryd.func36 (by kernel_rfl) (by kernel_rfl) (by kernel_rfl) (by kernel_rfl) (O_bag_Join_1_1_ok) dorcNil_ok (.of (l := []) (by kernel_rfl) trivial) (e_bag_Join_1_1)

noncomputable def C_sl_IndexFunc_W_V_bag_Join_1_1 : Code := bodyOf Tryd.f69
noncomputable def M_sl_IndexFunc_W_V_bag_Join_1_1 : List (Nat × ArgM) := [(36, ⟨[], [], [], true⟩)]
instance : DfOk M_sl_IndexFunc_W_V_bag_Join_1_1 := .none rfl
noncomputable def O_sl_IndexFunc_W_V_bag_Join_1_1 {ρ : Type} (n : Nat) : Orc ρ := orcCons 36 F_bag_Join_1_1 (bag_Join_1_1) (orcNil)
omit [UDef] [UTabs] in
theorem O_sl_IndexFunc_W_V_bag_Join_1_1_ok {ρ : Type} (n : Nat) : (O_sl_IndexFunc_W_V_bag_Join_1_1 n : Orc ρ).ok Tryd.prog := orcCons_ok (by kernel_rfl) (ok_bag_Join_1_1) (orcNil_ok)
noncomputable def T_sl_IndexFunc_W_V_bag_Join_1_1_s0 : Tm := ⟨[(1, .fn 36)], [(0, (.lst .val)), (7, .i64), (8, .i64)], []⟩
noncomputable def X_sl_IndexFunc_W_V_bag_Join_1_1_s0 : Tm := ⟨[], [], []⟩
noncomputable def R_sl_IndexFunc_W_V_bag_Join_1_1_s0 : Tm := ⟨[], [(4, .i64)], []⟩
noncomputable def L_sl_IndexFunc_W_V_bag_Join_1_1_s0 {ρ : Type} (n : Nat) : LOrc ρ := lorcNil
omit [Tabs] [QuietD Tryd.prog] [UDef] [UTabs] in
theorem s_sl_IndexFunc_W_V_bag_Join_1_1_s0 {ρ : Type} (n : Nat) (rec : T_sl_IndexFunc_W_V_bag_Join_1_1_s0.den → Option ρ) kx kr s : dStep Tryd.prog 19 TT M_sl_IndexFunc_W_V_bag_Join_1_1 (O_sl_IndexFunc_W_V_bag_Join_1_1 n) (L_sl_IndexFunc_W_V_bag_Join_1_1_s0 n) dorcNil 0 (lbody 1000 C_sl_IndexFunc_W_V_bag_Join_1_1 0) T_sl_IndexFunc_W_V_bag_Join_1_1_s0 X_sl_IndexFunc_W_V_bag_Join_1_1_s0 R_sl_IndexFunc_W_V_bag_Join_1_1_s0 ⟨[], [], []⟩ rec kx kr s = sl_IndexFunc_W_V_bag_Join_1_1_s0 n rec kx kr s := by kernel_rfl
noncomputable def L_sl_IndexFunc_W_V_bag_Join_1_1 {ρ : Type} (n : Nat) : LOrc ρ := lorcCons 0 (loopL 19 0 n T_sl_IndexFunc_W_V_bag_Join_1_1_s0 X_sl_IndexFunc_W_V_bag_Join_1_1_s0 R_sl_IndexFunc_W_V_bag_Join_1_1_s0 ⟨[], [], []⟩ (sl_IndexFunc_W_V_bag_Join_1_1_s0 n)) (lorcNil)
omit [Tabs] [QuietD Tryd.prog] [UDef] [UTabs] in
theorem e_sl_IndexFunc_W_V_bag_Join_1_1 (n : Nat) (x) : evF Tryd.prog 19 TT M_sl_IndexFunc_W_V_bag_Join_1_1 F_sl_IndexFunc_W_V_bag_Join_1_1 (O_sl_IndexFunc_W_V_bag_Join_1_1 n) (L_sl_IndexFunc_W_V_bag_Join_1_1 n) dorcNil ⟨[], [], []⟩ [.tmp 4] C_sl_IndexFunc_W_V_bag_Join_1_1 x = sl_IndexFunc_W_V_bag_Join_1_1 n x := by kernel_rfl
omit [UDef] [UTabs] in
theorem ok_sl_IndexFunc_W_V_bag_Join_1_1 (n : Nat) : Contract Tryd.prog 69 F_sl_IndexFunc_W_V_bag_Join_1_1 (sl_IndexFunc_W_V_bag_Join_1_1 n) :=
  Contract.of_ev (c := C_sl_IndexFunc_W_V_bag_Join_1_1) (N := 19) Tryd.func69 (by kernel_rfl) (by kernel_rfl) (by kernel_rfl) (by kernel_rfl) (O_sl_IndexFunc_W_V_bag_Join_1_1_ok n) dorcNil_ok (.of (l := [(0, (lbody 1000 C_sl_IndexFunc_W_V_bag_Join_1_1 0))]) (by kernel_rfl) ⟨.head (loopL_sound (O_sl_IndexFunc_W_V_bag_Join_1_1_ok n) dorcNil_ok (.of (l := []) (by kernel_rfl) trivial) (s_sl_IndexFunc_W_V_bag_Join_1_1_s0 n)), trivial⟩) (e_sl_IndexFunc_W_V_bag_Join_1_1 n)

noncomputable def C_sl_ContainsFunc_W_V_bag_Join_1_1 : Code := bodyOf Tryd.f35
noncomputable def M_sl_ContainsFunc_W_V_bag_Join_1_1 : List (Nat × ArgM) := [(69, ⟨[], [], [], true⟩)]
instance : DfOk M_sl_ContainsFunc_W_V_bag_Join_1_1 := .none rfl
noncomputable def O_sl_ContainsFunc_W_V_bag_Join_1_1 {ρ : Type} (n : Nat) : Orc ρ := orcCons 69 F_sl_IndexFunc_W_V_bag_Join_1_1 (sl_IndexFunc_W_V_bag_Join_1_1 n) (orcNil)
omit [UDef] [UTabs] in
theorem O_sl_ContainsFunc_W_V_bag_Join_1_1_ok {ρ : Type} (n : Nat) : (O_sl_ContainsFunc_W_V_bag_Join_1_1 n : Orc ρ).ok Tryd.prog := orcCons_ok (by kernel_rfl) (ok_sl_IndexFunc_W_V_bag_Join_1_1 n) (orcNil_ok)
noncomputable def L_sl_ContainsFunc_W_V_bag_Join_1_1 {ρ : Type} (n : Nat) : LOrc ρ := lorcNil
omit [Tabs] [QuietD Tryd.prog] [UDef] [UTabs] in
theorem e_sl_ContainsFunc_W_V_bag_Join_1_1 (n : Nat) (x) : evF Tryd.prog 9 TT M_sl_ContainsFunc_W_V_bag_Join_1_1 F_sl_ContainsFunc_W_V_bag_Join_1_1 (O_sl_ContainsFunc_W_V_bag_Join_1_1 n) (L_sl_ContainsFunc_W_V_bag_Join_1_1 n) dorcNil ⟨[], [], []⟩ [.tmp 4] C_sl_ContainsFunc_W_V_bag_Join_1_1 x = sl_ContainsFunc_W_V_bag_Join_1_1 n x := by kernel_rfl
omit [UDef] [UTabs] in
theorem ok_sl_ContainsFunc_W_V_bag_Join_1_1 (n : Nat) : Contract Tryd.prog 35 F_sl_ContainsFunc_W_V_bag_Join_1_1 (sl_ContainsFunc_W_V_bag_Join_1_1 n) :=
  Contract.of_ev (c := C_sl_ContainsFunc_W_V_bag_Join_1_1) (N := 9) Tryd.func35 (by kernel_rfl) (by kernel_rfl) (by kernel_rfl) (by kernel_rfl) (O_sl_ContainsFunc_W_V_bag_Join_1_1_ok n) dorcNil_ok (.of (l := []) (by kernel_rfl) trivial) (e_sl_ContainsFunc_W_V_bag_Join_1_1 n)

noncomputable def F_bag_size : FnT := ⟨1, ⟨[], [(0, .i64)], []⟩, [.v .i64], []⟩
noncomputable def C_bag_size : Code := bodyOf Tryd.f37
noncomputable def M_bag_size : List (Nat × ArgM) := []
instance : DfOk M_bag_size := .none rfl
noncomputable def O_bag_size {ρ : Type} : Orc ρ := orcNil
omit [QuietD Tryd.prog] [UDef] [UTabs] in
theorem O_bag_size_ok {ρ : Type} : (O_bag_size : Orc ρ).ok Tryd.prog := orcNil_ok
noncomputable def L_bag_size {ρ : Type} : LOrc ρ := lorcNil
omit [Tabs] [QuietD Tryd.prog] [UDef] [UTabs] in
theorem e_bag_size (x) : evF Tryd.prog 7 TT M_bag_size F_bag_size (O_bag_size) (L_bag_size) dorcNil ⟨[], [], []⟩ [.tmp 2] C_bag_size x = bag_size x := by kernel_rfl
omit [UDef] [UTabs] in
theorem ok_bag_size : Contract Tryd.prog 37 F_bag_size (bag_size) :=
  Contract.of_ev (c := C_bag_size) (N := 7) Tryd.func37 (by kernel_rfl) (by kernel_rfl) (by kernel_rfl) (by kernel_rfl) (O_bag_size_ok) dorcNil_ok (.of (l := []) (by kernel_rfl) trivial) (e_bag_size)

noncomputable def F_sl_Concat_W_V : FnT := ⟨1, ⟨[], [(0, (.lst (.lst .val)))], []⟩, [.v (.lst .val)], []⟩
noncomputable def F_sl_Grow_W_V_own : FnT := ⟨2, ⟨[(0, .nils)], [(1, .i64)], []⟩, [.ref (.own 22)], [(22, .arr 40 .val)]⟩
noncomputable def C_sl_Grow_W_V_own : Code := bodyOf Tryd.f46
noncomputable def M_sl_Grow_W_V_own : List (Nat × ArgM) := [(999999999, ⟨[1], [], [], false⟩)]
instance : DfOk M_sl_Grow_W_V_own := .none rfl
noncomputable def O_sl_Grow_W_V_own {ρ : Type} : Orc ρ := orcNil
omit [QuietD Tryd.prog] [UDef] [UTabs] in
theorem O_sl_Grow_W_V_own_ok {ρ : Type} : (O_sl_Grow_W_V_own : Orc ρ).ok Tryd.prog := orcNil_ok
noncomputable def L_sl_Grow_W_V_own {ρ : Type} : LOrc ρ := lorcNil
omit [Tabs] [QuietD Tryd.prog] [UDef] [UTabs] in
theorem e_sl_Grow_W_V_own (x) : evF Tryd.prog 27 TT M_sl_Grow_W_V_own F_sl_Grow_W_V_own (O_sl_Grow_W_V_own) (L_sl_Grow_W_V_own) dorcNil ⟨[], [(4, 22, 40, 4)], []⟩ [.tmp 4] C_sl_Grow_W_V_own x = sl_Grow_W_V_own x := by kernel_rfl
omit [UDef] [UTabs] in
theorem ok_sl_Grow_W_V_own : Contract Tryd.prog 46 F_sl_Grow_W_V_own (sl_Grow_W_V_own) :=
  Contract.of_ev (c := C_sl_Grow_W_V_own) (N := 27) Tryd.func46 (by kernel_rfl) (by kernel_rfl) (by kernel_rfl) (by kernel_rfl) (O_sl_Grow_W_V_own_ok) dorcNil_ok (.of (l := []) (by kernel_rfl) trivial) (e_sl_Grow_W_V_own)

noncomputable def C_sl_Concat_W_V : Code := bodyOf Tryd.f17
noncomputable def M_sl_Concat_W_V : List (Nat × ArgM) := [(46, ⟨[], [], [22], false⟩)]
instance : DfOk M_sl_Concat_W_V := .none rfl
noncomputable def O_sl_Concat_W_V {ρ : Type} (n : Nat) : Orc ρ := orcCons 46 F_sl_Grow_W_V_own (sl_Grow_W_V_own) (orcNil)
omit [UDef] [UTabs] in
theorem O_sl_Concat_W_V_ok {ρ : Type} (n : Nat) : (O_sl_Concat_W_V n : Orc ρ).ok Tryd.prog := orcCons_ok (by kernel_rfl) (ok_sl_Grow_W_V_own) (orcNil_ok)
noncomputable def T_sl_Concat_W_V_s0 : Tm := ⟨[], [(0, (.lst (.lst .val))), (3, .i64), (9, (.lst (.lst .val))), (10, .i64), (11, .i64)], []⟩
noncomputable def X_sl_Concat_W_V_s0 : Tm := ⟨[], [(0, (.lst (.lst .val))), (3, .i64)], []⟩
noncomputable def R_sl_Concat_W_V_s0 : Tm := ⟨[], [], []⟩
noncomputable def L_sl_Concat_W_V_s0 {ρ : Type} (n : Nat) : LOrc ρ := lorcNil
omit [Tabs] [QuietD Tryd.prog] [UDef] [UTabs] in
theorem s_sl_Concat_W_V_s0 {ρ : Type} (n : Nat) (rec : T_sl_Concat_W_V_s0.den → Option ρ) kx kr s : dStep Tryd.prog 36 TT M_sl_Concat_W_V (O_sl_Concat_W_V n) (L_sl_Concat_W_V_s0 n) dorcNil 0 (lbody 1000 C_sl_Concat_W_V 0) T_sl_Concat_W_V_s0 X_sl_Concat_W_V_s0 R_sl_Concat_W_V_s0 ⟨[], [], []⟩ rec kx kr s = sl_Concat_W_V_s0 n rec kx kr s := by kernel_rfl
noncomputable def T_sl_Concat_W_V_s2 : Tm := ⟨[(6, .own 24)], [(25, (.lst (.lst .val))), (26, .i64), (27, .i64)], [(24, .arr 40 .val)]⟩
noncomputable def X_sl_Concat_W_V_s2 : Tm := ⟨[(6, .own 24)], [], [(24, .arr 40 .val)]⟩
noncomputable def R_sl_Concat_W_V_s2 : Tm := ⟨[], [], []⟩
noncomputable def L_sl_Concat_W_V_s2 {ρ : Type} (n : Nat) : LOrc ρ := lorcNil
omit [Tabs] [QuietD Tryd.prog] [UDef] [UTabs] in
theorem s_sl_Concat_W_V_s2 {ρ : Type} (n : Nat) (rec : T_sl_Concat_W_V_s2.den → Option ρ) kx kr s : dStep Tryd.prog 36 TT M_sl_Concat_W_V (O_sl_Concat_W_V n) (L_sl_Concat_W_V_s2 n) dorcNil 2 (lbody 1000 C_sl_Concat_W_V 1) T_sl_Concat_W_V_s2 X_sl_Concat_W_V_s2 R_sl_Concat_W_V_s2 ⟨[], [(6, 6, 40, 4)], []⟩ rec kx kr s = sl_Concat_W_V_s2 n rec kx kr s := by kernel_rfl
noncomputable def L_sl_Concat_W_V {ρ : Type} (n : Nat) : LOrc ρ := lorcCons 0 (loopL 36 0 n T_sl_Concat_W_V_s0 X_sl_Concat_W_V_s0 R_sl_Concat_W_V_s0 ⟨[], [], []⟩ (sl_Concat_W_V_s0 n)) (lorcCons 2 (loopL 36 2 n T_sl_Concat_W_V_s2 X_sl_Concat_W_V_s2 R_sl_Concat_W_V_s2 ⟨[], [(6, 6, 40, 4)], []⟩ (sl_Concat_W_V_s2 n)) (lorcNil))
omit [Tabs] [QuietD Tryd.prog] [UDef] [UTabs] in
theorem e_sl_Concat_W_V (n : Nat) (x) : evF Tryd.prog 36 TT M_sl_Concat_W_V F_sl_Concat_W_V (O_sl_Concat_W_V n) (L_sl_Concat_W_V n) dorcNil ⟨[], [], []⟩ [.tmp 2] C_sl_Concat_W_V x = sl_Concat_W_V n x := by kernel_rfl
omit [UDef] [UTabs] in
theorem ok_sl_Concat_W_V (n : Nat) : Contract Tryd.prog 17 F_sl_Concat_W_V (sl_Concat_W_V n) :=
  Contract.of_ev (c := C_sl_Concat_W_V) (N := 36) Tryd.func17 (by kernel_rfl) (by kernel_rfl) (by kernel_rfl) (by kernel_rfl) (O_sl_Concat_W_V_ok n) dorcNil_ok (.of (l := [(0, (lbody 1000 C_sl_Concat_W_V 0)), (2, (lbody 1000 C_sl_Concat_W_V 1))]) (by kernel_rfl) ⟨.head (loopL_sound (O_sl_Concat_W_V_ok n) dorcNil_ok (.of (l := []) (by kernel_rfl) trivial) (s_sl_Concat_W_V_s0 n)), ⟨.tail rfl (.head (loopL_sound (O_sl_Concat_W_V_ok n) dorcNil_ok (.of (l := []) (by kernel_rfl) trivial) (s_sl_Concat_W_V_s2 n))), trivial⟩⟩) (e_sl_Concat_W_V n)

noncomputable def F_bag_Gather : FnT := ⟨1, ⟨[], [(0, (.lst .cnt))], []⟩, [.v (.lst .cnt)], []⟩
noncomputable def F_sl_Clone_C_C_own : FnT := ⟨1, ⟨[], [(0, (.lst .cnt))], []⟩, [.ref (.own 5)], [(5, .arr 32 .cnt)]⟩
noncomputable def C_sl_Clone_C_C_own : Code := bodyOf Tryd.f22
noncomputable def M_sl_Clone_C_C_own : List (Nat × ArgM) := []
instance : DfOk M_sl_Clone_C_C_own := .none rfl
noncomputable def O_sl_Clone_C_C_own {ρ : Type} : Orc ρ := orcNil
omit [QuietD Tryd.prog] [UDef] [UTabs] in
theorem O_sl_Clone_C_C_own_ok {ρ : Type} : (O_sl_Clone_C_C_own : Orc ρ).ok Tryd.prog := orcNil_ok
noncomputable def L_sl_Clone_C_C_own {ρ : Type} : LOrc ρ := lorcNil
omit [Tabs] [QuietD Tryd.prog] [UDef] [UTabs] in
theorem e_sl_Clone_C_C_own (x) : evF Tryd.prog 8 TT M_sl_Clone_C_C_own F_sl_Clone_C_C_own (O_sl_Clone_C_C_own) (L_sl_Clone_C_C_own) dorcNil ⟨[], [(2, 5, 32, 2)], []⟩ [.tmp 2] C_sl_Clone_C_C_own x = sl_Clone_C_C_own x := by kernel_rfl
omit [UDef] [UTabs] in
theorem ok_sl_Clone_C_C_own : Contract Tryd.prog 22 F_sl_Clone_C_C_own (sl_Clone_C_C_own) :=
  Contract.of_ev (c := C_sl_Clone_C_C_own) (N := 8) Tryd.func22 (by kernel_rfl) (by kernel_rfl) (by kernel_rfl) (by kernel_rfl) (O_sl_Clone_C_C_own_ok) dorcNil_ok (.of (l := []) (by kernel_rfl) trivial) (e_sl_Clone_C_C_own)

noncomputable def F_sl_SortStableFunc_C_C_bag_Gather_1 : FnT := ⟨2, ⟨[(0, .own 2000000), (1, .fn 59)], [], [(2000000, .arr 32 .cnt)]⟩, [], [(2000000, .arr 32 .cnt)]⟩
noncomputable def F_sl_stableCF_C_bag_Gather_1 : FnT := ⟨3, ⟨[(0, .own 2000000), (2, .fn 59)], [(1, .i64)], [(2000000, .arr 32 .cnt)]⟩, [], [(2000000, .arr 32 .cnt)]⟩
noncomputable def F_sl_iSCF_C_bag_Gather_1 : FnT := ⟨4, ⟨[(0, .own 2000000), (3, .fn 59)], [(1, .i64), (2, .i64)], [(2000000, .arr 32 .cnt)]⟩, [], [(2000000, .arr 32 .cnt)]⟩
noncomputable def F_bag_Gather_1 : FnT := ⟨2, ⟨[], [(0, .cnt), (1, .cnt)], []⟩, [.v .i64], []⟩
noncomputable def C_bag_Gather_1 : Code := bodyOf Tryd.f59
noncomputable def M_bag_Gather_1 : List (Nat × ArgM) := [(34, ⟨[], [], [], true⟩)]
instance : DfOk M_bag_Gather_1 := .none rfl
noncomputable def O_bag_Gather_1 {ρ : Type} (n : Nat) : Orc ρ := orcCons 34 F_bag_Compare (bag_Compare n) (orcNil)
omit [UDef] [UTabs] in
theorem O_bag_Gather_1_ok {ρ : Type} (n : Nat) : (O_bag_Gather_1 n : Orc ρ).ok Tryd.prog := orcCons_ok (by kernel_rfl) (ok_bag_Compare n) (orcNil_ok)
noncomputable def L_bag_Gather_1 {ρ : Type} (n : Nat) : LOrc ρ := lorcNil
omit [Tabs] [QuietD Tryd.prog] [UDef] [UTabs] in
theorem e_bag_Gather_1 (n : Nat) (x) : evF Tryd.prog 10 TT M_bag_Gather_1 F_bag_Gather_1 (O_bag_Gather_1 n) (L_bag_Gather_1 n) dorcNil ⟨[], [], []⟩ [.tmp 4] C_bag_Gather_1 x = bag_Gather_1 n x := by kernel_rfl
omit [UDef] [UTabs] in
theorem ok_bag_Gather_1 (n : Nat) : Contract Tryd.prog 59 F_bag_Gather_1 (bag_Gather_1 n) :=
  Contract.of_ev (c := C_bag_Gather_1) (N := 10) Tryd.func59 (by kernel_rfl) (by kernel_rfl) (by kernel_rfl) (by kernel_rfl) (O_bag_Gather_1_ok n) dorcNil_ok (.of (l := []) (by kernel_rfl) trivial) (e_bag_Gather_1 n)

noncomputable def C_sl_iSCF_C_bag_Gather_1 : Code := bodyOf Tryd.f107
noncomputable def M_sl_iSCF_C_bag_Gather_1 : List (Nat × ArgM) := [(999999999, ⟨[1], [], [], false⟩), (59, ⟨[], [], [], true⟩)]
instance : DfOk M_sl_iSCF_C_bag_Gather_1 := .none rfl
noncomputable def O_sl_iSCF_C_bag_Gather_1 {ρ : Type} (n : Nat) : Orc ρ := orcCons 59 F_bag_Gather_1 (bag_Gather_1 n) (orcNil)
omit [UDef] [UTabs] in
theorem O_sl_iSCF_C_bag_Gather_1_ok {ρ : Type} (n : Nat) : (O_sl_iSCF_C_bag_Gather_1 n : Orc ρ).ok Tryd.prog := orcCons_ok (by kernel_rfl) (ok_bag_Gather_1 n) (orcNil_ok)
noncomputable def T_sl_iSCF_C_bag_Gather_1_s2 : Tm := ⟨[(0, .own 2000000), (3, .fn 59)], [(1, .i64), (2, .i64), (8, .i64), (9, .i64)], [(2000000, .arr 32 .cnt)]⟩
noncomputable def X_sl_iSCF_C_bag_Gather_1_s2 : Tm := ⟨[(0, .own 2000000), (3, .fn 59)], [(1, .i64), (2, .i64), (8, .i64)], [(2000000, .arr 32 .cnt)]⟩
noncomputable def R_sl_iSCF_C_bag_Gather_1_s2 : Tm := ⟨[], [], []⟩
noncomputable def L_sl_iSCF_C_bag_Gather_1_s2 {ρ : Type} (n : Nat) : LOrc ρ := lorcNil
omit [Tabs] [QuietD Tryd.prog] [UDef] [UTabs] in
theorem s_sl_iSCF_C_bag_Gather_1_s2 {ρ : Type} (n : Nat) (rec : T_sl_iSCF_C_bag_Gather_1_s2.den → Option ρ) kx kr s : dStep Tryd.prog 53 TT M_sl_iSCF_C_bag_Gather_1 (O_sl_iSCF_C_bag_Gather_1 n) (L_sl_iSCF_C_bag_Gather_1_s2 n) (evDraw Tryd.prog 53 TT M_sl_iSCF_C_bag_Gather_1 (O_sl_iSCF_C_bag_Gather_1 n)) 2 (lbody 0 (lbody 1000 C_sl_iSCF_C_bag_Gather_1 0) 0) T_sl_iSCF_C_bag_Gather_1_s2 X_sl_iSCF_C_bag_Gather_1_s2 R_sl_iSCF_C_bag_Gather_1_s2 ⟨[], [], []⟩ rec kx kr s = sl_iSCF_C_bag_Gather_1_s2 n rec kx kr s := by kernel_rfl
noncomputable def T_sl_iSCF_C_bag_Gather_1_s0 : Tm := ⟨[(0, .own 2000000), (3, .fn 59)], [(1, .i64), (2, .i64), (8, .i64)], [(2000000, .arr 32 .cnt)]⟩
noncomputable def X_sl_iSCF_C_bag_Gather_1_s0 : Tm := ⟨[], [], [(2000000, .arr 32 .cnt)]⟩
noncomputable def R_sl_iSCF_C_bag_Gather_1_s0 : Tm := ⟨[], [], []⟩
noncomputable def L_sl_iSCF_C_bag_Gather_1_s0 {ρ : Type} (n : Nat) : LOrc ρ := lorcCons 2 (loopL 53 2 n T_sl_iSCF_C_bag_Gather_1_s2 X_sl_iSCF_C_bag_Gather_1_s2 R_sl_iSCF_C_bag_Gather_1_s2 ⟨[], [], []⟩ (sl_iSCF_C_bag_Gather_1_s2 n)) (lorcNil)
omit [Tabs] [QuietD Tryd.prog] [UDef] [UTabs] in
theorem s_sl_iSCF_C_bag_Gather_1_s0 {ρ : Type} (n : Nat) (rec : T_sl_iSCF_C_bag_Gather_1_s0.den → Option ρ) kx kr s : dStep Tryd.prog 53 TT M_sl_iSCF_C_bag_Gather_1 (O_sl_iSCF_C_bag_Gather_1 n) (L_sl_iSCF_C_bag_Gather_1_s0 n) (evDraw Tryd.prog 53 TT M_sl_iSCF_C_bag_Gather_1 (O_sl_iSCF_C_bag_Gather_1 n)) 0 (lbody 1000 C_sl_iSCF_C_bag_Gather_1 0) T_sl_iSCF_C_bag_Gather_1_s0 X_sl_iSCF_C_bag_Gather_1_s0 R_sl_iSCF_C_bag_Gather_1_s0 ⟨[], [], []⟩ rec kx kr s = sl_iSCF_C_bag_Gather_1_s0 n rec kx kr s := by kernel_rfl
noncomputable def L_sl_iSCF_C_bag_Gather_1 {ρ : Type} (n : Nat) : LOrc ρ := lorcCons 0 (loopL 53 0 n T_sl_iSCF_C_bag_Gather_1_s0 X_sl_iSCF_C_bag_Gather_1_s0 R_sl_iSCF_C_bag_Gather_1_s0 ⟨[], [], []⟩ (sl_iSCF_C_bag_Gather_1_s0 n)) (lorcNil)
omit [Tabs] [QuietD Tryd.prog] [UDef] [UTabs] in
theorem e_sl_iSCF_C_bag_Gather_1 (n : Nat) (x) : evF Tryd.prog 53 TT M_sl_iSCF_C_bag_Gather_1 F_sl_iSCF_C_bag_Gather_1 (O_sl_iSCF_C_bag_Gather_1 n) (L_sl_iSCF_C_bag_Gather_1 n) (evDraw Tryd.prog 53 TT M_sl_iSCF_C_bag_Gather_1 (O_sl_iSCF_C_bag_Gather_1 n)) ⟨[], [], []⟩ [] C_sl_iSCF_C_bag_Gather_1 x = sl_iSCF_C_bag_Gather_1 n x := by kernel_rfl
omit [UDef] [UTabs] in
theorem ok_sl_iSCF_C_bag_Gather_1 (n : Nat) : Contract Tryd.prog 107 F_sl_iSCF_C_bag_Gather_1 (sl_iSCF_C_bag_Gather_1 n) :=
  Contract.of_ev (c := C_sl_iSCF_C_bag_Gather_1) (N := 53) Tryd.func107 (by kernel_rfl) (by kernel_rfl) (by kernel_rfl) (by kernel_rfl) (O_sl_iSCF_C_bag_Gather_1_ok n) (evDraw_ok (O_sl_iSCF_C_bag_Gather_1_ok n) (by kernel_rfl)) (.of (l := [(0, (lbody 1000 C_sl_iSCF_C_bag_Gather_1 0))]) (by kernel_rfl) ⟨.head (loopL_sound (O_sl_iSCF_C_bag_Gather_1_ok n) (evDraw_ok (O_sl_iSCF_C_bag_Gather_1_ok n) (by kernel_rfl)) (.of (l := [(2, (lbody 0 (lbody 1000 C_sl_iSCF_C_bag_Gather_1 0) 0))]) (by kernel_rfl) ⟨.head (loopL_sound (O_sl_iSCF_C_bag_Gather_1_ok n) (evDraw_ok (O_sl_iSCF_C_bag_Gather_1_ok n) (by kernel_rfl)) (.of (l := []) (by kernel_rfl) trivial) (s_sl_iSCF_C_bag_Gather_1_s2 n)), trivial⟩) (s_sl_iSCF_C_bag_Gather_1_s0 n)), trivial⟩) (e_sl_iSCF_C_bag_Gather_1 n)

noncomputable def F_sl_sMCF_C_bag_Gather_1 : FnT := ⟨5, ⟨[(0, .own 2000000), (4, .fn 59)], [(1, .i64), (2, .i64), (3, .i64)], [(2000000, .arr 32 .cnt)]⟩, [], [(2000000, .arr 32 .cnt)]⟩
noncomputable def F_sl_rotateCF_C_bag_Gather_1 : FnT := ⟨5, ⟨[(0, .own 2000000), (4, .fn 59)], [(1, .i64), (2, .i64), (3, .i64)], [(2000000, .arr 32 .cnt)]⟩, [], [(2000000, .arr 32 .cnt)]⟩
noncomputable def F_sl_swapRangeCF_C_bag_Gather_1 : FnT := ⟨5, ⟨[(0, .own 2000000), (4, .fn 59)], [(1, .i64), (2, .i64), (3, .i64)], [(2000000, .arr 32 .cnt)]⟩, [], [(2000000, .arr 32 .cnt)]⟩
noncomputable def C_sl_swapRangeCF_C_bag_Gather_1 : Code := bodyOf Tryd.f114
noncomputable def M_sl_swapRangeCF_C_bag_Gather_1 : List (Nat × ArgM) := [(999999999, ⟨[1], [], [], false⟩)]
instance : DfOk M_sl_swapRangeCF_C_bag_Gather_1 := .none rfl
noncomputable def O_sl_swapRangeCF_C_bag_Gather_1 {ρ : Type} (n : Nat) : Orc ρ := orcNil
omit [QuietD Tryd.prog] [UDef] [UTabs] in
theorem O_sl_swapRangeCF_C_bag_Gather_1_ok {ρ : Type} (n : Nat) : (O_sl_swapRangeCF_C_bag_Gather_1 n : Orc ρ).ok Tryd.prog := orcNil_ok
noncomputable def T_sl_swapRangeCF_C_bag_Gather_1_s0 : Tm := ⟨[(0, .own 2000000)], [(1, .i64), (2, .i64), (3, .i64), (10, .i64)], [(2000000, .arr 32 .cnt)]⟩
noncomputable def X_sl_swapRangeCF_C_bag_Gather_1_s0 : Tm := ⟨[], [], [(2000000, .arr 32 .cnt)]⟩
noncomputable def R_sl_swapRangeCF_C_bag_Gather_1_s0 : Tm := ⟨[], [], []⟩
noncomputable def L_sl_swapRangeCF_C_bag_Gather_1_s0 {ρ : Type} (n : Nat) : LOrc ρ := lorcNil
omit [Tabs] [QuietD Tryd.prog] [UDef] [UTabs] in
theorem s_sl_swapRangeCF_C_bag_Gather_1_s0 {ρ : Type} (n : Nat) (rec : T_sl_swapRangeCF_C_bag_Gather_1_s0.den → Option ρ) kx kr s : dStep Tryd.prog 38 TT M_sl_swapRangeCF_C_bag_Gather_1 (O_sl_swapRangeCF_C_bag_Gather_1 n) (L_sl_swapRangeCF_C_bag_Gather_1_s0 n) (evDraw Tryd.prog 38 TT M_sl_swapRangeCF_C_bag_Gather_1 (O_sl_swapRangeCF_C_bag_Gather_1 n)) 0 (lbody 1000 C_sl_swapRangeCF_C_bag_Gather_1 0) T_sl_swapRangeCF_C_bag_Gather_1_s0 X_sl_swapRangeCF_C_bag_Gather_1_s0 R_sl_swapRangeCF_C_bag_Gather_1_s0 ⟨[], [], []⟩ rec kx kr s = sl_swapRangeCF_C_bag_Gather_1_s0 n rec kx kr s := by kernel_rfl
noncomputable def L_sl_swapRangeCF_C_bag_Gather_1 {ρ : Type} (n : Nat) : LOrc ρ := lorcCons 0 (loopL 38 0 n T_sl_swapRangeCF_C_bag_Gather_1_s0 X_sl_swapRangeCF_C_bag_Gather_1_s0 R_sl_swapRangeCF_C_bag_Gather_1_s0 ⟨[], [], []⟩ (sl_swapRangeCF_C_bag_Gather_1_s0 n)) (lorcNil)
omit [Tabs] [QuietD Tryd.prog] [UDef] [UTabs] in
theorem e_sl_swapRangeCF_C_bag_Gather_1 (n : Nat) (x) : evF Tryd.prog 38 TT M_sl_swapRangeCF_C_bag_Gather_1 F_sl_swapRangeCF_C_bag_Gather_1 (O_sl_swapRangeCF_C_bag_Gather_1 n) (L_sl_swapRangeCF_C_bag_Gather_1 n) (evDraw Tryd.prog 38 TT M_sl_swapRangeCF_C_bag_Gather_1 (O_sl_swapRangeCF_C_bag_Gather_1 n)) ⟨[], [], []⟩ [] C_sl_swapRangeCF_C_bag_Gather_1 x = sl_swapRangeCF_C_bag_Gather_1 n x := by kernel_rfl
omit [UDef] [UTabs] in
theorem ok_sl_swapRangeCF_C_bag_Gather_1 (n : Nat) : Contract Tryd.prog 114 F_sl_swapRangeCF_C_bag_Gather_1 (sl_swapRangeCF_C_bag_Gather_1 n) :=
  Contract.of_ev (c := C_sl_swapRangeCF_C_bag_Gather_1) (N := 38) Tryd.func114 (by kernel_rfl) (by kernel_rfl) (by kernel_rfl) (by kernel_rfl) (O_sl_swapRangeCF_C_bag_Gather_1_ok n) (evDraw_ok (O_sl_swapRangeCF_C_bag_Gather_1_ok n) (by kernel_rfl)) (.of (l := [(0, (lbody 1000 C_sl_swapRangeCF_C_bag_Gather_1 0))]) (by kernel_rfl) ⟨.head (loopL_sound (O_sl_swapRangeCF_C_bag_Gather_1_ok n) (evDraw_ok (O_sl_swapRangeCF_C_bag_Gather_1_ok n) (by kernel_rfl)) (.of (l := []) (by kernel_rfl) trivial) (s_sl_swapRangeCF_C_bag_Gather_1_s0 n)), trivial⟩) (e_sl_swapRangeCF_C_bag_Gather_1 n)

noncomputable def C_sl_rotateCF_C_bag_Gather_1 : Code := bodyOf Tryd.f112
noncomputable def M_sl_rotateCF_C_bag_Gather_1 : List (Nat × ArgM) := [(999999999, ⟨[1], [], [], false⟩), (114, ⟨[1000], [], [], false⟩)]
instance : DfOk M_sl_rotateCF_C_bag_Gather_1 := .none rfl
noncomputable def O_sl_rotateCF_C_bag_Gather_1 {ρ : Type} (n : Nat) : Orc ρ := orcCons 114 F_sl_swapRangeCF_C_bag_Gather_1 (sl_swapRangeCF_C_bag_Gather_1 n) (orcNil)
omit [UDef] [UTabs] in
theorem O_sl_rotateCF_C_bag_Gather_1_ok {ρ : Type} (n : Nat) : (O_sl_rotateCF_C_bag_Gather_1 n : Orc ρ).ok Tryd.prog := orcCons_ok (by kernel_rfl) (ok_sl_swapRangeCF_C_bag_Gather_1 n) (orcNil_ok)
noncomputable def T_sl_rotateCF_C_bag_Gather_1_s0 : Tm := ⟨[(0, .own 2000000), (4, .fn 59)], [(2, .i64), (10, .i64), (11, .i64)], [(2000000, .arr 32 .cnt)]⟩
noncomputable def X_sl_rotateCF_C_bag_Gather_1_s0 : Tm := ⟨[(0, .own 2000000), (4, .fn 59)], [(2, .i64), (10, .i64)], [(2000000, .arr 32 .cnt)]⟩
noncomputable def R_sl_rotateCF_C_bag_Gather_1_s0 : Tm := ⟨[], [], []⟩
noncomputable def L_sl_rotateCF_C_bag_Gather_1_s0 {ρ : Type} (n : Nat) : LOrc ρ := lorcNil
omit [Tabs] [QuietD Tryd.prog] [UDef] [UTabs] in
theorem s_sl_rotateCF_C_bag_Gather_1_s0 {ρ : Type} (n : Nat) (rec : T_sl_rotateCF_C_bag_Gather_1_s0.den → Option ρ) kx kr s : dStep Tryd.prog 58 TT M_sl_rotateCF_C_bag_Gather_1 (O_sl_rotateCF_C_bag_Gather_1 n) (L_sl_rotateCF_C_bag_Gather_1_s0 n) dorcNil 0 (lbody 1000 C_sl_rotateCF_C_bag_Gather_1 0) T_sl_rotateCF_C_bag_Gather_1_s0 X_sl_rotateCF_C_bag_Gather_1_s0 R_sl_rotateCF_C_bag_Gather_1_s0 ⟨[], [], []⟩ rec kx kr s = sl_rotateCF_C_bag_Gather_1_s0 n rec kx kr s := by kernel_rfl
noncomputable def L_sl_rotateCF_C_bag_Gather_1 {ρ : Type} (n : Nat) : LOrc ρ := lorcCons 0 (loopL 58 0 n T_sl_rotateCF_C_bag_Gather_1_s0 X_sl_rotateCF_C_bag_Gather_1_s0 R_sl_rotateCF_C_bag_Gather_1_s0 ⟨[], [], []⟩ (sl_rotateCF_C_bag_Gather_1_s0 n)) (lorcNil)
omit [Tabs] [QuietD Tryd.prog] [UDef] [UTabs] in
theorem e_sl_rotateCF_C_bag_Gather_1 (n : Nat) (x) : evF Tryd.prog 58 TT M_sl_rotateCF_C_bag_Gather_1 F_sl_rotateCF_C_bag_Gather_1 (O_sl_rotateCF_C_bag_Gather_1 n) (L_sl_rotateCF_C_bag_Gather_1 n) dorcNil ⟨[], [], []⟩ [] C_sl_rotateCF_C_bag_Gather_1 x = sl_rotateCF_C_bag_Gather_1 n x := by kernel_rfl
omit [UDef] [UTabs] in
theorem ok_sl_rotateCF_C_bag_Gather_1 (n : Nat) : Contract Tryd.prog 112 F_sl_rotateCF_C_bag_Gather_1 (sl_rotateCF_C_bag_Gather_1 n) :=
  Contract.of_ev (c := C_sl_rotateCF_C_bag_Gather_1) (N := 58) Tryd.func112 (by kernel_rfl) (by kernel_rfl) (by kernel_rfl) (by kernel_rfl) (O_sl_rotateCF_C_bag_Gather_1_ok n) dorcNil_ok (.of (l := [(0, (lbody 1000 C_sl_rotateCF_C_bag_Gather_1 0))]) (by kernel_rfl) ⟨.head (loopL_sound (O_sl_rotateCF_C_bag_Gather_1_ok n) dorcNil_ok (.of (l := []) (by kernel_rfl) trivial) (s_sl_rotateCF_C_bag_Gather_1_s0 n)), trivial⟩) (e_sl_rotateCF_C_bag_Gather_1 n)

noncomputable def C_sl_sMCF_C_bag_Gather_1 : Code := bodyOf Tryd.f108
noncomputable def M_sl_sMCF_C_bag_Gather_1 : List (Nat × ArgM) := [(999999999, ⟨[1], [], [], false⟩), (112, ⟨[1000], [], [], false⟩), (108, ⟨[1000], [], [], false⟩), (59, ⟨[], [], [], true⟩)]
instance : DfOk M_sl_sMCF_C_bag_Gather_1 := .none rfl
noncomputable def O_sl_sMCF_C_bag_Gather_1 {ρ : Type} (self_sl_sMCF_C_bag_Gather_1 : Int × Int × Int × (List Ev.Cnt) × Unit → Option ((List Ev.Cnt) × Unit)) (n : Nat) : Orc ρ := orcCons 59 F_bag_Gather_1 (bag_Gather_1 n) (orcCons 112 F_sl_rotateCF_C_bag_Gather_1 (sl_rotateCF_C_bag_Gather_1 n) (orcCons 108 F_sl_sMCF_C_bag_Gather_1 (self_sl_sMCF_C_bag_Gather_1) (orcNil)))
omit [UDef] [UTabs] in
theorem O_sl_sMCF_C_bag_Gather_1_ok {ρ : Type} (self_sl_sMCF_C_bag_Gather_1 : Int × Int × Int × (List Ev.Cnt) × Unit → Option ((List Ev.Cnt) × Unit)) (h_sl_sMCF_C_bag_Gather_1 : Contract Tryd.prog 108 F_sl_sMCF_C_bag_Gather_1 self_sl_sMCF_C_bag_Gather_1) (n : Nat) : (O_sl_sMCF_C_bag_Gather_1 self_sl_sMCF_C_bag_Gather_1 n : Orc ρ).ok Tryd.prog := orcCons_ok (by kernel_rfl) (ok_bag_Gather_1 n) (orcCons_ok (by kernel_rfl) (ok_sl_rotateCF_C_bag_Gather_1 n) (orcCons_ok (by kernel_rfl) (h_sl_sMCF_C_bag_Gather_1) (orcNil_ok)))
noncomputable def T_sl_sMCF_C_bag_Gather_1_s0 : Tm := ⟨[(0, .own 2000000), (4, .fn 59)], [(1, .i64), (10, .i64), (11, .i64)], [(2000000, .arr 32 .cnt)]⟩
noncomputable def X_sl_sMCF_C_bag_Gather_1_s0 : Tm := ⟨[(0, .own 2000000)], [(1, .i64), (10, .i64)], [(2000000, .arr 32 .cnt)]⟩
noncomputable def R_sl_sMCF_C_bag_Gather_1_s0 : Tm := ⟨[], [], []⟩
noncomputable def L_sl_sMCF_C_bag_Gather_1_s0 {ρ : Type} (self_sl_sMCF_C_bag_Gather_1 : Int × Int × Int × (List Ev.Cnt) × Unit → Option ((List Ev.Cnt) × Unit)) (n : Nat) : LOrc ρ := lorcNil
omit [Tabs] [QuietD Tryd.prog] [UDef] [UTabs] in
theorem s_sl_sMCF_C_bag_Gather_1_s0 {ρ : Type} (self_sl_sMCF_C_bag_Gather_1 : Int × Int × Int × (List Ev.Cnt) × Unit → Option ((List Ev.Cnt) × Unit)) (n : Nat) (rec : T_sl_sMCF_C_bag_Gather_1_s0.den → Option ρ) kx kr s : dStep Tryd.prog 220 TT M_sl_sMCF_C_bag_Gather_1 (O_sl_sMCF_C_bag_Gather_1 self_sl_sMCF_C_bag_Gather_1 n) (L_sl_sMCF_C_bag_Gather_1_s0 self_sl_sMCF_C_bag_Gather_1 n) (evDraw Tryd.prog 220 TT M_sl_sMCF_C_bag_Gather_1 (O_sl_sMCF_C_bag_Gather_1 self_sl_sMCF_C_bag_Gather_1 n)) 0 (lbody 1000 C_sl_sMCF_C_bag_Gather_1 0) T_sl_sMCF_C_bag_Gather_1_s0 X_sl_sMCF_C_bag_Gather_1_s0 R_sl_sMCF_C_bag_Gather_1_s0 ⟨[], [], []⟩ rec kx kr s = sl_sMCF_C_bag_Gather_1_s0 self_sl_sMCF_C_bag_Gather_1 n rec kx kr s := by kernel_rfl
noncomputable def T_sl_sMCF_C_bag_Gather_1_s2 : Tm := ⟨[(0, .own 2000000)], [(10, .i64), (13, .i64)], [(2000000, .arr 32 .cnt)]⟩
noncomputable def X_sl_sMCF_C_bag_Gather_1_s2 : Tm := ⟨[], [], [(2000000, .arr 32 .cnt)]⟩
noncomputable def R_sl_sMCF_C_bag_Gather_1_s2 : Tm := ⟨[], [], []⟩
noncomputable def L_sl_sMCF_C_bag_Gather_1_s2 {ρ : Type} (self_sl_sMCF_C_bag_Gather_1 : Int × Int × Int × (List Ev.Cnt) × Unit → Option ((List Ev.Cnt) × Unit)) (n : Nat) : LOrc ρ := lorcNil
omit [Tabs] [QuietD Tryd.prog] [UDef] [UTabs] in
theorem s_sl_sMCF_C_bag_Gather_1_s2 {ρ : Type} (self_sl_sMCF_C_bag_Gather_1 : Int × Int × Int × (List Ev.Cnt) × Unit → Option ((List Ev.Cnt) × Unit)) (n : Nat) (rec : T_sl_sMCF_C_bag_Gather_1_s2.den → Option ρ) kx kr s : dStep Tryd.prog 220 TT M_sl_sMCF_C_bag_Gather_1 (O_sl_sMCF_C_bag_Gather_1 self_sl_sMCF_C_bag_Gather_1 n) (L_sl_sMCF_C_bag_Gather_1_s2 self_sl_sMCF_C_bag_Gather_1 n) (evDraw Tryd.prog 220 TT M_sl_sMCF_C_bag_Gather_1 (O_sl_sMCF_C_bag_Gather_1 self_sl_sMCF_C_bag_Gather_1 n)) 2 (lbody 1000 C_sl_sMCF_C_bag_Gather_1 1) T_sl_sMCF_C_bag_Gather_1_s2 X_sl_sMCF_C_bag_Gather_1_s2 R_sl_sMCF_C_bag_Gather_1_s2 ⟨[], [], []⟩ rec kx kr s = sl_sMCF_C_bag_Gather_1_s2 self_sl_sMCF_C_bag_Gather_1 n rec kx kr s := by kernel_rfl
noncomputable def T_sl_sMCF_C_bag_Gather_1_s4 : Tm := ⟨[(0, .own 2000000), (4, .fn 59)], [(2, .i64), (14, .i64), (15, .i64)], [(2000000, .arr 32 .cnt)]⟩
noncomputable def X_sl_sMCF_C_bag_Gather_1_s4 : Tm := ⟨[(0, .own 2000000)], [(2, .i64), (14, .i64)], [(2000000, .arr 32 .cnt)]⟩
noncomputable def R_sl_sMCF_C_bag_Gather_1_s4 : Tm := ⟨[], [], []⟩
noncomputable def L_sl_sMCF_C_bag_Gather_1_s4 {ρ : Type} (self_sl_sMCF_C_bag_Gather_1 : Int × Int × Int × (List Ev.Cnt) × Unit → Option ((List Ev.Cnt) × Unit)) (n : Nat) : LOrc ρ := lorcNil
omit [Tabs] [QuietD Tryd.prog] [UDef] [UTabs] in
theorem s_sl_sMCF_C_bag_Gather_1_s4 {ρ : Type} (self_sl_sMCF_C_bag_Gather_1 : Int × Int × Int × (List Ev.Cnt) × Unit → Option ((List Ev.Cnt) × Unit)) (n : Nat) (rec : T_sl_sMCF_C_bag_Gather_1_s4.den → Option ρ) kx kr s : dStep Tryd.prog 220 TT M_sl_sMCF_C_bag_Gather_1 (O_sl_sMCF_C_bag_Gather_1 self_sl_sMCF_C_bag_Gather_1 n) (L_sl_sMCF_C_bag_Gather_1_s4 self_sl_sMCF_C_bag_Gather_1 n) (evDraw Tryd.prog 220 TT M_sl_sMCF_C_bag_Gather_1 (O_sl_sMCF_C_bag_Gather_1 self_sl_sMCF_C_bag_Gather_1 n)) 4 (lbody 1000 C_sl_sMCF_C_bag_Gather_1 2) T_sl_sMCF_C_bag_Gather_1_s4 X_sl_sMCF_C_bag_Gather_1_s4 R_sl_sMCF_C_bag_Gather_1_s4 ⟨[], [], []⟩ rec kx kr s = sl_sMCF_C_bag_Gather_1_s4 self_sl_sMCF_C_bag_Gather_1 n rec kx kr s := by kernel_rfl
noncomputable def T_sl_sMCF_C_bag_Gather_1_s6 : Tm := ⟨[(0, .own 2000000)], [(14, .i64), (17, .i64)], [(2000000, .arr 32 .cnt)]⟩
noncomputable def X_sl_sMCF_C_bag_Gather_1_s6 : Tm := ⟨[], [], [(2000000, .arr 32 .cnt)]⟩
noncomputable def R_sl_sMCF_C_bag_Gather_1_s6 : Tm := ⟨[], [], []⟩
noncomputable def L_sl_sMCF_C_bag_Gather_1_s6 {ρ : Type} (self_sl_sMCF_C_bag_Gather_1 : Int × Int × Int × (List Ev.Cnt) × Unit → Option ((List Ev.Cnt) × Unit)) (n : Nat) : LOrc ρ := lorcNil
omit [Tabs] [QuietD Tryd.prog] [UDef] [UTabs] in
theorem s_sl_sMCF_C_bag_Gather_1_s6 {ρ : Type} (self_sl_sMCF_C_bag_Gather_1 : Int × Int × Int × (List Ev.Cnt) × Unit → Option ((List Ev.Cnt) × Unit)) (n : Nat) (rec : T_sl_sMCF_C_bag_Gather_1_s6.den → Option ρ) kx kr s : dStep Tryd.prog 220 TT M_sl_sMCF_C_bag_Gather_1 (O_sl_sMCF_C_bag_Gather_1 self_sl_sMCF_C_bag_Gather_1 n) (L_sl_sMCF_C_bag_Gather_1_s6 self_sl_sMCF_C_bag_Gather_1 n) (evDraw Tryd.prog 220 TT M_sl_sMCF_C_bag_Gather_1 (O_sl_sMCF_C_bag_Gather_1 self_sl_sMCF_C_bag_Gather_1 n)) 6 (lbody 1000 C_sl_sMCF_C_bag_Gather_1 3) T_sl_sMCF_C_bag_Gather_1_s6 X_sl_sMCF_C_bag_Gather_1_s6 R_sl_sMCF_C_bag_Gather_1_s6 ⟨[], [], []⟩ rec kx kr s = sl_sMCF_C_bag_Gather_1_s6 self_sl_sMCF_C_bag_Gather_1 n rec kx kr s := by kernel_rfl
noncomputable def T_sl_sMCF_C_bag_Gather_1_s8 : Tm := ⟨[(0, .own 2000000), (4, .fn 59)], [(1, .i64), (2, .i64), (3, .i64), (18, .i64), (19, .i64), (20, .i64), (21, .i64), (22, .i64)], [(2000000, .arr 32 .cnt)]⟩
noncomputable def X_sl_sMCF_C_bag_Gather_1_s8 : Tm := ⟨[(0, .own 2000000), (4, .fn 59)], [(1, .i64), (2, .i64), (3, .i64), (18, .i64), (19, .i64), (20, .i64)], [(2000000, .arr 32 .cnt)]⟩
noncomputable def R_sl_sMCF_C_bag_Gather_1_s8 : Tm := ⟨[], [], []⟩
noncomputable def L_sl_sMCF_C_bag_Gather_1_s8 {ρ : Type} (self_sl_sMCF_C_bag_Gather_1 : Int × Int × Int × (List Ev.Cnt) × Unit → Option ((List Ev.Cnt) × Unit)) (n : Nat) : LOrc ρ := lorcNil
omit [Tabs] [QuietD Tryd.prog] [UDef] [UTabs] in
theorem s_sl_sMCF_C_bag_Gather_1_s8 {ρ : Type} (self_sl_sMCF_C_bag_Gather_1 : Int × Int × Int × (List Ev.Cnt) × Unit → Option ((List Ev.Cnt) × Unit)) (n : Nat) (rec : T_sl_sMCF_C_bag_Gather_1_s8.den → Option ρ) kx kr s : dStep Tryd.prog 220 TT M_sl_sMCF_C_bag_Gather_1 (O_sl_sMCF_C_bag_Gather_1 self_sl_sMCF_C_bag_Gather_1 n) (L_sl_sMCF_C_bag_Gather_1_s8 self_sl_sMCF_C_bag_Gather_1 n) (evDraw Tryd.prog 220 TT M_sl_sMCF_C_bag_Gather_1 (O_sl_sMCF_C_bag_Gather_1 self_sl_sMCF_C_bag_Gather_1 n)) 8 (lbody 1000 C_sl_sMCF_C_bag_Gather_1 4) T_sl_sMCF_C_bag_Gather_1_s8 X_sl_sMCF_C_bag_Gather_1_s8 R_sl_sMCF_C_bag_Gather_1_s8 ⟨[], [], []⟩ rec kx kr s = sl_sMCF_C_bag_Gather_1_s8 self_sl_sMCF_C_bag_Gather_1 n rec kx kr s := by kernel_rfl
noncomputable def L_sl_sMCF_C_bag_Gather_1 {ρ : Type} (self_sl_sMCF_C_bag_Gather_1 : Int × Int × Int × (List Ev.Cnt) × Unit → Option ((List Ev.Cnt) × Unit)) (n : Nat) : LOrc ρ := lorcCons 0 (loopL 220 0 n T_sl_sMCF_C_bag_Gather_1_s0 X_sl_sMCF_C_bag_Gather_1_s0 R_sl_sMCF_C_bag_Gather_1_s0 ⟨[], [], []⟩ (sl_sMCF_C_bag_Gather_1_s0 self_sl_sMCF_C_bag_Gather_1 n)) (lorcCons 2 (loopL 220 2 n T_sl_sMCF_C_bag_Gather_1_s2 X_sl_sMCF_C_bag_Gather_1_s2 R_sl_sMCF_C_bag_Gather_1_s2 ⟨[], [], []⟩ (sl_sMCF_C_bag_Gather_1_s2 self_sl_sMCF_C_bag_Gather_1 n)) (lorcCons 4 (loopL 220 4 n T_sl_sMCF_C_bag_Gather_1_s4 X_sl_sMCF_C_bag_Gather_1_s4 R_sl_sMCF_C_bag_Gather_1_s4 ⟨[], [], []⟩ (sl_sMCF_C_bag_Gather_1_s4 self_sl_sMCF_C_bag_Gather_1 n)) (lorcCons 6 (loopL 220 6 n T_sl_sMCF_C_bag_Gather_1_s6 X_sl_sMCF_C_bag_Gather_1_s6 R_sl_sMCF_C_bag_Gather_1_s6 ⟨[], [], []⟩ (sl_sMCF_C_bag_Gather_1_s6 self_sl_sMCF_C_bag_Gather_1 n)) (lorcCons 8 (loopL 220 8 n T_sl_sMCF_C_bag_Gather_1_s8 X_sl_sMCF_C_bag_Gather_1_s8 R_sl_sMCF_C_bag_Gather_1_s8 ⟨[], [], []⟩ (sl_sMCF_C_bag_Gather_1_s8 self_sl_sMCF_C_bag_Gather_1 n)) (lorcNil)))))
omit [Tabs] [QuietD Tryd.prog] [UDef] [UTabs] in
theorem e_sl_sMCF_C_bag_Gather_1 (self_sl_sMCF_C_bag_Gather_1 : Int × Int × Int × (List Ev.Cnt) × Unit → Option ((List Ev.Cnt) × Unit)) (n : Nat) (x) : evF Tryd.prog 220 TT M_sl_sMCF_C_bag_Gather_1 F_sl_sMCF_C_bag_Gather_1 (O_sl_sMCF_C_bag_Gather_1 self_sl_sMCF_C_bag_Gather_1 n) (L_sl_sMCF_C_bag_Gather_1 self_sl_sMCF_C_bag_Gather_1 n) (evDraw Tryd.prog 220 TT M_sl_sMCF_C_bag_Gather_1 (O_sl_sMCF_C_bag_Gather_1 self_sl_sMCF_C_bag_Gather_1 n)) ⟨[], [], []⟩ [] C_sl_sMCF_C_bag_Gather_1 x = sl_sMCF_C_bag_Gather_1_b self_sl_sMCF_C_bag_Gather_1 n x := by kernel_rfl
omit [UDef] [UTabs] in
theorem okb_sl_sMCF_C_bag_Gather_1 (self_sl_sMCF_C_bag_Gather_1 : Int × Int × Int × (List Ev.Cnt) × Unit → Option ((List Ev.Cnt) × Unit)) (h_sl_sMCF_C_bag_Gather_1 : Contract Tryd.prog 108 F_sl_sMCF_C_bag_Gather_1 self_sl_sMCF_C_bag_Gather_1) (n : Nat) : Contract Tryd.prog 108 F_sl_sMCF_C_bag_Gather_1 (sl_sMCF_C_bag_Gather_1_b self_sl_sMCF_C_bag_Gather_1 n) :=
  Contract.of_ev (c := C_sl_sMCF_C_bag_Gather_1) (N := 220) Tryd.func108 (by kernel_rfl) (by kernel_rfl) (by kernel_rfl) (by kernel_rfl) (O_sl_sMCF_C_bag_Gather_1_ok self_sl_sMCF_C_bag_Gather_1 h_sl_sMCF_C_bag_Gather_1 n) (evDraw_ok (O_sl_sMCF_C_bag_Gather_1_ok self_sl_sMCF_C_bag_Gather_1 h_sl_sMCF_C_bag_Gather_1 n) (by kernel_rfl)) (.of (l := [(0, (lbody 1000 C_sl_sMCF_C_bag_Gather_1 0)), (2, (lbody 1000 C_sl_sMCF_C_bag_Gather_1 1)), (4, (lbody 1000 C_sl_sMCF_C_bag_Gather_1 2)), (6, (lbody 1000 C_sl_sMCF_C_bag_Gather_1 3)), (8, (lbody 1000 C_sl_sMCF_C_bag_Gather_1 4))]) (by kernel_rfl) ⟨.head (loopL_sound (O_sl_sMCF_C_bag_Gather_1_ok self_sl_sMCF_C_bag_Gather_1 h_sl_sMCF_C_bag_Gather_1 n) (evDraw_ok (O_sl_sMCF_C_bag_Gather_1_ok self_sl_sMCF_C_bag_Gather_1 h_sl_sMCF_C_bag_Gather_1 n) (by kernel_rfl)) (.of (l := []) (by kernel_rfl) trivial) (s_sl_sMCF_C_bag_Gather_1_s0 self_sl_sMCF_C_bag_Gather_1 n)), ⟨.tail rfl (.head (loopL_sound (O_sl_sMCF_C_bag_Gather_1_ok self_sl_sMCF_C_bag_Gather_1 h_sl_sMCF_C_bag_Gather_1 n) (evDraw_ok (O_sl_sMCF_C_bag_Gather_1_ok self_sl_sMCF_C_bag_Gather_1 h_sl_sMCF_C_bag_Gather_1 n) (by kernel_rfl)) (.of (l := []) (by kernel_rfl) trivial) (s_sl_sMCF_C_bag_Gather_1_s2 self_sl_sMCF_C_bag_Gather_1 n))), ⟨.tail rfl (.tail rfl (.head (loopL_sound (O_sl_sMCF_C_bag_Gather_1_ok self_sl_sMCF_C_bag_Gather_1 h_sl_sMCF_C_bag_Gather_1 n) (evDraw_ok (O_sl_sMCF_C_bag_Gather_1_ok self_sl_sMCF_C_bag_Gather_1 h_sl_sMCF_C_bag_Gather_1 n) (by kernel_rfl)) (.of (l := []) (by kernel_rfl) trivial) (s_sl_sMCF_C_bag_Gather_1_s4 self_sl_sMCF_C_bag_Gather_1 n)))), ⟨.tail rfl (.tail rfl (.tail rfl (.head (loopL_sound (O_sl_sMCF_C_bag_Gather_1_ok self_sl_sMCF_C_bag_Gather_1 h_sl_sMCF_C_bag_Gather_1 n) (evDraw_ok (O_sl_sMCF_C_bag_Gather_1_ok self_sl_sMCF_C_bag_Gather_1 h_sl_sMCF_C_bag_Gather_1 n) (by kernel_rfl)) (.of (l := []) (by kernel_rfl) trivial) (s_sl_sMCF_C_bag_Gather_1_s6 self_sl_sMCF_C_bag_Gather_1 n))))), ⟨.tail rfl (.tail rfl (.tail rfl (.tail rfl (.head (loopL_sound (O_sl_sMCF_C_bag_Gather_1_ok self_sl_sMCF_C_bag_Gather_1 h_sl_sMCF_C_bag_Gather_1 n) (evDraw_ok (O_sl_sMCF_C_bag_Gather_1_ok self_sl_sMCF_C_bag_Gather_1 h_sl_sMCF_C_bag_Gather_1 n) (by kernel_rfl)) (.of (l := []) (by kernel_rfl) trivial) (s_sl_sMCF_C_bag_Gather_1_s8 self_sl_sMCF_C_bag_Gather_1 n)))))), trivial⟩⟩⟩⟩⟩) (e_sl_sMCF_C_bag_Gather_1 self_sl_sMCF_C_bag_Gather_1 n)
omit [UDef] [UTabs] in
theorem ok_sl_sMCF_C_bag_Gather_1 : ∀ n, Contract Tryd.prog 108 F_sl_sMCF_C_bag_Gather_1 (sl_sMCF_C_bag_Gather_1 n)
  | 0 => fun _ _ h => by cases h
  | n + 1 => okb_sl_sMCF_C_bag_Gather_1 _ (ok_sl_sMCF_C_bag_Gather_1 n) n

noncomputable def C_sl_stableCF_C_bag_Gather_1 : Code := bodyOf Tryd.f81
noncomputable def M_sl_stableCF_C_bag_Gather_1 : List (Nat × ArgM) := [(999999999, ⟨[1], [], [], false⟩), (107, ⟨[1000], [], [], false⟩), (108, ⟨[1000], [], [], false⟩)]
instance : DfOk M_sl_stableCF_C_bag_Gather_1 := .none rfl
noncomputable def O_sl_stableCF_C_bag_Gather_1 {ρ : Type} (n : Nat) : Orc ρ := orcCons 107 F_sl_iSCF_C_bag_Gather_1 (sl_iSCF_C_bag_Gather_1 n) (orcCons 108 F_sl_sMCF_C_bag_Gather_1 (sl_sMCF_C_bag_Gather_1 n) (orcNil))
omit [UDef] [UTabs] in
theorem O_sl_stableCF_C_bag_Gather_1_ok {ρ : Type} (n : Nat) : (O_sl_stableCF_C_bag_Gather_1 n : Orc ρ).ok Tryd.prog := orcCons_ok (by kernel_rfl) (ok_sl_iSCF_C_bag_Gather_1 n) (orcCons_ok (by kernel_rfl) (ok_sl_sMCF_C_bag_Gather_1 n) (orcNil_ok))
noncomputable def T_sl_stableCF_C_bag_Gather_1_s0 : Tm := ⟨[(0, .own 2000000), (2, .fn 59)], [(1, .i64), (6, .i64), (7, .i64), (8, .i64)], [(2000000, .arr 32 .cnt)]⟩
noncomputable def X_sl_stableCF_C_bag_Gather_1_s0 : Tm := ⟨[(0, .own 2000000), (2, .fn 59)], [(1, .i64), (6, .i64), (7, .i64)], [(2000000, .arr 32 .cnt)]⟩
noncomputable def R_sl_stableCF_C_bag_Gather_1_s0 : Tm := ⟨[], [], []⟩
noncomputable def L_sl_stableCF_C_bag_Gather_1_s0 {ρ : Type} (n : Nat) : LOrc ρ := lorcNil
omit [Tabs] [QuietD Tryd.prog] [UDef] [UTabs] in
theorem s_sl_stableCF_C_bag_Gather_1_s0 {ρ : Type} (n : Nat) (rec : T_sl_stableCF_C_bag_Gather_1_s0.den → Option ρ) kx kr s : dStep Tryd.prog 63 TT M_sl_stableCF_C_bag_Gather_1 (O_sl_stableCF_C_bag_Gather_1 n) (L_sl_stableCF_C_bag_Gather_1_s0 n) dorcNil 0 (lbody 1000 C_sl_stableCF_C_bag_Gather_1 0) T_sl_stableCF_C_bag_Gather_1_s0 X_sl_stableCF_C_bag_Gather_1_s0 R_sl_stableCF_C_bag_Gather_1_s0 ⟨[], [], []⟩ rec kx kr s = sl_stableCF_C_bag_Gather_1_s0 n rec kx kr s := by kernel_rfl
noncomputable def T_sl_stableCF_C_bag_Gather_1_s4 : Tm := ⟨[(0, .own 2000000), (2, .fn 59)], [(1, .i64), (6, .i64), (7, .i64), (8, .i64)], [(2000000, .arr 32 .cnt)]⟩
noncomputable def X_sl_stableCF_C_bag_Gather_1_s4 : Tm := ⟨[(0, .own 2000000), (2, .fn 59)], [(1, .i64), (6, .i64), (7, .i64)], [(2000000, .arr 32 .cnt)]⟩
noncomputable def R_sl_stableCF_C_bag_Gather_1_s4 : Tm := ⟨[], [], []⟩
noncomputable def L_sl_stableCF_C_bag_Gather_1_s4 {ρ : Type} (n : Nat) : LOrc ρ := lorcNil
omit [Tabs] [QuietD Tryd.prog] [UDef] [UTabs] in
theorem s_sl_stableCF_C_bag_Gather_1_s4 {ρ : Type} (n : Nat) (rec : T_sl_stableCF_C_bag_Gather_1_s4.den → Option ρ) kx kr s : dStep Tryd.prog 63 TT M_sl_stableCF_C_bag_Gather_1 (O_sl_stableCF_C_bag_Gather_1 n) (L_sl_stableCF_C_bag_Gather_1_s4 n) dorcNil 4 (lbody 2 (lbody 1000 C_sl_stableCF_C_bag_Gather_1 1) 0) T_sl_stableCF_C_bag_Gather_1_s4 X_sl_stableCF_C_bag_Gather_1_s4 R_sl_stableCF_C_bag_Gather_1_s4 ⟨[], [], []⟩ rec kx kr s = sl_stableCF_C_bag_Gather_1_s4 n rec kx kr s := by kernel_rfl
noncomputable def T_sl_stableCF_C_bag_Gather_1_s2 : Tm := ⟨[(0, .own 2000000), (2, .fn 59)], [(1, .i64), (6, .i64)], [(2000000, .arr 32 .cnt)]⟩
noncomputable def X_sl_stableCF_C_bag_Gather_1_s2 : Tm := ⟨[], [], [(2000000, .arr 32 .cnt)]⟩
noncomputable def R_sl_stableCF_C_bag_Gather_1_s2 : Tm := ⟨[], [], []⟩
noncomputable def L_sl_stableCF_C_bag_Gather_1_s2 {ρ : Type} (n : Nat) : LOrc ρ := lorcCons 4 (loopL 63 4 n T_sl_stableCF_C_bag_Gather_1_s4 X_sl_stableCF_C_bag_Gather_1_s4 R_sl_stableCF_C_bag_Gather_1_s4 ⟨[], [], []⟩ (sl_stableCF_C_bag_Gather_1_s4 n)) (lorcNil)
omit [Tabs] [QuietD Tryd.prog] [UDef] [UTabs] in
theorem s_sl_stableCF_C_bag_Gather_1_s2 {ρ : Type} (n : Nat) (rec : T_sl_stableCF_C_bag_Gather_1_s2.den → Option ρ) kx kr s : dStep Tryd.prog 63 TT M_sl_stableCF_C_bag_Gather_1 (O_sl_stableCF_C_bag_Gather_1 n) (L_sl_stableCF_C_bag_Gather_1_s2 n) dorcNil 2 (lbody 1000 C_sl_stableCF_C_bag_Gather_1 1) T_sl_stableCF_C_bag_Gather_1_s2 X_sl_stableCF_C_bag_Gather_1_s2 R_sl_stableCF_C_bag_Gather_1_s2 ⟨[], [], []⟩ rec kx kr s = sl_stableCF_C_bag_Gather_1_s2 n rec kx kr s := by kernel_rfl
noncomputable def L_sl_stableCF_C_bag_Gather_1 {ρ : Type} (n : Nat) : LOrc ρ := lorcCons 0 (loopL 63 0 n T_sl_stableCF_C_bag_Gather_1_s0 X_sl_stableCF_C_bag_Gather_1_s0 R_sl_stableCF_C_bag_Gather_1_s0 ⟨[], [], []⟩ (sl_stableCF_C_bag_Gather_1_s0 n)) (lorcCons 2 (loopL 63 2 n T_sl_stableCF_C_bag_Gather_1_s2 X_sl_stableCF_C_bag_Gather_1_s2 R_sl_stableCF_C_bag_Gather_1_s2 ⟨[], [], []⟩ (sl_stableCF_C_bag_Gather_1_s2 n)) (lorcNil))
omit [Tabs] [QuietD Tryd.prog] [UDef] [UTabs] in
theorem e_sl_stableCF_C_bag_Gather_1 (n : Nat) (x) : evF Tryd.prog 63 TT M_sl_stableCF_C_bag_Gather_1 F_sl_stableCF_C_bag_Gather_1 (O_sl_stableCF_C_bag_Gather_1 n) (L_sl_stableCF_C_bag_Gather_1 n) dorcNil ⟨[], [], []⟩ [] C_sl_stableCF_C_bag_Gather_1 x = sl_stableCF_C_bag_Gather_1 n x := by kernel_rfl
omit [UDef] [UTabs] in
theorem ok_sl_stableCF_C_bag_Gather_1 (n : Nat) : Contract Tryd.prog 81 F_sl_stableCF_C_bag_Gather_1 (sl_stableCF_C_bag_Gather_1 n) :=
  Contract.of_ev (c := C_sl_stableCF_C_bag_Gather_1) (N := 63) Tryd.func81 (by kernel_rfl) (by kernel_rfl) (by kernel_rfl) (by kernel_rfl) (O_sl_stableCF_C_bag_Gather_1_ok n) dorcNil_ok (.of (l := [(0, (lbody 1000 C_sl_stableCF_C_bag_Gather_1 0)), (2, (lbody 1000 C_sl_stableCF_C_bag_Gather_1 1))]) (by kernel_rfl) ⟨.head (loopL_sound (O_sl_stableCF_C_bag_Gather_1_ok n) dorcNil_ok (.of (l := []) (by kernel_rfl) trivial) (s_sl_stableCF_C_bag_Gather_1_s0 n)), ⟨.tail rfl (.head (loopL_sound (O_sl_stableCF_C_bag_Gather_1_ok n) dorcNil_ok (.of (l := [(4, (lbody 2 (lbody 1000 C_sl_stableCF_C_bag_Gather_1 1) 0))]) (by kernel_rfl) ⟨.head (loopL_sound (O_sl_stableCF_C_bag_Gather_1_ok n) dorcNil_ok (.of (l := []) (by kernel_rfl) trivial) (s_sl_stableCF_C_bag_Gather_1_s4 n)), trivial⟩) (s_sl_stableCF_C_bag_Gather_1_s2 n))), trivial⟩⟩) (e_sl_stableCF_C_bag_Gather_1 n)

noncomputable def C_sl_SortStableFunc_C_C_bag_Gather_1 : Code := bodyOf Tryd.f58
noncomputable def M_sl_SortStableFunc_C_C_bag_Gather_1 : List (Nat × ArgM) := [(999999999, ⟨[1], [], [], false⟩), (81, ⟨[1000], [], [], false⟩)]
instance : DfOk M_sl_SortStableFunc_C_C_bag_Gather_1 := .none rfl
noncomputable def O_sl_SortStableFunc_C_C_bag_Gather_1 {ρ : Type} (n : Nat) : Orc ρ := orcCons 81 F_sl_stableCF_C_bag_Gather_1 (sl_stableCF_C_bag_Gather_1 n) (orcNil)
omit [UDef] [UTabs] in
theorem O_sl_SortStableFunc_C_C_bag_Gather_1_ok {ρ : Type} (n : Nat) : (O_sl_SortStableFunc_C_C_bag_Gather_1 n : Orc ρ).ok Tryd.prog := orcCons_ok (by kernel_rfl) (ok_sl_stableCF_C_bag_Gather_1 n) (orcNil_ok)
noncomputable def L_sl_SortStableFunc_C_C_bag_Gather_1 {ρ : Type} (n : Nat) : LOrc ρ := lorcNil
omit [Tabs] [QuietD Tryd.prog] [UDef] [UTabs] in
theorem e_sl_SortStableFunc_C_C_bag_Gather_1 (n : Nat) (x) : evF Tryd.prog 9 TT M_sl_SortStableFunc_C_C_bag_Gather_1 F_sl_SortStableFunc_C_C_bag_Gather_1 (O_sl_SortStableFunc_C_C_bag_Gather_1 n) (L_sl_SortStableFunc_C_C_bag_Gather_1 n) dorcNil ⟨[], [], []⟩ [] C_sl_SortStableFunc_C_C_bag_Gather_1 x = sl_SortStableFunc_C_C_bag_Gather_1 n x := by kernel_rfl
omit [UDef] [UTabs] in
theorem ok_sl_SortStableFunc_C_C_bag_Gather_1 (n : Nat) : Contract Tryd.prog 58 F_sl_SortStableFunc_C_C_bag_Gather_1 (sl_SortStableFunc_C_C_bag_Gather_1 n) :=
  Contract.of_ev (c := C_sl_SortStableFunc_C_C_bag_Gather_1) (N := 9) Tryd.func58 (by kernel_rfl) (by kernel_rfl) (by kernel_rfl) (by kernel_rfl) (O_sl_SortStableFunc_C_C_bag_Gather_1_ok n) dorcNil_ok (.of (l := []) (by kernel_rfl) trivial) (e_sl_SortStableFunc_C_C_bag_Gather_1 n)

noncomputable def F_bag_CopyRow : FnT := ⟨1, ⟨[], [(0, (.lst .val))], []⟩, [.v (.lst .val)], []⟩
noncomputable def F_value_Copy : FnT := ⟨1, ⟨[], [(0, .val)], []⟩, [.v .val], []⟩
noncomputable def C_value_Copy : Code := bodyOf Tryd.f79
noncomputable def M_value_Copy : List (Nat × ArgM) := []
instance : DfOk M_value_Copy := .none rfl
noncomputable def O_value_Copy {ρ : Type} (self_value_Copy : Ev.Val × Unit → Option (Ev.Val × Unit)) (n : Nat) : Orc ρ := orcCons 79 F_value_Copy (self_value_Copy) (orcNil)
omit [QuietD Tryd.prog] [UDef] [UTabs] in
theorem O_value_Copy_ok {ρ : Type} (self_value_Copy : Ev.Val × Unit → Option (Ev.Val × Unit)) (h_value_Copy : Contract Tryd.prog 79 F_value_Copy self_value_Copy) (n : Nat) : (O_value_Copy self_value_Copy n : Orc ρ).ok Tryd.prog := orcCons_ok (by kernel_rfl) (h_value_Copy) (orcNil_ok)
noncomputable def T_value_Copy_s0 : Tm := ⟨[(1, .ptr 1 0), (2, .ptr 2 0)], [(9, (.lst .val)), (10, .i64), (11, .i64)], [(1, .box [.d .i64, .d .i64, .d .str, .ref (.own 300043)]), (2, .box [.d .val]), (300043, .arr 40 .val)]⟩
noncomputable def X_value_Copy_s0 : Tm := ⟨[(1, .ptr 1 0), (2, .ptr 2 0)], [], [(1, .box [.d .i64, .d .i64, .d .str, .ref (.own 300043)]), (2, .box [.d .val]), (300043, .arr 40 .val)]⟩
noncomputable def R_value_Copy_s0 : Tm := ⟨[], [], []⟩
noncomputable def L_value_Copy_s0 {ρ : Type} (self_value_Copy : Ev.Val × Unit → Option (Ev.Val × Unit)) (n : Nat) : LOrc ρ := lorcNil
omit [Tabs] [QuietD Tryd.prog] [UDef] [UTabs] in
theorem s_value_Copy_s0 {ρ : Type} (self_value_Copy : Ev.Val × Unit → Option (Ev.Val × Unit)) (n : Nat) (rec : T_value_Copy_s0.den → Option ρ) kx kr s : dStep Tryd.prog 24 TT M_value_Copy (O_value_Copy self_value_Copy n) (L_value_Copy_s0 self_value_Copy n) (evDraw Tryd.prog 24 TT M_value_Copy (O_value_Copy self_value_Copy n)) 0 (lbody 1000 C_value_Copy 0) T_value_Copy_s0 X_value_Copy_s0 R_value_Copy_s0 ⟨[], [], [(1, 3, 300043, 40, 4)]⟩ rec kx kr s = value_Copy_s0 self_value_Copy n rec kx kr s := by kernel_rfl
noncomputable def L_value_Copy {ρ : Type} (self_value_Copy : Ev.Val × Unit → Option (Ev.Val × Unit)) (n : Nat) : LOrc ρ := lorcCons 0 (loopL 24 0 n T_value_Copy_s0 X_value_Copy_s0 R_value_Copy_s0 ⟨[], [], [(1, 3, 300043, 40, 4)]⟩ (value_Copy_s0 self_value_Copy n)) (lorcNil)
omit [Tabs] [QuietD Tryd.prog] [UDef] [UTabs] in
theorem e_value_Copy (self_value_Copy : Ev.Val × Unit → Option (Ev.Val × Unit)) (n : Nat) (x) : evF Tryd.prog 24 TT M_value_Copy F_value_Copy (O_value_Copy self_value_Copy n) (L_value_Copy self_value_Copy n) (evDraw Tryd.prog 24 TT M_value_Copy (O_value_Copy self_value_Copy n)) ⟨[], [], []⟩ [.cell 2 40] C_value_Copy x = value_Copy_b self_value_Copy n x := by kernel_rfl
omit [UDef] [UTabs] in
theorem okb_value_Copy (self_value_Copy : Ev.Val × Unit → Option (Ev.Val × Unit)) (h_value_Copy : Contract Tryd.prog 79 F_value_Copy self_value_Copy) (n : Nat) : Contract Tryd.prog 79 F_value_Copy (value_Copy_b self_value_Copy n) :=
  Contract.of_ev (c := C_value_Copy) (N := 24) Tryd.func79 (by kernel_rfl) (by kernel_rfl) (by kernel_rfl) (by kernel_rfl) (O_value_Copy_ok self_value_Copy h_value_Copy n) (evDraw_ok (O_value_Copy_ok self_value_Copy h_value_Copy n) (by kernel_rfl)) (.of (l := [(0, (lbody 1000 C_value_Copy 0))]) (by kernel_rfl) ⟨.head (loopL_sound (O_value_Copy_ok self_value_Copy h_value_Copy n) (evDraw_ok (O_value_Copy_ok self_value_Copy h_value_Copy n) (by kernel_rfl)) (.of (l := []) (by kernel_rfl) trivial) (s_value_Copy_s0 self_value_Copy n)), trivial⟩) (e_value_Copy self_value_Copy n)
omit [UDef] [UTabs] in
theorem ok_value_Copy : ∀ n, Contract Tryd.prog 79 F_value_Copy (value_Copy n)
  | 0 => fun _ _ h => by cases h
  | n + 1 => okb_value_Copy _ (ok_value_Copy n) n

noncomputable def C_bag_CopyRow : Code := bodyOf Tryd.f51
noncomputable def M_bag_CopyRow : List (Nat × ArgM) := []
instance : DfOk M_bag_CopyRow := .none rfl
noncomputable def O_bag_CopyRow {ρ : Type} (n : Nat) : Orc ρ := orcCons 79 F_value_Copy (value_Copy n) (orcNil)
omit [UDef] [UTabs] in
theorem O_bag_CopyRow_ok {ρ : Type} (n : Nat) : (O_bag_CopyRow n : Orc ρ).ok Tryd.prog := orcCons_ok (by kernel_rfl) (ok_value_Copy n) (orcNil_ok)
noncomputable def T_bag_CopyRow_s0 : Tm := ⟨[(3, .own 3)], [(6, (.lst .val)), (7, .i64), (8, .i64)], [(3, .arr 40 .val)]⟩
noncomputable def X_bag_CopyRow_s0 : Tm := ⟨[(3, .own 3)], [], [(3, .arr 40 .val)]⟩
noncomputable def R_bag_CopyRow_s0 : Tm := ⟨[], [], []⟩
noncomputable def L_bag_CopyRow_s0 {ρ : Type} (n : Nat) : LOrc ρ := lorcNil
omit [Tabs] [QuietD Tryd.prog] [UDef] [UTabs] in
theorem s_bag_CopyRow_s0 {ρ : Type} (n : Nat) (rec : T_bag_CopyRow_s0.den → Option ρ) kx kr s : dStep Tryd.prog 19 TT M_bag_CopyRow (O_bag_CopyRow n) (L_bag_CopyRow_s0 n) dorcNil 0 (lbody 1000 C_bag_CopyRow 0) T_bag_CopyRow_s0 X_bag_CopyRow_s0 R_bag_CopyRow_s0 ⟨[], [(3, 3, 40, 4)], []⟩ rec kx kr s = bag_CopyRow_s0 n rec kx kr s := by kernel_rfl
noncomputable def L_bag_CopyRow {ρ : Type} (n : Nat) : LOrc ρ := lorcCons 0 (loopL 19 0 n T_bag_CopyRow_s0 X_bag_CopyRow_s0 R_bag_CopyRow_s0 ⟨[], [(3, 3, 40, 4)], []⟩ (bag_CopyRow_s0 n)) (lorcNil)
omit [Tabs] [QuietD Tryd.prog] [UDef] [UTabs] in
theorem e_bag_CopyRow (n : Nat) (x) : evF Tryd.prog 19 TT M_bag_CopyRow F_bag_CopyRow (O_bag_CopyRow n) (L_bag_CopyRow n) dorcNil ⟨[], [], []⟩ [.tmp 2] C_bag_CopyRow x = bag_CopyRow n x := by kernel_rfl
omit [UDef] [UTabs] in
theorem ok_bag_CopyRow (n : Nat) : Contract Tryd.prog 51 F_bag_CopyRow (bag_CopyRow n) :=
  Contract.of_ev (c := C_bag_CopyRow) (N := 19) Tryd.func51 (by kernel_rfl) (by kernel_rfl) (by kernel_rfl) (by kernel_rfl) (O_bag_CopyRow_ok n) dorcNil_ok (.of (l := [(0, (lbody 1000 C_bag_CopyRow 0))]) (by kernel_rfl) ⟨.head (loopL_sound (O_bag_CopyRow_ok n) dorcNil_ok (.of (l := []) (by kernel_rfl) trivial) (s_bag_CopyRow_s0 n)), trivial⟩) (e_bag_CopyRow n)

noncomputable def F_sl_DeleteFunc_api_Bag_C_bag_Gather_2 : FnT := ⟨2, ⟨[(0, .own 1000000), (1, .fn 61)], [], [(1000000, .arr 32 .cnt)]⟩, [.ref (.own 1000000)], [(1000000, .arr 32 .cnt)]⟩
noncomputable def F_sl_IndexFunc_api_Bag_C_bag_Gather_2 : FnT := ⟨2, ⟨[(1, .fn 61)], [(0, (.lst .cnt))], []⟩, [.v .i64], []⟩
noncomputable def F_bag_Gather_2 : FnT := ⟨1, ⟨[], [(0, .cnt)], []⟩, [.v .bool], []⟩
noncomputable def C_bag_Gather_2 : Code := bodyOf Tryd.f61
noncomputable def M_bag_Gather_2 : List (Nat × ArgM) := []
instance : DfOk M_bag_Gather_2 := .none rfl
noncomputable def O_bag_Gather_2 {ρ : Type} : Orc ρ := orcNil
omit [QuietD Tryd.prog] [UDef] [UTabs] in
theorem O_bag_Gather_2_ok {ρ : Type} : (O_bag_Gather_2 : Orc ρ).ok Tryd.prog := orcNil_ok
noncomputable def L_bag_Gather_2 {ρ : Type} : LOrc ρ := lorcNil
omit [Tabs] [QuietD Tryd.prog] [UDef] [UTabs] in
theorem e_bag_Gather_2 (x) : evF Tryd.prog 6 TT M_bag_Gather_2 F_bag_Gather_2 (O_bag_Gather_2) (L_bag_Gather_2) dorcNil ⟨[], [], []⟩ [.tmp 2] C_bag_Gather_2 x = bag_Gather_2 x := by kernel_rfl
omit [UDef] [UTabs] in
theorem ok_bag_Gather_2 : Contract Tryd.prog 61 F_bag_Gather_2 (bag_Gather_2) :=
  Contract.of_ev (c := C_bag_Gather_2) (N := 6) Tryd.func61 (by kernel_rfl) (by kernel_rfl) (by kernel_rfl) (by kernel_rfl) (O_bag_Gather_2_ok) dorcNil_ok (.of (l := []) (by kernel_rfl) trivial) (e_bag_Gather_2)

noncomputable def C_sl_IndexFunc_api_Bag_C_bag_Gather_2 : Code := bodyOf Tryd.f82
noncomputable def M_sl_IndexFunc_api_Bag_C_bag_Gather_2 : List (Nat × ArgM) := [(61, ⟨[], [], [], true⟩)]
instance : DfOk M_sl_IndexFunc_api_Bag_C_bag_Gather_2 := .none rfl
noncomputable def O_sl_IndexFunc_api_Bag_C_bag_Gather_2 {ρ : Type} (n : Nat) : Orc ρ := orcCons 61 F_bag_Gather_2 (bag_Gather_2) (orcNil)
omit [UDef] [UTabs] in
theorem O_sl_IndexFunc_api_Bag_C_bag_Gather_2_ok {ρ : Type} (n : Nat) : (O_sl_IndexFunc_api_Bag_C_bag_Gather_2 n : Orc ρ).ok Tryd.prog := orcCons_ok (by kernel_rfl) (ok_bag_Gather_2) (orcNil_ok)
noncomputable def T_sl_IndexFunc_api_Bag_C_bag_Gather_2_s0 : Tm := ⟨[(1, .fn 61)], [(0, (.lst .cnt)), (7, .i64), (8, .i64)], []⟩
noncomputable def X_sl_IndexFunc_api_Bag_C_bag_Gather_2_s0 : Tm := ⟨[], [], []⟩
noncomputable def R_sl_IndexFunc_api_Bag_C_bag_Gather_2_s0 : Tm := ⟨[], [(4, .i64)], []⟩
noncomputable def L_sl_IndexFunc_api_Bag_C_bag_Gather_2_s0 {ρ : Type} (n : Nat) : LOrc ρ := lorcNil
omit [Tabs] [QuietD Tryd.prog] [UDef] [UTabs] in
theorem s_sl_IndexFunc_api_Bag_C_bag_Gather_2_s0 {ρ : Type} (n : Nat) (rec : T_sl_IndexFunc_api_Bag_C_bag_Gather_2_s0.den → Option ρ) kx kr s : dStep Tryd.prog 19 TT M_sl_IndexFunc_api_Bag_C_bag_Gather_2 (O_sl_IndexFunc_api_Bag_C_bag_Gather_2 n) (L_sl_IndexFunc_api_Bag_C_bag_Gather_2_s0 n) dorcNil 0 (lbody 1000 C_sl_IndexFunc_api_Bag_C_bag_Gather_2 0) T_sl_IndexFunc_api_Bag_C_bag_Gather_2_s0 X_sl_IndexFunc_api_Bag_C_bag_Gather_2_s0 R_sl_IndexFunc_api_Bag_C_bag_Gather_2_s0 ⟨[], [], []⟩ rec kx kr s = sl_IndexFunc_api_Bag_C_bag_Gather_2_s0 n rec kx kr s := by kernel_rfl
noncomputable def L_sl_IndexFunc_api_Bag_C_bag_Gather_2 {ρ : Type} (n : Nat) : LOrc ρ := lorcCons 0 (loopL 19 0 n T_sl_IndexFunc_api_Bag_C_bag_Gather_2_s0 X_sl_IndexFunc_api_Bag_C_bag_Gather_2_s0 R_sl_IndexFunc_api_Bag_C_bag_Gather_2_s0 ⟨[], [], []⟩ (sl_IndexFunc_api_Bag_C_bag_Gather_2_s0 n)) (lorcNil)
omit [Tabs] [QuietD Tryd.prog] [UDef] [UTabs] in
theorem e_sl_IndexFunc_api_Bag_C_bag_Gather_2 (n : Nat) (x) : evF Tryd.prog 19 TT M_sl_IndexFunc_api_Bag_C_bag_Gather_2 F_sl_IndexFunc_api_Bag_C_bag_Gather_2 (O_sl_IndexFunc_api_Bag_C_bag_Gather_2 n) (L_sl_IndexFunc_api_Bag_C_bag_Gather_2 n) dorcNil ⟨[], [], []⟩ [.tmp 4] C_sl_IndexFunc_api_Bag_C_bag_Gather_2 x = sl_IndexFunc_api_Bag_C_bag_Gather_2 n x := by kernel_rfl
omit [UDef] [UTabs] in
theorem ok_sl_IndexFunc_api_Bag_C_bag_Gather_2 (n : Nat) : Contract Tryd.prog 82 F_sl_IndexFunc_api_Bag_C_bag_Gather_2 (sl_IndexFunc_api_Bag_C_bag_Gather_2 n) :=
  Contract.of_ev (c := C_sl_IndexFunc_api_Bag_C_bag_Gather_2) (N := 19) Tryd.func82 (by kernel_rfl) (by kernel_rfl) (by kernel_rfl) (by kernel_rfl) (O_sl_IndexFunc_api_Bag_C_bag_Gather_2_ok n) dorcNil_ok (.of (l := [(0, (lbody 1000 C_sl_IndexFunc_api_Bag_C_bag_Gather_2 0))]) (by kernel_rfl) ⟨.head (loopL_sound (O_sl_IndexFunc_api_Bag_C_bag_Gather_2_ok n) dorcNil_ok (.of (l := []) (by kernel_rfl) trivial) (s_sl_IndexFunc_api_Bag_C_bag_Gather_2_s0 n)), trivial⟩) (e_sl_IndexFunc_api_Bag_C_bag_Gather_2 n)

noncomputable def C_sl_DeleteFunc_api_Bag_C_bag_Gather_2 : Code := bodyOf Tryd.f60
noncomputable def M_sl_DeleteFunc_api_Bag_C_bag_Gather_2 : List (Nat × ArgM) := [(999999999, ⟨[1], [], [], false⟩), (82, ⟨[], [], [], true⟩), (61, ⟨[], [], [], true⟩)]
instance : DfOk M_sl_DeleteFunc_api_Bag_C_bag_Gather_2 := .none rfl
noncomputable def O_sl_DeleteFunc_api_Bag_C_bag_Gather_2 {ρ : Type} (n : Nat) : Orc ρ := orcCons 82 F_sl_IndexFunc_api_Bag_C_bag_Gather_2 (sl_IndexFunc_api_Bag_C_bag_Gather_2 n) (orcCons 61 F_bag_Gather_2 (bag_Gather_2) (orcNil))
omit [UDef] [UTabs] in
theorem O_sl_DeleteFunc_api_Bag_C_bag_Gather_2_ok {ρ : Type} (n : Nat) : (O_sl_DeleteFunc_api_Bag_C_bag_Gather_2 n : Orc ρ).ok Tryd.prog := orcCons_ok (by kernel_rfl) (ok_sl_IndexFunc_api_Bag_C_bag_Gather_2 n) (orcCons_ok (by kernel_rfl) (ok_bag_Gather_2) (orcNil_ok))
noncomputable def T_sl_DeleteFunc_api_Bag_C_bag_Gather_2_s0 : Tm := ⟨[(0, .own 1000000), (1, .fn 61)], [(5, .i64), (6, .i64)], [(1000000, .arr 32 .cnt)]⟩
noncomputable def X_sl_DeleteFunc_api_Bag_C_bag_Gather_2_s0 : Tm := ⟨[(0, .own 1000000)], [(5, .i64)], [(1000000, .arr 32 .cnt)]⟩
noncomputable def R_sl_DeleteFunc_api_Bag_C_bag_Gather_2_s0 : Tm := ⟨[], [], []⟩
noncomputable def L_sl_DeleteFunc_api_Bag_C_bag_Gather_2_s0 {ρ : Type} (n : Nat) : LOrc ρ := lorcNil
omit [Tabs] [QuietD Tryd.prog] [UDef] [UTabs] in
theorem s_sl_DeleteFunc_api_Bag_C_bag_Gather_2_s0 {ρ : Type} (n : Nat) (rec : T_sl_DeleteFunc_api_Bag_C_bag_Gather_2_s0.den → Option ρ) kx kr s : dStep Tryd.prog 42 TT M_sl_DeleteFunc_api_Bag_C_bag_Gather_2 (O_sl_DeleteFunc_api_Bag_C_bag_Gather_2 n) (L_sl_DeleteFunc_api_Bag_C_bag_Gather_2_s0 n) dorcNil 0 (lbody 1000 C_sl_DeleteFunc_api_Bag_C_bag_Gather_2 0) T_sl_DeleteFunc_api_Bag_C_bag_Gather_2_s0 X_sl_DeleteFunc_api_Bag_C_bag_Gather_2_s0 R_sl_DeleteFunc_api_Bag_C_bag_Gather_2_s0 ⟨[], [], []⟩ rec kx kr s = sl_DeleteFunc_api_Bag_C_bag_Gather_2_s0 n rec kx kr s := by kernel_rfl
noncomputable def L_sl_DeleteFunc_api_Bag_C_bag_Gather_2 {ρ : Type} (n : Nat) : LOrc ρ := lorcCons 0 (loopL 42 0 n T_sl_DeleteFunc_api_Bag_C_bag_Gather_2_s0 X_sl_DeleteFunc_api_Bag_C_bag_Gather_2_s0 R_sl_DeleteFunc_api_Bag_C_bag_Gather_2_s0 ⟨[], [], []⟩ (sl_DeleteFunc_api_Bag_C_bag_Gather_2_s0 n)) (lorcNil)
omit [Tabs] [QuietD Tryd.prog] [UDef] [UTabs] in
theorem e_sl_DeleteFunc_api_Bag_C_bag_Gather_2 (n : Nat) (x) : evF Tryd.prog 42 TT M_sl_DeleteFunc_api_Bag_C_bag_Gather_2 F_sl_DeleteFunc_api_Bag_C_bag_Gather_2 (O_sl_DeleteFunc_api_Bag_C_bag_Gather_2 n) (L_sl_DeleteFunc_api_Bag_C_bag_Gather_2 n) dorcNil ⟨[], [], []⟩ [.tmp 4] C_sl_DeleteFunc_api_Bag_C_bag_Gather_2 x = sl_DeleteFunc_api_Bag_C_bag_Gather_2 n x := by kernel_rfl
omit [UDef] [UTabs] in
theorem ok_sl_DeleteFunc_api_Bag_C_bag_Gather_2 (n : Nat) : Contract Tryd.prog 60 F_sl_DeleteFunc_api_Bag_C_bag_Gather_2 (sl_DeleteFunc_api_Bag_C_bag_Gather_2 n) :=
  Contract.of_ev (c := C_sl_DeleteFunc_api_Bag_C_bag_Gather_2) (N := 42) Tryd.func60 (by kernel_rfl) (by kernel_rfl) (by kernel_rfl) (by kernel_rfl) (O_sl_DeleteFunc_api_Bag_C_bag_Gather_2_ok n) dorcNil_ok (.of (l := [(0, (lbody 1000 C_sl_DeleteFunc_api_Bag_C_bag_Gather_2 0))]) (by kernel_rfl) ⟨.head (loopL_sound (O_sl_DeleteFunc_api_Bag_C_bag_Gather_2_ok n) dorcNil_ok (.of (l := []) (by kernel_rfl) trivial) (s_sl_DeleteFunc_api_Bag_C_bag_Gather_2_s0 n)), trivial⟩) (e_sl_DeleteFunc_api_Bag_C_bag_Gather_2 n)

noncomputable def C_bag_Gather : Code := bodyOf Tryd.f27
noncomputable def M_bag_Gather : List (Nat × ArgM) := [(999999999, ⟨[1], [], [], false⟩), (58, ⟨[1000], [], [], false⟩), (60, ⟨[0], [⟨0, 1000000, 32, 2⟩], [], false⟩), (22, ⟨[], [], [5], false⟩), (34, ⟨[], [], [], true⟩)]
instance : DfOk M_bag_Gather := .none rfl
noncomputable def O_bag_Gather {ρ : Type} (n : Nat) : Orc ρ := orcCons 22 F_sl_Clone_C_C_own (sl_Clone_C_C_own) (orcCons 58 F_sl_SortStableFunc_C_C_bag_Gather_1 (sl_SortStableFunc_C_C_bag_Gather_1 n) (orcCons 34 F_bag_Compare (bag_Compare n) (orcCons 51 F_bag_CopyRow (bag_CopyRow n) (orcCons 60 F_sl_DeleteFunc_api_Bag_C_bag_Gather_2 (sl_DeleteFunc_api_Bag_C_bag_Gather_2 n) (orcNil)))))
omit [UDef] [UTabs] in
theorem O_bag_Gather_ok {ρ : Type} (n : Nat) : (O_bag_Gather n : Orc ρ).ok Tryd.prog := orcCons_ok (by kernel_rfl) (ok_sl_Clone_C_C_own) (orcCons_ok (by kernel_rfl) (ok_sl_SortStableFunc_C_C_bag_Gather_1 n) (orcCons_ok (by kernel_rfl) (ok_bag_Compare n) (orcCons_ok (by kernel_rfl) (ok_bag_CopyRow n) (orcCons_ok (by kernel_rfl) (ok_sl_DeleteFunc_api_Bag_C_bag_Gather_2 n) (orcNil_ok)))))
noncomputable def T_bag_Gather_s0 : Tm := ⟨[(3, .own 3)], [(11, (.lst .cnt)), (12, .i64), (13, .i64)], [(3, .arr 32 .cnt)]⟩
noncomputable def X_bag_Gather_s0 : Tm := ⟨[(3, .own 3)], [], [(3, .arr 32 .cnt)]⟩
noncomputable def R_bag_Gather_s0 : Tm := ⟨[], [], []⟩
noncomputable def L_bag_Gather_s0 {ρ : Type} (n : Nat) : LOrc ρ := lorcNil
omit [Tabs] [QuietD Tryd.prog] [UDef] [UTabs] in
theorem s_bag_Gather_s0 {ρ : Type} (n : Nat) (rec : T_bag_Gather_s0.den → Option ρ) kx kr s : dStep Tryd.prog 55 TT M_bag_Gather (O_bag_Gather n) (L_bag_Gather_s0 n) (evDraw Tryd.prog 55 TT M_bag_Gather (O_bag_Gather n)) 0 (lbody 1000 C_bag_Gather 0) T_bag_Gather_s0 X_bag_Gather_s0 R_bag_Gather_s0 ⟨[8], [(3, 3, 32, 2)], []⟩ rec kx kr s = bag_Gather_s0 n rec kx kr s := by kernel_rfl
noncomputable def L_bag_Gather {ρ : Type} (n : Nat) : LOrc ρ := lorcCons 0 (loopL 55 0 n T_bag_Gather_s0 X_bag_Gather_s0 R_bag_Gather_s0 ⟨[8], [(3, 3, 32, 2)], []⟩ (bag_Gather_s0 n)) (lorcNil)
omit [Tabs] [QuietD Tryd.prog] [UDef] [UTabs] in
theorem e_bag_Gather (n : Nat) (x) : evF Tryd.prog 55 TT M_bag_Gather F_bag_Gather (O_bag_Gather n) (L_bag_Gather n) (evDraw Tryd.prog 55 TT M_bag_Gather (O_bag_Gather n)) ⟨[], [], []⟩ [.tmp 2] C_bag_Gather x = bag_Gather n x := by kernel_rfl
omit [UDef] [UTabs] in
theorem ok_bag_Gather (n : Nat) : Contract Tryd.prog 27 F_bag_Gather (bag_Gather n) :=
  Contract.of_ev (c := C_bag_Gather) (N := 55) Tryd.func27 (by kernel_rfl) (by kernel_rfl) (by kernel_rfl) (by kernel_rfl) (O_bag_Gather_ok n) (evDraw_ok (O_bag_Gather_ok n) (by kernel_rfl)) (.of (l := [(0, (lbody 1000 C_bag_Gather 0))]) (by kernel_rfl) ⟨.head (loopL_sound (O_bag_Gather_ok n) (evDraw_ok (O_bag_Gather_ok n) (by kernel_rfl)) (.of (l := []) (by kernel_rfl) trivial) (s_bag_Gather_s0 n)), trivial⟩) (e_bag_Gather n)

noncomputable def C_bag_Join_1 : Code := bodyOf Tryd.f33
noncomputable def M_bag_Join_1 : List (Nat × ArgM) := [(34, ⟨[], [], [], true⟩), (35, ⟨[], [], [], true⟩), (37, ⟨[], [], [], true⟩)]
instance : DfOk M_bag_Join_1 := .none rfl
noncomputable def O_bag_Join_1 {ρ : Type} (n : Nat) : Orc ρ := orcCons 34 F_bag_Compare (bag_Compare n) (orcCons 35 F_sl_ContainsFunc_W_V_bag_Join_1_1 (sl_ContainsFunc_W_V_bag_Join_1_1 n) (orcCons 37 F_bag_size (bag_size) (orcCons 17 F_sl_Concat_W_V (sl_Concat_W_V n) (orcCons 27 F_bag_Gather (bag_Gather n) (orcNil)))))
omit [UDef] [UTabs] in
theorem O_bag_Join_1_ok {ρ : Type} (n : Nat) : (O_bag_Join_1 n : Orc ρ).ok Tryd.prog := orcCons_ok (by kernel_rfl) (ok_bag_Compare n) (orcCons_ok (by kernel_rfl) (ok_sl_ContainsFunc_W_V_bag_Join_1_1 n) (orcCons_ok (by kernel_rfl) (ok_bag_size) (orcCons_ok (by kernel_rfl) (ok_sl_Concat_W_V n) (orcCons_ok (by kernel_rfl) (ok_bag_Gather n) (orcNil_ok)))))
noncomputable def T_bag_Join_1_s2 : Tm := ⟨[(1, .ptr 1000016 0), (2, .ptr 1000032 0), (3, .ptr 1000048 0), (5, .own 5), (7, .ptr 7 0)], [(11, (.lst .cnt)), (12, .i64), (13, .i64), (17, (.lst .cnt)), (18, .i64), (19, .i64)], [(5, .arr 32 .cnt), (7, .box [.d .cnt]), (1000000, .box [.d (.lst .cnt)]), (1000016, .box [.d (.lst .cnt)]), (1000032, .box [.d .i64]), (1000048, .box [.d .bool])]⟩
noncomputable def X_bag_Join_1_s2 : Tm := ⟨[(1, .ptr 1000016 0), (2, .ptr 1000032 0), (3, .ptr 1000048 0), (5, .own 5)], [(11, (.lst .cnt)), (12, .i64), (13, .i64)], [(5, .arr 32 .cnt), (1000000, .box [.d (.lst .cnt)]), (1000016, .box [.d (.lst .cnt)]), (1000032, .box [.d .i64]), (1000048, .box [.d .bool])]⟩
noncomputable def R_bag_Join_1_s2 : Tm := ⟨[], [(4, (.lst .cnt))], [(1000000, .box [.d (.lst .cnt)]), (1000016, .box [.d (.lst .cnt)]), (1000032, .box [.d .i64]), (1000048, .box [.d .bool])]⟩
noncomputable def L_bag_Join_1_s2 {ρ : Type} (n : Nat) : LOrc ρ := lorcNil
omit [Tabs] [QuietD Tryd.prog] [UDef] [UTabs] in
theorem s_bag_Join_1_s2 {ρ : Type} (n : Nat) (rec : T_bag_Join_1_s2.den → Option ρ) kx kr s : dStep Tryd.prog 71 TT M_bag_Join_1 (O_bag_Join_1 n) (L_bag_Join_1_s2 n) (evDraw Tryd.prog 71 TT M_bag_Join_1 (O_bag_Join_1 n)) 2 (lbody 0 (lbody 1000 C_bag_Join_1 0) 0) T_bag_Join_1_s2 X_bag_Join_1_s2 R_bag_Join_1_s2 ⟨[], [(5, 5, 32, 2)], []⟩ rec kx kr s = bag_Join_1_s2 n rec kx kr s := by kernel_rfl
noncomputable def T_bag_Join_1_s0 : Tm := ⟨[(1, .ptr 1000016 0), (2, .ptr 1000032 0), (3, .ptr 1000048 0), (5, .own 5)], [(11, (.lst .cnt)), (12, .i64), (13, .i64)], [(5, .arr 32 .cnt), (1000000, .box [.d (.lst .cnt)]), (1000016, .box [.d (.lst .cnt)]), (1000032, .box [.d .i64]), (1000048, .box [.d .bool])]⟩
noncomputable def X_bag_Join_1_s0 : Tm := ⟨[(5, .own 5)], [], [(5, .arr 32 .cnt), (1000000, .box [.d (.lst .cnt)]), (1000016, .box [.d (.lst .cnt)]), (1000032, .box [.d .i64]), (1000048, .box [.d .bool])]⟩
noncomputable def R_bag_Join_1_s0 : Tm := ⟨[], [(4, (.lst .cnt))], [(1000000, .box [.d (.lst .cnt)]), (1000016, .box [.d (.lst .cnt)]), (1000032, .box [.d .i64]), (1000048, .box [.d .bool])]⟩
noncomputable def L_bag_Join_1_s0 {ρ : Type} (n : Nat) : LOrc ρ := lorcCons 2 (loopL 71 2 n T_bag_Join_1_s2 X_bag_Join_1_s2 R_bag_Join_1_s2 ⟨[], [(5, 5, 32, 2)], []⟩ (bag_Join_1_s2 n)) (lorcNil)
omit [Tabs] [QuietD Tryd.prog] [UDef] [UTabs] in
theorem s_bag_Join_1_s0 {ρ : Type} (n : Nat) (rec : T_bag_Join_1_s0.den → Option ρ) kx kr s : dStep Tryd.prog 71 TT M_bag_Join_1 (O_bag_Join_1 n) (L_bag_Join_1_s0 n) (evDraw Tryd.prog 71 TT M_bag_Join_1 (O_bag_Join_1 n)) 0 (lbody 1000 C_bag_Join_1 0) T_bag_Join_1_s0 X_bag_Join_1_s0 R_bag_Join_1_s0 ⟨[], [(5, 5, 32, 2)], []⟩ rec kx kr s = bag_Join_1_s0 n rec kx kr s := by kernel_rfl
noncomputable def L_bag_Join_1 {ρ : Type} (n : Nat) : LOrc ρ := lorcCons 0 (loopL 71 0 n T_bag_Join_1_s0 X_bag_Join_1_s0 R_bag_Join_1_s0 ⟨[], [(5, 5, 32, 2)], []⟩ (bag_Join_1_s0 n)) (lorcNil)
omit [Tabs] [QuietD Tryd.prog] [UDef] [UTabs] in
theorem e_bag_Join_1 (n : Nat) (x) : evF Tryd.prog 71 TT M_bag_Join_1 F_bag_Join_1 (O_bag_Join_1 n) (L_bag_Join_1 n) (evDraw Tryd.prog 71 TT M_bag_Join_1 (O_bag_Join_1 n)) ⟨[], [], []⟩ [.tmp 4] C_bag_Join_1 x = bag_Join_1 n x := by kernel_rfl
omit [UDef] [UTabs] in
theorem ok_bag_Join_1 (n : Nat) : Contract Tryd.prog 33 F_bag_Join_1 (bag_Join_1 n) :=
  Contract.of_ev (c := C_bag_Join_1) (N := 71) Tryd.func33 (by kernel_rfl) (by kernel_rfl) (by kernel_rfl) (by kernel_rfl) (O_bag_Join_1_ok n) (evDraw_ok (O_bag_Join_1_ok n) (by kernel_rfl)) (.of (l := [(0, (lbody 1000 C_bag_Join_1 0))]) (by kernel_rfl) ⟨.head (loopL_sound (O_bag_Join_1_ok n) (evDraw_ok (O_bag_Join_1_ok n) (by kernel_rfl)) (.of (l := [(2, (lbody 0 (lbody 1000 C_bag_Join_1 0) 0))]) (by kernel_rfl) ⟨.head (loopL_sound (O_bag_Join_1_ok n) (evDraw_ok (O_bag_Join_1_ok n) (by kernel_rfl)) (.of (l := []) (by kernel_rfl) trivial) (s_bag_Join_1_s2 n)), trivial⟩) (s_bag_Join_1_s0 n)), trivial⟩) (e_bag_Join_1 n)

noncomputable def C_bag_both_bag_Join_1_c : Code := bodyOf Tryd.f32
noncomputable def M_bag_both_bag_Join_1_c : List (Nat × ArgM) := [(33, ⟨[0, 1, 2, 3], [], [], false⟩), (28, ⟨[], [], [], true⟩)]
instance : DfOk M_bag_both_bag_Join_1_c := .none rfl
noncomputable def O_bag_both_bag_Join_1_c {ρ : Type} (n : Nat) : Orc ρ := orcCons 28 F_bag_Check (bag_Check n) (orcCons 33 F_bag_Join_1 (bag_Join_1 n) (orcNil))
omit [UDef] in
theorem O_bag_both_bag_Join_1_c_ok {ρ : Type} (n : Nat) : (O_bag_both_bag_Join_1_c n : Orc ρ).ok Tryd.prog := orcCons_ok (by kernel_rfl) (ok_bag_Check n) (orcCons_ok (by kernel_rfl) (ok_bag_Join_1 n) (orcNil_ok))
noncomputable def T_bag_both_bag_Join_1_c_s0 : Tm := ⟨[(2, .clo 33 [1000000, 1000001, 1000002, 1000003])], [(15, (.two (.lst .cnt))), (16, .i64)], [(1000000, .box [.d (.lst .cnt)]), (1000001, .box [.d (.lst .cnt)]), (1000002, .box [.d .i64]), (1000003, .box [.d .bool])]⟩
noncomputable def X_bag_both_bag_Join_1_c_s0 : Tm := ⟨[(2, .clo 33 [1000000, 1000001, 1000002, 1000003])], [], [(1000000, .box [.d (.lst .cnt)]), (1000001, .box [.d (.lst .cnt)]), (1000002, .box [.d .i64]), (1000003, .box [.d .bool])]⟩
noncomputable def R_bag_both_bag_Join_1_c_s0 : Tm := ⟨[], [(6, (.lst .cnt)), (7, .i64)], [(1000000, .box [.d (.lst .cnt)]), (1000001, .box [.d (.lst .cnt)]), (1000002, .box [.d .i64]), (1000003, .box [.d .bool])]⟩
noncomputable def L_bag_both_bag_Join_1_c_s0 {ρ : Type} (n : Nat) : LOrc ρ := lorcNil
omit [Tabs] [QuietD Tryd.prog] [UDef] [UTabs] in
theorem s_bag_both_bag_Join_1_c_s0 {ρ : Type} (n : Nat) (rec : T_bag_both_bag_Join_1_c_s0.den → Option ρ) kx kr s : dStep Tryd.prog 33 TT M_bag_both_bag_Join_1_c (O_bag_both_bag_Join_1_c n) (L_bag_both_bag_Join_1_c_s0 n) dorcNil 0 (lbody 1000 C_bag_both_bag_Join_1_c 0) T_bag_both_bag_Join_1_c_s0 X_bag_both_bag_Join_1_c_s0 R_bag_both_bag_Join_1_c_s0 ⟨[], [], []⟩ rec kx kr s = bag_both_bag_Join_1_c_s0 n rec kx kr s := by kernel_rfl
noncomputable def L_bag_both_bag_Join_1_c {ρ : Type} (n : Nat) : LOrc ρ := lorcCons 0 (loopL 33 0 n T_bag_both_bag_Join_1_c_s0 X_bag_both_bag_Join_1_c_s0 R_bag_both_bag_Join_1_c_s0 ⟨[], [], []⟩ (bag_both_bag_Join_1_c_s0 n)) (lorcNil)
omit [Tabs] [QuietD Tryd.prog] [UDef] [UTabs] in
theorem e_bag_both_bag_Join_1_c (n : Nat) (x) : evF Tryd.prog 33 TT M_bag_both_bag_Join_1_c F_bag_both_bag_Join_1_c (O_bag_both_bag_Join_1_c n) (L_bag_both_bag_Join_1_c n) dorcNil ⟨[], [], []⟩ [.tmp 6, .tmp 7] C_bag_both_bag_Join_1_c x = bag_both_bag_Join_1_c n x := by kernel_rfl
omit [UDef] in
theorem ok_bag_both_bag_Join_1_c (n : Nat) : Contract Tryd.prog 32 F_bag_both_bag_Join_1_c (bag_both_bag_Join_1_c n) :=
  Contract.of_ev (c := C_bag_both_bag_Join_1_c) (N := 33) Tryd.func32 (by kernel_rfl) (by kernel_rfl) (by kernel_rfl) (by kernel_rfl) (O_bag_both_bag_Join_1_c_ok n) dorcNil_ok (.of (l := [(0, (lbody 1000 C_bag_both_bag_Join_1_c 0))]) (by kernel_rfl) ⟨.head (loopL_sound (O_bag_both_bag_Join_1_c_ok n) dorcNil_ok (.of (l := []) (by kernel_rfl) trivial) (s_bag_both_bag_Join_1_c_s0 n)), trivial⟩) (e_bag_both_bag_Join_1_c n)

noncomputable def C_bag_Join : Code := bodyOf Tryd.f12
noncomputable def M_bag_Join : List (Nat × ArgM) := [(32, ⟨[2], [], [], false⟩)]
instance : DfOk M_bag_Join := .none rfl
noncomputable def O_bag_Join {ρ : Type} (n : Nat) : Orc ρ := orcCons 32 F_bag_both_bag_Join_1_c (bag_both_bag_Join_1_c n) (orcNil)
omit [UDef] in
theorem O_bag_Join_ok {ρ : Type} (n : Nat) : (O_bag_Join n : Orc ρ).ok Tryd.prog := orcCons_ok (by kernel_rfl) (ok_bag_both_bag_Join_1_c n) (orcNil_ok)
noncomputable def T_bag_Join_s2 : Tm := ⟨[(3, .ptr 3 0), (4, .ptr 4 0), (5, .ptr 5 0)], [(23, (.two (.lst .cnt))), (24, .i64), (27, (.lst .cnt)), (28, .i64), (29, .i64)], [(3, .box [.d (.lst .cnt)]), (4, .box [.d (.lst .cnt)]), (5, .box [.d .i64])]⟩
noncomputable def X_bag_Join_s2 : Tm := ⟨[(3, .ptr 3 0), (4, .ptr 4 0), (5, .ptr 5 0)], [(23, (.two (.lst .cnt))), (24, .i64)], [(3, .box [.d (.lst .cnt)]), (4, .box [.d (.lst .cnt)]), (5, .box [.d .i64])]⟩
noncomputable def R_bag_Join_s2 : Tm := ⟨[], [(6, (.lst .cnt)), (7, .i64)], []⟩
noncomputable def L_bag_Join_s2 {ρ : Type} (n : Nat) : LOrc ρ := lorcNil
omit [Tabs] [QuietD Tryd.prog] [UDef] [UTabs] in
theorem s_bag_Join_s2 {ρ : Type} (n : Nat) (rec : T_bag_Join_s2.den → Option ρ) kx kr s : dStep Tryd.prog 56 TT M_bag_Join (O_bag_Join n) (L_bag_Join_s2 n) dorcNil 2 (lbody 0 (lbody 1000 C_bag_Join 0) 0) T_bag_Join_s2 X_bag_Join_s2 R_bag_Join_s2 ⟨[], [], []⟩ rec kx kr s = bag_Join_s2 n rec kx kr s := by kernel_rfl
noncomputable def T_bag_Join_s0 : Tm := ⟨[(3, .ptr 3 0), (4, .ptr 4 0), (5, .ptr 5 0)], [(23, (.two (.lst .cnt))), (24, .i64)], [(3, .box [.d (.lst .cnt)]), (4, .box [.d (.lst .cnt)]), (5, .box [.d .i64])]⟩
noncomputable def X_bag_Join_s0 : Tm := ⟨[(3, .ptr 3 0), (4, .ptr 4 0), (5, .ptr 5 0)], [], [(3, .box [.d (.lst .cnt)]), (4, .box [.d (.lst .cnt)]), (5, .box [.d .i64])]⟩
noncomputable def R_bag_Join_s0 : Tm := ⟨[], [(6, (.lst .cnt)), (7, .i64)], []⟩
noncomputable def L_bag_Join_s0 {ρ : Type} (n : Nat) : LOrc ρ := lorcCons 2 (loopL 56 2 n T_bag_Join_s2 X_bag_Join_s2 R_bag_Join_s2 ⟨[], [], []⟩ (bag_Join_s2 n)) (lorcNil)
omit [Tabs] [QuietD Tryd.prog] [UDef] [UTabs] in
theorem s_bag_Join_s0 {ρ : Type} (n : Nat) (rec : T_bag_Join_s0.den → Option ρ) kx kr s : dStep Tryd.prog 56 TT M_bag_Join (O_bag_Join n) (L_bag_Join_s0 n) dorcNil 0 (lbody 1000 C_bag_Join 0) T_bag_Join_s0 X_bag_Join_s0 R_bag_Join_s0 ⟨[], [], []⟩ rec kx kr s = bag_Join_s0 n rec kx kr s := by kernel_rfl
noncomputable def L_bag_Join {ρ : Type} (n : Nat) : LOrc ρ := lorcCons 0 (loopL 56 0 n T_bag_Join_s0 X_bag_Join_s0 R_bag_Join_s0 ⟨[], [], []⟩ (bag_Join_s0 n)) (lorcNil)
omit [Tabs] [QuietD Tryd.prog] [UDef] [UTabs] in
theorem e_bag_Join (n : Nat) (x) : evF Tryd.prog 56 TT M_bag_Join F_bag_Join (O_bag_Join n) (L_bag_Join n) dorcNil ⟨[], [], []⟩ [.tmp 6, .tmp 7] C_bag_Join x = bag_Join n x := by kernel_rfl
omit [UDef] in
theorem ok_bag_Join (n : Nat) : Contract Tryd.prog 12 F_bag_Join (bag_Join n) :=
  Contract.of_ev (c := C_bag_Join) (N := 56) Tryd.func12 (by kernel_rfl) (by kernel_rfl) (by kernel_rfl) (by kernel_rfl) (O_bag_Join_ok n) dorcNil_ok (.of (l := [(0, (lbody 1000 C_bag_Join 0))]) (by kernel_rfl) ⟨.head (loopL_sound (O_bag_Join_ok n) dorcNil_ok (.of (l := [(2, (lbody 0 (lbody 1000 C_bag_Join 0) 0))]) (by kernel_rfl) ⟨.head (loopL_sound (O_bag_Join_ok n) dorcNil_ok (.of (l := []) (by kernel_rfl) trivial) (s_bag_Join_s2 n)), trivial⟩) (s_bag_Join_s0 n)), trivial⟩) (e_bag_Join n)

noncomputable def F_eR_CheckBag : FnT := ⟨1, ⟨[], [(0, (.lst .cnt))], []⟩, [.v .i64], []⟩
noncomputable def F_eR_CheckValue : FnT := ⟨2, ⟨[], [(0, .val), (1, .i64)], []⟩, [.v .i64], []⟩
noncomputable def C_eR_CheckValue : Code := bodyOf Tryd.f38
noncomputable def M_eR_CheckValue : List (Nat × ArgM) := [(38, ⟨[], [], [], true⟩), (70, ⟨[], [], [], true⟩)]
instance : DfOk M_eR_CheckValue := .none rfl
noncomputable def O_eR_CheckValue {ρ : Type} (self_eR_CheckValue : Ev.Val × Int × Unit → Option (Int × Unit)) (n : Nat) : Orc ρ := orcCons 38 F_eR_CheckValue (self_eR_CheckValue) (orcCons 70 F_valid (validN) (orcNil))
omit [QuietD Tryd.prog] [UDef] in
theorem O_eR_CheckValue_ok {ρ : Type} (self_eR_CheckValue : Ev.Val × Int × Unit → Option (Int × Unit)) (h_eR_CheckValue : Contract Tryd.prog 38 F_eR_CheckValue self_eR_CheckValue) (n : Nat) : (O_eR_CheckValue self_eR_CheckValue n : Orc ρ).ok Tryd.prog := orcCons_ok (by kernel_rfl) (h_eR_CheckValue) (orcCons_ok (by kernel_rfl) (validN_ok) (orcNil_ok))
noncomputable def T_eR_CheckValue_s1 : Tm := ⟨[], [(1, .i64), (5, .bool), (6, .bool), (34, (.lst .val)), (35, .i64), (36, .i64)], []⟩
noncomputable def X_eR_CheckValue_s1 : Tm := ⟨[], [(5, .bool), (6, .bool)], []⟩
noncomputable def R_eR_CheckValue_s1 : Tm := ⟨[], [(4, .i64)], []⟩
noncomputable def L_eR_CheckValue_s1 {ρ : Type} (self_eR_CheckValue : Ev.Val × Int × Unit → Option (Int × Unit)) (n : Nat) : LOrc ρ := lorcNil
omit [Tabs] [QuietD Tryd.prog] [UDef] [UTabs] in
theorem s_eR_CheckValue_s1 {ρ : Type} (self_eR_CheckValue : Ev.Val × Int × Unit → Option (Int × Unit)) (n : Nat) (rec : T_eR_CheckValue_s1.den → Option ρ) kx kr s : dStep Tryd.prog 96 TT M_eR_CheckValue (O_eR_CheckValue self_eR_CheckValue n) (L_eR_CheckValue_s1 self_eR_CheckValue n) (evDraw Tryd.prog 96 TT M_eR_CheckValue (O_eR_CheckValue self_eR_CheckValue n)) 1 (lbody 1000 C_eR_CheckValue 0) T_eR_CheckValue_s1 X_eR_CheckValue_s1 R_eR_CheckValue_s1 ⟨[], [], []⟩ rec kx kr s = eR_CheckValue_s1 self_eR_CheckValue n rec kx kr s := by kernel_rfl
noncomputable def L_eR_CheckValue {ρ : Type} (self_eR_CheckValue : Ev.Val × Int × Unit → Option (Int × Unit)) (n : Nat) : LOrc ρ := lorcCons 1 (loopL 96 1 n T_eR_CheckValue_s1 X_eR_CheckValue_s1 R_eR_CheckValue_s1 ⟨[], [], []⟩ (eR_CheckValue_s1 self_eR_CheckValue n)) (lorcNil)
omit [Tabs] [QuietD Tryd.prog] [UDef] [UTabs] in
theorem e_eR_CheckValue (self_eR_CheckValue : Ev.Val × Int × Unit → Option (Int × Unit)) (n : Nat) (x) : evF Tryd.prog 96 TT M_eR_CheckValue F_eR_CheckValue (O_eR_CheckValue self_eR_CheckValue n) (L_eR_CheckValue self_eR_CheckValue n) (evDraw Tryd.prog 96 TT M_eR_CheckValue (O_eR_CheckValue self_eR_CheckValue n)) ⟨[], [], []⟩ [.tmp 4] C_eR_CheckValue x = eR_CheckValue_b self_eR_CheckValue n x := by kernel_rfl
omit [UDef] in
theorem okb_eR_CheckValue (self_eR_CheckValue : Ev.Val × Int × Unit → Option (Int × Unit)) (h_eR_CheckValue : Contract Tryd.prog 38 F_eR_CheckValue self_eR_CheckValue) (n : Nat) : Contract Tryd.prog 38 F_eR_CheckValue (eR_CheckValue_b self_eR_CheckValue n) :=
  Contract.of_ev (c := C_eR_CheckValue) (N := 96) Tryd.func38 (by kernel_rfl) (by kernel_rfl) (by kernel_rfl) (by kernel_rfl) (O_eR_CheckValue_ok self_eR_CheckValue h_eR_CheckValue n) (evDraw_ok (O_eR_CheckValue_ok self_eR_CheckValue h_eR_CheckValue n) (by kernel_rfl)) (.of (l := [(1, (lbody 1000 C_eR_CheckValue 0))]) (by kernel_rfl) ⟨.head (loopL_sound (O_eR_CheckValue_ok self_eR_CheckValue h_eR_CheckValue n) (evDraw_ok (O_eR_CheckValue_ok self_eR_CheckValue h_eR_CheckValue n) (by kernel_rfl)) (.of (l := []) (by kernel_rfl) trivial) (s_eR_CheckValue_s1 self_eR_CheckValue n)), trivial⟩) (e_eR_CheckValue self_eR_CheckValue n)
omit [UDef] in
theorem ok_eR_CheckValue : ∀ n, Contract Tryd.prog 38 F_eR_CheckValue (eR_CheckValue n)
  | 0 => fun _ _ h => by cases h
  | n + 1 => okb_eR_CheckValue _ (ok_eR_CheckValue n) n

noncomputable def F_eR_CompareRows : FnT := ⟨2, ⟨[], [(0, (.lst .val)), (1, (.lst .val))], []⟩, [.v .i64], []⟩
noncomputable def F_eR_OrderOf : FnT := ⟨2, ⟨[], [(0, .val), (1, .val)], []⟩, [.v .i64], []⟩
noncomputable def F_bytes_Compare : FnT := ⟨2, ⟨[], [(0, (.lst .u8)), (1, (.lst .u8))], []⟩, [.v .i64], []⟩
noncomputable def C_bytes_Compare : Code := bodyOf Tryd.f71
noncomputable def M_bytes_Compare : List (Nat × ArgM) := []
instance : DfOk M_bytes_Compare := .none rfl
noncomputable def O_bytes_Compare {ρ : Type} : Orc ρ := orcCons 100 T_cmpB (cmpN) (orcNil)
omit [QuietD Tryd.prog] [UDef] [UTabs] in
theorem O_bytes_Compare_ok {ρ : Type} : (O_bytes_Compare : Orc ρ).ok Tryd.prog := orcExt_ok (by kernel_rfl) (cmp_ok) (orcNil_ok)
noncomputable def L_bytes_Compare {ρ : Type} : LOrc ρ := lorcNil
omit [Tabs] [QuietD Tryd.prog] [UDef] [UTabs] in
theorem e_bytes_Compare (x) : evF Tryd.prog 8 TT M_bytes_Compare F_bytes_Compare (O_bytes_Compare) (L_bytes_Compare) dorcNil ⟨[], [], []⟩ [.tmp 4] C_bytes_Compare x = bytes_Compare x := by kernel_rfl
omit [UDef] [UTabs] in
theorem ok_bytes_Compare : Contract Tryd.prog 71 F_bytes_Compare (bytes_Compare) :=
  Contract.of_ev (c := C_bytes_Compare) (N := 8) Tryd.func71 (by kernel_rfl) (by kernel_rfl) (by kernel_rfl) (by kernel_rfl) (O_bytes_Compare_ok) dorcNil_ok (.of (l := []) (by kernel_rfl) trivial) (e_bytes_Compare)

noncomputable def C_eR_OrderOf : Code := bodyOf Tryd.f39
noncomputable def M_eR_OrderOf : List (Nat × ArgM) := [(71, ⟨[], [], [], true⟩), (39, ⟨[], [], [], true⟩)]
instance : DfOk M_eR_OrderOf := .none rfl
noncomputable def O_eR_OrderOf {ρ : Type} (self_eR_OrderOf : Ev.Val × Ev.Val × Unit → Option (Int × Unit)) (n : Nat) : Orc ρ := orcCons 71 F_bytes_Compare (bytes_Compare) (orcCons 39 F_eR_OrderOf (self_eR_OrderOf) (orcNil))
omit [UDef] [UTabs] in
theorem O_eR_OrderOf_ok {ρ : Type} (self_eR_OrderOf : Ev.Val × Ev.Val × Unit → Option (Int × Unit)) (h_eR_OrderOf : Contract Tryd.prog 39 F_eR_OrderOf self_eR_OrderOf) (n : Nat) : (O_eR_OrderOf self_eR_OrderOf n : Orc ρ).ok Tryd.prog := orcCons_ok (by kernel_rfl) (ok_bytes_Compare) (orcCons_ok (by kernel_rfl) (h_eR_OrderOf) (orcNil_ok))
noncomputable def T_eR_OrderOf_s1 : Tm := ⟨[(2, .ptr 2 0), (3, .ptr 3 0)], [(5, .i64)], [(2, .box [.d .val]), (3, .box [.d .val])]⟩
noncomputable def X_eR_OrderOf_s1 : Tm := ⟨[(2, .ptr 2 0), (3, .ptr 3 0)], [], [(2, .box [.d .val]), (3, .box [.d .val])]⟩
noncomputable def R_eR_OrderOf_s1 : Tm := ⟨[], [(4, .i64)], []⟩
noncomputable def L_eR_OrderOf_s1 {ρ : Type} (self_eR_OrderOf : Ev.Val × Ev.Val × Unit → Option (Int × Unit)) (n : Nat) : LOrc ρ := lorcNil
omit [Tabs] [QuietD Tryd.prog] [UDef] [UTabs] in
theorem s_eR_OrderOf_s1 {ρ : Type} (self_eR_OrderOf : Ev.Val × Ev.Val × Unit → Option (Int × Unit)) (n : Nat) (rec : T_eR_OrderOf_s1.den → Option ρ) kx kr s : dStep Tryd.prog 88 TT M_eR_OrderOf (O_eR_OrderOf self_eR_OrderOf n) (L_eR_OrderOf_s1 self_eR_OrderOf n) (evDraw Tryd.prog 88 TT M_eR_OrderOf (O_eR_OrderOf self_eR_OrderOf n)) 1 (lbody 1000 C_eR_OrderOf 0) T_eR_OrderOf_s1 X_eR_OrderOf_s1 R_eR_OrderOf_s1 ⟨[], [], []⟩ rec kx kr s = eR_OrderOf_s1 self_eR_OrderOf n rec kx kr s := by kernel_rfl
noncomputable def L_eR_OrderOf {ρ : Type} (self_eR_OrderOf : Ev.Val × Ev.Val × Unit → Option (Int × Unit)) (n : Nat) : LOrc ρ := lorcCons 1 (loopL 88 1 n T_eR_OrderOf_s1 X_eR_OrderOf_s1 R_eR_OrderOf_s1 ⟨[], [], []⟩ (eR_OrderOf_s1 self_eR_OrderOf n)) (lorcNil)
omit [Tabs] [QuietD Tryd.prog] [UDef] [UTabs] in
theorem e_eR_OrderOf (self_eR_OrderOf : Ev.Val × Ev.Val × Unit → Option (Int × Unit)) (n : Nat) (x) : evF Tryd.prog 88 TT M_eR_OrderOf F_eR_OrderOf (O_eR_OrderOf self_eR_OrderOf n) (L_eR_OrderOf self_eR_OrderOf n) (evDraw Tryd.prog 88 TT M_eR_OrderOf (O_eR_OrderOf self_eR_OrderOf n)) ⟨[], [], []⟩ [.tmp 4] C_eR_OrderOf x = eR_OrderOf_b self_eR_OrderOf n x := by kernel_rfl
omit [UDef] [UTabs] in
theorem okb_eR_OrderOf (self_eR_OrderOf : Ev.Val × Ev.Val × Unit → Option (Int × Unit)) (h_eR_OrderOf : Contract Tryd.prog 39 F_eR_OrderOf self_eR_OrderOf) (n : Nat) : Contract Tryd.prog 39 F_eR_OrderOf (eR_OrderOf_b self_eR_OrderOf n) :=
  Contract.of_ev (c := C_eR_OrderOf) (N := 88) Tryd.func39 (by kernel_rfl) (by kernel_rfl) (by kernel_rfl) (by kernel_rfl) (O_eR_OrderOf_ok self_eR_OrderOf h_eR_OrderOf n) (evDraw_ok (O_eR_OrderOf_ok self_eR_OrderOf h_eR_OrderOf n) (by kernel_rfl)) (.of (l := [(1, (lbody 1000 C_eR_OrderOf 0))]) (by kernel_rfl) ⟨.head (loopL_sound (O_eR_OrderOf_ok self_eR_OrderOf h_eR_OrderOf n) (evDraw_ok (O_eR_OrderOf_ok self_eR_OrderOf h_eR_OrderOf n) (by kernel_rfl)) (.of (l := []) (by kernel_rfl) trivial) (s_eR_OrderOf_s1 self_eR_OrderOf n)), trivial⟩) (e_eR_OrderOf self_eR_OrderOf n)
omit [UDef] [UTabs] in
theorem ok_eR_OrderOf : ∀ n, Contract Tryd.prog 39 F_eR_OrderOf (eR_OrderOf n)
  | 0 => fun _ _ h => by cases h
  | n + 1 => okb_eR_OrderOf _ (ok_eR_OrderOf n) n

noncomputable def C_eR_CompareRows : Code := bodyOf Tryd.f31
noncomputable def M_eR_CompareRows : List (Nat × ArgM) := [(39, ⟨[], [], [], true⟩)]
instance : DfOk M_eR_CompareRows := .none rfl
noncomputable def O_eR_CompareRows {ρ : Type} (n : Nat) : Orc ρ := orcCons 39 F_eR_OrderOf (eR_OrderOf n) (orcNil)
omit [UDef] [UTabs] in
theorem O_eR_CompareRows_ok {ρ : Type} (n : Nat) : (O_eR_CompareRows n : Orc ρ).ok Tryd.prog := orcCons_ok (by kernel_rfl) (ok_eR_OrderOf n) (orcNil_ok)
noncomputable def L_eR_CompareRows {ρ : Type} (n : Nat) : LOrc ρ := lorcNil
omit [Tabs] [QuietD Tryd.prog] [UDef] [UTabs] in
theorem e_eR_CompareRows (n : Nat) (x) : evF Tryd.prog 10 TT M_eR_CompareRows F_eR_CompareRows (O_eR_CompareRows n) (L_eR_CompareRows n) dorcNil ⟨[], [], []⟩ [.tmp 4] C_eR_CompareRows x = eR_CompareRows n x := by kernel_rfl
omit [UDef] [UTabs] in
theorem ok_eR_CompareRows (n : Nat) : Contract Tryd.prog 31 F_eR_CompareRows (eR_CompareRows n) :=
  Contract.of_ev (c := C_eR_CompareRows) (N := 10) Tryd.func31 (by kernel_rfl) (by kernel_rfl) (by kernel_rfl) (by kernel_rfl) (O_eR_CompareRows_ok n) dorcNil_ok (.of (l := []) (by kernel_rfl) trivial) (e_eR_CompareRows n)

noncomputable def C_eR_CheckBag : Code := bodyOf Tryd.f13
noncomputable def M_eR_CheckBag : List (Nat × ArgM) := [(38, ⟨[], [], [], true⟩), (31, ⟨[], [], [], true⟩)]
instance : DfOk M_eR_CheckBag := .none rfl
noncomputable def O_eR_CheckBag {ρ : Type} (n : Nat) : Orc ρ := orcCons 38 F_eR_CheckValue (eR_CheckValue n) (orcCons 31 F_eR_CompareRows (eR_CompareRows n) (orcNil))
omit [UDef] in
theorem O_eR_CheckBag_ok {ρ : Type} (n : Nat) : (O_eR_CheckBag n : Orc ρ).ok Tryd.prog := orcCons_ok (by kernel_rfl) (ok_eR_CheckValue n) (orcCons_ok (by kernel_rfl) (ok_eR_CompareRows n) (orcNil_ok))
noncomputable def T_eR_CheckBag_s2 : Tm := ⟨[(4, .ptr 4 0)], [(0, (.lst .cnt)), (3, .i64), (11, (.lst .cnt)), (12, .i64), (13, .i64), (23, (.lst .val)), (24, .i64), (25, .i64)], [(4, .box [.d .cnt])]⟩
noncomputable def X_eR_CheckBag_s2 : Tm := ⟨[(4, .ptr 4 0)], [(0, (.lst .cnt)), (3, .i64), (11, (.lst .cnt)), (12, .i64), (13, .i64)], [(4, .box [.d .cnt])]⟩
noncomputable def R_eR_CheckBag_s2 : Tm := ⟨[], [(2, .i64)], []⟩
noncomputable def L_eR_CheckBag_s2 {ρ : Type} (n : Nat) : LOrc ρ := lorcNil
omit [Tabs] [QuietD Tryd.prog] [UDef] [UTabs] in
theorem s_eR_CheckBag_s2 {ρ : Type} (n : Nat) (rec : T_eR_CheckBag_s2.den → Option ρ) kx kr s : dStep Tryd.prog 63 TT M_eR_CheckBag (O_eR_CheckBag n) (L_eR_CheckBag_s2 n) (evDraw Tryd.prog 63 TT M_eR_CheckBag (O_eR_CheckBag n)) 2 (lbody 0 (lbody 1000 C_eR_CheckBag 0) 0) T_eR_CheckBag_s2 X_eR_CheckBag_s2 R_eR_CheckBag_s2 ⟨[], [], []⟩ rec kx kr s = eR_CheckBag_s2 n rec kx kr s := by kernel_rfl
noncomputable def T_eR_CheckBag_s0 : Tm := ⟨[], [(0, (.lst .cnt)), (11, (.lst .cnt)), (12, .i64), (13, .i64)], []⟩
noncomputable def X_eR_CheckBag_s0 : Tm := ⟨[], [], []⟩
noncomputable def R_eR_CheckBag_s0 : Tm := ⟨[], [(2, .i64)], []⟩
noncomputable def L_eR_CheckBag_s0 {ρ : Type} (n : Nat) : LOrc ρ := lorcCons 2 (loopL 63 2 n T_eR_CheckBag_s2 X_eR_CheckBag_s2 R_eR_CheckBag_s2 ⟨[], [], []⟩ (eR_CheckBag_s2 n)) (lorcNil)
omit [Tabs] [QuietD Tryd.prog] [UDef] [UTabs] in
theorem s_eR_CheckBag_s0 {ρ : Type} (n : Nat) (rec : T_eR_CheckBag_s0.den → Option ρ) kx kr s : dStep Tryd.prog 63 TT M_eR_CheckBag (O_eR_CheckBag n) (L_eR_CheckBag_s0 n) (evDraw Tryd.prog 63 TT M_eR_CheckBag (O_eR_CheckBag n)) 0 (lbody 1000 C_eR_CheckBag 0) T_eR_CheckBag_s0 X_eR_CheckBag_s0 R_eR_CheckBag_s0 ⟨[], [], []⟩ rec kx kr s = eR_CheckBag_s0 n rec kx kr s := by kernel_rfl
noncomputable def L_eR_CheckBag {ρ : Type} (n : Nat) : LOrc ρ := lorcCons 0 (loopL 63 0 n T_eR_CheckBag_s0 X_eR_CheckBag_s0 R_eR_CheckBag_s0 ⟨[], [], []⟩ (eR_CheckBag_s0 n)) (lorcNil)
omit [Tabs] [QuietD Tryd.prog] [UDef] [UTabs] in
theorem e_eR_CheckBag (n : Nat) (x) : evF Tryd.prog 63 TT M_eR_CheckBag F_eR_CheckBag (O_eR_CheckBag n) (L_eR_CheckBag n) (evDraw Tryd.prog 63 TT M_eR_CheckBag (O_eR_CheckBag n)) ⟨[], [], []⟩ [.tmp 2] C_eR_CheckBag x = eR_CheckBag n x := by kernel_rfl
omit [UDef] in
theorem ok_eR_CheckBag (n : Nat) : Contract Tryd.prog 13 F_eR_CheckBag (eR_CheckBag n) :=
  Contract.of_ev (c := C_eR_CheckBag) (N := 63) Tryd.func13 (by kernel_rfl) (by kernel_rfl) (by kernel_rfl) (by kernel_rfl) (O_eR_CheckBag_ok n) (evDraw_ok (O_eR_CheckBag_ok n) (by kernel_rfl)) (.of (l := [(0, (lbody 1000 C_eR_CheckBag 0))]) (by kernel_rfl) ⟨.head (loopL_sound (O_eR_CheckBag_ok n) (evDraw_ok (O_eR_CheckBag_ok n) (by kernel_rfl)) (.of (l := [(2, (lbody 0 (lbody 1000 C_eR_CheckBag 0) 0))]) (by kernel_rfl) ⟨.head (loopL_sound (O_eR_CheckBag_ok n) (evDraw_ok (O_eR_CheckBag_ok n) (by kernel_rfl)) (.of (l := []) (by kernel_rfl) trivial) (s_eR_CheckBag_s2 n)), trivial⟩) (s_eR_CheckBag_s0 n)), trivial⟩) (e_eR_CheckBag n)

noncomputable def F_eR_SameValue : FnT := ⟨2, ⟨[], [(0, .val), (1, .val)], []⟩, [.v .bool], []⟩
noncomputable def C_eR_SameValue : Code := bodyOf Tryd.f14
noncomputable def M_eR_SameValue : List (Nat × ArgM) := [(39, ⟨[], [], [], true⟩)]
instance : DfOk M_eR_SameValue := .none rfl
noncomputable def O_eR_SameValue {ρ : Type} (n : Nat) : Orc ρ := orcCons 39 F_eR_OrderOf (eR_OrderOf n) (orcNil)
omit [UDef] [UTabs] in
theorem O_eR_SameValue_ok {ρ : Type} (n : Nat) : (O_eR_SameValue n : Orc ρ).ok Tryd.prog := orcCons_ok (by kernel_rfl) (ok_eR_OrderOf n) (orcNil_ok)
noncomputable def L_eR_SameValue {ρ : Type} (n : Nat) : LOrc ρ := lorcNil
omit [Tabs] [QuietD Tryd.prog] [UDef] [UTabs] in
theorem e_eR_SameValue (n : Nat) (x) : evF Tryd.prog 9 TT M_eR_SameValue F_eR_SameValue (O_eR_SameValue n) (L_eR_SameValue n) dorcNil ⟨[], [], []⟩ [.tmp 4] C_eR_SameValue x = eR_SameValue n x := by kernel_rfl
omit [UDef] [UTabs] in
theorem ok_eR_SameValue (n : Nat) : Contract Tryd.prog 14 F_eR_SameValue (eR_SameValue n) :=
  Contract.of_ev (c := C_eR_SameValue) (N := 9) Tryd.func14 (by kernel_rfl) (by kernel_rfl) (by kernel_rfl) (by kernel_rfl) (O_eR_SameValue_ok n) dorcNil_ok (.of (l := []) (by kernel_rfl) trivial) (e_eR_SameValue n)

noncomputable def F_eL_num : FnT := ⟨1, ⟨[], [(0, .i64)], []⟩, [.v .val], []⟩
noncomputable def C_eL_num : Code := bodyOf Tryd.f16
noncomputable def M_eL_num : List (Nat × ArgM) := []
instance : DfOk M_eL_num := .none rfl
noncomputable def O_eL_num {ρ : Type} : Orc ρ := orcNil
omit [QuietD Tryd.prog] [UDef] [UTabs] in
theorem O_eL_num_ok {ρ : Type} : (O_eL_num : Orc ρ).ok Tryd.prog := orcNil_ok
noncomputable def L_eL_num {ρ : Type} : LOrc ρ := lorcNil
omit [Tabs] [QuietD Tryd.prog] [UDef] [UTabs] in
theorem e_eL_num (x) : evF Tryd.prog 5 TT M_eL_num F_eL_num (O_eL_num) (L_eL_num) dorcNil ⟨[], [], []⟩ [.cell 2 40] C_eL_num x = eL_num x := by kernel_rfl
omit [UDef] [UTabs] in
theorem ok_eL_num : Contract Tryd.prog 16 F_eL_num (eL_num) :=
  Contract.of_ev (c := C_eL_num) (N := 5) Tryd.func16 (by kernel_rfl) (by kernel_rfl) (by kernel_rfl) (by kernel_rfl) (O_eL_num_ok) dorcNil_ok (.of (l := []) (by kernel_rfl) trivial) (e_eL_num)

noncomputable def F_eR_ReckonOf : FnT := ⟨3, ⟨[], [(0, .str), (1, .val), (2, .val)], []⟩, [.v .val, .v .i64], []⟩
noncomputable def F_peB_Int_SetInt64 : FnT := ⟨2, ⟨[(0, .ptr 1000000 0)], [(1, .i64)], [(1000000, .box [.d .bool, .d (.lst .u32)])]⟩, [.ref (.ptr 1000000 0)], [(1000000, .box [.d .bool, .d (.lst .u32)])]⟩
noncomputable def F_eB_words : FnT := ⟨1, ⟨[], [(0, .u64)], []⟩, [.v (.lst .u32)], []⟩
noncomputable def F_eB_trim : FnT := ⟨1, ⟨[], [(0, (.lst .u32))], []⟩, [.v (.lst .u32)], []⟩
noncomputable def C_eB_trim : Code := bodyOf Tryd.f105
noncomputable def M_eB_trim : List (Nat × ArgM) := []
instance : DfOk M_eB_trim := .none rfl
noncomputable def O_eB_trim {ρ : Type} (n : Nat) : Orc ρ := orcNil
omit [QuietD Tryd.prog] [UDef] [UTabs] in
theorem O_eB_trim_ok {ρ : Type} (n : Nat) : (O_eB_trim n : Orc ρ).ok Tryd.prog := orcNil_ok
noncomputable def T_eB_trim_s0 : Tm := ⟨[], [(0, (.lst .u32)), (3, .i64)], []⟩
noncomputable def X_eB_trim_s0 : Tm := ⟨[], [(0, (.lst .u32)), (3, .i64)], []⟩
noncomputable def R_eB_trim_s0 : Tm := ⟨[], [], []⟩
noncomputable def L_eB_trim_s0 {ρ : Type} (n : Nat) : LOrc ρ := lorcNil
omit [Tabs] [QuietD Tryd.prog] [UDef] [UTabs] in
theorem s_eB_trim_s0 {ρ : Type} (n : Nat) (rec : T_eB_trim_s0.den → Option ρ) kx kr s : dStep Tryd.prog 21 TT M_eB_trim (O_eB_trim n) (L_eB_trim_s0 n) dorcNil 0 (lbody 1000 C_eB_trim 0) T_eB_trim_s0 X_eB_trim_s0 R_eB_trim_s0 ⟨[], [], []⟩ rec kx kr s = eB_trim_s0 n rec kx kr s := by kernel_rfl
noncomputable def L_eB_trim {ρ : Type} (n : Nat) : LOrc ρ := lorcCons 0 (loopL 21 0 n T_eB_trim_s0 X_eB_trim_s0 R_eB_trim_s0 ⟨[], [], []⟩ (eB_trim_s0 n)) (lorcNil)
omit [Tabs] [QuietD Tryd.prog] [UDef] [UTabs] in
theorem e_eB_trim (n : Nat) (x) : evF Tryd.prog 21 TT M_eB_trim F_eB_trim (O_eB_trim n) (L_eB_trim n) dorcNil ⟨[], [], []⟩ [.tmp 2] C_eB_trim x = eB_trim n x := by kernel_rfl
omit [UDef] [UTabs] in
theorem ok_eB_trim (n : Nat) : Contract Tryd.prog 105 F_eB_trim (eB_trim n) :=
  Contract.of_ev (c := C_eB_trim) (N := 21) Tryd.func105 (by kernel_rfl) (by kernel_rfl) (by kernel_rfl) (by kernel_rfl) (O_eB_trim_ok n) dorcNil_ok (.of (l := [(0, (lbody 1000 C_eB_trim 0))]) (by kernel_rfl) ⟨.head (loopL_sound (O_eB_trim_ok n) dorcNil_ok (.of (l := []) (by kernel_rfl) trivial) (s_eB_trim_s0 n)), trivial⟩) (e_eB_trim n)

noncomputable def C_eB_words : Code := bodyOf Tryd.f101
noncomputable def M_eB_words : List (Nat × ArgM) := []
instance : DfOk M_eB_words := .none rfl
noncomputable def O_eB_words {ρ : Type} (n : Nat) : Orc ρ := orcCons 105 F_eB_trim (eB_trim n) (orcNil)
omit [UDef] [UTabs] in
theorem O_eB_words_ok {ρ : Type} (n : Nat) : (O_eB_words n : Orc ρ).ok Tryd.prog := orcCons_ok (by kernel_rfl) (ok_eB_trim n) (orcNil_ok)
noncomputable def L_eB_words {ρ : Type} (n : Nat) : LOrc ρ := lorcNil
omit [Tabs] [QuietD Tryd.prog] [UDef] [UTabs] in
theorem e_eB_words (n : Nat) (x) : evF Tryd.prog 10 TT M_eB_words F_eB_words (O_eB_words n) (L_eB_words n) dorcNil ⟨[], [], []⟩ [.tmp 2] C_eB_words x = eB_words n x := by kernel_rfl
omit [UDef] [UTabs] in
theorem ok_eB_words (n : Nat) : Contract Tryd.prog 101 F_eB_words (eB_words n) :=
  Contract.of_ev (c := C_eB_words) (N := 10) Tryd.func101 (by kernel_rfl) (by kernel_rfl) (by kernel_rfl) (by kernel_rfl) (O_eB_words_ok n) dorcNil_ok (.of (l := []) (by kernel_rfl) trivial) (e_eB_words n)

noncomputable def F_peB_Int_give : FnT := ⟨3, ⟨[(0, .ptr 1000000 0)], [(1, .bool), (2, (.lst .u32))], [(1000000, .box [.d .bool, .d (.lst .u32)])]⟩, [.ref (.ptr 1000000 0)], [(1000000, .box [.d .bool, .d (.lst .u32)])]⟩
noncomputable def C_peB_Int_give : Code := bodyOf Tryd.f73
noncomputable def M_peB_Int_give : List (Nat × ArgM) := [(999999999, ⟨[1], [], [], false⟩)]
instance : DfOk M_peB_Int_give := .none rfl
noncomputable def O_peB_Int_give {ρ : Type} : Orc ρ := orcNil
omit [QuietD Tryd.prog] [UDef] [UTabs] in
theorem O_peB_Int_give_ok {ρ : Type} : (O_peB_Int_give : Orc ρ).ok Tryd.prog := orcNil_ok
noncomputable def L_peB_Int_give {ρ : Type} : LOrc ρ := lorcNil
omit [Tabs] [QuietD Tryd.prog] [UDef] [UTabs] in
theorem e_peB_Int_give (x) : evF Tryd.prog 21 TT M_peB_Int_give F_peB_Int_give (O_peB_Int_give) (L_peB_Int_give) dorcNil ⟨[], [], []⟩ [.tmp 6] C_peB_Int_give x = peB_Int_give x := by kernel_rfl
omit [UDef] [UTabs] in
theorem ok_peB_Int_give : Contract Tryd.prog 73 F_peB_Int_give (peB_Int_give) :=
  Contract.of_ev (c := C_peB_Int_give) (N := 21) Tryd.func73 (by kernel_rfl) (by kernel_rfl) (by kernel_rfl) (by kernel_rfl) (O_peB_Int_give_ok) dorcNil_ok (.of (l := []) (by kernel_rfl) trivial) (e_peB_Int_give)

noncomputable def C_peB_Int_SetInt64 : Code := bodyOf Tryd.f72
noncomputable def M_peB_Int_SetInt64 : List (Nat × ArgM) := [(999999999, ⟨[1], [], [], false⟩), (73, ⟨[0], [], [], false⟩)]
instance : DfOk M_peB_Int_SetInt64 := .none rfl
noncomputable def O_peB_Int_SetInt64 {ρ : Type} (n : Nat) : Orc ρ := orcCons 101 F_eB_words (eB_words n) (orcCons 73 F_peB_Int_give (peB_Int_give) (orcNil))
omit [UDef] [UTabs] in
theorem O_peB_Int_SetInt64_ok {ρ : Type} (n : Nat) : (O_peB_Int_SetInt64 n : Orc ρ).ok Tryd.prog := orcCons_ok (by kernel_rfl) (ok_eB_words n) (orcCons_ok (by kernel_rfl) (ok_peB_Int_give) (orcNil_ok))
noncomputable def L_peB_Int_SetInt64 {ρ : Type} (n : Nat) : LOrc ρ := lorcNil
omit [Tabs] [QuietD Tryd.prog] [UDef] [UTabs] in
theorem e_peB_Int_SetInt64 (n : Nat) (x) : evF Tryd.prog 18 TT M_peB_Int_SetInt64 F_peB_Int_SetInt64 (O_peB_Int_SetInt64 n) (L_peB_Int_SetInt64 n) dorcNil ⟨[], [], []⟩ [.tmp 4] C_peB_Int_SetInt64 x = peB_Int_SetInt64 n x := by kernel_rfl
omit [UDef] [UTabs] in
theorem ok_peB_Int_SetInt64 (n : Nat) : Contract Tryd.prog 72 F_peB_Int_SetInt64 (peB_Int_SetInt64 n) :=
  Contract.of_ev (c := C_peB_Int_SetInt64) (N := 18) Tryd.func72 (by kernel_rfl) (by kernel_rfl) (by kernel_rfl) (by kernel_rfl) (O_peB_Int_SetInt64_ok n) dorcNil_ok (.of (l := []) (by kernel_rfl) trivial) (e_peB_Int_SetInt64 n)

noncomputable def F_eB_NewInt : FnT := ⟨1, ⟨[], [(0, .i64)], []⟩, [.ref (.ptr 3 0)], [(3, .box [.d .bool, .d (.lst .u32)])]⟩
noncomputable def C_eB_NewInt : Code := bodyOf Tryd.f40
noncomputable def M_eB_NewInt : List (Nat × ArgM) := [(999999999, ⟨[1], [], [], false⟩), (72, ⟨[0], [], [], false⟩)]
instance : DfOk M_eB_NewInt := .none rfl
noncomputable def O_eB_NewInt {ρ : Type} (n : Nat) : Orc ρ := orcCons 72 F_peB_Int_SetInt64 (peB_Int_SetInt64 n) (orcNil)
omit [UDef] [UTabs] in
theorem O_eB_NewInt_ok {ρ : Type} (n : Nat) : (O_eB_NewInt n : Orc ρ).ok Tryd.prog := orcCons_ok (by kernel_rfl) (ok_peB_Int_SetInt64 n) (orcNil_ok)
noncomputable def L_eB_NewInt {ρ : Type} (n : Nat) : LOrc ρ := lorcNil
omit [Tabs] [QuietD Tryd.prog] [UDef] [UTabs] in
theorem e_eB_NewInt (n : Nat) (x) : evF Tryd.prog 6 TT M_eB_NewInt F_eB_NewInt (O_eB_NewInt n) (L_eB_NewInt n) dorcNil ⟨[], [], []⟩ [.tmp 2] C_eB_NewInt x = eB_NewInt n x := by kernel_rfl
omit [UDef] [UTabs] in
theorem ok_eB_NewInt (n : Nat) : Contract Tryd.prog 40 F_eB_NewInt (eB_NewInt n) :=
  Contract.of_ev (c := C_eB_NewInt) (N := 6) Tryd.func40 (by kernel_rfl) (by kernel_rfl) (by kernel_rfl) (by kernel_rfl) (O_eB_NewInt_ok n) dorcNil_ok (.of (l := []) (by kernel_rfl) trivial) (e_eB_NewInt n)

noncomputable def F_peB_Int_Add : FnT := ⟨3, ⟨[(0, .ptr 1000000 0), (1, .ptr 1000016 0), (2, .ptr 1000032 0)], [], [(1000000, .box [.d .bool, .d (.lst .u32)]), (1000016, .box [.d .bool, .d (.lst .u32)]), (1000032, .box [.d .bool, .d (.lst .u32)])]⟩, [.ref (.ptr 1000000 0)], [(1000000, .box [.d .bool, .d (.lst .u32)]), (1000016, .box [.d .bool, .d (.lst .u32)]), (1000032, .box [.d .bool, .d (.lst .u32)])]⟩
noncomputable def F_eB_sum : FnT := ⟨4, ⟨[], [(0, .bool), (1, (.lst .u32)), (2, .bool), (3, (.lst .u32))], []⟩, [.v .bool, .v (.lst .u32)], []⟩
noncomputable def F_eB_add : FnT := ⟨2, ⟨[], [(0, (.lst .u32)), (1, (.lst .u32))], []⟩, [.v (.lst .u32)], []⟩
noncomputable def C_eB_add : Code := bodyOf Tryd.f102
noncomputable def M_eB_add : List (Nat × ArgM) := [(999999999, ⟨[1], [], [], false⟩)]
instance : DfOk M_eB_add := .none rfl
noncomputable def O_eB_add {ρ : Type} (n : Nat) : Orc ρ := orcCons 105 F_eB_trim (eB_trim n) (orcNil)
omit [UDef] [UTabs] in
theorem O_eB_add_ok {ρ : Type} (n : Nat) : (O_eB_add n : Orc ρ).ok Tryd.prog := orcCons_ok (by kernel_rfl) (ok_eB_trim n) (orcNil_ok)
noncomputable def T_eB_add_s0 : Tm := ⟨[(5, .own 18)], [(0, (.lst .u32)), (1, (.lst .u32)), (6, .u64), (7, .i64)], [(18, .arr 136 .u32)]⟩
noncomputable def X_eB_add_s0 : Tm := ⟨[(5, .own 18)], [(0, (.lst .u32)), (6, .u64)], [(18, .arr 136 .u32)]⟩
noncomputable def R_eB_add_s0 : Tm := ⟨[], [], []⟩
noncomputable def L_eB_add_s0 {ρ : Type} (n : Nat) : LOrc ρ := lorcNil
omit [Tabs] [QuietD Tryd.prog] [UDef] [UTabs] in
theorem s_eB_add_s0 {ρ : Type} (n : Nat) (rec : T_eB_add_s0.den → Option ρ) kx kr s : dStep Tryd.prog 58 TT M_eB_add (O_eB_add n) (L_eB_add_s0 n) dorcNil 0 (lbody 1000 C_eB_add 0) T_eB_add_s0 X_eB_add_s0 R_eB_add_s0 ⟨[], [], []⟩ rec kx kr s = eB_add_s0 n rec kx kr s := by kernel_rfl
noncomputable def L_eB_add {ρ : Type} (n : Nat) : LOrc ρ := lorcCons 0 (loopL 58 0 n T_eB_add_s0 X_eB_add_s0 R_eB_add_s0 ⟨[], [], []⟩ (eB_add_s0 n)) (lorcNil)
omit [Tabs] [QuietD Tryd.prog] [UDef] [UTabs] in
theorem e_eB_add (n : Nat) (x) : evF Tryd.prog 58 TT M_eB_add F_eB_add (O_eB_add n) (L_eB_add n) dorcNil ⟨[], [], []⟩ [.tmp 4] C_eB_add x = eB_add n x := by kernel_rfl
omit [UDef] [UTabs] in
theorem ok_eB_add (n : Nat) : Contract Tryd.prog 102 F_eB_add (eB_add n) :=
  Contract.of_ev (c := C_eB_add) (N := 58) Tryd.func102 (by kernel_rfl) (by kernel_rfl) (by kernel_rfl) (by kernel_rfl) (O_eB_add_ok n) dorcNil_ok (.of (l := [(0, (lbody 1000 C_eB_add 0))]) (by kernel_rfl) ⟨.head (loopL_sound (O_eB_add_ok n) dorcNil_ok (.of (l := []) (by kernel_rfl) trivial) (s_eB_add_s0 n)), trivial⟩) (e_eB_add n)

noncomputable def F_eB_cmp : FnT := ⟨2, ⟨[], [(0, (.lst .u32)), (1, (.lst .u32))], []⟩, [.v .i64], []⟩
noncomputable def C_eB_cmp : Code := bodyOf Tryd.f103
noncomputable def M_eB_cmp : List (Nat × ArgM) := []
instance : DfOk M_eB_cmp := .none rfl
noncomputable def O_eB_cmp {ρ : Type} (n : Nat) : Orc ρ := orcNil
omit [QuietD Tryd.prog] [UDef] [UTabs] in
theorem O_eB_cmp_ok {ρ : Type} (n : Nat) : (O_eB_cmp n : Orc ρ).ok Tryd.prog := orcNil_ok
noncomputable def T_eB_cmp_s0 : Tm := ⟨[], [(0, (.lst .u32)), (1, (.lst .u32)), (5, .i64)], []⟩
noncomputable def X_eB_cmp_s0 : Tm := ⟨[], [], []⟩
noncomputable def R_eB_cmp_s0 : Tm := ⟨[], [(4, .i64)], []⟩
noncomputable def L_eB_cmp_s0 {ρ : Type} (n : Nat) : LOrc ρ := lorcNil
omit [Tabs] [QuietD Tryd.prog] [UDef] [UTabs] in
theorem s_eB_cmp_s0 {ρ : Type} (n : Nat) (rec : T_eB_cmp_s0.den → Option ρ) kx kr s : dStep Tryd.prog 41 TT M_eB_cmp (O_eB_cmp n) (L_eB_cmp_s0 n) (evDraw Tryd.prog 41 TT M_eB_cmp (O_eB_cmp n)) 0 (lbody 1000 C_eB_cmp 0) T_eB_cmp_s0 X_eB_cmp_s0 R_eB_cmp_s0 ⟨[], [], []⟩ rec kx kr s = eB_cmp_s0 n rec kx kr s := by kernel_rfl
noncomputable def L_eB_cmp {ρ : Type} (n : Nat) : LOrc ρ := lorcCons 0 (loopL 41 0 n T_eB_cmp_s0 X_eB_cmp_s0 R_eB_cmp_s0 ⟨[], [], []⟩ (eB_cmp_s0 n)) (lorcNil)
omit [Tabs] [QuietD Tryd.prog] [UDef] [UTabs] in
theorem e_eB_cmp (n : Nat) (x) : evF Tryd.prog 41 TT M_eB_cmp F_eB_cmp (O_eB_cmp n) (L_eB_cmp n) (evDraw Tryd.prog 41 TT M_eB_cmp (O_eB_cmp n)) ⟨[], [], []⟩ [.tmp 4] C_eB_cmp x = eB_cmp n x := by kernel_rfl
omit [UDef] [UTabs] in
theorem ok_eB_cmp (n : Nat) : Contract Tryd.prog 103 F_eB_cmp (eB_cmp n) :=
  Contract.of_ev (c := C_eB_cmp) (N := 41) Tryd.func103 (by kernel_rfl) (by kernel_rfl) (by kernel_rfl) (by kernel_rfl) (O_eB_cmp_ok n) (evDraw_ok (O_eB_cmp_ok n) (by kernel_rfl)) (.of (l := [(0, (lbody 1000 C_eB_cmp 0))]) (by kernel_rfl) ⟨.head (loopL_sound (O_eB_cmp_ok n) (evDraw_ok (O_eB_cmp_ok n) (by kernel_rfl)) (.of (l := []) (by kernel_rfl) trivial) (s_eB_cmp_s0 n)), trivial⟩) (e_eB_cmp n)

noncomputable def F_eB_sub : FnT := ⟨2, ⟨[], [(0, (.lst .u32)), (1, (.lst .u32))], []⟩, [.v (.lst .u32)], []⟩
noncomputable def C_eB_sub : Code := bodyOf Tryd.f104
noncomputable def M_eB_sub : List (Nat × ArgM) := [(999999999, ⟨[1], [], [], false⟩)]
instance : DfOk M_eB_sub := .none rfl
noncomputable def O_eB_sub {ρ : Type} (n : Nat) : Orc ρ := orcCons 105 F_eB_trim (eB_trim n) (orcNil)
omit [UDef] [UTabs] in
theorem O_eB_sub_ok {ρ : Type} (n : Nat) : (O_eB_sub n : Orc ρ).ok Tryd.prog := orcCons_ok (by kernel_rfl) (ok_eB_trim n) (orcNil_ok)
noncomputable def T_eB_sub_s0 : Tm := ⟨[(5, .own 11)], [(0, (.lst .u32)), (1, (.lst .u32)), (6, .u64), (7, .i64)], [(11, .arr 136 .u32)]⟩
noncomputable def X_eB_sub_s0 : Tm := ⟨[(5, .own 11)], [], [(11, .arr 136 .u32)]⟩
noncomputable def R_eB_sub_s0 : Tm := ⟨[], [], []⟩
noncomputable def L_eB_sub_s0 {ρ : Type} (n : Nat) : LOrc ρ := lorcNil
omit [Tabs] [QuietD Tryd.prog] [UDef] [UTabs] in
theorem s_eB_sub_s0 {ρ : Type} (n : Nat) (rec : T_eB_sub_s0.den → Option ρ) kx kr s : dStep Tryd.prog 45 TT M_eB_sub (O_eB_sub n) (L_eB_sub_s0 n) dorcNil 0 (lbody 1000 C_eB_sub 0) T_eB_sub_s0 X_eB_sub_s0 R_eB_sub_s0 ⟨[], [], []⟩ rec kx kr s = eB_sub_s0 n rec kx kr s := by kernel_rfl
noncomputable def L_eB_sub {ρ : Type} (n : Nat) : LOrc ρ := lorcCons 0 (loopL 45 0 n T_eB_sub_s0 X_eB_sub_s0 R_eB_sub_s0 ⟨[], [], []⟩ (eB_sub_s0 n)) (lorcNil)
omit [Tabs] [QuietD Tryd.prog] [UDef] [UTabs] in
theorem e_eB_sub (n : Nat) (x) : evF Tryd.prog 45 TT M_eB_sub F_eB_sub (O_eB_sub n) (L_eB_sub n) dorcNil ⟨[], [], []⟩ [.tmp 4] C_eB_sub x = eB_sub n x := by kernel_rfl
omit [UDef] [UTabs] in
theorem ok_eB_sub (n : Nat) : Contract Tryd.prog 104 F_eB_sub (eB_sub n) :=
  Contract.of_ev (c := C_eB_sub) (N := 45) Tryd.func104 (by kernel_rfl) (by kernel_rfl) (by kernel_rfl) (by kernel_rfl) (O_eB_sub_ok n) dorcNil_ok (.of (l := [(0, (lbody 1000 C_eB_sub 0))]) (by kernel_rfl) ⟨.head (loopL_sound (O_eB_sub_ok n) dorcNil_ok (.of (l := []) (by kernel_rfl) trivial) (s_eB_sub_s0 n)), trivial⟩) (e_eB_sub n)

noncomputable def C_eB_sum : Code := bodyOf Tryd.f74
noncomputable def M_eB_sum : List (Nat × ArgM) := [(103, ⟨[], [], [], true⟩)]
instance : DfOk M_eB_sum := .none rfl
noncomputable def O_eB_sum {ρ : Type} (n : Nat) : Orc ρ := orcCons 102 F_eB_add (eB_add n) (orcCons 103 F_eB_cmp (eB_cmp n) (orcCons 104 F_eB_sub (eB_sub n) (orcNil)))
omit [UDef] [UTabs] in
theorem O_eB_sum_ok {ρ : Type} (n : Nat) : (O_eB_sum n : Orc ρ).ok Tryd.prog := orcCons_ok (by kernel_rfl) (ok_eB_add n) (orcCons_ok (by kernel_rfl) (ok_eB_cmp n) (orcCons_ok (by kernel_rfl) (ok_eB_sub n) (orcNil_ok)))
noncomputable def L_eB_sum {ρ : Type} (n : Nat) : LOrc ρ := lorcNil
omit [Tabs] [QuietD Tryd.prog] [UDef] [UTabs] in
theorem e_eB_sum (n : Nat) (x) : evF Tryd.prog 29 TT M_eB_sum F_eB_sum (O_eB_sum n) (L_eB_sum n) dorcNil ⟨[], [], []⟩ [.tmp 8, .tmp 9] C_eB_sum x = eB_sum n x := by kernel_rfl
omit [UDef] [UTabs] in
theorem ok_eB_sum (n : Nat) : Contract Tryd.prog 74 F_eB_sum (eB_sum n) :=
  Contract.of_ev (c := C_eB_sum) (N := 29) Tryd.func74 (by kernel_rfl) (by kernel_rfl) (by kernel_rfl) (by kernel_rfl) (O_eB_sum_ok n) dorcNil_ok (.of (l := []) (by kernel_rfl) trivial) (e_eB_sum n)

noncomputable def C_peB_Int_Add : Code := bodyOf Tryd.f41
noncomputable def M_peB_Int_Add : List (Nat × ArgM) := [(999999999, ⟨[1], [], [], false⟩), (73, ⟨[0], [], [], false⟩)]
instance : DfOk M_peB_Int_Add := .none rfl
noncomputable def O_peB_Int_Add {ρ : Type} (n : Nat) : Orc ρ := orcCons 74 F_eB_sum (eB_sum n) (orcCons 73 F_peB_Int_give (peB_Int_give) (orcNil))
omit [UDef] [UTabs] in
theorem O_peB_Int_Add_ok {ρ : Type} (n : Nat) : (O_peB_Int_Add n : Orc ρ).ok Tryd.prog := orcCons_ok (by kernel_rfl) (ok_eB_sum n) (orcCons_ok (by kernel_rfl) (ok_peB_Int_give) (orcNil_ok))
noncomputable def L_peB_Int_Add {ρ : Type} (n : Nat) : LOrc ρ := lorcNil
omit [Tabs] [QuietD Tryd.prog] [UDef] [UTabs] in
theorem e_peB_Int_Add (n : Nat) (x) : evF Tryd.prog 28 TT M_peB_Int_Add F_peB_Int_Add (O_peB_Int_Add n) (L_peB_Int_Add n) (evDraw Tryd.prog 28 TT M_peB_Int_Add (O_peB_Int_Add n)) ⟨[], [], []⟩ [.tmp 6] C_peB_Int_Add x = peB_Int_Add n x := by kernel_rfl
omit [UDef] [UTabs] in
theorem ok_peB_Int_Add (n : Nat) : Contract Tryd.prog 41 F_peB_Int_Add (peB_Int_Add n) :=
  Contract.of_ev (c := C_peB_Int_Add) (N := 28) Tryd.func41 (by kernel_rfl) (by kernel_rfl) (by kernel_rfl) (by kernel_rfl) (O_peB_Int_Add_ok n) (evDraw_ok (O_peB_Int_Add_ok n) (by kernel_rfl)) (.of (l := []) (by kernel_rfl) trivial) (e_peB_Int_Add n)

noncomputable def F_peB_Int_IsInt64 : FnT := ⟨1, ⟨[(0, .ptr 1000000 0)], [], [(1000000, .box [.d .bool, .d (.lst .u32)])]⟩, [.v .bool], [(1000000, .box [.d .bool, .d (.lst .u32)])]⟩
noncomputable def F_eB_length : FnT := ⟨1, ⟨[], [(0, (.lst .u32))], []⟩, [.v .i64], []⟩
noncomputable def C_eB_length : Code := bodyOf Tryd.f76
noncomputable def M_eB_length : List (Nat × ArgM) := []
instance : DfOk M_eB_length := .none rfl
noncomputable def O_eB_length {ρ : Type} (n : Nat) : Orc ρ := orcNil
omit [QuietD Tryd.prog] [UDef] [UTabs] in
theorem O_eB_length_ok {ρ : Type} (n : Nat) : (O_eB_length n : Orc ρ).ok Tryd.prog := orcNil_ok
noncomputable def T_eB_length_s0 : Tm := ⟨[], [(0, (.lst .u32)), (3, .i64), (4, .u32)], []⟩
noncomputable def X_eB_length_s0 : Tm := ⟨[], [(0, (.lst .u32)), (3, .i64)], []⟩
noncomputable def R_eB_length_s0 : Tm := ⟨[], [], []⟩
noncomputable def L_eB_length_s0 {ρ : Type} (n : Nat) : LOrc ρ := lorcNil
omit [Tabs] [QuietD Tryd.prog] [UDef] [UTabs] in
theorem s_eB_length_s0 {ρ : Type} (n : Nat) (rec : T_eB_length_s0.den → Option ρ) kx kr s : dStep Tryd.prog 26 TT M_eB_length (O_eB_length n) (L_eB_length_s0 n) dorcNil 0 (lbody 1000 C_eB_length 0) T_eB_length_s0 X_eB_length_s0 R_eB_length_s0 ⟨[], [], []⟩ rec kx kr s = eB_length_s0 n rec kx kr s := by kernel_rfl
noncomputable def L_eB_length {ρ : Type} (n : Nat) : LOrc ρ := lorcCons 0 (loopL 26 0 n T_eB_length_s0 X_eB_length_s0 R_eB_length_s0 ⟨[], [], []⟩ (eB_length_s0 n)) (lorcNil)
omit [Tabs] [QuietD Tryd.prog] [UDef] [UTabs] in
theorem e_eB_length (n : Nat) (x) : evF Tryd.prog 26 TT M_eB_length F_eB_length (O_eB_length n) (L_eB_length n) dorcNil ⟨[], [], []⟩ [.tmp 2] C_eB_length x = eB_length n x := by kernel_rfl
omit [UDef] [UTabs] in
theorem ok_eB_length (n : Nat) : Contract Tryd.prog 76 F_eB_length (eB_length n) :=
  Contract.of_ev (c := C_eB_length) (N := 26) Tryd.func76 (by kernel_rfl) (by kernel_rfl) (by kernel_rfl) (by kernel_rfl) (O_eB_length_ok n) dorcNil_ok (.of (l := [(0, (lbody 1000 C_eB_length 0))]) (by kernel_rfl) ⟨.head (loopL_sound (O_eB_length_ok n) dorcNil_ok (.of (l := []) (by kernel_rfl) trivial) (s_eB_length_s0 n)), trivial⟩) (e_eB_length n)

noncomputable def F_peB_Int_TrailingZeroBits : FnT := ⟨1, ⟨[(0, .ptr 1000000 0)], [], [(1000000, .box [.d .bool, .d (.lst .u32)])]⟩, [.v .u64], [(1000000, .box [.d .bool, .d (.lst .u32)])]⟩
noncomputable def F_eB_bit : FnT := ⟨2, ⟨[], [(0, (.lst .u32)), (1, .i64)], []⟩, [.v .u64], []⟩
noncomputable def C_eB_bit : Code := bodyOf Tryd.f106
noncomputable def M_eB_bit : List (Nat × ArgM) := []
instance : DfOk M_eB_bit := .none rfl
noncomputable def O_eB_bit {ρ : Type} : Orc ρ := orcNil
omit [QuietD Tryd.prog] [UDef] [UTabs] in
theorem O_eB_bit_ok {ρ : Type} : (O_eB_bit : Orc ρ).ok Tryd.prog := orcNil_ok
noncomputable def L_eB_bit {ρ : Type} : LOrc ρ := lorcNil
omit [Tabs] [QuietD Tryd.prog] [UDef] [UTabs] in
theorem e_eB_bit (x) : evF Tryd.prog 25 TT M_eB_bit F_eB_bit (O_eB_bit) (L_eB_bit) dorcNil ⟨[], [], []⟩ [.tmp 4] C_eB_bit x = eB_bit x := by kernel_rfl
omit [UDef] [UTabs] in
theorem ok_eB_bit : Contract Tryd.prog 106 F_eB_bit (eB_bit) :=
  Contract.of_ev (c := C_eB_bit) (N := 25) Tryd.func106 (by kernel_rfl) (by kernel_rfl) (by kernel_rfl) (by kernel_rfl) (O_eB_bit_ok) dorcNil_ok (.of (l := []) (by kernel_rfl) trivial) (e_eB_bit)

noncomputable def C_peB_Int_TrailingZeroBits : Code := bodyOf Tryd.f77
noncomputable def M_peB_Int_TrailingZeroBits : List (Nat × ArgM) := [(106, ⟨[], [], [], true⟩)]
instance : DfOk M_peB_Int_TrailingZeroBits := .none rfl
noncomputable def O_peB_Int_TrailingZeroBits {ρ : Type} (n : Nat) : Orc ρ := orcCons 106 F_eB_bit (eB_bit) (orcNil)
omit [UDef] [UTabs] in
theorem O_peB_Int_TrailingZeroBits_ok {ρ : Type} (n : Nat) : (O_peB_Int_TrailingZeroBits n : Orc ρ).ok Tryd.prog := orcCons_ok (by kernel_rfl) (ok_eB_bit) (orcNil_ok)
noncomputable def T_peB_Int_TrailingZeroBits_s0 : Tm := ⟨[(0, .ptr 1000000 0)], [(3, .u64)], [(1000000, .box [.d .bool, .d (.lst .u32)])]⟩
noncomputable def X_peB_Int_TrailingZeroBits_s0 : Tm := ⟨[], [(3, .u64)], [(1000000, .box [.d .bool, .d (.lst .u32)])]⟩
noncomputable def R_peB_Int_TrailingZeroBits_s0 : Tm := ⟨[], [], []⟩
noncomputable def L_peB_Int_TrailingZeroBits_s0 {ρ : Type} (n : Nat) : LOrc ρ := lorcNil
omit [Tabs] [QuietD Tryd.prog] [UDef] [UTabs] in
theorem s_peB_Int_TrailingZeroBits_s0 {ρ : Type} (n : Nat) (rec : T_peB_Int_TrailingZeroBits_s0.den → Option ρ) kx kr s : dStep Tryd.prog 21 TT M_peB_Int_TrailingZeroBits (O_peB_Int_TrailingZeroBits n) (L_peB_Int_TrailingZeroBits_s0 n) dorcNil 0 (lbody 1000 C_peB_Int_TrailingZeroBits 0) T_peB_Int_TrailingZeroBits_s0 X_peB_Int_TrailingZeroBits_s0 R_peB_Int_TrailingZeroBits_s0 ⟨[], [], []⟩ rec kx kr s = peB_Int_TrailingZeroBits_s0 n rec kx kr s := by kernel_rfl
noncomputable def L_peB_Int_TrailingZeroBits {ρ : Type} (n : Nat) : LOrc ρ := lorcCons 0 (loopL 21 0 n T_peB_Int_TrailingZeroBits_s0 X_peB_Int_TrailingZeroBits_s0 R_peB_Int_TrailingZeroBits_s0 ⟨[], [], []⟩ (peB_Int_TrailingZeroBits_s0 n)) (lorcNil)
omit [Tabs] [QuietD Tryd.prog] [UDef] [UTabs] in
theorem e_peB_Int_TrailingZeroBits (n : Nat) (x) : evF Tryd.prog 21 TT M_peB_Int_TrailingZeroBits F_peB_Int_TrailingZeroBits (O_peB_Int_TrailingZeroBits n) (L_peB_Int_TrailingZeroBits n) dorcNil ⟨[], [], []⟩ [.tmp 2] C_peB_Int_TrailingZeroBits x = peB_Int_TrailingZeroBits n x := by kernel_rfl
omit [UDef] [UTabs] in
theorem ok_peB_Int_TrailingZeroBits (n : Nat) : Contract Tryd.prog 77 F_peB_Int_TrailingZeroBits (peB_Int_TrailingZeroBits n) :=
  Contract.of_ev (c := C_peB_Int_TrailingZeroBits) (N := 21) Tryd.func77 (by kernel_rfl) (by kernel_rfl) (by kernel_rfl) (by kernel_rfl) (O_peB_Int_TrailingZeroBits_ok n) dorcNil_ok (.of (l := [(0, (lbody 1000 C_peB_Int_TrailingZeroBits 0))]) (by kernel_rfl) ⟨.head (loopL_sound (O_peB_Int_TrailingZeroBits_ok n) dorcNil_ok (.of (l := []) (by kernel_rfl) trivial) (s_peB_Int_TrailingZeroBits_s0 n)), trivial⟩) (e_peB_Int_TrailingZeroBits n)

noncomputable def C_peB_Int_IsInt64 : Code := bodyOf Tryd.f44
noncomputable def M_peB_Int_IsInt64 : List (Nat × ArgM) := [(77, ⟨[0], [], [], false⟩), (76, ⟨[], [], [], true⟩)]
instance : DfOk M_peB_Int_IsInt64 := .none rfl
noncomputable def O_peB_Int_IsInt64 {ρ : Type} (n : Nat) : Orc ρ := orcCons 76 F_eB_length (eB_length n) (orcCons 77 F_peB_Int_TrailingZeroBits (peB_Int_TrailingZeroBits n) (orcNil))
omit [UDef] [UTabs] in
theorem O_peB_Int_IsInt64_ok {ρ : Type} (n : Nat) : (O_peB_Int_IsInt64 n : Orc ρ).ok Tryd.prog := orcCons_ok (by kernel_rfl) (ok_eB_length n) (orcCons_ok (by kernel_rfl) (ok_peB_Int_TrailingZeroBits n) (orcNil_ok))
noncomputable def L_peB_Int_IsInt64 {ρ : Type} (n : Nat) : LOrc ρ := lorcNil
omit [Tabs] [QuietD Tryd.prog] [UDef] [UTabs] in
theorem e_peB_Int_IsInt64 (n : Nat) (x) : evF Tryd.prog 26 TT M_peB_Int_IsInt64 F_peB_Int_IsInt64 (O_peB_Int_IsInt64 n) (L_peB_Int_IsInt64 n) dorcNil ⟨[], [], []⟩ [.tmp 2] C_peB_Int_IsInt64 x = peB_Int_IsInt64 n x := by kernel_rfl
omit [UDef] [UTabs] in
theorem ok_peB_Int_IsInt64 (n : Nat) : Contract Tryd.prog 44 F_peB_Int_IsInt64 (peB_Int_IsInt64 n) :=
  Contract.of_ev (c := C_peB_Int_IsInt64) (N := 26) Tryd.func44 (by kernel_rfl) (by kernel_rfl) (by kernel_rfl) (by kernel_rfl) (O_peB_Int_IsInt64_ok n) dorcNil_ok (.of (l := []) (by kernel_rfl) trivial) (e_peB_Int_IsInt64 n)

noncomputable def F_peB_Int_Int64 : FnT := ⟨1, ⟨[(0, .ptr 1000000 0)], [], [(1000000, .box [.d .bool, .d (.lst .u32)])]⟩, [.v .i64], [(1000000, .box [.d .bool, .d (.lst .u32)])]⟩
noncomputable def F_peB_Int_Uint64 : FnT := ⟨1, ⟨[(0, .ptr 1000000 0)], [], [(1000000, .box [.d .bool, .d (.lst .u32)])]⟩, [.v .u64], [(1000000, .box [.d .bool, .d (.lst .u32)])]⟩
noncomputable def C_peB_Int_Uint64 : Code := bodyOf Tryd.f78
noncomputable def M_peB_Int_Uint64 : List (Nat × ArgM) := []
instance : DfOk M_peB_Int_Uint64 := .none rfl
noncomputable def O_peB_Int_Uint64 {ρ : Type} : Orc ρ := orcNil
omit [QuietD Tryd.prog] [UDef] [UTabs] in
theorem O_peB_Int_Uint64_ok {ρ : Type} : (O_peB_Int_Uint64 : Orc ρ).ok Tryd.prog := orcNil_ok
noncomputable def L_peB_Int_Uint64 {ρ : Type} : LOrc ρ := lorcNil
omit [Tabs] [QuietD Tryd.prog] [UDef] [UTabs] in
theorem e_peB_Int_Uint64 (x) : evF Tryd.prog 34 TT M_peB_Int_Uint64 F_peB_Int_Uint64 (O_peB_Int_Uint64) (L_peB_Int_Uint64) dorcNil ⟨[], [], []⟩ [.tmp 2] C_peB_Int_Uint64 x = peB_Int_Uint64 x := by kernel_rfl
omit [UDef] [UTabs] in
theorem ok_peB_Int_Uint64 : Contract Tryd.prog 78 F_peB_Int_Uint64 (peB_Int_Uint64) :=
  Contract.of_ev (c := C_peB_Int_Uint64) (N := 34) Tryd.func78 (by kernel_rfl) (by kernel_rfl) (by kernel_rfl) (by kernel_rfl) (O_peB_Int_Uint64_ok) dorcNil_ok (.of (l := []) (by kernel_rfl) trivial) (e_peB_Int_Uint64)

noncomputable def C_peB_Int_Int64 : Code := bodyOf Tryd.f45
noncomputable def M_peB_Int_Int64 : List (Nat × ArgM) := [(78, ⟨[0], [], [], false⟩)]
instance : DfOk M_peB_Int_Int64 := .none rfl
noncomputable def O_peB_Int_Int64 {ρ : Type} : Orc ρ := orcCons 78 F_peB_Int_Uint64 (peB_Int_Uint64) (orcNil)
omit [UDef] [UTabs] in
theorem O_peB_Int_Int64_ok {ρ : Type} : (O_peB_Int_Int64 : Orc ρ).ok Tryd.prog := orcCons_ok (by kernel_rfl) (ok_peB_Int_Uint64) (orcNil_ok)
noncomputable def L_peB_Int_Int64 {ρ : Type} : LOrc ρ := lorcNil
omit [Tabs] [QuietD Tryd.prog] [UDef] [UTabs] in
theorem e_peB_Int_Int64 (x) : evF Tryd.prog 14 TT M_peB_Int_Int64 F_peB_Int_Int64 (O_peB_Int_Int64) (L_peB_Int_Int64) dorcNil ⟨[], [], []⟩ [.tmp 2] C_peB_Int_Int64 x = peB_Int_Int64 x := by kernel_rfl
omit [UDef] [UTabs] in
theorem ok_peB_Int_Int64 : Contract Tryd.prog 45 F_peB_Int_Int64 (peB_Int_Int64) :=
  Contract.of_ev (c := C_peB_Int_Int64) (N := 14) Tryd.func45 (by kernel_rfl) (by kernel_rfl) (by kernel_rfl) (by kernel_rfl) (O_peB_Int_Int64_ok) dorcNil_ok (.of (l := []) (by kernel_rfl) trivial) (e_peB_Int_Int64)

noncomputable def F_peB_Int_Sub : FnT := ⟨3, ⟨[(0, .ptr 1000000 0), (1, .ptr 1000016 0), (2, .ptr 1000032 0)], [], [(1000000, .box [.d .bool, .d (.lst .u32)]), (1000016, .box [.d .bool, .d (.lst .u32)]), (1000032, .box [.d .bool, .d (.lst .u32)])]⟩, [.ref (.ptr 1000000 0)], [(1000000, .box [.d .bool, .d (.lst .u32)]), (1000016, .box [.d .bool, .d (.lst .u32)]), (1000032, .box [.d .bool, .d (.lst .u32)])]⟩
noncomputable def C_peB_Int_Sub : Code := bodyOf Tryd.f42
noncomputable def M_peB_Int_Sub : List (Nat × ArgM) := [(999999999, ⟨[1], [], [], false⟩), (73, ⟨[0], [], [], false⟩)]
instance : DfOk M_peB_Int_Sub := .none rfl
noncomputable def O_peB_Int_Sub {ρ : Type} (n : Nat) : Orc ρ := orcCons 74 F_eB_sum (eB_sum n) (orcCons 73 F_peB_Int_give (peB_Int_give) (orcNil))
omit [UDef] [UTabs] in
theorem O_peB_Int_Sub_ok {ρ : Type} (n : Nat) : (O_peB_Int_Sub n : Orc ρ).ok Tryd.prog := orcCons_ok (by kernel_rfl) (ok_eB_sum n) (orcCons_ok (by kernel_rfl) (ok_peB_Int_give) (orcNil_ok))
noncomputable def L_peB_Int_Sub {ρ : Type} (n : Nat) : LOrc ρ := lorcNil
omit [Tabs] [QuietD Tryd.prog] [UDef] [UTabs] in
theorem e_peB_Int_Sub (n : Nat) (x) : evF Tryd.prog 29 TT M_peB_Int_Sub F_peB_Int_Sub (O_peB_Int_Sub n) (L_peB_Int_Sub n) (evDraw Tryd.prog 29 TT M_peB_Int_Sub (O_peB_Int_Sub n)) ⟨[], [], []⟩ [.tmp 6] C_peB_Int_Sub x = peB_Int_Sub n x := by kernel_rfl
omit [UDef] [UTabs] in
theorem ok_peB_Int_Sub (n : Nat) : Contract Tryd.prog 42 F_peB_Int_Sub (peB_Int_Sub n) :=
  Contract.of_ev (c := C_peB_Int_Sub) (N := 29) Tryd.func42 (by kernel_rfl) (by kernel_rfl) (by kernel_rfl) (by kernel_rfl) (O_peB_Int_Sub_ok n) (evDraw_ok (O_peB_Int_Sub_ok n) (by kernel_rfl)) (.of (l := []) (by kernel_rfl) trivial) (e_peB_Int_Sub n)

noncomputable def F_peB_Int_Mul : FnT := ⟨3, ⟨[(0, .ptr 1000000 0), (1, .ptr 1000016 0), (2, .ptr 1000032 0)], [], [(1000000, .box [.d .bool, .d (.lst .u32)]), (1000016, .box [.d .bool, .d (.lst .u32)]), (1000032, .box [.d .bool, .d (.lst .u32)])]⟩, [.ref (.ptr 1000000 0)], [(1000000, .box [.d .bool, .d (.lst .u32)]), (1000016, .box [.d .bool, .d (.lst .u32)]), (1000032, .box [.d .bool, .d (.lst .u32)])]⟩
noncomputable def F_eB_mul : FnT := ⟨2, ⟨[], [(0, (.lst .u32)), (1, (.lst .u32))], []⟩, [.v (.lst .u32)], []⟩
noncomputable def C_eB_mul : Code := bodyOf Tryd.f75
noncomputable def M_eB_mul : List (Nat × ArgM) := [(999999999, ⟨[1], [], [], false⟩)]
instance : DfOk M_eB_mul := .none rfl
noncomputable def O_eB_mul {ρ : Type} (n : Nat) : Orc ρ := orcCons 105 F_eB_trim (eB_trim n) (orcNil)
omit [UDef] [UTabs] in
theorem O_eB_mul_ok {ρ : Type} (n : Nat) : (O_eB_mul n : Orc ρ).ok Tryd.prog := orcCons_ok (by kernel_rfl) (ok_eB_trim n) (orcNil_ok)
noncomputable def T_eB_mul_s2 : Tm := ⟨[(5, .own 22)], [(0, (.lst .u32)), (1, (.lst .u32)), (6, .i64), (7, .u64), (8, .i64)], [(22, .arr 136 .u32)]⟩
noncomputable def X_eB_mul_s2 : Tm := ⟨[(5, .own 22)], [(0, (.lst .u32)), (1, (.lst .u32)), (6, .i64), (7, .u64)], [(22, .arr 136 .u32)]⟩
noncomputable def R_eB_mul_s2 : Tm := ⟨[], [], []⟩
noncomputable def L_eB_mul_s2 {ρ : Type} (n : Nat) : LOrc ρ := lorcNil
omit [Tabs] [QuietD Tryd.prog] [UDef] [UTabs] in
theorem s_eB_mul_s2 {ρ : Type} (n : Nat) (rec : T_eB_mul_s2.den → Option ρ) kx kr s : dStep Tryd.prog 75 TT M_eB_mul (O_eB_mul n) (L_eB_mul_s2 n) (evDraw Tryd.prog 75 TT M_eB_mul (O_eB_mul n)) 2 (lbody 0 (lbody 1000 C_eB_mul 0) 0) T_eB_mul_s2 X_eB_mul_s2 R_eB_mul_s2 ⟨[], [], []⟩ rec kx kr s = eB_mul_s2 n rec kx kr s := by kernel_rfl
noncomputable def T_eB_mul_s0 : Tm := ⟨[(5, .own 22)], [(0, (.lst .u32)), (1, (.lst .u32)), (6, .i64)], [(22, .arr 136 .u32)]⟩
noncomputable def X_eB_mul_s0 : Tm := ⟨[(5, .own 22)], [], [(22, .arr 136 .u32)]⟩
noncomputable def R_eB_mul_s0 : Tm := ⟨[], [], []⟩
noncomputable def L_eB_mul_s0 {ρ : Type} (n : Nat) : LOrc ρ := lorcCons 2 (loopL 75 2 n T_eB_mul_s2 X_eB_mul_s2 R_eB_mul_s2 ⟨[], [], []⟩ (eB_mul_s2 n)) (lorcNil)
omit [Tabs] [QuietD Tryd.prog] [UDef] [UTabs] in
theorem s_eB_mul_s0 {ρ : Type} (n : Nat) (rec : T_eB_mul_s0.den → Option ρ) kx kr s : dStep Tryd.prog 75 TT M_eB_mul (O_eB_mul n) (L_eB_mul_s0 n) (evDraw Tryd.prog 75 TT M_eB_mul (O_eB_mul n)) 0 (lbody 1000 C_eB_mul 0) T_eB_mul_s0 X_eB_mul_s0 R_eB_mul_s0 ⟨[], [], []⟩ rec kx kr s = eB_mul_s0 n rec kx kr s := by kernel_rfl
noncomputable def L_eB_mul {ρ : Type} (n : Nat) : LOrc ρ := lorcCons 0 (loopL 75 0 n T_eB_mul_s0 X_eB_mul_s0 R_eB_mul_s0 ⟨[], [], []⟩ (eB_mul_s0 n)) (lorcNil)
omit [Tabs] [QuietD Tryd.prog] [UDef] [UTabs] in
theorem e_eB_mul (n : Nat) (x) : evF Tryd.prog 75 TT M_eB_mul F_eB_mul (O_eB_mul n) (L_eB_mul n) (evDraw Tryd.prog 75 TT M_eB_mul (O_eB_mul n)) ⟨[], [], []⟩ [.tmp 4] C_eB_mul x = eB_mul n x := by kernel_rfl
omit [UDef] [UTabs] in
theorem ok_eB_mul (n : Nat) : Contract Tryd.prog 75 F_eB_mul (eB_mul n) :=
  Contract.of_ev (c := C_eB_mul) (N := 75) Tryd.func75 (by kernel_rfl) (by kernel_rfl) (by kernel_rfl) (by kernel_rfl) (O_eB_mul_ok n) (evDraw_ok (O_eB_mul_ok n) (by kernel_rfl)) (.of (l := [(0, (lbody 1000 C_eB_mul 0))]) (by kernel_rfl) ⟨.head (loopL_sound (O_eB_mul_ok n) (evDraw_ok (O_eB_mul_ok n) (by kernel_rfl)) (.of (l := [(2, (lbody 0 (lbody 1000 C_eB_mul 0) 0))]) (by kernel_rfl) ⟨.head (loopL_sound (O_eB_mul_ok n) (evDraw_ok (O_eB_mul_ok n) (by kernel_rfl)) (.of (l := []) (by kernel_rfl) trivial) (s_eB_mul_s2 n)), trivial⟩) (s_eB_mul_s0 n)), trivial⟩) (e_eB_mul n)

noncomputable def C_peB_Int_Mul : Code := bodyOf Tryd.f43
noncomputable def M_peB_Int_Mul : List (Nat × ArgM) := [(999999999, ⟨[1], [], [], false⟩), (73, ⟨[0], [], [], false⟩)]
instance : DfOk M_peB_Int_Mul := .none rfl
noncomputable def O_peB_Int_Mul {ρ : Type} (n : Nat) : Orc ρ := orcCons 75 F_eB_mul (eB_mul n) (orcCons 73 F_peB_Int_give (peB_Int_give) (orcNil))
omit [UDef] [UTabs] in
theorem O_peB_Int_Mul_ok {ρ : Type} (n : Nat) : (O_peB_Int_Mul n : Orc ρ).ok Tryd.prog := orcCons_ok (by kernel_rfl) (ok_eB_mul n) (orcCons_ok (by kernel_rfl) (ok_peB_Int_give) (orcNil_ok))
noncomputable def L_peB_Int_Mul {ρ : Type} (n : Nat) : LOrc ρ := lorcNil
omit [Tabs] [QuietD Tryd.prog] [UDef] [UTabs] in
theorem e_peB_Int_Mul (n : Nat) (x) : evF Tryd.prog 27 TT M_peB_Int_Mul F_peB_Int_Mul (O_peB_Int_Mul n) (L_peB_Int_Mul n) (evDraw Tryd.prog 27 TT M_peB_Int_Mul (O_peB_Int_Mul n)) ⟨[], [], []⟩ [.tmp 6] C_peB_Int_Mul x = peB_Int_Mul n x := by kernel_rfl
omit [UDef] [UTabs] in
theorem ok_peB_Int_Mul (n : Nat) : Contract Tryd.prog 43 F_peB_Int_Mul (peB_Int_Mul n) :=
  Contract.of_ev (c := C_peB_Int_Mul) (N := 27) Tryd.func43 (by kernel_rfl) (by kernel_rfl) (by kernel_rfl) (by kernel_rfl) (O_peB_Int_Mul_ok n) (evDraw_ok (O_peB_Int_Mul_ok n) (by kernel_rfl)) (.of (l := []) (by kernel_rfl) trivial) (e_peB_Int_Mul n)

noncomputable def C_eR_ReckonOf : Code := bodyOf Tryd.f15
noncomputable def M_eR_ReckonOf : List (Nat × ArgM) := [(41, ⟨[0, 1, 2], [], [], false⟩), (42, ⟨[0, 1, 2], [], [], false⟩), (43, ⟨[0, 1, 2], [], [], false⟩), (44, ⟨[0], [], [], false⟩), (45, ⟨[0], [], [], false⟩), (40, ⟨[], [], [3], false⟩)]
instance : DfOk M_eR_ReckonOf := .none rfl
noncomputable def O_eR_ReckonOf {ρ : Type} (n : Nat) : Orc ρ := orcCons 40 F_eB_NewInt (eB_NewInt n) (orcCons 41 F_peB_Int_Add (peB_Int_Add n) (orcCons 44 F_peB_Int_IsInt64 (peB_Int_IsInt64 n) (orcCons 45 F_peB_Int_Int64 (peB_Int_Int64) (orcCons 42 F_peB_Int_Sub (peB_Int_Sub n) (orcCons 43 F_peB_Int_Mul (peB_Int_Mul n) (orcNil))))))
omit [UDef] [UTabs] in
theorem O_eR_ReckonOf_ok {ρ : Type} (n : Nat) : (O_eR_ReckonOf n : Orc ρ).ok Tryd.prog := orcCons_ok (by kernel_rfl) (ok_eB_NewInt n) (orcCons_ok (by kernel_rfl) (ok_peB_Int_Add n) (orcCons_ok (by kernel_rfl) (ok_peB_Int_IsInt64 n) (orcCons_ok (by kernel_rfl) (ok_peB_Int_Int64) (orcCons_ok (by kernel_rfl) (ok_peB_Int_Sub n) (orcCons_ok (by kernel_rfl) (ok_peB_Int_Mul n) (orcNil_ok))))))
noncomputable def L_eR_ReckonOf {ρ : Type} (n : Nat) : LOrc ρ := lorcNil
omit [Tabs] [QuietD Tryd.prog] [UDef] [UTabs] in
theorem e_eR_ReckonOf (n : Nat) (x) : evF Tryd.prog 124 TT M_eR_ReckonOf F_eR_ReckonOf (O_eR_ReckonOf n) (L_eR_ReckonOf n) (evDraw Tryd.prog 124 TT M_eR_ReckonOf (O_eR_ReckonOf n)) ⟨[], [], []⟩ [.cell 6 40, .tmp 7] C_eR_ReckonOf x = eR_ReckonOf n x := by kernel_rfl
omit [UDef] [UTabs] in
theorem ok_eR_ReckonOf (n : Nat) : Contract Tryd.prog 15 F_eR_ReckonOf (eR_ReckonOf n) :=
  Contract.of_ev (c := C_eR_ReckonOf) (N := 124) Tryd.func15 (by kernel_rfl) (by kernel_rfl) (by kernel_rfl) (by kernel_rfl) (O_eR_ReckonOf_ok n) (evDraw_ok (O_eR_ReckonOf_ok n) (by kernel_rfl)) (.of (l := []) (by kernel_rfl) trivial) (e_eR_ReckonOf n)

noncomputable def F_eL_bagged : FnT := ⟨0, ⟨[], [], []⟩, [.v .bool], []⟩
noncomputable def F_bag_Of : FnT := ⟨1, ⟨[], [(0, (.lst (.lst .val)))], []⟩, [.v (.lst .cnt), .v .i64], []⟩
noncomputable def C_bag_Of : Code := bodyOf Tryd.f8
noncomputable def M_bag_Of : List (Nat × ArgM) := [(28, ⟨[], [], [], true⟩)]
instance : DfOk M_bag_Of := .none rfl
noncomputable def O_bag_Of {ρ : Type} (n : Nat) : Orc ρ := orcCons 27 F_bag_Gather (bag_Gather n) (orcCons 28 F_bag_Check (bag_Check n) (orcNil))
omit [UDef] in
theorem O_bag_Of_ok {ρ : Type} (n : Nat) : (O_bag_Of n : Orc ρ).ok Tryd.prog := orcCons_ok (by kernel_rfl) (ok_bag_Gather n) (orcCons_ok (by kernel_rfl) (ok_bag_Check n) (orcNil_ok))
noncomputable def T_bag_Of_s0 : Tm := ⟨[(4, .own 4)], [(12, (.lst (.lst .val))), (13, .i64), (14, .i64)], [(4, .arr 32 .cnt)]⟩
noncomputable def X_bag_Of_s0 : Tm := ⟨[(4, .own 4)], [], [(4, .arr 32 .cnt)]⟩
noncomputable def R_bag_Of_s0 : Tm := ⟨[], [], []⟩
noncomputable def L_bag_Of_s0 {ρ : Type} (n : Nat) : LOrc ρ := lorcNil
omit [Tabs] [QuietD Tryd.prog] [UDef] [UTabs] in
theorem s_bag_Of_s0 {ρ : Type} (n : Nat) (rec : T_bag_Of_s0.den → Option ρ) kx kr s : dStep Tryd.prog 32 TT M_bag_Of (O_bag_Of n) (L_bag_Of_s0 n) dorcNil 0 (lbody 1000 C_bag_Of 0) T_bag_Of_s0 X_bag_Of_s0 R_bag_Of_s0 ⟨[], [(4, 4, 32, 2)], []⟩ rec kx kr s = bag_Of_s0 n rec kx kr s := by kernel_rfl
noncomputable def L_bag_Of {ρ : Type} (n : Nat) : LOrc ρ := lorcCons 0 (loopL 32 0 n T_bag_Of_s0 X_bag_Of_s0 R_bag_Of_s0 ⟨[], [(4, 4, 32, 2)], []⟩ (bag_Of_s0 n)) (lorcNil)
omit [Tabs] [QuietD Tryd.prog] [UDef] [UTabs] in
theorem e_bag_Of (n : Nat) (x) : evF Tryd.prog 32 TT M_bag_Of F_bag_Of (O_bag_Of n) (L_bag_Of n) dorcNil ⟨[], [], []⟩ [.tmp 2, .tmp 3] C_bag_Of x = bag_Of n x := by kernel_rfl
omit [UDef] in
theorem ok_bag_Of (n : Nat) : Contract Tryd.prog 8 F_bag_Of (bag_Of n) :=
  Contract.of_ev (c := C_bag_Of) (N := 32) Tryd.func8 (by kernel_rfl) (by kernel_rfl) (by kernel_rfl) (by kernel_rfl) (O_bag_Of_ok n) dorcNil_ok (.of (l := [(0, (lbody 1000 C_bag_Of 0))]) (by kernel_rfl) ⟨.head (loopL_sound (O_bag_Of_ok n) dorcNil_ok (.of (l := []) (by kernel_rfl) trivial) (s_bag_Of_s0 n)), trivial⟩) (e_bag_Of n)

noncomputable def F_eR_SameBag : FnT := ⟨2, ⟨[], [(0, (.lst .cnt)), (1, (.lst .cnt))], []⟩, [.v .bool], []⟩
noncomputable def F_sl_EqualFunc_api_Bag_api_Bag_C_C_eR_SameBag_1 : FnT := ⟨3, ⟨[(2, .fn 53)], [(0, (.lst .cnt)), (1, (.lst .cnt))], []⟩, [.v .bool], []⟩
noncomputable def F_eR_SameBag_1 : FnT := ⟨2, ⟨[], [(0, .cnt), (1, .cnt)], []⟩, [.v .bool], []⟩
noncomputable def C_eR_SameBag_1 : Code := bodyOf Tryd.f53
noncomputable def M_eR_SameBag_1 : List (Nat × ArgM) := [(31, ⟨[], [], [], true⟩)]
instance : DfOk M_eR_SameBag_1 := .none rfl
noncomputable def O_eR_SameBag_1 {ρ : Type} (n : Nat) : Orc ρ := orcCons 31 F_eR_CompareRows (eR_CompareRows n) (orcNil)
omit [UDef] [UTabs] in
theorem O_eR_SameBag_1_ok {ρ : Type} (n : Nat) : (O_eR_SameBag_1 n : Orc ρ).ok Tryd.prog := orcCons_ok (by kernel_rfl) (ok_eR_CompareRows n) (orcNil_ok)
noncomputable def L_eR_SameBag_1 {ρ : Type} (n : Nat) : LOrc ρ := lorcNil
omit [Tabs] [QuietD Tryd.prog] [UDef] [UTabs] in
theorem e_eR_SameBag_1 (n : Nat) (x) : evF Tryd.prog 18 TT M_eR_SameBag_1 F_eR_SameBag_1 (O_eR_SameBag_1 n) (L_eR_SameBag_1 n) dorcNil ⟨[], [], []⟩ [.tmp 4] C_eR_SameBag_1 x = eR_SameBag_1 n x := by kernel_rfl
omit [UDef] [UTabs] in
theorem ok_eR_SameBag_1 (n : Nat) : Contract Tryd.prog 53 F_eR_SameBag_1 (eR_SameBag_1 n) :=
  Contract.of_ev (c := C_eR_SameBag_1) (N := 18) Tryd.func53 (by kernel_rfl) (by kernel_rfl) (by kernel_rfl) (by kernel_rfl) (O_eR_SameBag_1_ok n) dorcNil_ok (.of (l := []) (by kernel_rfl) trivial) (e_eR_SameBag_1 n)

noncomputable def C_sl_EqualFunc_api_Bag_api_Bag_C_C_eR_SameBag_1 : Code := bodyOf Tryd.f52
noncomputable def M_sl_EqualFunc_api_Bag_api_Bag_C_C_eR_SameBag_1 : List (Nat × ArgM) := [(53, ⟨[], [], [], true⟩)]
instance : DfOk M_sl_EqualFunc_api_Bag_api_Bag_C_C_eR_SameBag_1 := .none rfl
noncomputable def O_sl_EqualFunc_api_Bag_api_Bag_C_C_eR_SameBag_1 {ρ : Type} (n : Nat) : Orc ρ := orcCons 53 F_eR_SameBag_1 (eR_SameBag_1 n) (orcNil)
omit [UDef] [UTabs] in
theorem O_sl_EqualFunc_api_Bag_api_Bag_C_C_eR_SameBag_1_ok {ρ : Type} (n : Nat) : (O_sl_EqualFunc_api_Bag_api_Bag_C_C_eR_SameBag_1 n : Orc ρ).ok Tryd.prog := orcCons_ok (by kernel_rfl) (ok_eR_SameBag_1 n) (orcNil_ok)
noncomputable def T_sl_EqualFunc_api_Bag_api_Bag_C_C_eR_SameBag_1_s0 : Tm := ⟨[(2, .fn 53)], [(1, (.lst .cnt)), (15, (.lst .cnt)), (16, .i64), (17, .i64)], []⟩
noncomputable def X_sl_EqualFunc_api_Bag_api_Bag_C_C_eR_SameBag_1_s0 : Tm := ⟨[], [], []⟩
noncomputable def R_sl_EqualFunc_api_Bag_api_Bag_C_C_eR_SameBag_1_s0 : Tm := ⟨[], [(6, .bool)], []⟩
noncomputable def L_sl_EqualFunc_api_Bag_api_Bag_C_C_eR_SameBag_1_s0 {ρ : Type} (n : Nat) : LOrc ρ := lorcNil
omit [Tabs] [QuietD Tryd.prog] [UDef] [UTabs] in
theorem s_sl_EqualFunc_api_Bag_api_Bag_C_C_eR_SameBag_1_s0 {ρ : Type} (n : Nat) (rec : T_sl_EqualFunc_api_Bag_api_Bag_C_C_eR_SameBag_1_s0.den → Option ρ) kx kr s : dStep Tryd.prog 32 TT M_sl_EqualFunc_api_Bag_api_Bag_C_C_eR_SameBag_1 (O_sl_EqualFunc_api_Bag_api_Bag_C_C_eR_SameBag_1 n) (L_sl_EqualFunc_api_Bag_api_Bag_C_C_eR_SameBag_1_s0 n) dorcNil 0 (lbody 1000 C_sl_EqualFunc_api_Bag_api_Bag_C_C_eR_SameBag_1 0) T_sl_EqualFunc_api_Bag_api_Bag_C_C_eR_SameBag_1_s0 X_sl_EqualFunc_api_Bag_api_Bag_C_C_eR_SameBag_1_s0 R_sl_EqualFunc_api_Bag_api_Bag_C_C_eR_SameBag_1_s0 ⟨[], [], []⟩ rec kx kr s = sl_EqualFunc_api_Bag_api_Bag_C_C_eR_SameBag_1_s0 n rec kx kr s := by kernel_rfl
noncomputable def L_sl_EqualFunc_api_Bag_api_Bag_C_C_eR_SameBag_1 {ρ : Type} (n : Nat) : LOrc ρ := lorcCons 0 (loopL 32 0 n T_sl_EqualFunc_api_Bag_api_Bag_C_C_eR_SameBag_1_s0 X_sl_EqualFunc_api_Bag_api_Bag_C_C_eR_SameBag_1_s0 R_sl_EqualFunc_api_Bag_api_Bag_C_C_eR_SameBag_1_s0 ⟨[], [], []⟩ (sl_EqualFunc_api_Bag_api_Bag_C_C_eR_SameBag_1_s0 n)) (lorcNil)
omit [Tabs] [QuietD Tryd.prog] [UDef] [UTabs] in
theorem e_sl_EqualFunc_api_Bag_api_Bag_C_C_eR_SameBag_1 (n : Nat) (x) : evF Tryd.prog 32 TT M_sl_EqualFunc_api_Bag_api_Bag_C_C_eR_SameBag_1 F_sl_EqualFunc_api_Bag_api_Bag_C_C_eR_SameBag_1 (O_sl_EqualFunc_api_Bag_api_Bag_C_C_eR_SameBag_1 n) (L_sl_EqualFunc_api_Bag_api_Bag_C_C_eR_SameBag_1 n) dorcNil ⟨[], [], []⟩ [.tmp 6] C_sl_EqualFunc_api_Bag_api_Bag_C_C_eR_SameBag_1 x = sl_EqualFunc_api_Bag_api_Bag_C_C_eR_SameBag_1 n x := by kernel_rfl
omit [UDef] [UTabs] in
theorem ok_sl_EqualFunc_api_Bag_api_Bag_C_C_eR_SameBag_1 (n : Nat) : Contract Tryd.prog 52 F_sl_EqualFunc_api_Bag_api_Bag_C_C_eR_SameBag_1 (sl_EqualFunc_api_Bag_api_Bag_C_C_eR_SameBag_1 n) :=
  Contract.of_ev (c := C_sl_EqualFunc_api_Bag_api_Bag_C_C_eR_SameBag_1) (N := 32) Tryd.func52 (by kernel_rfl) (by kernel_rfl) (by kernel_rfl) (by kernel_rfl) (O_sl_EqualFunc_api_Bag_api_Bag_C_C_eR_SameBag_1_ok n) dorcNil_ok (.of (l := [(0, (lbody 1000 C_sl_EqualFunc_api_Bag_api_Bag_C_C_eR_SameBag_1 0))]) (by kernel_rfl) ⟨.head (loopL_sound (O_sl_EqualFunc_api_Bag_api_Bag_C_C_eR_SameBag_1_ok n) dorcNil_ok (.of (l := []) (by kernel_rfl) trivial) (s_sl_EqualFunc_api_Bag_api_Bag_C_C_eR_SameBag_1_s0 n)), trivial⟩) (e_sl_EqualFunc_api_Bag_api_Bag_C_C_eR_SameBag_1 n)

noncomputable def C_eR_SameBag : Code := bodyOf Tryd.f21
noncomputable def M_eR_SameBag : List (Nat × ArgM) := [(52, ⟨[], [], [], true⟩)]
instance : DfOk M_eR_SameBag := .none rfl
noncomputable def O_eR_SameBag {ρ : Type} (n : Nat) : Orc ρ := orcCons 52 F_sl_EqualFunc_api_Bag_api_Bag_C_C_eR_SameBag_1 (sl_EqualFunc_api_Bag_api_Bag_C_C_eR_SameBag_1 n) (orcNil)
omit [UDef] [UTabs] in
theorem O_eR_SameBag_ok {ρ : Type} (n : Nat) : (O_eR_SameBag n : Orc ρ).ok Tryd.prog := orcCons_ok (by kernel_rfl) (ok_sl_EqualFunc_api_Bag_api_Bag_C_C_eR_SameBag_1 n) (orcNil_ok)
noncomputable def L_eR_SameBag {ρ : Type} (n : Nat) : LOrc ρ := lorcNil
omit [Tabs] [QuietD Tryd.prog] [UDef] [UTabs] in
theorem e_eR_SameBag (n : Nat) (x) : evF Tryd.prog 8 TT M_eR_SameBag F_eR_SameBag (O_eR_SameBag n) (L_eR_SameBag n) dorcNil ⟨[], [], []⟩ [.tmp 4] C_eR_SameBag x = eR_SameBag n x := by kernel_rfl
omit [UDef] [UTabs] in
theorem ok_eR_SameBag (n : Nat) : Contract Tryd.prog 21 F_eR_SameBag (eR_SameBag n) :=
  Contract.of_ev (c := C_eR_SameBag) (N := 8) Tryd.func21 (by kernel_rfl) (by kernel_rfl) (by kernel_rfl) (by kernel_rfl) (O_eR_SameBag_ok n) dorcNil_ok (.of (l := []) (by kernel_rfl) trivial) (e_eR_SameBag n)

noncomputable def C_eL_bagged : Code := bodyOf Tryd.f9
noncomputable def M_eL_bagged : List (Nat × ArgM) := [(21, ⟨[], [], [], true⟩)]
instance : DfOk M_eL_bagged := .none rfl
noncomputable def O_eL_bagged {ρ : Type} (n : Nat) : Orc ρ := orcCons 16 F_eL_num (eL_num) (orcCons 8 F_bag_Of (bag_Of n) (orcCons 12 F_bag_Join (bag_Join n) (orcCons 21 F_eR_SameBag (eR_SameBag n) (orcNil))))
omit [UDef] in
theorem O_eL_bagged_ok {ρ : Type} (n : Nat) : (O_eL_bagged n : Orc ρ).ok Tryd.prog := orcCons_ok (by kernel_rfl) (ok_eL_num) (orcCons_ok (by kernel_rfl) (ok_bag_Of n) (orcCons_ok (by kernel_rfl) (ok_bag_Join n) (orcCons_ok (by kernel_rfl) (ok_eR_SameBag n) (orcNil_ok))))
noncomputable def L_eL_bagged {ρ : Type} (n : Nat) : LOrc ρ := lorcNil
omit [Tabs] [QuietD Tryd.prog] [UDef] [UTabs] in
theorem e_eL_bagged (n : Nat) (x) : evF Tryd.prog 50 TT M_eL_bagged F_eL_bagged (O_eL_bagged n) (L_eL_bagged n) dorcNil ⟨[], [], []⟩ [.tmp 0] C_eL_bagged x = eL_bagged n x := by kernel_rfl
omit [UDef] in
theorem ok_eL_bagged (n : Nat) : Contract Tryd.prog 9 F_eL_bagged (eL_bagged n) :=
  Contract.of_ev (c := C_eL_bagged) (N := 50) Tryd.func9 (by kernel_rfl) (by kernel_rfl) (by kernel_rfl) (by kernel_rfl) (O_eL_bagged_ok n) dorcNil_ok (.of (l := []) (by kernel_rfl) trivial) (e_eL_bagged n)

noncomputable def F_eR_BagOf : FnT := ⟨1, ⟨[], [(0, (.lst .cnt))], []⟩, [.v (.lst .cnt)], []⟩
noncomputable def F_sort_stable_fB : FnT := ⟨2, ⟨[(0, .two (.clo 30 [2000000]) (.cls 92 2000001 3 32))], [(1, .i64)], [(2000000, .box [.ref (.own 2000001)]), (2000001, .arr 32 .cnt)]⟩, [], [(2000000, .box [.ref (.own 2000001)]), (2000001, .arr 32 .cnt)]⟩
noncomputable def F_sort_iS_fB : FnT := ⟨3, ⟨[(0, .two (.clo 30 [2000000]) (.cls 92 2000001 3 32))], [(1, .i64), (2, .i64)], [(2000000, .box [.ref (.own 2000001)]), (2000001, .arr 32 .cnt)]⟩, [], [(2000000, .box [.ref (.own 2000001)]), (2000001, .arr 32 .cnt)]⟩
noncomputable def F_eR_BagOf_1 : FnT := ⟨3, ⟨[(2, .ptr 2000000 0)], [(0, .i64), (1, .i64)], [(2000000, .box [.ref (.own 2000001)]), (2000001, .arr 32 .cnt)]⟩, [.v .bool], [(2000000, .box [.ref (.own 2000001)]), (2000001, .arr 32 .cnt)]⟩
noncomputable def C_eR_BagOf_1 : Code := bodyOf Tryd.f30
noncomputable def M_eR_BagOf_1 : List (Nat × ArgM) := [(999999999, ⟨[1], [], [], false⟩), (31, ⟨[], [], [], true⟩)]
instance : DfOk M_eR_BagOf_1 := .none rfl
noncomputable def O_eR_BagOf_1 {ρ : Type} (n : Nat) : Orc ρ := orcCons 31 F_eR_CompareRows (eR_CompareRows n) (orcNil)
omit [UDef] [UTabs] in
theorem O_eR_BagOf_1_ok {ρ : Type} (n : Nat) : (O_eR_BagOf_1 n : Orc ρ).ok Tryd.prog := orcCons_ok (by kernel_rfl) (ok_eR_CompareRows n) (orcNil_ok)
noncomputable def L_eR_BagOf_1 {ρ : Type} (n : Nat) : LOrc ρ := lorcNil
omit [Tabs] [QuietD Tryd.prog] [UDef] [UTabs] in
theorem e_eR_BagOf_1 (n : Nat) (x) : evF Tryd.prog 18 TT M_eR_BagOf_1 F_eR_BagOf_1 (O_eR_BagOf_1 n) (L_eR_BagOf_1 n) (evDraw Tryd.prog 18 TT M_eR_BagOf_1 (O_eR_BagOf_1 n)) ⟨[], [], []⟩ [.tmp 5] C_eR_BagOf_1 x = eR_BagOf_1 n x := by kernel_rfl
omit [UDef] [UTabs] in
theorem ok_eR_BagOf_1 (n : Nat) : Contract Tryd.prog 30 F_eR_BagOf_1 (eR_BagOf_1 n) :=
  Contract.of_ev (c := C_eR_BagOf_1) (N := 18) Tryd.func30 (by kernel_rfl) (by kernel_rfl) (by kernel_rfl) (by kernel_rfl) (O_eR_BagOf_1_ok n) (evDraw_ok (O_eR_BagOf_1_ok n) (by kernel_rfl)) (.of (l := []) (by kernel_rfl) trivial) (e_eR_BagOf_1 n)

noncomputable def C_sort_iS_fB : Code := bodyOf Tryd.f93
noncomputable def M_sort_iS_fB : List (Nat × ArgM) := [(999999999, ⟨[1], [], [], false⟩), (30, ⟨[1002], [], [], false⟩), (92, ⟨[1002], [], [], false⟩)]
instance : DfOk M_sort_iS_fB := .none rfl
noncomputable def O_sort_iS_fB {ρ : Type} (n : Nat) : Orc ρ := orcCons 30 F_eR_BagOf_1 (eR_BagOf_1 n) (orcXA 92 (F_swap 3 32) (swapN) (orcNil))
omit [UDef] [UTabs] in
theorem O_sort_iS_fB_ok {ρ : Type} (n : Nat) : (O_sort_iS_fB n : Orc ρ).ok Tryd.prog := orcCons_ok (by kernel_rfl) (ok_eR_BagOf_1 n) (orcXA_ok (by kernel_rfl) (swapN_ok) (orcNil_ok))
noncomputable def T_sort_iS_fB_s2 : Tm := ⟨[(3, .ptr 3 0)], [(1, .i64), (2, .i64), (6, .i64), (7, .i64)], [(3, .box [.ref (.clo 30 [2000000]), .ref (.cls 92 2000001 3 32)]), (2000000, .box [.ref (.own 2000001)]), (2000001, .arr 32 .cnt)]⟩
noncomputable def X_sort_iS_fB_s2 : Tm := ⟨[(3, .ptr 3 0)], [(1, .i64), (2, .i64), (6, .i64)], [(3, .box [.ref (.clo 30 [2000000]), .ref (.cls 92 2000001 3 32)]), (2000000, .box [.ref (.own 2000001)]), (2000001, .arr 32 .cnt)]⟩
noncomputable def R_sort_iS_fB_s2 : Tm := ⟨[], [], []⟩
noncomputable def L_sort_iS_fB_s2 {ρ : Type} (n : Nat) : LOrc ρ := lorcNil
omit [Tabs] [QuietD Tryd.prog] [UDef] [UTabs] in
theorem s_sort_iS_fB_s2 {ρ : Type} (n : Nat) (rec : T_sort_iS_fB_s2.den → Option ρ) kx kr s : dStep Tryd.prog 35 TT M_sort_iS_fB (O_sort_iS_fB n) (L_sort_iS_fB_s2 n) dorcNil 2 (lbody 0 (lbody 1000 C_sort_iS_fB 0) 0) T_sort_iS_fB_s2 X_sort_iS_fB_s2 R_sort_iS_fB_s2 ⟨[], [], []⟩ rec kx kr s = sort_iS_fB_s2 n rec kx kr s := by kernel_rfl
noncomputable def T_sort_iS_fB_s0 : Tm := ⟨[(3, .ptr 3 0)], [(1, .i64), (2, .i64), (6, .i64)], [(3, .box [.ref (.clo 30 [2000000]), .ref (.cls 92 2000001 3 32)]), (2000000, .box [.ref (.own 2000001)]), (2000001, .arr 32 .cnt)]⟩
noncomputable def X_sort_iS_fB_s0 : Tm := ⟨[], [], [(2000000, .box [.ref (.own 2000001)]), (2000001, .arr 32 .cnt)]⟩
noncomputable def R_sort_iS_fB_s0 : Tm := ⟨[], [], []⟩
noncomputable def L_sort_iS_fB_s0 {ρ : Type} (n : Nat) : LOrc ρ := lorcCons 2 (loopL 35 2 n T_sort_iS_fB_s2 X_sort_iS_fB_s2 R_sort_iS_fB_s2 ⟨[], [], []⟩ (sort_iS_fB_s2 n)) (lorcNil)
omit [Tabs] [QuietD Tryd.prog] [UDef] [UTabs] in
theorem s_sort_iS_fB_s0 {ρ : Type} (n : Nat) (rec : T_sort_iS_fB_s0.den → Option ρ) kx kr s : dStep Tryd.prog 35 TT M_sort_iS_fB (O_sort_iS_fB n) (L_sort_iS_fB_s0 n) dorcNil 0 (lbody 1000 C_sort_iS_fB 0) T_sort_iS_fB_s0 X_sort_iS_fB_s0 R_sort_iS_fB_s0 ⟨[], [], []⟩ rec kx kr s = sort_iS_fB_s0 n rec kx kr s := by kernel_rfl
noncomputable def L_sort_iS_fB {ρ : Type} (n : Nat) : LOrc ρ := lorcCons 0 (loopL 35 0 n T_sort_iS_fB_s0 X_sort_iS_fB_s0 R_sort_iS_fB_s0 ⟨[], [], []⟩ (sort_iS_fB_s0 n)) (lorcNil)
omit [Tabs] [QuietD Tryd.prog] [UDef] [UTabs] in
theorem e_sort_iS_fB (n : Nat) (x) : evF Tryd.prog 35 TT M_sort_iS_fB F_sort_iS_fB (O_sort_iS_fB n) (L_sort_iS_fB n) dorcNil ⟨[], [], []⟩ [] C_sort_iS_fB x = sort_iS_fB n x := by kernel_rfl
omit [UDef] [UTabs] in
theorem ok_sort_iS_fB (n : Nat) : Contract Tryd.prog 93 F_sort_iS_fB (sort_iS_fB n) :=
  Contract.of_ev (c := C_sort_iS_fB) (N := 35) Tryd.func93 (by kernel_rfl) (by kernel_rfl) (by kernel_rfl) (by kernel_rfl) (O_sort_iS_fB_ok n) dorcNil_ok (.of (l := [(0, (lbody 1000 C_sort_iS_fB 0))]) (by kernel_rfl) ⟨.head (loopL_sound (O_sort_iS_fB_ok n) dorcNil_ok (.of (l := [(2, (lbody 0 (lbody 1000 C_sort_iS_fB 0) 0))]) (by kernel_rfl) ⟨.head (loopL_sound (O_sort_iS_fB_ok n) dorcNil_ok (.of (l := []) (by kernel_rfl) trivial) (s_sort_iS_fB_s2 n)), trivial⟩) (s_sort_iS_fB_s0 n)), trivial⟩) (e_sort_iS_fB n)

noncomputable def F_sort_sM_fB : FnT := ⟨4, ⟨[(0, .two (.clo 30 [2000000]) (.cls 92 2000001 3 32))], [(1, .i64), (2, .i64), (3, .i64)], [(2000000, .box [.ref (.own 2000001)]), (2000001, .arr 32 .cnt)]⟩, [], [(2000000, .box [.ref (.own 2000001)]), (2000001, .arr 32 .cnt)]⟩
noncomputable def F_sort_rotate_fB : FnT := ⟨4, ⟨[(0, .two (.clo 30 [2000000]) (.cls 92 2000001 3 32))], [(1, .i64), (2, .i64), (3, .i64)], [(2000000, .box [.ref (.own 2000001)]), (2000001, .arr 32 .cnt)]⟩, [], [(2000000, .box [.ref (.own 2000001)]), (2000001, .arr 32 .cnt)]⟩
noncomputable def F_sort_swapRange_fB : FnT := ⟨4, ⟨[(0, .two (.clo 30 [2000000]) (.cls 92 2000001 3 32))], [(1, .i64), (2, .i64), (3, .i64)], [(2000000, .box [.ref (.own 2000001)]), (2000001, .arr 32 .cnt)]⟩, [], [(2000000, .box [.ref (.own 2000001)]), (2000001, .arr 32 .cnt)]⟩
noncomputable def C_sort_swapRange_fB : Code := bodyOf Tryd.f113
noncomputable def M_sort_swapRange_fB : List (Nat × ArgM) := [(999999999, ⟨[1], [], [], false⟩), (92, ⟨[1002], [], [], false⟩)]
instance : DfOk M_sort_swapRange_fB := .none rfl
noncomputable def O_sort_swapRange_fB {ρ : Type} (n : Nat) : Orc ρ := orcXA 92 (F_swap 3 32) (swapN) (orcNil)
omit [QuietD Tryd.prog] [UDef] [UTabs] in
theorem O_sort_swapRange_fB_ok {ρ : Type} (n : Nat) : (O_sort_swapRange_fB n : Orc ρ).ok Tryd.prog := orcXA_ok (by kernel_rfl) (swapN_ok) (orcNil_ok)
noncomputable def T_sort_swapRange_fB_s0 : Tm := ⟨[(4, .ptr 4 0)], [(1, .i64), (2, .i64), (3, .i64), (8, .i64)], [(4, .box [.ref (.clo 30 [2000000]), .ref (.cls 92 2000001 3 32)]), (2000000, .box [.ref (.own 2000001)]), (2000001, .arr 32 .cnt)]⟩
noncomputable def X_sort_swapRange_fB_s0 : Tm := ⟨[], [], [(2000000, .box [.ref (.own 2000001)]), (2000001, .arr 32 .cnt)]⟩
noncomputable def R_sort_swapRange_fB_s0 : Tm := ⟨[], [], []⟩
noncomputable def L_sort_swapRange_fB_s0 {ρ : Type} (n : Nat) : LOrc ρ := lorcNil
omit [Tabs] [QuietD Tryd.prog] [UDef] [UTabs] in
theorem s_sort_swapRange_fB_s0 {ρ : Type} (n : Nat) (rec : T_sort_swapRange_fB_s0.den → Option ρ) kx kr s : dStep Tryd.prog 23 TT M_sort_swapRange_fB (O_sort_swapRange_fB n) (L_sort_swapRange_fB_s0 n) dorcNil 0 (lbody 1000 C_sort_swapRange_fB 0) T_sort_swapRange_fB_s0 X_sort_swapRange_fB_s0 R_sort_swapRange_fB_s0 ⟨[], [], []⟩ rec kx kr s = sort_swapRange_fB_s0 n rec kx kr s := by kernel_rfl
noncomputable def L_sort_swapRange_fB {ρ : Type} (n : Nat) : LOrc ρ := lorcCons 0 (loopL 23 0 n T_sort_swapRange_fB_s0 X_sort_swapRange_fB_s0 R_sort_swapRange_fB_s0 ⟨[], [], []⟩ (sort_swapRange_fB_s0 n)) (lorcNil)
omit [Tabs] [QuietD Tryd.prog] [UDef] [UTabs] in
theorem e_sort_swapRange_fB (n : Nat) (x) : evF Tryd.prog 23 TT M_sort_swapRange_fB F_sort_swapRange_fB (O_sort_swapRange_fB n) (L_sort_swapRange_fB n) dorcNil ⟨[], [], []⟩ [] C_sort_swapRange_fB x = sort_swapRange_fB n x := by kernel_rfl
omit [UDef] [UTabs] in
theorem ok_sort_swapRange_fB (n : Nat) : Contract Tryd.prog 113 F_sort_swapRange_fB (sort_swapRange_fB n) :=
  Contract.of_ev (c := C_sort_swapRange_fB) (N := 23) Tryd.func113 (by kernel_rfl) (by kernel_rfl) (by kernel_rfl) (by kernel_rfl) (O_sort_swapRange_fB_ok n) dorcNil_ok (.of (l := [(0, (lbody 1000 C_sort_swapRange_fB 0))]) (by kernel_rfl) ⟨.head (loopL_sound (O_sort_swapRange_fB_ok n) dorcNil_ok (.of (l := []) (by kernel_rfl) trivial) (s_sort_swapRange_fB_s0 n)), trivial⟩) (e_sort_swapRange_fB n)

noncomputable def C_sort_rotate_fB : Code := bodyOf Tryd.f109
noncomputable def M_sort_rotate_fB : List (Nat × ArgM) := [(999999999, ⟨[1], [], [], false⟩), (113, ⟨[1000], [], [], false⟩)]
instance : DfOk M_sort_rotate_fB := .none rfl
noncomputable def O_sort_rotate_fB {ρ : Type} (n : Nat) : Orc ρ := orcCons 113 F_sort_swapRange_fB (sort_swapRange_fB n) (orcNil)
omit [UDef] [UTabs] in
theorem O_sort_rotate_fB_ok {ρ : Type} (n : Nat) : (O_sort_rotate_fB n : Orc ρ).ok Tryd.prog := orcCons_ok (by kernel_rfl) (ok_sort_swapRange_fB n) (orcNil_ok)
noncomputable def T_sort_rotate_fB_s0 : Tm := ⟨[(4, .ptr 4 0)], [(2, .i64), (8, .i64), (9, .i64)], [(4, .box [.ref (.clo 30 [2000000]), .ref (.cls 92 2000001 3 32)]), (2000000, .box [.ref (.own 2000001)]), (2000001, .arr 32 .cnt)]⟩
noncomputable def X_sort_rotate_fB_s0 : Tm := ⟨[(4, .ptr 4 0)], [(2, .i64), (8, .i64)], [(4, .box [.ref (.clo 30 [2000000]), .ref (.cls 92 2000001 3 32)]), (2000000, .box [.ref (.own 2000001)]), (2000001, .arr 32 .cnt)]⟩
noncomputable def R_sort_rotate_fB_s0 : Tm := ⟨[], [], []⟩
noncomputable def L_sort_rotate_fB_s0 {ρ : Type} (n : Nat) : LOrc ρ := lorcNil
omit [Tabs] [QuietD Tryd.prog] [UDef] [UTabs] in
theorem s_sort_rotate_fB_s0 {ρ : Type} (n : Nat) (rec : T_sort_rotate_fB_s0.den → Option ρ) kx kr s : dStep Tryd.prog 53 TT M_sort_rotate_fB (O_sort_rotate_fB n) (L_sort_rotate_fB_s0 n) dorcNil 0 (lbody 1000 C_sort_rotate_fB 0) T_sort_rotate_fB_s0 X_sort_rotate_fB_s0 R_sort_rotate_fB_s0 ⟨[], [], []⟩ rec kx kr s = sort_rotate_fB_s0 n rec kx kr s := by kernel_rfl
noncomputable def L_sort_rotate_fB {ρ : Type} (n : Nat) : LOrc ρ := lorcCons 0 (loopL 53 0 n T_sort_rotate_fB_s0 X_sort_rotate_fB_s0 R_sort_rotate_fB_s0 ⟨[], [], []⟩ (sort_rotate_fB_s0 n)) (lorcNil)
omit [Tabs] [QuietD Tryd.prog] [UDef] [UTabs] in
theorem e_sort_rotate_fB (n : Nat) (x) : evF Tryd.prog 53 TT M_sort_rotate_fB F_sort_rotate_fB (O_sort_rotate_fB n) (L_sort_rotate_fB n) dorcNil ⟨[], [], []⟩ [] C_sort_rotate_fB x = sort_rotate_fB n x := by kernel_rfl
omit [UDef] [UTabs] in
theorem ok_sort_rotate_fB (n : Nat) : Contract Tryd.prog 109 F_sort_rotate_fB (sort_rotate_fB n) :=
  Contract.of_ev (c := C_sort_rotate_fB) (N := 53) Tryd.func109 (by kernel_rfl) (by kernel_rfl) (by kernel_rfl) (by kernel_rfl) (O_sort_rotate_fB_ok n) dorcNil_ok (.of (l := [(0, (lbody 1000 C_sort_rotate_fB 0))]) (by kernel_rfl) ⟨.head (loopL_sound (O_sort_rotate_fB_ok n) dorcNil_ok (.of (l := []) (by kernel_rfl) trivial) (s_sort_rotate_fB_s0 n)), trivial⟩) (e_sort_rotate_fB n)

noncomputable def C_sort_sM_fB : Code := bodyOf Tryd.f94
noncomputable def M_sort_sM_fB : List (Nat × ArgM) := [(999999999, ⟨[1], [], [], false⟩), (30, ⟨[1002], [], [], false⟩), (92, ⟨[1002], [], [], false⟩), (109, ⟨[1000], [], [], false⟩), (94, ⟨[1000], [], [], false⟩)]
instance : DfOk M_sort_sM_fB := .none rfl
noncomputable def O_sort_sM_fB {ρ : Type} (self_sort_sM_fB : Int × Int × Int × Unit × (List Ev.Cnt) × Unit → Option (Unit × (List Ev.Cnt) × Unit)) (n : Nat) : Orc ρ := orcCons 30 F_eR_BagOf_1 (eR_BagOf_1 n) (orcXA 92 (F_swap 3 32) (swapN) (orcCons 109 F_sort_rotate_fB (sort_rotate_fB n) (orcCons 94 F_sort_sM_fB (self_sort_sM_fB) (orcNil))))
omit [UDef] [UTabs] in
theorem O_sort_sM_fB_ok {ρ : Type} (self_sort_sM_fB : Int × Int × Int × Unit × (List Ev.Cnt) × Unit → Option (Unit × (List Ev.Cnt) × Unit)) (h_sort_sM_fB : Contract Tryd.prog 94 F_sort_sM_fB self_sort_sM_fB) (n : Nat) : (O_sort_sM_fB self_sort_sM_fB n : Orc ρ).ok Tryd.prog := orcCons_ok (by kernel_rfl) (ok_eR_BagOf_1 n) (orcXA_ok (by kernel_rfl) (swapN_ok) (orcCons_ok (by kernel_rfl) (ok_sort_rotate_fB n) (orcCons_ok (by kernel_rfl) (h_sort_sM_fB) (orcNil_ok))))
noncomputable def T_sort_sM_fB_s0 : Tm := ⟨[(4, .ptr 4 0)], [(1, .i64), (8, .i64), (9, .i64)], [(4, .box [.ref (.clo 30 [2000000]), .ref (.cls 92 2000001 3 32)]), (2000000, .box [.ref (.own 2000001)]), (2000001, .arr 32 .cnt)]⟩
noncomputable def X_sort_sM_fB_s0 : Tm := ⟨[(4, .ptr 4 0)], [(1, .i64), (8, .i64)], [(4, .box [.ref (.clo 30 [2000000]), .ref (.cls 92 2000001 3 32)]), (2000000, .box [.ref (.own 2000001)]), (2000001, .arr 32 .cnt)]⟩
noncomputable def R_sort_sM_fB_s0 : Tm := ⟨[], [], []⟩
noncomputable def L_sort_sM_fB_s0 {ρ : Type} (self_sort_sM_fB : Int × Int × Int × Unit × (List Ev.Cnt) × Unit → Option (Unit × (List Ev.Cnt) × Unit)) (n : Nat) : LOrc ρ := lorcNil
omit [Tabs] [QuietD Tryd.prog] [UDef] [UTabs] in
theorem s_sort_sM_fB_s0 {ρ : Type} (self_sort_sM_fB : Int × Int × Int × Unit × (List Ev.Cnt) × Unit → Option (Unit × (List Ev.Cnt) × Unit)) (n : Nat) (rec : T_sort_sM_fB_s0.den → Option ρ) kx kr s : dStep Tryd.prog 177 TT M_sort_sM_fB (O_sort_sM_fB self_sort_sM_fB n) (L_sort_sM_fB_s0 self_sort_sM_fB n) dorcNil 0 (lbody 1000 C_sort_sM_fB 0) T_sort_sM_fB_s0 X_sort_sM_fB_s0 R_sort_sM_fB_s0 ⟨[], [], []⟩ rec kx kr s = sort_sM_fB_s0 self_sort_sM_fB n rec kx kr s := by kernel_rfl
noncomputable def T_sort_sM_fB_s2 : Tm := ⟨[(4, .ptr 4 0)], [(8, .i64), (11, .i64)], [(4, .box [.ref (.clo 30 [2000000]), .ref (.cls 92 2000001 3 32)]), (2000000, .box [.ref (.own 2000001)]), (2000001, .arr 32 .cnt)]⟩
noncomputable def X_sort_sM_fB_s2 : Tm := ⟨[], [], [(2000000, .box [.ref (.own 2000001)]), (2000001, .arr 32 .cnt)]⟩
noncomputable def R_sort_sM_fB_s2 : Tm := ⟨[], [], []⟩
noncomputable def L_sort_sM_fB_s2 {ρ : Type} (self_sort_sM_fB : Int × Int × Int × Unit × (List Ev.Cnt) × Unit → Option (Unit × (List Ev.Cnt) × Unit)) (n : Nat) : LOrc ρ := lorcNil
omit [Tabs] [QuietD Tryd.prog] [UDef] [UTabs] in
theorem s_sort_sM_fB_s2 {ρ : Type} (self_sort_sM_fB : Int × Int × Int × Unit × (List Ev.Cnt) × Unit → Option (Unit × (List Ev.Cnt) × Unit)) (n : Nat) (rec : T_sort_sM_fB_s2.den → Option ρ) kx kr s : dStep Tryd.prog 177 TT M_sort_sM_fB (O_sort_sM_fB self_sort_sM_fB n) (L_sort_sM_fB_s2 self_sort_sM_fB n) dorcNil 2 (lbody 1000 C_sort_sM_fB 1) T_sort_sM_fB_s2 X_sort_sM_fB_s2 R_sort_sM_fB_s2 ⟨[], [], []⟩ rec kx kr s = sort_sM_fB_s2 self_sort_sM_fB n rec kx kr s := by kernel_rfl
noncomputable def T_sort_sM_fB_s4 : Tm := ⟨[(4, .ptr 4 0)], [(2, .i64), (12, .i64), (13, .i64)], [(4, .box [.ref (.clo 30 [2000000]), .ref (.cls 92 2000001 3 32)]), (2000000, .box [.ref (.own 2000001)]), (2000001, .arr 32 .cnt)]⟩
noncomputable def X_sort_sM_fB_s4 : Tm := ⟨[(4, .ptr 4 0)], [(2, .i64), (12, .i64)], [(4, .box [.ref (.clo 30 [2000000]), .ref (.cls 92 2000001 3 32)]), (2000000, .box [.ref (.own 2000001)]), (2000001, .arr 32 .cnt)]⟩
noncomputable def R_sort_sM_fB_s4 : Tm := ⟨[], [], []⟩
noncomputable def L_sort_sM_fB_s4 {ρ : Type} (self_sort_sM_fB : Int × Int × Int × Unit × (List Ev.Cnt) × Unit → Option (Unit × (List Ev.Cnt) × Unit)) (n : Nat) : LOrc ρ := lorcNil
omit [Tabs] [QuietD Tryd.prog] [UDef] [UTabs] in
theorem s_sort_sM_fB_s4 {ρ : Type} (self_sort_sM_fB : Int × Int × Int × Unit × (List Ev.Cnt) × Unit → Option (Unit × (List Ev.Cnt) × Unit)) (n : Nat) (rec : T_sort_sM_fB_s4.den → Option ρ) kx kr s : dStep Tryd.prog 177 TT M_sort_sM_fB (O_sort_sM_fB self_sort_sM_fB n) (L_sort_sM_fB_s4 self_sort_sM_fB n) dorcNil 4 (lbody 1000 C_sort_sM_fB 2) T_sort_sM_fB_s4 X_sort_sM_fB_s4 R_sort_sM_fB_s4 ⟨[], [], []⟩ rec kx kr s = sort_sM_fB_s4 self_sort_sM_fB n rec kx kr s := by kernel_rfl
noncomputable def T_sort_sM_fB_s6 : Tm := ⟨[(4, .ptr 4 0)], [(12, .i64), (15, .i64)], [(4, .box [.ref (.clo 30 [2000000]), .ref (.cls 92 2000001 3 32)]), (2000000, .box [.ref (.own 2000001)]), (2000001, .arr 32 .cnt)]⟩
noncomputable def X_sort_sM_fB_s6 : Tm := ⟨[], [], [(2000000, .box [.ref (.own 2000001)]), (2000001, .arr 32 .cnt)]⟩
noncomputable def R_sort_sM_fB_s6 : Tm := ⟨[], [], []⟩
noncomputable def L_sort_sM_fB_s6 {ρ : Type} (self_sort_sM_fB : Int × Int × Int × Unit × (List Ev.Cnt) × Unit → Option (Unit × (List Ev.Cnt) × Unit)) (n : Nat) : LOrc ρ := lorcNil
omit [Tabs] [QuietD Tryd.prog] [UDef] [UTabs] in
theorem s_sort_sM_fB_s6 {ρ : Type} (self_sort_sM_fB : Int × Int × Int × Unit × (List Ev.Cnt) × Unit → Option (Unit × (List Ev.Cnt) × Unit)) (n : Nat) (rec : T_sort_sM_fB_s6.den → Option ρ) kx kr s : dStep Tryd.prog 177 TT M_sort_sM_fB (O_sort_sM_fB self_sort_sM_fB n) (L_sort_sM_fB_s6 self_sort_sM_fB n) dorcNil 6 (lbody 1000 C_sort_sM_fB 3) T_sort_sM_fB_s6 X_sort_sM_fB_s6 R_sort_sM_fB_s6 ⟨[], [], []⟩ rec kx kr s = sort_sM_fB_s6 self_sort_sM_fB n rec kx kr s := by kernel_rfl
noncomputable def T_sort_sM_fB_s8 : Tm := ⟨[(4, .ptr 4 0)], [(1, .i64), (2, .i64), (3, .i64), (16, .i64), (17, .i64), (18, .i64), (19, .i64), (20, .i64)], [(4, .box [.ref (.clo 30 [2000000]), .ref (.cls 92 2000001 3 32)]), (2000000, .box [.ref (.own 2000001)]), (2000001, .arr 32 .cnt)]⟩
noncomputable def X_sort_sM_fB_s8 : Tm := ⟨[(4, .ptr 4 0)], [(1, .i64), (2, .i64), (3, .i64), (16, .i64), (17, .i64), (18, .i64)], [(4, .box [.ref (.clo 30 [2000000]), .ref (.cls 92 2000001 3 32)]), (2000000, .box [.ref (.own 2000001)]), (2000001, .arr 32 .cnt)]⟩
noncomputable def R_sort_sM_fB_s8 : Tm := ⟨[], [], []⟩
noncomputable def L_sort_sM_fB_s8 {ρ : Type} (self_sort_sM_fB : Int × Int × Int × Unit × (List Ev.Cnt) × Unit → Option (Unit × (List Ev.Cnt) × Unit)) (n : Nat) : LOrc ρ := lorcNil
omit [Tabs] [QuietD Tryd.prog] [UDef] [UTabs] in
theorem s_sort_sM_fB_s8 {ρ : Type} (self_sort_sM_fB : Int × Int × Int × Unit × (List Ev.Cnt) × Unit → Option (Unit × (List Ev.Cnt) × Unit)) (n : Nat) (rec : T_sort_sM_fB_s8.den → Option ρ) kx kr s : dStep Tryd.prog 177 TT M_sort_sM_fB (O_sort_sM_fB self_sort_sM_fB n) (L_sort_sM_fB_s8 self_sort_sM_fB n) dorcNil 8 (lbody 1000 C_sort_sM_fB 4) T_sort_sM_fB_s8 X_sort_sM_fB_s8 R_sort_sM_fB_s8 ⟨[], [], []⟩ rec kx kr s = sort_sM_fB_s8 self_sort_sM_fB n rec kx kr s := by kernel_rfl
noncomputable def L_sort_sM_fB {ρ : Type} (self_sort_sM_fB : Int × Int × Int × Unit × (List Ev.Cnt) × Unit → Option (Unit × (List Ev.Cnt) × Unit)) (n : Nat) : LOrc ρ := lorcCons 0 (loopL 177 0 n T_sort_sM_fB_s0 X_sort_sM_fB_s0 R_sort_sM_fB_s0 ⟨[], [], []⟩ (sort_sM_fB_s0 self_sort_sM_fB n)) (lorcCons 2 (loopL 177 2 n T_sort_sM_fB_s2 X_sort_sM_fB_s2 R_sort_sM_fB_s2 ⟨[], [], []⟩ (sort_sM_fB_s2 self_sort_sM_fB n)) (lorcCons 4 (loopL 177 4 n T_sort_sM_fB_s4 X_sort_sM_fB_s4 R_sort_sM_fB_s4 ⟨[], [], []⟩ (sort_sM_fB_s4 self_sort_sM_fB n)) (lorcCons 6 (loopL 177 6 n T_sort_sM_fB_s6 X_sort_sM_fB_s6 R_sort_sM_fB_s6 ⟨[], [], []⟩ (sort_sM_fB_s6 self_sort_sM_fB n)) (lorcCons 8 (loopL 177 8 n T_sort_sM_fB_s8 X_sort_sM_fB_s8 R_sort_sM_fB_s8 ⟨[], [], []⟩ (sort_sM_fB_s8 self_sort_sM_fB n)) (lorcNil)))))
omit [Tabs] [QuietD Tryd.prog] [UDef] [UTabs] in
theorem e_sort_sM_fB (self_sort_sM_fB : Int × Int × Int × Unit × (List Ev.Cnt) × Unit → Option (Unit × (List Ev.Cnt) × Unit)) (n : Nat) (x) : evF Tryd.prog 177 TT M_sort_sM_fB F_sort_sM_fB (O_sort_sM_fB self_sort_sM_fB n) (L_sort_sM_fB self_sort_sM_fB n) dorcNil ⟨[], [], []⟩ [] C_sort_sM_fB x = sort_sM_fB_b self_sort_sM_fB n x := by kernel_rfl
omit [UDef] [UTabs] in
theorem okb_sort_sM_fB (self_sort_sM_fB : Int × Int × Int × Unit × (List Ev.Cnt) × Unit → Option (Unit × (List Ev.Cnt) × Unit)) (h_sort_sM_fB : Contract Tryd.prog 94 F_sort_sM_fB self_sort_sM_fB) (n : Nat) : Contract Tryd.prog 94 F_sort_sM_fB (sort_sM_fB_b self_sort_sM_fB n) :=
  Contract.of_ev (c := C_sort_sM_fB) (N := 177) Tryd.func94 (by kernel_rfl) (by kernel_rfl) (by kernel_rfl) (by kernel_rfl) (O_sort_sM_fB_ok self_sort_sM_fB h_sort_sM_fB n) dorcNil_ok (.of (l := [(0, (lbody 1000 C_sort_sM_fB 0)), (2, (lbody 1000 C_sort_sM_fB 1)), (4, (lbody 1000 C_sort_sM_fB 2)), (6, (lbody 1000 C_sort_sM_fB 3)), (8, (lbody 1000 C_sort_sM_fB 4))]) (by kernel_rfl) ⟨.head (loopL_sound (O_sort_sM_fB_ok self_sort_sM_fB h_sort_sM_fB n) dorcNil_ok (.of (l := []) (by kernel_rfl) trivial) (s_sort_sM_fB_s0 self_sort_sM_fB n)), ⟨.tail rfl (.head (loopL_sound (O_sort_sM_fB_ok self_sort_sM_fB h_sort_sM_fB n) dorcNil_ok (.of (l := []) (by kernel_rfl) trivial) (s_sort_sM_fB_s2 self_sort_sM_fB n))), ⟨.tail rfl (.tail rfl (.head (loopL_sound (O_sort_sM_fB_ok self_sort_sM_fB h_sort_sM_fB n) dorcNil_ok (.of (l := []) (by kernel_rfl) trivial) (s_sort_sM_fB_s4 self_sort_sM_fB n)))), ⟨.tail rfl (.tail rfl (.tail rfl (.head (loopL_sound (O_sort_sM_fB_ok self_sort_sM_fB h_sort_sM_fB n) dorcNil_ok (.of (l := []) (by kernel_rfl) trivial) (s_sort_sM_fB_s6 self_sort_sM_fB n))))), ⟨.tail rfl (.tail rfl (.tail rfl (.tail rfl (.head (loopL_sound (O_sort_sM_fB_ok self_sort_sM_fB h_sort_sM_fB n) dorcNil_ok (.of (l := []) (by kernel_rfl) trivial) (s_sort_sM_fB_s8 self_sort_sM_fB n)))))), trivial⟩⟩⟩⟩⟩) (e_sort_sM_fB self_sort_sM_fB n)
omit [UDef] [UTabs] in
theorem ok_sort_sM_fB : ∀ n, Contract Tryd.prog 94 F_sort_sM_fB (sort_sM_fB n)
  | 0 => fun _ _ h => by cases h
  | n + 1 => okb_sort_sM_fB _ (ok_sort_sM_fB n) n

noncomputable def C_sort_stable_fB : Code := bodyOf Tryd.f65
noncomputable def M_sort_stable_fB : List (Nat × ArgM) := [(999999999, ⟨[1], [], [], false⟩), (93, ⟨[1000], [], [], false⟩), (94, ⟨[1000], [], [], false⟩)]
instance : DfOk M_sort_stable_fB := .none rfl
noncomputable def O_sort_stable_fB {ρ : Type} (n : Nat) : Orc ρ := orcCons 93 F_sort_iS_fB (sort_iS_fB n) (orcCons 94 F_sort_sM_fB (sort_sM_fB n) (orcNil))
omit [UDef] [UTabs] in
theorem O_sort_stable_fB_ok {ρ : Type} (n : Nat) : (O_sort_stable_fB n : Orc ρ).ok Tryd.prog := orcCons_ok (by kernel_rfl) (ok_sort_iS_fB n) (orcCons_ok (by kernel_rfl) (ok_sort_sM_fB n) (orcNil_ok))
noncomputable def T_sort_stable_fB_s0 : Tm := ⟨[(2, .ptr 2 0)], [(1, .i64), (4, .i64), (5, .i64), (6, .i64)], [(2, .box [.ref (.clo 30 [2000000]), .ref (.cls 92 2000001 3 32)]), (2000000, .box [.ref (.own 2000001)]), (2000001, .arr 32 .cnt)]⟩
noncomputable def X_sort_stable_fB_s0 : Tm := ⟨[(2, .ptr 2 0)], [(1, .i64), (4, .i64), (5, .i64)], [(2, .box [.ref (.clo 30 [2000000]), .ref (.cls 92 2000001 3 32)]), (2000000, .box [.ref (.own 2000001)]), (2000001, .arr 32 .cnt)]⟩
noncomputable def R_sort_stable_fB_s0 : Tm := ⟨[], [], []⟩
noncomputable def L_sort_stable_fB_s0 {ρ : Type} (n : Nat) : LOrc ρ := lorcNil
omit [Tabs] [QuietD Tryd.prog] [UDef] [UTabs] in
theorem s_sort_stable_fB_s0 {ρ : Type} (n : Nat) (rec : T_sort_stable_fB_s0.den → Option ρ) kx kr s : dStep Tryd.prog 57 TT M_sort_stable_fB (O_sort_stable_fB n) (L_sort_stable_fB_s0 n) dorcNil 0 (lbody 1000 C_sort_stable_fB 0) T_sort_stable_fB_s0 X_sort_stable_fB_s0 R_sort_stable_fB_s0 ⟨[], [], []⟩ rec kx kr s = sort_stable_fB_s0 n rec kx kr s := by kernel_rfl
noncomputable def T_sort_stable_fB_s4 : Tm := ⟨[(2, .ptr 2 0)], [(1, .i64), (4, .i64), (5, .i64), (6, .i64)], [(2, .box [.ref (.clo 30 [2000000]), .ref (.cls 92 2000001 3 32)]), (2000000, .box [.ref (.own 2000001)]), (2000001, .arr 32 .cnt)]⟩
noncomputable def X_sort_stable_fB_s4 : Tm := ⟨[(2, .ptr 2 0)], [(1, .i64), (4, .i64), (5, .i64)], [(2, .box [.ref (.clo 30 [2000000]), .ref (.cls 92 2000001 3 32)]), (2000000, .box [.ref (.own 2000001)]), (2000001, .arr 32 .cnt)]⟩
noncomputable def R_sort_stable_fB_s4 : Tm := ⟨[], [], []⟩
noncomputable def L_sort_stable_fB_s4 {ρ : Type} (n : Nat) : LOrc ρ := lorcNil
omit [Tabs] [QuietD Tryd.prog] [UDef] [UTabs] in
theorem s_sort_stable_fB_s4 {ρ : Type} (n : Nat) (rec : T_sort_stable_fB_s4.den → Option ρ) kx kr s : dStep Tryd.prog 57 TT M_sort_stable_fB (O_sort_stable_fB n) (L_sort_stable_fB_s4 n) dorcNil 4 (lbody 2 (lbody 1000 C_sort_stable_fB 1) 0) T_sort_stable_fB_s4 X_sort_stable_fB_s4 R_sort_stable_fB_s4 ⟨[], [], []⟩ rec kx kr s = sort_stable_fB_s4 n rec kx kr s := by kernel_rfl
noncomputable def T_sort_stable_fB_s2 : Tm := ⟨[(2, .ptr 2 0)], [(1, .i64), (4, .i64)], [(2, .box [.ref (.clo 30 [2000000]), .ref (.cls 92 2000001 3 32)]), (2000000, .box [.ref (.own 2000001)]), (2000001, .arr 32 .cnt)]⟩
noncomputable def X_sort_stable_fB_s2 : Tm := ⟨[], [], [(2000000, .box [.ref (.own 2000001)]), (2000001, .arr 32 .cnt)]⟩
noncomputable def R_sort_stable_fB_s2 : Tm := ⟨[], [], []⟩
noncomputable def L_sort_stable_fB_s2 {ρ : Type} (n : Nat) : LOrc ρ := lorcCons 4 (loopL 57 4 n T_sort_stable_fB_s4 X_sort_stable_fB_s4 R_sort_stable_fB_s4 ⟨[], [], []⟩ (sort_stable_fB_s4 n)) (lorcNil)
omit [Tabs] [QuietD Tryd.prog] [UDef] [UTabs] in
theorem s_sort_stable_fB_s2 {ρ : Type} (n : Nat) (rec : T_sort_stable_fB_s2.den → Option ρ) kx kr s : dStep Tryd.prog 57 TT M_sort_stable_fB (O_sort_stable_fB n) (L_sort_stable_fB_s2 n) dorcNil 2 (lbody 1000 C_sort_stable_fB 1) T_sort_stable_fB_s2 X_sort_stable_fB_s2 R_sort_stable_fB_s2 ⟨[], [], []⟩ rec kx kr s = sort_stable_fB_s2 n rec kx kr s := by kernel_rfl
noncomputable def L_sort_stable_fB {ρ : Type} (n : Nat) : LOrc ρ := lorcCons 0 (loopL 57 0 n T_sort_stable_fB_s0 X_sort_stable_fB_s0 R_sort_stable_fB_s0 ⟨[], [], []⟩ (sort_stable_fB_s0 n)) (lorcCons 2 (loopL 57 2 n T_sort_stable_fB_s2 X_sort_stable_fB_s2 R_sort_stable_fB_s2 ⟨[], [], []⟩ (sort_stable_fB_s2 n)) (lorcNil))
omit [Tabs] [QuietD Tryd.prog] [UDef] [UTabs] in
theorem e_sort_stable_fB (n : Nat) (x) : evF Tryd.prog 57 TT M_sort_stable_fB F_sort_stable_fB (O_sort_stable_fB n) (L_sort_stable_fB n) dorcNil ⟨[], [], []⟩ [] C_sort_stable_fB x = sort_stable_fB n x := by kernel_rfl
omit [UDef] [UTabs] in
theorem ok_sort_stable_fB (n : Nat) : Contract Tryd.prog 65 F_sort_stable_fB (sort_stable_fB n) :=
  Contract.of_ev (c := C_sort_stable_fB) (N := 57) Tryd.func65 (by kernel_rfl) (by kernel_rfl) (by kernel_rfl) (by kernel_rfl) (O_sort_stable_fB_ok n) dorcNil_ok (.of (l := [(0, (lbody 1000 C_sort_stable_fB 0)), (2, (lbody 1000 C_sort_stable_fB 1))]) (by kernel_rfl) ⟨.head (loopL_sound (O_sort_stable_fB_ok n) dorcNil_ok (.of (l := []) (by kernel_rfl) trivial) (s_sort_stable_fB_s0 n)), ⟨.tail rfl (.head (loopL_sound (O_sort_stable_fB_ok n) dorcNil_ok (.of (l := [(4, (lbody 2 (lbody 1000 C_sort_stable_fB 1) 0))]) (by kernel_rfl) ⟨.head (loopL_sound (O_sort_stable_fB_ok n) dorcNil_ok (.of (l := []) (by kernel_rfl) trivial) (s_sort_stable_fB_s4 n)), trivial⟩) (s_sort_stable_fB_s2 n))), trivial⟩⟩) (e_sort_stable_fB n)

omit [UDef] [UTabs] in
theorem ssN_sort_stable_fB_ok (n : Nat) : Contract Tryd.prog 29 (F_ss 23 32 30) (ssN_sort_stable_fB n) := sliceStable_ok (ok_sort_stable_fB n)

noncomputable def C_eR_BagOf : Code := bodyOf Tryd.f11
noncomputable def M_eR_BagOf : List (Nat × ArgM) := [(999999999, ⟨[1], [], [], false⟩), (29, ⟨[1000, 1001], [], [], false⟩), (22, ⟨[], [], [5], false⟩), (31, ⟨[], [], [], true⟩)]
instance : DfOk M_eR_BagOf := .none rfl
noncomputable def O_eR_BagOf {ρ : Type} (n : Nat) : Orc ρ := orcCons 22 F_sl_Clone_C_C_own (sl_Clone_C_C_own) (orcCons 29 (F_ss 23 32 30) (ssN_sort_stable_fB n) (orcCons 31 F_eR_CompareRows (eR_CompareRows n) (orcNil)))
omit [UDef] [UTabs] in
theorem O_eR_BagOf_ok {ρ : Type} (n : Nat) : (O_eR_BagOf n : Orc ρ).ok Tryd.prog := orcCons_ok (by kernel_rfl) (ok_sl_Clone_C_C_own) (orcCons_ok (by kernel_rfl) (ssN_sort_stable_fB_ok n) (orcCons_ok (by kernel_rfl) (ok_eR_CompareRows n) (orcNil_ok)))
noncomputable def T_eR_BagOf_s2 : Tm := ⟨[(1, .ptr 1 0), (3, .own 3), (5, .ptr 5 0)], [(4, .i64)], [(1, .box [.ref (.own 7)]), (3, .arr 32 .cnt), (5, .box [.d .cnt]), (7, .arr 32 .cnt)]⟩
noncomputable def X_eR_BagOf_s2 : Tm := ⟨[(1, .ptr 1 0), (3, .own 3), (5, .ptr 5 0)], [(4, .i64)], [(1, .box [.ref (.own 7)]), (3, .arr 32 .cnt), (5, .box [.d .cnt]), (7, .arr 32 .cnt)]⟩
noncomputable def R_eR_BagOf_s2 : Tm := ⟨[], [], []⟩
noncomputable def L_eR_BagOf_s2 {ρ : Type} (n : Nat) : LOrc ρ := lorcNil
omit [Tabs] [QuietD Tryd.prog] [UDef] [UTabs] in
theorem s_eR_BagOf_s2 {ρ : Type} (n : Nat) (rec : T_eR_BagOf_s2.den → Option ρ) kx kr s : dStep Tryd.prog 56 TT M_eR_BagOf (O_eR_BagOf n) (L_eR_BagOf_s2 n) (evDraw Tryd.prog 56 TT M_eR_BagOf (O_eR_BagOf n)) 2 (lbody 0 (lbody 1000 C_eR_BagOf 0) 0) T_eR_BagOf_s2 X_eR_BagOf_s2 R_eR_BagOf_s2 ⟨[], [], []⟩ rec kx kr s = eR_BagOf_s2 n rec kx kr s := by kernel_rfl
noncomputable def T_eR_BagOf_s0 : Tm := ⟨[(1, .ptr 1 0), (3, .own 3)], [(4, .i64)], [(1, .box [.ref (.own 7)]), (3, .arr 32 .cnt), (7, .arr 32 .cnt)]⟩
noncomputable def X_eR_BagOf_s0 : Tm := ⟨[(3, .own 3)], [], [(3, .arr 32 .cnt)]⟩
noncomputable def R_eR_BagOf_s0 : Tm := ⟨[], [], []⟩
noncomputable def L_eR_BagOf_s0 {ρ : Type} (n : Nat) : LOrc ρ := lorcCons 2 (loopL 56 2 n T_eR_BagOf_s2 X_eR_BagOf_s2 R_eR_BagOf_s2 ⟨[], [], []⟩ (eR_BagOf_s2 n)) (lorcNil)
omit [Tabs] [QuietD Tryd.prog] [UDef] [UTabs] in
theorem s_eR_BagOf_s0 {ρ : Type} (n : Nat) (rec : T_eR_BagOf_s0.den → Option ρ) kx kr s : dStep Tryd.prog 56 TT M_eR_BagOf (O_eR_BagOf n) (L_eR_BagOf_s0 n) (evDraw Tryd.prog 56 TT M_eR_BagOf (O_eR_BagOf n)) 0 (lbody 1000 C_eR_BagOf 0) T_eR_BagOf_s0 X_eR_BagOf_s0 R_eR_BagOf_s0 ⟨[], [(3, 3, 32, 2)], []⟩ rec kx kr s = eR_BagOf_s0 n rec kx kr s := by kernel_rfl
noncomputable def L_eR_BagOf {ρ : Type} (n : Nat) : LOrc ρ := lorcCons 0 (loopL 56 0 n T_eR_BagOf_s0 X_eR_BagOf_s0 R_eR_BagOf_s0 ⟨[], [(3, 3, 32, 2)], []⟩ (eR_BagOf_s0 n)) (lorcNil)
omit [Tabs] [QuietD Tryd.prog] [UDef] [UTabs] in
theorem e_eR_BagOf (n : Nat) (x) : evF Tryd.prog 56 TT M_eR_BagOf F_eR_BagOf (O_eR_BagOf n) (L_eR_BagOf n) (evDraw Tryd.prog 56 TT M_eR_BagOf (O_eR_BagOf n)) ⟨[], [], []⟩ [.tmp 2] C_eR_BagOf x = eR_BagOf n x := by kernel_rfl
omit [UDef] [UTabs] in
theorem ok_eR_BagOf (n : Nat) : Contract Tryd.prog 11 F_eR_BagOf (eR_BagOf n) :=
  Contract.of_ev (c := C_eR_BagOf) (N := 56) Tryd.func11 (by kernel_rfl) (by kernel_rfl) (by kernel_rfl) (by kernel_rfl) (O_eR_BagOf_ok n) (evDraw_ok (O_eR_BagOf_ok n) (by kernel_rfl)) (.of (l := [(0, (lbody 1000 C_eR_BagOf 0))]) (by kernel_rfl) ⟨.head (loopL_sound (O_eR_BagOf_ok n) (evDraw_ok (O_eR_BagOf_ok n) (by kernel_rfl)) (.of (l := [(2, (lbody 0 (lbody 1000 C_eR_BagOf 0) 0))]) (by kernel_rfl) ⟨.head (loopL_sound (O_eR_BagOf_ok n) (evDraw_ok (O_eR_BagOf_ok n) (by kernel_rfl)) (.of (l := []) (by kernel_rfl) trivial) (s_eR_BagOf_s2 n)), trivial⟩) (s_eR_BagOf_s0 n)), trivial⟩) (e_eR_BagOf n)

noncomputable def F_eL_bags : FnT := ⟨3, ⟨[], [(0, (.lst .cnt)), (1, .i64), (2, (.lst .cnt))], []⟩, [.v .bool], []⟩
noncomputable def C_eL_bags : Code := bodyOf Tryd.f10
noncomputable def M_eL_bags : List (Nat × ArgM) := [(13, ⟨[], [], [], true⟩), (21, ⟨[], [], [], true⟩)]
instance : DfOk M_eL_bags := .none rfl
noncomputable def O_eL_bags {ρ : Type} (n : Nat) : Orc ρ := orcCons 13 F_eR_CheckBag (eR_CheckBag n) (orcCons 21 F_eR_SameBag (eR_SameBag n) (orcNil))
omit [UDef] in
theorem O_eL_bags_ok {ρ : Type} (n : Nat) : (O_eL_bags n : Orc ρ).ok Tryd.prog := orcCons_ok (by kernel_rfl) (ok_eR_CheckBag n) (orcCons_ok (by kernel_rfl) (ok_eR_SameBag n) (orcNil_ok))
noncomputable def L_eL_bags {ρ : Type} (n : Nat) : LOrc ρ := lorcNil
omit [Tabs] [QuietD Tryd.prog] [UDef] [UTabs] in
theorem e_eL_bags (n : Nat) (x) : evF Tryd.prog 27 TT M_eL_bags F_eL_bags (O_eL_bags n) (L_eL_bags n) dorcNil ⟨[], [], []⟩ [.tmp 6] C_eL_bags x = eL_bags n x := by kernel_rfl
omit [UDef] in
theorem ok_eL_bags (n : Nat) : Contract Tryd.prog 10 F_eL_bags (eL_bags n) :=
  Contract.of_ev (c := C_eL_bags) (N := 27) Tryd.func10 (by kernel_rfl) (by kernel_rfl) (by kernel_rfl) (by kernel_rfl) (O_eL_bags_ok n) dorcNil_ok (.of (l := []) (by kernel_rfl) trivial) (e_eL_bags n)

noncomputable def C_eL_BagJoin : Code := bodyOf Tryd.f4
noncomputable def M_eL_BagJoin : List (Nat × ArgM) := [(13, ⟨[], [], [], true⟩), (14, ⟨[], [], [], true⟩), (9, ⟨[], [], [], true⟩), (10, ⟨[], [], [], true⟩)]
instance : DfOk M_eL_BagJoin := .none rfl
noncomputable def O_eL_BagJoin {ρ : Type} (n : Nat) : Orc ρ := orcCons 12 F_bag_Join (bag_Join n) (orcCons 13 F_eR_CheckBag (eR_CheckBag n) (orcCons 14 F_eR_SameValue (eR_SameValue n) (orcCons 16 F_eL_num (eL_num) (orcCons 15 F_eR_ReckonOf (eR_ReckonOf n) (orcCons 17 F_sl_Concat_W_V (sl_Concat_W_V n) (orcCons 9 F_eL_bagged (eL_bagged n) (orcCons 11 F_eR_BagOf (eR_BagOf n) (orcCons 10 F_eL_bags (eL_bags n) (orcNil)))))))))
omit [UDef] in
theorem O_eL_BagJoin_ok {ρ : Type} (n : Nat) : (O_eL_BagJoin n : Orc ρ).ok Tryd.prog := orcCons_ok (by kernel_rfl) (ok_bag_Join n) (orcCons_ok (by kernel_rfl) (ok_eR_CheckBag n) (orcCons_ok (by kernel_rfl) (ok_eR_SameValue n) (orcCons_ok (by kernel_rfl) (ok_eL_num) (orcCons_ok (by kernel_rfl) (ok_eR_ReckonOf n) (orcCons_ok (by kernel_rfl) (ok_sl_Concat_W_V n) (orcCons_ok (by kernel_rfl) (ok_eL_bagged n) (orcCons_ok (by kernel_rfl) (ok_eR_BagOf n) (orcCons_ok (by kernel_rfl) (ok_eL_bags n) (orcNil_ok)))))))))
noncomputable def T_eL_BagJoin_s2 : Tm := ⟨[], [(0, (.lst .cnt)), (1, (.lst .cnt)), (2, .i64), (7, (.lst .cnt)), (8, .i64), (9, .i64), (40, (.lst (.lst .cnt))), (41, .i64), (42, .i64), (46, (.lst .cnt)), (47, .i64), (48, .i64)], []⟩
noncomputable def X_eL_BagJoin_s2 : Tm := ⟨[], [(0, (.lst .cnt)), (1, (.lst .cnt)), (2, .i64), (7, (.lst .cnt)), (8, .i64), (9, .i64), (40, (.lst (.lst .cnt))), (41, .i64), (42, .i64)], []⟩
noncomputable def R_eL_BagJoin_s2 : Tm := ⟨[], [], []⟩
noncomputable def L_eL_BagJoin_s2 {ρ : Type} (n : Nat) : LOrc ρ := lorcNil
omit [Tabs] [QuietD Tryd.prog] [UDef] [UTabs] in
theorem s_eL_BagJoin_s2 {ρ : Type} (n : Nat) (rec : T_eL_BagJoin_s2.den → Option ρ) kx kr s : dStep Tryd.prog 195 TT M_eL_BagJoin (O_eL_BagJoin n) (L_eL_BagJoin_s2 n) (evDraw Tryd.prog 195 TT M_eL_BagJoin (O_eL_BagJoin n)) 2 (lbody 0 (lbody 1000 C_eL_BagJoin 0) 0) T_eL_BagJoin_s2 X_eL_BagJoin_s2 R_eL_BagJoin_s2 ⟨[], [], []⟩ rec kx kr s = eL_BagJoin_s2 n rec kx kr s := by kernel_rfl
noncomputable def T_eL_BagJoin_s0 : Tm := ⟨[], [(0, (.lst .cnt)), (1, (.lst .cnt)), (2, .i64), (7, (.lst .cnt)), (8, .i64), (9, .i64), (40, (.lst (.lst .cnt))), (41, .i64), (42, .i64)], []⟩
noncomputable def X_eL_BagJoin_s0 : Tm := ⟨[], [(0, (.lst .cnt)), (1, (.lst .cnt)), (2, .i64), (7, (.lst .cnt)), (8, .i64), (9, .i64)], []⟩
noncomputable def R_eL_BagJoin_s0 : Tm := ⟨[], [], []⟩
noncomputable def L_eL_BagJoin_s0 {ρ : Type} (n : Nat) : LOrc ρ := lorcCons 2 (loopL 195 2 n T_eL_BagJoin_s2 X_eL_BagJoin_s2 R_eL_BagJoin_s2 ⟨[], [], []⟩ (eL_BagJoin_s2 n)) (lorcNil)
omit [Tabs] [QuietD Tryd.prog] [UDef] [UTabs] in
theorem s_eL_BagJoin_s0 {ρ : Type} (n : Nat) (rec : T_eL_BagJoin_s0.den → Option ρ) kx kr s : dStep Tryd.prog 195 TT M_eL_BagJoin (O_eL_BagJoin n) (L_eL_BagJoin_s0 n) (evDraw Tryd.prog 195 TT M_eL_BagJoin (O_eL_BagJoin n)) 0 (lbody 1000 C_eL_BagJoin 0) T_eL_BagJoin_s0 X_eL_BagJoin_s0 R_eL_BagJoin_s0 ⟨[40], [], []⟩ rec kx kr s = eL_BagJoin_s0 n rec kx kr s := by kernel_rfl
noncomputable def T_eL_BagJoin_s4 : Tm := ⟨[], [(0, (.lst .cnt)), (1, (.lst .cnt)), (2, .i64), (7, (.lst .cnt)), (8, .i64), (9, .i64), (75, (.lst (.lst .cnt))), (76, .i64), (77, .i64)], []⟩
noncomputable def X_eL_BagJoin_s4 : Tm := ⟨[], [(0, (.lst .cnt)), (1, (.lst .cnt)), (2, .i64), (7, (.lst .cnt)), (8, .i64), (9, .i64)], []⟩
noncomputable def R_eL_BagJoin_s4 : Tm := ⟨[], [], []⟩
noncomputable def L_eL_BagJoin_s4 {ρ : Type} (n : Nat) : LOrc ρ := lorcNil
omit [Tabs] [QuietD Tryd.prog] [UDef] [UTabs] in
theorem s_eL_BagJoin_s4 {ρ : Type} (n : Nat) (rec : T_eL_BagJoin_s4.den → Option ρ) kx kr s : dStep Tryd.prog 195 TT M_eL_BagJoin (O_eL_BagJoin n) (L_eL_BagJoin_s4 n) (evDraw Tryd.prog 195 TT M_eL_BagJoin (O_eL_BagJoin n)) 4 (lbody 1000 C_eL_BagJoin 1) T_eL_BagJoin_s4 X_eL_BagJoin_s4 R_eL_BagJoin_s4 ⟨[75], [], []⟩ rec kx kr s = eL_BagJoin_s4 n rec kx kr s := by kernel_rfl
noncomputable def T_eL_BagJoin_s10 : Tm := ⟨[(16, .own 16), (19, .ptr 19 0), (20, .ptr 20 0)], [(0, (.lst .cnt)), (1, (.lst .cnt)), (2, .i64), (7, (.lst .cnt)), (8, .i64), (9, .i64), (17, .i64), (21, .bool), (96, (.lst .cnt)), (97, .i64), (98, .i64), (106, .i64), (107, .i64)], [(16, .arr 32 .cnt), (19, .box [.d .cnt]), (20, .box [.d .cnt])]⟩
noncomputable def X_eL_BagJoin_s10 : Tm := ⟨[(16, .own 16), (19, .ptr 19 0), (20, .ptr 20 0)], [(0, (.lst .cnt)), (1, (.lst .cnt)), (2, .i64), (7, (.lst .cnt)), (8, .i64), (9, .i64), (17, .i64), (21, .bool), (96, (.lst .cnt)), (97, .i64), (98, .i64)], [(16, .arr 32 .cnt), (19, .box [.d .cnt]), (20, .box [.d .cnt])]⟩
noncomputable def R_eL_BagJoin_s10 : Tm := ⟨[], [], []⟩
noncomputable def L_eL_BagJoin_s10 {ρ : Type} (n : Nat) : LOrc ρ := lorcNil
omit [Tabs] [QuietD Tryd.prog] [UDef] [UTabs] in
theorem s_eL_BagJoin_s10 {ρ : Type} (n : Nat) (rec : T_eL_BagJoin_s10.den → Option ρ) kx kr s : dStep Tryd.prog 195 TT M_eL_BagJoin (O_eL_BagJoin n) (L_eL_BagJoin_s10 n) (evDraw Tryd.prog 195 TT M_eL_BagJoin (O_eL_BagJoin n)) 10 (lbody 8 (lbody 6 (lbody 1000 C_eL_BagJoin 2) 0) 0) T_eL_BagJoin_s10 X_eL_BagJoin_s10 R_eL_BagJoin_s10 ⟨[], [], []⟩ rec kx kr s = eL_BagJoin_s10 n rec kx kr s := by kernel_rfl
noncomputable def T_eL_BagJoin_s8 : Tm := ⟨[(16, .own 16)], [(0, (.lst .cnt)), (1, (.lst .cnt)), (2, .i64), (7, (.lst .cnt)), (8, .i64), (9, .i64), (17, .i64), (96, (.lst .cnt)), (97, .i64), (98, .i64)], [(16, .arr 32 .cnt)]⟩
noncomputable def X_eL_BagJoin_s8 : Tm := ⟨[(16, .own 16)], [(0, (.lst .cnt)), (1, (.lst .cnt)), (2, .i64), (7, (.lst .cnt)), (8, .i64), (9, .i64), (17, .i64)], [(16, .arr 32 .cnt)]⟩
noncomputable def R_eL_BagJoin_s8 : Tm := ⟨[], [], []⟩
noncomputable def L_eL_BagJoin_s8 {ρ : Type} (n : Nat) : LOrc ρ := lorcCons 10 (loopL 195 10 n T_eL_BagJoin_s10 X_eL_BagJoin_s10 R_eL_BagJoin_s10 ⟨[], [], []⟩ (eL_BagJoin_s10 n)) (lorcNil)
omit [Tabs] [QuietD Tryd.prog] [UDef] [UTabs] in
theorem s_eL_BagJoin_s8 {ρ : Type} (n : Nat) (rec : T_eL_BagJoin_s8.den → Option ρ) kx kr s : dStep Tryd.prog 195 TT M_eL_BagJoin (O_eL_BagJoin n) (L_eL_BagJoin_s8 n) (evDraw Tryd.prog 195 TT M_eL_BagJoin (O_eL_BagJoin n)) 8 (lbody 6 (lbody 1000 C_eL_BagJoin 2) 0) T_eL_BagJoin_s8 X_eL_BagJoin_s8 R_eL_BagJoin_s8 ⟨[], [(16, 16, 32, 2)], []⟩ rec kx kr s = eL_BagJoin_s8 n rec kx kr s := by kernel_rfl
noncomputable def T_eL_BagJoin_s6 : Tm := ⟨[(16, .own 16)], [(0, (.lst .cnt)), (1, (.lst .cnt)), (2, .i64), (7, (.lst .cnt)), (8, .i64), (9, .i64), (17, .i64)], [(16, .arr 32 .cnt)]⟩
noncomputable def X_eL_BagJoin_s6 : Tm := ⟨[(16, .own 16)], [(7, (.lst .cnt)), (8, .i64), (9, .i64)], [(16, .arr 32 .cnt)]⟩
noncomputable def R_eL_BagJoin_s6 : Tm := ⟨[], [], []⟩
noncomputable def L_eL_BagJoin_s6 {ρ : Type} (n : Nat) : LOrc ρ := lorcCons 8 (loopL 195 8 n T_eL_BagJoin_s8 X_eL_BagJoin_s8 R_eL_BagJoin_s8 ⟨[], [(16, 16, 32, 2)], []⟩ (eL_BagJoin_s8 n)) (lorcNil)
omit [Tabs] [QuietD Tryd.prog] [UDef] [UTabs] in
theorem s_eL_BagJoin_s6 {ρ : Type} (n : Nat) (rec : T_eL_BagJoin_s6.den → Option ρ) kx kr s : dStep Tryd.prog 195 TT M_eL_BagJoin (O_eL_BagJoin n) (L_eL_BagJoin_s6 n) (evDraw Tryd.prog 195 TT M_eL_BagJoin (O_eL_BagJoin n)) 6 (lbody 1000 C_eL_BagJoin 2) T_eL_BagJoin_s6 X_eL_BagJoin_s6 R_eL_BagJoin_s6 ⟨[], [(16, 16, 32, 2)], []⟩ rec kx kr s = eL_BagJoin_s6 n rec kx kr s := by kernel_rfl
noncomputable def L_eL_BagJoin {ρ : Type} (n : Nat) : LOrc ρ := lorcCons 0 (loopL 195 0 n T_eL_BagJoin_s0 X_eL_BagJoin_s0 R_eL_BagJoin_s0 ⟨[40], [], []⟩ (eL_BagJoin_s0 n)) (lorcCons 4 (loopL 195 4 n T_eL_BagJoin_s4 X_eL_BagJoin_s4 R_eL_BagJoin_s4 ⟨[75], [], []⟩ (eL_BagJoin_s4 n)) (lorcCons 6 (loopL 195 6 n T_eL_BagJoin_s6 X_eL_BagJoin_s6 R_eL_BagJoin_s6 ⟨[], [(16, 16, 32, 2)], []⟩ (eL_BagJoin_s6 n)) (lorcNil)))
omit [Tabs] [QuietD Tryd.prog] [UDef] [UTabs] in
theorem e_eL_BagJoin (n : Nat) (x) : evF Tryd.prog 195 TT M_eL_BagJoin F_eL_BagJoin (O_eL_BagJoin n) (L_eL_BagJoin n) (evDraw Tryd.prog 195 TT M_eL_BagJoin (O_eL_BagJoin n)) ⟨[], [], []⟩ [.tmp 6] C_eL_BagJoin x = eL_BagJoin n x := by kernel_rfl
omit [UDef] in
theorem ok_eL_BagJoin (n : Nat) : Contract Tryd.prog 4 F_eL_BagJoin (eL_BagJoin n) :=
  Contract.of_ev (c := C_eL_BagJoin) (N := 195) Tryd.func4 (by kernel_rfl) (by kernel_rfl) (by kernel_rfl) (by kernel_rfl) (O_eL_BagJoin_ok n) (evDraw_ok (O_eL_BagJoin_ok n) (by kernel_rfl)) (.of (l := [(0, (lbody 1000 C_eL_BagJoin 0)), (4, (lbody 1000 C_eL_BagJoin 1)), (6, (lbody 1000 C_eL_BagJoin 2))]) (by kernel_rfl) ⟨.head (loopL_sound (O_eL_BagJoin_ok n) (evDraw_ok (O_eL_BagJoin_ok n) (by kernel_rfl)) (.of (l := [(2, (lbody 0 (lbody 1000 C_eL_BagJoin 0) 0))]) (by kernel_rfl) ⟨.head (loopL_sound (O_eL_BagJoin_ok n) (evDraw_ok (O_eL_BagJoin_ok n) (by kernel_rfl)) (.of (l := []) (by kernel_rfl) trivial) (s_eL_BagJoin_s2 n)), trivial⟩) (s_eL_BagJoin_s0 n)), ⟨.tail rfl (.head (loopL_sound (O_eL_BagJoin_ok n) (evDraw_ok (O_eL_BagJoin_ok n) (by kernel_rfl)) (.of (l := []) (by kernel_rfl) trivial) (s_eL_BagJoin_s4 n))), ⟨.tail rfl (.tail rfl (.head (loopL_sound (O_eL_BagJoin_ok n) (evDraw_ok (O_eL_BagJoin_ok n) (by kernel_rfl)) (.of (l := [(8, (lbody 6 (lbody 1000 C_eL_BagJoin 2) 0))]) (by kernel_rfl) ⟨.head (loopL_sound (O_eL_BagJoin_ok n) (evDraw_ok (O_eL_BagJoin_ok n) (by kernel_rfl)) (.of (l := [(10, (lbody 8 (lbody 6 (lbody 1000 C_eL_BagJoin 2) 0) 0))]) (by kernel_rfl) ⟨.head (loopL_sound (O_eL_BagJoin_ok n) (evDraw_ok (O_eL_BagJoin_ok n) (by kernel_rfl)) (.of (l := []) (by kernel_rfl) trivial) (s_eL_BagJoin_s10 n)), trivial⟩) (s_eL_BagJoin_s8 n)), trivial⟩) (s_eL_BagJoin_s6 n)))), trivial⟩⟩⟩) (e_eL_BagJoin n)

end Go.Proofs.YtheaknjhanchbaaDoor

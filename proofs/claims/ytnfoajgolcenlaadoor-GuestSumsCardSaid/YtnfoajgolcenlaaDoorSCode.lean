/- Each of these functions computes what its plain function computes (written by gen.py). -/
import Derived.Test.YtnfoajgolcenlaaDoorSBase
import Derived.KernelRfl
import Derived.Test.YtnfoajgolcenlaaDoorEvDraw
import Derived.Test.YtnfoajgolcenlaaDoorPCode
namespace Go.Proofs.YtnfoajgolcenlaaDoor
open Go Esp Ev Pure
set_option linter.unusedSimpArgs false
set_option linter.unusedVariables false
set_option maxRecDepth 100000
variable [Tabs] [UTabs]
def TT : List (TypeId × Ty) := [(2, .i64), (3, .i64), (4, .bool), (5, .u8), (6, .u8), (9, .str), (10, .str), (11, .str), (12, .u64), (21, .i32), (22, (.lst .grant)), (23, (.lst .node)), (24, (.lst .edg)), (26, .graph), (27, .i64), (30, (.lst .str)), (37, (.lst .val)), (39, .val), (40, (.lst .prp)), (42, .opn), (51, .node), (54, .grant), (58, (.lst .cnt)), (59, (.lst .cnt)), (60, (.lst .val)), (64, (.lst (.lst .cnt))), (66, .guest), (73, (.lst .i64)), (76, (.lst .bool)), (80, .edg), (92, .cnt), (96, (.lst (.lst .val))), (136, .u64), (144, (.two (.lst .cnt))), (150, (.lst .u32)), (175, (.lst .u8)), (178, .prp), (180, .i64), (187, .u32), (189, .u64), (195, .u64), (214, (.lst .i64)), (229, .u64), (263, .u8), (264, .u8), (267, .i32), (268, .i32)]

noncomputable def F_espalierlaw_BagOnce : FnT := ⟨1, ⟨[], [(0, (.lst .cnt))], []⟩, [.v .bool], []⟩
noncomputable def F_bag_Distinct : FnT := ⟨1, ⟨[], [(0, (.lst .cnt))], []⟩, [.v (.lst .cnt), .v .i64], []⟩
noncomputable def F_bag_both_bag_Distinct_1_c : FnT := ⟨3, ⟨[(2, .clo 102 [1000000])], [(0, (.lst .cnt)), (1, (.lst .cnt))], [(1000000, .box [.d (.lst .cnt)])]⟩, [.v (.lst .cnt), .v .i64], [(1000000, .box [.d (.lst .cnt)])]⟩
noncomputable def F_bag_Check : FnT := ⟨1, ⟨[], [(0, (.lst .cnt))], []⟩, [.v .i64], []⟩
noncomputable def F_value_Check : FnT := ⟨1, ⟨[], [(0, .val)], []⟩, [.v .i64], []⟩
noncomputable def F_value_check : FnT := ⟨2, ⟨[], [(0, .val), (1, .i64)], []⟩, [.v .i64], []⟩
noncomputable def C_value_check : Code := bodyOf Tryd.f133
noncomputable def M_value_check : List (Nat × ArgM) := [(134, ⟨[], [], [], true⟩), (133, ⟨[], [], [], true⟩)]
noncomputable def O_value_check {ρ : Type} (self_value_check : Ev.Val × Int × Unit → Option (Int × Unit)) (n : Nat) : Orc ρ := orcCons 134 F_valid (validN) (orcCons 133 F_value_check (self_value_check) (orcNil))
theorem O_value_check_ok {ρ : Type} (self_value_check : Ev.Val × Int × Unit → Option (Int × Unit)) (h_value_check : Contract Tryd.prog 133 F_value_check self_value_check) (n : Nat) : (O_value_check self_value_check n : Orc ρ).ok Tryd.prog := orcCons_ok (by kernel_rfl) (validN_ok) (orcCons_ok (by kernel_rfl) (h_value_check) (orcNil_ok))
noncomputable def T_value_check_s1 : Tm := ⟨[(2, .ptr 2 0)], [(1, .i64), (90, (.lst .val)), (91, .i64), (92, .i64)], [(2, .box [.d .val])]⟩
noncomputable def X_value_check_s1 : Tm := ⟨[(2, .ptr 2 0)], [], [(2, .box [.d .val])]⟩
noncomputable def R_value_check_s1 : Tm := ⟨[], [(4, .i64)], []⟩
noncomputable def L_value_check_s1 {ρ : Type} (self_value_check : Ev.Val × Int × Unit → Option (Int × Unit)) (n : Nat) : LOrc ρ := lorcNil
omit [Tabs] [UTabs] in
theorem s_value_check_s1 {ρ : Type} (self_value_check : Ev.Val × Int × Unit → Option (Int × Unit)) (n : Nat) (rec : T_value_check_s1.den → Option ρ) kx kr s : dStep Tryd.prog 114 TT M_value_check (O_value_check self_value_check n) (L_value_check_s1 self_value_check n) dorcNil 1 (lbody 1000 C_value_check 0) T_value_check_s1 X_value_check_s1 R_value_check_s1 ⟨[], [], []⟩ rec kx kr s = value_check_s1 self_value_check n rec kx kr s := by kernel_rfl
noncomputable def L_value_check {ρ : Type} (self_value_check : Ev.Val × Int × Unit → Option (Int × Unit)) (n : Nat) : LOrc ρ := lorcCons 1 (loopL 114 1 n T_value_check_s1 X_value_check_s1 R_value_check_s1 ⟨[], [], []⟩ (value_check_s1 self_value_check n)) (lorcNil)
omit [Tabs] [UTabs] in
theorem e_value_check (self_value_check : Ev.Val × Int × Unit → Option (Int × Unit)) (n : Nat) (x) : evF Tryd.prog 114 TT M_value_check F_value_check (O_value_check self_value_check n) (L_value_check self_value_check n) dorcNil ⟨[], [], []⟩ [.tmp 4] C_value_check x = value_check_b self_value_check n x := by kernel_rfl
theorem okb_value_check (self_value_check : Ev.Val × Int × Unit → Option (Int × Unit)) (h_value_check : Contract Tryd.prog 133 F_value_check self_value_check) (n : Nat) : Contract Tryd.prog 133 F_value_check (value_check_b self_value_check n) :=
  Contract.of_ev (c := C_value_check) (N := 114) Tryd.func133 (by kernel_rfl) (by kernel_rfl) (by kernel_rfl) (by kernel_rfl) (O_value_check_ok self_value_check h_value_check n) dorcNil_ok (.of (l := [(1, (lbody 1000 C_value_check 0))]) (by kernel_rfl) ⟨.head (loopL_sound (O_value_check_ok self_value_check h_value_check n) dorcNil_ok (.of (l := []) (by kernel_rfl) trivial) (s_value_check_s1 self_value_check n)), trivial⟩) (e_value_check self_value_check n)
theorem ok_value_check : ∀ n, Contract Tryd.prog 133 F_value_check (value_check n)
  | 0 => fun _ _ h => by cases h
  | n + 1 => okb_value_check _ (ok_value_check n) n

noncomputable def C_value_Check : Code := bodyOf Tryd.f81
noncomputable def M_value_Check : List (Nat × ArgM) := [(133, ⟨[], [], [], true⟩)]
noncomputable def O_value_Check {ρ : Type} (n : Nat) : Orc ρ := orcCons 133 F_value_check (value_check n) (orcNil)
theorem O_value_Check_ok {ρ : Type} (n : Nat) : (O_value_Check n : Orc ρ).ok Tryd.prog := orcCons_ok (by kernel_rfl) (ok_value_check n) (orcNil_ok)
noncomputable def L_value_Check {ρ : Type} (n : Nat) : LOrc ρ := lorcNil
omit [Tabs] [UTabs] in
theorem e_value_Check (n : Nat) (x) : evF Tryd.prog 5 TT M_value_Check F_value_Check (O_value_Check n) (L_value_Check n) dorcNil ⟨[], [], []⟩ [.tmp 2] C_value_Check x = value_Check n x := by kernel_rfl
theorem ok_value_Check (n : Nat) : Contract Tryd.prog 81 F_value_Check (value_Check n) :=
  Contract.of_ev (c := C_value_Check) (N := 5) Tryd.func81 (by kernel_rfl) (by kernel_rfl) (by kernel_rfl) (by kernel_rfl) (O_value_Check_ok n) dorcNil_ok (.of (l := []) (by kernel_rfl) trivial) (e_value_Check n)

noncomputable def F_bag_Compare : FnT := ⟨2, ⟨[], [(0, (.lst .val)), (1, (.lst .val))], []⟩, [.v .i64], []⟩
noncomputable def F_slices_CompareFunc_api_Row_api_Row_api_Value_api_Value_value_Order : FnT := ⟨3, ⟨[(2, .fn 84)], [(0, (.lst .val)), (1, (.lst .val))], []⟩, [.v .i64], []⟩
noncomputable def F_value_Order : FnT := ⟨2, ⟨[], [(0, .val), (1, .val)], []⟩, [.v .i64], []⟩
noncomputable def F_cmp_Compare_int : FnT := ⟨2, ⟨[], [(0, .i64), (1, .i64)], []⟩, [.v .i64], []⟩
noncomputable def F_cmp_isNaN_int : FnT := ⟨1, ⟨[], [(0, .i64)], []⟩, [.v .bool], []⟩
noncomputable def C_cmp_isNaN_int : Code := bodyOf Tryd.f168
noncomputable def M_cmp_isNaN_int : List (Nat × ArgM) := []
noncomputable def O_cmp_isNaN_int {ρ : Type} : Orc ρ := orcNil
omit [UTabs] in
theorem O_cmp_isNaN_int_ok {ρ : Type} : (O_cmp_isNaN_int : Orc ρ).ok Tryd.prog := orcNil_ok
noncomputable def L_cmp_isNaN_int {ρ : Type} : LOrc ρ := lorcNil
omit [Tabs] [UTabs] in
theorem e_cmp_isNaN_int (x) : evF Tryd.prog 6 TT M_cmp_isNaN_int F_cmp_isNaN_int (O_cmp_isNaN_int) (L_cmp_isNaN_int) dorcNil ⟨[], [], []⟩ [.tmp 2] C_cmp_isNaN_int x = cmp_isNaN_int x := by kernel_rfl
omit [UTabs] in
theorem ok_cmp_isNaN_int : Contract Tryd.prog 168 F_cmp_isNaN_int (cmp_isNaN_int) :=
  Contract.of_ev (c := C_cmp_isNaN_int) (N := 6) Tryd.func168 (by kernel_rfl) (by kernel_rfl) (by kernel_rfl) (by kernel_rfl) (O_cmp_isNaN_int_ok) dorcNil_ok (.of (l := []) (by kernel_rfl) trivial) (e_cmp_isNaN_int)

noncomputable def C_cmp_Compare_int : Code := bodyOf Tryd.f124
noncomputable def M_cmp_Compare_int : List (Nat × ArgM) := [(168, ⟨[], [], [], true⟩)]
noncomputable def O_cmp_Compare_int {ρ : Type} : Orc ρ := orcCons 168 F_cmp_isNaN_int (cmp_isNaN_int) (orcNil)
omit [UTabs] in
theorem O_cmp_Compare_int_ok {ρ : Type} : (O_cmp_Compare_int : Orc ρ).ok Tryd.prog := orcCons_ok (by kernel_rfl) (ok_cmp_isNaN_int) (orcNil_ok)
noncomputable def L_cmp_Compare_int {ρ : Type} : LOrc ρ := lorcNil
omit [Tabs] [UTabs] in
theorem e_cmp_Compare_int (x) : evF Tryd.prog 20 TT M_cmp_Compare_int F_cmp_Compare_int (O_cmp_Compare_int) (L_cmp_Compare_int) dorcNil ⟨[], [], []⟩ [.tmp 4] C_cmp_Compare_int x = cmp_Compare_int x := by kernel_rfl
omit [UTabs] in
theorem ok_cmp_Compare_int : Contract Tryd.prog 124 F_cmp_Compare_int (cmp_Compare_int) :=
  Contract.of_ev (c := C_cmp_Compare_int) (N := 20) Tryd.func124 (by kernel_rfl) (by kernel_rfl) (by kernel_rfl) (by kernel_rfl) (O_cmp_Compare_int_ok) dorcNil_ok (.of (l := []) (by kernel_rfl) trivial) (e_cmp_Compare_int)

noncomputable def F_cmp_Compare_string : FnT := ⟨2, ⟨[], [(0, .str), (1, .str)], []⟩, [.v .i64], []⟩
noncomputable def F_cmp_isNaN_string : FnT := ⟨1, ⟨[], [(0, .str)], []⟩, [.v .bool], []⟩
noncomputable def C_cmp_isNaN_string : Code := bodyOf Tryd.f179
noncomputable def M_cmp_isNaN_string : List (Nat × ArgM) := []
noncomputable def O_cmp_isNaN_string {ρ : Type} : Orc ρ := orcNil
omit [UTabs] in
theorem O_cmp_isNaN_string_ok {ρ : Type} : (O_cmp_isNaN_string : Orc ρ).ok Tryd.prog := orcNil_ok
noncomputable def L_cmp_isNaN_string {ρ : Type} : LOrc ρ := lorcNil
omit [Tabs] [UTabs] in
theorem e_cmp_isNaN_string (x) : evF Tryd.prog 6 TT M_cmp_isNaN_string F_cmp_isNaN_string (O_cmp_isNaN_string) (L_cmp_isNaN_string) dorcNil ⟨[], [], []⟩ [.tmp 2] C_cmp_isNaN_string x = cmp_isNaN_string x := by kernel_rfl
omit [UTabs] in
theorem ok_cmp_isNaN_string : Contract Tryd.prog 179 F_cmp_isNaN_string (cmp_isNaN_string) :=
  Contract.of_ev (c := C_cmp_isNaN_string) (N := 6) Tryd.func179 (by kernel_rfl) (by kernel_rfl) (by kernel_rfl) (by kernel_rfl) (O_cmp_isNaN_string_ok) dorcNil_ok (.of (l := []) (by kernel_rfl) trivial) (e_cmp_isNaN_string)

noncomputable def C_cmp_Compare_string : Code := bodyOf Tryd.f136
noncomputable def M_cmp_Compare_string : List (Nat × ArgM) := [(179, ⟨[], [], [], true⟩)]
noncomputable def O_cmp_Compare_string {ρ : Type} : Orc ρ := orcCons 179 F_cmp_isNaN_string (cmp_isNaN_string) (orcNil)
omit [UTabs] in
theorem O_cmp_Compare_string_ok {ρ : Type} : (O_cmp_Compare_string : Orc ρ).ok Tryd.prog := orcCons_ok (by kernel_rfl) (ok_cmp_isNaN_string) (orcNil_ok)
noncomputable def L_cmp_Compare_string {ρ : Type} : LOrc ρ := lorcNil
omit [Tabs] [UTabs] in
theorem e_cmp_Compare_string (x) : evF Tryd.prog 20 TT M_cmp_Compare_string F_cmp_Compare_string (O_cmp_Compare_string) (L_cmp_Compare_string) dorcNil ⟨[], [], []⟩ [.tmp 4] C_cmp_Compare_string x = cmp_Compare_string x := by kernel_rfl
omit [UTabs] in
theorem ok_cmp_Compare_string : Contract Tryd.prog 136 F_cmp_Compare_string (cmp_Compare_string) :=
  Contract.of_ev (c := C_cmp_Compare_string) (N := 20) Tryd.func136 (by kernel_rfl) (by kernel_rfl) (by kernel_rfl) (by kernel_rfl) (O_cmp_Compare_string_ok) dorcNil_ok (.of (l := []) (by kernel_rfl) trivial) (e_cmp_Compare_string)

noncomputable def F_slices_CompareFunc_api_Value_api_Value_api_Value_api_Value_value_Order : FnT := ⟨3, ⟨[(2, .fn 84)], [(0, (.lst .val)), (1, (.lst .val))], []⟩, [.v .i64], []⟩
noncomputable def C_slices_CompareFunc_api_Value_api_Value_api_Value_api_Value_value_Order : Code := bodyOf Tryd.f137
noncomputable def M_slices_CompareFunc_api_Value_api_Value_api_Value_api_Value_value_Order : List (Nat × ArgM) := [(84, ⟨[], [], [], true⟩)]
noncomputable def O_slices_CompareFunc_api_Value_api_Value_api_Value_api_Value_value_Order {ρ : Type} (self_value_Order : Ev.Val × Ev.Val × Unit → Option (Int × Unit)) (n : Nat) : Orc ρ := orcCons 84 F_value_Order (self_value_Order) (orcNil)
omit [UTabs] in
theorem O_slices_CompareFunc_api_Value_api_Value_api_Value_api_Value_value_Order_ok {ρ : Type} (self_value_Order : Ev.Val × Ev.Val × Unit → Option (Int × Unit)) (h_value_Order : Contract Tryd.prog 84 F_value_Order self_value_Order) (n : Nat) : (O_slices_CompareFunc_api_Value_api_Value_api_Value_api_Value_value_Order self_value_Order n : Orc ρ).ok Tryd.prog := orcCons_ok (by kernel_rfl) (h_value_Order) (orcNil_ok)
noncomputable def T_slices_CompareFunc_api_Value_api_Value_api_Value_api_Value_value_Order_s0 : Tm := ⟨[(2, .fn 84)], [(0, (.lst .val)), (1, (.lst .val)), (11, (.lst .val)), (12, .i64), (13, .i64)], []⟩
noncomputable def X_slices_CompareFunc_api_Value_api_Value_api_Value_api_Value_value_Order_s0 : Tm := ⟨[], [(0, (.lst .val)), (1, (.lst .val))], []⟩
noncomputable def R_slices_CompareFunc_api_Value_api_Value_api_Value_api_Value_value_Order_s0 : Tm := ⟨[], [(6, .i64)], []⟩
noncomputable def L_slices_CompareFunc_api_Value_api_Value_api_Value_api_Value_value_Order_s0 {ρ : Type} (self_value_Order : Ev.Val × Ev.Val × Unit → Option (Int × Unit)) (n : Nat) : LOrc ρ := lorcNil
omit [Tabs] [UTabs] in
theorem s_slices_CompareFunc_api_Value_api_Value_api_Value_api_Value_value_Order_s0 {ρ : Type} (self_value_Order : Ev.Val × Ev.Val × Unit → Option (Int × Unit)) (n : Nat) (rec : T_slices_CompareFunc_api_Value_api_Value_api_Value_api_Value_value_Order_s0.den → Option ρ) kx kr s : dStep Tryd.prog 39 TT M_slices_CompareFunc_api_Value_api_Value_api_Value_api_Value_value_Order (O_slices_CompareFunc_api_Value_api_Value_api_Value_api_Value_value_Order self_value_Order n) (L_slices_CompareFunc_api_Value_api_Value_api_Value_api_Value_value_Order_s0 self_value_Order n) dorcNil 0 (lbody 1000 C_slices_CompareFunc_api_Value_api_Value_api_Value_api_Value_value_Order 0) T_slices_CompareFunc_api_Value_api_Value_api_Value_api_Value_value_Order_s0 X_slices_CompareFunc_api_Value_api_Value_api_Value_api_Value_value_Order_s0 R_slices_CompareFunc_api_Value_api_Value_api_Value_api_Value_value_Order_s0 ⟨[], [], []⟩ rec kx kr s = slices_CompareFunc_api_Value_api_Value_api_Value_api_Value_value_Order_s0 self_value_Order n rec kx kr s := by kernel_rfl
noncomputable def L_slices_CompareFunc_api_Value_api_Value_api_Value_api_Value_value_Order {ρ : Type} (self_value_Order : Ev.Val × Ev.Val × Unit → Option (Int × Unit)) (n : Nat) : LOrc ρ := lorcCons 0 (loopL 39 0 n T_slices_CompareFunc_api_Value_api_Value_api_Value_api_Value_value_Order_s0 X_slices_CompareFunc_api_Value_api_Value_api_Value_api_Value_value_Order_s0 R_slices_CompareFunc_api_Value_api_Value_api_Value_api_Value_value_Order_s0 ⟨[], [], []⟩ (slices_CompareFunc_api_Value_api_Value_api_Value_api_Value_value_Order_s0 self_value_Order n)) (lorcNil)
omit [Tabs] [UTabs] in
theorem e_slices_CompareFunc_api_Value_api_Value_api_Value_api_Value_value_Order (self_value_Order : Ev.Val × Ev.Val × Unit → Option (Int × Unit)) (n : Nat) (x) : evF Tryd.prog 39 TT M_slices_CompareFunc_api_Value_api_Value_api_Value_api_Value_value_Order F_slices_CompareFunc_api_Value_api_Value_api_Value_api_Value_value_Order (O_slices_CompareFunc_api_Value_api_Value_api_Value_api_Value_value_Order self_value_Order n) (L_slices_CompareFunc_api_Value_api_Value_api_Value_api_Value_value_Order self_value_Order n) dorcNil ⟨[], [], []⟩ [.tmp 6] C_slices_CompareFunc_api_Value_api_Value_api_Value_api_Value_value_Order x = slices_CompareFunc_api_Value_api_Value_api_Value_api_Value_value_Order self_value_Order n x := by kernel_rfl
omit [UTabs] in
theorem ok_slices_CompareFunc_api_Value_api_Value_api_Value_api_Value_value_Order (self_value_Order : Ev.Val × Ev.Val × Unit → Option (Int × Unit)) (h_value_Order : Contract Tryd.prog 84 F_value_Order self_value_Order) (n : Nat) : Contract Tryd.prog 137 F_slices_CompareFunc_api_Value_api_Value_api_Value_api_Value_value_Order (slices_CompareFunc_api_Value_api_Value_api_Value_api_Value_value_Order self_value_Order n) :=
  Contract.of_ev (c := C_slices_CompareFunc_api_Value_api_Value_api_Value_api_Value_value_Order) (N := 39) Tryd.func137 (by kernel_rfl) (by kernel_rfl) (by kernel_rfl) (by kernel_rfl) (O_slices_CompareFunc_api_Value_api_Value_api_Value_api_Value_value_Order_ok self_value_Order h_value_Order n) dorcNil_ok (.of (l := [(0, (lbody 1000 C_slices_CompareFunc_api_Value_api_Value_api_Value_api_Value_value_Order 0))]) (by kernel_rfl) ⟨.head (loopL_sound (O_slices_CompareFunc_api_Value_api_Value_api_Value_api_Value_value_Order_ok self_value_Order h_value_Order n) dorcNil_ok (.of (l := []) (by kernel_rfl) trivial) (s_slices_CompareFunc_api_Value_api_Value_api_Value_api_Value_value_Order_s0 self_value_Order n)), trivial⟩) (e_slices_CompareFunc_api_Value_api_Value_api_Value_api_Value_value_Order self_value_Order n)

noncomputable def F_cmp_Or_int : FnT := ⟨1, ⟨[], [(0, (.lst .i64))], []⟩, [.v .i64], []⟩
noncomputable def C_cmp_Or_int : Code := bodyOf Tryd.f135
noncomputable def M_cmp_Or_int : List (Nat × ArgM) := []
noncomputable def O_cmp_Or_int {ρ : Type} (n : Nat) : Orc ρ := orcNil
omit [UTabs] in
theorem O_cmp_Or_int_ok {ρ : Type} (n : Nat) : (O_cmp_Or_int n : Orc ρ).ok Tryd.prog := orcNil_ok
noncomputable def T_cmp_Or_int_s0 : Tm := ⟨[], [(3, .i64), (6, (.lst .i64)), (7, .i64), (8, .i64)], []⟩
noncomputable def X_cmp_Or_int_s0 : Tm := ⟨[], [(3, .i64)], []⟩
noncomputable def R_cmp_Or_int_s0 : Tm := ⟨[], [(2, .i64)], []⟩
noncomputable def L_cmp_Or_int_s0 {ρ : Type} (n : Nat) : LOrc ρ := lorcNil
omit [Tabs] [UTabs] in
theorem s_cmp_Or_int_s0 {ρ : Type} (n : Nat) (rec : T_cmp_Or_int_s0.den → Option ρ) kx kr s : dStep Tryd.prog 18 TT M_cmp_Or_int (O_cmp_Or_int n) (L_cmp_Or_int_s0 n) dorcNil 0 (lbody 1000 C_cmp_Or_int 0) T_cmp_Or_int_s0 X_cmp_Or_int_s0 R_cmp_Or_int_s0 ⟨[], [], []⟩ rec kx kr s = cmp_Or_int_s0 n rec kx kr s := by kernel_rfl
noncomputable def L_cmp_Or_int {ρ : Type} (n : Nat) : LOrc ρ := lorcCons 0 (loopL 18 0 n T_cmp_Or_int_s0 X_cmp_Or_int_s0 R_cmp_Or_int_s0 ⟨[], [], []⟩ (cmp_Or_int_s0 n)) (lorcNil)
omit [Tabs] [UTabs] in
theorem e_cmp_Or_int (n : Nat) (x) : evF Tryd.prog 18 TT M_cmp_Or_int F_cmp_Or_int (O_cmp_Or_int n) (L_cmp_Or_int n) dorcNil ⟨[], [], []⟩ [.tmp 2] C_cmp_Or_int x = cmp_Or_int n x := by kernel_rfl
omit [UTabs] in
theorem ok_cmp_Or_int (n : Nat) : Contract Tryd.prog 135 F_cmp_Or_int (cmp_Or_int n) :=
  Contract.of_ev (c := C_cmp_Or_int) (N := 18) Tryd.func135 (by kernel_rfl) (by kernel_rfl) (by kernel_rfl) (by kernel_rfl) (O_cmp_Or_int_ok n) dorcNil_ok (.of (l := [(0, (lbody 1000 C_cmp_Or_int 0))]) (by kernel_rfl) ⟨.head (loopL_sound (O_cmp_Or_int_ok n) dorcNil_ok (.of (l := []) (by kernel_rfl) trivial) (s_cmp_Or_int_s0 n)), trivial⟩) (e_cmp_Or_int n)

noncomputable def C_value_Order : Code := bodyOf Tryd.f84
noncomputable def M_value_Order : List (Nat × ArgM) := [(124, ⟨[], [], [], true⟩), (136, ⟨[], [], [], true⟩), (137, ⟨[], [], [], true⟩), (135, ⟨[], [], [], true⟩)]
noncomputable def O_value_Order {ρ : Type} (self_value_Order : Ev.Val × Ev.Val × Unit → Option (Int × Unit)) (n : Nat) : Orc ρ := orcCons 124 F_cmp_Compare_int (cmp_Compare_int) (orcCons 136 F_cmp_Compare_string (cmp_Compare_string) (orcCons 137 F_slices_CompareFunc_api_Value_api_Value_api_Value_api_Value_value_Order (slices_CompareFunc_api_Value_api_Value_api_Value_api_Value_value_Order self_value_Order n) (orcCons 135 F_cmp_Or_int (cmp_Or_int n) (orcNil))))
omit [UTabs] in
theorem O_value_Order_ok {ρ : Type} (self_value_Order : Ev.Val × Ev.Val × Unit → Option (Int × Unit)) (h_value_Order : Contract Tryd.prog 84 F_value_Order self_value_Order) (n : Nat) : (O_value_Order self_value_Order n : Orc ρ).ok Tryd.prog := orcCons_ok (by kernel_rfl) (ok_cmp_Compare_int) (orcCons_ok (by kernel_rfl) (ok_cmp_Compare_string) (orcCons_ok (by kernel_rfl) (ok_slices_CompareFunc_api_Value_api_Value_api_Value_api_Value_value_Order _ h_value_Order n) (orcCons_ok (by kernel_rfl) (ok_cmp_Or_int n) (orcNil_ok))))
noncomputable def L_value_Order {ρ : Type} (self_value_Order : Ev.Val × Ev.Val × Unit → Option (Int × Unit)) (n : Nat) : LOrc ρ := lorcNil
omit [Tabs] [UTabs] in
theorem e_value_Order (self_value_Order : Ev.Val × Ev.Val × Unit → Option (Int × Unit)) (n : Nat) (x) : evF Tryd.prog 31 TT M_value_Order F_value_Order (O_value_Order self_value_Order n) (L_value_Order self_value_Order n) (evDraw Tryd.prog 31 TT M_value_Order (O_value_Order self_value_Order n)) ⟨[], [], []⟩ [.tmp 4] C_value_Order x = value_Order_b self_value_Order n x := by kernel_rfl
omit [UTabs] in
theorem okb_value_Order (self_value_Order : Ev.Val × Ev.Val × Unit → Option (Int × Unit)) (h_value_Order : Contract Tryd.prog 84 F_value_Order self_value_Order) (n : Nat) : Contract Tryd.prog 84 F_value_Order (value_Order_b self_value_Order n) :=
  Contract.of_ev (c := C_value_Order) (N := 31) Tryd.func84 (by kernel_rfl) (by kernel_rfl) (by kernel_rfl) (by kernel_rfl) (O_value_Order_ok self_value_Order h_value_Order n) (evDraw_ok (O_value_Order_ok self_value_Order h_value_Order n) (by kernel_rfl)) (.of (l := []) (by kernel_rfl) trivial) (e_value_Order self_value_Order n)
omit [UTabs] in
theorem ok_value_Order : ∀ n, Contract Tryd.prog 84 F_value_Order (value_Order n)
  | 0 => fun _ _ h => by cases h
  | n + 1 => okb_value_Order _ (ok_value_Order n) n

noncomputable def C_slices_CompareFunc_api_Row_api_Row_api_Value_api_Value_value_Order : Code := bodyOf Tryd.f83
noncomputable def M_slices_CompareFunc_api_Row_api_Row_api_Value_api_Value_value_Order : List (Nat × ArgM) := [(84, ⟨[], [], [], true⟩)]
noncomputable def O_slices_CompareFunc_api_Row_api_Row_api_Value_api_Value_value_Order {ρ : Type} (n : Nat) : Orc ρ := orcCons 84 F_value_Order (value_Order n) (orcNil)
omit [UTabs] in
theorem O_slices_CompareFunc_api_Row_api_Row_api_Value_api_Value_value_Order_ok {ρ : Type} (n : Nat) : (O_slices_CompareFunc_api_Row_api_Row_api_Value_api_Value_value_Order n : Orc ρ).ok Tryd.prog := orcCons_ok (by kernel_rfl) (ok_value_Order n) (orcNil_ok)
noncomputable def T_slices_CompareFunc_api_Row_api_Row_api_Value_api_Value_value_Order_s0 : Tm := ⟨[(2, .fn 84)], [(0, (.lst .val)), (1, (.lst .val)), (11, (.lst .val)), (12, .i64), (13, .i64)], []⟩
noncomputable def X_slices_CompareFunc_api_Row_api_Row_api_Value_api_Value_value_Order_s0 : Tm := ⟨[], [(0, (.lst .val)), (1, (.lst .val))], []⟩
noncomputable def R_slices_CompareFunc_api_Row_api_Row_api_Value_api_Value_value_Order_s0 : Tm := ⟨[], [(6, .i64)], []⟩
noncomputable def L_slices_CompareFunc_api_Row_api_Row_api_Value_api_Value_value_Order_s0 {ρ : Type} (n : Nat) : LOrc ρ := lorcNil
omit [Tabs] [UTabs] in
theorem s_slices_CompareFunc_api_Row_api_Row_api_Value_api_Value_value_Order_s0 {ρ : Type} (n : Nat) (rec : T_slices_CompareFunc_api_Row_api_Row_api_Value_api_Value_value_Order_s0.den → Option ρ) kx kr s : dStep Tryd.prog 39 TT M_slices_CompareFunc_api_Row_api_Row_api_Value_api_Value_value_Order (O_slices_CompareFunc_api_Row_api_Row_api_Value_api_Value_value_Order n) (L_slices_CompareFunc_api_Row_api_Row_api_Value_api_Value_value_Order_s0 n) dorcNil 0 (lbody 1000 C_slices_CompareFunc_api_Row_api_Row_api_Value_api_Value_value_Order 0) T_slices_CompareFunc_api_Row_api_Row_api_Value_api_Value_value_Order_s0 X_slices_CompareFunc_api_Row_api_Row_api_Value_api_Value_value_Order_s0 R_slices_CompareFunc_api_Row_api_Row_api_Value_api_Value_value_Order_s0 ⟨[], [], []⟩ rec kx kr s = slices_CompareFunc_api_Row_api_Row_api_Value_api_Value_value_Order_s0 n rec kx kr s := by kernel_rfl
noncomputable def L_slices_CompareFunc_api_Row_api_Row_api_Value_api_Value_value_Order {ρ : Type} (n : Nat) : LOrc ρ := lorcCons 0 (loopL 39 0 n T_slices_CompareFunc_api_Row_api_Row_api_Value_api_Value_value_Order_s0 X_slices_CompareFunc_api_Row_api_Row_api_Value_api_Value_value_Order_s0 R_slices_CompareFunc_api_Row_api_Row_api_Value_api_Value_value_Order_s0 ⟨[], [], []⟩ (slices_CompareFunc_api_Row_api_Row_api_Value_api_Value_value_Order_s0 n)) (lorcNil)
omit [Tabs] [UTabs] in
theorem e_slices_CompareFunc_api_Row_api_Row_api_Value_api_Value_value_Order (n : Nat) (x) : evF Tryd.prog 39 TT M_slices_CompareFunc_api_Row_api_Row_api_Value_api_Value_value_Order F_slices_CompareFunc_api_Row_api_Row_api_Value_api_Value_value_Order (O_slices_CompareFunc_api_Row_api_Row_api_Value_api_Value_value_Order n) (L_slices_CompareFunc_api_Row_api_Row_api_Value_api_Value_value_Order n) dorcNil ⟨[], [], []⟩ [.tmp 6] C_slices_CompareFunc_api_Row_api_Row_api_Value_api_Value_value_Order x = slices_CompareFunc_api_Row_api_Row_api_Value_api_Value_value_Order n x := by kernel_rfl
omit [UTabs] in
theorem ok_slices_CompareFunc_api_Row_api_Row_api_Value_api_Value_value_Order (n : Nat) : Contract Tryd.prog 83 F_slices_CompareFunc_api_Row_api_Row_api_Value_api_Value_value_Order (slices_CompareFunc_api_Row_api_Row_api_Value_api_Value_value_Order n) :=
  Contract.of_ev (c := C_slices_CompareFunc_api_Row_api_Row_api_Value_api_Value_value_Order) (N := 39) Tryd.func83 (by kernel_rfl) (by kernel_rfl) (by kernel_rfl) (by kernel_rfl) (O_slices_CompareFunc_api_Row_api_Row_api_Value_api_Value_value_Order_ok n) dorcNil_ok (.of (l := [(0, (lbody 1000 C_slices_CompareFunc_api_Row_api_Row_api_Value_api_Value_value_Order 0))]) (by kernel_rfl) ⟨.head (loopL_sound (O_slices_CompareFunc_api_Row_api_Row_api_Value_api_Value_value_Order_ok n) dorcNil_ok (.of (l := []) (by kernel_rfl) trivial) (s_slices_CompareFunc_api_Row_api_Row_api_Value_api_Value_value_Order_s0 n)), trivial⟩) (e_slices_CompareFunc_api_Row_api_Row_api_Value_api_Value_value_Order n)

noncomputable def C_bag_Compare : Code := bodyOf Tryd.f32
noncomputable def M_bag_Compare : List (Nat × ArgM) := [(83, ⟨[], [], [], true⟩)]
noncomputable def O_bag_Compare {ρ : Type} (n : Nat) : Orc ρ := orcCons 83 F_slices_CompareFunc_api_Row_api_Row_api_Value_api_Value_value_Order (slices_CompareFunc_api_Row_api_Row_api_Value_api_Value_value_Order n) (orcNil)
omit [UTabs] in
theorem O_bag_Compare_ok {ρ : Type} (n : Nat) : (O_bag_Compare n : Orc ρ).ok Tryd.prog := orcCons_ok (by kernel_rfl) (ok_slices_CompareFunc_api_Row_api_Row_api_Value_api_Value_value_Order n) (orcNil_ok)
noncomputable def L_bag_Compare {ρ : Type} (n : Nat) : LOrc ρ := lorcNil
omit [Tabs] [UTabs] in
theorem e_bag_Compare (n : Nat) (x) : evF Tryd.prog 8 TT M_bag_Compare F_bag_Compare (O_bag_Compare n) (L_bag_Compare n) dorcNil ⟨[], [], []⟩ [.tmp 4] C_bag_Compare x = bag_Compare n x := by kernel_rfl
omit [UTabs] in
theorem ok_bag_Compare (n : Nat) : Contract Tryd.prog 32 F_bag_Compare (bag_Compare n) :=
  Contract.of_ev (c := C_bag_Compare) (N := 8) Tryd.func32 (by kernel_rfl) (by kernel_rfl) (by kernel_rfl) (by kernel_rfl) (O_bag_Compare_ok n) dorcNil_ok (.of (l := []) (by kernel_rfl) trivial) (e_bag_Compare n)

noncomputable def C_bag_Check : Code := bodyOf Tryd.f30
noncomputable def M_bag_Check : List (Nat × ArgM) := [(81, ⟨[], [], [], true⟩), (32, ⟨[], [], [], true⟩)]
noncomputable def O_bag_Check {ρ : Type} (n : Nat) : Orc ρ := orcCons 81 F_value_Check (value_Check n) (orcCons 32 F_bag_Compare (bag_Compare n) (orcNil))
theorem O_bag_Check_ok {ρ : Type} (n : Nat) : (O_bag_Check n : Orc ρ).ok Tryd.prog := orcCons_ok (by kernel_rfl) (ok_value_Check n) (orcCons_ok (by kernel_rfl) (ok_bag_Compare n) (orcNil_ok))
noncomputable def T_bag_Check_s2 : Tm := ⟨[(4, .ptr 4 0)], [(0, (.lst .cnt)), (3, .i64), (11, (.lst .cnt)), (12, .i64), (13, .i64), (23, (.lst .val)), (24, .i64), (25, .i64)], [(4, .box [.d .cnt])]⟩
noncomputable def X_bag_Check_s2 : Tm := ⟨[(4, .ptr 4 0)], [(0, (.lst .cnt)), (3, .i64), (11, (.lst .cnt)), (12, .i64), (13, .i64)], [(4, .box [.d .cnt])]⟩
noncomputable def R_bag_Check_s2 : Tm := ⟨[], [(2, .i64)], []⟩
noncomputable def L_bag_Check_s2 {ρ : Type} (n : Nat) : LOrc ρ := lorcNil
omit [Tabs] [UTabs] in
theorem s_bag_Check_s2 {ρ : Type} (n : Nat) (rec : T_bag_Check_s2.den → Option ρ) kx kr s : dStep Tryd.prog 63 TT M_bag_Check (O_bag_Check n) (L_bag_Check_s2 n) (evDraw Tryd.prog 63 TT M_bag_Check (O_bag_Check n)) 2 (lbody 0 (lbody 1000 C_bag_Check 0) 0) T_bag_Check_s2 X_bag_Check_s2 R_bag_Check_s2 ⟨[], [], []⟩ rec kx kr s = bag_Check_s2 n rec kx kr s := by kernel_rfl
noncomputable def T_bag_Check_s0 : Tm := ⟨[], [(0, (.lst .cnt)), (11, (.lst .cnt)), (12, .i64), (13, .i64)], []⟩
noncomputable def X_bag_Check_s0 : Tm := ⟨[], [], []⟩
noncomputable def R_bag_Check_s0 : Tm := ⟨[], [(2, .i64)], []⟩
noncomputable def L_bag_Check_s0 {ρ : Type} (n : Nat) : LOrc ρ := lorcCons 2 (loopL 63 2 n T_bag_Check_s2 X_bag_Check_s2 R_bag_Check_s2 ⟨[], [], []⟩ (bag_Check_s2 n)) (lorcNil)
omit [Tabs] [UTabs] in
theorem s_bag_Check_s0 {ρ : Type} (n : Nat) (rec : T_bag_Check_s0.den → Option ρ) kx kr s : dStep Tryd.prog 63 TT M_bag_Check (O_bag_Check n) (L_bag_Check_s0 n) (evDraw Tryd.prog 63 TT M_bag_Check (O_bag_Check n)) 0 (lbody 1000 C_bag_Check 0) T_bag_Check_s0 X_bag_Check_s0 R_bag_Check_s0 ⟨[], [], []⟩ rec kx kr s = bag_Check_s0 n rec kx kr s := by kernel_rfl
noncomputable def L_bag_Check {ρ : Type} (n : Nat) : LOrc ρ := lorcCons 0 (loopL 63 0 n T_bag_Check_s0 X_bag_Check_s0 R_bag_Check_s0 ⟨[], [], []⟩ (bag_Check_s0 n)) (lorcNil)
omit [Tabs] [UTabs] in
theorem e_bag_Check (n : Nat) (x) : evF Tryd.prog 63 TT M_bag_Check F_bag_Check (O_bag_Check n) (L_bag_Check n) (evDraw Tryd.prog 63 TT M_bag_Check (O_bag_Check n)) ⟨[], [], []⟩ [.tmp 2] C_bag_Check x = bag_Check n x := by kernel_rfl
theorem ok_bag_Check (n : Nat) : Contract Tryd.prog 30 F_bag_Check (bag_Check n) :=
  Contract.of_ev (c := C_bag_Check) (N := 63) Tryd.func30 (by kernel_rfl) (by kernel_rfl) (by kernel_rfl) (by kernel_rfl) (O_bag_Check_ok n) (evDraw_ok (O_bag_Check_ok n) (by kernel_rfl)) (.of (l := [(0, (lbody 1000 C_bag_Check 0))]) (by kernel_rfl) ⟨.head (loopL_sound (O_bag_Check_ok n) (evDraw_ok (O_bag_Check_ok n) (by kernel_rfl)) (.of (l := [(2, (lbody 0 (lbody 1000 C_bag_Check 0) 0))]) (by kernel_rfl) ⟨.head (loopL_sound (O_bag_Check_ok n) (evDraw_ok (O_bag_Check_ok n) (by kernel_rfl)) (.of (l := []) (by kernel_rfl) trivial) (s_bag_Check_s2 n)), trivial⟩) (s_bag_Check_s0 n)), trivial⟩) (e_bag_Check n)

noncomputable def F_bag_Distinct_1 : FnT := ⟨1, ⟨[(0, .ptr 1000000 0)], [], [(1000000, .box [.d (.lst .cnt)])]⟩, [.v (.lst .cnt)], [(1000000, .box [.d (.lst .cnt)])]⟩
noncomputable def F_bag_CopyRow : FnT := ⟨1, ⟨[], [(0, (.lst .val))], []⟩, [.v (.lst .val)], []⟩
noncomputable def F_value_Copy : FnT := ⟨1, ⟨[], [(0, .val)], []⟩, [.v .val], []⟩
noncomputable def C_value_Copy : Code := bodyOf Tryd.f159
noncomputable def M_value_Copy : List (Nat × ArgM) := []
noncomputable def O_value_Copy {ρ : Type} (self_value_Copy : Ev.Val × Unit → Option (Ev.Val × Unit)) (n : Nat) : Orc ρ := orcCons 159 F_value_Copy (self_value_Copy) (orcNil)
omit [UTabs] in
theorem O_value_Copy_ok {ρ : Type} (self_value_Copy : Ev.Val × Unit → Option (Ev.Val × Unit)) (h_value_Copy : Contract Tryd.prog 159 F_value_Copy self_value_Copy) (n : Nat) : (O_value_Copy self_value_Copy n : Orc ρ).ok Tryd.prog := orcCons_ok (by kernel_rfl) (h_value_Copy) (orcNil_ok)
noncomputable def T_value_Copy_s0 : Tm := ⟨[(1, .ptr 1 0), (2, .ptr 2 0)], [(9, (.lst .val)), (10, .i64), (11, .i64)], [(1, .box [.d .i64, .d .i64, .d .str, .ref (.own 300043)]), (2, .box [.d .val]), (300043, .arr 39 .val)]⟩
noncomputable def X_value_Copy_s0 : Tm := ⟨[(1, .ptr 1 0), (2, .ptr 2 0)], [], [(1, .box [.d .i64, .d .i64, .d .str, .ref (.own 300043)]), (2, .box [.d .val]), (300043, .arr 39 .val)]⟩
noncomputable def R_value_Copy_s0 : Tm := ⟨[], [], []⟩
noncomputable def L_value_Copy_s0 {ρ : Type} (self_value_Copy : Ev.Val × Unit → Option (Ev.Val × Unit)) (n : Nat) : LOrc ρ := lorcNil
omit [Tabs] [UTabs] in
theorem s_value_Copy_s0 {ρ : Type} (self_value_Copy : Ev.Val × Unit → Option (Ev.Val × Unit)) (n : Nat) (rec : T_value_Copy_s0.den → Option ρ) kx kr s : dStep Tryd.prog 24 TT M_value_Copy (O_value_Copy self_value_Copy n) (L_value_Copy_s0 self_value_Copy n) (evDraw Tryd.prog 24 TT M_value_Copy (O_value_Copy self_value_Copy n)) 0 (lbody 1000 C_value_Copy 0) T_value_Copy_s0 X_value_Copy_s0 R_value_Copy_s0 ⟨[], [], [(1, 3, 300043, 39, 4)]⟩ rec kx kr s = value_Copy_s0 self_value_Copy n rec kx kr s := by kernel_rfl
noncomputable def L_value_Copy {ρ : Type} (self_value_Copy : Ev.Val × Unit → Option (Ev.Val × Unit)) (n : Nat) : LOrc ρ := lorcCons 0 (loopL 24 0 n T_value_Copy_s0 X_value_Copy_s0 R_value_Copy_s0 ⟨[], [], [(1, 3, 300043, 39, 4)]⟩ (value_Copy_s0 self_value_Copy n)) (lorcNil)
omit [Tabs] [UTabs] in
theorem e_value_Copy (self_value_Copy : Ev.Val × Unit → Option (Ev.Val × Unit)) (n : Nat) (x) : evF Tryd.prog 24 TT M_value_Copy F_value_Copy (O_value_Copy self_value_Copy n) (L_value_Copy self_value_Copy n) (evDraw Tryd.prog 24 TT M_value_Copy (O_value_Copy self_value_Copy n)) ⟨[], [], []⟩ [.cell 2 39] C_value_Copy x = value_Copy_b self_value_Copy n x := by kernel_rfl
omit [UTabs] in
theorem okb_value_Copy (self_value_Copy : Ev.Val × Unit → Option (Ev.Val × Unit)) (h_value_Copy : Contract Tryd.prog 159 F_value_Copy self_value_Copy) (n : Nat) : Contract Tryd.prog 159 F_value_Copy (value_Copy_b self_value_Copy n) :=
  Contract.of_ev (c := C_value_Copy) (N := 24) Tryd.func159 (by kernel_rfl) (by kernel_rfl) (by kernel_rfl) (by kernel_rfl) (O_value_Copy_ok self_value_Copy h_value_Copy n) (evDraw_ok (O_value_Copy_ok self_value_Copy h_value_Copy n) (by kernel_rfl)) (.of (l := [(0, (lbody 1000 C_value_Copy 0))]) (by kernel_rfl) ⟨.head (loopL_sound (O_value_Copy_ok self_value_Copy h_value_Copy n) (evDraw_ok (O_value_Copy_ok self_value_Copy h_value_Copy n) (by kernel_rfl)) (.of (l := []) (by kernel_rfl) trivial) (s_value_Copy_s0 self_value_Copy n)), trivial⟩) (e_value_Copy self_value_Copy n)
omit [UTabs] in
theorem ok_value_Copy : ∀ n, Contract Tryd.prog 159 F_value_Copy (value_Copy n)
  | 0 => fun _ _ h => by cases h
  | n + 1 => okb_value_Copy _ (ok_value_Copy n) n

noncomputable def C_bag_CopyRow : Code := bodyOf Tryd.f103
noncomputable def M_bag_CopyRow : List (Nat × ArgM) := []
noncomputable def O_bag_CopyRow {ρ : Type} (n : Nat) : Orc ρ := orcCons 159 F_value_Copy (value_Copy n) (orcNil)
omit [UTabs] in
theorem O_bag_CopyRow_ok {ρ : Type} (n : Nat) : (O_bag_CopyRow n : Orc ρ).ok Tryd.prog := orcCons_ok (by kernel_rfl) (ok_value_Copy n) (orcNil_ok)
noncomputable def T_bag_CopyRow_s0 : Tm := ⟨[(3, .own 3)], [(6, (.lst .val)), (7, .i64), (8, .i64)], [(3, .arr 39 .val)]⟩
noncomputable def X_bag_CopyRow_s0 : Tm := ⟨[(3, .own 3)], [], [(3, .arr 39 .val)]⟩
noncomputable def R_bag_CopyRow_s0 : Tm := ⟨[], [], []⟩
noncomputable def L_bag_CopyRow_s0 {ρ : Type} (n : Nat) : LOrc ρ := lorcNil
omit [Tabs] [UTabs] in
theorem s_bag_CopyRow_s0 {ρ : Type} (n : Nat) (rec : T_bag_CopyRow_s0.den → Option ρ) kx kr s : dStep Tryd.prog 19 TT M_bag_CopyRow (O_bag_CopyRow n) (L_bag_CopyRow_s0 n) dorcNil 0 (lbody 1000 C_bag_CopyRow 0) T_bag_CopyRow_s0 X_bag_CopyRow_s0 R_bag_CopyRow_s0 ⟨[], [(3, 3, 39, 4)], []⟩ rec kx kr s = bag_CopyRow_s0 n rec kx kr s := by kernel_rfl
noncomputable def L_bag_CopyRow {ρ : Type} (n : Nat) : LOrc ρ := lorcCons 0 (loopL 19 0 n T_bag_CopyRow_s0 X_bag_CopyRow_s0 R_bag_CopyRow_s0 ⟨[], [(3, 3, 39, 4)], []⟩ (bag_CopyRow_s0 n)) (lorcNil)
omit [Tabs] [UTabs] in
theorem e_bag_CopyRow (n : Nat) (x) : evF Tryd.prog 19 TT M_bag_CopyRow F_bag_CopyRow (O_bag_CopyRow n) (L_bag_CopyRow n) dorcNil ⟨[], [], []⟩ [.tmp 2] C_bag_CopyRow x = bag_CopyRow n x := by kernel_rfl
omit [UTabs] in
theorem ok_bag_CopyRow (n : Nat) : Contract Tryd.prog 103 F_bag_CopyRow (bag_CopyRow n) :=
  Contract.of_ev (c := C_bag_CopyRow) (N := 19) Tryd.func103 (by kernel_rfl) (by kernel_rfl) (by kernel_rfl) (by kernel_rfl) (O_bag_CopyRow_ok n) dorcNil_ok (.of (l := [(0, (lbody 1000 C_bag_CopyRow 0))]) (by kernel_rfl) ⟨.head (loopL_sound (O_bag_CopyRow_ok n) dorcNil_ok (.of (l := []) (by kernel_rfl) trivial) (s_bag_CopyRow_s0 n)), trivial⟩) (e_bag_CopyRow n)

noncomputable def C_bag_Distinct_1 : Code := bodyOf Tryd.f102
noncomputable def M_bag_Distinct_1 : List (Nat × ArgM) := []
noncomputable def O_bag_Distinct_1 {ρ : Type} (n : Nat) : Orc ρ := orcCons 103 F_bag_CopyRow (bag_CopyRow n) (orcNil)
omit [UTabs] in
theorem O_bag_Distinct_1_ok {ρ : Type} (n : Nat) : (O_bag_Distinct_1 n : Orc ρ).ok Tryd.prog := orcCons_ok (by kernel_rfl) (ok_bag_CopyRow n) (orcNil_ok)
noncomputable def T_bag_Distinct_1_s0 : Tm := ⟨[(2, .own 2)], [(5, (.lst .cnt)), (6, .i64), (7, .i64)], [(2, .arr 92 .cnt), (1000000, .box [.d (.lst .cnt)])]⟩
noncomputable def X_bag_Distinct_1_s0 : Tm := ⟨[(2, .own 2)], [], [(2, .arr 92 .cnt), (1000000, .box [.d (.lst .cnt)])]⟩
noncomputable def R_bag_Distinct_1_s0 : Tm := ⟨[], [], []⟩
noncomputable def L_bag_Distinct_1_s0 {ρ : Type} (n : Nat) : LOrc ρ := lorcNil
omit [Tabs] [UTabs] in
theorem s_bag_Distinct_1_s0 {ρ : Type} (n : Nat) (rec : T_bag_Distinct_1_s0.den → Option ρ) kx kr s : dStep Tryd.prog 23 TT M_bag_Distinct_1 (O_bag_Distinct_1 n) (L_bag_Distinct_1_s0 n) dorcNil 0 (lbody 1000 C_bag_Distinct_1 0) T_bag_Distinct_1_s0 X_bag_Distinct_1_s0 R_bag_Distinct_1_s0 ⟨[], [(2, 2, 92, 2)], []⟩ rec kx kr s = bag_Distinct_1_s0 n rec kx kr s := by kernel_rfl
noncomputable def L_bag_Distinct_1 {ρ : Type} (n : Nat) : LOrc ρ := lorcCons 0 (loopL 23 0 n T_bag_Distinct_1_s0 X_bag_Distinct_1_s0 R_bag_Distinct_1_s0 ⟨[], [(2, 2, 92, 2)], []⟩ (bag_Distinct_1_s0 n)) (lorcNil)
omit [Tabs] [UTabs] in
theorem e_bag_Distinct_1 (n : Nat) (x) : evF Tryd.prog 23 TT M_bag_Distinct_1 F_bag_Distinct_1 (O_bag_Distinct_1 n) (L_bag_Distinct_1 n) dorcNil ⟨[], [], []⟩ [.tmp 1] C_bag_Distinct_1 x = bag_Distinct_1 n x := by kernel_rfl
omit [UTabs] in
theorem ok_bag_Distinct_1 (n : Nat) : Contract Tryd.prog 102 F_bag_Distinct_1 (bag_Distinct_1 n) :=
  Contract.of_ev (c := C_bag_Distinct_1) (N := 23) Tryd.func102 (by kernel_rfl) (by kernel_rfl) (by kernel_rfl) (by kernel_rfl) (O_bag_Distinct_1_ok n) dorcNil_ok (.of (l := [(0, (lbody 1000 C_bag_Distinct_1 0))]) (by kernel_rfl) ⟨.head (loopL_sound (O_bag_Distinct_1_ok n) dorcNil_ok (.of (l := []) (by kernel_rfl) trivial) (s_bag_Distinct_1_s0 n)), trivial⟩) (e_bag_Distinct_1 n)

noncomputable def C_bag_both_bag_Distinct_1_c : Code := bodyOf Tryd.f94
noncomputable def M_bag_both_bag_Distinct_1_c : List (Nat × ArgM) := [(102, ⟨[0], [], [], false⟩), (30, ⟨[], [], [], true⟩)]
noncomputable def O_bag_both_bag_Distinct_1_c {ρ : Type} (n : Nat) : Orc ρ := orcCons 30 F_bag_Check (bag_Check n) (orcCons 102 F_bag_Distinct_1 (bag_Distinct_1 n) (orcNil))
theorem O_bag_both_bag_Distinct_1_c_ok {ρ : Type} (n : Nat) : (O_bag_both_bag_Distinct_1_c n : Orc ρ).ok Tryd.prog := orcCons_ok (by kernel_rfl) (ok_bag_Check n) (orcCons_ok (by kernel_rfl) (ok_bag_Distinct_1 n) (orcNil_ok))
noncomputable def T_bag_both_bag_Distinct_1_c_s0 : Tm := ⟨[(2, .clo 102 [1000000])], [(15, (.two (.lst .cnt))), (16, .i64)], [(1000000, .box [.d (.lst .cnt)])]⟩
noncomputable def X_bag_both_bag_Distinct_1_c_s0 : Tm := ⟨[(2, .clo 102 [1000000])], [], [(1000000, .box [.d (.lst .cnt)])]⟩
noncomputable def R_bag_both_bag_Distinct_1_c_s0 : Tm := ⟨[], [(6, (.lst .cnt)), (7, .i64)], [(1000000, .box [.d (.lst .cnt)])]⟩
noncomputable def L_bag_both_bag_Distinct_1_c_s0 {ρ : Type} (n : Nat) : LOrc ρ := lorcNil
omit [Tabs] [UTabs] in
theorem s_bag_both_bag_Distinct_1_c_s0 {ρ : Type} (n : Nat) (rec : T_bag_both_bag_Distinct_1_c_s0.den → Option ρ) kx kr s : dStep Tryd.prog 33 TT M_bag_both_bag_Distinct_1_c (O_bag_both_bag_Distinct_1_c n) (L_bag_both_bag_Distinct_1_c_s0 n) dorcNil 0 (lbody 1000 C_bag_both_bag_Distinct_1_c 0) T_bag_both_bag_Distinct_1_c_s0 X_bag_both_bag_Distinct_1_c_s0 R_bag_both_bag_Distinct_1_c_s0 ⟨[], [], []⟩ rec kx kr s = bag_both_bag_Distinct_1_c_s0 n rec kx kr s := by kernel_rfl
noncomputable def L_bag_both_bag_Distinct_1_c {ρ : Type} (n : Nat) : LOrc ρ := lorcCons 0 (loopL 33 0 n T_bag_both_bag_Distinct_1_c_s0 X_bag_both_bag_Distinct_1_c_s0 R_bag_both_bag_Distinct_1_c_s0 ⟨[], [], []⟩ (bag_both_bag_Distinct_1_c_s0 n)) (lorcNil)
omit [Tabs] [UTabs] in
theorem e_bag_both_bag_Distinct_1_c (n : Nat) (x) : evF Tryd.prog 33 TT M_bag_both_bag_Distinct_1_c F_bag_both_bag_Distinct_1_c (O_bag_both_bag_Distinct_1_c n) (L_bag_both_bag_Distinct_1_c n) dorcNil ⟨[], [], []⟩ [.tmp 6, .tmp 7] C_bag_both_bag_Distinct_1_c x = bag_both_bag_Distinct_1_c n x := by kernel_rfl
theorem ok_bag_both_bag_Distinct_1_c (n : Nat) : Contract Tryd.prog 94 F_bag_both_bag_Distinct_1_c (bag_both_bag_Distinct_1_c n) :=
  Contract.of_ev (c := C_bag_both_bag_Distinct_1_c) (N := 33) Tryd.func94 (by kernel_rfl) (by kernel_rfl) (by kernel_rfl) (by kernel_rfl) (O_bag_both_bag_Distinct_1_c_ok n) dorcNil_ok (.of (l := [(0, (lbody 1000 C_bag_both_bag_Distinct_1_c 0))]) (by kernel_rfl) ⟨.head (loopL_sound (O_bag_both_bag_Distinct_1_c_ok n) dorcNil_ok (.of (l := []) (by kernel_rfl) trivial) (s_bag_both_bag_Distinct_1_c_s0 n)), trivial⟩) (e_bag_both_bag_Distinct_1_c n)

noncomputable def C_bag_Distinct : Code := bodyOf Tryd.f48
noncomputable def M_bag_Distinct : List (Nat × ArgM) := [(94, ⟨[2], [], [], false⟩)]
noncomputable def O_bag_Distinct {ρ : Type} (n : Nat) : Orc ρ := orcCons 94 F_bag_both_bag_Distinct_1_c (bag_both_bag_Distinct_1_c n) (orcNil)
theorem O_bag_Distinct_ok {ρ : Type} (n : Nat) : (O_bag_Distinct n : Orc ρ).ok Tryd.prog := orcCons_ok (by kernel_rfl) (ok_bag_both_bag_Distinct_1_c n) (orcNil_ok)
noncomputable def L_bag_Distinct {ρ : Type} (n : Nat) : LOrc ρ := lorcNil
omit [Tabs] [UTabs] in
theorem e_bag_Distinct (n : Nat) (x) : evF Tryd.prog 9 TT M_bag_Distinct F_bag_Distinct (O_bag_Distinct n) (L_bag_Distinct n) dorcNil ⟨[], [], []⟩ [.tmp 2, .tmp 3] C_bag_Distinct x = bag_Distinct n x := by kernel_rfl
theorem ok_bag_Distinct (n : Nat) : Contract Tryd.prog 48 F_bag_Distinct (bag_Distinct n) :=
  Contract.of_ev (c := C_bag_Distinct) (N := 9) Tryd.func48 (by kernel_rfl) (by kernel_rfl) (by kernel_rfl) (by kernel_rfl) (O_bag_Distinct_ok n) dorcNil_ok (.of (l := []) (by kernel_rfl) trivial) (e_bag_Distinct n)

noncomputable def F_espalierlaw_bagged : FnT := ⟨0, ⟨[], [], []⟩, [.v .bool], []⟩
noncomputable def F_espalierlaw_num : FnT := ⟨1, ⟨[], [(0, .i64)], []⟩, [.v .val], []⟩
noncomputable def C_espalierlaw_num : Code := bodyOf Tryd.f56
noncomputable def M_espalierlaw_num : List (Nat × ArgM) := []
noncomputable def O_espalierlaw_num {ρ : Type} : Orc ρ := orcNil
omit [UTabs] in
theorem O_espalierlaw_num_ok {ρ : Type} : (O_espalierlaw_num : Orc ρ).ok Tryd.prog := orcNil_ok
noncomputable def L_espalierlaw_num {ρ : Type} : LOrc ρ := lorcNil
omit [Tabs] [UTabs] in
theorem e_espalierlaw_num (x) : evF Tryd.prog 5 TT M_espalierlaw_num F_espalierlaw_num (O_espalierlaw_num) (L_espalierlaw_num) dorcNil ⟨[], [], []⟩ [.cell 2 39] C_espalierlaw_num x = espalierlaw_num x := by kernel_rfl
omit [UTabs] in
theorem ok_espalierlaw_num : Contract Tryd.prog 56 F_espalierlaw_num (espalierlaw_num) :=
  Contract.of_ev (c := C_espalierlaw_num) (N := 5) Tryd.func56 (by kernel_rfl) (by kernel_rfl) (by kernel_rfl) (by kernel_rfl) (O_espalierlaw_num_ok) dorcNil_ok (.of (l := []) (by kernel_rfl) trivial) (e_espalierlaw_num)

noncomputable def F_bag_Of : FnT := ⟨1, ⟨[], [(0, (.lst (.lst .val)))], []⟩, [.v (.lst .cnt), .v .i64], []⟩
noncomputable def F_bag_Gather : FnT := ⟨1, ⟨[], [(0, (.lst .cnt))], []⟩, [.v (.lst .cnt)], []⟩
noncomputable def F_slices_Clone_api_Count_api_Count_own : FnT := ⟨1, ⟨[], [(0, (.lst .cnt))], []⟩, [.ref (.own 5)], [(5, .arr 92 .cnt)]⟩
noncomputable def C_slices_Clone_api_Count_api_Count_own : Code := bodyOf Tryd.f53
noncomputable def M_slices_Clone_api_Count_api_Count_own : List (Nat × ArgM) := []
noncomputable def O_slices_Clone_api_Count_api_Count_own {ρ : Type} : Orc ρ := orcNil
omit [UTabs] in
theorem O_slices_Clone_api_Count_api_Count_own_ok {ρ : Type} : (O_slices_Clone_api_Count_api_Count_own : Orc ρ).ok Tryd.prog := orcNil_ok
noncomputable def L_slices_Clone_api_Count_api_Count_own {ρ : Type} : LOrc ρ := lorcNil
omit [Tabs] [UTabs] in
theorem e_slices_Clone_api_Count_api_Count_own (x) : evF Tryd.prog 8 TT M_slices_Clone_api_Count_api_Count_own F_slices_Clone_api_Count_api_Count_own (O_slices_Clone_api_Count_api_Count_own) (L_slices_Clone_api_Count_api_Count_own) dorcNil ⟨[], [(2, 5, 92, 2)], []⟩ [.tmp 2] C_slices_Clone_api_Count_api_Count_own x = slices_Clone_api_Count_api_Count_own x := by kernel_rfl
omit [UTabs] in
theorem ok_slices_Clone_api_Count_api_Count_own : Contract Tryd.prog 53 F_slices_Clone_api_Count_api_Count_own (slices_Clone_api_Count_api_Count_own) :=
  Contract.of_ev (c := C_slices_Clone_api_Count_api_Count_own) (N := 8) Tryd.func53 (by kernel_rfl) (by kernel_rfl) (by kernel_rfl) (by kernel_rfl) (O_slices_Clone_api_Count_api_Count_own_ok) dorcNil_ok (.of (l := []) (by kernel_rfl) trivial) (e_slices_Clone_api_Count_api_Count_own)

noncomputable def F_slices_SortStableFunc_api_Count_api_Count_bag_Gather_1 : FnT := ⟨2, ⟨[(0, .own 2000000), (1, .fn 152)], [], [(2000000, .arr 92 .cnt)]⟩, [], [(2000000, .arr 92 .cnt)]⟩
noncomputable def F_slices_stableCmpFunc_api_Count_bag_Gather_1 : FnT := ⟨3, ⟨[(0, .own 2000000), (2, .fn 152)], [(1, .i64)], [(2000000, .arr 92 .cnt)]⟩, [], [(2000000, .arr 92 .cnt)]⟩
noncomputable def F_slices_insertionSortCmpFunc_api_Count_bag_Gather_1 : FnT := ⟨4, ⟨[(0, .own 2000000), (3, .fn 152)], [(1, .i64), (2, .i64)], [(2000000, .arr 92 .cnt)]⟩, [], [(2000000, .arr 92 .cnt)]⟩
noncomputable def F_bag_Gather_1 : FnT := ⟨2, ⟨[], [(0, .cnt), (1, .cnt)], []⟩, [.v .i64], []⟩
noncomputable def C_bag_Gather_1 : Code := bodyOf Tryd.f152
noncomputable def M_bag_Gather_1 : List (Nat × ArgM) := [(32, ⟨[], [], [], true⟩)]
noncomputable def O_bag_Gather_1 {ρ : Type} (n : Nat) : Orc ρ := orcCons 32 F_bag_Compare (bag_Compare n) (orcNil)
omit [UTabs] in
theorem O_bag_Gather_1_ok {ρ : Type} (n : Nat) : (O_bag_Gather_1 n : Orc ρ).ok Tryd.prog := orcCons_ok (by kernel_rfl) (ok_bag_Compare n) (orcNil_ok)
noncomputable def L_bag_Gather_1 {ρ : Type} (n : Nat) : LOrc ρ := lorcNil
omit [Tabs] [UTabs] in
theorem e_bag_Gather_1 (n : Nat) (x) : evF Tryd.prog 10 TT M_bag_Gather_1 F_bag_Gather_1 (O_bag_Gather_1 n) (L_bag_Gather_1 n) dorcNil ⟨[], [], []⟩ [.tmp 4] C_bag_Gather_1 x = bag_Gather_1 n x := by kernel_rfl
omit [UTabs] in
theorem ok_bag_Gather_1 (n : Nat) : Contract Tryd.prog 152 F_bag_Gather_1 (bag_Gather_1 n) :=
  Contract.of_ev (c := C_bag_Gather_1) (N := 10) Tryd.func152 (by kernel_rfl) (by kernel_rfl) (by kernel_rfl) (by kernel_rfl) (O_bag_Gather_1_ok n) dorcNil_ok (.of (l := []) (by kernel_rfl) trivial) (e_bag_Gather_1 n)

noncomputable def C_slices_insertionSortCmpFunc_api_Count_bag_Gather_1 : Code := bodyOf Tryd.f210
noncomputable def M_slices_insertionSortCmpFunc_api_Count_bag_Gather_1 : List (Nat × ArgM) := [(999999999, ⟨[1], [], [], false⟩), (152, ⟨[], [], [], true⟩)]
noncomputable def O_slices_insertionSortCmpFunc_api_Count_bag_Gather_1 {ρ : Type} (n : Nat) : Orc ρ := orcCons 152 F_bag_Gather_1 (bag_Gather_1 n) (orcNil)
omit [UTabs] in
theorem O_slices_insertionSortCmpFunc_api_Count_bag_Gather_1_ok {ρ : Type} (n : Nat) : (O_slices_insertionSortCmpFunc_api_Count_bag_Gather_1 n : Orc ρ).ok Tryd.prog := orcCons_ok (by kernel_rfl) (ok_bag_Gather_1 n) (orcNil_ok)
noncomputable def T_slices_insertionSortCmpFunc_api_Count_bag_Gather_1_s2 : Tm := ⟨[(0, .own 2000000), (3, .fn 152)], [(1, .i64), (2, .i64), (8, .i64), (9, .i64)], [(2000000, .arr 92 .cnt)]⟩
noncomputable def X_slices_insertionSortCmpFunc_api_Count_bag_Gather_1_s2 : Tm := ⟨[(0, .own 2000000), (3, .fn 152)], [(1, .i64), (2, .i64), (8, .i64)], [(2000000, .arr 92 .cnt)]⟩
noncomputable def R_slices_insertionSortCmpFunc_api_Count_bag_Gather_1_s2 : Tm := ⟨[], [], []⟩
noncomputable def L_slices_insertionSortCmpFunc_api_Count_bag_Gather_1_s2 {ρ : Type} (n : Nat) : LOrc ρ := lorcNil
omit [Tabs] [UTabs] in
theorem s_slices_insertionSortCmpFunc_api_Count_bag_Gather_1_s2 {ρ : Type} (n : Nat) (rec : T_slices_insertionSortCmpFunc_api_Count_bag_Gather_1_s2.den → Option ρ) kx kr s : dStep Tryd.prog 53 TT M_slices_insertionSortCmpFunc_api_Count_bag_Gather_1 (O_slices_insertionSortCmpFunc_api_Count_bag_Gather_1 n) (L_slices_insertionSortCmpFunc_api_Count_bag_Gather_1_s2 n) (evDraw Tryd.prog 53 TT M_slices_insertionSortCmpFunc_api_Count_bag_Gather_1 (O_slices_insertionSortCmpFunc_api_Count_bag_Gather_1 n)) 2 (lbody 0 (lbody 1000 C_slices_insertionSortCmpFunc_api_Count_bag_Gather_1 0) 0) T_slices_insertionSortCmpFunc_api_Count_bag_Gather_1_s2 X_slices_insertionSortCmpFunc_api_Count_bag_Gather_1_s2 R_slices_insertionSortCmpFunc_api_Count_bag_Gather_1_s2 ⟨[], [], []⟩ rec kx kr s = slices_insertionSortCmpFunc_api_Count_bag_Gather_1_s2 n rec kx kr s := by kernel_rfl
noncomputable def T_slices_insertionSortCmpFunc_api_Count_bag_Gather_1_s0 : Tm := ⟨[(0, .own 2000000), (3, .fn 152)], [(1, .i64), (2, .i64), (8, .i64)], [(2000000, .arr 92 .cnt)]⟩
noncomputable def X_slices_insertionSortCmpFunc_api_Count_bag_Gather_1_s0 : Tm := ⟨[], [], [(2000000, .arr 92 .cnt)]⟩
noncomputable def R_slices_insertionSortCmpFunc_api_Count_bag_Gather_1_s0 : Tm := ⟨[], [], []⟩
noncomputable def L_slices_insertionSortCmpFunc_api_Count_bag_Gather_1_s0 {ρ : Type} (n : Nat) : LOrc ρ := lorcCons 2 (loopL 53 2 n T_slices_insertionSortCmpFunc_api_Count_bag_Gather_1_s2 X_slices_insertionSortCmpFunc_api_Count_bag_Gather_1_s2 R_slices_insertionSortCmpFunc_api_Count_bag_Gather_1_s2 ⟨[], [], []⟩ (slices_insertionSortCmpFunc_api_Count_bag_Gather_1_s2 n)) (lorcNil)
omit [Tabs] [UTabs] in
theorem s_slices_insertionSortCmpFunc_api_Count_bag_Gather_1_s0 {ρ : Type} (n : Nat) (rec : T_slices_insertionSortCmpFunc_api_Count_bag_Gather_1_s0.den → Option ρ) kx kr s : dStep Tryd.prog 53 TT M_slices_insertionSortCmpFunc_api_Count_bag_Gather_1 (O_slices_insertionSortCmpFunc_api_Count_bag_Gather_1 n) (L_slices_insertionSortCmpFunc_api_Count_bag_Gather_1_s0 n) (evDraw Tryd.prog 53 TT M_slices_insertionSortCmpFunc_api_Count_bag_Gather_1 (O_slices_insertionSortCmpFunc_api_Count_bag_Gather_1 n)) 0 (lbody 1000 C_slices_insertionSortCmpFunc_api_Count_bag_Gather_1 0) T_slices_insertionSortCmpFunc_api_Count_bag_Gather_1_s0 X_slices_insertionSortCmpFunc_api_Count_bag_Gather_1_s0 R_slices_insertionSortCmpFunc_api_Count_bag_Gather_1_s0 ⟨[], [], []⟩ rec kx kr s = slices_insertionSortCmpFunc_api_Count_bag_Gather_1_s0 n rec kx kr s := by kernel_rfl
noncomputable def L_slices_insertionSortCmpFunc_api_Count_bag_Gather_1 {ρ : Type} (n : Nat) : LOrc ρ := lorcCons 0 (loopL 53 0 n T_slices_insertionSortCmpFunc_api_Count_bag_Gather_1_s0 X_slices_insertionSortCmpFunc_api_Count_bag_Gather_1_s0 R_slices_insertionSortCmpFunc_api_Count_bag_Gather_1_s0 ⟨[], [], []⟩ (slices_insertionSortCmpFunc_api_Count_bag_Gather_1_s0 n)) (lorcNil)
omit [Tabs] [UTabs] in
theorem e_slices_insertionSortCmpFunc_api_Count_bag_Gather_1 (n : Nat) (x) : evF Tryd.prog 53 TT M_slices_insertionSortCmpFunc_api_Count_bag_Gather_1 F_slices_insertionSortCmpFunc_api_Count_bag_Gather_1 (O_slices_insertionSortCmpFunc_api_Count_bag_Gather_1 n) (L_slices_insertionSortCmpFunc_api_Count_bag_Gather_1 n) (evDraw Tryd.prog 53 TT M_slices_insertionSortCmpFunc_api_Count_bag_Gather_1 (O_slices_insertionSortCmpFunc_api_Count_bag_Gather_1 n)) ⟨[], [], []⟩ [] C_slices_insertionSortCmpFunc_api_Count_bag_Gather_1 x = slices_insertionSortCmpFunc_api_Count_bag_Gather_1 n x := by kernel_rfl
omit [UTabs] in
theorem ok_slices_insertionSortCmpFunc_api_Count_bag_Gather_1 (n : Nat) : Contract Tryd.prog 210 F_slices_insertionSortCmpFunc_api_Count_bag_Gather_1 (slices_insertionSortCmpFunc_api_Count_bag_Gather_1 n) :=
  Contract.of_ev (c := C_slices_insertionSortCmpFunc_api_Count_bag_Gather_1) (N := 53) Tryd.func210 (by kernel_rfl) (by kernel_rfl) (by kernel_rfl) (by kernel_rfl) (O_slices_insertionSortCmpFunc_api_Count_bag_Gather_1_ok n) (evDraw_ok (O_slices_insertionSortCmpFunc_api_Count_bag_Gather_1_ok n) (by kernel_rfl)) (.of (l := [(0, (lbody 1000 C_slices_insertionSortCmpFunc_api_Count_bag_Gather_1 0))]) (by kernel_rfl) ⟨.head (loopL_sound (O_slices_insertionSortCmpFunc_api_Count_bag_Gather_1_ok n) (evDraw_ok (O_slices_insertionSortCmpFunc_api_Count_bag_Gather_1_ok n) (by kernel_rfl)) (.of (l := [(2, (lbody 0 (lbody 1000 C_slices_insertionSortCmpFunc_api_Count_bag_Gather_1 0) 0))]) (by kernel_rfl) ⟨.head (loopL_sound (O_slices_insertionSortCmpFunc_api_Count_bag_Gather_1_ok n) (evDraw_ok (O_slices_insertionSortCmpFunc_api_Count_bag_Gather_1_ok n) (by kernel_rfl)) (.of (l := []) (by kernel_rfl) trivial) (s_slices_insertionSortCmpFunc_api_Count_bag_Gather_1_s2 n)), trivial⟩) (s_slices_insertionSortCmpFunc_api_Count_bag_Gather_1_s0 n)), trivial⟩) (e_slices_insertionSortCmpFunc_api_Count_bag_Gather_1 n)

noncomputable def F_slices_symMergeCmpFunc_api_Count_bag_Gather_1 : FnT := ⟨5, ⟨[(0, .own 2000000), (4, .fn 152)], [(1, .i64), (2, .i64), (3, .i64)], [(2000000, .arr 92 .cnt)]⟩, [], [(2000000, .arr 92 .cnt)]⟩
noncomputable def F_slices_rotateCmpFunc_api_Count_bag_Gather_1 : FnT := ⟨5, ⟨[(0, .own 2000000), (4, .fn 152)], [(1, .i64), (2, .i64), (3, .i64)], [(2000000, .arr 92 .cnt)]⟩, [], [(2000000, .arr 92 .cnt)]⟩
noncomputable def F_slices_swapRangeCmpFunc_api_Count_bag_Gather_1 : FnT := ⟨5, ⟨[(0, .own 2000000), (4, .fn 152)], [(1, .i64), (2, .i64), (3, .i64)], [(2000000, .arr 92 .cnt)]⟩, [], [(2000000, .arr 92 .cnt)]⟩
noncomputable def C_slices_swapRangeCmpFunc_api_Count_bag_Gather_1 : Code := bodyOf Tryd.f222
noncomputable def M_slices_swapRangeCmpFunc_api_Count_bag_Gather_1 : List (Nat × ArgM) := [(999999999, ⟨[1], [], [], false⟩)]
noncomputable def O_slices_swapRangeCmpFunc_api_Count_bag_Gather_1 {ρ : Type} (n : Nat) : Orc ρ := orcNil
omit [UTabs] in
theorem O_slices_swapRangeCmpFunc_api_Count_bag_Gather_1_ok {ρ : Type} (n : Nat) : (O_slices_swapRangeCmpFunc_api_Count_bag_Gather_1 n : Orc ρ).ok Tryd.prog := orcNil_ok
noncomputable def T_slices_swapRangeCmpFunc_api_Count_bag_Gather_1_s0 : Tm := ⟨[(0, .own 2000000)], [(1, .i64), (2, .i64), (3, .i64), (10, .i64)], [(2000000, .arr 92 .cnt)]⟩
noncomputable def X_slices_swapRangeCmpFunc_api_Count_bag_Gather_1_s0 : Tm := ⟨[], [], [(2000000, .arr 92 .cnt)]⟩
noncomputable def R_slices_swapRangeCmpFunc_api_Count_bag_Gather_1_s0 : Tm := ⟨[], [], []⟩
noncomputable def L_slices_swapRangeCmpFunc_api_Count_bag_Gather_1_s0 {ρ : Type} (n : Nat) : LOrc ρ := lorcNil
omit [Tabs] [UTabs] in
theorem s_slices_swapRangeCmpFunc_api_Count_bag_Gather_1_s0 {ρ : Type} (n : Nat) (rec : T_slices_swapRangeCmpFunc_api_Count_bag_Gather_1_s0.den → Option ρ) kx kr s : dStep Tryd.prog 38 TT M_slices_swapRangeCmpFunc_api_Count_bag_Gather_1 (O_slices_swapRangeCmpFunc_api_Count_bag_Gather_1 n) (L_slices_swapRangeCmpFunc_api_Count_bag_Gather_1_s0 n) (evDraw Tryd.prog 38 TT M_slices_swapRangeCmpFunc_api_Count_bag_Gather_1 (O_slices_swapRangeCmpFunc_api_Count_bag_Gather_1 n)) 0 (lbody 1000 C_slices_swapRangeCmpFunc_api_Count_bag_Gather_1 0) T_slices_swapRangeCmpFunc_api_Count_bag_Gather_1_s0 X_slices_swapRangeCmpFunc_api_Count_bag_Gather_1_s0 R_slices_swapRangeCmpFunc_api_Count_bag_Gather_1_s0 ⟨[], [], []⟩ rec kx kr s = slices_swapRangeCmpFunc_api_Count_bag_Gather_1_s0 n rec kx kr s := by kernel_rfl
noncomputable def L_slices_swapRangeCmpFunc_api_Count_bag_Gather_1 {ρ : Type} (n : Nat) : LOrc ρ := lorcCons 0 (loopL 38 0 n T_slices_swapRangeCmpFunc_api_Count_bag_Gather_1_s0 X_slices_swapRangeCmpFunc_api_Count_bag_Gather_1_s0 R_slices_swapRangeCmpFunc_api_Count_bag_Gather_1_s0 ⟨[], [], []⟩ (slices_swapRangeCmpFunc_api_Count_bag_Gather_1_s0 n)) (lorcNil)
omit [Tabs] [UTabs] in
theorem e_slices_swapRangeCmpFunc_api_Count_bag_Gather_1 (n : Nat) (x) : evF Tryd.prog 38 TT M_slices_swapRangeCmpFunc_api_Count_bag_Gather_1 F_slices_swapRangeCmpFunc_api_Count_bag_Gather_1 (O_slices_swapRangeCmpFunc_api_Count_bag_Gather_1 n) (L_slices_swapRangeCmpFunc_api_Count_bag_Gather_1 n) (evDraw Tryd.prog 38 TT M_slices_swapRangeCmpFunc_api_Count_bag_Gather_1 (O_slices_swapRangeCmpFunc_api_Count_bag_Gather_1 n)) ⟨[], [], []⟩ [] C_slices_swapRangeCmpFunc_api_Count_bag_Gather_1 x = slices_swapRangeCmpFunc_api_Count_bag_Gather_1 n x := by kernel_rfl
omit [UTabs] in
theorem ok_slices_swapRangeCmpFunc_api_Count_bag_Gather_1 (n : Nat) : Contract Tryd.prog 222 F_slices_swapRangeCmpFunc_api_Count_bag_Gather_1 (slices_swapRangeCmpFunc_api_Count_bag_Gather_1 n) :=
  Contract.of_ev (c := C_slices_swapRangeCmpFunc_api_Count_bag_Gather_1) (N := 38) Tryd.func222 (by kernel_rfl) (by kernel_rfl) (by kernel_rfl) (by kernel_rfl) (O_slices_swapRangeCmpFunc_api_Count_bag_Gather_1_ok n) (evDraw_ok (O_slices_swapRangeCmpFunc_api_Count_bag_Gather_1_ok n) (by kernel_rfl)) (.of (l := [(0, (lbody 1000 C_slices_swapRangeCmpFunc_api_Count_bag_Gather_1 0))]) (by kernel_rfl) ⟨.head (loopL_sound (O_slices_swapRangeCmpFunc_api_Count_bag_Gather_1_ok n) (evDraw_ok (O_slices_swapRangeCmpFunc_api_Count_bag_Gather_1_ok n) (by kernel_rfl)) (.of (l := []) (by kernel_rfl) trivial) (s_slices_swapRangeCmpFunc_api_Count_bag_Gather_1_s0 n)), trivial⟩) (e_slices_swapRangeCmpFunc_api_Count_bag_Gather_1 n)

noncomputable def C_slices_rotateCmpFunc_api_Count_bag_Gather_1 : Code := bodyOf Tryd.f216
noncomputable def M_slices_rotateCmpFunc_api_Count_bag_Gather_1 : List (Nat × ArgM) := [(999999999, ⟨[1], [], [], false⟩), (222, ⟨[1000], [], [], false⟩)]
noncomputable def O_slices_rotateCmpFunc_api_Count_bag_Gather_1 {ρ : Type} (n : Nat) : Orc ρ := orcCons 222 F_slices_swapRangeCmpFunc_api_Count_bag_Gather_1 (slices_swapRangeCmpFunc_api_Count_bag_Gather_1 n) (orcNil)
omit [UTabs] in
theorem O_slices_rotateCmpFunc_api_Count_bag_Gather_1_ok {ρ : Type} (n : Nat) : (O_slices_rotateCmpFunc_api_Count_bag_Gather_1 n : Orc ρ).ok Tryd.prog := orcCons_ok (by kernel_rfl) (ok_slices_swapRangeCmpFunc_api_Count_bag_Gather_1 n) (orcNil_ok)
noncomputable def T_slices_rotateCmpFunc_api_Count_bag_Gather_1_s0 : Tm := ⟨[(0, .own 2000000), (4, .fn 152)], [(2, .i64), (10, .i64), (11, .i64)], [(2000000, .arr 92 .cnt)]⟩
noncomputable def X_slices_rotateCmpFunc_api_Count_bag_Gather_1_s0 : Tm := ⟨[(0, .own 2000000), (4, .fn 152)], [(2, .i64), (10, .i64)], [(2000000, .arr 92 .cnt)]⟩
noncomputable def R_slices_rotateCmpFunc_api_Count_bag_Gather_1_s0 : Tm := ⟨[], [], []⟩
noncomputable def L_slices_rotateCmpFunc_api_Count_bag_Gather_1_s0 {ρ : Type} (n : Nat) : LOrc ρ := lorcNil
omit [Tabs] [UTabs] in
theorem s_slices_rotateCmpFunc_api_Count_bag_Gather_1_s0 {ρ : Type} (n : Nat) (rec : T_slices_rotateCmpFunc_api_Count_bag_Gather_1_s0.den → Option ρ) kx kr s : dStep Tryd.prog 58 TT M_slices_rotateCmpFunc_api_Count_bag_Gather_1 (O_slices_rotateCmpFunc_api_Count_bag_Gather_1 n) (L_slices_rotateCmpFunc_api_Count_bag_Gather_1_s0 n) dorcNil 0 (lbody 1000 C_slices_rotateCmpFunc_api_Count_bag_Gather_1 0) T_slices_rotateCmpFunc_api_Count_bag_Gather_1_s0 X_slices_rotateCmpFunc_api_Count_bag_Gather_1_s0 R_slices_rotateCmpFunc_api_Count_bag_Gather_1_s0 ⟨[], [], []⟩ rec kx kr s = slices_rotateCmpFunc_api_Count_bag_Gather_1_s0 n rec kx kr s := by kernel_rfl
noncomputable def L_slices_rotateCmpFunc_api_Count_bag_Gather_1 {ρ : Type} (n : Nat) : LOrc ρ := lorcCons 0 (loopL 58 0 n T_slices_rotateCmpFunc_api_Count_bag_Gather_1_s0 X_slices_rotateCmpFunc_api_Count_bag_Gather_1_s0 R_slices_rotateCmpFunc_api_Count_bag_Gather_1_s0 ⟨[], [], []⟩ (slices_rotateCmpFunc_api_Count_bag_Gather_1_s0 n)) (lorcNil)
omit [Tabs] [UTabs] in
theorem e_slices_rotateCmpFunc_api_Count_bag_Gather_1 (n : Nat) (x) : evF Tryd.prog 58 TT M_slices_rotateCmpFunc_api_Count_bag_Gather_1 F_slices_rotateCmpFunc_api_Count_bag_Gather_1 (O_slices_rotateCmpFunc_api_Count_bag_Gather_1 n) (L_slices_rotateCmpFunc_api_Count_bag_Gather_1 n) dorcNil ⟨[], [], []⟩ [] C_slices_rotateCmpFunc_api_Count_bag_Gather_1 x = slices_rotateCmpFunc_api_Count_bag_Gather_1 n x := by kernel_rfl
omit [UTabs] in
theorem ok_slices_rotateCmpFunc_api_Count_bag_Gather_1 (n : Nat) : Contract Tryd.prog 216 F_slices_rotateCmpFunc_api_Count_bag_Gather_1 (slices_rotateCmpFunc_api_Count_bag_Gather_1 n) :=
  Contract.of_ev (c := C_slices_rotateCmpFunc_api_Count_bag_Gather_1) (N := 58) Tryd.func216 (by kernel_rfl) (by kernel_rfl) (by kernel_rfl) (by kernel_rfl) (O_slices_rotateCmpFunc_api_Count_bag_Gather_1_ok n) dorcNil_ok (.of (l := [(0, (lbody 1000 C_slices_rotateCmpFunc_api_Count_bag_Gather_1 0))]) (by kernel_rfl) ⟨.head (loopL_sound (O_slices_rotateCmpFunc_api_Count_bag_Gather_1_ok n) dorcNil_ok (.of (l := []) (by kernel_rfl) trivial) (s_slices_rotateCmpFunc_api_Count_bag_Gather_1_s0 n)), trivial⟩) (e_slices_rotateCmpFunc_api_Count_bag_Gather_1 n)

noncomputable def C_slices_symMergeCmpFunc_api_Count_bag_Gather_1 : Code := bodyOf Tryd.f211
noncomputable def M_slices_symMergeCmpFunc_api_Count_bag_Gather_1 : List (Nat × ArgM) := [(999999999, ⟨[1], [], [], false⟩), (216, ⟨[1000], [], [], false⟩), (211, ⟨[1000], [], [], false⟩), (152, ⟨[], [], [], true⟩)]
noncomputable def O_slices_symMergeCmpFunc_api_Count_bag_Gather_1 {ρ : Type} (self_slices_symMergeCmpFunc_api_Count_bag_Gather_1 : Int × Int × Int × (List Ev.Cnt) × Unit → Option ((List Ev.Cnt) × Unit)) (n : Nat) : Orc ρ := orcCons 152 F_bag_Gather_1 (bag_Gather_1 n) (orcCons 216 F_slices_rotateCmpFunc_api_Count_bag_Gather_1 (slices_rotateCmpFunc_api_Count_bag_Gather_1 n) (orcCons 211 F_slices_symMergeCmpFunc_api_Count_bag_Gather_1 (self_slices_symMergeCmpFunc_api_Count_bag_Gather_1) (orcNil)))
omit [UTabs] in
theorem O_slices_symMergeCmpFunc_api_Count_bag_Gather_1_ok {ρ : Type} (self_slices_symMergeCmpFunc_api_Count_bag_Gather_1 : Int × Int × Int × (List Ev.Cnt) × Unit → Option ((List Ev.Cnt) × Unit)) (h_slices_symMergeCmpFunc_api_Count_bag_Gather_1 : Contract Tryd.prog 211 F_slices_symMergeCmpFunc_api_Count_bag_Gather_1 self_slices_symMergeCmpFunc_api_Count_bag_Gather_1) (n : Nat) : (O_slices_symMergeCmpFunc_api_Count_bag_Gather_1 self_slices_symMergeCmpFunc_api_Count_bag_Gather_1 n : Orc ρ).ok Tryd.prog := orcCons_ok (by kernel_rfl) (ok_bag_Gather_1 n) (orcCons_ok (by kernel_rfl) (ok_slices_rotateCmpFunc_api_Count_bag_Gather_1 n) (orcCons_ok (by kernel_rfl) (h_slices_symMergeCmpFunc_api_Count_bag_Gather_1) (orcNil_ok)))
noncomputable def T_slices_symMergeCmpFunc_api_Count_bag_Gather_1_s0 : Tm := ⟨[(0, .own 2000000), (4, .fn 152)], [(1, .i64), (10, .i64), (11, .i64)], [(2000000, .arr 92 .cnt)]⟩
noncomputable def X_slices_symMergeCmpFunc_api_Count_bag_Gather_1_s0 : Tm := ⟨[(0, .own 2000000)], [(1, .i64), (10, .i64)], [(2000000, .arr 92 .cnt)]⟩
noncomputable def R_slices_symMergeCmpFunc_api_Count_bag_Gather_1_s0 : Tm := ⟨[], [], []⟩
noncomputable def L_slices_symMergeCmpFunc_api_Count_bag_Gather_1_s0 {ρ : Type} (self_slices_symMergeCmpFunc_api_Count_bag_Gather_1 : Int × Int × Int × (List Ev.Cnt) × Unit → Option ((List Ev.Cnt) × Unit)) (n : Nat) : LOrc ρ := lorcNil
omit [Tabs] [UTabs] in
theorem s_slices_symMergeCmpFunc_api_Count_bag_Gather_1_s0 {ρ : Type} (self_slices_symMergeCmpFunc_api_Count_bag_Gather_1 : Int × Int × Int × (List Ev.Cnt) × Unit → Option ((List Ev.Cnt) × Unit)) (n : Nat) (rec : T_slices_symMergeCmpFunc_api_Count_bag_Gather_1_s0.den → Option ρ) kx kr s : dStep Tryd.prog 220 TT M_slices_symMergeCmpFunc_api_Count_bag_Gather_1 (O_slices_symMergeCmpFunc_api_Count_bag_Gather_1 self_slices_symMergeCmpFunc_api_Count_bag_Gather_1 n) (L_slices_symMergeCmpFunc_api_Count_bag_Gather_1_s0 self_slices_symMergeCmpFunc_api_Count_bag_Gather_1 n) (evDraw Tryd.prog 220 TT M_slices_symMergeCmpFunc_api_Count_bag_Gather_1 (O_slices_symMergeCmpFunc_api_Count_bag_Gather_1 self_slices_symMergeCmpFunc_api_Count_bag_Gather_1 n)) 0 (lbody 1000 C_slices_symMergeCmpFunc_api_Count_bag_Gather_1 0) T_slices_symMergeCmpFunc_api_Count_bag_Gather_1_s0 X_slices_symMergeCmpFunc_api_Count_bag_Gather_1_s0 R_slices_symMergeCmpFunc_api_Count_bag_Gather_1_s0 ⟨[], [], []⟩ rec kx kr s = slices_symMergeCmpFunc_api_Count_bag_Gather_1_s0 self_slices_symMergeCmpFunc_api_Count_bag_Gather_1 n rec kx kr s := by kernel_rfl
noncomputable def T_slices_symMergeCmpFunc_api_Count_bag_Gather_1_s2 : Tm := ⟨[(0, .own 2000000)], [(10, .i64), (13, .i64)], [(2000000, .arr 92 .cnt)]⟩
noncomputable def X_slices_symMergeCmpFunc_api_Count_bag_Gather_1_s2 : Tm := ⟨[], [], [(2000000, .arr 92 .cnt)]⟩
noncomputable def R_slices_symMergeCmpFunc_api_Count_bag_Gather_1_s2 : Tm := ⟨[], [], []⟩
noncomputable def L_slices_symMergeCmpFunc_api_Count_bag_Gather_1_s2 {ρ : Type} (self_slices_symMergeCmpFunc_api_Count_bag_Gather_1 : Int × Int × Int × (List Ev.Cnt) × Unit → Option ((List Ev.Cnt) × Unit)) (n : Nat) : LOrc ρ := lorcNil
omit [Tabs] [UTabs] in
theorem s_slices_symMergeCmpFunc_api_Count_bag_Gather_1_s2 {ρ : Type} (self_slices_symMergeCmpFunc_api_Count_bag_Gather_1 : Int × Int × Int × (List Ev.Cnt) × Unit → Option ((List Ev.Cnt) × Unit)) (n : Nat) (rec : T_slices_symMergeCmpFunc_api_Count_bag_Gather_1_s2.den → Option ρ) kx kr s : dStep Tryd.prog 220 TT M_slices_symMergeCmpFunc_api_Count_bag_Gather_1 (O_slices_symMergeCmpFunc_api_Count_bag_Gather_1 self_slices_symMergeCmpFunc_api_Count_bag_Gather_1 n) (L_slices_symMergeCmpFunc_api_Count_bag_Gather_1_s2 self_slices_symMergeCmpFunc_api_Count_bag_Gather_1 n) (evDraw Tryd.prog 220 TT M_slices_symMergeCmpFunc_api_Count_bag_Gather_1 (O_slices_symMergeCmpFunc_api_Count_bag_Gather_1 self_slices_symMergeCmpFunc_api_Count_bag_Gather_1 n)) 2 (lbody 1000 C_slices_symMergeCmpFunc_api_Count_bag_Gather_1 1) T_slices_symMergeCmpFunc_api_Count_bag_Gather_1_s2 X_slices_symMergeCmpFunc_api_Count_bag_Gather_1_s2 R_slices_symMergeCmpFunc_api_Count_bag_Gather_1_s2 ⟨[], [], []⟩ rec kx kr s = slices_symMergeCmpFunc_api_Count_bag_Gather_1_s2 self_slices_symMergeCmpFunc_api_Count_bag_Gather_1 n rec kx kr s := by kernel_rfl
noncomputable def T_slices_symMergeCmpFunc_api_Count_bag_Gather_1_s4 : Tm := ⟨[(0, .own 2000000), (4, .fn 152)], [(2, .i64), (14, .i64), (15, .i64)], [(2000000, .arr 92 .cnt)]⟩
noncomputable def X_slices_symMergeCmpFunc_api_Count_bag_Gather_1_s4 : Tm := ⟨[(0, .own 2000000)], [(2, .i64), (14, .i64)], [(2000000, .arr 92 .cnt)]⟩
noncomputable def R_slices_symMergeCmpFunc_api_Count_bag_Gather_1_s4 : Tm := ⟨[], [], []⟩
noncomputable def L_slices_symMergeCmpFunc_api_Count_bag_Gather_1_s4 {ρ : Type} (self_slices_symMergeCmpFunc_api_Count_bag_Gather_1 : Int × Int × Int × (List Ev.Cnt) × Unit → Option ((List Ev.Cnt) × Unit)) (n : Nat) : LOrc ρ := lorcNil
omit [Tabs] [UTabs] in
theorem s_slices_symMergeCmpFunc_api_Count_bag_Gather_1_s4 {ρ : Type} (self_slices_symMergeCmpFunc_api_Count_bag_Gather_1 : Int × Int × Int × (List Ev.Cnt) × Unit → Option ((List Ev.Cnt) × Unit)) (n : Nat) (rec : T_slices_symMergeCmpFunc_api_Count_bag_Gather_1_s4.den → Option ρ) kx kr s : dStep Tryd.prog 220 TT M_slices_symMergeCmpFunc_api_Count_bag_Gather_1 (O_slices_symMergeCmpFunc_api_Count_bag_Gather_1 self_slices_symMergeCmpFunc_api_Count_bag_Gather_1 n) (L_slices_symMergeCmpFunc_api_Count_bag_Gather_1_s4 self_slices_symMergeCmpFunc_api_Count_bag_Gather_1 n) (evDraw Tryd.prog 220 TT M_slices_symMergeCmpFunc_api_Count_bag_Gather_1 (O_slices_symMergeCmpFunc_api_Count_bag_Gather_1 self_slices_symMergeCmpFunc_api_Count_bag_Gather_1 n)) 4 (lbody 1000 C_slices_symMergeCmpFunc_api_Count_bag_Gather_1 2) T_slices_symMergeCmpFunc_api_Count_bag_Gather_1_s4 X_slices_symMergeCmpFunc_api_Count_bag_Gather_1_s4 R_slices_symMergeCmpFunc_api_Count_bag_Gather_1_s4 ⟨[], [], []⟩ rec kx kr s = slices_symMergeCmpFunc_api_Count_bag_Gather_1_s4 self_slices_symMergeCmpFunc_api_Count_bag_Gather_1 n rec kx kr s := by kernel_rfl
noncomputable def T_slices_symMergeCmpFunc_api_Count_bag_Gather_1_s6 : Tm := ⟨[(0, .own 2000000)], [(14, .i64), (17, .i64)], [(2000000, .arr 92 .cnt)]⟩
noncomputable def X_slices_symMergeCmpFunc_api_Count_bag_Gather_1_s6 : Tm := ⟨[], [], [(2000000, .arr 92 .cnt)]⟩
noncomputable def R_slices_symMergeCmpFunc_api_Count_bag_Gather_1_s6 : Tm := ⟨[], [], []⟩
noncomputable def L_slices_symMergeCmpFunc_api_Count_bag_Gather_1_s6 {ρ : Type} (self_slices_symMergeCmpFunc_api_Count_bag_Gather_1 : Int × Int × Int × (List Ev.Cnt) × Unit → Option ((List Ev.Cnt) × Unit)) (n : Nat) : LOrc ρ := lorcNil
omit [Tabs] [UTabs] in
theorem s_slices_symMergeCmpFunc_api_Count_bag_Gather_1_s6 {ρ : Type} (self_slices_symMergeCmpFunc_api_Count_bag_Gather_1 : Int × Int × Int × (List Ev.Cnt) × Unit → Option ((List Ev.Cnt) × Unit)) (n : Nat) (rec : T_slices_symMergeCmpFunc_api_Count_bag_Gather_1_s6.den → Option ρ) kx kr s : dStep Tryd.prog 220 TT M_slices_symMergeCmpFunc_api_Count_bag_Gather_1 (O_slices_symMergeCmpFunc_api_Count_bag_Gather_1 self_slices_symMergeCmpFunc_api_Count_bag_Gather_1 n) (L_slices_symMergeCmpFunc_api_Count_bag_Gather_1_s6 self_slices_symMergeCmpFunc_api_Count_bag_Gather_1 n) (evDraw Tryd.prog 220 TT M_slices_symMergeCmpFunc_api_Count_bag_Gather_1 (O_slices_symMergeCmpFunc_api_Count_bag_Gather_1 self_slices_symMergeCmpFunc_api_Count_bag_Gather_1 n)) 6 (lbody 1000 C_slices_symMergeCmpFunc_api_Count_bag_Gather_1 3) T_slices_symMergeCmpFunc_api_Count_bag_Gather_1_s6 X_slices_symMergeCmpFunc_api_Count_bag_Gather_1_s6 R_slices_symMergeCmpFunc_api_Count_bag_Gather_1_s6 ⟨[], [], []⟩ rec kx kr s = slices_symMergeCmpFunc_api_Count_bag_Gather_1_s6 self_slices_symMergeCmpFunc_api_Count_bag_Gather_1 n rec kx kr s := by kernel_rfl
noncomputable def T_slices_symMergeCmpFunc_api_Count_bag_Gather_1_s8 : Tm := ⟨[(0, .own 2000000), (4, .fn 152)], [(1, .i64), (2, .i64), (3, .i64), (18, .i64), (19, .i64), (20, .i64), (21, .i64), (22, .i64)], [(2000000, .arr 92 .cnt)]⟩
noncomputable def X_slices_symMergeCmpFunc_api_Count_bag_Gather_1_s8 : Tm := ⟨[(0, .own 2000000), (4, .fn 152)], [(1, .i64), (2, .i64), (3, .i64), (18, .i64), (19, .i64), (20, .i64)], [(2000000, .arr 92 .cnt)]⟩
noncomputable def R_slices_symMergeCmpFunc_api_Count_bag_Gather_1_s8 : Tm := ⟨[], [], []⟩
noncomputable def L_slices_symMergeCmpFunc_api_Count_bag_Gather_1_s8 {ρ : Type} (self_slices_symMergeCmpFunc_api_Count_bag_Gather_1 : Int × Int × Int × (List Ev.Cnt) × Unit → Option ((List Ev.Cnt) × Unit)) (n : Nat) : LOrc ρ := lorcNil
omit [Tabs] [UTabs] in
theorem s_slices_symMergeCmpFunc_api_Count_bag_Gather_1_s8 {ρ : Type} (self_slices_symMergeCmpFunc_api_Count_bag_Gather_1 : Int × Int × Int × (List Ev.Cnt) × Unit → Option ((List Ev.Cnt) × Unit)) (n : Nat) (rec : T_slices_symMergeCmpFunc_api_Count_bag_Gather_1_s8.den → Option ρ) kx kr s : dStep Tryd.prog 220 TT M_slices_symMergeCmpFunc_api_Count_bag_Gather_1 (O_slices_symMergeCmpFunc_api_Count_bag_Gather_1 self_slices_symMergeCmpFunc_api_Count_bag_Gather_1 n) (L_slices_symMergeCmpFunc_api_Count_bag_Gather_1_s8 self_slices_symMergeCmpFunc_api_Count_bag_Gather_1 n) (evDraw Tryd.prog 220 TT M_slices_symMergeCmpFunc_api_Count_bag_Gather_1 (O_slices_symMergeCmpFunc_api_Count_bag_Gather_1 self_slices_symMergeCmpFunc_api_Count_bag_Gather_1 n)) 8 (lbody 1000 C_slices_symMergeCmpFunc_api_Count_bag_Gather_1 4) T_slices_symMergeCmpFunc_api_Count_bag_Gather_1_s8 X_slices_symMergeCmpFunc_api_Count_bag_Gather_1_s8 R_slices_symMergeCmpFunc_api_Count_bag_Gather_1_s8 ⟨[], [], []⟩ rec kx kr s = slices_symMergeCmpFunc_api_Count_bag_Gather_1_s8 self_slices_symMergeCmpFunc_api_Count_bag_Gather_1 n rec kx kr s := by kernel_rfl
noncomputable def L_slices_symMergeCmpFunc_api_Count_bag_Gather_1 {ρ : Type} (self_slices_symMergeCmpFunc_api_Count_bag_Gather_1 : Int × Int × Int × (List Ev.Cnt) × Unit → Option ((List Ev.Cnt) × Unit)) (n : Nat) : LOrc ρ := lorcCons 0 (loopL 220 0 n T_slices_symMergeCmpFunc_api_Count_bag_Gather_1_s0 X_slices_symMergeCmpFunc_api_Count_bag_Gather_1_s0 R_slices_symMergeCmpFunc_api_Count_bag_Gather_1_s0 ⟨[], [], []⟩ (slices_symMergeCmpFunc_api_Count_bag_Gather_1_s0 self_slices_symMergeCmpFunc_api_Count_bag_Gather_1 n)) (lorcCons 2 (loopL 220 2 n T_slices_symMergeCmpFunc_api_Count_bag_Gather_1_s2 X_slices_symMergeCmpFunc_api_Count_bag_Gather_1_s2 R_slices_symMergeCmpFunc_api_Count_bag_Gather_1_s2 ⟨[], [], []⟩ (slices_symMergeCmpFunc_api_Count_bag_Gather_1_s2 self_slices_symMergeCmpFunc_api_Count_bag_Gather_1 n)) (lorcCons 4 (loopL 220 4 n T_slices_symMergeCmpFunc_api_Count_bag_Gather_1_s4 X_slices_symMergeCmpFunc_api_Count_bag_Gather_1_s4 R_slices_symMergeCmpFunc_api_Count_bag_Gather_1_s4 ⟨[], [], []⟩ (slices_symMergeCmpFunc_api_Count_bag_Gather_1_s4 self_slices_symMergeCmpFunc_api_Count_bag_Gather_1 n)) (lorcCons 6 (loopL 220 6 n T_slices_symMergeCmpFunc_api_Count_bag_Gather_1_s6 X_slices_symMergeCmpFunc_api_Count_bag_Gather_1_s6 R_slices_symMergeCmpFunc_api_Count_bag_Gather_1_s6 ⟨[], [], []⟩ (slices_symMergeCmpFunc_api_Count_bag_Gather_1_s6 self_slices_symMergeCmpFunc_api_Count_bag_Gather_1 n)) (lorcCons 8 (loopL 220 8 n T_slices_symMergeCmpFunc_api_Count_bag_Gather_1_s8 X_slices_symMergeCmpFunc_api_Count_bag_Gather_1_s8 R_slices_symMergeCmpFunc_api_Count_bag_Gather_1_s8 ⟨[], [], []⟩ (slices_symMergeCmpFunc_api_Count_bag_Gather_1_s8 self_slices_symMergeCmpFunc_api_Count_bag_Gather_1 n)) (lorcNil)))))
omit [Tabs] [UTabs] in
theorem e_slices_symMergeCmpFunc_api_Count_bag_Gather_1 (self_slices_symMergeCmpFunc_api_Count_bag_Gather_1 : Int × Int × Int × (List Ev.Cnt) × Unit → Option ((List Ev.Cnt) × Unit)) (n : Nat) (x) : evF Tryd.prog 220 TT M_slices_symMergeCmpFunc_api_Count_bag_Gather_1 F_slices_symMergeCmpFunc_api_Count_bag_Gather_1 (O_slices_symMergeCmpFunc_api_Count_bag_Gather_1 self_slices_symMergeCmpFunc_api_Count_bag_Gather_1 n) (L_slices_symMergeCmpFunc_api_Count_bag_Gather_1 self_slices_symMergeCmpFunc_api_Count_bag_Gather_1 n) (evDraw Tryd.prog 220 TT M_slices_symMergeCmpFunc_api_Count_bag_Gather_1 (O_slices_symMergeCmpFunc_api_Count_bag_Gather_1 self_slices_symMergeCmpFunc_api_Count_bag_Gather_1 n)) ⟨[], [], []⟩ [] C_slices_symMergeCmpFunc_api_Count_bag_Gather_1 x = slices_symMergeCmpFunc_api_Count_bag_Gather_1_b self_slices_symMergeCmpFunc_api_Count_bag_Gather_1 n x := by kernel_rfl
omit [UTabs] in
theorem okb_slices_symMergeCmpFunc_api_Count_bag_Gather_1 (self_slices_symMergeCmpFunc_api_Count_bag_Gather_1 : Int × Int × Int × (List Ev.Cnt) × Unit → Option ((List Ev.Cnt) × Unit)) (h_slices_symMergeCmpFunc_api_Count_bag_Gather_1 : Contract Tryd.prog 211 F_slices_symMergeCmpFunc_api_Count_bag_Gather_1 self_slices_symMergeCmpFunc_api_Count_bag_Gather_1) (n : Nat) : Contract Tryd.prog 211 F_slices_symMergeCmpFunc_api_Count_bag_Gather_1 (slices_symMergeCmpFunc_api_Count_bag_Gather_1_b self_slices_symMergeCmpFunc_api_Count_bag_Gather_1 n) :=
  Contract.of_ev (c := C_slices_symMergeCmpFunc_api_Count_bag_Gather_1) (N := 220) Tryd.func211 (by kernel_rfl) (by kernel_rfl) (by kernel_rfl) (by kernel_rfl) (O_slices_symMergeCmpFunc_api_Count_bag_Gather_1_ok self_slices_symMergeCmpFunc_api_Count_bag_Gather_1 h_slices_symMergeCmpFunc_api_Count_bag_Gather_1 n) (evDraw_ok (O_slices_symMergeCmpFunc_api_Count_bag_Gather_1_ok self_slices_symMergeCmpFunc_api_Count_bag_Gather_1 h_slices_symMergeCmpFunc_api_Count_bag_Gather_1 n) (by kernel_rfl)) (.of (l := [(0, (lbody 1000 C_slices_symMergeCmpFunc_api_Count_bag_Gather_1 0)), (2, (lbody 1000 C_slices_symMergeCmpFunc_api_Count_bag_Gather_1 1)), (4, (lbody 1000 C_slices_symMergeCmpFunc_api_Count_bag_Gather_1 2)), (6, (lbody 1000 C_slices_symMergeCmpFunc_api_Count_bag_Gather_1 3)), (8, (lbody 1000 C_slices_symMergeCmpFunc_api_Count_bag_Gather_1 4))]) (by kernel_rfl) ⟨.head (loopL_sound (O_slices_symMergeCmpFunc_api_Count_bag_Gather_1_ok self_slices_symMergeCmpFunc_api_Count_bag_Gather_1 h_slices_symMergeCmpFunc_api_Count_bag_Gather_1 n) (evDraw_ok (O_slices_symMergeCmpFunc_api_Count_bag_Gather_1_ok self_slices_symMergeCmpFunc_api_Count_bag_Gather_1 h_slices_symMergeCmpFunc_api_Count_bag_Gather_1 n) (by kernel_rfl)) (.of (l := []) (by kernel_rfl) trivial) (s_slices_symMergeCmpFunc_api_Count_bag_Gather_1_s0 self_slices_symMergeCmpFunc_api_Count_bag_Gather_1 n)), ⟨.tail rfl (.head (loopL_sound (O_slices_symMergeCmpFunc_api_Count_bag_Gather_1_ok self_slices_symMergeCmpFunc_api_Count_bag_Gather_1 h_slices_symMergeCmpFunc_api_Count_bag_Gather_1 n) (evDraw_ok (O_slices_symMergeCmpFunc_api_Count_bag_Gather_1_ok self_slices_symMergeCmpFunc_api_Count_bag_Gather_1 h_slices_symMergeCmpFunc_api_Count_bag_Gather_1 n) (by kernel_rfl)) (.of (l := []) (by kernel_rfl) trivial) (s_slices_symMergeCmpFunc_api_Count_bag_Gather_1_s2 self_slices_symMergeCmpFunc_api_Count_bag_Gather_1 n))), ⟨.tail rfl (.tail rfl (.head (loopL_sound (O_slices_symMergeCmpFunc_api_Count_bag_Gather_1_ok self_slices_symMergeCmpFunc_api_Count_bag_Gather_1 h_slices_symMergeCmpFunc_api_Count_bag_Gather_1 n) (evDraw_ok (O_slices_symMergeCmpFunc_api_Count_bag_Gather_1_ok self_slices_symMergeCmpFunc_api_Count_bag_Gather_1 h_slices_symMergeCmpFunc_api_Count_bag_Gather_1 n) (by kernel_rfl)) (.of (l := []) (by kernel_rfl) trivial) (s_slices_symMergeCmpFunc_api_Count_bag_Gather_1_s4 self_slices_symMergeCmpFunc_api_Count_bag_Gather_1 n)))), ⟨.tail rfl (.tail rfl (.tail rfl (.head (loopL_sound (O_slices_symMergeCmpFunc_api_Count_bag_Gather_1_ok self_slices_symMergeCmpFunc_api_Count_bag_Gather_1 h_slices_symMergeCmpFunc_api_Count_bag_Gather_1 n) (evDraw_ok (O_slices_symMergeCmpFunc_api_Count_bag_Gather_1_ok self_slices_symMergeCmpFunc_api_Count_bag_Gather_1 h_slices_symMergeCmpFunc_api_Count_bag_Gather_1 n) (by kernel_rfl)) (.of (l := []) (by kernel_rfl) trivial) (s_slices_symMergeCmpFunc_api_Count_bag_Gather_1_s6 self_slices_symMergeCmpFunc_api_Count_bag_Gather_1 n))))), ⟨.tail rfl (.tail rfl (.tail rfl (.tail rfl (.head (loopL_sound (O_slices_symMergeCmpFunc_api_Count_bag_Gather_1_ok self_slices_symMergeCmpFunc_api_Count_bag_Gather_1 h_slices_symMergeCmpFunc_api_Count_bag_Gather_1 n) (evDraw_ok (O_slices_symMergeCmpFunc_api_Count_bag_Gather_1_ok self_slices_symMergeCmpFunc_api_Count_bag_Gather_1 h_slices_symMergeCmpFunc_api_Count_bag_Gather_1 n) (by kernel_rfl)) (.of (l := []) (by kernel_rfl) trivial) (s_slices_symMergeCmpFunc_api_Count_bag_Gather_1_s8 self_slices_symMergeCmpFunc_api_Count_bag_Gather_1 n)))))), trivial⟩⟩⟩⟩⟩) (e_slices_symMergeCmpFunc_api_Count_bag_Gather_1 self_slices_symMergeCmpFunc_api_Count_bag_Gather_1 n)
omit [UTabs] in
theorem ok_slices_symMergeCmpFunc_api_Count_bag_Gather_1 : ∀ n, Contract Tryd.prog 211 F_slices_symMergeCmpFunc_api_Count_bag_Gather_1 (slices_symMergeCmpFunc_api_Count_bag_Gather_1 n)
  | 0 => fun _ _ h => by cases h
  | n + 1 => okb_slices_symMergeCmpFunc_api_Count_bag_Gather_1 _ (ok_slices_symMergeCmpFunc_api_Count_bag_Gather_1 n) n

noncomputable def C_slices_stableCmpFunc_api_Count_bag_Gather_1 : Code := bodyOf Tryd.f186
noncomputable def M_slices_stableCmpFunc_api_Count_bag_Gather_1 : List (Nat × ArgM) := [(999999999, ⟨[1], [], [], false⟩), (210, ⟨[1000], [], [], false⟩), (211, ⟨[1000], [], [], false⟩)]
noncomputable def O_slices_stableCmpFunc_api_Count_bag_Gather_1 {ρ : Type} (n : Nat) : Orc ρ := orcCons 210 F_slices_insertionSortCmpFunc_api_Count_bag_Gather_1 (slices_insertionSortCmpFunc_api_Count_bag_Gather_1 n) (orcCons 211 F_slices_symMergeCmpFunc_api_Count_bag_Gather_1 (slices_symMergeCmpFunc_api_Count_bag_Gather_1 n) (orcNil))
omit [UTabs] in
theorem O_slices_stableCmpFunc_api_Count_bag_Gather_1_ok {ρ : Type} (n : Nat) : (O_slices_stableCmpFunc_api_Count_bag_Gather_1 n : Orc ρ).ok Tryd.prog := orcCons_ok (by kernel_rfl) (ok_slices_insertionSortCmpFunc_api_Count_bag_Gather_1 n) (orcCons_ok (by kernel_rfl) (ok_slices_symMergeCmpFunc_api_Count_bag_Gather_1 n) (orcNil_ok))
noncomputable def T_slices_stableCmpFunc_api_Count_bag_Gather_1_s0 : Tm := ⟨[(0, .own 2000000), (2, .fn 152)], [(1, .i64), (6, .i64), (7, .i64), (8, .i64)], [(2000000, .arr 92 .cnt)]⟩
noncomputable def X_slices_stableCmpFunc_api_Count_bag_Gather_1_s0 : Tm := ⟨[(0, .own 2000000), (2, .fn 152)], [(1, .i64), (6, .i64), (7, .i64)], [(2000000, .arr 92 .cnt)]⟩
noncomputable def R_slices_stableCmpFunc_api_Count_bag_Gather_1_s0 : Tm := ⟨[], [], []⟩
noncomputable def L_slices_stableCmpFunc_api_Count_bag_Gather_1_s0 {ρ : Type} (n : Nat) : LOrc ρ := lorcNil
omit [Tabs] [UTabs] in
theorem s_slices_stableCmpFunc_api_Count_bag_Gather_1_s0 {ρ : Type} (n : Nat) (rec : T_slices_stableCmpFunc_api_Count_bag_Gather_1_s0.den → Option ρ) kx kr s : dStep Tryd.prog 63 TT M_slices_stableCmpFunc_api_Count_bag_Gather_1 (O_slices_stableCmpFunc_api_Count_bag_Gather_1 n) (L_slices_stableCmpFunc_api_Count_bag_Gather_1_s0 n) dorcNil 0 (lbody 1000 C_slices_stableCmpFunc_api_Count_bag_Gather_1 0) T_slices_stableCmpFunc_api_Count_bag_Gather_1_s0 X_slices_stableCmpFunc_api_Count_bag_Gather_1_s0 R_slices_stableCmpFunc_api_Count_bag_Gather_1_s0 ⟨[], [], []⟩ rec kx kr s = slices_stableCmpFunc_api_Count_bag_Gather_1_s0 n rec kx kr s := by kernel_rfl
noncomputable def T_slices_stableCmpFunc_api_Count_bag_Gather_1_s4 : Tm := ⟨[(0, .own 2000000), (2, .fn 152)], [(1, .i64), (6, .i64), (7, .i64), (8, .i64)], [(2000000, .arr 92 .cnt)]⟩
noncomputable def X_slices_stableCmpFunc_api_Count_bag_Gather_1_s4 : Tm := ⟨[(0, .own 2000000), (2, .fn 152)], [(1, .i64), (6, .i64), (7, .i64)], [(2000000, .arr 92 .cnt)]⟩
noncomputable def R_slices_stableCmpFunc_api_Count_bag_Gather_1_s4 : Tm := ⟨[], [], []⟩
noncomputable def L_slices_stableCmpFunc_api_Count_bag_Gather_1_s4 {ρ : Type} (n : Nat) : LOrc ρ := lorcNil
omit [Tabs] [UTabs] in
theorem s_slices_stableCmpFunc_api_Count_bag_Gather_1_s4 {ρ : Type} (n : Nat) (rec : T_slices_stableCmpFunc_api_Count_bag_Gather_1_s4.den → Option ρ) kx kr s : dStep Tryd.prog 63 TT M_slices_stableCmpFunc_api_Count_bag_Gather_1 (O_slices_stableCmpFunc_api_Count_bag_Gather_1 n) (L_slices_stableCmpFunc_api_Count_bag_Gather_1_s4 n) dorcNil 4 (lbody 2 (lbody 1000 C_slices_stableCmpFunc_api_Count_bag_Gather_1 1) 0) T_slices_stableCmpFunc_api_Count_bag_Gather_1_s4 X_slices_stableCmpFunc_api_Count_bag_Gather_1_s4 R_slices_stableCmpFunc_api_Count_bag_Gather_1_s4 ⟨[], [], []⟩ rec kx kr s = slices_stableCmpFunc_api_Count_bag_Gather_1_s4 n rec kx kr s := by kernel_rfl
noncomputable def T_slices_stableCmpFunc_api_Count_bag_Gather_1_s2 : Tm := ⟨[(0, .own 2000000), (2, .fn 152)], [(1, .i64), (6, .i64)], [(2000000, .arr 92 .cnt)]⟩
noncomputable def X_slices_stableCmpFunc_api_Count_bag_Gather_1_s2 : Tm := ⟨[], [], [(2000000, .arr 92 .cnt)]⟩
noncomputable def R_slices_stableCmpFunc_api_Count_bag_Gather_1_s2 : Tm := ⟨[], [], []⟩
noncomputable def L_slices_stableCmpFunc_api_Count_bag_Gather_1_s2 {ρ : Type} (n : Nat) : LOrc ρ := lorcCons 4 (loopL 63 4 n T_slices_stableCmpFunc_api_Count_bag_Gather_1_s4 X_slices_stableCmpFunc_api_Count_bag_Gather_1_s4 R_slices_stableCmpFunc_api_Count_bag_Gather_1_s4 ⟨[], [], []⟩ (slices_stableCmpFunc_api_Count_bag_Gather_1_s4 n)) (lorcNil)
omit [Tabs] [UTabs] in
theorem s_slices_stableCmpFunc_api_Count_bag_Gather_1_s2 {ρ : Type} (n : Nat) (rec : T_slices_stableCmpFunc_api_Count_bag_Gather_1_s2.den → Option ρ) kx kr s : dStep Tryd.prog 63 TT M_slices_stableCmpFunc_api_Count_bag_Gather_1 (O_slices_stableCmpFunc_api_Count_bag_Gather_1 n) (L_slices_stableCmpFunc_api_Count_bag_Gather_1_s2 n) dorcNil 2 (lbody 1000 C_slices_stableCmpFunc_api_Count_bag_Gather_1 1) T_slices_stableCmpFunc_api_Count_bag_Gather_1_s2 X_slices_stableCmpFunc_api_Count_bag_Gather_1_s2 R_slices_stableCmpFunc_api_Count_bag_Gather_1_s2 ⟨[], [], []⟩ rec kx kr s = slices_stableCmpFunc_api_Count_bag_Gather_1_s2 n rec kx kr s := by kernel_rfl
noncomputable def L_slices_stableCmpFunc_api_Count_bag_Gather_1 {ρ : Type} (n : Nat) : LOrc ρ := lorcCons 0 (loopL 63 0 n T_slices_stableCmpFunc_api_Count_bag_Gather_1_s0 X_slices_stableCmpFunc_api_Count_bag_Gather_1_s0 R_slices_stableCmpFunc_api_Count_bag_Gather_1_s0 ⟨[], [], []⟩ (slices_stableCmpFunc_api_Count_bag_Gather_1_s0 n)) (lorcCons 2 (loopL 63 2 n T_slices_stableCmpFunc_api_Count_bag_Gather_1_s2 X_slices_stableCmpFunc_api_Count_bag_Gather_1_s2 R_slices_stableCmpFunc_api_Count_bag_Gather_1_s2 ⟨[], [], []⟩ (slices_stableCmpFunc_api_Count_bag_Gather_1_s2 n)) (lorcNil))
omit [Tabs] [UTabs] in
theorem e_slices_stableCmpFunc_api_Count_bag_Gather_1 (n : Nat) (x) : evF Tryd.prog 63 TT M_slices_stableCmpFunc_api_Count_bag_Gather_1 F_slices_stableCmpFunc_api_Count_bag_Gather_1 (O_slices_stableCmpFunc_api_Count_bag_Gather_1 n) (L_slices_stableCmpFunc_api_Count_bag_Gather_1 n) dorcNil ⟨[], [], []⟩ [] C_slices_stableCmpFunc_api_Count_bag_Gather_1 x = slices_stableCmpFunc_api_Count_bag_Gather_1 n x := by kernel_rfl
omit [UTabs] in
theorem ok_slices_stableCmpFunc_api_Count_bag_Gather_1 (n : Nat) : Contract Tryd.prog 186 F_slices_stableCmpFunc_api_Count_bag_Gather_1 (slices_stableCmpFunc_api_Count_bag_Gather_1 n) :=
  Contract.of_ev (c := C_slices_stableCmpFunc_api_Count_bag_Gather_1) (N := 63) Tryd.func186 (by kernel_rfl) (by kernel_rfl) (by kernel_rfl) (by kernel_rfl) (O_slices_stableCmpFunc_api_Count_bag_Gather_1_ok n) dorcNil_ok (.of (l := [(0, (lbody 1000 C_slices_stableCmpFunc_api_Count_bag_Gather_1 0)), (2, (lbody 1000 C_slices_stableCmpFunc_api_Count_bag_Gather_1 1))]) (by kernel_rfl) ⟨.head (loopL_sound (O_slices_stableCmpFunc_api_Count_bag_Gather_1_ok n) dorcNil_ok (.of (l := []) (by kernel_rfl) trivial) (s_slices_stableCmpFunc_api_Count_bag_Gather_1_s0 n)), ⟨.tail rfl (.head (loopL_sound (O_slices_stableCmpFunc_api_Count_bag_Gather_1_ok n) dorcNil_ok (.of (l := [(4, (lbody 2 (lbody 1000 C_slices_stableCmpFunc_api_Count_bag_Gather_1 1) 0))]) (by kernel_rfl) ⟨.head (loopL_sound (O_slices_stableCmpFunc_api_Count_bag_Gather_1_ok n) dorcNil_ok (.of (l := []) (by kernel_rfl) trivial) (s_slices_stableCmpFunc_api_Count_bag_Gather_1_s4 n)), trivial⟩) (s_slices_stableCmpFunc_api_Count_bag_Gather_1_s2 n))), trivial⟩⟩) (e_slices_stableCmpFunc_api_Count_bag_Gather_1 n)

noncomputable def C_slices_SortStableFunc_api_Count_api_Count_bag_Gather_1 : Code := bodyOf Tryd.f151
noncomputable def M_slices_SortStableFunc_api_Count_api_Count_bag_Gather_1 : List (Nat × ArgM) := [(999999999, ⟨[1], [], [], false⟩), (186, ⟨[1000], [], [], false⟩)]
noncomputable def O_slices_SortStableFunc_api_Count_api_Count_bag_Gather_1 {ρ : Type} (n : Nat) : Orc ρ := orcCons 186 F_slices_stableCmpFunc_api_Count_bag_Gather_1 (slices_stableCmpFunc_api_Count_bag_Gather_1 n) (orcNil)
omit [UTabs] in
theorem O_slices_SortStableFunc_api_Count_api_Count_bag_Gather_1_ok {ρ : Type} (n : Nat) : (O_slices_SortStableFunc_api_Count_api_Count_bag_Gather_1 n : Orc ρ).ok Tryd.prog := orcCons_ok (by kernel_rfl) (ok_slices_stableCmpFunc_api_Count_bag_Gather_1 n) (orcNil_ok)
noncomputable def L_slices_SortStableFunc_api_Count_api_Count_bag_Gather_1 {ρ : Type} (n : Nat) : LOrc ρ := lorcNil
omit [Tabs] [UTabs] in
theorem e_slices_SortStableFunc_api_Count_api_Count_bag_Gather_1 (n : Nat) (x) : evF Tryd.prog 9 TT M_slices_SortStableFunc_api_Count_api_Count_bag_Gather_1 F_slices_SortStableFunc_api_Count_api_Count_bag_Gather_1 (O_slices_SortStableFunc_api_Count_api_Count_bag_Gather_1 n) (L_slices_SortStableFunc_api_Count_api_Count_bag_Gather_1 n) dorcNil ⟨[], [], []⟩ [] C_slices_SortStableFunc_api_Count_api_Count_bag_Gather_1 x = slices_SortStableFunc_api_Count_api_Count_bag_Gather_1 n x := by kernel_rfl
omit [UTabs] in
theorem ok_slices_SortStableFunc_api_Count_api_Count_bag_Gather_1 (n : Nat) : Contract Tryd.prog 151 F_slices_SortStableFunc_api_Count_api_Count_bag_Gather_1 (slices_SortStableFunc_api_Count_api_Count_bag_Gather_1 n) :=
  Contract.of_ev (c := C_slices_SortStableFunc_api_Count_api_Count_bag_Gather_1) (N := 9) Tryd.func151 (by kernel_rfl) (by kernel_rfl) (by kernel_rfl) (by kernel_rfl) (O_slices_SortStableFunc_api_Count_api_Count_bag_Gather_1_ok n) dorcNil_ok (.of (l := []) (by kernel_rfl) trivial) (e_slices_SortStableFunc_api_Count_api_Count_bag_Gather_1 n)

noncomputable def F_slices_DeleteFunc_api_Bag_api_Count_bag_Gather_2 : FnT := ⟨2, ⟨[(0, .own 1000000), (1, .fn 154)], [], [(1000000, .arr 92 .cnt)]⟩, [.ref (.own 1000000)], [(1000000, .arr 92 .cnt)]⟩
noncomputable def F_slices_IndexFunc_api_Bag_api_Count_bag_Gather_2 : FnT := ⟨2, ⟨[(1, .fn 154)], [(0, (.lst .cnt))], []⟩, [.v .i64], []⟩
noncomputable def F_bag_Gather_2 : FnT := ⟨1, ⟨[], [(0, .cnt)], []⟩, [.v .bool], []⟩
noncomputable def C_bag_Gather_2 : Code := bodyOf Tryd.f154
noncomputable def M_bag_Gather_2 : List (Nat × ArgM) := []
noncomputable def O_bag_Gather_2 {ρ : Type} : Orc ρ := orcNil
omit [UTabs] in
theorem O_bag_Gather_2_ok {ρ : Type} : (O_bag_Gather_2 : Orc ρ).ok Tryd.prog := orcNil_ok
noncomputable def L_bag_Gather_2 {ρ : Type} : LOrc ρ := lorcNil
omit [Tabs] [UTabs] in
theorem e_bag_Gather_2 (x) : evF Tryd.prog 6 TT M_bag_Gather_2 F_bag_Gather_2 (O_bag_Gather_2) (L_bag_Gather_2) dorcNil ⟨[], [], []⟩ [.tmp 2] C_bag_Gather_2 x = bag_Gather_2 x := by kernel_rfl
omit [UTabs] in
theorem ok_bag_Gather_2 : Contract Tryd.prog 154 F_bag_Gather_2 (bag_Gather_2) :=
  Contract.of_ev (c := C_bag_Gather_2) (N := 6) Tryd.func154 (by kernel_rfl) (by kernel_rfl) (by kernel_rfl) (by kernel_rfl) (O_bag_Gather_2_ok) dorcNil_ok (.of (l := []) (by kernel_rfl) trivial) (e_bag_Gather_2)

noncomputable def C_slices_IndexFunc_api_Bag_api_Count_bag_Gather_2 : Code := bodyOf Tryd.f187
noncomputable def M_slices_IndexFunc_api_Bag_api_Count_bag_Gather_2 : List (Nat × ArgM) := [(154, ⟨[], [], [], true⟩)]
noncomputable def O_slices_IndexFunc_api_Bag_api_Count_bag_Gather_2 {ρ : Type} (n : Nat) : Orc ρ := orcCons 154 F_bag_Gather_2 (bag_Gather_2) (orcNil)
omit [UTabs] in
theorem O_slices_IndexFunc_api_Bag_api_Count_bag_Gather_2_ok {ρ : Type} (n : Nat) : (O_slices_IndexFunc_api_Bag_api_Count_bag_Gather_2 n : Orc ρ).ok Tryd.prog := orcCons_ok (by kernel_rfl) (ok_bag_Gather_2) (orcNil_ok)
noncomputable def T_slices_IndexFunc_api_Bag_api_Count_bag_Gather_2_s0 : Tm := ⟨[(1, .fn 154)], [(0, (.lst .cnt)), (7, .i64), (8, .i64)], []⟩
noncomputable def X_slices_IndexFunc_api_Bag_api_Count_bag_Gather_2_s0 : Tm := ⟨[], [], []⟩
noncomputable def R_slices_IndexFunc_api_Bag_api_Count_bag_Gather_2_s0 : Tm := ⟨[], [(4, .i64)], []⟩
noncomputable def L_slices_IndexFunc_api_Bag_api_Count_bag_Gather_2_s0 {ρ : Type} (n : Nat) : LOrc ρ := lorcNil
omit [Tabs] [UTabs] in
theorem s_slices_IndexFunc_api_Bag_api_Count_bag_Gather_2_s0 {ρ : Type} (n : Nat) (rec : T_slices_IndexFunc_api_Bag_api_Count_bag_Gather_2_s0.den → Option ρ) kx kr s : dStep Tryd.prog 19 TT M_slices_IndexFunc_api_Bag_api_Count_bag_Gather_2 (O_slices_IndexFunc_api_Bag_api_Count_bag_Gather_2 n) (L_slices_IndexFunc_api_Bag_api_Count_bag_Gather_2_s0 n) dorcNil 0 (lbody 1000 C_slices_IndexFunc_api_Bag_api_Count_bag_Gather_2 0) T_slices_IndexFunc_api_Bag_api_Count_bag_Gather_2_s0 X_slices_IndexFunc_api_Bag_api_Count_bag_Gather_2_s0 R_slices_IndexFunc_api_Bag_api_Count_bag_Gather_2_s0 ⟨[], [], []⟩ rec kx kr s = slices_IndexFunc_api_Bag_api_Count_bag_Gather_2_s0 n rec kx kr s := by kernel_rfl
noncomputable def L_slices_IndexFunc_api_Bag_api_Count_bag_Gather_2 {ρ : Type} (n : Nat) : LOrc ρ := lorcCons 0 (loopL 19 0 n T_slices_IndexFunc_api_Bag_api_Count_bag_Gather_2_s0 X_slices_IndexFunc_api_Bag_api_Count_bag_Gather_2_s0 R_slices_IndexFunc_api_Bag_api_Count_bag_Gather_2_s0 ⟨[], [], []⟩ (slices_IndexFunc_api_Bag_api_Count_bag_Gather_2_s0 n)) (lorcNil)
omit [Tabs] [UTabs] in
theorem e_slices_IndexFunc_api_Bag_api_Count_bag_Gather_2 (n : Nat) (x) : evF Tryd.prog 19 TT M_slices_IndexFunc_api_Bag_api_Count_bag_Gather_2 F_slices_IndexFunc_api_Bag_api_Count_bag_Gather_2 (O_slices_IndexFunc_api_Bag_api_Count_bag_Gather_2 n) (L_slices_IndexFunc_api_Bag_api_Count_bag_Gather_2 n) dorcNil ⟨[], [], []⟩ [.tmp 4] C_slices_IndexFunc_api_Bag_api_Count_bag_Gather_2 x = slices_IndexFunc_api_Bag_api_Count_bag_Gather_2 n x := by kernel_rfl
omit [UTabs] in
theorem ok_slices_IndexFunc_api_Bag_api_Count_bag_Gather_2 (n : Nat) : Contract Tryd.prog 187 F_slices_IndexFunc_api_Bag_api_Count_bag_Gather_2 (slices_IndexFunc_api_Bag_api_Count_bag_Gather_2 n) :=
  Contract.of_ev (c := C_slices_IndexFunc_api_Bag_api_Count_bag_Gather_2) (N := 19) Tryd.func187 (by kernel_rfl) (by kernel_rfl) (by kernel_rfl) (by kernel_rfl) (O_slices_IndexFunc_api_Bag_api_Count_bag_Gather_2_ok n) dorcNil_ok (.of (l := [(0, (lbody 1000 C_slices_IndexFunc_api_Bag_api_Count_bag_Gather_2 0))]) (by kernel_rfl) ⟨.head (loopL_sound (O_slices_IndexFunc_api_Bag_api_Count_bag_Gather_2_ok n) dorcNil_ok (.of (l := []) (by kernel_rfl) trivial) (s_slices_IndexFunc_api_Bag_api_Count_bag_Gather_2_s0 n)), trivial⟩) (e_slices_IndexFunc_api_Bag_api_Count_bag_Gather_2 n)

noncomputable def C_slices_DeleteFunc_api_Bag_api_Count_bag_Gather_2 : Code := bodyOf Tryd.f153
noncomputable def M_slices_DeleteFunc_api_Bag_api_Count_bag_Gather_2 : List (Nat × ArgM) := [(999999999, ⟨[1], [], [], false⟩), (187, ⟨[], [], [], true⟩), (154, ⟨[], [], [], true⟩)]
noncomputable def O_slices_DeleteFunc_api_Bag_api_Count_bag_Gather_2 {ρ : Type} (n : Nat) : Orc ρ := orcCons 187 F_slices_IndexFunc_api_Bag_api_Count_bag_Gather_2 (slices_IndexFunc_api_Bag_api_Count_bag_Gather_2 n) (orcCons 154 F_bag_Gather_2 (bag_Gather_2) (orcNil))
omit [UTabs] in
theorem O_slices_DeleteFunc_api_Bag_api_Count_bag_Gather_2_ok {ρ : Type} (n : Nat) : (O_slices_DeleteFunc_api_Bag_api_Count_bag_Gather_2 n : Orc ρ).ok Tryd.prog := orcCons_ok (by kernel_rfl) (ok_slices_IndexFunc_api_Bag_api_Count_bag_Gather_2 n) (orcCons_ok (by kernel_rfl) (ok_bag_Gather_2) (orcNil_ok))
noncomputable def T_slices_DeleteFunc_api_Bag_api_Count_bag_Gather_2_s0 : Tm := ⟨[(0, .own 1000000), (1, .fn 154)], [(5, .i64), (6, .i64)], [(1000000, .arr 92 .cnt)]⟩
noncomputable def X_slices_DeleteFunc_api_Bag_api_Count_bag_Gather_2_s0 : Tm := ⟨[(0, .own 1000000)], [(5, .i64)], [(1000000, .arr 92 .cnt)]⟩
noncomputable def R_slices_DeleteFunc_api_Bag_api_Count_bag_Gather_2_s0 : Tm := ⟨[], [], []⟩
noncomputable def L_slices_DeleteFunc_api_Bag_api_Count_bag_Gather_2_s0 {ρ : Type} (n : Nat) : LOrc ρ := lorcNil
omit [Tabs] [UTabs] in
theorem s_slices_DeleteFunc_api_Bag_api_Count_bag_Gather_2_s0 {ρ : Type} (n : Nat) (rec : T_slices_DeleteFunc_api_Bag_api_Count_bag_Gather_2_s0.den → Option ρ) kx kr s : dStep Tryd.prog 42 TT M_slices_DeleteFunc_api_Bag_api_Count_bag_Gather_2 (O_slices_DeleteFunc_api_Bag_api_Count_bag_Gather_2 n) (L_slices_DeleteFunc_api_Bag_api_Count_bag_Gather_2_s0 n) dorcNil 0 (lbody 1000 C_slices_DeleteFunc_api_Bag_api_Count_bag_Gather_2 0) T_slices_DeleteFunc_api_Bag_api_Count_bag_Gather_2_s0 X_slices_DeleteFunc_api_Bag_api_Count_bag_Gather_2_s0 R_slices_DeleteFunc_api_Bag_api_Count_bag_Gather_2_s0 ⟨[], [], []⟩ rec kx kr s = slices_DeleteFunc_api_Bag_api_Count_bag_Gather_2_s0 n rec kx kr s := by kernel_rfl
noncomputable def L_slices_DeleteFunc_api_Bag_api_Count_bag_Gather_2 {ρ : Type} (n : Nat) : LOrc ρ := lorcCons 0 (loopL 42 0 n T_slices_DeleteFunc_api_Bag_api_Count_bag_Gather_2_s0 X_slices_DeleteFunc_api_Bag_api_Count_bag_Gather_2_s0 R_slices_DeleteFunc_api_Bag_api_Count_bag_Gather_2_s0 ⟨[], [], []⟩ (slices_DeleteFunc_api_Bag_api_Count_bag_Gather_2_s0 n)) (lorcNil)
omit [Tabs] [UTabs] in
theorem e_slices_DeleteFunc_api_Bag_api_Count_bag_Gather_2 (n : Nat) (x) : evF Tryd.prog 42 TT M_slices_DeleteFunc_api_Bag_api_Count_bag_Gather_2 F_slices_DeleteFunc_api_Bag_api_Count_bag_Gather_2 (O_slices_DeleteFunc_api_Bag_api_Count_bag_Gather_2 n) (L_slices_DeleteFunc_api_Bag_api_Count_bag_Gather_2 n) dorcNil ⟨[], [], []⟩ [.tmp 4] C_slices_DeleteFunc_api_Bag_api_Count_bag_Gather_2 x = slices_DeleteFunc_api_Bag_api_Count_bag_Gather_2 n x := by kernel_rfl
omit [UTabs] in
theorem ok_slices_DeleteFunc_api_Bag_api_Count_bag_Gather_2 (n : Nat) : Contract Tryd.prog 153 F_slices_DeleteFunc_api_Bag_api_Count_bag_Gather_2 (slices_DeleteFunc_api_Bag_api_Count_bag_Gather_2 n) :=
  Contract.of_ev (c := C_slices_DeleteFunc_api_Bag_api_Count_bag_Gather_2) (N := 42) Tryd.func153 (by kernel_rfl) (by kernel_rfl) (by kernel_rfl) (by kernel_rfl) (O_slices_DeleteFunc_api_Bag_api_Count_bag_Gather_2_ok n) dorcNil_ok (.of (l := [(0, (lbody 1000 C_slices_DeleteFunc_api_Bag_api_Count_bag_Gather_2 0))]) (by kernel_rfl) ⟨.head (loopL_sound (O_slices_DeleteFunc_api_Bag_api_Count_bag_Gather_2_ok n) dorcNil_ok (.of (l := []) (by kernel_rfl) trivial) (s_slices_DeleteFunc_api_Bag_api_Count_bag_Gather_2_s0 n)), trivial⟩) (e_slices_DeleteFunc_api_Bag_api_Count_bag_Gather_2 n)

noncomputable def C_bag_Gather : Code := bodyOf Tryd.f97
noncomputable def M_bag_Gather : List (Nat × ArgM) := [(999999999, ⟨[1], [], [], false⟩), (151, ⟨[1000], [], [], false⟩), (153, ⟨[0], [⟨0, 1000000, 92, 2⟩], [], false⟩), (53, ⟨[], [], [5], false⟩), (32, ⟨[], [], [], true⟩)]
noncomputable def O_bag_Gather {ρ : Type} (n : Nat) : Orc ρ := orcCons 53 F_slices_Clone_api_Count_api_Count_own (slices_Clone_api_Count_api_Count_own) (orcCons 151 F_slices_SortStableFunc_api_Count_api_Count_bag_Gather_1 (slices_SortStableFunc_api_Count_api_Count_bag_Gather_1 n) (orcCons 32 F_bag_Compare (bag_Compare n) (orcCons 103 F_bag_CopyRow (bag_CopyRow n) (orcCons 153 F_slices_DeleteFunc_api_Bag_api_Count_bag_Gather_2 (slices_DeleteFunc_api_Bag_api_Count_bag_Gather_2 n) (orcNil)))))
omit [UTabs] in
theorem O_bag_Gather_ok {ρ : Type} (n : Nat) : (O_bag_Gather n : Orc ρ).ok Tryd.prog := orcCons_ok (by kernel_rfl) (ok_slices_Clone_api_Count_api_Count_own) (orcCons_ok (by kernel_rfl) (ok_slices_SortStableFunc_api_Count_api_Count_bag_Gather_1 n) (orcCons_ok (by kernel_rfl) (ok_bag_Compare n) (orcCons_ok (by kernel_rfl) (ok_bag_CopyRow n) (orcCons_ok (by kernel_rfl) (ok_slices_DeleteFunc_api_Bag_api_Count_bag_Gather_2 n) (orcNil_ok)))))
noncomputable def T_bag_Gather_s0 : Tm := ⟨[(3, .own 3)], [(11, (.lst .cnt)), (12, .i64), (13, .i64)], [(3, .arr 92 .cnt)]⟩
noncomputable def X_bag_Gather_s0 : Tm := ⟨[(3, .own 3)], [], [(3, .arr 92 .cnt)]⟩
noncomputable def R_bag_Gather_s0 : Tm := ⟨[], [], []⟩
noncomputable def L_bag_Gather_s0 {ρ : Type} (n : Nat) : LOrc ρ := lorcNil
omit [Tabs] [UTabs] in
theorem s_bag_Gather_s0 {ρ : Type} (n : Nat) (rec : T_bag_Gather_s0.den → Option ρ) kx kr s : dStep Tryd.prog 55 TT M_bag_Gather (O_bag_Gather n) (L_bag_Gather_s0 n) (evDraw Tryd.prog 55 TT M_bag_Gather (O_bag_Gather n)) 0 (lbody 1000 C_bag_Gather 0) T_bag_Gather_s0 X_bag_Gather_s0 R_bag_Gather_s0 ⟨[8], [(3, 3, 92, 2)], []⟩ rec kx kr s = bag_Gather_s0 n rec kx kr s := by kernel_rfl
noncomputable def L_bag_Gather {ρ : Type} (n : Nat) : LOrc ρ := lorcCons 0 (loopL 55 0 n T_bag_Gather_s0 X_bag_Gather_s0 R_bag_Gather_s0 ⟨[8], [(3, 3, 92, 2)], []⟩ (bag_Gather_s0 n)) (lorcNil)
omit [Tabs] [UTabs] in
theorem e_bag_Gather (n : Nat) (x) : evF Tryd.prog 55 TT M_bag_Gather F_bag_Gather (O_bag_Gather n) (L_bag_Gather n) (evDraw Tryd.prog 55 TT M_bag_Gather (O_bag_Gather n)) ⟨[], [], []⟩ [.tmp 2] C_bag_Gather x = bag_Gather n x := by kernel_rfl
omit [UTabs] in
theorem ok_bag_Gather (n : Nat) : Contract Tryd.prog 97 F_bag_Gather (bag_Gather n) :=
  Contract.of_ev (c := C_bag_Gather) (N := 55) Tryd.func97 (by kernel_rfl) (by kernel_rfl) (by kernel_rfl) (by kernel_rfl) (O_bag_Gather_ok n) (evDraw_ok (O_bag_Gather_ok n) (by kernel_rfl)) (.of (l := [(0, (lbody 1000 C_bag_Gather 0))]) (by kernel_rfl) ⟨.head (loopL_sound (O_bag_Gather_ok n) (evDraw_ok (O_bag_Gather_ok n) (by kernel_rfl)) (.of (l := []) (by kernel_rfl) trivial) (s_bag_Gather_s0 n)), trivial⟩) (e_bag_Gather n)

noncomputable def C_bag_Of : Code := bodyOf Tryd.f51
noncomputable def M_bag_Of : List (Nat × ArgM) := [(30, ⟨[], [], [], true⟩)]
noncomputable def O_bag_Of {ρ : Type} (n : Nat) : Orc ρ := orcCons 97 F_bag_Gather (bag_Gather n) (orcCons 30 F_bag_Check (bag_Check n) (orcNil))
theorem O_bag_Of_ok {ρ : Type} (n : Nat) : (O_bag_Of n : Orc ρ).ok Tryd.prog := orcCons_ok (by kernel_rfl) (ok_bag_Gather n) (orcCons_ok (by kernel_rfl) (ok_bag_Check n) (orcNil_ok))
noncomputable def T_bag_Of_s0 : Tm := ⟨[(4, .own 4)], [(12, (.lst (.lst .val))), (13, .i64), (14, .i64)], [(4, .arr 92 .cnt)]⟩
noncomputable def X_bag_Of_s0 : Tm := ⟨[(4, .own 4)], [], [(4, .arr 92 .cnt)]⟩
noncomputable def R_bag_Of_s0 : Tm := ⟨[], [], []⟩
noncomputable def L_bag_Of_s0 {ρ : Type} (n : Nat) : LOrc ρ := lorcNil
omit [Tabs] [UTabs] in
theorem s_bag_Of_s0 {ρ : Type} (n : Nat) (rec : T_bag_Of_s0.den → Option ρ) kx kr s : dStep Tryd.prog 32 TT M_bag_Of (O_bag_Of n) (L_bag_Of_s0 n) dorcNil 0 (lbody 1000 C_bag_Of 0) T_bag_Of_s0 X_bag_Of_s0 R_bag_Of_s0 ⟨[], [(4, 4, 92, 2)], []⟩ rec kx kr s = bag_Of_s0 n rec kx kr s := by kernel_rfl
noncomputable def L_bag_Of {ρ : Type} (n : Nat) : LOrc ρ := lorcCons 0 (loopL 32 0 n T_bag_Of_s0 X_bag_Of_s0 R_bag_Of_s0 ⟨[], [(4, 4, 92, 2)], []⟩ (bag_Of_s0 n)) (lorcNil)
omit [Tabs] [UTabs] in
theorem e_bag_Of (n : Nat) (x) : evF Tryd.prog 32 TT M_bag_Of F_bag_Of (O_bag_Of n) (L_bag_Of n) dorcNil ⟨[], [], []⟩ [.tmp 2, .tmp 3] C_bag_Of x = bag_Of n x := by kernel_rfl
theorem ok_bag_Of (n : Nat) : Contract Tryd.prog 51 F_bag_Of (bag_Of n) :=
  Contract.of_ev (c := C_bag_Of) (N := 32) Tryd.func51 (by kernel_rfl) (by kernel_rfl) (by kernel_rfl) (by kernel_rfl) (O_bag_Of_ok n) dorcNil_ok (.of (l := [(0, (lbody 1000 C_bag_Of 0))]) (by kernel_rfl) ⟨.head (loopL_sound (O_bag_Of_ok n) dorcNil_ok (.of (l := []) (by kernel_rfl) trivial) (s_bag_Of_s0 n)), trivial⟩) (e_bag_Of n)

noncomputable def F_bag_Join : FnT := ⟨3, ⟨[], [(0, (.lst .cnt)), (1, (.lst .cnt)), (2, .i64)], []⟩, [.v (.lst .cnt), .v .i64], []⟩
noncomputable def F_bag_both_bag_Join_1_c : FnT := ⟨3, ⟨[(2, .clo 104 [1000000, 1000001, 1000002, 1000003])], [(0, (.lst .cnt)), (1, (.lst .cnt))], [(1000000, .box [.d (.lst .cnt)]), (1000001, .box [.d (.lst .cnt)]), (1000002, .box [.d .i64]), (1000003, .box [.d .bool])]⟩, [.v (.lst .cnt), .v .i64], [(1000000, .box [.d (.lst .cnt)]), (1000001, .box [.d (.lst .cnt)]), (1000002, .box [.d .i64]), (1000003, .box [.d .bool])]⟩
noncomputable def F_bag_Join_1 : FnT := ⟨4, ⟨[(0, .ptr 1000000 0), (1, .ptr 1000016 0), (2, .ptr 1000032 0), (3, .ptr 1000048 0)], [], [(1000000, .box [.d (.lst .cnt)]), (1000016, .box [.d (.lst .cnt)]), (1000032, .box [.d .i64]), (1000048, .box [.d .bool])]⟩, [.v (.lst .cnt)], [(1000000, .box [.d (.lst .cnt)]), (1000016, .box [.d (.lst .cnt)]), (1000032, .box [.d .i64]), (1000048, .box [.d .bool])]⟩
noncomputable def F_slices_ContainsFunc_api_Row_api_Value_bag_Join_1_1 : FnT := ⟨2, ⟨[(1, .fn 106)], [(0, (.lst .val))], []⟩, [.v .bool], []⟩
noncomputable def F_slices_IndexFunc_api_Row_api_Value_bag_Join_1_1 : FnT := ⟨2, ⟨[(1, .fn 106)], [(0, (.lst .val))], []⟩, [.v .i64], []⟩
noncomputable def F_bag_Join_1_1 : FnT := ⟨1, ⟨[], [(0, .val)], []⟩, [.v .bool], []⟩
noncomputable def C_bag_Join_1_1 : Code := bodyOf Tryd.f106
noncomputable def M_bag_Join_1_1 : List (Nat × ArgM) := []
noncomputable def O_bag_Join_1_1 {ρ : Type} : Orc ρ := orcNil
omit [UTabs] in
theorem O_bag_Join_1_1_ok {ρ : Type} : (O_bag_Join_1_1 : Orc ρ).ok Tryd.prog := orcNil_ok
noncomputable def L_bag_Join_1_1 {ρ : Type} : LOrc ρ := lorcNil
omit [Tabs] [UTabs] in
theorem e_bag_Join_1_1 (x) : evF Tryd.prog 6 TT M_bag_Join_1_1 F_bag_Join_1_1 (O_bag_Join_1_1) (L_bag_Join_1_1) dorcNil ⟨[], [], []⟩ [.tmp 2] C_bag_Join_1_1 x = bag_Join_1_1 x := by kernel_rfl
omit [UTabs] in
theorem ok_bag_Join_1_1 : Contract Tryd.prog 106 F_bag_Join_1_1 (bag_Join_1_1) :=
  Contract.of_ev (c := C_bag_Join_1_1) (N := 6) Tryd.func106 (by kernel_rfl) (by kernel_rfl) (by kernel_rfl) (by kernel_rfl) (O_bag_Join_1_1_ok) dorcNil_ok (.of (l := []) (by kernel_rfl) trivial) (e_bag_Join_1_1)

noncomputable def C_slices_IndexFunc_api_Row_api_Value_bag_Join_1_1 : Code := bodyOf Tryd.f160
noncomputable def M_slices_IndexFunc_api_Row_api_Value_bag_Join_1_1 : List (Nat × ArgM) := [(106, ⟨[], [], [], true⟩)]
noncomputable def O_slices_IndexFunc_api_Row_api_Value_bag_Join_1_1 {ρ : Type} (n : Nat) : Orc ρ := orcCons 106 F_bag_Join_1_1 (bag_Join_1_1) (orcNil)
omit [UTabs] in
theorem O_slices_IndexFunc_api_Row_api_Value_bag_Join_1_1_ok {ρ : Type} (n : Nat) : (O_slices_IndexFunc_api_Row_api_Value_bag_Join_1_1 n : Orc ρ).ok Tryd.prog := orcCons_ok (by kernel_rfl) (ok_bag_Join_1_1) (orcNil_ok)
noncomputable def T_slices_IndexFunc_api_Row_api_Value_bag_Join_1_1_s0 : Tm := ⟨[(1, .fn 106)], [(0, (.lst .val)), (7, .i64), (8, .i64)], []⟩
noncomputable def X_slices_IndexFunc_api_Row_api_Value_bag_Join_1_1_s0 : Tm := ⟨[], [], []⟩
noncomputable def R_slices_IndexFunc_api_Row_api_Value_bag_Join_1_1_s0 : Tm := ⟨[], [(4, .i64)], []⟩
noncomputable def L_slices_IndexFunc_api_Row_api_Value_bag_Join_1_1_s0 {ρ : Type} (n : Nat) : LOrc ρ := lorcNil
omit [Tabs] [UTabs] in
theorem s_slices_IndexFunc_api_Row_api_Value_bag_Join_1_1_s0 {ρ : Type} (n : Nat) (rec : T_slices_IndexFunc_api_Row_api_Value_bag_Join_1_1_s0.den → Option ρ) kx kr s : dStep Tryd.prog 19 TT M_slices_IndexFunc_api_Row_api_Value_bag_Join_1_1 (O_slices_IndexFunc_api_Row_api_Value_bag_Join_1_1 n) (L_slices_IndexFunc_api_Row_api_Value_bag_Join_1_1_s0 n) dorcNil 0 (lbody 1000 C_slices_IndexFunc_api_Row_api_Value_bag_Join_1_1 0) T_slices_IndexFunc_api_Row_api_Value_bag_Join_1_1_s0 X_slices_IndexFunc_api_Row_api_Value_bag_Join_1_1_s0 R_slices_IndexFunc_api_Row_api_Value_bag_Join_1_1_s0 ⟨[], [], []⟩ rec kx kr s = slices_IndexFunc_api_Row_api_Value_bag_Join_1_1_s0 n rec kx kr s := by kernel_rfl
noncomputable def L_slices_IndexFunc_api_Row_api_Value_bag_Join_1_1 {ρ : Type} (n : Nat) : LOrc ρ := lorcCons 0 (loopL 19 0 n T_slices_IndexFunc_api_Row_api_Value_bag_Join_1_1_s0 X_slices_IndexFunc_api_Row_api_Value_bag_Join_1_1_s0 R_slices_IndexFunc_api_Row_api_Value_bag_Join_1_1_s0 ⟨[], [], []⟩ (slices_IndexFunc_api_Row_api_Value_bag_Join_1_1_s0 n)) (lorcNil)
omit [Tabs] [UTabs] in
theorem e_slices_IndexFunc_api_Row_api_Value_bag_Join_1_1 (n : Nat) (x) : evF Tryd.prog 19 TT M_slices_IndexFunc_api_Row_api_Value_bag_Join_1_1 F_slices_IndexFunc_api_Row_api_Value_bag_Join_1_1 (O_slices_IndexFunc_api_Row_api_Value_bag_Join_1_1 n) (L_slices_IndexFunc_api_Row_api_Value_bag_Join_1_1 n) dorcNil ⟨[], [], []⟩ [.tmp 4] C_slices_IndexFunc_api_Row_api_Value_bag_Join_1_1 x = slices_IndexFunc_api_Row_api_Value_bag_Join_1_1 n x := by kernel_rfl
omit [UTabs] in
theorem ok_slices_IndexFunc_api_Row_api_Value_bag_Join_1_1 (n : Nat) : Contract Tryd.prog 160 F_slices_IndexFunc_api_Row_api_Value_bag_Join_1_1 (slices_IndexFunc_api_Row_api_Value_bag_Join_1_1 n) :=
  Contract.of_ev (c := C_slices_IndexFunc_api_Row_api_Value_bag_Join_1_1) (N := 19) Tryd.func160 (by kernel_rfl) (by kernel_rfl) (by kernel_rfl) (by kernel_rfl) (O_slices_IndexFunc_api_Row_api_Value_bag_Join_1_1_ok n) dorcNil_ok (.of (l := [(0, (lbody 1000 C_slices_IndexFunc_api_Row_api_Value_bag_Join_1_1 0))]) (by kernel_rfl) ⟨.head (loopL_sound (O_slices_IndexFunc_api_Row_api_Value_bag_Join_1_1_ok n) dorcNil_ok (.of (l := []) (by kernel_rfl) trivial) (s_slices_IndexFunc_api_Row_api_Value_bag_Join_1_1_s0 n)), trivial⟩) (e_slices_IndexFunc_api_Row_api_Value_bag_Join_1_1 n)

noncomputable def C_slices_ContainsFunc_api_Row_api_Value_bag_Join_1_1 : Code := bodyOf Tryd.f105
noncomputable def M_slices_ContainsFunc_api_Row_api_Value_bag_Join_1_1 : List (Nat × ArgM) := [(160, ⟨[], [], [], true⟩)]
noncomputable def O_slices_ContainsFunc_api_Row_api_Value_bag_Join_1_1 {ρ : Type} (n : Nat) : Orc ρ := orcCons 160 F_slices_IndexFunc_api_Row_api_Value_bag_Join_1_1 (slices_IndexFunc_api_Row_api_Value_bag_Join_1_1 n) (orcNil)
omit [UTabs] in
theorem O_slices_ContainsFunc_api_Row_api_Value_bag_Join_1_1_ok {ρ : Type} (n : Nat) : (O_slices_ContainsFunc_api_Row_api_Value_bag_Join_1_1 n : Orc ρ).ok Tryd.prog := orcCons_ok (by kernel_rfl) (ok_slices_IndexFunc_api_Row_api_Value_bag_Join_1_1 n) (orcNil_ok)
noncomputable def L_slices_ContainsFunc_api_Row_api_Value_bag_Join_1_1 {ρ : Type} (n : Nat) : LOrc ρ := lorcNil
omit [Tabs] [UTabs] in
theorem e_slices_ContainsFunc_api_Row_api_Value_bag_Join_1_1 (n : Nat) (x) : evF Tryd.prog 9 TT M_slices_ContainsFunc_api_Row_api_Value_bag_Join_1_1 F_slices_ContainsFunc_api_Row_api_Value_bag_Join_1_1 (O_slices_ContainsFunc_api_Row_api_Value_bag_Join_1_1 n) (L_slices_ContainsFunc_api_Row_api_Value_bag_Join_1_1 n) dorcNil ⟨[], [], []⟩ [.tmp 4] C_slices_ContainsFunc_api_Row_api_Value_bag_Join_1_1 x = slices_ContainsFunc_api_Row_api_Value_bag_Join_1_1 n x := by kernel_rfl
omit [UTabs] in
theorem ok_slices_ContainsFunc_api_Row_api_Value_bag_Join_1_1 (n : Nat) : Contract Tryd.prog 105 F_slices_ContainsFunc_api_Row_api_Value_bag_Join_1_1 (slices_ContainsFunc_api_Row_api_Value_bag_Join_1_1 n) :=
  Contract.of_ev (c := C_slices_ContainsFunc_api_Row_api_Value_bag_Join_1_1) (N := 9) Tryd.func105 (by kernel_rfl) (by kernel_rfl) (by kernel_rfl) (by kernel_rfl) (O_slices_ContainsFunc_api_Row_api_Value_bag_Join_1_1_ok n) dorcNil_ok (.of (l := []) (by kernel_rfl) trivial) (e_slices_ContainsFunc_api_Row_api_Value_bag_Join_1_1 n)

noncomputable def F_bag_size : FnT := ⟨1, ⟨[], [(0, .i64)], []⟩, [.v .i64], []⟩
noncomputable def C_bag_size : Code := bodyOf Tryd.f107
noncomputable def M_bag_size : List (Nat × ArgM) := []
noncomputable def O_bag_size {ρ : Type} : Orc ρ := orcNil
omit [UTabs] in
theorem O_bag_size_ok {ρ : Type} : (O_bag_size : Orc ρ).ok Tryd.prog := orcNil_ok
noncomputable def L_bag_size {ρ : Type} : LOrc ρ := lorcNil
omit [Tabs] [UTabs] in
theorem e_bag_size (x) : evF Tryd.prog 7 TT M_bag_size F_bag_size (O_bag_size) (L_bag_size) dorcNil ⟨[], [], []⟩ [.tmp 2] C_bag_size x = bag_size x := by kernel_rfl
omit [UTabs] in
theorem ok_bag_size : Contract Tryd.prog 107 F_bag_size (bag_size) :=
  Contract.of_ev (c := C_bag_size) (N := 7) Tryd.func107 (by kernel_rfl) (by kernel_rfl) (by kernel_rfl) (by kernel_rfl) (O_bag_size_ok) dorcNil_ok (.of (l := []) (by kernel_rfl) trivial) (e_bag_size)

noncomputable def F_slices_Concat_api_Row_api_Value : FnT := ⟨1, ⟨[], [(0, (.lst (.lst .val)))], []⟩, [.v (.lst .val)], []⟩
noncomputable def F_slices_Grow_api_Row_api_Value_own : FnT := ⟨2, ⟨[(0, .nils)], [(1, .i64)], []⟩, [.ref (.own 22)], [(22, .arr 39 .val)]⟩
noncomputable def C_slices_Grow_api_Row_api_Value_own : Code := bodyOf Tryd.f115
noncomputable def M_slices_Grow_api_Row_api_Value_own : List (Nat × ArgM) := [(999999999, ⟨[1], [], [], false⟩)]
noncomputable def O_slices_Grow_api_Row_api_Value_own {ρ : Type} : Orc ρ := orcNil
omit [UTabs] in
theorem O_slices_Grow_api_Row_api_Value_own_ok {ρ : Type} : (O_slices_Grow_api_Row_api_Value_own : Orc ρ).ok Tryd.prog := orcNil_ok
noncomputable def L_slices_Grow_api_Row_api_Value_own {ρ : Type} : LOrc ρ := lorcNil
omit [Tabs] [UTabs] in
theorem e_slices_Grow_api_Row_api_Value_own (x) : evF Tryd.prog 27 TT M_slices_Grow_api_Row_api_Value_own F_slices_Grow_api_Row_api_Value_own (O_slices_Grow_api_Row_api_Value_own) (L_slices_Grow_api_Row_api_Value_own) dorcNil ⟨[], [(4, 22, 39, 4)], []⟩ [.tmp 4] C_slices_Grow_api_Row_api_Value_own x = slices_Grow_api_Row_api_Value_own x := by kernel_rfl
omit [UTabs] in
theorem ok_slices_Grow_api_Row_api_Value_own : Contract Tryd.prog 115 F_slices_Grow_api_Row_api_Value_own (slices_Grow_api_Row_api_Value_own) :=
  Contract.of_ev (c := C_slices_Grow_api_Row_api_Value_own) (N := 27) Tryd.func115 (by kernel_rfl) (by kernel_rfl) (by kernel_rfl) (by kernel_rfl) (O_slices_Grow_api_Row_api_Value_own_ok) dorcNil_ok (.of (l := []) (by kernel_rfl) trivial) (e_slices_Grow_api_Row_api_Value_own)

noncomputable def C_slices_Concat_api_Row_api_Value : Code := bodyOf Tryd.f57
noncomputable def M_slices_Concat_api_Row_api_Value : List (Nat × ArgM) := [(115, ⟨[], [], [22], false⟩)]
noncomputable def O_slices_Concat_api_Row_api_Value {ρ : Type} (n : Nat) : Orc ρ := orcCons 115 F_slices_Grow_api_Row_api_Value_own (slices_Grow_api_Row_api_Value_own) (orcNil)
omit [UTabs] in
theorem O_slices_Concat_api_Row_api_Value_ok {ρ : Type} (n : Nat) : (O_slices_Concat_api_Row_api_Value n : Orc ρ).ok Tryd.prog := orcCons_ok (by kernel_rfl) (ok_slices_Grow_api_Row_api_Value_own) (orcNil_ok)
noncomputable def T_slices_Concat_api_Row_api_Value_s0 : Tm := ⟨[], [(0, (.lst (.lst .val))), (3, .i64), (9, (.lst (.lst .val))), (10, .i64), (11, .i64)], []⟩
noncomputable def X_slices_Concat_api_Row_api_Value_s0 : Tm := ⟨[], [(0, (.lst (.lst .val))), (3, .i64)], []⟩
noncomputable def R_slices_Concat_api_Row_api_Value_s0 : Tm := ⟨[], [], []⟩
noncomputable def L_slices_Concat_api_Row_api_Value_s0 {ρ : Type} (n : Nat) : LOrc ρ := lorcNil
omit [Tabs] [UTabs] in
theorem s_slices_Concat_api_Row_api_Value_s0 {ρ : Type} (n : Nat) (rec : T_slices_Concat_api_Row_api_Value_s0.den → Option ρ) kx kr s : dStep Tryd.prog 36 TT M_slices_Concat_api_Row_api_Value (O_slices_Concat_api_Row_api_Value n) (L_slices_Concat_api_Row_api_Value_s0 n) dorcNil 0 (lbody 1000 C_slices_Concat_api_Row_api_Value 0) T_slices_Concat_api_Row_api_Value_s0 X_slices_Concat_api_Row_api_Value_s0 R_slices_Concat_api_Row_api_Value_s0 ⟨[], [], []⟩ rec kx kr s = slices_Concat_api_Row_api_Value_s0 n rec kx kr s := by kernel_rfl
noncomputable def T_slices_Concat_api_Row_api_Value_s2 : Tm := ⟨[(6, .own 24)], [(25, (.lst (.lst .val))), (26, .i64), (27, .i64)], [(24, .arr 39 .val)]⟩
noncomputable def X_slices_Concat_api_Row_api_Value_s2 : Tm := ⟨[(6, .own 24)], [], [(24, .arr 39 .val)]⟩
noncomputable def R_slices_Concat_api_Row_api_Value_s2 : Tm := ⟨[], [], []⟩
noncomputable def L_slices_Concat_api_Row_api_Value_s2 {ρ : Type} (n : Nat) : LOrc ρ := lorcNil
omit [Tabs] [UTabs] in
theorem s_slices_Concat_api_Row_api_Value_s2 {ρ : Type} (n : Nat) (rec : T_slices_Concat_api_Row_api_Value_s2.den → Option ρ) kx kr s : dStep Tryd.prog 36 TT M_slices_Concat_api_Row_api_Value (O_slices_Concat_api_Row_api_Value n) (L_slices_Concat_api_Row_api_Value_s2 n) dorcNil 2 (lbody 1000 C_slices_Concat_api_Row_api_Value 1) T_slices_Concat_api_Row_api_Value_s2 X_slices_Concat_api_Row_api_Value_s2 R_slices_Concat_api_Row_api_Value_s2 ⟨[], [(6, 6, 39, 4)], []⟩ rec kx kr s = slices_Concat_api_Row_api_Value_s2 n rec kx kr s := by kernel_rfl
noncomputable def L_slices_Concat_api_Row_api_Value {ρ : Type} (n : Nat) : LOrc ρ := lorcCons 0 (loopL 36 0 n T_slices_Concat_api_Row_api_Value_s0 X_slices_Concat_api_Row_api_Value_s0 R_slices_Concat_api_Row_api_Value_s0 ⟨[], [], []⟩ (slices_Concat_api_Row_api_Value_s0 n)) (lorcCons 2 (loopL 36 2 n T_slices_Concat_api_Row_api_Value_s2 X_slices_Concat_api_Row_api_Value_s2 R_slices_Concat_api_Row_api_Value_s2 ⟨[], [(6, 6, 39, 4)], []⟩ (slices_Concat_api_Row_api_Value_s2 n)) (lorcNil))
omit [Tabs] [UTabs] in
theorem e_slices_Concat_api_Row_api_Value (n : Nat) (x) : evF Tryd.prog 36 TT M_slices_Concat_api_Row_api_Value F_slices_Concat_api_Row_api_Value (O_slices_Concat_api_Row_api_Value n) (L_slices_Concat_api_Row_api_Value n) dorcNil ⟨[], [], []⟩ [.tmp 2] C_slices_Concat_api_Row_api_Value x = slices_Concat_api_Row_api_Value n x := by kernel_rfl
omit [UTabs] in
theorem ok_slices_Concat_api_Row_api_Value (n : Nat) : Contract Tryd.prog 57 F_slices_Concat_api_Row_api_Value (slices_Concat_api_Row_api_Value n) :=
  Contract.of_ev (c := C_slices_Concat_api_Row_api_Value) (N := 36) Tryd.func57 (by kernel_rfl) (by kernel_rfl) (by kernel_rfl) (by kernel_rfl) (O_slices_Concat_api_Row_api_Value_ok n) dorcNil_ok (.of (l := [(0, (lbody 1000 C_slices_Concat_api_Row_api_Value 0)), (2, (lbody 1000 C_slices_Concat_api_Row_api_Value 1))]) (by kernel_rfl) ⟨.head (loopL_sound (O_slices_Concat_api_Row_api_Value_ok n) dorcNil_ok (.of (l := []) (by kernel_rfl) trivial) (s_slices_Concat_api_Row_api_Value_s0 n)), ⟨.tail rfl (.head (loopL_sound (O_slices_Concat_api_Row_api_Value_ok n) dorcNil_ok (.of (l := []) (by kernel_rfl) trivial) (s_slices_Concat_api_Row_api_Value_s2 n))), trivial⟩⟩) (e_slices_Concat_api_Row_api_Value n)

noncomputable def C_bag_Join_1 : Code := bodyOf Tryd.f104
noncomputable def M_bag_Join_1 : List (Nat × ArgM) := [(32, ⟨[], [], [], true⟩), (105, ⟨[], [], [], true⟩), (107, ⟨[], [], [], true⟩)]
noncomputable def O_bag_Join_1 {ρ : Type} (n : Nat) : Orc ρ := orcCons 32 F_bag_Compare (bag_Compare n) (orcCons 105 F_slices_ContainsFunc_api_Row_api_Value_bag_Join_1_1 (slices_ContainsFunc_api_Row_api_Value_bag_Join_1_1 n) (orcCons 107 F_bag_size (bag_size) (orcCons 57 F_slices_Concat_api_Row_api_Value (slices_Concat_api_Row_api_Value n) (orcCons 97 F_bag_Gather (bag_Gather n) (orcNil)))))
omit [UTabs] in
theorem O_bag_Join_1_ok {ρ : Type} (n : Nat) : (O_bag_Join_1 n : Orc ρ).ok Tryd.prog := orcCons_ok (by kernel_rfl) (ok_bag_Compare n) (orcCons_ok (by kernel_rfl) (ok_slices_ContainsFunc_api_Row_api_Value_bag_Join_1_1 n) (orcCons_ok (by kernel_rfl) (ok_bag_size) (orcCons_ok (by kernel_rfl) (ok_slices_Concat_api_Row_api_Value n) (orcCons_ok (by kernel_rfl) (ok_bag_Gather n) (orcNil_ok)))))
noncomputable def T_bag_Join_1_s2 : Tm := ⟨[(1, .ptr 1000016 0), (2, .ptr 1000032 0), (3, .ptr 1000048 0), (5, .own 5), (7, .ptr 7 0)], [(11, (.lst .cnt)), (12, .i64), (13, .i64), (17, (.lst .cnt)), (18, .i64), (19, .i64)], [(5, .arr 92 .cnt), (7, .box [.d .cnt]), (1000000, .box [.d (.lst .cnt)]), (1000016, .box [.d (.lst .cnt)]), (1000032, .box [.d .i64]), (1000048, .box [.d .bool])]⟩
noncomputable def X_bag_Join_1_s2 : Tm := ⟨[(1, .ptr 1000016 0), (2, .ptr 1000032 0), (3, .ptr 1000048 0), (5, .own 5)], [(11, (.lst .cnt)), (12, .i64), (13, .i64)], [(5, .arr 92 .cnt), (1000000, .box [.d (.lst .cnt)]), (1000016, .box [.d (.lst .cnt)]), (1000032, .box [.d .i64]), (1000048, .box [.d .bool])]⟩
noncomputable def R_bag_Join_1_s2 : Tm := ⟨[], [(4, (.lst .cnt))], [(1000000, .box [.d (.lst .cnt)]), (1000016, .box [.d (.lst .cnt)]), (1000032, .box [.d .i64]), (1000048, .box [.d .bool])]⟩
noncomputable def L_bag_Join_1_s2 {ρ : Type} (n : Nat) : LOrc ρ := lorcNil
omit [Tabs] [UTabs] in
theorem s_bag_Join_1_s2 {ρ : Type} (n : Nat) (rec : T_bag_Join_1_s2.den → Option ρ) kx kr s : dStep Tryd.prog 71 TT M_bag_Join_1 (O_bag_Join_1 n) (L_bag_Join_1_s2 n) (evDraw Tryd.prog 71 TT M_bag_Join_1 (O_bag_Join_1 n)) 2 (lbody 0 (lbody 1000 C_bag_Join_1 0) 0) T_bag_Join_1_s2 X_bag_Join_1_s2 R_bag_Join_1_s2 ⟨[], [(5, 5, 92, 2)], []⟩ rec kx kr s = bag_Join_1_s2 n rec kx kr s := by kernel_rfl
noncomputable def T_bag_Join_1_s0 : Tm := ⟨[(1, .ptr 1000016 0), (2, .ptr 1000032 0), (3, .ptr 1000048 0), (5, .own 5)], [(11, (.lst .cnt)), (12, .i64), (13, .i64)], [(5, .arr 92 .cnt), (1000000, .box [.d (.lst .cnt)]), (1000016, .box [.d (.lst .cnt)]), (1000032, .box [.d .i64]), (1000048, .box [.d .bool])]⟩
noncomputable def X_bag_Join_1_s0 : Tm := ⟨[(5, .own 5)], [], [(5, .arr 92 .cnt), (1000000, .box [.d (.lst .cnt)]), (1000016, .box [.d (.lst .cnt)]), (1000032, .box [.d .i64]), (1000048, .box [.d .bool])]⟩
noncomputable def R_bag_Join_1_s0 : Tm := ⟨[], [(4, (.lst .cnt))], [(1000000, .box [.d (.lst .cnt)]), (1000016, .box [.d (.lst .cnt)]), (1000032, .box [.d .i64]), (1000048, .box [.d .bool])]⟩
noncomputable def L_bag_Join_1_s0 {ρ : Type} (n : Nat) : LOrc ρ := lorcCons 2 (loopL 71 2 n T_bag_Join_1_s2 X_bag_Join_1_s2 R_bag_Join_1_s2 ⟨[], [(5, 5, 92, 2)], []⟩ (bag_Join_1_s2 n)) (lorcNil)
omit [Tabs] [UTabs] in
theorem s_bag_Join_1_s0 {ρ : Type} (n : Nat) (rec : T_bag_Join_1_s0.den → Option ρ) kx kr s : dStep Tryd.prog 71 TT M_bag_Join_1 (O_bag_Join_1 n) (L_bag_Join_1_s0 n) (evDraw Tryd.prog 71 TT M_bag_Join_1 (O_bag_Join_1 n)) 0 (lbody 1000 C_bag_Join_1 0) T_bag_Join_1_s0 X_bag_Join_1_s0 R_bag_Join_1_s0 ⟨[], [(5, 5, 92, 2)], []⟩ rec kx kr s = bag_Join_1_s0 n rec kx kr s := by kernel_rfl
noncomputable def L_bag_Join_1 {ρ : Type} (n : Nat) : LOrc ρ := lorcCons 0 (loopL 71 0 n T_bag_Join_1_s0 X_bag_Join_1_s0 R_bag_Join_1_s0 ⟨[], [(5, 5, 92, 2)], []⟩ (bag_Join_1_s0 n)) (lorcNil)
omit [Tabs] [UTabs] in
theorem e_bag_Join_1 (n : Nat) (x) : evF Tryd.prog 71 TT M_bag_Join_1 F_bag_Join_1 (O_bag_Join_1 n) (L_bag_Join_1 n) (evDraw Tryd.prog 71 TT M_bag_Join_1 (O_bag_Join_1 n)) ⟨[], [], []⟩ [.tmp 4] C_bag_Join_1 x = bag_Join_1 n x := by kernel_rfl
omit [UTabs] in
theorem ok_bag_Join_1 (n : Nat) : Contract Tryd.prog 104 F_bag_Join_1 (bag_Join_1 n) :=
  Contract.of_ev (c := C_bag_Join_1) (N := 71) Tryd.func104 (by kernel_rfl) (by kernel_rfl) (by kernel_rfl) (by kernel_rfl) (O_bag_Join_1_ok n) (evDraw_ok (O_bag_Join_1_ok n) (by kernel_rfl)) (.of (l := [(0, (lbody 1000 C_bag_Join_1 0))]) (by kernel_rfl) ⟨.head (loopL_sound (O_bag_Join_1_ok n) (evDraw_ok (O_bag_Join_1_ok n) (by kernel_rfl)) (.of (l := [(2, (lbody 0 (lbody 1000 C_bag_Join_1 0) 0))]) (by kernel_rfl) ⟨.head (loopL_sound (O_bag_Join_1_ok n) (evDraw_ok (O_bag_Join_1_ok n) (by kernel_rfl)) (.of (l := []) (by kernel_rfl) trivial) (s_bag_Join_1_s2 n)), trivial⟩) (s_bag_Join_1_s0 n)), trivial⟩) (e_bag_Join_1 n)

noncomputable def C_bag_both_bag_Join_1_c : Code := bodyOf Tryd.f94
noncomputable def M_bag_both_bag_Join_1_c : List (Nat × ArgM) := [(104, ⟨[0, 1, 2, 3], [], [], false⟩), (30, ⟨[], [], [], true⟩)]
noncomputable def O_bag_both_bag_Join_1_c {ρ : Type} (n : Nat) : Orc ρ := orcCons 30 F_bag_Check (bag_Check n) (orcCons 104 F_bag_Join_1 (bag_Join_1 n) (orcNil))
theorem O_bag_both_bag_Join_1_c_ok {ρ : Type} (n : Nat) : (O_bag_both_bag_Join_1_c n : Orc ρ).ok Tryd.prog := orcCons_ok (by kernel_rfl) (ok_bag_Check n) (orcCons_ok (by kernel_rfl) (ok_bag_Join_1 n) (orcNil_ok))
noncomputable def T_bag_both_bag_Join_1_c_s0 : Tm := ⟨[(2, .clo 104 [1000000, 1000001, 1000002, 1000003])], [(15, (.two (.lst .cnt))), (16, .i64)], [(1000000, .box [.d (.lst .cnt)]), (1000001, .box [.d (.lst .cnt)]), (1000002, .box [.d .i64]), (1000003, .box [.d .bool])]⟩
noncomputable def X_bag_both_bag_Join_1_c_s0 : Tm := ⟨[(2, .clo 104 [1000000, 1000001, 1000002, 1000003])], [], [(1000000, .box [.d (.lst .cnt)]), (1000001, .box [.d (.lst .cnt)]), (1000002, .box [.d .i64]), (1000003, .box [.d .bool])]⟩
noncomputable def R_bag_both_bag_Join_1_c_s0 : Tm := ⟨[], [(6, (.lst .cnt)), (7, .i64)], [(1000000, .box [.d (.lst .cnt)]), (1000001, .box [.d (.lst .cnt)]), (1000002, .box [.d .i64]), (1000003, .box [.d .bool])]⟩
noncomputable def L_bag_both_bag_Join_1_c_s0 {ρ : Type} (n : Nat) : LOrc ρ := lorcNil
omit [Tabs] [UTabs] in
theorem s_bag_both_bag_Join_1_c_s0 {ρ : Type} (n : Nat) (rec : T_bag_both_bag_Join_1_c_s0.den → Option ρ) kx kr s : dStep Tryd.prog 33 TT M_bag_both_bag_Join_1_c (O_bag_both_bag_Join_1_c n) (L_bag_both_bag_Join_1_c_s0 n) dorcNil 0 (lbody 1000 C_bag_both_bag_Join_1_c 0) T_bag_both_bag_Join_1_c_s0 X_bag_both_bag_Join_1_c_s0 R_bag_both_bag_Join_1_c_s0 ⟨[], [], []⟩ rec kx kr s = bag_both_bag_Join_1_c_s0 n rec kx kr s := by kernel_rfl
noncomputable def L_bag_both_bag_Join_1_c {ρ : Type} (n : Nat) : LOrc ρ := lorcCons 0 (loopL 33 0 n T_bag_both_bag_Join_1_c_s0 X_bag_both_bag_Join_1_c_s0 R_bag_both_bag_Join_1_c_s0 ⟨[], [], []⟩ (bag_both_bag_Join_1_c_s0 n)) (lorcNil)
omit [Tabs] [UTabs] in
theorem e_bag_both_bag_Join_1_c (n : Nat) (x) : evF Tryd.prog 33 TT M_bag_both_bag_Join_1_c F_bag_both_bag_Join_1_c (O_bag_both_bag_Join_1_c n) (L_bag_both_bag_Join_1_c n) dorcNil ⟨[], [], []⟩ [.tmp 6, .tmp 7] C_bag_both_bag_Join_1_c x = bag_both_bag_Join_1_c n x := by kernel_rfl
theorem ok_bag_both_bag_Join_1_c (n : Nat) : Contract Tryd.prog 94 F_bag_both_bag_Join_1_c (bag_both_bag_Join_1_c n) :=
  Contract.of_ev (c := C_bag_both_bag_Join_1_c) (N := 33) Tryd.func94 (by kernel_rfl) (by kernel_rfl) (by kernel_rfl) (by kernel_rfl) (O_bag_both_bag_Join_1_c_ok n) dorcNil_ok (.of (l := [(0, (lbody 1000 C_bag_both_bag_Join_1_c 0))]) (by kernel_rfl) ⟨.head (loopL_sound (O_bag_both_bag_Join_1_c_ok n) dorcNil_ok (.of (l := []) (by kernel_rfl) trivial) (s_bag_both_bag_Join_1_c_s0 n)), trivial⟩) (e_bag_both_bag_Join_1_c n)

noncomputable def C_bag_Join : Code := bodyOf Tryd.f49
noncomputable def M_bag_Join : List (Nat × ArgM) := [(94, ⟨[2], [], [], false⟩)]
noncomputable def O_bag_Join {ρ : Type} (n : Nat) : Orc ρ := orcCons 94 F_bag_both_bag_Join_1_c (bag_both_bag_Join_1_c n) (orcNil)
theorem O_bag_Join_ok {ρ : Type} (n : Nat) : (O_bag_Join n : Orc ρ).ok Tryd.prog := orcCons_ok (by kernel_rfl) (ok_bag_both_bag_Join_1_c n) (orcNil_ok)
noncomputable def T_bag_Join_s2 : Tm := ⟨[(3, .ptr 3 0), (4, .ptr 4 0), (5, .ptr 5 0)], [(23, (.two (.lst .cnt))), (24, .i64), (27, (.lst .cnt)), (28, .i64), (29, .i64)], [(3, .box [.d (.lst .cnt)]), (4, .box [.d (.lst .cnt)]), (5, .box [.d .i64])]⟩
noncomputable def X_bag_Join_s2 : Tm := ⟨[(3, .ptr 3 0), (4, .ptr 4 0), (5, .ptr 5 0)], [(23, (.two (.lst .cnt))), (24, .i64)], [(3, .box [.d (.lst .cnt)]), (4, .box [.d (.lst .cnt)]), (5, .box [.d .i64])]⟩
noncomputable def R_bag_Join_s2 : Tm := ⟨[], [(6, (.lst .cnt)), (7, .i64)], []⟩
noncomputable def L_bag_Join_s2 {ρ : Type} (n : Nat) : LOrc ρ := lorcNil
omit [Tabs] [UTabs] in
theorem s_bag_Join_s2 {ρ : Type} (n : Nat) (rec : T_bag_Join_s2.den → Option ρ) kx kr s : dStep Tryd.prog 56 TT M_bag_Join (O_bag_Join n) (L_bag_Join_s2 n) dorcNil 2 (lbody 0 (lbody 1000 C_bag_Join 0) 0) T_bag_Join_s2 X_bag_Join_s2 R_bag_Join_s2 ⟨[], [], []⟩ rec kx kr s = bag_Join_s2 n rec kx kr s := by kernel_rfl
noncomputable def T_bag_Join_s0 : Tm := ⟨[(3, .ptr 3 0), (4, .ptr 4 0), (5, .ptr 5 0)], [(23, (.two (.lst .cnt))), (24, .i64)], [(3, .box [.d (.lst .cnt)]), (4, .box [.d (.lst .cnt)]), (5, .box [.d .i64])]⟩
noncomputable def X_bag_Join_s0 : Tm := ⟨[(3, .ptr 3 0), (4, .ptr 4 0), (5, .ptr 5 0)], [], [(3, .box [.d (.lst .cnt)]), (4, .box [.d (.lst .cnt)]), (5, .box [.d .i64])]⟩
noncomputable def R_bag_Join_s0 : Tm := ⟨[], [(6, (.lst .cnt)), (7, .i64)], []⟩
noncomputable def L_bag_Join_s0 {ρ : Type} (n : Nat) : LOrc ρ := lorcCons 2 (loopL 56 2 n T_bag_Join_s2 X_bag_Join_s2 R_bag_Join_s2 ⟨[], [], []⟩ (bag_Join_s2 n)) (lorcNil)
omit [Tabs] [UTabs] in
theorem s_bag_Join_s0 {ρ : Type} (n : Nat) (rec : T_bag_Join_s0.den → Option ρ) kx kr s : dStep Tryd.prog 56 TT M_bag_Join (O_bag_Join n) (L_bag_Join_s0 n) dorcNil 0 (lbody 1000 C_bag_Join 0) T_bag_Join_s0 X_bag_Join_s0 R_bag_Join_s0 ⟨[], [], []⟩ rec kx kr s = bag_Join_s0 n rec kx kr s := by kernel_rfl
noncomputable def L_bag_Join {ρ : Type} (n : Nat) : LOrc ρ := lorcCons 0 (loopL 56 0 n T_bag_Join_s0 X_bag_Join_s0 R_bag_Join_s0 ⟨[], [], []⟩ (bag_Join_s0 n)) (lorcNil)
omit [Tabs] [UTabs] in
theorem e_bag_Join (n : Nat) (x) : evF Tryd.prog 56 TT M_bag_Join F_bag_Join (O_bag_Join n) (L_bag_Join n) dorcNil ⟨[], [], []⟩ [.tmp 6, .tmp 7] C_bag_Join x = bag_Join n x := by kernel_rfl
theorem ok_bag_Join (n : Nat) : Contract Tryd.prog 49 F_bag_Join (bag_Join n) :=
  Contract.of_ev (c := C_bag_Join) (N := 56) Tryd.func49 (by kernel_rfl) (by kernel_rfl) (by kernel_rfl) (by kernel_rfl) (O_bag_Join_ok n) dorcNil_ok (.of (l := [(0, (lbody 1000 C_bag_Join 0))]) (by kernel_rfl) ⟨.head (loopL_sound (O_bag_Join_ok n) dorcNil_ok (.of (l := [(2, (lbody 0 (lbody 1000 C_bag_Join 0) 0))]) (by kernel_rfl) ⟨.head (loopL_sound (O_bag_Join_ok n) dorcNil_ok (.of (l := []) (by kernel_rfl) trivial) (s_bag_Join_s2 n)), trivial⟩) (s_bag_Join_s0 n)), trivial⟩) (e_bag_Join n)

noncomputable def F_espalierref_SameBag : FnT := ⟨2, ⟨[], [(0, (.lst .cnt)), (1, (.lst .cnt))], []⟩, [.v .bool], []⟩
noncomputable def F_slices_EqualFunc_api_Bag_api_Bag_api_Count_api_Count_espalierref_SameBag_1 : FnT := ⟨3, ⟨[(2, .fn 99)], [(0, (.lst .cnt)), (1, (.lst .cnt))], []⟩, [.v .bool], []⟩
noncomputable def F_espalierref_SameBag_1 : FnT := ⟨2, ⟨[], [(0, .cnt), (1, .cnt)], []⟩, [.v .bool], []⟩
noncomputable def F_espalierref_CompareRows : FnT := ⟨2, ⟨[], [(0, (.lst .val)), (1, (.lst .val))], []⟩, [.v .i64], []⟩
noncomputable def F_espalierref_OrderOf : FnT := ⟨2, ⟨[], [(0, .val), (1, .val)], []⟩, [.v .i64], []⟩
noncomputable def F_bytes_Compare : FnT := ⟨2, ⟨[], [(0, (.lst .u8)), (1, (.lst .u8))], []⟩, [.v .i64], []⟩
noncomputable def C_bytes_Compare : Code := bodyOf Tryd.f138
noncomputable def M_bytes_Compare : List (Nat × ArgM) := []
noncomputable def O_bytes_Compare {ρ : Type} : Orc ρ := orcCons 180 T_cmpB (cmpN) (orcNil)
omit [UTabs] in
theorem O_bytes_Compare_ok {ρ : Type} : (O_bytes_Compare : Orc ρ).ok Tryd.prog := orcExt_ok (by kernel_rfl) (cmp_ok) (orcNil_ok)
noncomputable def L_bytes_Compare {ρ : Type} : LOrc ρ := lorcNil
omit [Tabs] [UTabs] in
theorem e_bytes_Compare (x) : evF Tryd.prog 8 TT M_bytes_Compare F_bytes_Compare (O_bytes_Compare) (L_bytes_Compare) dorcNil ⟨[], [], []⟩ [.tmp 4] C_bytes_Compare x = bytes_Compare x := by kernel_rfl
omit [UTabs] in
theorem ok_bytes_Compare : Contract Tryd.prog 138 F_bytes_Compare (bytes_Compare) :=
  Contract.of_ev (c := C_bytes_Compare) (N := 8) Tryd.func138 (by kernel_rfl) (by kernel_rfl) (by kernel_rfl) (by kernel_rfl) (O_bytes_Compare_ok) dorcNil_ok (.of (l := []) (by kernel_rfl) trivial) (e_bytes_Compare)

noncomputable def C_espalierref_OrderOf : Code := bodyOf Tryd.f85
noncomputable def M_espalierref_OrderOf : List (Nat × ArgM) := [(138, ⟨[], [], [], true⟩), (85, ⟨[], [], [], true⟩)]
noncomputable def O_espalierref_OrderOf {ρ : Type} (self_espalierref_OrderOf : Ev.Val × Ev.Val × Unit → Option (Int × Unit)) (n : Nat) : Orc ρ := orcCons 138 F_bytes_Compare (bytes_Compare) (orcCons 85 F_espalierref_OrderOf (self_espalierref_OrderOf) (orcNil))
omit [UTabs] in
theorem O_espalierref_OrderOf_ok {ρ : Type} (self_espalierref_OrderOf : Ev.Val × Ev.Val × Unit → Option (Int × Unit)) (h_espalierref_OrderOf : Contract Tryd.prog 85 F_espalierref_OrderOf self_espalierref_OrderOf) (n : Nat) : (O_espalierref_OrderOf self_espalierref_OrderOf n : Orc ρ).ok Tryd.prog := orcCons_ok (by kernel_rfl) (ok_bytes_Compare) (orcCons_ok (by kernel_rfl) (h_espalierref_OrderOf) (orcNil_ok))
noncomputable def T_espalierref_OrderOf_s1 : Tm := ⟨[(2, .ptr 2 0), (3, .ptr 3 0)], [(5, .i64)], [(2, .box [.d .val]), (3, .box [.d .val])]⟩
noncomputable def X_espalierref_OrderOf_s1 : Tm := ⟨[(2, .ptr 2 0), (3, .ptr 3 0)], [], [(2, .box [.d .val]), (3, .box [.d .val])]⟩
noncomputable def R_espalierref_OrderOf_s1 : Tm := ⟨[], [(4, .i64)], []⟩
noncomputable def L_espalierref_OrderOf_s1 {ρ : Type} (self_espalierref_OrderOf : Ev.Val × Ev.Val × Unit → Option (Int × Unit)) (n : Nat) : LOrc ρ := lorcNil
omit [Tabs] [UTabs] in
theorem s_espalierref_OrderOf_s1 {ρ : Type} (self_espalierref_OrderOf : Ev.Val × Ev.Val × Unit → Option (Int × Unit)) (n : Nat) (rec : T_espalierref_OrderOf_s1.den → Option ρ) kx kr s : dStep Tryd.prog 88 TT M_espalierref_OrderOf (O_espalierref_OrderOf self_espalierref_OrderOf n) (L_espalierref_OrderOf_s1 self_espalierref_OrderOf n) (evDraw Tryd.prog 88 TT M_espalierref_OrderOf (O_espalierref_OrderOf self_espalierref_OrderOf n)) 1 (lbody 1000 C_espalierref_OrderOf 0) T_espalierref_OrderOf_s1 X_espalierref_OrderOf_s1 R_espalierref_OrderOf_s1 ⟨[], [], []⟩ rec kx kr s = espalierref_OrderOf_s1 self_espalierref_OrderOf n rec kx kr s := by kernel_rfl
noncomputable def L_espalierref_OrderOf {ρ : Type} (self_espalierref_OrderOf : Ev.Val × Ev.Val × Unit → Option (Int × Unit)) (n : Nat) : LOrc ρ := lorcCons 1 (loopL 88 1 n T_espalierref_OrderOf_s1 X_espalierref_OrderOf_s1 R_espalierref_OrderOf_s1 ⟨[], [], []⟩ (espalierref_OrderOf_s1 self_espalierref_OrderOf n)) (lorcNil)
omit [Tabs] [UTabs] in
theorem e_espalierref_OrderOf (self_espalierref_OrderOf : Ev.Val × Ev.Val × Unit → Option (Int × Unit)) (n : Nat) (x) : evF Tryd.prog 88 TT M_espalierref_OrderOf F_espalierref_OrderOf (O_espalierref_OrderOf self_espalierref_OrderOf n) (L_espalierref_OrderOf self_espalierref_OrderOf n) (evDraw Tryd.prog 88 TT M_espalierref_OrderOf (O_espalierref_OrderOf self_espalierref_OrderOf n)) ⟨[], [], []⟩ [.tmp 4] C_espalierref_OrderOf x = espalierref_OrderOf_b self_espalierref_OrderOf n x := by kernel_rfl
omit [UTabs] in
theorem okb_espalierref_OrderOf (self_espalierref_OrderOf : Ev.Val × Ev.Val × Unit → Option (Int × Unit)) (h_espalierref_OrderOf : Contract Tryd.prog 85 F_espalierref_OrderOf self_espalierref_OrderOf) (n : Nat) : Contract Tryd.prog 85 F_espalierref_OrderOf (espalierref_OrderOf_b self_espalierref_OrderOf n) :=
  Contract.of_ev (c := C_espalierref_OrderOf) (N := 88) Tryd.func85 (by kernel_rfl) (by kernel_rfl) (by kernel_rfl) (by kernel_rfl) (O_espalierref_OrderOf_ok self_espalierref_OrderOf h_espalierref_OrderOf n) (evDraw_ok (O_espalierref_OrderOf_ok self_espalierref_OrderOf h_espalierref_OrderOf n) (by kernel_rfl)) (.of (l := [(1, (lbody 1000 C_espalierref_OrderOf 0))]) (by kernel_rfl) ⟨.head (loopL_sound (O_espalierref_OrderOf_ok self_espalierref_OrderOf h_espalierref_OrderOf n) (evDraw_ok (O_espalierref_OrderOf_ok self_espalierref_OrderOf h_espalierref_OrderOf n) (by kernel_rfl)) (.of (l := []) (by kernel_rfl) trivial) (s_espalierref_OrderOf_s1 self_espalierref_OrderOf n)), trivial⟩) (e_espalierref_OrderOf self_espalierref_OrderOf n)
omit [UTabs] in
theorem ok_espalierref_OrderOf : ∀ n, Contract Tryd.prog 85 F_espalierref_OrderOf (espalierref_OrderOf n)
  | 0 => fun _ _ h => by cases h
  | n + 1 => okb_espalierref_OrderOf _ (ok_espalierref_OrderOf n) n

noncomputable def C_espalierref_CompareRows : Code := bodyOf Tryd.f33
noncomputable def M_espalierref_CompareRows : List (Nat × ArgM) := [(85, ⟨[], [], [], true⟩)]
noncomputable def O_espalierref_CompareRows {ρ : Type} (n : Nat) : Orc ρ := orcCons 85 F_espalierref_OrderOf (espalierref_OrderOf n) (orcNil)
omit [UTabs] in
theorem O_espalierref_CompareRows_ok {ρ : Type} (n : Nat) : (O_espalierref_CompareRows n : Orc ρ).ok Tryd.prog := orcCons_ok (by kernel_rfl) (ok_espalierref_OrderOf n) (orcNil_ok)
noncomputable def L_espalierref_CompareRows {ρ : Type} (n : Nat) : LOrc ρ := lorcNil
omit [Tabs] [UTabs] in
theorem e_espalierref_CompareRows (n : Nat) (x) : evF Tryd.prog 10 TT M_espalierref_CompareRows F_espalierref_CompareRows (O_espalierref_CompareRows n) (L_espalierref_CompareRows n) dorcNil ⟨[], [], []⟩ [.tmp 4] C_espalierref_CompareRows x = espalierref_CompareRows n x := by kernel_rfl
omit [UTabs] in
theorem ok_espalierref_CompareRows (n : Nat) : Contract Tryd.prog 33 F_espalierref_CompareRows (espalierref_CompareRows n) :=
  Contract.of_ev (c := C_espalierref_CompareRows) (N := 10) Tryd.func33 (by kernel_rfl) (by kernel_rfl) (by kernel_rfl) (by kernel_rfl) (O_espalierref_CompareRows_ok n) dorcNil_ok (.of (l := []) (by kernel_rfl) trivial) (e_espalierref_CompareRows n)

noncomputable def C_espalierref_SameBag_1 : Code := bodyOf Tryd.f99
noncomputable def M_espalierref_SameBag_1 : List (Nat × ArgM) := [(33, ⟨[], [], [], true⟩)]
noncomputable def O_espalierref_SameBag_1 {ρ : Type} (n : Nat) : Orc ρ := orcCons 33 F_espalierref_CompareRows (espalierref_CompareRows n) (orcNil)
omit [UTabs] in
theorem O_espalierref_SameBag_1_ok {ρ : Type} (n : Nat) : (O_espalierref_SameBag_1 n : Orc ρ).ok Tryd.prog := orcCons_ok (by kernel_rfl) (ok_espalierref_CompareRows n) (orcNil_ok)
noncomputable def L_espalierref_SameBag_1 {ρ : Type} (n : Nat) : LOrc ρ := lorcNil
omit [Tabs] [UTabs] in
theorem e_espalierref_SameBag_1 (n : Nat) (x) : evF Tryd.prog 18 TT M_espalierref_SameBag_1 F_espalierref_SameBag_1 (O_espalierref_SameBag_1 n) (L_espalierref_SameBag_1 n) dorcNil ⟨[], [], []⟩ [.tmp 4] C_espalierref_SameBag_1 x = espalierref_SameBag_1 n x := by kernel_rfl
omit [UTabs] in
theorem ok_espalierref_SameBag_1 (n : Nat) : Contract Tryd.prog 99 F_espalierref_SameBag_1 (espalierref_SameBag_1 n) :=
  Contract.of_ev (c := C_espalierref_SameBag_1) (N := 18) Tryd.func99 (by kernel_rfl) (by kernel_rfl) (by kernel_rfl) (by kernel_rfl) (O_espalierref_SameBag_1_ok n) dorcNil_ok (.of (l := []) (by kernel_rfl) trivial) (e_espalierref_SameBag_1 n)

noncomputable def C_slices_EqualFunc_api_Bag_api_Bag_api_Count_api_Count_espalierref_SameBag_1 : Code := bodyOf Tryd.f98
noncomputable def M_slices_EqualFunc_api_Bag_api_Bag_api_Count_api_Count_espalierref_SameBag_1 : List (Nat × ArgM) := [(99, ⟨[], [], [], true⟩)]
noncomputable def O_slices_EqualFunc_api_Bag_api_Bag_api_Count_api_Count_espalierref_SameBag_1 {ρ : Type} (n : Nat) : Orc ρ := orcCons 99 F_espalierref_SameBag_1 (espalierref_SameBag_1 n) (orcNil)
omit [UTabs] in
theorem O_slices_EqualFunc_api_Bag_api_Bag_api_Count_api_Count_espalierref_SameBag_1_ok {ρ : Type} (n : Nat) : (O_slices_EqualFunc_api_Bag_api_Bag_api_Count_api_Count_espalierref_SameBag_1 n : Orc ρ).ok Tryd.prog := orcCons_ok (by kernel_rfl) (ok_espalierref_SameBag_1 n) (orcNil_ok)
noncomputable def T_slices_EqualFunc_api_Bag_api_Bag_api_Count_api_Count_espalierref_SameBag_1_s0 : Tm := ⟨[(2, .fn 99)], [(1, (.lst .cnt)), (15, (.lst .cnt)), (16, .i64), (17, .i64)], []⟩
noncomputable def X_slices_EqualFunc_api_Bag_api_Bag_api_Count_api_Count_espalierref_SameBag_1_s0 : Tm := ⟨[], [], []⟩
noncomputable def R_slices_EqualFunc_api_Bag_api_Bag_api_Count_api_Count_espalierref_SameBag_1_s0 : Tm := ⟨[], [(6, .bool)], []⟩
noncomputable def L_slices_EqualFunc_api_Bag_api_Bag_api_Count_api_Count_espalierref_SameBag_1_s0 {ρ : Type} (n : Nat) : LOrc ρ := lorcNil
omit [Tabs] [UTabs] in
theorem s_slices_EqualFunc_api_Bag_api_Bag_api_Count_api_Count_espalierref_SameBag_1_s0 {ρ : Type} (n : Nat) (rec : T_slices_EqualFunc_api_Bag_api_Bag_api_Count_api_Count_espalierref_SameBag_1_s0.den → Option ρ) kx kr s : dStep Tryd.prog 32 TT M_slices_EqualFunc_api_Bag_api_Bag_api_Count_api_Count_espalierref_SameBag_1 (O_slices_EqualFunc_api_Bag_api_Bag_api_Count_api_Count_espalierref_SameBag_1 n) (L_slices_EqualFunc_api_Bag_api_Bag_api_Count_api_Count_espalierref_SameBag_1_s0 n) dorcNil 0 (lbody 1000 C_slices_EqualFunc_api_Bag_api_Bag_api_Count_api_Count_espalierref_SameBag_1 0) T_slices_EqualFunc_api_Bag_api_Bag_api_Count_api_Count_espalierref_SameBag_1_s0 X_slices_EqualFunc_api_Bag_api_Bag_api_Count_api_Count_espalierref_SameBag_1_s0 R_slices_EqualFunc_api_Bag_api_Bag_api_Count_api_Count_espalierref_SameBag_1_s0 ⟨[], [], []⟩ rec kx kr s = slices_EqualFunc_api_Bag_api_Bag_api_Count_api_Count_espalierref_SameBag_1_s0 n rec kx kr s := by kernel_rfl
noncomputable def L_slices_EqualFunc_api_Bag_api_Bag_api_Count_api_Count_espalierref_SameBag_1 {ρ : Type} (n : Nat) : LOrc ρ := lorcCons 0 (loopL 32 0 n T_slices_EqualFunc_api_Bag_api_Bag_api_Count_api_Count_espalierref_SameBag_1_s0 X_slices_EqualFunc_api_Bag_api_Bag_api_Count_api_Count_espalierref_SameBag_1_s0 R_slices_EqualFunc_api_Bag_api_Bag_api_Count_api_Count_espalierref_SameBag_1_s0 ⟨[], [], []⟩ (slices_EqualFunc_api_Bag_api_Bag_api_Count_api_Count_espalierref_SameBag_1_s0 n)) (lorcNil)
omit [Tabs] [UTabs] in
theorem e_slices_EqualFunc_api_Bag_api_Bag_api_Count_api_Count_espalierref_SameBag_1 (n : Nat) (x) : evF Tryd.prog 32 TT M_slices_EqualFunc_api_Bag_api_Bag_api_Count_api_Count_espalierref_SameBag_1 F_slices_EqualFunc_api_Bag_api_Bag_api_Count_api_Count_espalierref_SameBag_1 (O_slices_EqualFunc_api_Bag_api_Bag_api_Count_api_Count_espalierref_SameBag_1 n) (L_slices_EqualFunc_api_Bag_api_Bag_api_Count_api_Count_espalierref_SameBag_1 n) dorcNil ⟨[], [], []⟩ [.tmp 6] C_slices_EqualFunc_api_Bag_api_Bag_api_Count_api_Count_espalierref_SameBag_1 x = slices_EqualFunc_api_Bag_api_Bag_api_Count_api_Count_espalierref_SameBag_1 n x := by kernel_rfl
omit [UTabs] in
theorem ok_slices_EqualFunc_api_Bag_api_Bag_api_Count_api_Count_espalierref_SameBag_1 (n : Nat) : Contract Tryd.prog 98 F_slices_EqualFunc_api_Bag_api_Bag_api_Count_api_Count_espalierref_SameBag_1 (slices_EqualFunc_api_Bag_api_Bag_api_Count_api_Count_espalierref_SameBag_1 n) :=
  Contract.of_ev (c := C_slices_EqualFunc_api_Bag_api_Bag_api_Count_api_Count_espalierref_SameBag_1) (N := 32) Tryd.func98 (by kernel_rfl) (by kernel_rfl) (by kernel_rfl) (by kernel_rfl) (O_slices_EqualFunc_api_Bag_api_Bag_api_Count_api_Count_espalierref_SameBag_1_ok n) dorcNil_ok (.of (l := [(0, (lbody 1000 C_slices_EqualFunc_api_Bag_api_Bag_api_Count_api_Count_espalierref_SameBag_1 0))]) (by kernel_rfl) ⟨.head (loopL_sound (O_slices_EqualFunc_api_Bag_api_Bag_api_Count_api_Count_espalierref_SameBag_1_ok n) dorcNil_ok (.of (l := []) (by kernel_rfl) trivial) (s_slices_EqualFunc_api_Bag_api_Bag_api_Count_api_Count_espalierref_SameBag_1_s0 n)), trivial⟩) (e_slices_EqualFunc_api_Bag_api_Bag_api_Count_api_Count_espalierref_SameBag_1 n)

noncomputable def C_espalierref_SameBag : Code := bodyOf Tryd.f46
noncomputable def M_espalierref_SameBag : List (Nat × ArgM) := [(98, ⟨[], [], [], true⟩)]
noncomputable def O_espalierref_SameBag {ρ : Type} (n : Nat) : Orc ρ := orcCons 98 F_slices_EqualFunc_api_Bag_api_Bag_api_Count_api_Count_espalierref_SameBag_1 (slices_EqualFunc_api_Bag_api_Bag_api_Count_api_Count_espalierref_SameBag_1 n) (orcNil)
omit [UTabs] in
theorem O_espalierref_SameBag_ok {ρ : Type} (n : Nat) : (O_espalierref_SameBag n : Orc ρ).ok Tryd.prog := orcCons_ok (by kernel_rfl) (ok_slices_EqualFunc_api_Bag_api_Bag_api_Count_api_Count_espalierref_SameBag_1 n) (orcNil_ok)
noncomputable def L_espalierref_SameBag {ρ : Type} (n : Nat) : LOrc ρ := lorcNil
omit [Tabs] [UTabs] in
theorem e_espalierref_SameBag (n : Nat) (x) : evF Tryd.prog 8 TT M_espalierref_SameBag F_espalierref_SameBag (O_espalierref_SameBag n) (L_espalierref_SameBag n) dorcNil ⟨[], [], []⟩ [.tmp 4] C_espalierref_SameBag x = espalierref_SameBag n x := by kernel_rfl
omit [UTabs] in
theorem ok_espalierref_SameBag (n : Nat) : Contract Tryd.prog 46 F_espalierref_SameBag (espalierref_SameBag n) :=
  Contract.of_ev (c := C_espalierref_SameBag) (N := 8) Tryd.func46 (by kernel_rfl) (by kernel_rfl) (by kernel_rfl) (by kernel_rfl) (O_espalierref_SameBag_ok n) dorcNil_ok (.of (l := []) (by kernel_rfl) trivial) (e_espalierref_SameBag n)

noncomputable def C_espalierlaw_bagged : Code := bodyOf Tryd.f29
noncomputable def M_espalierlaw_bagged : List (Nat × ArgM) := [(46, ⟨[], [], [], true⟩)]
noncomputable def O_espalierlaw_bagged {ρ : Type} (n : Nat) : Orc ρ := orcCons 56 F_espalierlaw_num (espalierlaw_num) (orcCons 51 F_bag_Of (bag_Of n) (orcCons 49 F_bag_Join (bag_Join n) (orcCons 46 F_espalierref_SameBag (espalierref_SameBag n) (orcNil))))
theorem O_espalierlaw_bagged_ok {ρ : Type} (n : Nat) : (O_espalierlaw_bagged n : Orc ρ).ok Tryd.prog := orcCons_ok (by kernel_rfl) (ok_espalierlaw_num) (orcCons_ok (by kernel_rfl) (ok_bag_Of n) (orcCons_ok (by kernel_rfl) (ok_bag_Join n) (orcCons_ok (by kernel_rfl) (ok_espalierref_SameBag n) (orcNil_ok))))
noncomputable def L_espalierlaw_bagged {ρ : Type} (n : Nat) : LOrc ρ := lorcNil
omit [Tabs] [UTabs] in
theorem e_espalierlaw_bagged (n : Nat) (x) : evF Tryd.prog 50 TT M_espalierlaw_bagged F_espalierlaw_bagged (O_espalierlaw_bagged n) (L_espalierlaw_bagged n) dorcNil ⟨[], [], []⟩ [.tmp 0] C_espalierlaw_bagged x = espalierlaw_bagged n x := by kernel_rfl
theorem ok_espalierlaw_bagged (n : Nat) : Contract Tryd.prog 29 F_espalierlaw_bagged (espalierlaw_bagged n) :=
  Contract.of_ev (c := C_espalierlaw_bagged) (N := 50) Tryd.func29 (by kernel_rfl) (by kernel_rfl) (by kernel_rfl) (by kernel_rfl) (O_espalierlaw_bagged_ok n) dorcNil_ok (.of (l := []) (by kernel_rfl) trivial) (e_espalierlaw_bagged n)

noncomputable def F_bag_Add : FnT := ⟨3, ⟨[], [(0, (.lst .cnt)), (1, (.lst .cnt)), (2, .i64)], []⟩, [.v (.lst .cnt), .v .i64], []⟩
noncomputable def F_bag_both_bag_Add_1_c : FnT := ⟨3, ⟨[(2, .clo 95 [1000000, 1000001, 1000002])], [(0, (.lst .cnt)), (1, (.lst .cnt))], [(1000000, .box [.d (.lst .cnt)]), (1000001, .box [.d (.lst .cnt)]), (1000002, .box [.d .i64])]⟩, [.v (.lst .cnt), .v .i64], [(1000000, .box [.d (.lst .cnt)]), (1000001, .box [.d (.lst .cnt)]), (1000002, .box [.d .i64])]⟩
noncomputable def F_bag_Add_1 : FnT := ⟨3, ⟨[(0, .ptr 1000000 0), (1, .ptr 1000016 0), (2, .ptr 1000032 0)], [], [(1000000, .box [.d (.lst .cnt)]), (1000016, .box [.d (.lst .cnt)]), (1000032, .box [.d .i64])]⟩, [.v (.lst .cnt)], [(1000000, .box [.d (.lst .cnt)]), (1000016, .box [.d (.lst .cnt)]), (1000032, .box [.d .i64])]⟩
noncomputable def F_slices_Clone_api_Bag_api_Count_own : FnT := ⟨1, ⟨[], [(0, (.lst .cnt))], []⟩, [.ref (.own 5)], [(5, .arr 92 .cnt)]⟩
noncomputable def C_slices_Clone_api_Bag_api_Count_own : Code := bodyOf Tryd.f96
noncomputable def M_slices_Clone_api_Bag_api_Count_own : List (Nat × ArgM) := []
noncomputable def O_slices_Clone_api_Bag_api_Count_own {ρ : Type} : Orc ρ := orcNil
omit [UTabs] in
theorem O_slices_Clone_api_Bag_api_Count_own_ok {ρ : Type} : (O_slices_Clone_api_Bag_api_Count_own : Orc ρ).ok Tryd.prog := orcNil_ok
noncomputable def L_slices_Clone_api_Bag_api_Count_own {ρ : Type} : LOrc ρ := lorcNil
omit [Tabs] [UTabs] in
theorem e_slices_Clone_api_Bag_api_Count_own (x) : evF Tryd.prog 8 TT M_slices_Clone_api_Bag_api_Count_own F_slices_Clone_api_Bag_api_Count_own (O_slices_Clone_api_Bag_api_Count_own) (L_slices_Clone_api_Bag_api_Count_own) dorcNil ⟨[], [(2, 5, 92, 2)], []⟩ [.tmp 2] C_slices_Clone_api_Bag_api_Count_own x = slices_Clone_api_Bag_api_Count_own x := by kernel_rfl
omit [UTabs] in
theorem ok_slices_Clone_api_Bag_api_Count_own : Contract Tryd.prog 96 F_slices_Clone_api_Bag_api_Count_own (slices_Clone_api_Bag_api_Count_own) :=
  Contract.of_ev (c := C_slices_Clone_api_Bag_api_Count_own) (N := 8) Tryd.func96 (by kernel_rfl) (by kernel_rfl) (by kernel_rfl) (by kernel_rfl) (O_slices_Clone_api_Bag_api_Count_own_ok) dorcNil_ok (.of (l := []) (by kernel_rfl) trivial) (e_slices_Clone_api_Bag_api_Count_own)

noncomputable def C_bag_Add_1 : Code := bodyOf Tryd.f95
noncomputable def M_bag_Add_1 : List (Nat × ArgM) := [(96, ⟨[], [], [5], false⟩)]
noncomputable def O_bag_Add_1 {ρ : Type} (n : Nat) : Orc ρ := orcCons 96 F_slices_Clone_api_Bag_api_Count_own (slices_Clone_api_Bag_api_Count_own) (orcCons 97 F_bag_Gather (bag_Gather n) (orcNil))
omit [UTabs] in
theorem O_bag_Add_1_ok {ρ : Type} (n : Nat) : (O_bag_Add_1 n : Orc ρ).ok Tryd.prog := orcCons_ok (by kernel_rfl) (ok_slices_Clone_api_Bag_api_Count_own) (orcCons_ok (by kernel_rfl) (ok_bag_Gather n) (orcNil_ok))
noncomputable def T_bag_Add_1_s0 : Tm := ⟨[(2, .ptr 1000032 0), (4, .own 8)], [(9, (.lst .cnt)), (10, .i64), (11, .i64)], [(8, .arr 92 .cnt), (1000000, .box [.d (.lst .cnt)]), (1000016, .box [.d (.lst .cnt)]), (1000032, .box [.d .i64])]⟩
noncomputable def X_bag_Add_1_s0 : Tm := ⟨[(4, .own 8)], [], [(8, .arr 92 .cnt), (1000000, .box [.d (.lst .cnt)]), (1000016, .box [.d (.lst .cnt)]), (1000032, .box [.d .i64])]⟩
noncomputable def R_bag_Add_1_s0 : Tm := ⟨[], [], []⟩
noncomputable def L_bag_Add_1_s0 {ρ : Type} (n : Nat) : LOrc ρ := lorcNil
omit [Tabs] [UTabs] in
theorem s_bag_Add_1_s0 {ρ : Type} (n : Nat) (rec : T_bag_Add_1_s0.den → Option ρ) kx kr s : dStep Tryd.prog 27 TT M_bag_Add_1 (O_bag_Add_1 n) (L_bag_Add_1_s0 n) dorcNil 0 (lbody 1000 C_bag_Add_1 0) T_bag_Add_1_s0 X_bag_Add_1_s0 R_bag_Add_1_s0 ⟨[], [(4, 4, 92, 2)], []⟩ rec kx kr s = bag_Add_1_s0 n rec kx kr s := by kernel_rfl
noncomputable def L_bag_Add_1 {ρ : Type} (n : Nat) : LOrc ρ := lorcCons 0 (loopL 27 0 n T_bag_Add_1_s0 X_bag_Add_1_s0 R_bag_Add_1_s0 ⟨[], [(4, 4, 92, 2)], []⟩ (bag_Add_1_s0 n)) (lorcNil)
omit [Tabs] [UTabs] in
theorem e_bag_Add_1 (n : Nat) (x) : evF Tryd.prog 27 TT M_bag_Add_1 F_bag_Add_1 (O_bag_Add_1 n) (L_bag_Add_1 n) dorcNil ⟨[], [], []⟩ [.tmp 3] C_bag_Add_1 x = bag_Add_1 n x := by kernel_rfl
omit [UTabs] in
theorem ok_bag_Add_1 (n : Nat) : Contract Tryd.prog 95 F_bag_Add_1 (bag_Add_1 n) :=
  Contract.of_ev (c := C_bag_Add_1) (N := 27) Tryd.func95 (by kernel_rfl) (by kernel_rfl) (by kernel_rfl) (by kernel_rfl) (O_bag_Add_1_ok n) dorcNil_ok (.of (l := [(0, (lbody 1000 C_bag_Add_1 0))]) (by kernel_rfl) ⟨.head (loopL_sound (O_bag_Add_1_ok n) dorcNil_ok (.of (l := []) (by kernel_rfl) trivial) (s_bag_Add_1_s0 n)), trivial⟩) (e_bag_Add_1 n)

noncomputable def C_bag_both_bag_Add_1_c : Code := bodyOf Tryd.f94
noncomputable def M_bag_both_bag_Add_1_c : List (Nat × ArgM) := [(95, ⟨[0, 1, 2], [], [], false⟩), (30, ⟨[], [], [], true⟩)]
noncomputable def O_bag_both_bag_Add_1_c {ρ : Type} (n : Nat) : Orc ρ := orcCons 30 F_bag_Check (bag_Check n) (orcCons 95 F_bag_Add_1 (bag_Add_1 n) (orcNil))
theorem O_bag_both_bag_Add_1_c_ok {ρ : Type} (n : Nat) : (O_bag_both_bag_Add_1_c n : Orc ρ).ok Tryd.prog := orcCons_ok (by kernel_rfl) (ok_bag_Check n) (orcCons_ok (by kernel_rfl) (ok_bag_Add_1 n) (orcNil_ok))
noncomputable def T_bag_both_bag_Add_1_c_s0 : Tm := ⟨[(2, .clo 95 [1000000, 1000001, 1000002])], [(15, (.two (.lst .cnt))), (16, .i64)], [(1000000, .box [.d (.lst .cnt)]), (1000001, .box [.d (.lst .cnt)]), (1000002, .box [.d .i64])]⟩
noncomputable def X_bag_both_bag_Add_1_c_s0 : Tm := ⟨[(2, .clo 95 [1000000, 1000001, 1000002])], [], [(1000000, .box [.d (.lst .cnt)]), (1000001, .box [.d (.lst .cnt)]), (1000002, .box [.d .i64])]⟩
noncomputable def R_bag_both_bag_Add_1_c_s0 : Tm := ⟨[], [(6, (.lst .cnt)), (7, .i64)], [(1000000, .box [.d (.lst .cnt)]), (1000001, .box [.d (.lst .cnt)]), (1000002, .box [.d .i64])]⟩
noncomputable def L_bag_both_bag_Add_1_c_s0 {ρ : Type} (n : Nat) : LOrc ρ := lorcNil
omit [Tabs] [UTabs] in
theorem s_bag_both_bag_Add_1_c_s0 {ρ : Type} (n : Nat) (rec : T_bag_both_bag_Add_1_c_s0.den → Option ρ) kx kr s : dStep Tryd.prog 33 TT M_bag_both_bag_Add_1_c (O_bag_both_bag_Add_1_c n) (L_bag_both_bag_Add_1_c_s0 n) dorcNil 0 (lbody 1000 C_bag_both_bag_Add_1_c 0) T_bag_both_bag_Add_1_c_s0 X_bag_both_bag_Add_1_c_s0 R_bag_both_bag_Add_1_c_s0 ⟨[], [], []⟩ rec kx kr s = bag_both_bag_Add_1_c_s0 n rec kx kr s := by kernel_rfl
noncomputable def L_bag_both_bag_Add_1_c {ρ : Type} (n : Nat) : LOrc ρ := lorcCons 0 (loopL 33 0 n T_bag_both_bag_Add_1_c_s0 X_bag_both_bag_Add_1_c_s0 R_bag_both_bag_Add_1_c_s0 ⟨[], [], []⟩ (bag_both_bag_Add_1_c_s0 n)) (lorcNil)
omit [Tabs] [UTabs] in
theorem e_bag_both_bag_Add_1_c (n : Nat) (x) : evF Tryd.prog 33 TT M_bag_both_bag_Add_1_c F_bag_both_bag_Add_1_c (O_bag_both_bag_Add_1_c n) (L_bag_both_bag_Add_1_c n) dorcNil ⟨[], [], []⟩ [.tmp 6, .tmp 7] C_bag_both_bag_Add_1_c x = bag_both_bag_Add_1_c n x := by kernel_rfl
theorem ok_bag_both_bag_Add_1_c (n : Nat) : Contract Tryd.prog 94 F_bag_both_bag_Add_1_c (bag_both_bag_Add_1_c n) :=
  Contract.of_ev (c := C_bag_both_bag_Add_1_c) (N := 33) Tryd.func94 (by kernel_rfl) (by kernel_rfl) (by kernel_rfl) (by kernel_rfl) (O_bag_both_bag_Add_1_c_ok n) dorcNil_ok (.of (l := [(0, (lbody 1000 C_bag_both_bag_Add_1_c 0))]) (by kernel_rfl) ⟨.head (loopL_sound (O_bag_both_bag_Add_1_c_ok n) dorcNil_ok (.of (l := []) (by kernel_rfl) trivial) (s_bag_both_bag_Add_1_c_s0 n)), trivial⟩) (e_bag_both_bag_Add_1_c n)

noncomputable def C_bag_Add : Code := bodyOf Tryd.f44
noncomputable def M_bag_Add : List (Nat × ArgM) := [(94, ⟨[2], [], [], false⟩)]
noncomputable def O_bag_Add {ρ : Type} (n : Nat) : Orc ρ := orcCons 94 F_bag_both_bag_Add_1_c (bag_both_bag_Add_1_c n) (orcNil)
theorem O_bag_Add_ok {ρ : Type} (n : Nat) : (O_bag_Add n : Orc ρ).ok Tryd.prog := orcCons_ok (by kernel_rfl) (ok_bag_both_bag_Add_1_c n) (orcNil_ok)
noncomputable def L_bag_Add {ρ : Type} (n : Nat) : LOrc ρ := lorcNil
omit [Tabs] [UTabs] in
theorem e_bag_Add (n : Nat) (x) : evF Tryd.prog 20 TT M_bag_Add F_bag_Add (O_bag_Add n) (L_bag_Add n) dorcNil ⟨[], [], []⟩ [.tmp 6, .tmp 7] C_bag_Add x = bag_Add n x := by kernel_rfl
theorem ok_bag_Add (n : Nat) : Contract Tryd.prog 44 F_bag_Add (bag_Add n) :=
  Contract.of_ev (c := C_bag_Add) (N := 20) Tryd.func44 (by kernel_rfl) (by kernel_rfl) (by kernel_rfl) (by kernel_rfl) (O_bag_Add_ok n) dorcNil_ok (.of (l := []) (by kernel_rfl) trivial) (e_bag_Add n)

noncomputable def C_espalierlaw_BagOnce : Code := bodyOf Tryd.f11
noncomputable def M_espalierlaw_BagOnce : List (Nat × ArgM) := [(29, ⟨[], [], [], true⟩), (46, ⟨[], [], [], true⟩)]
noncomputable def O_espalierlaw_BagOnce {ρ : Type} (n : Nat) : Orc ρ := orcCons 48 F_bag_Distinct (bag_Distinct n) (orcCons 29 F_espalierlaw_bagged (espalierlaw_bagged n) (orcCons 46 F_espalierref_SameBag (espalierref_SameBag n) (orcCons 49 F_bag_Join (bag_Join n) (orcCons 44 F_bag_Add (bag_Add n) (orcNil)))))
theorem O_espalierlaw_BagOnce_ok {ρ : Type} (n : Nat) : (O_espalierlaw_BagOnce n : Orc ρ).ok Tryd.prog := orcCons_ok (by kernel_rfl) (ok_bag_Distinct n) (orcCons_ok (by kernel_rfl) (ok_espalierlaw_bagged n) (orcCons_ok (by kernel_rfl) (ok_espalierref_SameBag n) (orcCons_ok (by kernel_rfl) (ok_bag_Join n) (orcCons_ok (by kernel_rfl) (ok_bag_Add n) (orcNil_ok)))))
noncomputable def L_espalierlaw_BagOnce {ρ : Type} (n : Nat) : LOrc ρ := lorcNil
omit [Tabs] [UTabs] in
theorem e_espalierlaw_BagOnce (n : Nat) (x) : evF Tryd.prog 61 TT M_espalierlaw_BagOnce F_espalierlaw_BagOnce (O_espalierlaw_BagOnce n) (L_espalierlaw_BagOnce n) dorcNil ⟨[], [], []⟩ [.tmp 2] C_espalierlaw_BagOnce x = espalierlaw_BagOnce n x := by kernel_rfl
theorem ok_espalierlaw_BagOnce (n : Nat) : Contract Tryd.prog 11 F_espalierlaw_BagOnce (espalierlaw_BagOnce n) :=
  Contract.of_ev (c := C_espalierlaw_BagOnce) (N := 61) Tryd.func11 (by kernel_rfl) (by kernel_rfl) (by kernel_rfl) (by kernel_rfl) (O_espalierlaw_BagOnce_ok n) dorcNil_ok (.of (l := []) (by kernel_rfl) trivial) (e_espalierlaw_BagOnce n)

noncomputable def F_espalierlaw_BagRing : FnT := ⟨4, ⟨[], [(0, (.lst .cnt)), (1, (.lst .cnt)), (2, (.lst .cnt)), (3, (.lst .i64))], []⟩, [.v .bool], []⟩
noncomputable def F_bag_Pick : FnT := ⟨2, ⟨[], [(0, (.lst .cnt)), (1, (.lst .i64))], []⟩, [.v (.lst .cnt), .v .i64], []⟩
noncomputable def F_bag_both_bag_Pick_1_c : FnT := ⟨3, ⟨[(2, .clo 108 [1000000, 1000001])], [(0, (.lst .cnt)), (1, (.lst .cnt))], [(1000000, .box [.d (.lst .cnt)]), (1000001, .box [.d (.lst .i64)])]⟩, [.v (.lst .cnt), .v .i64], [(1000000, .box [.d (.lst .cnt)]), (1000001, .box [.d (.lst .i64)])]⟩
noncomputable def F_bag_Pick_1 : FnT := ⟨2, ⟨[(0, .ptr 1000000 0), (1, .ptr 1000016 0)], [], [(1000000, .box [.d (.lst .cnt)]), (1000016, .box [.d (.lst .i64)])]⟩, [.v (.lst .cnt)], [(1000000, .box [.d (.lst .cnt)]), (1000016, .box [.d (.lst .i64)])]⟩
noncomputable def C_bag_Pick_1 : Code := bodyOf Tryd.f108
noncomputable def M_bag_Pick_1 : List (Nat × ArgM) := []
noncomputable def O_bag_Pick_1 {ρ : Type} (n : Nat) : Orc ρ := orcCons 97 F_bag_Gather (bag_Gather n) (orcNil)
omit [UTabs] in
theorem O_bag_Pick_1_ok {ρ : Type} (n : Nat) : (O_bag_Pick_1 n : Orc ρ).ok Tryd.prog := orcCons_ok (by kernel_rfl) (ok_bag_Gather n) (orcNil_ok)
noncomputable def T_bag_Pick_1_s2 : Tm := ⟨[(1, .ptr 1000016 0), (3, .own 3), (5, .ptr 5 0), (6, .own 6)], [(9, (.lst .cnt)), (10, .i64), (11, .i64), (15, (.lst .i64)), (16, .i64), (17, .i64)], [(3, .arr 92 .cnt), (5, .box [.d .cnt]), (6, .arr 39 .val), (1000000, .box [.d (.lst .cnt)]), (1000016, .box [.d (.lst .i64)])]⟩
noncomputable def X_bag_Pick_1_s2 : Tm := ⟨[(1, .ptr 1000016 0), (3, .own 3), (5, .ptr 5 0), (6, .own 6)], [(9, (.lst .cnt)), (10, .i64), (11, .i64)], [(3, .arr 92 .cnt), (5, .box [.d .cnt]), (6, .arr 39 .val), (1000000, .box [.d (.lst .cnt)]), (1000016, .box [.d (.lst .i64)])]⟩
noncomputable def R_bag_Pick_1_s2 : Tm := ⟨[], [], []⟩
noncomputable def L_bag_Pick_1_s2 {ρ : Type} (n : Nat) : LOrc ρ := lorcNil
omit [Tabs] [UTabs] in
theorem s_bag_Pick_1_s2 {ρ : Type} (n : Nat) (rec : T_bag_Pick_1_s2.den → Option ρ) kx kr s : dStep Tryd.prog 40 TT M_bag_Pick_1 (O_bag_Pick_1 n) (L_bag_Pick_1_s2 n) dorcNil 2 (lbody 0 (lbody 1000 C_bag_Pick_1 0) 0) T_bag_Pick_1_s2 X_bag_Pick_1_s2 R_bag_Pick_1_s2 ⟨[], [(6, 6, 39, 4)], []⟩ rec kx kr s = bag_Pick_1_s2 n rec kx kr s := by kernel_rfl
noncomputable def T_bag_Pick_1_s0 : Tm := ⟨[(1, .ptr 1000016 0), (3, .own 3)], [(9, (.lst .cnt)), (10, .i64), (11, .i64)], [(3, .arr 92 .cnt), (1000000, .box [.d (.lst .cnt)]), (1000016, .box [.d (.lst .i64)])]⟩
noncomputable def X_bag_Pick_1_s0 : Tm := ⟨[(3, .own 3)], [], [(3, .arr 92 .cnt), (1000000, .box [.d (.lst .cnt)]), (1000016, .box [.d (.lst .i64)])]⟩
noncomputable def R_bag_Pick_1_s0 : Tm := ⟨[], [], []⟩
noncomputable def L_bag_Pick_1_s0 {ρ : Type} (n : Nat) : LOrc ρ := lorcCons 2 (loopL 40 2 n T_bag_Pick_1_s2 X_bag_Pick_1_s2 R_bag_Pick_1_s2 ⟨[], [(6, 6, 39, 4)], []⟩ (bag_Pick_1_s2 n)) (lorcNil)
omit [Tabs] [UTabs] in
theorem s_bag_Pick_1_s0 {ρ : Type} (n : Nat) (rec : T_bag_Pick_1_s0.den → Option ρ) kx kr s : dStep Tryd.prog 40 TT M_bag_Pick_1 (O_bag_Pick_1 n) (L_bag_Pick_1_s0 n) dorcNil 0 (lbody 1000 C_bag_Pick_1 0) T_bag_Pick_1_s0 X_bag_Pick_1_s0 R_bag_Pick_1_s0 ⟨[], [(3, 3, 92, 2)], []⟩ rec kx kr s = bag_Pick_1_s0 n rec kx kr s := by kernel_rfl
noncomputable def L_bag_Pick_1 {ρ : Type} (n : Nat) : LOrc ρ := lorcCons 0 (loopL 40 0 n T_bag_Pick_1_s0 X_bag_Pick_1_s0 R_bag_Pick_1_s0 ⟨[], [(3, 3, 92, 2)], []⟩ (bag_Pick_1_s0 n)) (lorcNil)
omit [Tabs] [UTabs] in
theorem e_bag_Pick_1 (n : Nat) (x) : evF Tryd.prog 40 TT M_bag_Pick_1 F_bag_Pick_1 (O_bag_Pick_1 n) (L_bag_Pick_1 n) dorcNil ⟨[], [], []⟩ [.tmp 2] C_bag_Pick_1 x = bag_Pick_1 n x := by kernel_rfl
omit [UTabs] in
theorem ok_bag_Pick_1 (n : Nat) : Contract Tryd.prog 108 F_bag_Pick_1 (bag_Pick_1 n) :=
  Contract.of_ev (c := C_bag_Pick_1) (N := 40) Tryd.func108 (by kernel_rfl) (by kernel_rfl) (by kernel_rfl) (by kernel_rfl) (O_bag_Pick_1_ok n) dorcNil_ok (.of (l := [(0, (lbody 1000 C_bag_Pick_1 0))]) (by kernel_rfl) ⟨.head (loopL_sound (O_bag_Pick_1_ok n) dorcNil_ok (.of (l := [(2, (lbody 0 (lbody 1000 C_bag_Pick_1 0) 0))]) (by kernel_rfl) ⟨.head (loopL_sound (O_bag_Pick_1_ok n) dorcNil_ok (.of (l := []) (by kernel_rfl) trivial) (s_bag_Pick_1_s2 n)), trivial⟩) (s_bag_Pick_1_s0 n)), trivial⟩) (e_bag_Pick_1 n)

noncomputable def C_bag_both_bag_Pick_1_c : Code := bodyOf Tryd.f94
noncomputable def M_bag_both_bag_Pick_1_c : List (Nat × ArgM) := [(108, ⟨[0, 1], [], [], false⟩), (30, ⟨[], [], [], true⟩)]
noncomputable def O_bag_both_bag_Pick_1_c {ρ : Type} (n : Nat) : Orc ρ := orcCons 30 F_bag_Check (bag_Check n) (orcCons 108 F_bag_Pick_1 (bag_Pick_1 n) (orcNil))
theorem O_bag_both_bag_Pick_1_c_ok {ρ : Type} (n : Nat) : (O_bag_both_bag_Pick_1_c n : Orc ρ).ok Tryd.prog := orcCons_ok (by kernel_rfl) (ok_bag_Check n) (orcCons_ok (by kernel_rfl) (ok_bag_Pick_1 n) (orcNil_ok))
noncomputable def T_bag_both_bag_Pick_1_c_s0 : Tm := ⟨[(2, .clo 108 [1000000, 1000001])], [(15, (.two (.lst .cnt))), (16, .i64)], [(1000000, .box [.d (.lst .cnt)]), (1000001, .box [.d (.lst .i64)])]⟩
noncomputable def X_bag_both_bag_Pick_1_c_s0 : Tm := ⟨[(2, .clo 108 [1000000, 1000001])], [], [(1000000, .box [.d (.lst .cnt)]), (1000001, .box [.d (.lst .i64)])]⟩
noncomputable def R_bag_both_bag_Pick_1_c_s0 : Tm := ⟨[], [(6, (.lst .cnt)), (7, .i64)], [(1000000, .box [.d (.lst .cnt)]), (1000001, .box [.d (.lst .i64)])]⟩
noncomputable def L_bag_both_bag_Pick_1_c_s0 {ρ : Type} (n : Nat) : LOrc ρ := lorcNil
omit [Tabs] [UTabs] in
theorem s_bag_both_bag_Pick_1_c_s0 {ρ : Type} (n : Nat) (rec : T_bag_both_bag_Pick_1_c_s0.den → Option ρ) kx kr s : dStep Tryd.prog 33 TT M_bag_both_bag_Pick_1_c (O_bag_both_bag_Pick_1_c n) (L_bag_both_bag_Pick_1_c_s0 n) dorcNil 0 (lbody 1000 C_bag_both_bag_Pick_1_c 0) T_bag_both_bag_Pick_1_c_s0 X_bag_both_bag_Pick_1_c_s0 R_bag_both_bag_Pick_1_c_s0 ⟨[], [], []⟩ rec kx kr s = bag_both_bag_Pick_1_c_s0 n rec kx kr s := by kernel_rfl
noncomputable def L_bag_both_bag_Pick_1_c {ρ : Type} (n : Nat) : LOrc ρ := lorcCons 0 (loopL 33 0 n T_bag_both_bag_Pick_1_c_s0 X_bag_both_bag_Pick_1_c_s0 R_bag_both_bag_Pick_1_c_s0 ⟨[], [], []⟩ (bag_both_bag_Pick_1_c_s0 n)) (lorcNil)
omit [Tabs] [UTabs] in
theorem e_bag_both_bag_Pick_1_c (n : Nat) (x) : evF Tryd.prog 33 TT M_bag_both_bag_Pick_1_c F_bag_both_bag_Pick_1_c (O_bag_both_bag_Pick_1_c n) (L_bag_both_bag_Pick_1_c n) dorcNil ⟨[], [], []⟩ [.tmp 6, .tmp 7] C_bag_both_bag_Pick_1_c x = bag_both_bag_Pick_1_c n x := by kernel_rfl
theorem ok_bag_both_bag_Pick_1_c (n : Nat) : Contract Tryd.prog 94 F_bag_both_bag_Pick_1_c (bag_both_bag_Pick_1_c n) :=
  Contract.of_ev (c := C_bag_both_bag_Pick_1_c) (N := 33) Tryd.func94 (by kernel_rfl) (by kernel_rfl) (by kernel_rfl) (by kernel_rfl) (O_bag_both_bag_Pick_1_c_ok n) dorcNil_ok (.of (l := [(0, (lbody 1000 C_bag_both_bag_Pick_1_c 0))]) (by kernel_rfl) ⟨.head (loopL_sound (O_bag_both_bag_Pick_1_c_ok n) dorcNil_ok (.of (l := []) (by kernel_rfl) trivial) (s_bag_both_bag_Pick_1_c_s0 n)), trivial⟩) (e_bag_both_bag_Pick_1_c n)

noncomputable def C_bag_Pick : Code := bodyOf Tryd.f50
noncomputable def M_bag_Pick : List (Nat × ArgM) := [(94, ⟨[2], [], [], false⟩)]
noncomputable def O_bag_Pick {ρ : Type} (n : Nat) : Orc ρ := orcCons 94 F_bag_both_bag_Pick_1_c (bag_both_bag_Pick_1_c n) (orcNil)
theorem O_bag_Pick_ok {ρ : Type} (n : Nat) : (O_bag_Pick n : Orc ρ).ok Tryd.prog := orcCons_ok (by kernel_rfl) (ok_bag_both_bag_Pick_1_c n) (orcNil_ok)
noncomputable def T_bag_Pick_s2 : Tm := ⟨[(2, .ptr 2 0), (3, .ptr 3 0), (7, .ptr 7 0)], [(13, (.lst .cnt)), (14, .i64), (15, .i64), (19, (.lst .i64)), (20, .i64), (21, .i64)], [(2, .box [.d (.lst .cnt)]), (3, .box [.d (.lst .i64)]), (7, .box [.d .cnt])]⟩
noncomputable def X_bag_Pick_s2 : Tm := ⟨[(2, .ptr 2 0), (3, .ptr 3 0)], [(13, (.lst .cnt)), (14, .i64), (15, .i64)], [(2, .box [.d (.lst .cnt)]), (3, .box [.d (.lst .i64)])]⟩
noncomputable def R_bag_Pick_s2 : Tm := ⟨[], [(4, (.lst .cnt)), (5, .i64)], []⟩
noncomputable def L_bag_Pick_s2 {ρ : Type} (n : Nat) : LOrc ρ := lorcNil
omit [Tabs] [UTabs] in
theorem s_bag_Pick_s2 {ρ : Type} (n : Nat) (rec : T_bag_Pick_s2.den → Option ρ) kx kr s : dStep Tryd.prog 41 TT M_bag_Pick (O_bag_Pick n) (L_bag_Pick_s2 n) dorcNil 2 (lbody 0 (lbody 1000 C_bag_Pick 0) 0) T_bag_Pick_s2 X_bag_Pick_s2 R_bag_Pick_s2 ⟨[], [], []⟩ rec kx kr s = bag_Pick_s2 n rec kx kr s := by kernel_rfl
noncomputable def T_bag_Pick_s0 : Tm := ⟨[(2, .ptr 2 0), (3, .ptr 3 0)], [(13, (.lst .cnt)), (14, .i64), (15, .i64)], [(2, .box [.d (.lst .cnt)]), (3, .box [.d (.lst .i64)])]⟩
noncomputable def X_bag_Pick_s0 : Tm := ⟨[(2, .ptr 2 0), (3, .ptr 3 0)], [], [(2, .box [.d (.lst .cnt)]), (3, .box [.d (.lst .i64)])]⟩
noncomputable def R_bag_Pick_s0 : Tm := ⟨[], [(4, (.lst .cnt)), (5, .i64)], []⟩
noncomputable def L_bag_Pick_s0 {ρ : Type} (n : Nat) : LOrc ρ := lorcCons 2 (loopL 41 2 n T_bag_Pick_s2 X_bag_Pick_s2 R_bag_Pick_s2 ⟨[], [], []⟩ (bag_Pick_s2 n)) (lorcNil)
omit [Tabs] [UTabs] in
theorem s_bag_Pick_s0 {ρ : Type} (n : Nat) (rec : T_bag_Pick_s0.den → Option ρ) kx kr s : dStep Tryd.prog 41 TT M_bag_Pick (O_bag_Pick n) (L_bag_Pick_s0 n) dorcNil 0 (lbody 1000 C_bag_Pick 0) T_bag_Pick_s0 X_bag_Pick_s0 R_bag_Pick_s0 ⟨[], [], []⟩ rec kx kr s = bag_Pick_s0 n rec kx kr s := by kernel_rfl
noncomputable def L_bag_Pick {ρ : Type} (n : Nat) : LOrc ρ := lorcCons 0 (loopL 41 0 n T_bag_Pick_s0 X_bag_Pick_s0 R_bag_Pick_s0 ⟨[], [], []⟩ (bag_Pick_s0 n)) (lorcNil)
omit [Tabs] [UTabs] in
theorem e_bag_Pick (n : Nat) (x) : evF Tryd.prog 41 TT M_bag_Pick F_bag_Pick (O_bag_Pick n) (L_bag_Pick n) dorcNil ⟨[], [], []⟩ [.tmp 4, .tmp 5] C_bag_Pick x = bag_Pick n x := by kernel_rfl
theorem ok_bag_Pick (n : Nat) : Contract Tryd.prog 50 F_bag_Pick (bag_Pick n) :=
  Contract.of_ev (c := C_bag_Pick) (N := 41) Tryd.func50 (by kernel_rfl) (by kernel_rfl) (by kernel_rfl) (by kernel_rfl) (O_bag_Pick_ok n) dorcNil_ok (.of (l := [(0, (lbody 1000 C_bag_Pick 0))]) (by kernel_rfl) ⟨.head (loopL_sound (O_bag_Pick_ok n) dorcNil_ok (.of (l := [(2, (lbody 0 (lbody 1000 C_bag_Pick 0) 0))]) (by kernel_rfl) ⟨.head (loopL_sound (O_bag_Pick_ok n) dorcNil_ok (.of (l := []) (by kernel_rfl) trivial) (s_bag_Pick_s2 n)), trivial⟩) (s_bag_Pick_s0 n)), trivial⟩) (e_bag_Pick n)

noncomputable def C_espalierlaw_BagRing : Code := bodyOf Tryd.f12
noncomputable def M_espalierlaw_BagRing : List (Nat × ArgM) := [(29, ⟨[], [], [], true⟩), (46, ⟨[], [], [], true⟩)]
noncomputable def O_espalierlaw_BagRing {ρ : Type} (n : Nat) : Orc ρ := orcCons 44 F_bag_Add (bag_Add n) (orcCons 29 F_espalierlaw_bagged (espalierlaw_bagged n) (orcCons 46 F_espalierref_SameBag (espalierref_SameBag n) (orcCons 50 F_bag_Pick (bag_Pick n) (orcCons 49 F_bag_Join (bag_Join n) (orcNil)))))
theorem O_espalierlaw_BagRing_ok {ρ : Type} (n : Nat) : (O_espalierlaw_BagRing n : Orc ρ).ok Tryd.prog := orcCons_ok (by kernel_rfl) (ok_bag_Add n) (orcCons_ok (by kernel_rfl) (ok_espalierlaw_bagged n) (orcCons_ok (by kernel_rfl) (ok_espalierref_SameBag n) (orcCons_ok (by kernel_rfl) (ok_bag_Pick n) (orcCons_ok (by kernel_rfl) (ok_bag_Join n) (orcNil_ok)))))
noncomputable def L_espalierlaw_BagRing {ρ : Type} (n : Nat) : LOrc ρ := lorcNil
omit [Tabs] [UTabs] in
theorem e_espalierlaw_BagRing (n : Nat) (x) : evF Tryd.prog 148 TT M_espalierlaw_BagRing F_espalierlaw_BagRing (O_espalierlaw_BagRing n) (L_espalierlaw_BagRing n) dorcNil ⟨[], [], []⟩ [.tmp 8] C_espalierlaw_BagRing x = espalierlaw_BagRing n x := by kernel_rfl
theorem ok_espalierlaw_BagRing (n : Nat) : Contract Tryd.prog 12 F_espalierlaw_BagRing (espalierlaw_BagRing n) :=
  Contract.of_ev (c := C_espalierlaw_BagRing) (N := 148) Tryd.func12 (by kernel_rfl) (by kernel_rfl) (by kernel_rfl) (by kernel_rfl) (O_espalierlaw_BagRing_ok n) dorcNil_ok (.of (l := []) (by kernel_rfl) trivial) (e_espalierlaw_BagRing n)

noncomputable def F_espalierlaw_GuestSums : FnT := ⟨2, ⟨[], [(0, (.lst (.lst .cnt))), (1, (.lst .bool))], []⟩, [.v .bool], []⟩
noncomputable def F_guest_Tell : FnT := ⟨2, ⟨[], [(0, .guest), (1, (.lst .cnt))], []⟩, [.v .guest, .v .i64], []⟩
noncomputable def F_guest_Check : FnT := ⟨1, ⟨[], [(0, .guest)], []⟩, [.v .i64], []⟩
noncomputable def C_guest_Check : Code := bodyOf Tryd.f37
noncomputable def M_guest_Check : List (Nat × ArgM) := [(30, ⟨[], [], [], true⟩)]
noncomputable def O_guest_Check {ρ : Type} (n : Nat) : Orc ρ := orcCons 30 F_bag_Check (bag_Check n) (orcNil)
theorem O_guest_Check_ok {ρ : Type} (n : Nat) : (O_guest_Check n : Orc ρ).ok Tryd.prog := orcCons_ok (by kernel_rfl) (ok_bag_Check n) (orcNil_ok)
noncomputable def T_guest_Check_s0 : Tm := ⟨[(1, .ptr 1 0)], [(3, .i64), (16, (.lst (.lst .cnt))), (17, .i64), (18, .i64)], [(1, .box [.d .guest])]⟩
noncomputable def X_guest_Check_s0 : Tm := ⟨[(1, .ptr 1 0)], [(3, .i64)], [(1, .box [.d .guest])]⟩
noncomputable def R_guest_Check_s0 : Tm := ⟨[], [(2, .i64)], []⟩
noncomputable def L_guest_Check_s0 {ρ : Type} (n : Nat) : LOrc ρ := lorcNil
omit [Tabs] [UTabs] in
theorem s_guest_Check_s0 {ρ : Type} (n : Nat) (rec : T_guest_Check_s0.den → Option ρ) kx kr s : dStep Tryd.prog 43 TT M_guest_Check (O_guest_Check n) (L_guest_Check_s0 n) dorcNil 0 (lbody 1000 C_guest_Check 0) T_guest_Check_s0 X_guest_Check_s0 R_guest_Check_s0 ⟨[], [], []⟩ rec kx kr s = guest_Check_s0 n rec kx kr s := by kernel_rfl
noncomputable def L_guest_Check {ρ : Type} (n : Nat) : LOrc ρ := lorcCons 0 (loopL 43 0 n T_guest_Check_s0 X_guest_Check_s0 R_guest_Check_s0 ⟨[], [], []⟩ (guest_Check_s0 n)) (lorcNil)
omit [Tabs] [UTabs] in
theorem e_guest_Check (n : Nat) (x) : evF Tryd.prog 43 TT M_guest_Check F_guest_Check (O_guest_Check n) (L_guest_Check n) dorcNil ⟨[], [], []⟩ [.tmp 2] C_guest_Check x = guest_Check n x := by kernel_rfl
theorem ok_guest_Check (n : Nat) : Contract Tryd.prog 37 F_guest_Check (guest_Check n) :=
  Contract.of_ev (c := C_guest_Check) (N := 43) Tryd.func37 (by kernel_rfl) (by kernel_rfl) (by kernel_rfl) (by kernel_rfl) (O_guest_Check_ok n) dorcNil_ok (.of (l := [(0, (lbody 1000 C_guest_Check 0))]) (by kernel_rfl) ⟨.head (loopL_sound (O_guest_Check_ok n) dorcNil_ok (.of (l := []) (by kernel_rfl) trivial) (s_guest_Check_s0 n)), trivial⟩) (e_guest_Check n)

noncomputable def F_guest_Tell_1 : FnT := ⟨3, ⟨[(1, .ptr 1000000 0), (2, .ptr 1000016 0)], [(0, (.lst .cnt))], [(1000000, .box [.d .i64]), (1000016, .box [.ref (.own 1000017)]), (1000017, .arr 59 (.lst .cnt))]⟩, [], [(1000000, .box [.d .i64]), (1000016, .box [.ref (.own 1000017)]), (1000017, .arr 59 (.lst .cnt))]⟩
noncomputable def F_guest_own : FnT := ⟨1, ⟨[], [(0, (.lst .cnt))], []⟩, [.v (.lst .cnt)], []⟩
noncomputable def C_guest_own : Code := bodyOf Tryd.f87
noncomputable def M_guest_own : List (Nat × ArgM) := []
noncomputable def O_guest_own {ρ : Type} (n : Nat) : Orc ρ := orcCons 103 F_bag_CopyRow (bag_CopyRow n) (orcNil)
omit [UTabs] in
theorem O_guest_own_ok {ρ : Type} (n : Nat) : (O_guest_own n : Orc ρ).ok Tryd.prog := orcCons_ok (by kernel_rfl) (ok_bag_CopyRow n) (orcNil_ok)
noncomputable def T_guest_own_s0 : Tm := ⟨[(3, .own 3)], [(6, (.lst .cnt)), (7, .i64), (8, .i64)], [(3, .arr 92 .cnt)]⟩
noncomputable def X_guest_own_s0 : Tm := ⟨[(3, .own 3)], [], [(3, .arr 92 .cnt)]⟩
noncomputable def R_guest_own_s0 : Tm := ⟨[], [], []⟩
noncomputable def L_guest_own_s0 {ρ : Type} (n : Nat) : LOrc ρ := lorcNil
omit [Tabs] [UTabs] in
theorem s_guest_own_s0 {ρ : Type} (n : Nat) (rec : T_guest_own_s0.den → Option ρ) kx kr s : dStep Tryd.prog 23 TT M_guest_own (O_guest_own n) (L_guest_own_s0 n) (evDraw Tryd.prog 23 TT M_guest_own (O_guest_own n)) 0 (lbody 1000 C_guest_own 0) T_guest_own_s0 X_guest_own_s0 R_guest_own_s0 ⟨[], [(3, 3, 92, 2)], []⟩ rec kx kr s = guest_own_s0 n rec kx kr s := by kernel_rfl
noncomputable def L_guest_own {ρ : Type} (n : Nat) : LOrc ρ := lorcCons 0 (loopL 23 0 n T_guest_own_s0 X_guest_own_s0 R_guest_own_s0 ⟨[], [(3, 3, 92, 2)], []⟩ (guest_own_s0 n)) (lorcNil)
omit [Tabs] [UTabs] in
theorem e_guest_own (n : Nat) (x) : evF Tryd.prog 23 TT M_guest_own F_guest_own (O_guest_own n) (L_guest_own n) (evDraw Tryd.prog 23 TT M_guest_own (O_guest_own n)) ⟨[], [], []⟩ [.tmp 2] C_guest_own x = guest_own n x := by kernel_rfl
omit [UTabs] in
theorem ok_guest_own (n : Nat) : Contract Tryd.prog 87 F_guest_own (guest_own n) :=
  Contract.of_ev (c := C_guest_own) (N := 23) Tryd.func87 (by kernel_rfl) (by kernel_rfl) (by kernel_rfl) (by kernel_rfl) (O_guest_own_ok n) (evDraw_ok (O_guest_own_ok n) (by kernel_rfl)) (.of (l := [(0, (lbody 1000 C_guest_own 0))]) (by kernel_rfl) ⟨.head (loopL_sound (O_guest_own_ok n) (evDraw_ok (O_guest_own_ok n) (by kernel_rfl)) (.of (l := []) (by kernel_rfl) trivial) (s_guest_own_s0 n)), trivial⟩) (e_guest_own n)

noncomputable def C_guest_Tell_1 : Code := bodyOf Tryd.f86
noncomputable def M_guest_Tell_1 : List (Nat × ArgM) := []
noncomputable def O_guest_Tell_1 {ρ : Type} (n : Nat) : Orc ρ := orcCons 87 F_guest_own (guest_own n) (orcNil)
omit [UTabs] in
theorem O_guest_Tell_1_ok {ρ : Type} (n : Nat) : (O_guest_Tell_1 n : Orc ρ).ok Tryd.prog := orcCons_ok (by kernel_rfl) (ok_guest_own n) (orcNil_ok)
noncomputable def L_guest_Tell_1 {ρ : Type} (n : Nat) : LOrc ρ := lorcNil
omit [Tabs] [UTabs] in
theorem e_guest_Tell_1 (n : Nat) (x) : evF Tryd.prog 13 TT M_guest_Tell_1 F_guest_Tell_1 (O_guest_Tell_1 n) (L_guest_Tell_1 n) (evDraw Tryd.prog 13 TT M_guest_Tell_1 (O_guest_Tell_1 n)) ⟨[], [], []⟩ [] C_guest_Tell_1 x = guest_Tell_1 n x := by kernel_rfl
omit [UTabs] in
theorem ok_guest_Tell_1 (n : Nat) : Contract Tryd.prog 86 F_guest_Tell_1 (guest_Tell_1 n) :=
  Contract.of_ev (c := C_guest_Tell_1) (N := 13) Tryd.func86 (by kernel_rfl) (by kernel_rfl) (by kernel_rfl) (by kernel_rfl) (O_guest_Tell_1_ok n) (evDraw_ok (O_guest_Tell_1_ok n) (by kernel_rfl)) (.of (l := []) (by kernel_rfl) trivial) (e_guest_Tell_1 n)

noncomputable def C_guest_Tell : Code := bodyOf Tryd.f34
noncomputable def M_guest_Tell : List (Nat × ArgM) := [(86, ⟨[1, 2], [], [], false⟩), (37, ⟨[], [], [], true⟩), (30, ⟨[], [], [], true⟩)]
noncomputable def O_guest_Tell {ρ : Type} (n : Nat) : Orc ρ := orcCons 37 F_guest_Check (guest_Check n) (orcCons 30 F_bag_Check (bag_Check n) (orcCons 86 F_guest_Tell_1 (guest_Tell_1 n) (orcNil)))
theorem O_guest_Tell_ok {ρ : Type} (n : Nat) : (O_guest_Tell n : Orc ρ).ok Tryd.prog := orcCons_ok (by kernel_rfl) (ok_guest_Check n) (orcCons_ok (by kernel_rfl) (ok_bag_Check n) (orcCons_ok (by kernel_rfl) (ok_guest_Tell_1 n) (orcNil_ok)))
noncomputable def T_guest_Tell_s0 : Tm := ⟨[(2, .ptr 2 0), (4, .ptr 4 0), (8, .ptr 8 0), (9, .ptr 9 0), (10, .clo 86 [8, 9])], [(1, (.lst .cnt)), (27, (.lst (.lst .cnt))), (28, .i64), (29, .i64)], [(2, .box [.d .guest]), (4, .box [.d .guest]), (8, .box [.d .i64]), (9, .box [.ref (.own 300360)]), (300360, .arr 59 (.lst .cnt))]⟩
noncomputable def X_guest_Tell_s0 : Tm := ⟨[(2, .ptr 2 0), (4, .ptr 4 0), (8, .ptr 8 0), (9, .ptr 9 0), (10, .clo 86 [8, 9])], [(1, (.lst .cnt))], [(2, .box [.d .guest]), (4, .box [.d .guest]), (8, .box [.d .i64]), (9, .box [.ref (.own 300360)]), (300360, .arr 59 (.lst .cnt))]⟩
noncomputable def R_guest_Tell_s0 : Tm := ⟨[], [], []⟩
noncomputable def L_guest_Tell_s0 {ρ : Type} (n : Nat) : LOrc ρ := lorcNil
omit [Tabs] [UTabs] in
theorem s_guest_Tell_s0 {ρ : Type} (n : Nat) (rec : T_guest_Tell_s0.den → Option ρ) kx kr s : dStep Tryd.prog 54 TT M_guest_Tell (O_guest_Tell n) (L_guest_Tell_s0 n) dorcNil 0 (lbody 1000 C_guest_Tell 0) T_guest_Tell_s0 X_guest_Tell_s0 R_guest_Tell_s0 ⟨[], [], [(9, 0, 300360, 59, 1)]⟩ rec kx kr s = guest_Tell_s0 n rec kx kr s := by kernel_rfl
noncomputable def L_guest_Tell {ρ : Type} (n : Nat) : LOrc ρ := lorcCons 0 (loopL 54 0 n T_guest_Tell_s0 X_guest_Tell_s0 R_guest_Tell_s0 ⟨[], [], [(9, 0, 300360, 59, 1)]⟩ (guest_Tell_s0 n)) (lorcNil)
omit [Tabs] [UTabs] in
theorem e_guest_Tell (n : Nat) (x) : evF Tryd.prog 54 TT M_guest_Tell F_guest_Tell (O_guest_Tell n) (L_guest_Tell n) dorcNil ⟨[], [], []⟩ [.cell 4 66, .tmp 5] C_guest_Tell x = guest_Tell n x := by kernel_rfl
theorem ok_guest_Tell (n : Nat) : Contract Tryd.prog 34 F_guest_Tell (guest_Tell n) :=
  Contract.of_ev (c := C_guest_Tell) (N := 54) Tryd.func34 (by kernel_rfl) (by kernel_rfl) (by kernel_rfl) (by kernel_rfl) (O_guest_Tell_ok n) dorcNil_ok (.of (l := [(0, (lbody 1000 C_guest_Tell 0))]) (by kernel_rfl) ⟨.head (loopL_sound (O_guest_Tell_ok n) dorcNil_ok (.of (l := []) (by kernel_rfl) trivial) (s_guest_Tell_s0 n)), trivial⟩) (e_guest_Tell n)

noncomputable def F_guest_Take : FnT := ⟨3, ⟨[], [(0, .guest), (1, (.lst .cnt)), (2, .i64)], []⟩, [.v .guest, .v (.lst .cnt), .v .bool, .v .i64], []⟩
noncomputable def F_slices_Clone_api_Count_api_Count : FnT := ⟨1, ⟨[], [(0, (.lst .cnt))], []⟩, [.v (.lst .cnt)], []⟩
noncomputable def C_slices_Clone_api_Count_api_Count : Code := bodyOf Tryd.f53
noncomputable def M_slices_Clone_api_Count_api_Count : List (Nat × ArgM) := []
noncomputable def O_slices_Clone_api_Count_api_Count {ρ : Type} : Orc ρ := orcNil
omit [UTabs] in
theorem O_slices_Clone_api_Count_api_Count_ok {ρ : Type} : (O_slices_Clone_api_Count_api_Count : Orc ρ).ok Tryd.prog := orcNil_ok
noncomputable def L_slices_Clone_api_Count_api_Count {ρ : Type} : LOrc ρ := lorcNil
omit [Tabs] [UTabs] in
theorem e_slices_Clone_api_Count_api_Count (x) : evF Tryd.prog 8 TT M_slices_Clone_api_Count_api_Count F_slices_Clone_api_Count_api_Count (O_slices_Clone_api_Count_api_Count) (L_slices_Clone_api_Count_api_Count) dorcNil ⟨[], [], []⟩ [.tmp 2] C_slices_Clone_api_Count_api_Count x = slices_Clone_api_Count_api_Count x := by kernel_rfl
omit [UTabs] in
theorem ok_slices_Clone_api_Count_api_Count : Contract Tryd.prog 53 F_slices_Clone_api_Count_api_Count (slices_Clone_api_Count_api_Count) :=
  Contract.of_ev (c := C_slices_Clone_api_Count_api_Count) (N := 8) Tryd.func53 (by kernel_rfl) (by kernel_rfl) (by kernel_rfl) (by kernel_rfl) (O_slices_Clone_api_Count_api_Count_ok) dorcNil_ok (.of (l := []) (by kernel_rfl) trivial) (e_slices_Clone_api_Count_api_Count)

noncomputable def C_guest_Take : Code := bodyOf Tryd.f45
noncomputable def M_guest_Take : List (Nat × ArgM) := [(37, ⟨[], [], [], true⟩), (30, ⟨[], [], [], true⟩)]
noncomputable def O_guest_Take {ρ : Type} (n : Nat) : Orc ρ := orcCons 37 F_guest_Check (guest_Check n) (orcCons 30 F_bag_Check (bag_Check n) (orcCons 87 F_guest_own (guest_own n) (orcCons 53 F_slices_Clone_api_Count_api_Count (slices_Clone_api_Count_api_Count) (orcCons 97 F_bag_Gather (bag_Gather n) (orcNil)))))
theorem O_guest_Take_ok {ρ : Type} (n : Nat) : (O_guest_Take n : Orc ρ).ok Tryd.prog := orcCons_ok (by kernel_rfl) (ok_guest_Check n) (orcCons_ok (by kernel_rfl) (ok_bag_Check n) (orcCons_ok (by kernel_rfl) (ok_guest_own n) (orcCons_ok (by kernel_rfl) (ok_slices_Clone_api_Count_api_Count) (orcCons_ok (by kernel_rfl) (ok_bag_Gather n) (orcNil_ok)))))
noncomputable def T_guest_Take_s0 : Tm := ⟨[(6, .ptr 6 0), (12, .own 12)], [(43, (.lst (.lst .cnt))), (44, .i64), (45, .i64)], [(6, .box [.d .guest]), (12, .arr 92 .cnt)]⟩
noncomputable def X_guest_Take_s0 : Tm := ⟨[(6, .ptr 6 0), (12, .own 12)], [], [(6, .box [.d .guest]), (12, .arr 92 .cnt)]⟩
noncomputable def R_guest_Take_s0 : Tm := ⟨[], [], []⟩
noncomputable def L_guest_Take_s0 {ρ : Type} (n : Nat) : LOrc ρ := lorcNil
omit [Tabs] [UTabs] in
theorem s_guest_Take_s0 {ρ : Type} (n : Nat) (rec : T_guest_Take_s0.den → Option ρ) kx kr s : dStep Tryd.prog 64 TT M_guest_Take (O_guest_Take n) (L_guest_Take_s0 n) (evDraw Tryd.prog 64 TT M_guest_Take (O_guest_Take n)) 0 (lbody 1000 C_guest_Take 0) T_guest_Take_s0 X_guest_Take_s0 R_guest_Take_s0 ⟨[], [(12, 12, 92, 2)], []⟩ rec kx kr s = guest_Take_s0 n rec kx kr s := by kernel_rfl
noncomputable def L_guest_Take {ρ : Type} (n : Nat) : LOrc ρ := lorcCons 0 (loopL 64 0 n T_guest_Take_s0 X_guest_Take_s0 R_guest_Take_s0 ⟨[], [(12, 12, 92, 2)], []⟩ (guest_Take_s0 n)) (lorcNil)
omit [Tabs] [UTabs] in
theorem e_guest_Take (n : Nat) (x) : evF Tryd.prog 64 TT M_guest_Take F_guest_Take (O_guest_Take n) (L_guest_Take n) (evDraw Tryd.prog 64 TT M_guest_Take (O_guest_Take n)) ⟨[], [], []⟩ [.cell 6 66, .tmp 7, .tmp 8, .tmp 9] C_guest_Take x = guest_Take n x := by kernel_rfl
theorem ok_guest_Take (n : Nat) : Contract Tryd.prog 45 F_guest_Take (guest_Take n) :=
  Contract.of_ev (c := C_guest_Take) (N := 64) Tryd.func45 (by kernel_rfl) (by kernel_rfl) (by kernel_rfl) (by kernel_rfl) (O_guest_Take_ok n) (evDraw_ok (O_guest_Take_ok n) (by kernel_rfl)) (.of (l := [(0, (lbody 1000 C_guest_Take 0))]) (by kernel_rfl) ⟨.head (loopL_sound (O_guest_Take_ok n) (evDraw_ok (O_guest_Take_ok n) (by kernel_rfl)) (.of (l := []) (by kernel_rfl) trivial) (s_guest_Take_s0 n)), trivial⟩) (e_guest_Take n)

noncomputable def F_espalierlaw_waits : FnT := ⟨0, ⟨[], [], []⟩, [.v .bool], []⟩
noncomputable def C_espalierlaw_waits : Code := bodyOf Tryd.f36
noncomputable def M_espalierlaw_waits : List (Nat × ArgM) := [(46, ⟨[], [], [], true⟩)]
noncomputable def O_espalierlaw_waits {ρ : Type} (n : Nat) : Orc ρ := orcCons 56 F_espalierlaw_num (espalierlaw_num) (orcCons 34 F_guest_Tell (guest_Tell n) (orcCons 45 F_guest_Take (guest_Take n) (orcCons 46 F_espalierref_SameBag (espalierref_SameBag n) (orcNil))))
theorem O_espalierlaw_waits_ok {ρ : Type} (n : Nat) : (O_espalierlaw_waits n : Orc ρ).ok Tryd.prog := orcCons_ok (by kernel_rfl) (ok_espalierlaw_num) (orcCons_ok (by kernel_rfl) (ok_guest_Tell n) (orcCons_ok (by kernel_rfl) (ok_guest_Take n) (orcCons_ok (by kernel_rfl) (ok_espalierref_SameBag n) (orcNil_ok))))
noncomputable def L_espalierlaw_waits {ρ : Type} (n : Nat) : LOrc ρ := lorcNil
omit [Tabs] [UTabs] in
theorem e_espalierlaw_waits (n : Nat) (x) : evF Tryd.prog 59 TT M_espalierlaw_waits F_espalierlaw_waits (O_espalierlaw_waits n) (L_espalierlaw_waits n) dorcNil ⟨[], [], []⟩ [.tmp 0] C_espalierlaw_waits x = espalierlaw_waits n x := by kernel_rfl
theorem ok_espalierlaw_waits (n : Nat) : Contract Tryd.prog 36 F_espalierlaw_waits (espalierlaw_waits n) :=
  Contract.of_ev (c := C_espalierlaw_waits) (N := 59) Tryd.func36 (by kernel_rfl) (by kernel_rfl) (by kernel_rfl) (by kernel_rfl) (O_espalierlaw_waits_ok n) dorcNil_ok (.of (l := []) (by kernel_rfl) trivial) (e_espalierlaw_waits n)

noncomputable def C_espalierlaw_GuestSums : Code := bodyOf Tryd.f9
noncomputable def M_espalierlaw_GuestSums : List (Nat × ArgM) := [(46, ⟨[], [], [], true⟩), (36, ⟨[], [], [], true⟩)]
noncomputable def O_espalierlaw_GuestSums {ρ : Type} (n : Nat) : Orc ρ := orcCons 44 F_bag_Add (bag_Add n) (orcCons 34 F_guest_Tell (guest_Tell n) (orcCons 45 F_guest_Take (guest_Take n) (orcCons 46 F_espalierref_SameBag (espalierref_SameBag n) (orcCons 36 F_espalierlaw_waits (espalierlaw_waits n) (orcNil)))))
theorem O_espalierlaw_GuestSums_ok {ρ : Type} (n : Nat) : (O_espalierlaw_GuestSums n : Orc ρ).ok Tryd.prog := orcCons_ok (by kernel_rfl) (ok_bag_Add n) (orcCons_ok (by kernel_rfl) (ok_guest_Tell n) (orcCons_ok (by kernel_rfl) (ok_guest_Take n) (orcCons_ok (by kernel_rfl) (ok_espalierref_SameBag n) (orcCons_ok (by kernel_rfl) (ok_espalierlaw_waits n) (orcNil_ok)))))
noncomputable def T_espalierlaw_GuestSums_s0 : Tm := ⟨[(5, .ptr 5 0)], [(1, (.lst .bool)), (6, (.lst .cnt)), (7, (.lst .cnt)), (21, (.lst (.lst .cnt))), (22, .i64), (23, .i64)], [(5, .box [.d .guest])]⟩
noncomputable def X_espalierlaw_GuestSums_s0 : Tm := ⟨[], [], []⟩
noncomputable def R_espalierlaw_GuestSums_s0 : Tm := ⟨[], [(4, .bool)], []⟩
noncomputable def L_espalierlaw_GuestSums_s0 {ρ : Type} (n : Nat) : LOrc ρ := lorcNil
omit [Tabs] [UTabs] in
theorem s_espalierlaw_GuestSums_s0 {ρ : Type} (n : Nat) (rec : T_espalierlaw_GuestSums_s0.den → Option ρ) kx kr s : dStep Tryd.prog 88 TT M_espalierlaw_GuestSums (O_espalierlaw_GuestSums n) (L_espalierlaw_GuestSums_s0 n) (evDraw Tryd.prog 88 TT M_espalierlaw_GuestSums (O_espalierlaw_GuestSums n)) 0 (lbody 1000 C_espalierlaw_GuestSums 0) T_espalierlaw_GuestSums_s0 X_espalierlaw_GuestSums_s0 R_espalierlaw_GuestSums_s0 ⟨[], [], []⟩ rec kx kr s = espalierlaw_GuestSums_s0 n rec kx kr s := by kernel_rfl
noncomputable def L_espalierlaw_GuestSums {ρ : Type} (n : Nat) : LOrc ρ := lorcCons 0 (loopL 88 0 n T_espalierlaw_GuestSums_s0 X_espalierlaw_GuestSums_s0 R_espalierlaw_GuestSums_s0 ⟨[], [], []⟩ (espalierlaw_GuestSums_s0 n)) (lorcNil)
omit [Tabs] [UTabs] in
theorem e_espalierlaw_GuestSums (n : Nat) (x) : evF Tryd.prog 88 TT M_espalierlaw_GuestSums F_espalierlaw_GuestSums (O_espalierlaw_GuestSums n) (L_espalierlaw_GuestSums n) (evDraw Tryd.prog 88 TT M_espalierlaw_GuestSums (O_espalierlaw_GuestSums n)) ⟨[], [], []⟩ [.tmp 4] C_espalierlaw_GuestSums x = espalierlaw_GuestSums n x := by kernel_rfl
theorem ok_espalierlaw_GuestSums (n : Nat) : Contract Tryd.prog 9 F_espalierlaw_GuestSums (espalierlaw_GuestSums n) :=
  Contract.of_ev (c := C_espalierlaw_GuestSums) (N := 88) Tryd.func9 (by kernel_rfl) (by kernel_rfl) (by kernel_rfl) (by kernel_rfl) (O_espalierlaw_GuestSums_ok n) (evDraw_ok (O_espalierlaw_GuestSums_ok n) (by kernel_rfl)) (.of (l := [(0, (lbody 1000 C_espalierlaw_GuestSums 0))]) (by kernel_rfl) ⟨.head (loopL_sound (O_espalierlaw_GuestSums_ok n) (evDraw_ok (O_espalierlaw_GuestSums_ok n) (by kernel_rfl)) (.of (l := []) (by kernel_rfl) trivial) (s_espalierlaw_GuestSums_s0 n)), trivial⟩) (e_espalierlaw_GuestSums n)

end Go.Proofs.YtnfoajgolcenlaaDoor

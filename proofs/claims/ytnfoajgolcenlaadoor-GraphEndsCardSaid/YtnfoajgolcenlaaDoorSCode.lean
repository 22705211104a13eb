/- Each of these functions computes what its plain function computes (written by gen.py). -/
import Derived.Test.YtnfoajgolcenlaaDoorSBase
import Derived.KernelRfl
import Derived.Test.YtnfoajgolcenlaaDoorEvDraw
import Derived.Test.YtnfoajgolcenlaaDoorPCode
namespace Go.Proofs.YtnfoajgolcenlaaDoor
open Go Esp Ev Pure
set_option linter.unusedSimpArgs false
set_option linter.unusedVariables false
set_option maxRecDepth 100000
variable [Tabs] [UTabs]
def TT : List (TypeId × Ty) := [(2, .i64), (3, .i64), (4, .bool), (5, .u8), (6, .u8), (9, .str), (10, .str), (11, .str), (12, .u64), (21, .i32), (22, (.lst .grant)), (23, (.lst .node)), (24, (.lst .edg)), (26, .graph), (27, .i64), (30, (.lst .str)), (37, (.lst .val)), (39, .val), (40, (.lst .prp)), (42, .opn), (51, .node), (54, .grant), (58, (.lst .cnt)), (59, (.lst .cnt)), (60, (.lst .val)), (64, (.lst (.lst .cnt))), (66, .guest), (73, (.lst .i64)), (76, (.lst .bool)), (80, .edg), (92, .cnt), (96, (.lst (.lst .val))), (136, .u64), (144, (.two (.lst .cnt))), (150, (.lst .u32)), (175, (.lst .u8)), (178, .prp), (180, .i64), (187, .u32), (189, .u64), (195, .u64), (214, (.lst .i64)), (229, .u64), (263, .u8), (264, .u8), (267, .i32), (268, .i32)]

noncomputable def F_espalierlaw_GraphEnds : FnT := ⟨1, ⟨[], [(0, .graph)], []⟩, [.v .bool], []⟩
noncomputable def F_graph_Labelled : FnT := ⟨2, ⟨[], [(0, .graph), (1, .str)], []⟩, [.v (.lst .i64), .v .i64], []⟩
noncomputable def F_graph_Check : FnT := ⟨1, ⟨[], [(0, .graph)], []⟩, [.v .i64], []⟩
noncomputable def F_graph_Labels : FnT := ⟨1, ⟨[], [(0, (.lst .str))], []⟩, [.v .i64], []⟩
noncomputable def F_graph_Name : FnT := ⟨1, ⟨[], [(0, .str)], []⟩, [.v .bool], []⟩
noncomputable def C_graph_Name : Code := bodyOf Tryd.f67
noncomputable def M_graph_Name : List (Nat × ArgM) := []
noncomputable def O_graph_Name {ρ : Type} (n : Nat) : Orc ρ := orcNil
omit [UTabs] in
theorem O_graph_Name_ok {ρ : Type} (n : Nat) : (O_graph_Name n : Orc ρ).ok Tryd.prog := orcNil_ok
noncomputable def T_graph_Name_s0 : Tm := ⟨[], [(0, .str), (14, .i64), (15, .i64)], []⟩
noncomputable def X_graph_Name_s0 : Tm := ⟨[], [], []⟩
noncomputable def R_graph_Name_s0 : Tm := ⟨[], [(2, .bool)], []⟩
noncomputable def L_graph_Name_s0 {ρ : Type} (n : Nat) : LOrc ρ := lorcNil
omit [Tabs] [UTabs] in
theorem s_graph_Name_s0 {ρ : Type} (n : Nat) (rec : T_graph_Name_s0.den → Option ρ) kx kr s : dStep Tryd.prog 54 TT M_graph_Name (O_graph_Name n) (L_graph_Name_s0 n) dorcNil 0 (lbody 1000 C_graph_Name 0) T_graph_Name_s0 X_graph_Name_s0 R_graph_Name_s0 ⟨[], [], []⟩ rec kx kr s = graph_Name_s0 n rec kx kr s := by kernel_rfl
noncomputable def L_graph_Name {ρ : Type} (n : Nat) : LOrc ρ := lorcCons 0 (loopL 54 0 n T_graph_Name_s0 X_graph_Name_s0 R_graph_Name_s0 ⟨[], [], []⟩ (graph_Name_s0 n)) (lorcNil)
omit [Tabs] [UTabs] in
theorem e_graph_Name (n : Nat) (x) : evF Tryd.prog 54 TT M_graph_Name F_graph_Name (O_graph_Name n) (L_graph_Name n) dorcNil ⟨[], [], []⟩ [.tmp 2] C_graph_Name x = graph_Name n x := by kernel_rfl
omit [UTabs] in
theorem ok_graph_Name (n : Nat) : Contract Tryd.prog 67 F_graph_Name (graph_Name n) :=
  Contract.of_ev (c := C_graph_Name) (N := 54) Tryd.func67 (by kernel_rfl) (by kernel_rfl) (by kernel_rfl) (by kernel_rfl) (O_graph_Name_ok n) dorcNil_ok (.of (l := [(0, (lbody 1000 C_graph_Name 0))]) (by kernel_rfl) ⟨.head (loopL_sound (O_graph_Name_ok n) dorcNil_ok (.of (l := []) (by kernel_rfl) trivial) (s_graph_Name_s0 n)), trivial⟩) (e_graph_Name n)

noncomputable def C_graph_Labels : Code := bodyOf Tryd.f117
noncomputable def M_graph_Labels : List (Nat × ArgM) := [(67, ⟨[], [], [], true⟩)]
noncomputable def O_graph_Labels {ρ : Type} (n : Nat) : Orc ρ := orcCons 67 F_graph_Name (graph_Name n) (orcNil)
omit [UTabs] in
theorem O_graph_Labels_ok {ρ : Type} (n : Nat) : (O_graph_Labels n : Orc ρ).ok Tryd.prog := orcCons_ok (by kernel_rfl) (ok_graph_Name n) (orcNil_ok)
noncomputable def T_graph_Labels_s0 : Tm := ⟨[], [(0, (.lst .str)), (8, (.lst .str)), (9, .i64), (10, .i64)], []⟩
noncomputable def X_graph_Labels_s0 : Tm := ⟨[], [], []⟩
noncomputable def R_graph_Labels_s0 : Tm := ⟨[], [(2, .i64)], []⟩
noncomputable def L_graph_Labels_s0 {ρ : Type} (n : Nat) : LOrc ρ := lorcNil
omit [Tabs] [UTabs] in
theorem s_graph_Labels_s0 {ρ : Type} (n : Nat) (rec : T_graph_Labels_s0.den → Option ρ) kx kr s : dStep Tryd.prog 32 TT M_graph_Labels (O_graph_Labels n) (L_graph_Labels_s0 n) dorcNil 0 (lbody 1000 C_graph_Labels 0) T_graph_Labels_s0 X_graph_Labels_s0 R_graph_Labels_s0 ⟨[], [], []⟩ rec kx kr s = graph_Labels_s0 n rec kx kr s := by kernel_rfl
noncomputable def L_graph_Labels {ρ : Type} (n : Nat) : LOrc ρ := lorcCons 0 (loopL 32 0 n T_graph_Labels_s0 X_graph_Labels_s0 R_graph_Labels_s0 ⟨[], [], []⟩ (graph_Labels_s0 n)) (lorcNil)
omit [Tabs] [UTabs] in
theorem e_graph_Labels (n : Nat) (x) : evF Tryd.prog 32 TT M_graph_Labels F_graph_Labels (O_graph_Labels n) (L_graph_Labels n) dorcNil ⟨[], [], []⟩ [.tmp 2] C_graph_Labels x = graph_Labels n x := by kernel_rfl
omit [UTabs] in
theorem ok_graph_Labels (n : Nat) : Contract Tryd.prog 117 F_graph_Labels (graph_Labels n) :=
  Contract.of_ev (c := C_graph_Labels) (N := 32) Tryd.func117 (by kernel_rfl) (by kernel_rfl) (by kernel_rfl) (by kernel_rfl) (O_graph_Labels_ok n) dorcNil_ok (.of (l := [(0, (lbody 1000 C_graph_Labels 0))]) (by kernel_rfl) ⟨.head (loopL_sound (O_graph_Labels_ok n) dorcNil_ok (.of (l := []) (by kernel_rfl) trivial) (s_graph_Labels_s0 n)), trivial⟩) (e_graph_Labels n)

noncomputable def F_graph_Props : FnT := ⟨1, ⟨[], [(0, (.lst .prp))], []⟩, [.v .i64], []⟩
noncomputable def F_value_Check : FnT := ⟨1, ⟨[], [(0, .val)], []⟩, [.v .i64], []⟩
noncomputable def F_value_check : FnT := ⟨2, ⟨[], [(0, .val), (1, .i64)], []⟩, [.v .i64], []⟩
noncomputable def C_value_check : Code := bodyOf Tryd.f133
noncomputable def M_value_check : List (Nat × ArgM) := [(134, ⟨[], [], [], true⟩), (133, ⟨[], [], [], true⟩)]
noncomputable def O_value_check {ρ : Type} (self_value_check : Ev.Val × Int × Unit → Option (Int × Unit)) (n : Nat) : Orc ρ := orcCons 134 F_valid (validN) (orcCons 133 F_value_check (self_value_check) (orcNil))
theorem O_value_check_ok {ρ : Type} (self_value_check : Ev.Val × Int × Unit → Option (Int × Unit)) (h_value_check : Contract Tryd.prog 133 F_value_check self_value_check) (n : Nat) : (O_value_check self_value_check n : Orc ρ).ok Tryd.prog := orcCons_ok (by kernel_rfl) (validN_ok) (orcCons_ok (by kernel_rfl) (h_value_check) (orcNil_ok))
noncomputable def T_value_check_s1 : Tm := ⟨[(2, .ptr 2 0)], [(1, .i64), (90, (.lst .val)), (91, .i64), (92, .i64)], [(2, .box [.d .val])]⟩
noncomputable def X_value_check_s1 : Tm := ⟨[(2, .ptr 2 0)], [], [(2, .box [.d .val])]⟩
noncomputable def R_value_check_s1 : Tm := ⟨[], [(4, .i64)], []⟩
noncomputable def L_value_check_s1 {ρ : Type} (self_value_check : Ev.Val × Int × Unit → Option (Int × Unit)) (n : Nat) : LOrc ρ := lorcNil
omit [Tabs] [UTabs] in
theorem s_value_check_s1 {ρ : Type} (self_value_check : Ev.Val × Int × Unit → Option (Int × Unit)) (n : Nat) (rec : T_value_check_s1.den → Option ρ) kx kr s : dStep Tryd.prog 114 TT M_value_check (O_value_check self_value_check n) (L_value_check_s1 self_value_check n) dorcNil 1 (lbody 1000 C_value_check 0) T_value_check_s1 X_value_check_s1 R_value_check_s1 ⟨[], [], []⟩ rec kx kr s = value_check_s1 self_value_check n rec kx kr s := by kernel_rfl
noncomputable def L_value_check {ρ : Type} (self_value_check : Ev.Val × Int × Unit → Option (Int × Unit)) (n : Nat) : LOrc ρ := lorcCons 1 (loopL 114 1 n T_value_check_s1 X_value_check_s1 R_value_check_s1 ⟨[], [], []⟩ (value_check_s1 self_value_check n)) (lorcNil)
omit [Tabs] [UTabs] in
theorem e_value_check (self_value_check : Ev.Val × Int × Unit → Option (Int × Unit)) (n : Nat) (x) : evF Tryd.prog 114 TT M_value_check F_value_check (O_value_check self_value_check n) (L_value_check self_value_check n) dorcNil ⟨[], [], []⟩ [.tmp 4] C_value_check x = value_check_b self_value_check n x := by kernel_rfl
theorem okb_value_check (self_value_check : Ev.Val × Int × Unit → Option (Int × Unit)) (h_value_check : Contract Tryd.prog 133 F_value_check self_value_check) (n : Nat) : Contract Tryd.prog 133 F_value_check (value_check_b self_value_check n) :=
  Contract.of_ev (c := C_value_check) (N := 114) Tryd.func133 (by kernel_rfl) (by kernel_rfl) (by kernel_rfl) (by kernel_rfl) (O_value_check_ok self_value_check h_value_check n) dorcNil_ok (.of (l := [(1, (lbody 1000 C_value_check 0))]) (by kernel_rfl) ⟨.head (loopL_sound (O_value_check_ok self_value_check h_value_check n) dorcNil_ok (.of (l := []) (by kernel_rfl) trivial) (s_value_check_s1 self_value_check n)), trivial⟩) (e_value_check self_value_check n)
theorem ok_value_check : ∀ n, Contract Tryd.prog 133 F_value_check (value_check n)
  | 0 => fun _ _ h => by cases h
  | n + 1 => okb_value_check _ (ok_value_check n) n

noncomputable def C_value_Check : Code := bodyOf Tryd.f81
noncomputable def M_value_Check : List (Nat × ArgM) := [(133, ⟨[], [], [], true⟩)]
noncomputable def O_value_Check {ρ : Type} (n : Nat) : Orc ρ := orcCons 133 F_value_check (value_check n) (orcNil)
theorem O_value_Check_ok {ρ : Type} (n : Nat) : (O_value_Check n : Orc ρ).ok Tryd.prog := orcCons_ok (by kernel_rfl) (ok_value_check n) (orcNil_ok)
noncomputable def L_value_Check {ρ : Type} (n : Nat) : LOrc ρ := lorcNil
omit [Tabs] [UTabs] in
theorem e_value_Check (n : Nat) (x) : evF Tryd.prog 5 TT M_value_Check F_value_Check (O_value_Check n) (L_value_Check n) dorcNil ⟨[], [], []⟩ [.tmp 2] C_value_Check x = value_Check n x := by kernel_rfl
theorem ok_value_Check (n : Nat) : Contract Tryd.prog 81 F_value_Check (value_Check n) :=
  Contract.of_ev (c := C_value_Check) (N := 5) Tryd.func81 (by kernel_rfl) (by kernel_rfl) (by kernel_rfl) (by kernel_rfl) (O_value_Check_ok n) dorcNil_ok (.of (l := []) (by kernel_rfl) trivial) (e_value_Check n)

noncomputable def C_graph_Props : Code := bodyOf Tryd.f118
noncomputable def M_graph_Props : List (Nat × ArgM) := [(67, ⟨[], [], [], true⟩), (81, ⟨[], [], [], true⟩)]
noncomputable def O_graph_Props {ρ : Type} (n : Nat) : Orc ρ := orcCons 67 F_graph_Name (graph_Name n) (orcCons 81 F_value_Check (value_Check n) (orcNil))
theorem O_graph_Props_ok {ρ : Type} (n : Nat) : (O_graph_Props n : Orc ρ).ok Tryd.prog := orcCons_ok (by kernel_rfl) (ok_graph_Name n) (orcCons_ok (by kernel_rfl) (ok_value_Check n) (orcNil_ok))
noncomputable def T_graph_Props_s0 : Tm := ⟨[], [(0, (.lst .prp)), (9, (.lst .prp)), (10, .i64), (11, .i64)], []⟩
noncomputable def X_graph_Props_s0 : Tm := ⟨[], [], []⟩
noncomputable def R_graph_Props_s0 : Tm := ⟨[], [(2, .i64)], []⟩
noncomputable def L_graph_Props_s0 {ρ : Type} (n : Nat) : LOrc ρ := lorcNil
omit [Tabs] [UTabs] in
theorem s_graph_Props_s0 {ρ : Type} (n : Nat) (rec : T_graph_Props_s0.den → Option ρ) kx kr s : dStep Tryd.prog 48 TT M_graph_Props (O_graph_Props n) (L_graph_Props_s0 n) (evDraw Tryd.prog 48 TT M_graph_Props (O_graph_Props n)) 0 (lbody 1000 C_graph_Props 0) T_graph_Props_s0 X_graph_Props_s0 R_graph_Props_s0 ⟨[], [], []⟩ rec kx kr s = graph_Props_s0 n rec kx kr s := by kernel_rfl
noncomputable def L_graph_Props {ρ : Type} (n : Nat) : LOrc ρ := lorcCons 0 (loopL 48 0 n T_graph_Props_s0 X_graph_Props_s0 R_graph_Props_s0 ⟨[], [], []⟩ (graph_Props_s0 n)) (lorcNil)
omit [Tabs] [UTabs] in
theorem e_graph_Props (n : Nat) (x) : evF Tryd.prog 48 TT M_graph_Props F_graph_Props (O_graph_Props n) (L_graph_Props n) (evDraw Tryd.prog 48 TT M_graph_Props (O_graph_Props n)) ⟨[], [], []⟩ [.tmp 2] C_graph_Props x = graph_Props n x := by kernel_rfl
theorem ok_graph_Props (n : Nat) : Contract Tryd.prog 118 F_graph_Props (graph_Props n) :=
  Contract.of_ev (c := C_graph_Props) (N := 48) Tryd.func118 (by kernel_rfl) (by kernel_rfl) (by kernel_rfl) (by kernel_rfl) (O_graph_Props_ok n) (evDraw_ok (O_graph_Props_ok n) (by kernel_rfl)) (.of (l := [(0, (lbody 1000 C_graph_Props 0))]) (by kernel_rfl) ⟨.head (loopL_sound (O_graph_Props_ok n) (evDraw_ok (O_graph_Props_ok n) (by kernel_rfl)) (.of (l := []) (by kernel_rfl) trivial) (s_graph_Props_s0 n)), trivial⟩) (e_graph_Props n)

noncomputable def F_cmp_Or_api_Errno : FnT := ⟨1, ⟨[], [(0, (.lst .i64))], []⟩, [.v .i64], []⟩
noncomputable def C_cmp_Or_api_Errno : Code := bodyOf Tryd.f116
noncomputable def M_cmp_Or_api_Errno : List (Nat × ArgM) := []
noncomputable def O_cmp_Or_api_Errno {ρ : Type} (n : Nat) : Orc ρ := orcNil
omit [UTabs] in
theorem O_cmp_Or_api_Errno_ok {ρ : Type} (n : Nat) : (O_cmp_Or_api_Errno n : Orc ρ).ok Tryd.prog := orcNil_ok
noncomputable def T_cmp_Or_api_Errno_s0 : Tm := ⟨[], [(3, .i64), (6, (.lst .i64)), (7, .i64), (8, .i64)], []⟩
noncomputable def X_cmp_Or_api_Errno_s0 : Tm := ⟨[], [(3, .i64)], []⟩
noncomputable def R_cmp_Or_api_Errno_s0 : Tm := ⟨[], [(2, .i64)], []⟩
noncomputable def L_cmp_Or_api_Errno_s0 {ρ : Type} (n : Nat) : LOrc ρ := lorcNil
omit [Tabs] [UTabs] in
theorem s_cmp_Or_api_Errno_s0 {ρ : Type} (n : Nat) (rec : T_cmp_Or_api_Errno_s0.den → Option ρ) kx kr s : dStep Tryd.prog 18 TT M_cmp_Or_api_Errno (O_cmp_Or_api_Errno n) (L_cmp_Or_api_Errno_s0 n) dorcNil 0 (lbody 1000 C_cmp_Or_api_Errno 0) T_cmp_Or_api_Errno_s0 X_cmp_Or_api_Errno_s0 R_cmp_Or_api_Errno_s0 ⟨[], [], []⟩ rec kx kr s = cmp_Or_api_Errno_s0 n rec kx kr s := by kernel_rfl
noncomputable def L_cmp_Or_api_Errno {ρ : Type} (n : Nat) : LOrc ρ := lorcCons 0 (loopL 18 0 n T_cmp_Or_api_Errno_s0 X_cmp_Or_api_Errno_s0 R_cmp_Or_api_Errno_s0 ⟨[], [], []⟩ (cmp_Or_api_Errno_s0 n)) (lorcNil)
omit [Tabs] [UTabs] in
theorem e_cmp_Or_api_Errno (n : Nat) (x) : evF Tryd.prog 18 TT M_cmp_Or_api_Errno F_cmp_Or_api_Errno (O_cmp_Or_api_Errno n) (L_cmp_Or_api_Errno n) dorcNil ⟨[], [], []⟩ [.tmp 2] C_cmp_Or_api_Errno x = cmp_Or_api_Errno n x := by kernel_rfl
omit [UTabs] in
theorem ok_cmp_Or_api_Errno (n : Nat) : Contract Tryd.prog 116 F_cmp_Or_api_Errno (cmp_Or_api_Errno n) :=
  Contract.of_ev (c := C_cmp_Or_api_Errno) (N := 18) Tryd.func116 (by kernel_rfl) (by kernel_rfl) (by kernel_rfl) (by kernel_rfl) (O_cmp_Or_api_Errno_ok n) dorcNil_ok (.of (l := [(0, (lbody 1000 C_cmp_Or_api_Errno 0))]) (by kernel_rfl) ⟨.head (loopL_sound (O_cmp_Or_api_Errno_ok n) dorcNil_ok (.of (l := []) (by kernel_rfl) trivial) (s_cmp_Or_api_Errno_s0 n)), trivial⟩) (e_cmp_Or_api_Errno n)

noncomputable def F_graph_Find : FnT := ⟨2, ⟨[], [(0, .graph), (1, .i64)], []⟩, [.v .i64], []⟩
noncomputable def F_slices_BinarySearchFunc_api_Node_api_Node_int_graph_Find_1 : FnT := ⟨3, ⟨[(2, .fn 123)], [(0, (.lst .node)), (1, .i64)], []⟩, [.v .i64, .v .bool], []⟩
noncomputable def F_graph_Find_1 : FnT := ⟨2, ⟨[], [(0, .node), (1, .i64)], []⟩, [.v .i64], []⟩
noncomputable def F_cmp_Compare_int : FnT := ⟨2, ⟨[], [(0, .i64), (1, .i64)], []⟩, [.v .i64], []⟩
noncomputable def F_cmp_isNaN_int : FnT := ⟨1, ⟨[], [(0, .i64)], []⟩, [.v .bool], []⟩
noncomputable def C_cmp_isNaN_int : Code := bodyOf Tryd.f168
noncomputable def M_cmp_isNaN_int : List (Nat × ArgM) := []
noncomputable def O_cmp_isNaN_int {ρ : Type} : Orc ρ := orcNil
omit [UTabs] in
theorem O_cmp_isNaN_int_ok {ρ : Type} : (O_cmp_isNaN_int : Orc ρ).ok Tryd.prog := orcNil_ok
noncomputable def L_cmp_isNaN_int {ρ : Type} : LOrc ρ := lorcNil
omit [Tabs] [UTabs] in
theorem e_cmp_isNaN_int (x) : evF Tryd.prog 6 TT M_cmp_isNaN_int F_cmp_isNaN_int (O_cmp_isNaN_int) (L_cmp_isNaN_int) dorcNil ⟨[], [], []⟩ [.tmp 2] C_cmp_isNaN_int x = cmp_isNaN_int x := by kernel_rfl
omit [UTabs] in
theorem ok_cmp_isNaN_int : Contract Tryd.prog 168 F_cmp_isNaN_int (cmp_isNaN_int) :=
  Contract.of_ev (c := C_cmp_isNaN_int) (N := 6) Tryd.func168 (by kernel_rfl) (by kernel_rfl) (by kernel_rfl) (by kernel_rfl) (O_cmp_isNaN_int_ok) dorcNil_ok (.of (l := []) (by kernel_rfl) trivial) (e_cmp_isNaN_int)

noncomputable def C_cmp_Compare_int : Code := bodyOf Tryd.f124
noncomputable def M_cmp_Compare_int : List (Nat × ArgM) := [(168, ⟨[], [], [], true⟩)]
noncomputable def O_cmp_Compare_int {ρ : Type} : Orc ρ := orcCons 168 F_cmp_isNaN_int (cmp_isNaN_int) (orcNil)
omit [UTabs] in
theorem O_cmp_Compare_int_ok {ρ : Type} : (O_cmp_Compare_int : Orc ρ).ok Tryd.prog := orcCons_ok (by kernel_rfl) (ok_cmp_isNaN_int) (orcNil_ok)
noncomputable def L_cmp_Compare_int {ρ : Type} : LOrc ρ := lorcNil
omit [Tabs] [UTabs] in
theorem e_cmp_Compare_int (x) : evF Tryd.prog 20 TT M_cmp_Compare_int F_cmp_Compare_int (O_cmp_Compare_int) (L_cmp_Compare_int) dorcNil ⟨[], [], []⟩ [.tmp 4] C_cmp_Compare_int x = cmp_Compare_int x := by kernel_rfl
omit [UTabs] in
theorem ok_cmp_Compare_int : Contract Tryd.prog 124 F_cmp_Compare_int (cmp_Compare_int) :=
  Contract.of_ev (c := C_cmp_Compare_int) (N := 20) Tryd.func124 (by kernel_rfl) (by kernel_rfl) (by kernel_rfl) (by kernel_rfl) (O_cmp_Compare_int_ok) dorcNil_ok (.of (l := []) (by kernel_rfl) trivial) (e_cmp_Compare_int)

noncomputable def C_graph_Find_1 : Code := bodyOf Tryd.f123
noncomputable def M_graph_Find_1 : List (Nat × ArgM) := [(124, ⟨[], [], [], true⟩)]
noncomputable def O_graph_Find_1 {ρ : Type} : Orc ρ := orcCons 124 F_cmp_Compare_int (cmp_Compare_int) (orcNil)
omit [UTabs] in
theorem O_graph_Find_1_ok {ρ : Type} : (O_graph_Find_1 : Orc ρ).ok Tryd.prog := orcCons_ok (by kernel_rfl) (ok_cmp_Compare_int) (orcNil_ok)
noncomputable def L_graph_Find_1 {ρ : Type} : LOrc ρ := lorcNil
omit [Tabs] [UTabs] in
theorem e_graph_Find_1 (x) : evF Tryd.prog 9 TT M_graph_Find_1 F_graph_Find_1 (O_graph_Find_1) (L_graph_Find_1) dorcNil ⟨[], [], []⟩ [.tmp 4] C_graph_Find_1 x = graph_Find_1 x := by kernel_rfl
omit [UTabs] in
theorem ok_graph_Find_1 : Contract Tryd.prog 123 F_graph_Find_1 (graph_Find_1) :=
  Contract.of_ev (c := C_graph_Find_1) (N := 9) Tryd.func123 (by kernel_rfl) (by kernel_rfl) (by kernel_rfl) (by kernel_rfl) (O_graph_Find_1_ok) dorcNil_ok (.of (l := []) (by kernel_rfl) trivial) (e_graph_Find_1)

noncomputable def C_slices_BinarySearchFunc_api_Node_api_Node_int_graph_Find_1 : Code := bodyOf Tryd.f122
noncomputable def M_slices_BinarySearchFunc_api_Node_api_Node_int_graph_Find_1 : List (Nat × ArgM) := [(123, ⟨[], [], [], true⟩)]
noncomputable def O_slices_BinarySearchFunc_api_Node_api_Node_int_graph_Find_1 {ρ : Type} (n : Nat) : Orc ρ := orcCons 123 F_graph_Find_1 (graph_Find_1) (orcNil)
omit [UTabs] in
theorem O_slices_BinarySearchFunc_api_Node_api_Node_int_graph_Find_1_ok {ρ : Type} (n : Nat) : (O_slices_BinarySearchFunc_api_Node_api_Node_int_graph_Find_1 n : Orc ρ).ok Tryd.prog := orcCons_ok (by kernel_rfl) (ok_graph_Find_1) (orcNil_ok)
noncomputable def T_slices_BinarySearchFunc_api_Node_api_Node_int_graph_Find_1_s0 : Tm := ⟨[(2, .fn 123)], [(0, (.lst .node)), (1, .i64), (8, .i64), (9, .i64), (10, .i64)], []⟩
noncomputable def X_slices_BinarySearchFunc_api_Node_api_Node_int_graph_Find_1_s0 : Tm := ⟨[(2, .fn 123)], [(0, (.lst .node)), (1, .i64), (8, .i64), (9, .i64)], []⟩
noncomputable def R_slices_BinarySearchFunc_api_Node_api_Node_int_graph_Find_1_s0 : Tm := ⟨[], [], []⟩
noncomputable def L_slices_BinarySearchFunc_api_Node_api_Node_int_graph_Find_1_s0 {ρ : Type} (n : Nat) : LOrc ρ := lorcNil
omit [Tabs] [UTabs] in
theorem s_slices_BinarySearchFunc_api_Node_api_Node_int_graph_Find_1_s0 {ρ : Type} (n : Nat) (rec : T_slices_BinarySearchFunc_api_Node_api_Node_int_graph_Find_1_s0.den → Option ρ) kx kr s : dStep Tryd.prog 49 TT M_slices_BinarySearchFunc_api_Node_api_Node_int_graph_Find_1 (O_slices_BinarySearchFunc_api_Node_api_Node_int_graph_Find_1 n) (L_slices_BinarySearchFunc_api_Node_api_Node_int_graph_Find_1_s0 n) dorcNil 0 (lbody 1000 C_slices_BinarySearchFunc_api_Node_api_Node_int_graph_Find_1 0) T_slices_BinarySearchFunc_api_Node_api_Node_int_graph_Find_1_s0 X_slices_BinarySearchFunc_api_Node_api_Node_int_graph_Find_1_s0 R_slices_BinarySearchFunc_api_Node_api_Node_int_graph_Find_1_s0 ⟨[], [], []⟩ rec kx kr s = slices_BinarySearchFunc_api_Node_api_Node_int_graph_Find_1_s0 n rec kx kr s := by kernel_rfl
noncomputable def L_slices_BinarySearchFunc_api_Node_api_Node_int_graph_Find_1 {ρ : Type} (n : Nat) : LOrc ρ := lorcCons 0 (loopL 49 0 n T_slices_BinarySearchFunc_api_Node_api_Node_int_graph_Find_1_s0 X_slices_BinarySearchFunc_api_Node_api_Node_int_graph_Find_1_s0 R_slices_BinarySearchFunc_api_Node_api_Node_int_graph_Find_1_s0 ⟨[], [], []⟩ (slices_BinarySearchFunc_api_Node_api_Node_int_graph_Find_1_s0 n)) (lorcNil)
omit [Tabs] [UTabs] in
theorem e_slices_BinarySearchFunc_api_Node_api_Node_int_graph_Find_1 (n : Nat) (x) : evF Tryd.prog 49 TT M_slices_BinarySearchFunc_api_Node_api_Node_int_graph_Find_1 F_slices_BinarySearchFunc_api_Node_api_Node_int_graph_Find_1 (O_slices_BinarySearchFunc_api_Node_api_Node_int_graph_Find_1 n) (L_slices_BinarySearchFunc_api_Node_api_Node_int_graph_Find_1 n) dorcNil ⟨[], [], []⟩ [.tmp 6, .tmp 7] C_slices_BinarySearchFunc_api_Node_api_Node_int_graph_Find_1 x = slices_BinarySearchFunc_api_Node_api_Node_int_graph_Find_1 n x := by kernel_rfl
omit [UTabs] in
theorem ok_slices_BinarySearchFunc_api_Node_api_Node_int_graph_Find_1 (n : Nat) : Contract Tryd.prog 122 F_slices_BinarySearchFunc_api_Node_api_Node_int_graph_Find_1 (slices_BinarySearchFunc_api_Node_api_Node_int_graph_Find_1 n) :=
  Contract.of_ev (c := C_slices_BinarySearchFunc_api_Node_api_Node_int_graph_Find_1) (N := 49) Tryd.func122 (by kernel_rfl) (by kernel_rfl) (by kernel_rfl) (by kernel_rfl) (O_slices_BinarySearchFunc_api_Node_api_Node_int_graph_Find_1_ok n) dorcNil_ok (.of (l := [(0, (lbody 1000 C_slices_BinarySearchFunc_api_Node_api_Node_int_graph_Find_1 0))]) (by kernel_rfl) ⟨.head (loopL_sound (O_slices_BinarySearchFunc_api_Node_api_Node_int_graph_Find_1_ok n) dorcNil_ok (.of (l := []) (by kernel_rfl) trivial) (s_slices_BinarySearchFunc_api_Node_api_Node_int_graph_Find_1_s0 n)), trivial⟩) (e_slices_BinarySearchFunc_api_Node_api_Node_int_graph_Find_1 n)

noncomputable def C_graph_Find : Code := bodyOf Tryd.f63
noncomputable def M_graph_Find : List (Nat × ArgM) := [(122, ⟨[], [], [], true⟩)]
noncomputable def O_graph_Find {ρ : Type} (n : Nat) : Orc ρ := orcCons 122 F_slices_BinarySearchFunc_api_Node_api_Node_int_graph_Find_1 (slices_BinarySearchFunc_api_Node_api_Node_int_graph_Find_1 n) (orcNil)
omit [UTabs] in
theorem O_graph_Find_ok {ρ : Type} (n : Nat) : (O_graph_Find n : Orc ρ).ok Tryd.prog := orcCons_ok (by kernel_rfl) (ok_slices_BinarySearchFunc_api_Node_api_Node_int_graph_Find_1 n) (orcNil_ok)
noncomputable def L_graph_Find {ρ : Type} (n : Nat) : LOrc ρ := lorcNil
omit [Tabs] [UTabs] in
theorem e_graph_Find (n : Nat) (x) : evF Tryd.prog 17 TT M_graph_Find F_graph_Find (O_graph_Find n) (L_graph_Find n) dorcNil ⟨[], [], []⟩ [.tmp 4] C_graph_Find x = graph_Find n x := by kernel_rfl
omit [UTabs] in
theorem ok_graph_Find (n : Nat) : Contract Tryd.prog 63 F_graph_Find (graph_Find n) :=
  Contract.of_ev (c := C_graph_Find) (N := 17) Tryd.func63 (by kernel_rfl) (by kernel_rfl) (by kernel_rfl) (by kernel_rfl) (O_graph_Find_ok n) dorcNil_ok (.of (l := []) (by kernel_rfl) trivial) (e_graph_Find n)

noncomputable def C_graph_Check : Code := bodyOf Tryd.f58
noncomputable def M_graph_Check : List (Nat × ArgM) := [(117, ⟨[], [], [], true⟩), (118, ⟨[], [], [], true⟩), (116, ⟨[], [], [], true⟩), (63, ⟨[], [], [], true⟩), (67, ⟨[], [], [], true⟩)]
noncomputable def O_graph_Check {ρ : Type} (n : Nat) : Orc ρ := orcCons 117 F_graph_Labels (graph_Labels n) (orcCons 118 F_graph_Props (graph_Props n) (orcCons 116 F_cmp_Or_api_Errno (cmp_Or_api_Errno n) (orcCons 63 F_graph_Find (graph_Find n) (orcCons 67 F_graph_Name (graph_Name n) (orcNil)))))
theorem O_graph_Check_ok {ρ : Type} (n : Nat) : (O_graph_Check n : Orc ρ).ok Tryd.prog := orcCons_ok (by kernel_rfl) (ok_graph_Labels n) (orcCons_ok (by kernel_rfl) (ok_graph_Props n) (orcCons_ok (by kernel_rfl) (ok_cmp_Or_api_Errno n) (orcCons_ok (by kernel_rfl) (ok_graph_Find n) (orcCons_ok (by kernel_rfl) (ok_graph_Name n) (orcNil_ok)))))
noncomputable def T_graph_Check_s0 : Tm := ⟨[(1, .ptr 1 0)], [(3, .i64), (22, (.lst .node)), (23, .i64), (24, .i64)], [(1, .box [.d .graph])]⟩
noncomputable def X_graph_Check_s0 : Tm := ⟨[(1, .ptr 1 0)], [(3, .i64)], [(1, .box [.d .graph])]⟩
noncomputable def R_graph_Check_s0 : Tm := ⟨[], [(2, .i64)], []⟩
noncomputable def L_graph_Check_s0 {ρ : Type} (n : Nat) : LOrc ρ := lorcNil
omit [Tabs] [UTabs] in
theorem s_graph_Check_s0 {ρ : Type} (n : Nat) (rec : T_graph_Check_s0.den → Option ρ) kx kr s : dStep Tryd.prog 103 TT M_graph_Check (O_graph_Check n) (L_graph_Check_s0 n) (evDraw Tryd.prog 103 TT M_graph_Check (O_graph_Check n)) 0 (lbody 1000 C_graph_Check 0) T_graph_Check_s0 X_graph_Check_s0 R_graph_Check_s0 ⟨[], [], []⟩ rec kx kr s = graph_Check_s0 n rec kx kr s := by kernel_rfl
noncomputable def T_graph_Check_s2 : Tm := ⟨[(1, .ptr 1 0)], [(3, .i64), (7, .i64), (48, (.lst .edg)), (49, .i64), (50, .i64)], [(1, .box [.d .graph])]⟩
noncomputable def X_graph_Check_s2 : Tm := ⟨[(1, .ptr 1 0)], [(3, .i64), (7, .i64)], [(1, .box [.d .graph])]⟩
noncomputable def R_graph_Check_s2 : Tm := ⟨[], [(2, .i64)], []⟩
noncomputable def L_graph_Check_s2 {ρ : Type} (n : Nat) : LOrc ρ := lorcNil
omit [Tabs] [UTabs] in
theorem s_graph_Check_s2 {ρ : Type} (n : Nat) (rec : T_graph_Check_s2.den → Option ρ) kx kr s : dStep Tryd.prog 103 TT M_graph_Check (O_graph_Check n) (L_graph_Check_s2 n) (evDraw Tryd.prog 103 TT M_graph_Check (O_graph_Check n)) 2 (lbody 1000 C_graph_Check 1) T_graph_Check_s2 X_graph_Check_s2 R_graph_Check_s2 ⟨[], [], []⟩ rec kx kr s = graph_Check_s2 n rec kx kr s := by kernel_rfl
noncomputable def L_graph_Check {ρ : Type} (n : Nat) : LOrc ρ := lorcCons 0 (loopL 103 0 n T_graph_Check_s0 X_graph_Check_s0 R_graph_Check_s0 ⟨[], [], []⟩ (graph_Check_s0 n)) (lorcCons 2 (loopL 103 2 n T_graph_Check_s2 X_graph_Check_s2 R_graph_Check_s2 ⟨[], [], []⟩ (graph_Check_s2 n)) (lorcNil))
omit [Tabs] [UTabs] in
theorem e_graph_Check (n : Nat) (x) : evF Tryd.prog 103 TT M_graph_Check F_graph_Check (O_graph_Check n) (L_graph_Check n) (evDraw Tryd.prog 103 TT M_graph_Check (O_graph_Check n)) ⟨[], [], []⟩ [.tmp 2] C_graph_Check x = graph_Check n x := by kernel_rfl
theorem ok_graph_Check (n : Nat) : Contract Tryd.prog 58 F_graph_Check (graph_Check n) :=
  Contract.of_ev (c := C_graph_Check) (N := 103) Tryd.func58 (by kernel_rfl) (by kernel_rfl) (by kernel_rfl) (by kernel_rfl) (O_graph_Check_ok n) (evDraw_ok (O_graph_Check_ok n) (by kernel_rfl)) (.of (l := [(0, (lbody 1000 C_graph_Check 0)), (2, (lbody 1000 C_graph_Check 1))]) (by kernel_rfl) ⟨.head (loopL_sound (O_graph_Check_ok n) (evDraw_ok (O_graph_Check_ok n) (by kernel_rfl)) (.of (l := []) (by kernel_rfl) trivial) (s_graph_Check_s0 n)), ⟨.tail rfl (.head (loopL_sound (O_graph_Check_ok n) (evDraw_ok (O_graph_Check_ok n) (by kernel_rfl)) (.of (l := []) (by kernel_rfl) trivial) (s_graph_Check_s2 n))), trivial⟩⟩) (e_graph_Check n)

noncomputable def F_slices_Contains_string_string : FnT := ⟨2, ⟨[], [(0, (.lst .str)), (1, .str)], []⟩, [.v .bool], []⟩
noncomputable def F_slices_Index_string_string : FnT := ⟨2, ⟨[], [(0, (.lst .str)), (1, .str)], []⟩, [.v .i64], []⟩
noncomputable def C_slices_Index_string_string : Code := bodyOf Tryd.f80
noncomputable def M_slices_Index_string_string : List (Nat × ArgM) := []
noncomputable def O_slices_Index_string_string {ρ : Type} (n : Nat) : Orc ρ := orcNil
omit [UTabs] in
theorem O_slices_Index_string_string_ok {ρ : Type} (n : Nat) : (O_slices_Index_string_string n : Orc ρ).ok Tryd.prog := orcNil_ok
noncomputable def T_slices_Index_string_string_s0 : Tm := ⟨[], [(0, (.lst .str)), (1, .str), (7, .i64), (8, .i64)], []⟩
noncomputable def X_slices_Index_string_string_s0 : Tm := ⟨[], [], []⟩
noncomputable def R_slices_Index_string_string_s0 : Tm := ⟨[], [(4, .i64)], []⟩
noncomputable def L_slices_Index_string_string_s0 {ρ : Type} (n : Nat) : LOrc ρ := lorcNil
omit [Tabs] [UTabs] in
theorem s_slices_Index_string_string_s0 {ρ : Type} (n : Nat) (rec : T_slices_Index_string_string_s0.den → Option ρ) kx kr s : dStep Tryd.prog 19 TT M_slices_Index_string_string (O_slices_Index_string_string n) (L_slices_Index_string_string_s0 n) dorcNil 0 (lbody 1000 C_slices_Index_string_string 0) T_slices_Index_string_string_s0 X_slices_Index_string_string_s0 R_slices_Index_string_string_s0 ⟨[], [], []⟩ rec kx kr s = slices_Index_string_string_s0 n rec kx kr s := by kernel_rfl
noncomputable def L_slices_Index_string_string {ρ : Type} (n : Nat) : LOrc ρ := lorcCons 0 (loopL 19 0 n T_slices_Index_string_string_s0 X_slices_Index_string_string_s0 R_slices_Index_string_string_s0 ⟨[], [], []⟩ (slices_Index_string_string_s0 n)) (lorcNil)
omit [Tabs] [UTabs] in
theorem e_slices_Index_string_string (n : Nat) (x) : evF Tryd.prog 19 TT M_slices_Index_string_string F_slices_Index_string_string (O_slices_Index_string_string n) (L_slices_Index_string_string n) dorcNil ⟨[], [], []⟩ [.tmp 4] C_slices_Index_string_string x = slices_Index_string_string n x := by kernel_rfl
omit [UTabs] in
theorem ok_slices_Index_string_string (n : Nat) : Contract Tryd.prog 80 F_slices_Index_string_string (slices_Index_string_string n) :=
  Contract.of_ev (c := C_slices_Index_string_string) (N := 19) Tryd.func80 (by kernel_rfl) (by kernel_rfl) (by kernel_rfl) (by kernel_rfl) (O_slices_Index_string_string_ok n) dorcNil_ok (.of (l := [(0, (lbody 1000 C_slices_Index_string_string 0))]) (by kernel_rfl) ⟨.head (loopL_sound (O_slices_Index_string_string_ok n) dorcNil_ok (.of (l := []) (by kernel_rfl) trivial) (s_slices_Index_string_string_s0 n)), trivial⟩) (e_slices_Index_string_string n)

noncomputable def C_slices_Contains_string_string : Code := bodyOf Tryd.f28
noncomputable def M_slices_Contains_string_string : List (Nat × ArgM) := [(80, ⟨[], [], [], true⟩)]
noncomputable def O_slices_Contains_string_string {ρ : Type} (n : Nat) : Orc ρ := orcCons 80 F_slices_Index_string_string (slices_Index_string_string n) (orcNil)
omit [UTabs] in
theorem O_slices_Contains_string_string_ok {ρ : Type} (n : Nat) : (O_slices_Contains_string_string n : Orc ρ).ok Tryd.prog := orcCons_ok (by kernel_rfl) (ok_slices_Index_string_string n) (orcNil_ok)
noncomputable def L_slices_Contains_string_string {ρ : Type} (n : Nat) : LOrc ρ := lorcNil
omit [Tabs] [UTabs] in
theorem e_slices_Contains_string_string (n : Nat) (x) : evF Tryd.prog 9 TT M_slices_Contains_string_string F_slices_Contains_string_string (O_slices_Contains_string_string n) (L_slices_Contains_string_string n) dorcNil ⟨[], [], []⟩ [.tmp 4] C_slices_Contains_string_string x = slices_Contains_string_string n x := by kernel_rfl
omit [UTabs] in
theorem ok_slices_Contains_string_string (n : Nat) : Contract Tryd.prog 28 F_slices_Contains_string_string (slices_Contains_string_string n) :=
  Contract.of_ev (c := C_slices_Contains_string_string) (N := 9) Tryd.func28 (by kernel_rfl) (by kernel_rfl) (by kernel_rfl) (by kernel_rfl) (O_slices_Contains_string_string_ok n) dorcNil_ok (.of (l := []) (by kernel_rfl) trivial) (e_slices_Contains_string_string n)

noncomputable def C_graph_Labelled : Code := bodyOf Tryd.f40
noncomputable def M_graph_Labelled : List (Nat × ArgM) := [(58, ⟨[], [], [], true⟩), (28, ⟨[], [], [], true⟩)]
noncomputable def O_graph_Labelled {ρ : Type} (n : Nat) : Orc ρ := orcCons 58 F_graph_Check (graph_Check n) (orcCons 28 F_slices_Contains_string_string (slices_Contains_string_string n) (orcNil))
theorem O_graph_Labelled_ok {ρ : Type} (n : Nat) : (O_graph_Labelled n : Orc ρ).ok Tryd.prog := orcCons_ok (by kernel_rfl) (ok_graph_Check n) (orcCons_ok (by kernel_rfl) (ok_slices_Contains_string_string n) (orcNil_ok))
noncomputable def T_graph_Labelled_s0 : Tm := ⟨[(7, .own 7)], [(1, .str), (16, (.lst .node)), (17, .i64), (18, .i64)], [(7, .arr 3 .i64)]⟩
noncomputable def X_graph_Labelled_s0 : Tm := ⟨[(7, .own 7)], [], [(7, .arr 3 .i64)]⟩
noncomputable def R_graph_Labelled_s0 : Tm := ⟨[], [], []⟩
noncomputable def L_graph_Labelled_s0 {ρ : Type} (n : Nat) : LOrc ρ := lorcNil
omit [Tabs] [UTabs] in
theorem s_graph_Labelled_s0 {ρ : Type} (n : Nat) (rec : T_graph_Labelled_s0.den → Option ρ) kx kr s : dStep Tryd.prog 37 TT M_graph_Labelled (O_graph_Labelled n) (L_graph_Labelled_s0 n) dorcNil 0 (lbody 1000 C_graph_Labelled 0) T_graph_Labelled_s0 X_graph_Labelled_s0 R_graph_Labelled_s0 ⟨[], [(7, 7, 3, 1)], []⟩ rec kx kr s = graph_Labelled_s0 n rec kx kr s := by kernel_rfl
noncomputable def L_graph_Labelled {ρ : Type} (n : Nat) : LOrc ρ := lorcCons 0 (loopL 37 0 n T_graph_Labelled_s0 X_graph_Labelled_s0 R_graph_Labelled_s0 ⟨[], [(7, 7, 3, 1)], []⟩ (graph_Labelled_s0 n)) (lorcNil)
omit [Tabs] [UTabs] in
theorem e_graph_Labelled (n : Nat) (x) : evF Tryd.prog 37 TT M_graph_Labelled F_graph_Labelled (O_graph_Labelled n) (L_graph_Labelled n) dorcNil ⟨[], [], []⟩ [.tmp 4, .tmp 5] C_graph_Labelled x = graph_Labelled n x := by kernel_rfl
theorem ok_graph_Labelled (n : Nat) : Contract Tryd.prog 40 F_graph_Labelled (graph_Labelled n) :=
  Contract.of_ev (c := C_graph_Labelled) (N := 37) Tryd.func40 (by kernel_rfl) (by kernel_rfl) (by kernel_rfl) (by kernel_rfl) (O_graph_Labelled_ok n) dorcNil_ok (.of (l := [(0, (lbody 1000 C_graph_Labelled 0))]) (by kernel_rfl) ⟨.head (loopL_sound (O_graph_Labelled_ok n) dorcNil_ok (.of (l := []) (by kernel_rfl) trivial) (s_graph_Labelled_s0 n)), trivial⟩) (e_graph_Labelled n)

noncomputable def F_espalierlaw_drawn : FnT := ⟨0, ⟨[], [], []⟩, [.v .bool], []⟩
noncomputable def F_espalierlaw_knows : FnT := ⟨0, ⟨[], [], []⟩, [.v .graph], []⟩
noncomputable def F_espalierlaw_num : FnT := ⟨1, ⟨[], [(0, .i64)], []⟩, [.v .val], []⟩
noncomputable def C_espalierlaw_num : Code := bodyOf Tryd.f56
noncomputable def M_espalierlaw_num : List (Nat × ArgM) := []
noncomputable def O_espalierlaw_num {ρ : Type} : Orc ρ := orcNil
omit [UTabs] in
theorem O_espalierlaw_num_ok {ρ : Type} : (O_espalierlaw_num : Orc ρ).ok Tryd.prog := orcNil_ok
noncomputable def L_espalierlaw_num {ρ : Type} : LOrc ρ := lorcNil
omit [Tabs] [UTabs] in
theorem e_espalierlaw_num (x) : evF Tryd.prog 5 TT M_espalierlaw_num F_espalierlaw_num (O_espalierlaw_num) (L_espalierlaw_num) dorcNil ⟨[], [], []⟩ [.cell 2 39] C_espalierlaw_num x = espalierlaw_num x := by kernel_rfl
omit [UTabs] in
theorem ok_espalierlaw_num : Contract Tryd.prog 56 F_espalierlaw_num (espalierlaw_num) :=
  Contract.of_ev (c := C_espalierlaw_num) (N := 5) Tryd.func56 (by kernel_rfl) (by kernel_rfl) (by kernel_rfl) (by kernel_rfl) (O_espalierlaw_num_ok) dorcNil_ok (.of (l := []) (by kernel_rfl) trivial) (e_espalierlaw_num)

noncomputable def C_espalierlaw_knows : Code := bodyOf Tryd.f90
noncomputable def M_espalierlaw_knows : List (Nat × ArgM) := []
noncomputable def O_espalierlaw_knows {ρ : Type} : Orc ρ := orcCons 56 F_espalierlaw_num (espalierlaw_num) (orcNil)
omit [UTabs] in
theorem O_espalierlaw_knows_ok {ρ : Type} : (O_espalierlaw_knows : Orc ρ).ok Tryd.prog := orcCons_ok (by kernel_rfl) (ok_espalierlaw_num) (orcNil_ok)
noncomputable def L_espalierlaw_knows {ρ : Type} : LOrc ρ := lorcNil
omit [Tabs] [UTabs] in
theorem e_espalierlaw_knows (x) : evF Tryd.prog 11 TT M_espalierlaw_knows F_espalierlaw_knows (O_espalierlaw_knows) (L_espalierlaw_knows) dorcNil ⟨[], [], []⟩ [.cell 0 26] C_espalierlaw_knows x = espalierlaw_knows x := by kernel_rfl
omit [UTabs] in
theorem ok_espalierlaw_knows : Contract Tryd.prog 90 F_espalierlaw_knows (espalierlaw_knows) :=
  Contract.of_ev (c := C_espalierlaw_knows) (N := 11) Tryd.func90 (by kernel_rfl) (by kernel_rfl) (by kernel_rfl) (by kernel_rfl) (O_espalierlaw_knows_ok) dorcNil_ok (.of (l := []) (by kernel_rfl) trivial) (e_espalierlaw_knows)

noncomputable def F_graph_Prop : FnT := ⟨3, ⟨[], [(0, .graph), (1, .i64), (2, .str)], []⟩, [.v .val, .v .i64], []⟩
noncomputable def F_graph_Get : FnT := ⟨2, ⟨[], [(0, (.lst .prp)), (1, .str)], []⟩, [.v .val], []⟩
noncomputable def F_value_Copy : FnT := ⟨1, ⟨[], [(0, .val)], []⟩, [.v .val], []⟩
noncomputable def C_value_Copy : Code := bodyOf Tryd.f159
noncomputable def M_value_Copy : List (Nat × ArgM) := []
noncomputable def O_value_Copy {ρ : Type} (self_value_Copy : Ev.Val × Unit → Option (Ev.Val × Unit)) (n : Nat) : Orc ρ := orcCons 159 F_value_Copy (self_value_Copy) (orcNil)
omit [UTabs] in
theorem O_value_Copy_ok {ρ : Type} (self_value_Copy : Ev.Val × Unit → Option (Ev.Val × Unit)) (h_value_Copy : Contract Tryd.prog 159 F_value_Copy self_value_Copy) (n : Nat) : (O_value_Copy self_value_Copy n : Orc ρ).ok Tryd.prog := orcCons_ok (by kernel_rfl) (h_value_Copy) (orcNil_ok)
noncomputable def T_value_Copy_s0 : Tm := ⟨[(1, .ptr 1 0), (2, .ptr 2 0)], [(9, (.lst .val)), (10, .i64), (11, .i64)], [(1, .box [.d .i64, .d .i64, .d .str, .ref (.own 300043)]), (2, .box [.d .val]), (300043, .arr 39 .val)]⟩
noncomputable def X_value_Copy_s0 : Tm := ⟨[(1, .ptr 1 0), (2, .ptr 2 0)], [], [(1, .box [.d .i64, .d .i64, .d .str, .ref (.own 300043)]), (2, .box [.d .val]), (300043, .arr 39 .val)]⟩
noncomputable def R_value_Copy_s0 : Tm := ⟨[], [], []⟩
noncomputable def L_value_Copy_s0 {ρ : Type} (self_value_Copy : Ev.Val × Unit → Option (Ev.Val × Unit)) (n : Nat) : LOrc ρ := lorcNil
omit [Tabs] [UTabs] in
theorem s_value_Copy_s0 {ρ : Type} (self_value_Copy : Ev.Val × Unit → Option (Ev.Val × Unit)) (n : Nat) (rec : T_value_Copy_s0.den → Option ρ) kx kr s : dStep Tryd.prog 24 TT M_value_Copy (O_value_Copy self_value_Copy n) (L_value_Copy_s0 self_value_Copy n) (evDraw Tryd.prog 24 TT M_value_Copy (O_value_Copy self_value_Copy n)) 0 (lbody 1000 C_value_Copy 0) T_value_Copy_s0 X_value_Copy_s0 R_value_Copy_s0 ⟨[], [], [(1, 3, 300043, 39, 4)]⟩ rec kx kr s = value_Copy_s0 self_value_Copy n rec kx kr s := by kernel_rfl
noncomputable def L_value_Copy {ρ : Type} (self_value_Copy : Ev.Val × Unit → Option (Ev.Val × Unit)) (n : Nat) : LOrc ρ := lorcCons 0 (loopL 24 0 n T_value_Copy_s0 X_value_Copy_s0 R_value_Copy_s0 ⟨[], [], [(1, 3, 300043, 39, 4)]⟩ (value_Copy_s0 self_value_Copy n)) (lorcNil)
omit [Tabs] [UTabs] in
theorem e_value_Copy (self_value_Copy : Ev.Val × Unit → Option (Ev.Val × Unit)) (n : Nat) (x) : evF Tryd.prog 24 TT M_value_Copy F_value_Copy (O_value_Copy self_value_Copy n) (L_value_Copy self_value_Copy n) (evDraw Tryd.prog 24 TT M_value_Copy (O_value_Copy self_value_Copy n)) ⟨[], [], []⟩ [.cell 2 39] C_value_Copy x = value_Copy_b self_value_Copy n x := by kernel_rfl
omit [UTabs] in
theorem okb_value_Copy (self_value_Copy : Ev.Val × Unit → Option (Ev.Val × Unit)) (h_value_Copy : Contract Tryd.prog 159 F_value_Copy self_value_Copy) (n : Nat) : Contract Tryd.prog 159 F_value_Copy (value_Copy_b self_value_Copy n) :=
  Contract.of_ev (c := C_value_Copy) (N := 24) Tryd.func159 (by kernel_rfl) (by kernel_rfl) (by kernel_rfl) (by kernel_rfl) (O_value_Copy_ok self_value_Copy h_value_Copy n) (evDraw_ok (O_value_Copy_ok self_value_Copy h_value_Copy n) (by kernel_rfl)) (.of (l := [(0, (lbody 1000 C_value_Copy 0))]) (by kernel_rfl) ⟨.head (loopL_sound (O_value_Copy_ok self_value_Copy h_value_Copy n) (evDraw_ok (O_value_Copy_ok self_value_Copy h_value_Copy n) (by kernel_rfl)) (.of (l := []) (by kernel_rfl) trivial) (s_value_Copy_s0 self_value_Copy n)), trivial⟩) (e_value_Copy self_value_Copy n)
omit [UTabs] in
theorem ok_value_Copy : ∀ n, Contract Tryd.prog 159 F_value_Copy (value_Copy n)
  | 0 => fun _ _ h => by cases h
  | n + 1 => okb_value_Copy _ (ok_value_Copy n) n

noncomputable def C_graph_Get : Code := bodyOf Tryd.f139
noncomputable def M_graph_Get : List (Nat × ArgM) := []
noncomputable def O_graph_Get {ρ : Type} (n : Nat) : Orc ρ := orcCons 159 F_value_Copy (value_Copy n) (orcNil)
omit [UTabs] in
theorem O_graph_Get_ok {ρ : Type} (n : Nat) : (O_graph_Get n : Orc ρ).ok Tryd.prog := orcCons_ok (by kernel_rfl) (ok_value_Copy n) (orcNil_ok)
noncomputable def T_graph_Get_s0 : Tm := ⟨[(4, .ptr 4 0)], [(1, .str), (7, (.lst .prp)), (8, .i64), (9, .i64)], [(4, .box [.d .val])]⟩
noncomputable def X_graph_Get_s0 : Tm := ⟨[(4, .ptr 4 0)], [], [(4, .box [.d .val])]⟩
noncomputable def R_graph_Get_s0 : Tm := ⟨[(4, .ptr 4 0)], [], [(4, .box [.d .val])]⟩
noncomputable def L_graph_Get_s0 {ρ : Type} (n : Nat) : LOrc ρ := lorcNil
omit [Tabs] [UTabs] in
theorem s_graph_Get_s0 {ρ : Type} (n : Nat) (rec : T_graph_Get_s0.den → Option ρ) kx kr s : dStep Tryd.prog 22 TT M_graph_Get (O_graph_Get n) (L_graph_Get_s0 n) dorcNil 0 (lbody 1000 C_graph_Get 0) T_graph_Get_s0 X_graph_Get_s0 R_graph_Get_s0 ⟨[], [], []⟩ rec kx kr s = graph_Get_s0 n rec kx kr s := by kernel_rfl
noncomputable def L_graph_Get {ρ : Type} (n : Nat) : LOrc ρ := lorcCons 0 (loopL 22 0 n T_graph_Get_s0 X_graph_Get_s0 R_graph_Get_s0 ⟨[], [], []⟩ (graph_Get_s0 n)) (lorcNil)
omit [Tabs] [UTabs] in
theorem e_graph_Get (n : Nat) (x) : evF Tryd.prog 22 TT M_graph_Get F_graph_Get (O_graph_Get n) (L_graph_Get n) dorcNil ⟨[], [], []⟩ [.cell 4 39] C_graph_Get x = graph_Get n x := by kernel_rfl
omit [UTabs] in
theorem ok_graph_Get (n : Nat) : Contract Tryd.prog 139 F_graph_Get (graph_Get n) :=
  Contract.of_ev (c := C_graph_Get) (N := 22) Tryd.func139 (by kernel_rfl) (by kernel_rfl) (by kernel_rfl) (by kernel_rfl) (O_graph_Get_ok n) dorcNil_ok (.of (l := [(0, (lbody 1000 C_graph_Get 0))]) (by kernel_rfl) ⟨.head (loopL_sound (O_graph_Get_ok n) dorcNil_ok (.of (l := []) (by kernel_rfl) trivial) (s_graph_Get_s0 n)), trivial⟩) (e_graph_Get n)

noncomputable def F_graph_FindEdge : FnT := ⟨2, ⟨[], [(0, .graph), (1, .i64)], []⟩, [.v .i64], []⟩
noncomputable def F_slices_BinarySearchFunc_api_Edge_api_Edge_int_graph_FindEdge_1 : FnT := ⟨3, ⟨[(2, .fn 131)], [(0, (.lst .edg)), (1, .i64)], []⟩, [.v .i64, .v .bool], []⟩
noncomputable def F_graph_FindEdge_1 : FnT := ⟨2, ⟨[], [(0, .edg), (1, .i64)], []⟩, [.v .i64], []⟩
noncomputable def C_graph_FindEdge_1 : Code := bodyOf Tryd.f131
noncomputable def M_graph_FindEdge_1 : List (Nat × ArgM) := [(124, ⟨[], [], [], true⟩)]
noncomputable def O_graph_FindEdge_1 {ρ : Type} : Orc ρ := orcCons 124 F_cmp_Compare_int (cmp_Compare_int) (orcNil)
omit [UTabs] in
theorem O_graph_FindEdge_1_ok {ρ : Type} : (O_graph_FindEdge_1 : Orc ρ).ok Tryd.prog := orcCons_ok (by kernel_rfl) (ok_cmp_Compare_int) (orcNil_ok)
noncomputable def L_graph_FindEdge_1 {ρ : Type} : LOrc ρ := lorcNil
omit [Tabs] [UTabs] in
theorem e_graph_FindEdge_1 (x) : evF Tryd.prog 9 TT M_graph_FindEdge_1 F_graph_FindEdge_1 (O_graph_FindEdge_1) (L_graph_FindEdge_1) dorcNil ⟨[], [], []⟩ [.tmp 4] C_graph_FindEdge_1 x = graph_FindEdge_1 x := by kernel_rfl
omit [UTabs] in
theorem ok_graph_FindEdge_1 : Contract Tryd.prog 131 F_graph_FindEdge_1 (graph_FindEdge_1) :=
  Contract.of_ev (c := C_graph_FindEdge_1) (N := 9) Tryd.func131 (by kernel_rfl) (by kernel_rfl) (by kernel_rfl) (by kernel_rfl) (O_graph_FindEdge_1_ok) dorcNil_ok (.of (l := []) (by kernel_rfl) trivial) (e_graph_FindEdge_1)

noncomputable def C_slices_BinarySearchFunc_api_Edge_api_Edge_int_graph_FindEdge_1 : Code := bodyOf Tryd.f130
noncomputable def M_slices_BinarySearchFunc_api_Edge_api_Edge_int_graph_FindEdge_1 : List (Nat × ArgM) := [(131, ⟨[], [], [], true⟩)]
noncomputable def O_slices_BinarySearchFunc_api_Edge_api_Edge_int_graph_FindEdge_1 {ρ : Type} (n : Nat) : Orc ρ := orcCons 131 F_graph_FindEdge_1 (graph_FindEdge_1) (orcNil)
omit [UTabs] in
theorem O_slices_BinarySearchFunc_api_Edge_api_Edge_int_graph_FindEdge_1_ok {ρ : Type} (n : Nat) : (O_slices_BinarySearchFunc_api_Edge_api_Edge_int_graph_FindEdge_1 n : Orc ρ).ok Tryd.prog := orcCons_ok (by kernel_rfl) (ok_graph_FindEdge_1) (orcNil_ok)
noncomputable def T_slices_BinarySearchFunc_api_Edge_api_Edge_int_graph_FindEdge_1_s0 : Tm := ⟨[(2, .fn 131)], [(0, (.lst .edg)), (1, .i64), (8, .i64), (9, .i64), (10, .i64)], []⟩
noncomputable def X_slices_BinarySearchFunc_api_Edge_api_Edge_int_graph_FindEdge_1_s0 : Tm := ⟨[(2, .fn 131)], [(0, (.lst .edg)), (1, .i64), (8, .i64), (9, .i64)], []⟩
noncomputable def R_slices_BinarySearchFunc_api_Edge_api_Edge_int_graph_FindEdge_1_s0 : Tm := ⟨[], [], []⟩
noncomputable def L_slices_BinarySearchFunc_api_Edge_api_Edge_int_graph_FindEdge_1_s0 {ρ : Type} (n : Nat) : LOrc ρ := lorcNil
omit [Tabs] [UTabs] in
theorem s_slices_BinarySearchFunc_api_Edge_api_Edge_int_graph_FindEdge_1_s0 {ρ : Type} (n : Nat) (rec : T_slices_BinarySearchFunc_api_Edge_api_Edge_int_graph_FindEdge_1_s0.den → Option ρ) kx kr s : dStep Tryd.prog 49 TT M_slices_BinarySearchFunc_api_Edge_api_Edge_int_graph_FindEdge_1 (O_slices_BinarySearchFunc_api_Edge_api_Edge_int_graph_FindEdge_1 n) (L_slices_BinarySearchFunc_api_Edge_api_Edge_int_graph_FindEdge_1_s0 n) dorcNil 0 (lbody 1000 C_slices_BinarySearchFunc_api_Edge_api_Edge_int_graph_FindEdge_1 0) T_slices_BinarySearchFunc_api_Edge_api_Edge_int_graph_FindEdge_1_s0 X_slices_BinarySearchFunc_api_Edge_api_Edge_int_graph_FindEdge_1_s0 R_slices_BinarySearchFunc_api_Edge_api_Edge_int_graph_FindEdge_1_s0 ⟨[], [], []⟩ rec kx kr s = slices_BinarySearchFunc_api_Edge_api_Edge_int_graph_FindEdge_1_s0 n rec kx kr s := by kernel_rfl
noncomputable def L_slices_BinarySearchFunc_api_Edge_api_Edge_int_graph_FindEdge_1 {ρ : Type} (n : Nat) : LOrc ρ := lorcCons 0 (loopL 49 0 n T_slices_BinarySearchFunc_api_Edge_api_Edge_int_graph_FindEdge_1_s0 X_slices_BinarySearchFunc_api_Edge_api_Edge_int_graph_FindEdge_1_s0 R_slices_BinarySearchFunc_api_Edge_api_Edge_int_graph_FindEdge_1_s0 ⟨[], [], []⟩ (slices_BinarySearchFunc_api_Edge_api_Edge_int_graph_FindEdge_1_s0 n)) (lorcNil)
omit [Tabs] [UTabs] in
theorem e_slices_BinarySearchFunc_api_Edge_api_Edge_int_graph_FindEdge_1 (n : Nat) (x) : evF Tryd.prog 49 TT M_slices_BinarySearchFunc_api_Edge_api_Edge_int_graph_FindEdge_1 F_slices_BinarySearchFunc_api_Edge_api_Edge_int_graph_FindEdge_1 (O_slices_BinarySearchFunc_api_Edge_api_Edge_int_graph_FindEdge_1 n) (L_slices_BinarySearchFunc_api_Edge_api_Edge_int_graph_FindEdge_1 n) dorcNil ⟨[], [], []⟩ [.tmp 6, .tmp 7] C_slices_BinarySearchFunc_api_Edge_api_Edge_int_graph_FindEdge_1 x = slices_BinarySearchFunc_api_Edge_api_Edge_int_graph_FindEdge_1 n x := by kernel_rfl
omit [UTabs] in
theorem ok_slices_BinarySearchFunc_api_Edge_api_Edge_int_graph_FindEdge_1 (n : Nat) : Contract Tryd.prog 130 F_slices_BinarySearchFunc_api_Edge_api_Edge_int_graph_FindEdge_1 (slices_BinarySearchFunc_api_Edge_api_Edge_int_graph_FindEdge_1 n) :=
  Contract.of_ev (c := C_slices_BinarySearchFunc_api_Edge_api_Edge_int_graph_FindEdge_1) (N := 49) Tryd.func130 (by kernel_rfl) (by kernel_rfl) (by kernel_rfl) (by kernel_rfl) (O_slices_BinarySearchFunc_api_Edge_api_Edge_int_graph_FindEdge_1_ok n) dorcNil_ok (.of (l := [(0, (lbody 1000 C_slices_BinarySearchFunc_api_Edge_api_Edge_int_graph_FindEdge_1 0))]) (by kernel_rfl) ⟨.head (loopL_sound (O_slices_BinarySearchFunc_api_Edge_api_Edge_int_graph_FindEdge_1_ok n) dorcNil_ok (.of (l := []) (by kernel_rfl) trivial) (s_slices_BinarySearchFunc_api_Edge_api_Edge_int_graph_FindEdge_1_s0 n)), trivial⟩) (e_slices_BinarySearchFunc_api_Edge_api_Edge_int_graph_FindEdge_1 n)

noncomputable def C_graph_FindEdge : Code := bodyOf Tryd.f77
noncomputable def M_graph_FindEdge : List (Nat × ArgM) := [(130, ⟨[], [], [], true⟩)]
noncomputable def O_graph_FindEdge {ρ : Type} (n : Nat) : Orc ρ := orcCons 130 F_slices_BinarySearchFunc_api_Edge_api_Edge_int_graph_FindEdge_1 (slices_BinarySearchFunc_api_Edge_api_Edge_int_graph_FindEdge_1 n) (orcNil)
omit [UTabs] in
theorem O_graph_FindEdge_ok {ρ : Type} (n : Nat) : (O_graph_FindEdge n : Orc ρ).ok Tryd.prog := orcCons_ok (by kernel_rfl) (ok_slices_BinarySearchFunc_api_Edge_api_Edge_int_graph_FindEdge_1 n) (orcNil_ok)
noncomputable def L_graph_FindEdge {ρ : Type} (n : Nat) : LOrc ρ := lorcNil
omit [Tabs] [UTabs] in
theorem e_graph_FindEdge (n : Nat) (x) : evF Tryd.prog 17 TT M_graph_FindEdge F_graph_FindEdge (O_graph_FindEdge n) (L_graph_FindEdge n) dorcNil ⟨[], [], []⟩ [.tmp 4] C_graph_FindEdge x = graph_FindEdge n x := by kernel_rfl
omit [UTabs] in
theorem ok_graph_FindEdge (n : Nat) : Contract Tryd.prog 77 F_graph_FindEdge (graph_FindEdge n) :=
  Contract.of_ev (c := C_graph_FindEdge) (N := 17) Tryd.func77 (by kernel_rfl) (by kernel_rfl) (by kernel_rfl) (by kernel_rfl) (O_graph_FindEdge_ok n) dorcNil_ok (.of (l := []) (by kernel_rfl) trivial) (e_graph_FindEdge n)

noncomputable def C_graph_Prop : Code := bodyOf Tryd.f89
noncomputable def M_graph_Prop : List (Nat × ArgM) := [(58, ⟨[], [], [], true⟩), (63, ⟨[], [], [], true⟩), (77, ⟨[], [], [], true⟩)]
noncomputable def O_graph_Prop {ρ : Type} (n : Nat) : Orc ρ := orcCons 58 F_graph_Check (graph_Check n) (orcCons 63 F_graph_Find (graph_Find n) (orcCons 139 F_graph_Get (graph_Get n) (orcCons 77 F_graph_FindEdge (graph_FindEdge n) (orcNil))))
theorem O_graph_Prop_ok {ρ : Type} (n : Nat) : (O_graph_Prop n : Orc ρ).ok Tryd.prog := orcCons_ok (by kernel_rfl) (ok_graph_Check n) (orcCons_ok (by kernel_rfl) (ok_graph_Find n) (orcCons_ok (by kernel_rfl) (ok_graph_Get n) (orcCons_ok (by kernel_rfl) (ok_graph_FindEdge n) (orcNil_ok))))
noncomputable def L_graph_Prop {ρ : Type} (n : Nat) : LOrc ρ := lorcNil
omit [Tabs] [UTabs] in
theorem e_graph_Prop (n : Nat) (x) : evF Tryd.prog 44 TT M_graph_Prop F_graph_Prop (O_graph_Prop n) (L_graph_Prop n) dorcNil ⟨[], [], []⟩ [.cell 6 39, .tmp 7] C_graph_Prop x = graph_Prop n x := by kernel_rfl
theorem ok_graph_Prop (n : Nat) : Contract Tryd.prog 89 F_graph_Prop (graph_Prop n) :=
  Contract.of_ev (c := C_graph_Prop) (N := 44) Tryd.func89 (by kernel_rfl) (by kernel_rfl) (by kernel_rfl) (by kernel_rfl) (O_graph_Prop_ok n) dorcNil_ok (.of (l := []) (by kernel_rfl) trivial) (e_graph_Prop n)

noncomputable def F_graph_Around : FnT := ⟨4, ⟨[], [(0, .graph), (1, .i64), (2, .str), (3, .bool)], []⟩, [.v (.lst .i64), .v .i64], []⟩
noncomputable def C_graph_Around : Code := bodyOf Tryd.f42
noncomputable def M_graph_Around : List (Nat × ArgM) := [(58, ⟨[], [], [], true⟩), (63, ⟨[], [], [], true⟩)]
noncomputable def O_graph_Around {ρ : Type} (n : Nat) : Orc ρ := orcCons 58 F_graph_Check (graph_Check n) (orcCons 63 F_graph_Find (graph_Find n) (orcNil))
theorem O_graph_Around_ok {ρ : Type} (n : Nat) : (O_graph_Around n : Orc ρ).ok Tryd.prog := orcCons_ok (by kernel_rfl) (ok_graph_Check n) (orcCons_ok (by kernel_rfl) (ok_graph_Find n) (orcNil_ok))
noncomputable def T_graph_Around_s0 : Tm := ⟨[(11, .own 11)], [(1, .i64), (2, .str), (3, .bool), (24, (.lst .edg)), (25, .i64), (26, .i64)], [(11, .arr 3 .i64)]⟩
noncomputable def X_graph_Around_s0 : Tm := ⟨[(11, .own 11)], [], [(11, .arr 3 .i64)]⟩
noncomputable def R_graph_Around_s0 : Tm := ⟨[], [], []⟩
noncomputable def L_graph_Around_s0 {ρ : Type} (n : Nat) : LOrc ρ := lorcNil
omit [Tabs] [UTabs] in
theorem s_graph_Around_s0 {ρ : Type} (n : Nat) (rec : T_graph_Around_s0.den → Option ρ) kx kr s : dStep Tryd.prog 64 TT M_graph_Around (O_graph_Around n) (L_graph_Around_s0 n) dorcNil 0 (lbody 1000 C_graph_Around 0) T_graph_Around_s0 X_graph_Around_s0 R_graph_Around_s0 ⟨[], [(11, 11, 3, 1)], []⟩ rec kx kr s = graph_Around_s0 n rec kx kr s := by kernel_rfl
noncomputable def L_graph_Around {ρ : Type} (n : Nat) : LOrc ρ := lorcCons 0 (loopL 64 0 n T_graph_Around_s0 X_graph_Around_s0 R_graph_Around_s0 ⟨[], [(11, 11, 3, 1)], []⟩ (graph_Around_s0 n)) (lorcNil)
omit [Tabs] [UTabs] in
theorem e_graph_Around (n : Nat) (x) : evF Tryd.prog 64 TT M_graph_Around F_graph_Around (O_graph_Around n) (L_graph_Around n) dorcNil ⟨[], [], []⟩ [.tmp 8, .tmp 9] C_graph_Around x = graph_Around n x := by kernel_rfl
theorem ok_graph_Around (n : Nat) : Contract Tryd.prog 42 F_graph_Around (graph_Around n) :=
  Contract.of_ev (c := C_graph_Around) (N := 64) Tryd.func42 (by kernel_rfl) (by kernel_rfl) (by kernel_rfl) (by kernel_rfl) (O_graph_Around_ok n) dorcNil_ok (.of (l := [(0, (lbody 1000 C_graph_Around 0))]) (by kernel_rfl) ⟨.head (loopL_sound (O_graph_Around_ok n) dorcNil_ok (.of (l := []) (by kernel_rfl) trivial) (s_graph_Around_s0 n)), trivial⟩) (e_graph_Around n)

noncomputable def F_espalierref_SameValue : FnT := ⟨2, ⟨[], [(0, .val), (1, .val)], []⟩, [.v .bool], []⟩
noncomputable def F_espalierref_OrderOf : FnT := ⟨2, ⟨[], [(0, .val), (1, .val)], []⟩, [.v .i64], []⟩
noncomputable def F_bytes_Compare : FnT := ⟨2, ⟨[], [(0, (.lst .u8)), (1, (.lst .u8))], []⟩, [.v .i64], []⟩
noncomputable def C_bytes_Compare : Code := bodyOf Tryd.f138
noncomputable def M_bytes_Compare : List (Nat × ArgM) := []
noncomputable def O_bytes_Compare {ρ : Type} : Orc ρ := orcCons 180 T_cmpB (cmpN) (orcNil)
omit [UTabs] in
theorem O_bytes_Compare_ok {ρ : Type} : (O_bytes_Compare : Orc ρ).ok Tryd.prog := orcExt_ok (by kernel_rfl) (cmp_ok) (orcNil_ok)
noncomputable def L_bytes_Compare {ρ : Type} : LOrc ρ := lorcNil
omit [Tabs] [UTabs] in
theorem e_bytes_Compare (x) : evF Tryd.prog 8 TT M_bytes_Compare F_bytes_Compare (O_bytes_Compare) (L_bytes_Compare) dorcNil ⟨[], [], []⟩ [.tmp 4] C_bytes_Compare x = bytes_Compare x := by kernel_rfl
omit [UTabs] in
theorem ok_bytes_Compare : Contract Tryd.prog 138 F_bytes_Compare (bytes_Compare) :=
  Contract.of_ev (c := C_bytes_Compare) (N := 8) Tryd.func138 (by kernel_rfl) (by kernel_rfl) (by kernel_rfl) (by kernel_rfl) (O_bytes_Compare_ok) dorcNil_ok (.of (l := []) (by kernel_rfl) trivial) (e_bytes_Compare)

noncomputable def C_espalierref_OrderOf : Code := bodyOf Tryd.f85
noncomputable def M_espalierref_OrderOf : List (Nat × ArgM) := [(138, ⟨[], [], [], true⟩), (85, ⟨[], [], [], true⟩)]
noncomputable def O_espalierref_OrderOf {ρ : Type} (self_espalierref_OrderOf : Ev.Val × Ev.Val × Unit → Option (Int × Unit)) (n : Nat) : Orc ρ := orcCons 138 F_bytes_Compare (bytes_Compare) (orcCons 85 F_espalierref_OrderOf (self_espalierref_OrderOf) (orcNil))
omit [UTabs] in
theorem O_espalierref_OrderOf_ok {ρ : Type} (self_espalierref_OrderOf : Ev.Val × Ev.Val × Unit → Option (Int × Unit)) (h_espalierref_OrderOf : Contract Tryd.prog 85 F_espalierref_OrderOf self_espalierref_OrderOf) (n : Nat) : (O_espalierref_OrderOf self_espalierref_OrderOf n : Orc ρ).ok Tryd.prog := orcCons_ok (by kernel_rfl) (ok_bytes_Compare) (orcCons_ok (by kernel_rfl) (h_espalierref_OrderOf) (orcNil_ok))
noncomputable def T_espalierref_OrderOf_s1 : Tm := ⟨[(2, .ptr 2 0), (3, .ptr 3 0)], [(5, .i64)], [(2, .box [.d .val]), (3, .box [.d .val])]⟩
noncomputable def X_espalierref_OrderOf_s1 : Tm := ⟨[(2, .ptr 2 0), (3, .ptr 3 0)], [], [(2, .box [.d .val]), (3, .box [.d .val])]⟩
noncomputable def R_espalierref_OrderOf_s1 : Tm := ⟨[], [(4, .i64)], []⟩
noncomputable def L_espalierref_OrderOf_s1 {ρ : Type} (self_espalierref_OrderOf : Ev.Val × Ev.Val × Unit → Option (Int × Unit)) (n : Nat) : LOrc ρ := lorcNil
omit [Tabs] [UTabs] in
theorem s_espalierref_OrderOf_s1 {ρ : Type} (self_espalierref_OrderOf : Ev.Val × Ev.Val × Unit → Option (Int × Unit)) (n : Nat) (rec : T_espalierref_OrderOf_s1.den → Option ρ) kx kr s : dStep Tryd.prog 88 TT M_espalierref_OrderOf (O_espalierref_OrderOf self_espalierref_OrderOf n) (L_espalierref_OrderOf_s1 self_espalierref_OrderOf n) (evDraw Tryd.prog 88 TT M_espalierref_OrderOf (O_espalierref_OrderOf self_espalierref_OrderOf n)) 1 (lbody 1000 C_espalierref_OrderOf 0) T_espalierref_OrderOf_s1 X_espalierref_OrderOf_s1 R_espalierref_OrderOf_s1 ⟨[], [], []⟩ rec kx kr s = espalierref_OrderOf_s1 self_espalierref_OrderOf n rec kx kr s := by kernel_rfl
noncomputable def L_espalierref_OrderOf {ρ : Type} (self_espalierref_OrderOf : Ev.Val × Ev.Val × Unit → Option (Int × Unit)) (n : Nat) : LOrc ρ := lorcCons 1 (loopL 88 1 n T_espalierref_OrderOf_s1 X_espalierref_OrderOf_s1 R_espalierref_OrderOf_s1 ⟨[], [], []⟩ (espalierref_OrderOf_s1 self_espalierref_OrderOf n)) (lorcNil)
omit [Tabs] [UTabs] in
theorem e_espalierref_OrderOf (self_espalierref_OrderOf : Ev.Val × Ev.Val × Unit → Option (Int × Unit)) (n : Nat) (x) : evF Tryd.prog 88 TT M_espalierref_OrderOf F_espalierref_OrderOf (O_espalierref_OrderOf self_espalierref_OrderOf n) (L_espalierref_OrderOf self_espalierref_OrderOf n) (evDraw Tryd.prog 88 TT M_espalierref_OrderOf (O_espalierref_OrderOf self_espalierref_OrderOf n)) ⟨[], [], []⟩ [.tmp 4] C_espalierref_OrderOf x = espalierref_OrderOf_b self_espalierref_OrderOf n x := by kernel_rfl
omit [UTabs] in
theorem okb_espalierref_OrderOf (self_espalierref_OrderOf : Ev.Val × Ev.Val × Unit → Option (Int × Unit)) (h_espalierref_OrderOf : Contract Tryd.prog 85 F_espalierref_OrderOf self_espalierref_OrderOf) (n : Nat) : Contract Tryd.prog 85 F_espalierref_OrderOf (espalierref_OrderOf_b self_espalierref_OrderOf n) :=
  Contract.of_ev (c := C_espalierref_OrderOf) (N := 88) Tryd.func85 (by kernel_rfl) (by kernel_rfl) (by kernel_rfl) (by kernel_rfl) (O_espalierref_OrderOf_ok self_espalierref_OrderOf h_espalierref_OrderOf n) (evDraw_ok (O_espalierref_OrderOf_ok self_espalierref_OrderOf h_espalierref_OrderOf n) (by kernel_rfl)) (.of (l := [(1, (lbody 1000 C_espalierref_OrderOf 0))]) (by kernel_rfl) ⟨.head (loopL_sound (O_espalierref_OrderOf_ok self_espalierref_OrderOf h_espalierref_OrderOf n) (evDraw_ok (O_espalierref_OrderOf_ok self_espalierref_OrderOf h_espalierref_OrderOf n) (by kernel_rfl)) (.of (l := []) (by kernel_rfl) trivial) (s_espalierref_OrderOf_s1 self_espalierref_OrderOf n)), trivial⟩) (e_espalierref_OrderOf self_espalierref_OrderOf n)
omit [UTabs] in
theorem ok_espalierref_OrderOf : ∀ n, Contract Tryd.prog 85 F_espalierref_OrderOf (espalierref_OrderOf n)
  | 0 => fun _ _ h => by cases h
  | n + 1 => okb_espalierref_OrderOf _ (ok_espalierref_OrderOf n) n

noncomputable def C_espalierref_SameValue : Code := bodyOf Tryd.f54
noncomputable def M_espalierref_SameValue : List (Nat × ArgM) := [(85, ⟨[], [], [], true⟩)]
noncomputable def O_espalierref_SameValue {ρ : Type} (n : Nat) : Orc ρ := orcCons 85 F_espalierref_OrderOf (espalierref_OrderOf n) (orcNil)
omit [UTabs] in
theorem O_espalierref_SameValue_ok {ρ : Type} (n : Nat) : (O_espalierref_SameValue n : Orc ρ).ok Tryd.prog := orcCons_ok (by kernel_rfl) (ok_espalierref_OrderOf n) (orcNil_ok)
noncomputable def L_espalierref_SameValue {ρ : Type} (n : Nat) : LOrc ρ := lorcNil
omit [Tabs] [UTabs] in
theorem e_espalierref_SameValue (n : Nat) (x) : evF Tryd.prog 9 TT M_espalierref_SameValue F_espalierref_SameValue (O_espalierref_SameValue n) (L_espalierref_SameValue n) dorcNil ⟨[], [], []⟩ [.tmp 4] C_espalierref_SameValue x = espalierref_SameValue n x := by kernel_rfl
omit [UTabs] in
theorem ok_espalierref_SameValue (n : Nat) : Contract Tryd.prog 54 F_espalierref_SameValue (espalierref_SameValue n) :=
  Contract.of_ev (c := C_espalierref_SameValue) (N := 9) Tryd.func54 (by kernel_rfl) (by kernel_rfl) (by kernel_rfl) (by kernel_rfl) (O_espalierref_SameValue_ok n) dorcNil_ok (.of (l := []) (by kernel_rfl) trivial) (e_espalierref_SameValue n)

noncomputable def F_slices_Equal_int_int : FnT := ⟨2, ⟨[], [(0, (.lst .i64)), (1, (.lst .i64))], []⟩, [.v .bool], []⟩
noncomputable def C_slices_Equal_int_int : Code := bodyOf Tryd.f91
noncomputable def M_slices_Equal_int_int : List (Nat × ArgM) := []
noncomputable def O_slices_Equal_int_int {ρ : Type} (n : Nat) : Orc ρ := orcNil
omit [UTabs] in
theorem O_slices_Equal_int_int_ok {ρ : Type} (n : Nat) : (O_slices_Equal_int_int n : Orc ρ).ok Tryd.prog := orcNil_ok
noncomputable def T_slices_Equal_int_int_s0 : Tm := ⟨[], [(0, (.lst .i64)), (1, (.lst .i64)), (12, .i64), (13, .i64)], []⟩
noncomputable def X_slices_Equal_int_int_s0 : Tm := ⟨[], [], []⟩
noncomputable def R_slices_Equal_int_int_s0 : Tm := ⟨[], [(4, .bool)], []⟩
noncomputable def L_slices_Equal_int_int_s0 {ρ : Type} (n : Nat) : LOrc ρ := lorcNil
omit [Tabs] [UTabs] in
theorem s_slices_Equal_int_int_s0 {ρ : Type} (n : Nat) (rec : T_slices_Equal_int_int_s0.den → Option ρ) kx kr s : dStep Tryd.prog 26 TT M_slices_Equal_int_int (O_slices_Equal_int_int n) (L_slices_Equal_int_int_s0 n) (evDraw Tryd.prog 26 TT M_slices_Equal_int_int (O_slices_Equal_int_int n)) 0 (lbody 1000 C_slices_Equal_int_int 0) T_slices_Equal_int_int_s0 X_slices_Equal_int_int_s0 R_slices_Equal_int_int_s0 ⟨[], [], []⟩ rec kx kr s = slices_Equal_int_int_s0 n rec kx kr s := by kernel_rfl
noncomputable def L_slices_Equal_int_int {ρ : Type} (n : Nat) : LOrc ρ := lorcCons 0 (loopL 26 0 n T_slices_Equal_int_int_s0 X_slices_Equal_int_int_s0 R_slices_Equal_int_int_s0 ⟨[], [], []⟩ (slices_Equal_int_int_s0 n)) (lorcNil)
omit [Tabs] [UTabs] in
theorem e_slices_Equal_int_int (n : Nat) (x) : evF Tryd.prog 26 TT M_slices_Equal_int_int F_slices_Equal_int_int (O_slices_Equal_int_int n) (L_slices_Equal_int_int n) (evDraw Tryd.prog 26 TT M_slices_Equal_int_int (O_slices_Equal_int_int n)) ⟨[], [], []⟩ [.tmp 4] C_slices_Equal_int_int x = slices_Equal_int_int n x := by kernel_rfl
omit [UTabs] in
theorem ok_slices_Equal_int_int (n : Nat) : Contract Tryd.prog 91 F_slices_Equal_int_int (slices_Equal_int_int n) :=
  Contract.of_ev (c := C_slices_Equal_int_int) (N := 26) Tryd.func91 (by kernel_rfl) (by kernel_rfl) (by kernel_rfl) (by kernel_rfl) (O_slices_Equal_int_int_ok n) (evDraw_ok (O_slices_Equal_int_int_ok n) (by kernel_rfl)) (.of (l := [(0, (lbody 1000 C_slices_Equal_int_int 0))]) (by kernel_rfl) ⟨.head (loopL_sound (O_slices_Equal_int_int_ok n) (evDraw_ok (O_slices_Equal_int_int_ok n) (by kernel_rfl)) (.of (l := []) (by kernel_rfl) trivial) (s_slices_Equal_int_int_s0 n)), trivial⟩) (e_slices_Equal_int_int n)

noncomputable def C_espalierlaw_drawn : Code := bodyOf Tryd.f41
noncomputable def M_espalierlaw_drawn : List (Nat × ArgM) := [(54, ⟨[], [], [], true⟩), (91, ⟨[], [], [], true⟩), (58, ⟨[], [], [], true⟩)]
noncomputable def O_espalierlaw_drawn {ρ : Type} (n : Nat) : Orc ρ := orcCons 90 F_espalierlaw_knows (espalierlaw_knows) (orcCons 89 F_graph_Prop (graph_Prop n) (orcCons 42 F_graph_Around (graph_Around n) (orcCons 56 F_espalierlaw_num (espalierlaw_num) (orcCons 54 F_espalierref_SameValue (espalierref_SameValue n) (orcCons 91 F_slices_Equal_int_int (slices_Equal_int_int n) (orcCons 58 F_graph_Check (graph_Check n) (orcNil)))))))
theorem O_espalierlaw_drawn_ok {ρ : Type} (n : Nat) : (O_espalierlaw_drawn n : Orc ρ).ok Tryd.prog := orcCons_ok (by kernel_rfl) (ok_espalierlaw_knows) (orcCons_ok (by kernel_rfl) (ok_graph_Prop n) (orcCons_ok (by kernel_rfl) (ok_graph_Around n) (orcCons_ok (by kernel_rfl) (ok_espalierlaw_num) (orcCons_ok (by kernel_rfl) (ok_espalierref_SameValue n) (orcCons_ok (by kernel_rfl) (ok_slices_Equal_int_int n) (orcCons_ok (by kernel_rfl) (ok_graph_Check n) (orcNil_ok)))))))
noncomputable def L_espalierlaw_drawn {ρ : Type} (n : Nat) : LOrc ρ := lorcNil
omit [Tabs] [UTabs] in
theorem e_espalierlaw_drawn (n : Nat) (x) : evF Tryd.prog 36 TT M_espalierlaw_drawn F_espalierlaw_drawn (O_espalierlaw_drawn n) (L_espalierlaw_drawn n) (evDraw Tryd.prog 36 TT M_espalierlaw_drawn (O_espalierlaw_drawn n)) ⟨[], [], []⟩ [.tmp 0] C_espalierlaw_drawn x = espalierlaw_drawn n x := by kernel_rfl
theorem ok_espalierlaw_drawn (n : Nat) : Contract Tryd.prog 41 F_espalierlaw_drawn (espalierlaw_drawn n) :=
  Contract.of_ev (c := C_espalierlaw_drawn) (N := 36) Tryd.func41 (by kernel_rfl) (by kernel_rfl) (by kernel_rfl) (by kernel_rfl) (O_espalierlaw_drawn_ok n) (evDraw_ok (O_espalierlaw_drawn_ok n) (by kernel_rfl)) (.of (l := []) (by kernel_rfl) trivial) (e_espalierlaw_drawn n)

noncomputable def C_espalierlaw_GraphEnds : Code := bodyOf Tryd.f8
noncomputable def M_espalierlaw_GraphEnds : List (Nat × ArgM) := [(43, ⟨[1000], [], [], false⟩), (41, ⟨[], [], [], true⟩)]
noncomputable def O_espalierlaw_GraphEnds {ρ : Type} (n : Nat) : Orc ρ := orcCons 40 F_graph_Labelled (graph_Labelled n) (orcCons 41 F_espalierlaw_drawn (espalierlaw_drawn n) (orcCons 42 F_graph_Around (graph_Around n) (orcCons 43 (F_sortI 3) (sortN) (orcNil))))
theorem O_espalierlaw_GraphEnds_ok {ρ : Type} (n : Nat) : (O_espalierlaw_GraphEnds n : Orc ρ).ok Tryd.prog := orcCons_ok (by kernel_rfl) (ok_graph_Labelled n) (orcCons_ok (by kernel_rfl) (ok_espalierlaw_drawn n) (orcCons_ok (by kernel_rfl) (ok_graph_Around n) (orcCons_ok (by kernel_rfl) (sort_ok) (orcNil_ok))))
noncomputable def T_espalierlaw_GraphEnds_s2 : Tm := ⟨[(1, .ptr 1 0), (7, .own 7)], [(3, (.lst .i64)), (6, .bool), (26, (.lst .bool)), (27, .i64), (28, .i64), (32, (.lst .i64)), (33, .i64), (34, .i64)], [(1, .box [.d .graph]), (7, .arr 3 .i64)]⟩
noncomputable def X_espalierlaw_GraphEnds_s2 : Tm := ⟨[(1, .ptr 1 0), (7, .own 7)], [(3, (.lst .i64)), (26, (.lst .bool)), (27, .i64), (28, .i64)], [(1, .box [.d .graph]), (7, .arr 3 .i64)]⟩
noncomputable def R_espalierlaw_GraphEnds_s2 : Tm := ⟨[], [(2, .bool)], []⟩
noncomputable def L_espalierlaw_GraphEnds_s2 {ρ : Type} (n : Nat) : LOrc ρ := lorcNil
omit [Tabs] [UTabs] in
theorem s_espalierlaw_GraphEnds_s2 {ρ : Type} (n : Nat) (rec : T_espalierlaw_GraphEnds_s2.den → Option ρ) kx kr s : dStep Tryd.prog 76 TT M_espalierlaw_GraphEnds (O_espalierlaw_GraphEnds n) (L_espalierlaw_GraphEnds_s2 n) (evDraw Tryd.prog 76 TT M_espalierlaw_GraphEnds (O_espalierlaw_GraphEnds n)) 2 (lbody 0 (lbody 1000 C_espalierlaw_GraphEnds 0) 0) T_espalierlaw_GraphEnds_s2 X_espalierlaw_GraphEnds_s2 R_espalierlaw_GraphEnds_s2 ⟨[], [(7, 7, 3, 1)], []⟩ rec kx kr s = espalierlaw_GraphEnds_s2 n rec kx kr s := by kernel_rfl
noncomputable def T_espalierlaw_GraphEnds_s4 : Tm := ⟨[(1, .ptr 1 0)], [(3, (.lst .i64)), (7, (.lst .i64)), (26, (.lst .bool)), (27, .i64), (28, .i64), (60, (.lst .edg)), (61, .i64), (62, .i64)], [(1, .box [.d .graph])]⟩
noncomputable def X_espalierlaw_GraphEnds_s4 : Tm := ⟨[(1, .ptr 1 0)], [(3, (.lst .i64)), (26, (.lst .bool)), (27, .i64), (28, .i64)], [(1, .box [.d .graph])]⟩
noncomputable def R_espalierlaw_GraphEnds_s4 : Tm := ⟨[], [(2, .bool)], []⟩
noncomputable def L_espalierlaw_GraphEnds_s4 {ρ : Type} (n : Nat) : LOrc ρ := lorcNil
omit [Tabs] [UTabs] in
theorem s_espalierlaw_GraphEnds_s4 {ρ : Type} (n : Nat) (rec : T_espalierlaw_GraphEnds_s4.den → Option ρ) kx kr s : dStep Tryd.prog 76 TT M_espalierlaw_GraphEnds (O_espalierlaw_GraphEnds n) (L_espalierlaw_GraphEnds_s4 n) (evDraw Tryd.prog 76 TT M_espalierlaw_GraphEnds (O_espalierlaw_GraphEnds n)) 4 (lbody 0 (lbody 1000 C_espalierlaw_GraphEnds 0) 1) T_espalierlaw_GraphEnds_s4 X_espalierlaw_GraphEnds_s4 R_espalierlaw_GraphEnds_s4 ⟨[7], [], []⟩ rec kx kr s = espalierlaw_GraphEnds_s4 n rec kx kr s := by kernel_rfl
noncomputable def T_espalierlaw_GraphEnds_s0 : Tm := ⟨[(1, .ptr 1 0)], [(3, (.lst .i64)), (26, (.lst .bool)), (27, .i64), (28, .i64)], [(1, .box [.d .graph])]⟩
noncomputable def X_espalierlaw_GraphEnds_s0 : Tm := ⟨[], [], []⟩
noncomputable def R_espalierlaw_GraphEnds_s0 : Tm := ⟨[], [(2, .bool)], []⟩
noncomputable def L_espalierlaw_GraphEnds_s0 {ρ : Type} (n : Nat) : LOrc ρ := lorcCons 2 (loopL 76 2 n T_espalierlaw_GraphEnds_s2 X_espalierlaw_GraphEnds_s2 R_espalierlaw_GraphEnds_s2 ⟨[], [(7, 7, 3, 1)], []⟩ (espalierlaw_GraphEnds_s2 n)) (lorcCons 4 (loopL 76 4 n T_espalierlaw_GraphEnds_s4 X_espalierlaw_GraphEnds_s4 R_espalierlaw_GraphEnds_s4 ⟨[7], [], []⟩ (espalierlaw_GraphEnds_s4 n)) (lorcNil))
omit [Tabs] [UTabs] in
theorem s_espalierlaw_GraphEnds_s0 {ρ : Type} (n : Nat) (rec : T_espalierlaw_GraphEnds_s0.den → Option ρ) kx kr s : dStep Tryd.prog 76 TT M_espalierlaw_GraphEnds (O_espalierlaw_GraphEnds n) (L_espalierlaw_GraphEnds_s0 n) (evDraw Tryd.prog 76 TT M_espalierlaw_GraphEnds (O_espalierlaw_GraphEnds n)) 0 (lbody 1000 C_espalierlaw_GraphEnds 0) T_espalierlaw_GraphEnds_s0 X_espalierlaw_GraphEnds_s0 R_espalierlaw_GraphEnds_s0 ⟨[26], [], []⟩ rec kx kr s = espalierlaw_GraphEnds_s0 n rec kx kr s := by kernel_rfl
noncomputable def L_espalierlaw_GraphEnds {ρ : Type} (n : Nat) : LOrc ρ := lorcCons 0 (loopL 76 0 n T_espalierlaw_GraphEnds_s0 X_espalierlaw_GraphEnds_s0 R_espalierlaw_GraphEnds_s0 ⟨[26], [], []⟩ (espalierlaw_GraphEnds_s0 n)) (lorcNil)
omit [Tabs] [UTabs] in
theorem e_espalierlaw_GraphEnds (n : Nat) (x) : evF Tryd.prog 76 TT M_espalierlaw_GraphEnds F_espalierlaw_GraphEnds (O_espalierlaw_GraphEnds n) (L_espalierlaw_GraphEnds n) (evDraw Tryd.prog 76 TT M_espalierlaw_GraphEnds (O_espalierlaw_GraphEnds n)) ⟨[], [], []⟩ [.tmp 2] C_espalierlaw_GraphEnds x = espalierlaw_GraphEnds n x := by kernel_rfl
theorem ok_espalierlaw_GraphEnds (n : Nat) : Contract Tryd.prog 8 F_espalierlaw_GraphEnds (espalierlaw_GraphEnds n) :=
  Contract.of_ev (c := C_espalierlaw_GraphEnds) (N := 76) Tryd.func8 (by kernel_rfl) (by kernel_rfl) (by kernel_rfl) (by kernel_rfl) (O_espalierlaw_GraphEnds_ok n) (evDraw_ok (O_espalierlaw_GraphEnds_ok n) (by kernel_rfl)) (.of (l := [(0, (lbody 1000 C_espalierlaw_GraphEnds 0))]) (by kernel_rfl) ⟨.head (loopL_sound (O_espalierlaw_GraphEnds_ok n) (evDraw_ok (O_espalierlaw_GraphEnds_ok n) (by kernel_rfl)) (.of (l := [(2, (lbody 0 (lbody 1000 C_espalierlaw_GraphEnds 0) 0)), (4, (lbody 0 (lbody 1000 C_espalierlaw_GraphEnds 0) 1))]) (by kernel_rfl) ⟨.head (loopL_sound (O_espalierlaw_GraphEnds_ok n) (evDraw_ok (O_espalierlaw_GraphEnds_ok n) (by kernel_rfl)) (.of (l := []) (by kernel_rfl) trivial) (s_espalierlaw_GraphEnds_s2 n)), ⟨.tail rfl (.head (loopL_sound (O_espalierlaw_GraphEnds_ok n) (evDraw_ok (O_espalierlaw_GraphEnds_ok n) (by kernel_rfl)) (.of (l := []) (by kernel_rfl) trivial) (s_espalierlaw_GraphEnds_s4 n))), trivial⟩⟩) (s_espalierlaw_GraphEnds_s0 n)), trivial⟩) (e_espalierlaw_GraphEnds n)

end Go.Proofs.YtnfoajgolcenlaaDoor

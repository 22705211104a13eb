/- Each of these functions computes what its plain function computes (written by gen.py). -/
import Derived.Test.YtnfoajgolcenlaaDoorSBase
import Derived.KernelRfl
import Derived.Test.YtnfoajgolcenlaaDoorEvDraw
import Derived.Test.YtnfoajgolcenlaaDoorPCode
namespace Go.Proofs.YtnfoajgolcenlaaDoor
open Go Esp Ev Pure
set_option linter.unusedSimpArgs false
set_option linter.unusedVariables false
set_option maxRecDepth 100000
variable [Tabs] [UTabs]
def TT : List (TypeId × Ty) := [(2, .i64), (3, .i64), (4, .bool), (5, .u8), (6, .u8), (9, .str), (10, .str), (11, .str), (12, .u64), (21, .i32), (22, (.lst .grant)), (23, (.lst .node)), (24, (.lst .edg)), (26, .graph), (27, .i64), (30, (.lst .str)), (37, (.lst .val)), (39, .val), (40, (.lst .prp)), (42, .opn), (51, .node), (54, .grant), (58, (.lst .cnt)), (59, (.lst .cnt)), (60, (.lst .val)), (64, (.lst (.lst .cnt))), (66, .guest), (73, (.lst .i64)), (76, (.lst .bool)), (80, .edg), (92, .cnt), (96, (.lst (.lst .val))), (136, .u64), (144, (.two (.lst .cnt))), (150, (.lst .u32)), (175, (.lst .u8)), (178, .prp), (180, .i64), (187, .u32), (189, .u64), (195, .u64), (214, (.lst .i64)), (229, .u64), (263, .u8), (264, .u8), (267, .i32), (268, .i32)]

noncomputable def F_espalierlaw_GrantSee : FnT := ⟨3, ⟨[], [(0, (.lst .grant)), (1, .str), (2, .graph)], []⟩, [.v .bool], []⟩
noncomputable def F_grant_See : FnT := ⟨3, ⟨[], [(0, (.lst .grant)), (1, .str), (2, .graph)], []⟩, [.v .graph, .v .i64], []⟩
noncomputable def F_grant_Check : FnT := ⟨1, ⟨[], [(0, (.lst .grant))], []⟩, [.v .i64], []⟩
noncomputable def F_graph_Name : FnT := ⟨1, ⟨[], [(0, .str)], []⟩, [.v .bool], []⟩
noncomputable def C_graph_Name : Code := bodyOf Tryd.f67
noncomputable def M_graph_Name : List (Nat × ArgM) := []
noncomputable def O_graph_Name {ρ : Type} (n : Nat) : Orc ρ := orcNil
omit [UTabs] in
theorem O_graph_Name_ok {ρ : Type} (n : Nat) : (O_graph_Name n : Orc ρ).ok Tryd.prog := orcNil_ok
noncomputable def T_graph_Name_s0 : Tm := ⟨[], [(0, .str), (14, .i64), (15, .i64)], []⟩
noncomputable def X_graph_Name_s0 : Tm := ⟨[], [], []⟩
noncomputable def R_graph_Name_s0 : Tm := ⟨[], [(2, .bool)], []⟩
noncomputable def L_graph_Name_s0 {ρ : Type} (n : Nat) : LOrc ρ := lorcNil
omit [Tabs] [UTabs] in
theorem s_graph_Name_s0 {ρ : Type} (n : Nat) (rec : T_graph_Name_s0.den → Option ρ) kx kr s : dStep Tryd.prog 54 TT M_graph_Name (O_graph_Name n) (L_graph_Name_s0 n) dorcNil 0 (lbody 1000 C_graph_Name 0) T_graph_Name_s0 X_graph_Name_s0 R_graph_Name_s0 ⟨[], [], []⟩ rec kx kr s = graph_Name_s0 n rec kx kr s := by kernel_rfl
noncomputable def L_graph_Name {ρ : Type} (n : Nat) : LOrc ρ := lorcCons 0 (loopL 54 0 n T_graph_Name_s0 X_graph_Name_s0 R_graph_Name_s0 ⟨[], [], []⟩ (graph_Name_s0 n)) (lorcNil)
omit [Tabs] [UTabs] in
theorem e_graph_Name (n : Nat) (x) : evF Tryd.prog 54 TT M_graph_Name F_graph_Name (O_graph_Name n) (L_graph_Name n) dorcNil ⟨[], [], []⟩ [.tmp 2] C_graph_Name x = graph_Name n x := by kernel_rfl
omit [UTabs] in
theorem ok_graph_Name (n : Nat) : Contract Tryd.prog 67 F_graph_Name (graph_Name n) :=
  Contract.of_ev (c := C_graph_Name) (N := 54) Tryd.func67 (by kernel_rfl) (by kernel_rfl) (by kernel_rfl) (by kernel_rfl) (O_graph_Name_ok n) dorcNil_ok (.of (l := [(0, (lbody 1000 C_graph_Name 0))]) (by kernel_rfl) ⟨.head (loopL_sound (O_graph_Name_ok n) dorcNil_ok (.of (l := []) (by kernel_rfl) trivial) (s_graph_Name_s0 n)), trivial⟩) (e_graph_Name n)

noncomputable def F_slices_ContainsFunc_api_Grant_api_Grant_grant_Check_1_c : FnT := ⟨2, ⟨[(1, .clo 69 [1000000])], [(0, (.lst .grant))], [(1000000, .box [.d .grant])]⟩, [.v .bool], [(1000000, .box [.d .grant])]⟩
noncomputable def F_slices_IndexFunc_api_Grant_api_Grant_grant_Check_1_c : FnT := ⟨2, ⟨[(1, .clo 69 [1000000])], [(0, (.lst .grant))], [(1000000, .box [.d .grant])]⟩, [.v .i64], [(1000000, .box [.d .grant])]⟩
noncomputable def F_grant_Check_1 : FnT := ⟨2, ⟨[(1, .ptr 1000000 0)], [(0, .grant)], [(1000000, .box [.d .grant])]⟩, [.v .bool], [(1000000, .box [.d .grant])]⟩
noncomputable def C_grant_Check_1 : Code := bodyOf Tryd.f69
noncomputable def M_grant_Check_1 : List (Nat × ArgM) := []
noncomputable def O_grant_Check_1 {ρ : Type} : Orc ρ := orcNil
omit [UTabs] in
theorem O_grant_Check_1_ok {ρ : Type} : (O_grant_Check_1 : Orc ρ).ok Tryd.prog := orcNil_ok
noncomputable def L_grant_Check_1 {ρ : Type} : LOrc ρ := lorcNil
omit [Tabs] [UTabs] in
theorem e_grant_Check_1 (x) : evF Tryd.prog 9 TT M_grant_Check_1 F_grant_Check_1 (O_grant_Check_1) (L_grant_Check_1) dorcNil ⟨[], [], []⟩ [.tmp 3] C_grant_Check_1 x = grant_Check_1 x := by kernel_rfl
omit [UTabs] in
theorem ok_grant_Check_1 : Contract Tryd.prog 69 F_grant_Check_1 (grant_Check_1) :=
  Contract.of_ev (c := C_grant_Check_1) (N := 9) Tryd.func69 (by kernel_rfl) (by kernel_rfl) (by kernel_rfl) (by kernel_rfl) (O_grant_Check_1_ok) dorcNil_ok (.of (l := []) (by kernel_rfl) trivial) (e_grant_Check_1)

noncomputable def C_slices_IndexFunc_api_Grant_api_Grant_grant_Check_1_c : Code := bodyOf Tryd.f59
noncomputable def M_slices_IndexFunc_api_Grant_api_Grant_grant_Check_1_c : List (Nat × ArgM) := [(69, ⟨[1], [], [], false⟩)]
noncomputable def O_slices_IndexFunc_api_Grant_api_Grant_grant_Check_1_c {ρ : Type} (n : Nat) : Orc ρ := orcCons 69 F_grant_Check_1 (grant_Check_1) (orcNil)
omit [UTabs] in
theorem O_slices_IndexFunc_api_Grant_api_Grant_grant_Check_1_c_ok {ρ : Type} (n : Nat) : (O_slices_IndexFunc_api_Grant_api_Grant_grant_Check_1_c n : Orc ρ).ok Tryd.prog := orcCons_ok (by kernel_rfl) (ok_grant_Check_1) (orcNil_ok)
noncomputable def T_slices_IndexFunc_api_Grant_api_Grant_grant_Check_1_c_s0 : Tm := ⟨[(1, .clo 69 [1000000])], [(0, (.lst .grant)), (7, .i64), (8, .i64)], [(1000000, .box [.d .grant])]⟩
noncomputable def X_slices_IndexFunc_api_Grant_api_Grant_grant_Check_1_c_s0 : Tm := ⟨[], [], [(1000000, .box [.d .grant])]⟩
noncomputable def R_slices_IndexFunc_api_Grant_api_Grant_grant_Check_1_c_s0 : Tm := ⟨[], [(4, .i64)], [(1000000, .box [.d .grant])]⟩
noncomputable def L_slices_IndexFunc_api_Grant_api_Grant_grant_Check_1_c_s0 {ρ : Type} (n : Nat) : LOrc ρ := lorcNil
omit [Tabs] [UTabs] in
theorem s_slices_IndexFunc_api_Grant_api_Grant_grant_Check_1_c_s0 {ρ : Type} (n : Nat) (rec : T_slices_IndexFunc_api_Grant_api_Grant_grant_Check_1_c_s0.den → Option ρ) kx kr s : dStep Tryd.prog 19 TT M_slices_IndexFunc_api_Grant_api_Grant_grant_Check_1_c (O_slices_IndexFunc_api_Grant_api_Grant_grant_Check_1_c n) (L_slices_IndexFunc_api_Grant_api_Grant_grant_Check_1_c_s0 n) dorcNil 0 (lbody 1000 C_slices_IndexFunc_api_Grant_api_Grant_grant_Check_1_c 0) T_slices_IndexFunc_api_Grant_api_Grant_grant_Check_1_c_s0 X_slices_IndexFunc_api_Grant_api_Grant_grant_Check_1_c_s0 R_slices_IndexFunc_api_Grant_api_Grant_grant_Check_1_c_s0 ⟨[], [], []⟩ rec kx kr s = slices_IndexFunc_api_Grant_api_Grant_grant_Check_1_c_s0 n rec kx kr s := by kernel_rfl
noncomputable def L_slices_IndexFunc_api_Grant_api_Grant_grant_Check_1_c {ρ : Type} (n : Nat) : LOrc ρ := lorcCons 0 (loopL 19 0 n T_slices_IndexFunc_api_Grant_api_Grant_grant_Check_1_c_s0 X_slices_IndexFunc_api_Grant_api_Grant_grant_Check_1_c_s0 R_slices_IndexFunc_api_Grant_api_Grant_grant_Check_1_c_s0 ⟨[], [], []⟩ (slices_IndexFunc_api_Grant_api_Grant_grant_Check_1_c_s0 n)) (lorcNil)
omit [Tabs] [UTabs] in
theorem e_slices_IndexFunc_api_Grant_api_Grant_grant_Check_1_c (n : Nat) (x) : evF Tryd.prog 19 TT M_slices_IndexFunc_api_Grant_api_Grant_grant_Check_1_c F_slices_IndexFunc_api_Grant_api_Grant_grant_Check_1_c (O_slices_IndexFunc_api_Grant_api_Grant_grant_Check_1_c n) (L_slices_IndexFunc_api_Grant_api_Grant_grant_Check_1_c n) dorcNil ⟨[], [], []⟩ [.tmp 4] C_slices_IndexFunc_api_Grant_api_Grant_grant_Check_1_c x = slices_IndexFunc_api_Grant_api_Grant_grant_Check_1_c n x := by kernel_rfl
omit [UTabs] in
theorem ok_slices_IndexFunc_api_Grant_api_Grant_grant_Check_1_c (n : Nat) : Contract Tryd.prog 59 F_slices_IndexFunc_api_Grant_api_Grant_grant_Check_1_c (slices_IndexFunc_api_Grant_api_Grant_grant_Check_1_c n) :=
  Contract.of_ev (c := C_slices_IndexFunc_api_Grant_api_Grant_grant_Check_1_c) (N := 19) Tryd.func59 (by kernel_rfl) (by kernel_rfl) (by kernel_rfl) (by kernel_rfl) (O_slices_IndexFunc_api_Grant_api_Grant_grant_Check_1_c_ok n) dorcNil_ok (.of (l := [(0, (lbody 1000 C_slices_IndexFunc_api_Grant_api_Grant_grant_Check_1_c 0))]) (by kernel_rfl) ⟨.head (loopL_sound (O_slices_IndexFunc_api_Grant_api_Grant_grant_Check_1_c_ok n) dorcNil_ok (.of (l := []) (by kernel_rfl) trivial) (s_slices_IndexFunc_api_Grant_api_Grant_grant_Check_1_c_s0 n)), trivial⟩) (e_slices_IndexFunc_api_Grant_api_Grant_grant_Check_1_c n)

noncomputable def C_slices_ContainsFunc_api_Grant_api_Grant_grant_Check_1_c : Code := bodyOf Tryd.f68
noncomputable def M_slices_ContainsFunc_api_Grant_api_Grant_grant_Check_1_c : List (Nat × ArgM) := [(59, ⟨[1], [], [], false⟩)]
noncomputable def O_slices_ContainsFunc_api_Grant_api_Grant_grant_Check_1_c {ρ : Type} (n : Nat) : Orc ρ := orcCons 59 F_slices_IndexFunc_api_Grant_api_Grant_grant_Check_1_c (slices_IndexFunc_api_Grant_api_Grant_grant_Check_1_c n) (orcNil)
omit [UTabs] in
theorem O_slices_ContainsFunc_api_Grant_api_Grant_grant_Check_1_c_ok {ρ : Type} (n : Nat) : (O_slices_ContainsFunc_api_Grant_api_Grant_grant_Check_1_c n : Orc ρ).ok Tryd.prog := orcCons_ok (by kernel_rfl) (ok_slices_IndexFunc_api_Grant_api_Grant_grant_Check_1_c n) (orcNil_ok)
noncomputable def L_slices_ContainsFunc_api_Grant_api_Grant_grant_Check_1_c {ρ : Type} (n : Nat) : LOrc ρ := lorcNil
omit [Tabs] [UTabs] in
theorem e_slices_ContainsFunc_api_Grant_api_Grant_grant_Check_1_c (n : Nat) (x) : evF Tryd.prog 9 TT M_slices_ContainsFunc_api_Grant_api_Grant_grant_Check_1_c F_slices_ContainsFunc_api_Grant_api_Grant_grant_Check_1_c (O_slices_ContainsFunc_api_Grant_api_Grant_grant_Check_1_c n) (L_slices_ContainsFunc_api_Grant_api_Grant_grant_Check_1_c n) dorcNil ⟨[], [], []⟩ [.tmp 4] C_slices_ContainsFunc_api_Grant_api_Grant_grant_Check_1_c x = slices_ContainsFunc_api_Grant_api_Grant_grant_Check_1_c n x := by kernel_rfl
omit [UTabs] in
theorem ok_slices_ContainsFunc_api_Grant_api_Grant_grant_Check_1_c (n : Nat) : Contract Tryd.prog 68 F_slices_ContainsFunc_api_Grant_api_Grant_grant_Check_1_c (slices_ContainsFunc_api_Grant_api_Grant_grant_Check_1_c n) :=
  Contract.of_ev (c := C_slices_ContainsFunc_api_Grant_api_Grant_grant_Check_1_c) (N := 9) Tryd.func68 (by kernel_rfl) (by kernel_rfl) (by kernel_rfl) (by kernel_rfl) (O_slices_ContainsFunc_api_Grant_api_Grant_grant_Check_1_c_ok n) dorcNil_ok (.of (l := []) (by kernel_rfl) trivial) (e_slices_ContainsFunc_api_Grant_api_Grant_grant_Check_1_c n)

noncomputable def C_grant_Check : Code := bodyOf Tryd.f20
noncomputable def M_grant_Check : List (Nat × ArgM) := [(68, ⟨[1], [], [], false⟩), (67, ⟨[], [], [], true⟩)]
noncomputable def O_grant_Check {ρ : Type} (n : Nat) : Orc ρ := orcCons 67 F_graph_Name (graph_Name n) (orcCons 68 F_slices_ContainsFunc_api_Grant_api_Grant_grant_Check_1_c (slices_ContainsFunc_api_Grant_api_Grant_grant_Check_1_c n) (orcNil))
omit [UTabs] in
theorem O_grant_Check_ok {ρ : Type} (n : Nat) : (O_grant_Check n : Orc ρ).ok Tryd.prog := orcCons_ok (by kernel_rfl) (ok_graph_Name n) (orcCons_ok (by kernel_rfl) (ok_slices_ContainsFunc_api_Grant_api_Grant_grant_Check_1_c n) (orcNil_ok))
noncomputable def T_grant_Check_s2 : Tm := ⟨[], [(0, (.lst .grant)), (10, (.lst .grant)), (11, .i64), (12, .i64), (31, (.lst .str)), (32, .i64), (33, .i64)], []⟩
noncomputable def X_grant_Check_s2 : Tm := ⟨[], [(0, (.lst .grant)), (10, (.lst .grant)), (11, .i64), (12, .i64)], []⟩
noncomputable def R_grant_Check_s2 : Tm := ⟨[], [(2, .i64)], []⟩
noncomputable def L_grant_Check_s2 {ρ : Type} (n : Nat) : LOrc ρ := lorcNil
omit [Tabs] [UTabs] in
theorem s_grant_Check_s2 {ρ : Type} (n : Nat) (rec : T_grant_Check_s2.den → Option ρ) kx kr s : dStep Tryd.prog 46 TT M_grant_Check (O_grant_Check n) (L_grant_Check_s2 n) dorcNil 2 (lbody 0 (lbody 1000 C_grant_Check 0) 0) T_grant_Check_s2 X_grant_Check_s2 R_grant_Check_s2 ⟨[], [], []⟩ rec kx kr s = grant_Check_s2 n rec kx kr s := by kernel_rfl
noncomputable def T_grant_Check_s0 : Tm := ⟨[], [(0, (.lst .grant)), (10, (.lst .grant)), (11, .i64), (12, .i64)], []⟩
noncomputable def X_grant_Check_s0 : Tm := ⟨[], [], []⟩
noncomputable def R_grant_Check_s0 : Tm := ⟨[], [(2, .i64)], []⟩
noncomputable def L_grant_Check_s0 {ρ : Type} (n : Nat) : LOrc ρ := lorcCons 2 (loopL 46 2 n T_grant_Check_s2 X_grant_Check_s2 R_grant_Check_s2 ⟨[], [], []⟩ (grant_Check_s2 n)) (lorcNil)
omit [Tabs] [UTabs] in
theorem s_grant_Check_s0 {ρ : Type} (n : Nat) (rec : T_grant_Check_s0.den → Option ρ) kx kr s : dStep Tryd.prog 46 TT M_grant_Check (O_grant_Check n) (L_grant_Check_s0 n) dorcNil 0 (lbody 1000 C_grant_Check 0) T_grant_Check_s0 X_grant_Check_s0 R_grant_Check_s0 ⟨[], [], []⟩ rec kx kr s = grant_Check_s0 n rec kx kr s := by kernel_rfl
noncomputable def L_grant_Check {ρ : Type} (n : Nat) : LOrc ρ := lorcCons 0 (loopL 46 0 n T_grant_Check_s0 X_grant_Check_s0 R_grant_Check_s0 ⟨[], [], []⟩ (grant_Check_s0 n)) (lorcNil)
omit [Tabs] [UTabs] in
theorem e_grant_Check (n : Nat) (x) : evF Tryd.prog 46 TT M_grant_Check F_grant_Check (O_grant_Check n) (L_grant_Check n) dorcNil ⟨[], [], []⟩ [.tmp 2] C_grant_Check x = grant_Check n x := by kernel_rfl
omit [UTabs] in
theorem ok_grant_Check (n : Nat) : Contract Tryd.prog 20 F_grant_Check (grant_Check n) :=
  Contract.of_ev (c := C_grant_Check) (N := 46) Tryd.func20 (by kernel_rfl) (by kernel_rfl) (by kernel_rfl) (by kernel_rfl) (O_grant_Check_ok n) dorcNil_ok (.of (l := [(0, (lbody 1000 C_grant_Check 0))]) (by kernel_rfl) ⟨.head (loopL_sound (O_grant_Check_ok n) dorcNil_ok (.of (l := [(2, (lbody 0 (lbody 1000 C_grant_Check 0) 0))]) (by kernel_rfl) ⟨.head (loopL_sound (O_grant_Check_ok n) dorcNil_ok (.of (l := []) (by kernel_rfl) trivial) (s_grant_Check_s2 n)), trivial⟩) (s_grant_Check_s0 n)), trivial⟩) (e_grant_Check n)

noncomputable def F_graph_Check : FnT := ⟨1, ⟨[], [(0, .graph)], []⟩, [.v .i64], []⟩
noncomputable def F_graph_Labels : FnT := ⟨1, ⟨[], [(0, (.lst .str))], []⟩, [.v .i64], []⟩
noncomputable def C_graph_Labels : Code := bodyOf Tryd.f117
noncomputable def M_graph_Labels : List (Nat × ArgM) := [(67, ⟨[], [], [], true⟩)]
noncomputable def O_graph_Labels {ρ : Type} (n : Nat) : Orc ρ := orcCons 67 F_graph_Name (graph_Name n) (orcNil)
omit [UTabs] in
theorem O_graph_Labels_ok {ρ : Type} (n : Nat) : (O_graph_Labels n : Orc ρ).ok Tryd.prog := orcCons_ok (by kernel_rfl) (ok_graph_Name n) (orcNil_ok)
noncomputable def T_graph_Labels_s0 : Tm := ⟨[], [(0, (.lst .str)), (8, (.lst .str)), (9, .i64), (10, .i64)], []⟩
noncomputable def X_graph_Labels_s0 : Tm := ⟨[], [], []⟩
noncomputable def R_graph_Labels_s0 : Tm := ⟨[], [(2, .i64)], []⟩
noncomputable def L_graph_Labels_s0 {ρ : Type} (n : Nat) : LOrc ρ := lorcNil
omit [Tabs] [UTabs] in
theorem s_graph_Labels_s0 {ρ : Type} (n : Nat) (rec : T_graph_Labels_s0.den → Option ρ) kx kr s : dStep Tryd.prog 32 TT M_graph_Labels (O_graph_Labels n) (L_graph_Labels_s0 n) dorcNil 0 (lbody 1000 C_graph_Labels 0) T_graph_Labels_s0 X_graph_Labels_s0 R_graph_Labels_s0 ⟨[], [], []⟩ rec kx kr s = graph_Labels_s0 n rec kx kr s := by kernel_rfl
noncomputable def L_graph_Labels {ρ : Type} (n : Nat) : LOrc ρ := lorcCons 0 (loopL 32 0 n T_graph_Labels_s0 X_graph_Labels_s0 R_graph_Labels_s0 ⟨[], [], []⟩ (graph_Labels_s0 n)) (lorcNil)
omit [Tabs] [UTabs] in
theorem e_graph_Labels (n : Nat) (x) : evF Tryd.prog 32 TT M_graph_Labels F_graph_Labels (O_graph_Labels n) (L_graph_Labels n) dorcNil ⟨[], [], []⟩ [.tmp 2] C_graph_Labels x = graph_Labels n x := by kernel_rfl
omit [UTabs] in
theorem ok_graph_Labels (n : Nat) : Contract Tryd.prog 117 F_graph_Labels (graph_Labels n) :=
  Contract.of_ev (c := C_graph_Labels) (N := 32) Tryd.func117 (by kernel_rfl) (by kernel_rfl) (by kernel_rfl) (by kernel_rfl) (O_graph_Labels_ok n) dorcNil_ok (.of (l := [(0, (lbody 1000 C_graph_Labels 0))]) (by kernel_rfl) ⟨.head (loopL_sound (O_graph_Labels_ok n) dorcNil_ok (.of (l := []) (by kernel_rfl) trivial) (s_graph_Labels_s0 n)), trivial⟩) (e_graph_Labels n)

noncomputable def F_graph_Props : FnT := ⟨1, ⟨[], [(0, (.lst .prp))], []⟩, [.v .i64], []⟩
noncomputable def F_value_Check : FnT := ⟨1, ⟨[], [(0, .val)], []⟩, [.v .i64], []⟩
noncomputable def F_value_check : FnT := ⟨2, ⟨[], [(0, .val), (1, .i64)], []⟩, [.v .i64], []⟩
noncomputable def C_value_check : Code := bodyOf Tryd.f133
noncomputable def M_value_check : List (Nat × ArgM) := [(134, ⟨[], [], [], true⟩), (133, ⟨[], [], [], true⟩)]
noncomputable def O_value_check {ρ : Type} (self_value_check : Ev.Val × Int × Unit → Option (Int × Unit)) (n : Nat) : Orc ρ := orcCons 134 F_valid (validN) (orcCons 133 F_value_check (self_value_check) (orcNil))
theorem O_value_check_ok {ρ : Type} (self_value_check : Ev.Val × Int × Unit → Option (Int × Unit)) (h_value_check : Contract Tryd.prog 133 F_value_check self_value_check) (n : Nat) : (O_value_check self_value_check n : Orc ρ).ok Tryd.prog := orcCons_ok (by kernel_rfl) (validN_ok) (orcCons_ok (by kernel_rfl) (h_value_check) (orcNil_ok))
noncomputable def T_value_check_s1 : Tm := ⟨[(2, .ptr 2 0)], [(1, .i64), (90, (.lst .val)), (91, .i64), (92, .i64)], [(2, .box [.d .val])]⟩
noncomputable def X_value_check_s1 : Tm := ⟨[(2, .ptr 2 0)], [], [(2, .box [.d .val])]⟩
noncomputable def R_value_check_s1 : Tm := ⟨[], [(4, .i64)], []⟩
noncomputable def L_value_check_s1 {ρ : Type} (self_value_check : Ev.Val × Int × Unit → Option (Int × Unit)) (n : Nat) : LOrc ρ := lorcNil
omit [Tabs] [UTabs] in
theorem s_value_check_s1 {ρ : Type} (self_value_check : Ev.Val × Int × Unit → Option (Int × Unit)) (n : Nat) (rec : T_value_check_s1.den → Option ρ) kx kr s : dStep Tryd.prog 114 TT M_value_check (O_value_check self_value_check n) (L_value_check_s1 self_value_check n) dorcNil 1 (lbody 1000 C_value_check 0) T_value_check_s1 X_value_check_s1 R_value_check_s1 ⟨[], [], []⟩ rec kx kr s = value_check_s1 self_value_check n rec kx kr s := by kernel_rfl
noncomputable def L_value_check {ρ : Type} (self_value_check : Ev.Val × Int × Unit → Option (Int × Unit)) (n : Nat) : LOrc ρ := lorcCons 1 (loopL 114 1 n T_value_check_s1 X_value_check_s1 R_value_check_s1 ⟨[], [], []⟩ (value_check_s1 self_value_check n)) (lorcNil)
omit [Tabs] [UTabs] in
theorem e_value_check (self_value_check : Ev.Val × Int × Unit → Option (Int × Unit)) (n : Nat) (x) : evF Tryd.prog 114 TT M_value_check F_value_check (O_value_check self_value_check n) (L_value_check self_value_check n) dorcNil ⟨[], [], []⟩ [.tmp 4] C_value_check x = value_check_b self_value_check n x := by kernel_rfl
theorem okb_value_check (self_value_check : Ev.Val × Int × Unit → Option (Int × Unit)) (h_value_check : Contract Tryd.prog 133 F_value_check self_value_check) (n : Nat) : Contract Tryd.prog 133 F_value_check (value_check_b self_value_check n) :=
  Contract.of_ev (c := C_value_check) (N := 114) Tryd.func133 (by kernel_rfl) (by kernel_rfl) (by kernel_rfl) (by kernel_rfl) (O_value_check_ok self_value_check h_value_check n) dorcNil_ok (.of (l := [(1, (lbody 1000 C_value_check 0))]) (by kernel_rfl) ⟨.head (loopL_sound (O_value_check_ok self_value_check h_value_check n) dorcNil_ok (.of (l := []) (by kernel_rfl) trivial) (s_value_check_s1 self_value_check n)), trivial⟩) (e_value_check self_value_check n)
theorem ok_value_check : ∀ n, Contract Tryd.prog 133 F_value_check (value_check n)
  | 0 => fun _ _ h => by cases h
  | n + 1 => okb_value_check _ (ok_value_check n) n

noncomputable def C_value_Check : Code := bodyOf Tryd.f81
noncomputable def M_value_Check : List (Nat × ArgM) := [(133, ⟨[], [], [], true⟩)]
noncomputable def O_value_Check {ρ : Type} (n : Nat) : Orc ρ := orcCons 133 F_value_check (value_check n) (orcNil)
theorem O_value_Check_ok {ρ : Type} (n : Nat) : (O_value_Check n : Orc ρ).ok Tryd.prog := orcCons_ok (by kernel_rfl) (ok_value_check n) (orcNil_ok)
noncomputable def L_value_Check {ρ : Type} (n : Nat) : LOrc ρ := lorcNil
omit [Tabs] [UTabs] in
theorem e_value_Check (n : Nat) (x) : evF Tryd.prog 5 TT M_value_Check F_value_Check (O_value_Check n) (L_value_Check n) dorcNil ⟨[], [], []⟩ [.tmp 2] C_value_Check x = value_Check n x := by kernel_rfl
theorem ok_value_Check (n : Nat) : Contract Tryd.prog 81 F_value_Check (value_Check n) :=
  Contract.of_ev (c := C_value_Check) (N := 5) Tryd.func81 (by kernel_rfl) (by kernel_rfl) (by kernel_rfl) (by kernel_rfl) (O_value_Check_ok n) dorcNil_ok (.of (l := []) (by kernel_rfl) trivial) (e_value_Check n)

noncomputable def C_graph_Props : Code := bodyOf Tryd.f118
noncomputable def M_graph_Props : List (Nat × ArgM) := [(67, ⟨[], [], [], true⟩), (81, ⟨[], [], [], true⟩)]
noncomputable def O_graph_Props {ρ : Type} (n : Nat) : Orc ρ := orcCons 67 F_graph_Name (graph_Name n) (orcCons 81 F_value_Check (value_Check n) (orcNil))
theorem O_graph_Props_ok {ρ : Type} (n : Nat) : (O_graph_Props n : Orc ρ).ok Tryd.prog := orcCons_ok (by kernel_rfl) (ok_graph_Name n) (orcCons_ok (by kernel_rfl) (ok_value_Check n) (orcNil_ok))
noncomputable def T_graph_Props_s0 : Tm := ⟨[], [(0, (.lst .prp)), (9, (.lst .prp)), (10, .i64), (11, .i64)], []⟩
noncomputable def X_graph_Props_s0 : Tm := ⟨[], [], []⟩
noncomputable def R_graph_Props_s0 : Tm := ⟨[], [(2, .i64)], []⟩
noncomputable def L_graph_Props_s0 {ρ : Type} (n : Nat) : LOrc ρ := lorcNil
omit [Tabs] [UTabs] in
theorem s_graph_Props_s0 {ρ : Type} (n : Nat) (rec : T_graph_Props_s0.den → Option ρ) kx kr s : dStep Tryd.prog 48 TT M_graph_Props (O_graph_Props n) (L_graph_Props_s0 n) (evDraw Tryd.prog 48 TT M_graph_Props (O_graph_Props n)) 0 (lbody 1000 C_graph_Props 0) T_graph_Props_s0 X_graph_Props_s0 R_graph_Props_s0 ⟨[], [], []⟩ rec kx kr s = graph_Props_s0 n rec kx kr s := by kernel_rfl
noncomputable def L_graph_Props {ρ : Type} (n : Nat) : LOrc ρ := lorcCons 0 (loopL 48 0 n T_graph_Props_s0 X_graph_Props_s0 R_graph_Props_s0 ⟨[], [], []⟩ (graph_Props_s0 n)) (lorcNil)
omit [Tabs] [UTabs] in
theorem e_graph_Props (n : Nat) (x) : evF Tryd.prog 48 TT M_graph_Props F_graph_Props (O_graph_Props n) (L_graph_Props n) (evDraw Tryd.prog 48 TT M_graph_Props (O_graph_Props n)) ⟨[], [], []⟩ [.tmp 2] C_graph_Props x = graph_Props n x := by kernel_rfl
theorem ok_graph_Props (n : Nat) : Contract Tryd.prog 118 F_graph_Props (graph_Props n) :=
  Contract.of_ev (c := C_graph_Props) (N := 48) Tryd.func118 (by kernel_rfl) (by kernel_rfl) (by kernel_rfl) (by kernel_rfl) (O_graph_Props_ok n) (evDraw_ok (O_graph_Props_ok n) (by kernel_rfl)) (.of (l := [(0, (lbody 1000 C_graph_Props 0))]) (by kernel_rfl) ⟨.head (loopL_sound (O_graph_Props_ok n) (evDraw_ok (O_graph_Props_ok n) (by kernel_rfl)) (.of (l := []) (by kernel_rfl) trivial) (s_graph_Props_s0 n)), trivial⟩) (e_graph_Props n)

noncomputable def F_cmp_Or_api_Errno : FnT := ⟨1, ⟨[], [(0, (.lst .i64))], []⟩, [.v .i64], []⟩
noncomputable def C_cmp_Or_api_Errno : Code := bodyOf Tryd.f116
noncomputable def M_cmp_Or_api_Errno : List (Nat × ArgM) := []
noncomputable def O_cmp_Or_api_Errno {ρ : Type} (n : Nat) : Orc ρ := orcNil
omit [UTabs] in
theorem O_cmp_Or_api_Errno_ok {ρ : Type} (n : Nat) : (O_cmp_Or_api_Errno n : Orc ρ).ok Tryd.prog := orcNil_ok
noncomputable def T_cmp_Or_api_Errno_s0 : Tm := ⟨[], [(3, .i64), (6, (.lst .i64)), (7, .i64), (8, .i64)], []⟩
noncomputable def X_cmp_Or_api_Errno_s0 : Tm := ⟨[], [(3, .i64)], []⟩
noncomputable def R_cmp_Or_api_Errno_s0 : Tm := ⟨[], [(2, .i64)], []⟩
noncomputable def L_cmp_Or_api_Errno_s0 {ρ : Type} (n : Nat) : LOrc ρ := lorcNil
omit [Tabs] [UTabs] in
theorem s_cmp_Or_api_Errno_s0 {ρ : Type} (n : Nat) (rec : T_cmp_Or_api_Errno_s0.den → Option ρ) kx kr s : dStep Tryd.prog 18 TT M_cmp_Or_api_Errno (O_cmp_Or_api_Errno n) (L_cmp_Or_api_Errno_s0 n) dorcNil 0 (lbody 1000 C_cmp_Or_api_Errno 0) T_cmp_Or_api_Errno_s0 X_cmp_Or_api_Errno_s0 R_cmp_Or_api_Errno_s0 ⟨[], [], []⟩ rec kx kr s = cmp_Or_api_Errno_s0 n rec kx kr s := by kernel_rfl
noncomputable def L_cmp_Or_api_Errno {ρ : Type} (n : Nat) : LOrc ρ := lorcCons 0 (loopL 18 0 n T_cmp_Or_api_Errno_s0 X_cmp_Or_api_Errno_s0 R_cmp_Or_api_Errno_s0 ⟨[], [], []⟩ (cmp_Or_api_Errno_s0 n)) (lorcNil)
omit [Tabs] [UTabs] in
theorem e_cmp_Or_api_Errno (n : Nat) (x) : evF Tryd.prog 18 TT M_cmp_Or_api_Errno F_cmp_Or_api_Errno (O_cmp_Or_api_Errno n) (L_cmp_Or_api_Errno n) dorcNil ⟨[], [], []⟩ [.tmp 2] C_cmp_Or_api_Errno x = cmp_Or_api_Errno n x := by kernel_rfl
omit [UTabs] in
theorem ok_cmp_Or_api_Errno (n : Nat) : Contract Tryd.prog 116 F_cmp_Or_api_Errno (cmp_Or_api_Errno n) :=
  Contract.of_ev (c := C_cmp_Or_api_Errno) (N := 18) Tryd.func116 (by kernel_rfl) (by kernel_rfl) (by kernel_rfl) (by kernel_rfl) (O_cmp_Or_api_Errno_ok n) dorcNil_ok (.of (l := [(0, (lbody 1000 C_cmp_Or_api_Errno 0))]) (by kernel_rfl) ⟨.head (loopL_sound (O_cmp_Or_api_Errno_ok n) dorcNil_ok (.of (l := []) (by kernel_rfl) trivial) (s_cmp_Or_api_Errno_s0 n)), trivial⟩) (e_cmp_Or_api_Errno n)

noncomputable def F_graph_Find : FnT := ⟨2, ⟨[], [(0, .graph), (1, .i64)], []⟩, [.v .i64], []⟩
noncomputable def F_slices_BinarySearchFunc_api_Node_api_Node_int_graph_Find_1 : FnT := ⟨3, ⟨[(2, .fn 123)], [(0, (.lst .node)), (1, .i64)], []⟩, [.v .i64, .v .bool], []⟩
noncomputable def F_graph_Find_1 : FnT := ⟨2, ⟨[], [(0, .node), (1, .i64)], []⟩, [.v .i64], []⟩
noncomputable def F_cmp_Compare_int : FnT := ⟨2, ⟨[], [(0, .i64), (1, .i64)], []⟩, [.v .i64], []⟩
noncomputable def F_cmp_isNaN_int : FnT := ⟨1, ⟨[], [(0, .i64)], []⟩, [.v .bool], []⟩
noncomputable def C_cmp_isNaN_int : Code := bodyOf Tryd.f168
noncomputable def M_cmp_isNaN_int : List (Nat × ArgM) := []
noncomputable def O_cmp_isNaN_int {ρ : Type} : Orc ρ := orcNil
omit [UTabs] in
theorem O_cmp_isNaN_int_ok {ρ : Type} : (O_cmp_isNaN_int : Orc ρ).ok Tryd.prog := orcNil_ok
noncomputable def L_cmp_isNaN_int {ρ : Type} : LOrc ρ := lorcNil
omit [Tabs] [UTabs] in
theorem e_cmp_isNaN_int (x) : evF Tryd.prog 6 TT M_cmp_isNaN_int F_cmp_isNaN_int (O_cmp_isNaN_int) (L_cmp_isNaN_int) dorcNil ⟨[], [], []⟩ [.tmp 2] C_cmp_isNaN_int x = cmp_isNaN_int x := by kernel_rfl
omit [UTabs] in
theorem ok_cmp_isNaN_int : Contract Tryd.prog 168 F_cmp_isNaN_int (cmp_isNaN_int) :=
  Contract.of_ev (c := C_cmp_isNaN_int) (N := 6) Tryd.func168 (by kernel_rfl) (by kernel_rfl) (by kernel_rfl) (by kernel_rfl) (O_cmp_isNaN_int_ok) dorcNil_ok (.of (l := []) (by kernel_rfl) trivial) (e_cmp_isNaN_int)

noncomputable def C_cmp_Compare_int : Code := bodyOf Tryd.f124
noncomputable def M_cmp_Compare_int : List (Nat × ArgM) := [(168, ⟨[], [], [], true⟩)]
noncomputable def O_cmp_Compare_int {ρ : Type} : Orc ρ := orcCons 168 F_cmp_isNaN_int (cmp_isNaN_int) (orcNil)
omit [UTabs] in
theorem O_cmp_Compare_int_ok {ρ : Type} : (O_cmp_Compare_int : Orc ρ).ok Tryd.prog := orcCons_ok (by kernel_rfl) (ok_cmp_isNaN_int) (orcNil_ok)
noncomputable def L_cmp_Compare_int {ρ : Type} : LOrc ρ := lorcNil
omit [Tabs] [UTabs] in
theorem e_cmp_Compare_int (x) : evF Tryd.prog 20 TT M_cmp_Compare_int F_cmp_Compare_int (O_cmp_Compare_int) (L_cmp_Compare_int) dorcNil ⟨[], [], []⟩ [.tmp 4] C_cmp_Compare_int x = cmp_Compare_int x := by kernel_rfl
omit [UTabs] in
theorem ok_cmp_Compare_int : Contract Tryd.prog 124 F_cmp_Compare_int (cmp_Compare_int) :=
  Contract.of_ev (c := C_cmp_Compare_int) (N := 20) Tryd.func124 (by kernel_rfl) (by kernel_rfl) (by kernel_rfl) (by kernel_rfl) (O_cmp_Compare_int_ok) dorcNil_ok (.of (l := []) (by kernel_rfl) trivial) (e_cmp_Compare_int)

noncomputable def C_graph_Find_1 : Code := bodyOf Tryd.f123
noncomputable def M_graph_Find_1 : List (Nat × ArgM) := [(124, ⟨[], [], [], true⟩)]
noncomputable def O_graph_Find_1 {ρ : Type} : Orc ρ := orcCons 124 F_cmp_Compare_int (cmp_Compare_int) (orcNil)
omit [UTabs] in
theorem O_graph_Find_1_ok {ρ : Type} : (O_graph_Find_1 : Orc ρ).ok Tryd.prog := orcCons_ok (by kernel_rfl) (ok_cmp_Compare_int) (orcNil_ok)
noncomputable def L_graph_Find_1 {ρ : Type} : LOrc ρ := lorcNil
omit [Tabs] [UTabs] in
theorem e_graph_Find_1 (x) : evF Tryd.prog 9 TT M_graph_Find_1 F_graph_Find_1 (O_graph_Find_1) (L_graph_Find_1) dorcNil ⟨[], [], []⟩ [.tmp 4] C_graph_Find_1 x = graph_Find_1 x := by kernel_rfl
omit [UTabs] in
theorem ok_graph_Find_1 : Contract Tryd.prog 123 F_graph_Find_1 (graph_Find_1) :=
  Contract.of_ev (c := C_graph_Find_1) (N := 9) Tryd.func123 (by kernel_rfl) (by kernel_rfl) (by kernel_rfl) (by kernel_rfl) (O_graph_Find_1_ok) dorcNil_ok (.of (l := []) (by kernel_rfl) trivial) (e_graph_Find_1)

noncomputable def C_slices_BinarySearchFunc_api_Node_api_Node_int_graph_Find_1 : Code := bodyOf Tryd.f122
noncomputable def M_slices_BinarySearchFunc_api_Node_api_Node_int_graph_Find_1 : List (Nat × ArgM) := [(123, ⟨[], [], [], true⟩)]
noncomputable def O_slices_BinarySearchFunc_api_Node_api_Node_int_graph_Find_1 {ρ : Type} (n : Nat) : Orc ρ := orcCons 123 F_graph_Find_1 (graph_Find_1) (orcNil)
omit [UTabs] in
theorem O_slices_BinarySearchFunc_api_Node_api_Node_int_graph_Find_1_ok {ρ : Type} (n : Nat) : (O_slices_BinarySearchFunc_api_Node_api_Node_int_graph_Find_1 n : Orc ρ).ok Tryd.prog := orcCons_ok (by kernel_rfl) (ok_graph_Find_1) (orcNil_ok)
noncomputable def T_slices_BinarySearchFunc_api_Node_api_Node_int_graph_Find_1_s0 : Tm := ⟨[(2, .fn 123)], [(0, (.lst .node)), (1, .i64), (8, .i64), (9, .i64), (10, .i64)], []⟩
noncomputable def X_slices_BinarySearchFunc_api_Node_api_Node_int_graph_Find_1_s0 : Tm := ⟨[(2, .fn 123)], [(0, (.lst .node)), (1, .i64), (8, .i64), (9, .i64)], []⟩
noncomputable def R_slices_BinarySearchFunc_api_Node_api_Node_int_graph_Find_1_s0 : Tm := ⟨[], [], []⟩
noncomputable def L_slices_BinarySearchFunc_api_Node_api_Node_int_graph_Find_1_s0 {ρ : Type} (n : Nat) : LOrc ρ := lorcNil
omit [Tabs] [UTabs] in
theorem s_slices_BinarySearchFunc_api_Node_api_Node_int_graph_Find_1_s0 {ρ : Type} (n : Nat) (rec : T_slices_BinarySearchFunc_api_Node_api_Node_int_graph_Find_1_s0.den → Option ρ) kx kr s : dStep Tryd.prog 49 TT M_slices_BinarySearchFunc_api_Node_api_Node_int_graph_Find_1 (O_slices_BinarySearchFunc_api_Node_api_Node_int_graph_Find_1 n) (L_slices_BinarySearchFunc_api_Node_api_Node_int_graph_Find_1_s0 n) dorcNil 0 (lbody 1000 C_slices_BinarySearchFunc_api_Node_api_Node_int_graph_Find_1 0) T_slices_BinarySearchFunc_api_Node_api_Node_int_graph_Find_1_s0 X_slices_BinarySearchFunc_api_Node_api_Node_int_graph_Find_1_s0 R_slices_BinarySearchFunc_api_Node_api_Node_int_graph_Find_1_s0 ⟨[], [], []⟩ rec kx kr s = slices_BinarySearchFunc_api_Node_api_Node_int_graph_Find_1_s0 n rec kx kr s := by kernel_rfl
noncomputable def L_slices_BinarySearchFunc_api_Node_api_Node_int_graph_Find_1 {ρ : Type} (n : Nat) : LOrc ρ := lorcCons 0 (loopL 49 0 n T_slices_BinarySearchFunc_api_Node_api_Node_int_graph_Find_1_s0 X_slices_BinarySearchFunc_api_Node_api_Node_int_graph_Find_1_s0 R_slices_BinarySearchFunc_api_Node_api_Node_int_graph_Find_1_s0 ⟨[], [], []⟩ (slices_BinarySearchFunc_api_Node_api_Node_int_graph_Find_1_s0 n)) (lorcNil)
omit [Tabs] [UTabs] in
theorem e_slices_BinarySearchFunc_api_Node_api_Node_int_graph_Find_1 (n : Nat) (x) : evF Tryd.prog 49 TT M_slices_BinarySearchFunc_api_Node_api_Node_int_graph_Find_1 F_slices_BinarySearchFunc_api_Node_api_Node_int_graph_Find_1 (O_slices_BinarySearchFunc_api_Node_api_Node_int_graph_Find_1 n) (L_slices_BinarySearchFunc_api_Node_api_Node_int_graph_Find_1 n) dorcNil ⟨[], [], []⟩ [.tmp 6, .tmp 7] C_slices_BinarySearchFunc_api_Node_api_Node_int_graph_Find_1 x = slices_BinarySearchFunc_api_Node_api_Node_int_graph_Find_1 n x := by kernel_rfl
omit [UTabs] in
theorem ok_slices_BinarySearchFunc_api_Node_api_Node_int_graph_Find_1 (n : Nat) : Contract Tryd.prog 122 F_slices_BinarySearchFunc_api_Node_api_Node_int_graph_Find_1 (slices_BinarySearchFunc_api_Node_api_Node_int_graph_Find_1 n) :=
  Contract.of_ev (c := C_slices_BinarySearchFunc_api_Node_api_Node_int_graph_Find_1) (N := 49) Tryd.func122 (by kernel_rfl) (by kernel_rfl) (by kernel_rfl) (by kernel_rfl) (O_slices_BinarySearchFunc_api_Node_api_Node_int_graph_Find_1_ok n) dorcNil_ok (.of (l := [(0, (lbody 1000 C_slices_BinarySearchFunc_api_Node_api_Node_int_graph_Find_1 0))]) (by kernel_rfl) ⟨.head (loopL_sound (O_slices_BinarySearchFunc_api_Node_api_Node_int_graph_Find_1_ok n) dorcNil_ok (.of (l := []) (by kernel_rfl) trivial) (s_slices_BinarySearchFunc_api_Node_api_Node_int_graph_Find_1_s0 n)), trivial⟩) (e_slices_BinarySearchFunc_api_Node_api_Node_int_graph_Find_1 n)

noncomputable def C_graph_Find : Code := bodyOf Tryd.f63
noncomputable def M_graph_Find : List (Nat × ArgM) := [(122, ⟨[], [], [], true⟩)]
noncomputable def O_graph_Find {ρ : Type} (n : Nat) : Orc ρ := orcCons 122 F_slices_BinarySearchFunc_api_Node_api_Node_int_graph_Find_1 (slices_BinarySearchFunc_api_Node_api_Node_int_graph_Find_1 n) (orcNil)
omit [UTabs] in
theorem O_graph_Find_ok {ρ : Type} (n : Nat) : (O_graph_Find n : Orc ρ).ok Tryd.prog := orcCons_ok (by kernel_rfl) (ok_slices_BinarySearchFunc_api_Node_api_Node_int_graph_Find_1 n) (orcNil_ok)
noncomputable def L_graph_Find {ρ : Type} (n : Nat) : LOrc ρ := lorcNil
omit [Tabs] [UTabs] in
theorem e_graph_Find (n : Nat) (x) : evF Tryd.prog 17 TT M_graph_Find F_graph_Find (O_graph_Find n) (L_graph_Find n) dorcNil ⟨[], [], []⟩ [.tmp 4] C_graph_Find x = graph_Find n x := by kernel_rfl
omit [UTabs] in
theorem ok_graph_Find (n : Nat) : Contract Tryd.prog 63 F_graph_Find (graph_Find n) :=
  Contract.of_ev (c := C_graph_Find) (N := 17) Tryd.func63 (by kernel_rfl) (by kernel_rfl) (by kernel_rfl) (by kernel_rfl) (O_graph_Find_ok n) dorcNil_ok (.of (l := []) (by kernel_rfl) trivial) (e_graph_Find n)

noncomputable def C_graph_Check : Code := bodyOf Tryd.f58
noncomputable def M_graph_Check : List (Nat × ArgM) := [(117, ⟨[], [], [], true⟩), (118, ⟨[], [], [], true⟩), (116, ⟨[], [], [], true⟩), (63, ⟨[], [], [], true⟩), (67, ⟨[], [], [], true⟩)]
noncomputable def O_graph_Check {ρ : Type} (n : Nat) : Orc ρ := orcCons 117 F_graph_Labels (graph_Labels n) (orcCons 118 F_graph_Props (graph_Props n) (orcCons 116 F_cmp_Or_api_Errno (cmp_Or_api_Errno n) (orcCons 63 F_graph_Find (graph_Find n) (orcCons 67 F_graph_Name (graph_Name n) (orcNil)))))
theorem O_graph_Check_ok {ρ : Type} (n : Nat) : (O_graph_Check n : Orc ρ).ok Tryd.prog := orcCons_ok (by kernel_rfl) (ok_graph_Labels n) (orcCons_ok (by kernel_rfl) (ok_graph_Props n) (orcCons_ok (by kernel_rfl) (ok_cmp_Or_api_Errno n) (orcCons_ok (by kernel_rfl) (ok_graph_Find n) (orcCons_ok (by kernel_rfl) (ok_graph_Name n) (orcNil_ok)))))
noncomputable def T_graph_Check_s0 : Tm := ⟨[(1, .ptr 1 0)], [(3, .i64), (22, (.lst .node)), (23, .i64), (24, .i64)], [(1, .box [.d .graph])]⟩
noncomputable def X_graph_Check_s0 : Tm := ⟨[(1, .ptr 1 0)], [(3, .i64)], [(1, .box [.d .graph])]⟩
noncomputable def R_graph_Check_s0 : Tm := ⟨[], [(2, .i64)], []⟩
noncomputable def L_graph_Check_s0 {ρ : Type} (n : Nat) : LOrc ρ := lorcNil
omit [Tabs] [UTabs] in
theorem s_graph_Check_s0 {ρ : Type} (n : Nat) (rec : T_graph_Check_s0.den → Option ρ) kx kr s : dStep Tryd.prog 103 TT M_graph_Check (O_graph_Check n) (L_graph_Check_s0 n) (evDraw Tryd.prog 103 TT M_graph_Check (O_graph_Check n)) 0 (lbody 1000 C_graph_Check 0) T_graph_Check_s0 X_graph_Check_s0 R_graph_Check_s0 ⟨[], [], []⟩ rec kx kr s = graph_Check_s0 n rec kx kr s := by kernel_rfl
noncomputable def T_graph_Check_s2 : Tm := ⟨[(1, .ptr 1 0)], [(3, .i64), (7, .i64), (48, (.lst .edg)), (49, .i64), (50, .i64)], [(1, .box [.d .graph])]⟩
noncomputable def X_graph_Check_s2 : Tm := ⟨[(1, .ptr 1 0)], [(3, .i64), (7, .i64)], [(1, .box [.d .graph])]⟩
noncomputable def R_graph_Check_s2 : Tm := ⟨[], [(2, .i64)], []⟩
noncomputable def L_graph_Check_s2 {ρ : Type} (n : Nat) : LOrc ρ := lorcNil
omit [Tabs] [UTabs] in
theorem s_graph_Check_s2 {ρ : Type} (n : Nat) (rec : T_graph_Check_s2.den → Option ρ) kx kr s : dStep Tryd.prog 103 TT M_graph_Check (O_graph_Check n) (L_graph_Check_s2 n) (evDraw Tryd.prog 103 TT M_graph_Check (O_graph_Check n)) 2 (lbody 1000 C_graph_Check 1) T_graph_Check_s2 X_graph_Check_s2 R_graph_Check_s2 ⟨[], [], []⟩ rec kx kr s = graph_Check_s2 n rec kx kr s := by kernel_rfl
noncomputable def L_graph_Check {ρ : Type} (n : Nat) : LOrc ρ := lorcCons 0 (loopL 103 0 n T_graph_Check_s0 X_graph_Check_s0 R_graph_Check_s0 ⟨[], [], []⟩ (graph_Check_s0 n)) (lorcCons 2 (loopL 103 2 n T_graph_Check_s2 X_graph_Check_s2 R_graph_Check_s2 ⟨[], [], []⟩ (graph_Check_s2 n)) (lorcNil))
omit [Tabs] [UTabs] in
theorem e_graph_Check (n : Nat) (x) : evF Tryd.prog 103 TT M_graph_Check F_graph_Check (O_graph_Check n) (L_graph_Check n) (evDraw Tryd.prog 103 TT M_graph_Check (O_graph_Check n)) ⟨[], [], []⟩ [.tmp 2] C_graph_Check x = graph_Check n x := by kernel_rfl
theorem ok_graph_Check (n : Nat) : Contract Tryd.prog 58 F_graph_Check (graph_Check n) :=
  Contract.of_ev (c := C_graph_Check) (N := 103) Tryd.func58 (by kernel_rfl) (by kernel_rfl) (by kernel_rfl) (by kernel_rfl) (O_graph_Check_ok n) (evDraw_ok (O_graph_Check_ok n) (by kernel_rfl)) (.of (l := [(0, (lbody 1000 C_graph_Check 0)), (2, (lbody 1000 C_graph_Check 1))]) (by kernel_rfl) ⟨.head (loopL_sound (O_graph_Check_ok n) (evDraw_ok (O_graph_Check_ok n) (by kernel_rfl)) (.of (l := []) (by kernel_rfl) trivial) (s_graph_Check_s0 n)), ⟨.tail rfl (.head (loopL_sound (O_graph_Check_ok n) (evDraw_ok (O_graph_Check_ok n) (by kernel_rfl)) (.of (l := []) (by kernel_rfl) trivial) (s_graph_Check_s2 n))), trivial⟩⟩) (e_graph_Check n)

noncomputable def F_slices_IndexFunc_api_Grant_api_Grant_grant_See_1_c : FnT := ⟨2, ⟨[(1, .clo 60 [1000000])], [(0, (.lst .grant))], [(1000000, .box [.d .str])]⟩, [.v .i64], [(1000000, .box [.d .str])]⟩
noncomputable def F_grant_See_1 : FnT := ⟨2, ⟨[(1, .ptr 1000000 0)], [(0, .grant)], [(1000000, .box [.d .str])]⟩, [.v .bool], [(1000000, .box [.d .str])]⟩
noncomputable def C_grant_See_1 : Code := bodyOf Tryd.f60
noncomputable def M_grant_See_1 : List (Nat × ArgM) := []
noncomputable def O_grant_See_1 {ρ : Type} : Orc ρ := orcNil
omit [UTabs] in
theorem O_grant_See_1_ok {ρ : Type} : (O_grant_See_1 : Orc ρ).ok Tryd.prog := orcNil_ok
noncomputable def L_grant_See_1 {ρ : Type} : LOrc ρ := lorcNil
omit [Tabs] [UTabs] in
theorem e_grant_See_1 (x) : evF Tryd.prog 8 TT M_grant_See_1 F_grant_See_1 (O_grant_See_1) (L_grant_See_1) dorcNil ⟨[], [], []⟩ [.tmp 3] C_grant_See_1 x = grant_See_1 x := by kernel_rfl
omit [UTabs] in
theorem ok_grant_See_1 : Contract Tryd.prog 60 F_grant_See_1 (grant_See_1) :=
  Contract.of_ev (c := C_grant_See_1) (N := 8) Tryd.func60 (by kernel_rfl) (by kernel_rfl) (by kernel_rfl) (by kernel_rfl) (O_grant_See_1_ok) dorcNil_ok (.of (l := []) (by kernel_rfl) trivial) (e_grant_See_1)

noncomputable def C_slices_IndexFunc_api_Grant_api_Grant_grant_See_1_c : Code := bodyOf Tryd.f59
noncomputable def M_slices_IndexFunc_api_Grant_api_Grant_grant_See_1_c : List (Nat × ArgM) := [(60, ⟨[1], [], [], false⟩)]
noncomputable def O_slices_IndexFunc_api_Grant_api_Grant_grant_See_1_c {ρ : Type} (n : Nat) : Orc ρ := orcCons 60 F_grant_See_1 (grant_See_1) (orcNil)
omit [UTabs] in
theorem O_slices_IndexFunc_api_Grant_api_Grant_grant_See_1_c_ok {ρ : Type} (n : Nat) : (O_slices_IndexFunc_api_Grant_api_Grant_grant_See_1_c n : Orc ρ).ok Tryd.prog := orcCons_ok (by kernel_rfl) (ok_grant_See_1) (orcNil_ok)
noncomputable def T_slices_IndexFunc_api_Grant_api_Grant_grant_See_1_c_s0 : Tm := ⟨[(1, .clo 60 [1000000])], [(0, (.lst .grant)), (7, .i64), (8, .i64)], [(1000000, .box [.d .str])]⟩
noncomputable def X_slices_IndexFunc_api_Grant_api_Grant_grant_See_1_c_s0 : Tm := ⟨[], [], [(1000000, .box [.d .str])]⟩
noncomputable def R_slices_IndexFunc_api_Grant_api_Grant_grant_See_1_c_s0 : Tm := ⟨[], [(4, .i64)], [(1000000, .box [.d .str])]⟩
noncomputable def L_slices_IndexFunc_api_Grant_api_Grant_grant_See_1_c_s0 {ρ : Type} (n : Nat) : LOrc ρ := lorcNil
omit [Tabs] [UTabs] in
theorem s_slices_IndexFunc_api_Grant_api_Grant_grant_See_1_c_s0 {ρ : Type} (n : Nat) (rec : T_slices_IndexFunc_api_Grant_api_Grant_grant_See_1_c_s0.den → Option ρ) kx kr s : dStep Tryd.prog 19 TT M_slices_IndexFunc_api_Grant_api_Grant_grant_See_1_c (O_slices_IndexFunc_api_Grant_api_Grant_grant_See_1_c n) (L_slices_IndexFunc_api_Grant_api_Grant_grant_See_1_c_s0 n) dorcNil 0 (lbody 1000 C_slices_IndexFunc_api_Grant_api_Grant_grant_See_1_c 0) T_slices_IndexFunc_api_Grant_api_Grant_grant_See_1_c_s0 X_slices_IndexFunc_api_Grant_api_Grant_grant_See_1_c_s0 R_slices_IndexFunc_api_Grant_api_Grant_grant_See_1_c_s0 ⟨[], [], []⟩ rec kx kr s = slices_IndexFunc_api_Grant_api_Grant_grant_See_1_c_s0 n rec kx kr s := by kernel_rfl
noncomputable def L_slices_IndexFunc_api_Grant_api_Grant_grant_See_1_c {ρ : Type} (n : Nat) : LOrc ρ := lorcCons 0 (loopL 19 0 n T_slices_IndexFunc_api_Grant_api_Grant_grant_See_1_c_s0 X_slices_IndexFunc_api_Grant_api_Grant_grant_See_1_c_s0 R_slices_IndexFunc_api_Grant_api_Grant_grant_See_1_c_s0 ⟨[], [], []⟩ (slices_IndexFunc_api_Grant_api_Grant_grant_See_1_c_s0 n)) (lorcNil)
omit [Tabs] [UTabs] in
theorem e_slices_IndexFunc_api_Grant_api_Grant_grant_See_1_c (n : Nat) (x) : evF Tryd.prog 19 TT M_slices_IndexFunc_api_Grant_api_Grant_grant_See_1_c F_slices_IndexFunc_api_Grant_api_Grant_grant_See_1_c (O_slices_IndexFunc_api_Grant_api_Grant_grant_See_1_c n) (L_slices_IndexFunc_api_Grant_api_Grant_grant_See_1_c n) dorcNil ⟨[], [], []⟩ [.tmp 4] C_slices_IndexFunc_api_Grant_api_Grant_grant_See_1_c x = slices_IndexFunc_api_Grant_api_Grant_grant_See_1_c n x := by kernel_rfl
omit [UTabs] in
theorem ok_slices_IndexFunc_api_Grant_api_Grant_grant_See_1_c (n : Nat) : Contract Tryd.prog 59 F_slices_IndexFunc_api_Grant_api_Grant_grant_See_1_c (slices_IndexFunc_api_Grant_api_Grant_grant_See_1_c n) :=
  Contract.of_ev (c := C_slices_IndexFunc_api_Grant_api_Grant_grant_See_1_c) (N := 19) Tryd.func59 (by kernel_rfl) (by kernel_rfl) (by kernel_rfl) (by kernel_rfl) (O_slices_IndexFunc_api_Grant_api_Grant_grant_See_1_c_ok n) dorcNil_ok (.of (l := [(0, (lbody 1000 C_slices_IndexFunc_api_Grant_api_Grant_grant_See_1_c 0))]) (by kernel_rfl) ⟨.head (loopL_sound (O_slices_IndexFunc_api_Grant_api_Grant_grant_See_1_c_ok n) dorcNil_ok (.of (l := []) (by kernel_rfl) trivial) (s_slices_IndexFunc_api_Grant_api_Grant_grant_See_1_c_s0 n)), trivial⟩) (e_slices_IndexFunc_api_Grant_api_Grant_grant_See_1_c n)

noncomputable def F_grant_sees : FnT := ⟨2, ⟨[], [(0, .grant), (1, .node)], []⟩, [.v .bool], []⟩
noncomputable def F_slices_ContainsFunc_string_string_grant_sees_1_c : FnT := ⟨2, ⟨[(1, .clo 119 [1000000])], [(0, (.lst .str))], [(1000000, .box [.d .node])]⟩, [.v .bool], [(1000000, .box [.d .node])]⟩
noncomputable def F_slices_IndexFunc_string_string_grant_sees_1_c : FnT := ⟨2, ⟨[(1, .clo 119 [1000000])], [(0, (.lst .str))], [(1000000, .box [.d .node])]⟩, [.v .i64], [(1000000, .box [.d .node])]⟩
noncomputable def F_grant_sees_1 : FnT := ⟨2, ⟨[(1, .ptr 1000000 0)], [(0, .str)], [(1000000, .box [.d .node])]⟩, [.v .bool], [(1000000, .box [.d .node])]⟩
noncomputable def F_slices_Contains_string_string : FnT := ⟨2, ⟨[], [(0, (.lst .str)), (1, .str)], []⟩, [.v .bool], []⟩
noncomputable def F_slices_Index_string_string : FnT := ⟨2, ⟨[], [(0, (.lst .str)), (1, .str)], []⟩, [.v .i64], []⟩
noncomputable def C_slices_Index_string_string : Code := bodyOf Tryd.f80
noncomputable def M_slices_Index_string_string : List (Nat × ArgM) := []
noncomputable def O_slices_Index_string_string {ρ : Type} (n : Nat) : Orc ρ := orcNil
omit [UTabs] in
theorem O_slices_Index_string_string_ok {ρ : Type} (n : Nat) : (O_slices_Index_string_string n : Orc ρ).ok Tryd.prog := orcNil_ok
noncomputable def T_slices_Index_string_string_s0 : Tm := ⟨[], [(0, (.lst .str)), (1, .str), (7, .i64), (8, .i64)], []⟩
noncomputable def X_slices_Index_string_string_s0 : Tm := ⟨[], [], []⟩
noncomputable def R_slices_Index_string_string_s0 : Tm := ⟨[], [(4, .i64)], []⟩
noncomputable def L_slices_Index_string_string_s0 {ρ : Type} (n : Nat) : LOrc ρ := lorcNil
omit [Tabs] [UTabs] in
theorem s_slices_Index_string_string_s0 {ρ : Type} (n : Nat) (rec : T_slices_Index_string_string_s0.den → Option ρ) kx kr s : dStep Tryd.prog 19 TT M_slices_Index_string_string (O_slices_Index_string_string n) (L_slices_Index_string_string_s0 n) dorcNil 0 (lbody 1000 C_slices_Index_string_string 0) T_slices_Index_string_string_s0 X_slices_Index_string_string_s0 R_slices_Index_string_string_s0 ⟨[], [], []⟩ rec kx kr s = slices_Index_string_string_s0 n rec kx kr s := by kernel_rfl
noncomputable def L_slices_Index_string_string {ρ : Type} (n : Nat) : LOrc ρ := lorcCons 0 (loopL 19 0 n T_slices_Index_string_string_s0 X_slices_Index_string_string_s0 R_slices_Index_string_string_s0 ⟨[], [], []⟩ (slices_Index_string_string_s0 n)) (lorcNil)
omit [Tabs] [UTabs] in
theorem e_slices_Index_string_string (n : Nat) (x) : evF Tryd.prog 19 TT M_slices_Index_string_string F_slices_Index_string_string (O_slices_Index_string_string n) (L_slices_Index_string_string n) dorcNil ⟨[], [], []⟩ [.tmp 4] C_slices_Index_string_string x = slices_Index_string_string n x := by kernel_rfl
omit [UTabs] in
theorem ok_slices_Index_string_string (n : Nat) : Contract Tryd.prog 80 F_slices_Index_string_string (slices_Index_string_string n) :=
  Contract.of_ev (c := C_slices_Index_string_string) (N := 19) Tryd.func80 (by kernel_rfl) (by kernel_rfl) (by kernel_rfl) (by kernel_rfl) (O_slices_Index_string_string_ok n) dorcNil_ok (.of (l := [(0, (lbody 1000 C_slices_Index_string_string 0))]) (by kernel_rfl) ⟨.head (loopL_sound (O_slices_Index_string_string_ok n) dorcNil_ok (.of (l := []) (by kernel_rfl) trivial) (s_slices_Index_string_string_s0 n)), trivial⟩) (e_slices_Index_string_string n)

noncomputable def C_slices_Contains_string_string : Code := bodyOf Tryd.f28
noncomputable def M_slices_Contains_string_string : List (Nat × ArgM) := [(80, ⟨[], [], [], true⟩)]
noncomputable def O_slices_Contains_string_string {ρ : Type} (n : Nat) : Orc ρ := orcCons 80 F_slices_Index_string_string (slices_Index_string_string n) (orcNil)
omit [UTabs] in
theorem O_slices_Contains_string_string_ok {ρ : Type} (n : Nat) : (O_slices_Contains_string_string n : Orc ρ).ok Tryd.prog := orcCons_ok (by kernel_rfl) (ok_slices_Index_string_string n) (orcNil_ok)
noncomputable def L_slices_Contains_string_string {ρ : Type} (n : Nat) : LOrc ρ := lorcNil
omit [Tabs] [UTabs] in
theorem e_slices_Contains_string_string (n : Nat) (x) : evF Tryd.prog 9 TT M_slices_Contains_string_string F_slices_Contains_string_string (O_slices_Contains_string_string n) (L_slices_Contains_string_string n) dorcNil ⟨[], [], []⟩ [.tmp 4] C_slices_Contains_string_string x = slices_Contains_string_string n x := by kernel_rfl
omit [UTabs] in
theorem ok_slices_Contains_string_string (n : Nat) : Contract Tryd.prog 28 F_slices_Contains_string_string (slices_Contains_string_string n) :=
  Contract.of_ev (c := C_slices_Contains_string_string) (N := 9) Tryd.func28 (by kernel_rfl) (by kernel_rfl) (by kernel_rfl) (by kernel_rfl) (O_slices_Contains_string_string_ok n) dorcNil_ok (.of (l := []) (by kernel_rfl) trivial) (e_slices_Contains_string_string n)

noncomputable def C_grant_sees_1 : Code := bodyOf Tryd.f119
noncomputable def M_grant_sees_1 : List (Nat × ArgM) := [(28, ⟨[], [], [], true⟩)]
noncomputable def O_grant_sees_1 {ρ : Type} (n : Nat) : Orc ρ := orcCons 28 F_slices_Contains_string_string (slices_Contains_string_string n) (orcNil)
omit [UTabs] in
theorem O_grant_sees_1_ok {ρ : Type} (n : Nat) : (O_grant_sees_1 n : Orc ρ).ok Tryd.prog := orcCons_ok (by kernel_rfl) (ok_slices_Contains_string_string n) (orcNil_ok)
noncomputable def L_grant_sees_1 {ρ : Type} (n : Nat) : LOrc ρ := lorcNil
omit [Tabs] [UTabs] in
theorem e_grant_sees_1 (n : Nat) (x) : evF Tryd.prog 12 TT M_grant_sees_1 F_grant_sees_1 (O_grant_sees_1 n) (L_grant_sees_1 n) dorcNil ⟨[], [], []⟩ [.tmp 3] C_grant_sees_1 x = grant_sees_1 n x := by kernel_rfl
omit [UTabs] in
theorem ok_grant_sees_1 (n : Nat) : Contract Tryd.prog 119 F_grant_sees_1 (grant_sees_1 n) :=
  Contract.of_ev (c := C_grant_sees_1) (N := 12) Tryd.func119 (by kernel_rfl) (by kernel_rfl) (by kernel_rfl) (by kernel_rfl) (O_grant_sees_1_ok n) dorcNil_ok (.of (l := []) (by kernel_rfl) trivial) (e_grant_sees_1 n)

noncomputable def C_slices_IndexFunc_string_string_grant_sees_1_c : Code := bodyOf Tryd.f132
noncomputable def M_slices_IndexFunc_string_string_grant_sees_1_c : List (Nat × ArgM) := [(119, ⟨[1], [], [], false⟩)]
noncomputable def O_slices_IndexFunc_string_string_grant_sees_1_c {ρ : Type} (n : Nat) : Orc ρ := orcCons 119 F_grant_sees_1 (grant_sees_1 n) (orcNil)
omit [UTabs] in
theorem O_slices_IndexFunc_string_string_grant_sees_1_c_ok {ρ : Type} (n : Nat) : (O_slices_IndexFunc_string_string_grant_sees_1_c n : Orc ρ).ok Tryd.prog := orcCons_ok (by kernel_rfl) (ok_grant_sees_1 n) (orcNil_ok)
noncomputable def T_slices_IndexFunc_string_string_grant_sees_1_c_s0 : Tm := ⟨[(1, .clo 119 [1000000])], [(0, (.lst .str)), (7, .i64), (8, .i64)], [(1000000, .box [.d .node])]⟩
noncomputable def X_slices_IndexFunc_string_string_grant_sees_1_c_s0 : Tm := ⟨[], [], [(1000000, .box [.d .node])]⟩
noncomputable def R_slices_IndexFunc_string_string_grant_sees_1_c_s0 : Tm := ⟨[], [(4, .i64)], [(1000000, .box [.d .node])]⟩
noncomputable def L_slices_IndexFunc_string_string_grant_sees_1_c_s0 {ρ : Type} (n : Nat) : LOrc ρ := lorcNil
omit [Tabs] [UTabs] in
theorem s_slices_IndexFunc_string_string_grant_sees_1_c_s0 {ρ : Type} (n : Nat) (rec : T_slices_IndexFunc_string_string_grant_sees_1_c_s0.den → Option ρ) kx kr s : dStep Tryd.prog 19 TT M_slices_IndexFunc_string_string_grant_sees_1_c (O_slices_IndexFunc_string_string_grant_sees_1_c n) (L_slices_IndexFunc_string_string_grant_sees_1_c_s0 n) dorcNil 0 (lbody 1000 C_slices_IndexFunc_string_string_grant_sees_1_c 0) T_slices_IndexFunc_string_string_grant_sees_1_c_s0 X_slices_IndexFunc_string_string_grant_sees_1_c_s0 R_slices_IndexFunc_string_string_grant_sees_1_c_s0 ⟨[], [], []⟩ rec kx kr s = slices_IndexFunc_string_string_grant_sees_1_c_s0 n rec kx kr s := by kernel_rfl
noncomputable def L_slices_IndexFunc_string_string_grant_sees_1_c {ρ : Type} (n : Nat) : LOrc ρ := lorcCons 0 (loopL 19 0 n T_slices_IndexFunc_string_string_grant_sees_1_c_s0 X_slices_IndexFunc_string_string_grant_sees_1_c_s0 R_slices_IndexFunc_string_string_grant_sees_1_c_s0 ⟨[], [], []⟩ (slices_IndexFunc_string_string_grant_sees_1_c_s0 n)) (lorcNil)
omit [Tabs] [UTabs] in
theorem e_slices_IndexFunc_string_string_grant_sees_1_c (n : Nat) (x) : evF Tryd.prog 19 TT M_slices_IndexFunc_string_string_grant_sees_1_c F_slices_IndexFunc_string_string_grant_sees_1_c (O_slices_IndexFunc_string_string_grant_sees_1_c n) (L_slices_IndexFunc_string_string_grant_sees_1_c n) dorcNil ⟨[], [], []⟩ [.tmp 4] C_slices_IndexFunc_string_string_grant_sees_1_c x = slices_IndexFunc_string_string_grant_sees_1_c n x := by kernel_rfl
omit [UTabs] in
theorem ok_slices_IndexFunc_string_string_grant_sees_1_c (n : Nat) : Contract Tryd.prog 132 F_slices_IndexFunc_string_string_grant_sees_1_c (slices_IndexFunc_string_string_grant_sees_1_c n) :=
  Contract.of_ev (c := C_slices_IndexFunc_string_string_grant_sees_1_c) (N := 19) Tryd.func132 (by kernel_rfl) (by kernel_rfl) (by kernel_rfl) (by kernel_rfl) (O_slices_IndexFunc_string_string_grant_sees_1_c_ok n) dorcNil_ok (.of (l := [(0, (lbody 1000 C_slices_IndexFunc_string_string_grant_sees_1_c 0))]) (by kernel_rfl) ⟨.head (loopL_sound (O_slices_IndexFunc_string_string_grant_sees_1_c_ok n) dorcNil_ok (.of (l := []) (by kernel_rfl) trivial) (s_slices_IndexFunc_string_string_grant_sees_1_c_s0 n)), trivial⟩) (e_slices_IndexFunc_string_string_grant_sees_1_c n)

noncomputable def C_slices_ContainsFunc_string_string_grant_sees_1_c : Code := bodyOf Tryd.f78
noncomputable def M_slices_ContainsFunc_string_string_grant_sees_1_c : List (Nat × ArgM) := [(132, ⟨[1], [], [], false⟩)]
noncomputable def O_slices_ContainsFunc_string_string_grant_sees_1_c {ρ : Type} (n : Nat) : Orc ρ := orcCons 132 F_slices_IndexFunc_string_string_grant_sees_1_c (slices_IndexFunc_string_string_grant_sees_1_c n) (orcNil)
omit [UTabs] in
theorem O_slices_ContainsFunc_string_string_grant_sees_1_c_ok {ρ : Type} (n : Nat) : (O_slices_ContainsFunc_string_string_grant_sees_1_c n : Orc ρ).ok Tryd.prog := orcCons_ok (by kernel_rfl) (ok_slices_IndexFunc_string_string_grant_sees_1_c n) (orcNil_ok)
noncomputable def L_slices_ContainsFunc_string_string_grant_sees_1_c {ρ : Type} (n : Nat) : LOrc ρ := lorcNil
omit [Tabs] [UTabs] in
theorem e_slices_ContainsFunc_string_string_grant_sees_1_c (n : Nat) (x) : evF Tryd.prog 9 TT M_slices_ContainsFunc_string_string_grant_sees_1_c F_slices_ContainsFunc_string_string_grant_sees_1_c (O_slices_ContainsFunc_string_string_grant_sees_1_c n) (L_slices_ContainsFunc_string_string_grant_sees_1_c n) dorcNil ⟨[], [], []⟩ [.tmp 4] C_slices_ContainsFunc_string_string_grant_sees_1_c x = slices_ContainsFunc_string_string_grant_sees_1_c n x := by kernel_rfl
omit [UTabs] in
theorem ok_slices_ContainsFunc_string_string_grant_sees_1_c (n : Nat) : Contract Tryd.prog 78 F_slices_ContainsFunc_string_string_grant_sees_1_c (slices_ContainsFunc_string_string_grant_sees_1_c n) :=
  Contract.of_ev (c := C_slices_ContainsFunc_string_string_grant_sees_1_c) (N := 9) Tryd.func78 (by kernel_rfl) (by kernel_rfl) (by kernel_rfl) (by kernel_rfl) (O_slices_ContainsFunc_string_string_grant_sees_1_c_ok n) dorcNil_ok (.of (l := []) (by kernel_rfl) trivial) (e_slices_ContainsFunc_string_string_grant_sees_1_c n)

noncomputable def C_grant_sees : Code := bodyOf Tryd.f61
noncomputable def M_grant_sees : List (Nat × ArgM) := [(78, ⟨[1], [], [], false⟩)]
noncomputable def O_grant_sees {ρ : Type} (n : Nat) : Orc ρ := orcCons 78 F_slices_ContainsFunc_string_string_grant_sees_1_c (slices_ContainsFunc_string_string_grant_sees_1_c n) (orcNil)
omit [UTabs] in
theorem O_grant_sees_ok {ρ : Type} (n : Nat) : (O_grant_sees n : Orc ρ).ok Tryd.prog := orcCons_ok (by kernel_rfl) (ok_slices_ContainsFunc_string_string_grant_sees_1_c n) (orcNil_ok)
noncomputable def L_grant_sees {ρ : Type} (n : Nat) : LOrc ρ := lorcNil
omit [Tabs] [UTabs] in
theorem e_grant_sees (n : Nat) (x) : evF Tryd.prog 9 TT M_grant_sees F_grant_sees (O_grant_sees n) (L_grant_sees n) dorcNil ⟨[], [], []⟩ [.tmp 4] C_grant_sees x = grant_sees n x := by kernel_rfl
omit [UTabs] in
theorem ok_grant_sees (n : Nat) : Contract Tryd.prog 61 F_grant_sees (grant_sees n) :=
  Contract.of_ev (c := C_grant_sees) (N := 9) Tryd.func61 (by kernel_rfl) (by kernel_rfl) (by kernel_rfl) (by kernel_rfl) (O_grant_sees_ok n) dorcNil_ok (.of (l := []) (by kernel_rfl) trivial) (e_grant_sees n)

noncomputable def F_graph_CopyNode : FnT := ⟨1, ⟨[], [(0, .node)], []⟩, [.v .node], []⟩
noncomputable def F_slices_Clone_string_string : FnT := ⟨1, ⟨[], [(0, (.lst .str))], []⟩, [.v (.lst .str)], []⟩
noncomputable def C_slices_Clone_string_string : Code := bodyOf Tryd.f120
noncomputable def M_slices_Clone_string_string : List (Nat × ArgM) := []
noncomputable def O_slices_Clone_string_string {ρ : Type} : Orc ρ := orcNil
omit [UTabs] in
theorem O_slices_Clone_string_string_ok {ρ : Type} : (O_slices_Clone_string_string : Orc ρ).ok Tryd.prog := orcNil_ok
noncomputable def L_slices_Clone_string_string {ρ : Type} : LOrc ρ := lorcNil
omit [Tabs] [UTabs] in
theorem e_slices_Clone_string_string (x) : evF Tryd.prog 8 TT M_slices_Clone_string_string F_slices_Clone_string_string (O_slices_Clone_string_string) (L_slices_Clone_string_string) dorcNil ⟨[], [], []⟩ [.tmp 2] C_slices_Clone_string_string x = slices_Clone_string_string x := by kernel_rfl
omit [UTabs] in
theorem ok_slices_Clone_string_string : Contract Tryd.prog 120 F_slices_Clone_string_string (slices_Clone_string_string) :=
  Contract.of_ev (c := C_slices_Clone_string_string) (N := 8) Tryd.func120 (by kernel_rfl) (by kernel_rfl) (by kernel_rfl) (by kernel_rfl) (O_slices_Clone_string_string_ok) dorcNil_ok (.of (l := []) (by kernel_rfl) trivial) (e_slices_Clone_string_string)

noncomputable def F_graph_CopyProps : FnT := ⟨1, ⟨[], [(0, (.lst .prp))], []⟩, [.v (.lst .prp)], []⟩
noncomputable def F_value_Copy : FnT := ⟨1, ⟨[], [(0, .val)], []⟩, [.v .val], []⟩
noncomputable def C_value_Copy : Code := bodyOf Tryd.f159
noncomputable def M_value_Copy : List (Nat × ArgM) := []
noncomputable def O_value_Copy {ρ : Type} (self_value_Copy : Ev.Val × Unit → Option (Ev.Val × Unit)) (n : Nat) : Orc ρ := orcCons 159 F_value_Copy (self_value_Copy) (orcNil)
omit [UTabs] in
theorem O_value_Copy_ok {ρ : Type} (self_value_Copy : Ev.Val × Unit → Option (Ev.Val × Unit)) (h_value_Copy : Contract Tryd.prog 159 F_value_Copy self_value_Copy) (n : Nat) : (O_value_Copy self_value_Copy n : Orc ρ).ok Tryd.prog := orcCons_ok (by kernel_rfl) (h_value_Copy) (orcNil_ok)
noncomputable def T_value_Copy_s0 : Tm := ⟨[(1, .ptr 1 0), (2, .ptr 2 0)], [(9, (.lst .val)), (10, .i64), (11, .i64)], [(1, .box [.d .i64, .d .i64, .d .str, .ref (.own 300043)]), (2, .box [.d .val]), (300043, .arr 39 .val)]⟩
noncomputable def X_value_Copy_s0 : Tm := ⟨[(1, .ptr 1 0), (2, .ptr 2 0)], [], [(1, .box [.d .i64, .d .i64, .d .str, .ref (.own 300043)]), (2, .box [.d .val]), (300043, .arr 39 .val)]⟩
noncomputable def R_value_Copy_s0 : Tm := ⟨[], [], []⟩
noncomputable def L_value_Copy_s0 {ρ : Type} (self_value_Copy : Ev.Val × Unit → Option (Ev.Val × Unit)) (n : Nat) : LOrc ρ := lorcNil
omit [Tabs] [UTabs] in
theorem s_value_Copy_s0 {ρ : Type} (self_value_Copy : Ev.Val × Unit → Option (Ev.Val × Unit)) (n : Nat) (rec : T_value_Copy_s0.den → Option ρ) kx kr s : dStep Tryd.prog 24 TT M_value_Copy (O_value_Copy self_value_Copy n) (L_value_Copy_s0 self_value_Copy n) (evDraw Tryd.prog 24 TT M_value_Copy (O_value_Copy self_value_Copy n)) 0 (lbody 1000 C_value_Copy 0) T_value_Copy_s0 X_value_Copy_s0 R_value_Copy_s0 ⟨[], [], [(1, 3, 300043, 39, 4)]⟩ rec kx kr s = value_Copy_s0 self_value_Copy n rec kx kr s := by kernel_rfl
noncomputable def L_value_Copy {ρ : Type} (self_value_Copy : Ev.Val × Unit → Option (Ev.Val × Unit)) (n : Nat) : LOrc ρ := lorcCons 0 (loopL 24 0 n T_value_Copy_s0 X_value_Copy_s0 R_value_Copy_s0 ⟨[], [], [(1, 3, 300043, 39, 4)]⟩ (value_Copy_s0 self_value_Copy n)) (lorcNil)
omit [Tabs] [UTabs] in
theorem e_value_Copy (self_value_Copy : Ev.Val × Unit → Option (Ev.Val × Unit)) (n : Nat) (x) : evF Tryd.prog 24 TT M_value_Copy F_value_Copy (O_value_Copy self_value_Copy n) (L_value_Copy self_value_Copy n) (evDraw Tryd.prog 24 TT M_value_Copy (O_value_Copy self_value_Copy n)) ⟨[], [], []⟩ [.cell 2 39] C_value_Copy x = value_Copy_b self_value_Copy n x := by kernel_rfl
omit [UTabs] in
theorem okb_value_Copy (self_value_Copy : Ev.Val × Unit → Option (Ev.Val × Unit)) (h_value_Copy : Contract Tryd.prog 159 F_value_Copy self_value_Copy) (n : Nat) : Contract Tryd.prog 159 F_value_Copy (value_Copy_b self_value_Copy n) :=
  Contract.of_ev (c := C_value_Copy) (N := 24) Tryd.func159 (by kernel_rfl) (by kernel_rfl) (by kernel_rfl) (by kernel_rfl) (O_value_Copy_ok self_value_Copy h_value_Copy n) (evDraw_ok (O_value_Copy_ok self_value_Copy h_value_Copy n) (by kernel_rfl)) (.of (l := [(0, (lbody 1000 C_value_Copy 0))]) (by kernel_rfl) ⟨.head (loopL_sound (O_value_Copy_ok self_value_Copy h_value_Copy n) (evDraw_ok (O_value_Copy_ok self_value_Copy h_value_Copy n) (by kernel_rfl)) (.of (l := []) (by kernel_rfl) trivial) (s_value_Copy_s0 self_value_Copy n)), trivial⟩) (e_value_Copy self_value_Copy n)
omit [UTabs] in
theorem ok_value_Copy : ∀ n, Contract Tryd.prog 159 F_value_Copy (value_Copy n)
  | 0 => fun _ _ h => by cases h
  | n + 1 => okb_value_Copy _ (ok_value_Copy n) n

noncomputable def C_graph_CopyProps : Code := bodyOf Tryd.f121
noncomputable def M_graph_CopyProps : List (Nat × ArgM) := []
noncomputable def O_graph_CopyProps {ρ : Type} (n : Nat) : Orc ρ := orcCons 159 F_value_Copy (value_Copy n) (orcNil)
omit [UTabs] in
theorem O_graph_CopyProps_ok {ρ : Type} (n : Nat) : (O_graph_CopyProps n : Orc ρ).ok Tryd.prog := orcCons_ok (by kernel_rfl) (ok_value_Copy n) (orcNil_ok)
noncomputable def T_graph_CopyProps_s0 : Tm := ⟨[(3, .own 3)], [(6, (.lst .prp)), (7, .i64), (8, .i64)], [(3, .arr 178 .prp)]⟩
noncomputable def X_graph_CopyProps_s0 : Tm := ⟨[(3, .own 3)], [], [(3, .arr 178 .prp)]⟩
noncomputable def R_graph_CopyProps_s0 : Tm := ⟨[], [], []⟩
noncomputable def L_graph_CopyProps_s0 {ρ : Type} (n : Nat) : LOrc ρ := lorcNil
omit [Tabs] [UTabs] in
theorem s_graph_CopyProps_s0 {ρ : Type} (n : Nat) (rec : T_graph_CopyProps_s0.den → Option ρ) kx kr s : dStep Tryd.prog 22 TT M_graph_CopyProps (O_graph_CopyProps n) (L_graph_CopyProps_s0 n) dorcNil 0 (lbody 1000 C_graph_CopyProps 0) T_graph_CopyProps_s0 X_graph_CopyProps_s0 R_graph_CopyProps_s0 ⟨[], [(3, 3, 178, 5)], []⟩ rec kx kr s = graph_CopyProps_s0 n rec kx kr s := by kernel_rfl
noncomputable def L_graph_CopyProps {ρ : Type} (n : Nat) : LOrc ρ := lorcCons 0 (loopL 22 0 n T_graph_CopyProps_s0 X_graph_CopyProps_s0 R_graph_CopyProps_s0 ⟨[], [(3, 3, 178, 5)], []⟩ (graph_CopyProps_s0 n)) (lorcNil)
omit [Tabs] [UTabs] in
theorem e_graph_CopyProps (n : Nat) (x) : evF Tryd.prog 22 TT M_graph_CopyProps F_graph_CopyProps (O_graph_CopyProps n) (L_graph_CopyProps n) dorcNil ⟨[], [], []⟩ [.tmp 2] C_graph_CopyProps x = graph_CopyProps n x := by kernel_rfl
omit [UTabs] in
theorem ok_graph_CopyProps (n : Nat) : Contract Tryd.prog 121 F_graph_CopyProps (graph_CopyProps n) :=
  Contract.of_ev (c := C_graph_CopyProps) (N := 22) Tryd.func121 (by kernel_rfl) (by kernel_rfl) (by kernel_rfl) (by kernel_rfl) (O_graph_CopyProps_ok n) dorcNil_ok (.of (l := [(0, (lbody 1000 C_graph_CopyProps 0))]) (by kernel_rfl) ⟨.head (loopL_sound (O_graph_CopyProps_ok n) dorcNil_ok (.of (l := []) (by kernel_rfl) trivial) (s_graph_CopyProps_s0 n)), trivial⟩) (e_graph_CopyProps n)

noncomputable def C_graph_CopyNode : Code := bodyOf Tryd.f62
noncomputable def M_graph_CopyNode : List (Nat × ArgM) := []
noncomputable def O_graph_CopyNode {ρ : Type} (n : Nat) : Orc ρ := orcCons 120 F_slices_Clone_string_string (slices_Clone_string_string) (orcCons 121 F_graph_CopyProps (graph_CopyProps n) (orcNil))
omit [UTabs] in
theorem O_graph_CopyNode_ok {ρ : Type} (n : Nat) : (O_graph_CopyNode n : Orc ρ).ok Tryd.prog := orcCons_ok (by kernel_rfl) (ok_slices_Clone_string_string) (orcCons_ok (by kernel_rfl) (ok_graph_CopyProps n) (orcNil_ok))
noncomputable def L_graph_CopyNode {ρ : Type} (n : Nat) : LOrc ρ := lorcNil
omit [Tabs] [UTabs] in
theorem e_graph_CopyNode (n : Nat) (x) : evF Tryd.prog 12 TT M_graph_CopyNode F_graph_CopyNode (O_graph_CopyNode n) (L_graph_CopyNode n) dorcNil ⟨[], [], []⟩ [.cell 2 51] C_graph_CopyNode x = graph_CopyNode n x := by kernel_rfl
omit [UTabs] in
theorem ok_graph_CopyNode (n : Nat) : Contract Tryd.prog 62 F_graph_CopyNode (graph_CopyNode n) :=
  Contract.of_ev (c := C_graph_CopyNode) (N := 12) Tryd.func62 (by kernel_rfl) (by kernel_rfl) (by kernel_rfl) (by kernel_rfl) (O_graph_CopyNode_ok n) dorcNil_ok (.of (l := []) (by kernel_rfl) trivial) (e_graph_CopyNode n)

noncomputable def F_graph_CopyEdge : FnT := ⟨1, ⟨[], [(0, .edg)], []⟩, [.v .edg], []⟩
noncomputable def C_graph_CopyEdge : Code := bodyOf Tryd.f64
noncomputable def M_graph_CopyEdge : List (Nat × ArgM) := []
noncomputable def O_graph_CopyEdge {ρ : Type} (n : Nat) : Orc ρ := orcCons 121 F_graph_CopyProps (graph_CopyProps n) (orcNil)
omit [UTabs] in
theorem O_graph_CopyEdge_ok {ρ : Type} (n : Nat) : (O_graph_CopyEdge n : Orc ρ).ok Tryd.prog := orcCons_ok (by kernel_rfl) (ok_graph_CopyProps n) (orcNil_ok)
noncomputable def L_graph_CopyEdge {ρ : Type} (n : Nat) : LOrc ρ := lorcNil
omit [Tabs] [UTabs] in
theorem e_graph_CopyEdge (n : Nat) (x) : evF Tryd.prog 8 TT M_graph_CopyEdge F_graph_CopyEdge (O_graph_CopyEdge n) (L_graph_CopyEdge n) dorcNil ⟨[], [], []⟩ [.cell 2 80] C_graph_CopyEdge x = graph_CopyEdge n x := by kernel_rfl
omit [UTabs] in
theorem ok_graph_CopyEdge (n : Nat) : Contract Tryd.prog 64 F_graph_CopyEdge (graph_CopyEdge n) :=
  Contract.of_ev (c := C_graph_CopyEdge) (N := 8) Tryd.func64 (by kernel_rfl) (by kernel_rfl) (by kernel_rfl) (by kernel_rfl) (O_graph_CopyEdge_ok n) dorcNil_ok (.of (l := []) (by kernel_rfl) trivial) (e_graph_CopyEdge n)

noncomputable def C_grant_See : Code := bodyOf Tryd.f17
noncomputable def M_grant_See : List (Nat × ArgM) := [(59, ⟨[1], [], [], false⟩), (20, ⟨[], [], [], true⟩), (58, ⟨[], [], [], true⟩), (61, ⟨[], [], [], true⟩), (63, ⟨[], [], [], true⟩)]
noncomputable def O_grant_See {ρ : Type} (n : Nat) : Orc ρ := orcCons 20 F_grant_Check (grant_Check n) (orcCons 58 F_graph_Check (graph_Check n) (orcCons 59 F_slices_IndexFunc_api_Grant_api_Grant_grant_See_1_c (slices_IndexFunc_api_Grant_api_Grant_grant_See_1_c n) (orcCons 61 F_grant_sees (grant_sees n) (orcCons 62 F_graph_CopyNode (graph_CopyNode n) (orcCons 63 F_graph_Find (graph_Find n) (orcCons 64 F_graph_CopyEdge (graph_CopyEdge n) (orcNil)))))))
theorem O_grant_See_ok {ρ : Type} (n : Nat) : (O_grant_See n : Orc ρ).ok Tryd.prog := orcCons_ok (by kernel_rfl) (ok_grant_Check n) (orcCons_ok (by kernel_rfl) (ok_graph_Check n) (orcCons_ok (by kernel_rfl) (ok_slices_IndexFunc_api_Grant_api_Grant_grant_See_1_c n) (orcCons_ok (by kernel_rfl) (ok_grant_sees n) (orcCons_ok (by kernel_rfl) (ok_graph_CopyNode n) (orcCons_ok (by kernel_rfl) (ok_graph_Find n) (orcCons_ok (by kernel_rfl) (ok_graph_CopyEdge n) (orcNil_ok)))))))
noncomputable def T_grant_See_s0 : Tm := ⟨[(5, .ptr 5 0), (6, .ptr 6 0), (11, .ptr 11 0)], [(0, (.lst .grant)), (10, .i64), (38, (.lst .node)), (39, .i64), (40, .i64)], [(5, .box [.d .graph]), (6, .box [.d .graph]), (11, .box [.ref (.own 300440), .ref (.nils), .d .i64]), (300440, .arr 51 .node)]⟩
noncomputable def X_grant_See_s0 : Tm := ⟨[(5, .ptr 5 0), (6, .ptr 6 0), (11, .ptr 11 0)], [], [(5, .box [.d .graph]), (6, .box [.d .graph]), (11, .box [.ref (.own 300440), .ref (.nils), .d .i64]), (300440, .arr 51 .node)]⟩
noncomputable def R_grant_See_s0 : Tm := ⟨[], [], []⟩
noncomputable def L_grant_See_s0 {ρ : Type} (n : Nat) : LOrc ρ := lorcNil
omit [Tabs] [UTabs] in
theorem s_grant_See_s0 {ρ : Type} (n : Nat) (rec : T_grant_See_s0.den → Option ρ) kx kr s : dStep Tryd.prog 86 TT M_grant_See (O_grant_See n) (L_grant_See_s0 n) (evDraw Tryd.prog 86 TT M_grant_See (O_grant_See n)) 0 (lbody 1000 C_grant_See 0) T_grant_See_s0 X_grant_See_s0 R_grant_See_s0 ⟨[], [], [(11, 0, 300440, 51, 3)]⟩ rec kx kr s = grant_See_s0 n rec kx kr s := by kernel_rfl
noncomputable def T_grant_See_s2 : Tm := ⟨[(6, .ptr 6 0), (11, .ptr 11 0)], [(59, (.lst .edg)), (60, .i64), (61, .i64)], [(6, .box [.d .graph]), (11, .box [.ref (.own 300440), .ref (.own 300441), .d .i64]), (300440, .arr 51 .node), (300441, .arr 80 .edg)]⟩
noncomputable def X_grant_See_s2 : Tm := ⟨[(6, .ptr 6 0), (11, .ptr 11 0)], [], [(6, .box [.d .graph]), (11, .box [.ref (.own 300440), .ref (.own 300441), .d .i64]), (300440, .arr 51 .node), (300441, .arr 80 .edg)]⟩
noncomputable def R_grant_See_s2 : Tm := ⟨[], [], []⟩
noncomputable def L_grant_See_s2 {ρ : Type} (n : Nat) : LOrc ρ := lorcNil
omit [Tabs] [UTabs] in
theorem s_grant_See_s2 {ρ : Type} (n : Nat) (rec : T_grant_See_s2.den → Option ρ) kx kr s : dStep Tryd.prog 86 TT M_grant_See (O_grant_See n) (L_grant_See_s2 n) (evDraw Tryd.prog 86 TT M_grant_See (O_grant_See n)) 2 (lbody 1000 C_grant_See 1) T_grant_See_s2 X_grant_See_s2 R_grant_See_s2 ⟨[], [], [(11, 1, 300441, 80, 5)]⟩ rec kx kr s = grant_See_s2 n rec kx kr s := by kernel_rfl
noncomputable def L_grant_See {ρ : Type} (n : Nat) : LOrc ρ := lorcCons 0 (loopL 86 0 n T_grant_See_s0 X_grant_See_s0 R_grant_See_s0 ⟨[], [], [(11, 0, 300440, 51, 3)]⟩ (grant_See_s0 n)) (lorcCons 2 (loopL 86 2 n T_grant_See_s2 X_grant_See_s2 R_grant_See_s2 ⟨[], [], [(11, 1, 300441, 80, 5)]⟩ (grant_See_s2 n)) (lorcNil))
omit [Tabs] [UTabs] in
theorem e_grant_See (n : Nat) (x) : evF Tryd.prog 86 TT M_grant_See F_grant_See (O_grant_See n) (L_grant_See n) (evDraw Tryd.prog 86 TT M_grant_See (O_grant_See n)) ⟨[], [], []⟩ [.cell 6 26, .tmp 7] C_grant_See x = grant_See n x := by kernel_rfl
theorem ok_grant_See (n : Nat) : Contract Tryd.prog 17 F_grant_See (grant_See n) :=
  Contract.of_ev (c := C_grant_See) (N := 86) Tryd.func17 (by kernel_rfl) (by kernel_rfl) (by kernel_rfl) (by kernel_rfl) (O_grant_See_ok n) (evDraw_ok (O_grant_See_ok n) (by kernel_rfl)) (.of (l := [(0, (lbody 1000 C_grant_See 0)), (2, (lbody 1000 C_grant_See 1))]) (by kernel_rfl) ⟨.head (loopL_sound (O_grant_See_ok n) (evDraw_ok (O_grant_See_ok n) (by kernel_rfl)) (.of (l := []) (by kernel_rfl) trivial) (s_grant_See_s0 n)), ⟨.tail rfl (.head (loopL_sound (O_grant_See_ok n) (evDraw_ok (O_grant_See_ok n) (by kernel_rfl)) (.of (l := []) (by kernel_rfl) trivial) (s_grant_See_s2 n))), trivial⟩⟩) (e_grant_See n)

noncomputable def F_espalierlaw_seenBy : FnT := ⟨3, ⟨[], [(0, (.lst .grant)), (1, .str), (2, .graph)], []⟩, [.v .graph, .v (.lst .str), .v .i64], []⟩
noncomputable def F_espalierlaw_checkGrants : FnT := ⟨1, ⟨[], [(0, (.lst .grant))], []⟩, [.v .i64], []⟩
noncomputable def F_espalierref_IsName : FnT := ⟨1, ⟨[], [(0, .str)], []⟩, [.v .bool], []⟩
noncomputable def C_espalierref_IsName : Code := bodyOf Tryd.f70
noncomputable def M_espalierref_IsName : List (Nat × ArgM) := [(127, ⟨[], [], [], true⟩)]
noncomputable def O_espalierref_IsName {ρ : Type} : Orc ρ := orcCons 127 F_trim (trimN) (orcNil)
omit [UTabs] in
theorem O_espalierref_IsName_ok {ρ : Type} : (O_espalierref_IsName : Orc ρ).ok Tryd.prog := orcCons_ok (by kernel_rfl) (trimN_ok) (orcNil_ok)
noncomputable def L_espalierref_IsName {ρ : Type} : LOrc ρ := lorcNil
omit [Tabs] [UTabs] in
theorem e_espalierref_IsName (x) : evF Tryd.prog 23 TT M_espalierref_IsName F_espalierref_IsName (O_espalierref_IsName) (L_espalierref_IsName) dorcNil ⟨[], [], []⟩ [.tmp 2] C_espalierref_IsName x = espalierref_IsName x := by kernel_rfl
omit [UTabs] in
theorem ok_espalierref_IsName : Contract Tryd.prog 70 F_espalierref_IsName (espalierref_IsName) :=
  Contract.of_ev (c := C_espalierref_IsName) (N := 23) Tryd.func70 (by kernel_rfl) (by kernel_rfl) (by kernel_rfl) (by kernel_rfl) (O_espalierref_IsName_ok) dorcNil_ok (.of (l := []) (by kernel_rfl) trivial) (e_espalierref_IsName)

noncomputable def C_espalierlaw_checkGrants : Code := bodyOf Tryd.f21
noncomputable def M_espalierlaw_checkGrants : List (Nat × ArgM) := [(70, ⟨[], [], [], true⟩)]
noncomputable def O_espalierlaw_checkGrants {ρ : Type} (n : Nat) : Orc ρ := orcCons 70 F_espalierref_IsName (espalierref_IsName) (orcNil)
omit [UTabs] in
theorem O_espalierlaw_checkGrants_ok {ρ : Type} (n : Nat) : (O_espalierlaw_checkGrants n : Orc ρ).ok Tryd.prog := orcCons_ok (by kernel_rfl) (ok_espalierref_IsName) (orcNil_ok)
noncomputable def T_espalierlaw_checkGrants_s2 : Tm := ⟨[(4, .ptr 4 0)], [(0, (.lst .grant)), (12, (.lst .grant)), (13, .i64), (14, .i64), (25, (.lst .grant)), (26, .i64), (27, .i64)], [(4, .box [.d .grant])]⟩
noncomputable def X_espalierlaw_checkGrants_s2 : Tm := ⟨[(4, .ptr 4 0)], [(0, (.lst .grant)), (12, (.lst .grant)), (13, .i64), (14, .i64)], [(4, .box [.d .grant])]⟩
noncomputable def R_espalierlaw_checkGrants_s2 : Tm := ⟨[], [(2, .i64)], []⟩
noncomputable def L_espalierlaw_checkGrants_s2 {ρ : Type} (n : Nat) : LOrc ρ := lorcNil
omit [Tabs] [UTabs] in
theorem s_espalierlaw_checkGrants_s2 {ρ : Type} (n : Nat) (rec : T_espalierlaw_checkGrants_s2.den → Option ρ) kx kr s : dStep Tryd.prog 57 TT M_espalierlaw_checkGrants (O_espalierlaw_checkGrants n) (L_espalierlaw_checkGrants_s2 n) dorcNil 2 (lbody 0 (lbody 1000 C_espalierlaw_checkGrants 0) 0) T_espalierlaw_checkGrants_s2 X_espalierlaw_checkGrants_s2 R_espalierlaw_checkGrants_s2 ⟨[], [], []⟩ rec kx kr s = espalierlaw_checkGrants_s2 n rec kx kr s := by kernel_rfl
noncomputable def T_espalierlaw_checkGrants_s4 : Tm := ⟨[], [(0, (.lst .grant)), (12, (.lst .grant)), (13, .i64), (14, .i64), (42, (.lst .str)), (43, .i64), (44, .i64)], []⟩
noncomputable def X_espalierlaw_checkGrants_s4 : Tm := ⟨[], [(0, (.lst .grant)), (12, (.lst .grant)), (13, .i64), (14, .i64)], []⟩
noncomputable def R_espalierlaw_checkGrants_s4 : Tm := ⟨[], [(2, .i64)], []⟩
noncomputable def L_espalierlaw_checkGrants_s4 {ρ : Type} (n : Nat) : LOrc ρ := lorcNil
omit [Tabs] [UTabs] in
theorem s_espalierlaw_checkGrants_s4 {ρ : Type} (n : Nat) (rec : T_espalierlaw_checkGrants_s4.den → Option ρ) kx kr s : dStep Tryd.prog 57 TT M_espalierlaw_checkGrants (O_espalierlaw_checkGrants n) (L_espalierlaw_checkGrants_s4 n) dorcNil 4 (lbody 0 (lbody 1000 C_espalierlaw_checkGrants 0) 1) T_espalierlaw_checkGrants_s4 X_espalierlaw_checkGrants_s4 R_espalierlaw_checkGrants_s4 ⟨[], [], []⟩ rec kx kr s = espalierlaw_checkGrants_s4 n rec kx kr s := by kernel_rfl
noncomputable def T_espalierlaw_checkGrants_s0 : Tm := ⟨[], [(0, (.lst .grant)), (12, (.lst .grant)), (13, .i64), (14, .i64)], []⟩
noncomputable def X_espalierlaw_checkGrants_s0 : Tm := ⟨[], [], []⟩
noncomputable def R_espalierlaw_checkGrants_s0 : Tm := ⟨[], [(2, .i64)], []⟩
noncomputable def L_espalierlaw_checkGrants_s0 {ρ : Type} (n : Nat) : LOrc ρ := lorcCons 2 (loopL 57 2 n T_espalierlaw_checkGrants_s2 X_espalierlaw_checkGrants_s2 R_espalierlaw_checkGrants_s2 ⟨[], [], []⟩ (espalierlaw_checkGrants_s2 n)) (lorcCons 4 (loopL 57 4 n T_espalierlaw_checkGrants_s4 X_espalierlaw_checkGrants_s4 R_espalierlaw_checkGrants_s4 ⟨[], [], []⟩ (espalierlaw_checkGrants_s4 n)) (lorcNil))
omit [Tabs] [UTabs] in
theorem s_espalierlaw_checkGrants_s0 {ρ : Type} (n : Nat) (rec : T_espalierlaw_checkGrants_s0.den → Option ρ) kx kr s : dStep Tryd.prog 57 TT M_espalierlaw_checkGrants (O_espalierlaw_checkGrants n) (L_espalierlaw_checkGrants_s0 n) dorcNil 0 (lbody 1000 C_espalierlaw_checkGrants 0) T_espalierlaw_checkGrants_s0 X_espalierlaw_checkGrants_s0 R_espalierlaw_checkGrants_s0 ⟨[], [], []⟩ rec kx kr s = espalierlaw_checkGrants_s0 n rec kx kr s := by kernel_rfl
noncomputable def L_espalierlaw_checkGrants {ρ : Type} (n : Nat) : LOrc ρ := lorcCons 0 (loopL 57 0 n T_espalierlaw_checkGrants_s0 X_espalierlaw_checkGrants_s0 R_espalierlaw_checkGrants_s0 ⟨[], [], []⟩ (espalierlaw_checkGrants_s0 n)) (lorcNil)
omit [Tabs] [UTabs] in
theorem e_espalierlaw_checkGrants (n : Nat) (x) : evF Tryd.prog 57 TT M_espalierlaw_checkGrants F_espalierlaw_checkGrants (O_espalierlaw_checkGrants n) (L_espalierlaw_checkGrants n) dorcNil ⟨[], [], []⟩ [.tmp 2] C_espalierlaw_checkGrants x = espalierlaw_checkGrants n x := by kernel_rfl
omit [UTabs] in
theorem ok_espalierlaw_checkGrants (n : Nat) : Contract Tryd.prog 21 F_espalierlaw_checkGrants (espalierlaw_checkGrants n) :=
  Contract.of_ev (c := C_espalierlaw_checkGrants) (N := 57) Tryd.func21 (by kernel_rfl) (by kernel_rfl) (by kernel_rfl) (by kernel_rfl) (O_espalierlaw_checkGrants_ok n) dorcNil_ok (.of (l := [(0, (lbody 1000 C_espalierlaw_checkGrants 0))]) (by kernel_rfl) ⟨.head (loopL_sound (O_espalierlaw_checkGrants_ok n) dorcNil_ok (.of (l := [(2, (lbody 0 (lbody 1000 C_espalierlaw_checkGrants 0) 0)), (4, (lbody 0 (lbody 1000 C_espalierlaw_checkGrants 0) 1))]) (by kernel_rfl) ⟨.head (loopL_sound (O_espalierlaw_checkGrants_ok n) dorcNil_ok (.of (l := []) (by kernel_rfl) trivial) (s_espalierlaw_checkGrants_s2 n)), ⟨.tail rfl (.head (loopL_sound (O_espalierlaw_checkGrants_ok n) dorcNil_ok (.of (l := []) (by kernel_rfl) trivial) (s_espalierlaw_checkGrants_s4 n))), trivial⟩⟩) (s_espalierlaw_checkGrants_s0 n)), trivial⟩) (e_espalierlaw_checkGrants n)

noncomputable def F_espalierref_CheckGraph : FnT := ⟨1, ⟨[], [(0, .graph)], []⟩, [.v .i64], []⟩
noncomputable def F_espalierref_CheckLabels : FnT := ⟨1, ⟨[], [(0, (.lst .str))], []⟩, [.v .i64], []⟩
noncomputable def C_espalierref_CheckLabels : Code := bodyOf Tryd.f125
noncomputable def M_espalierref_CheckLabels : List (Nat × ArgM) := [(70, ⟨[], [], [], true⟩)]
noncomputable def O_espalierref_CheckLabels {ρ : Type} (n : Nat) : Orc ρ := orcCons 70 F_espalierref_IsName (espalierref_IsName) (orcNil)
omit [UTabs] in
theorem O_espalierref_CheckLabels_ok {ρ : Type} (n : Nat) : (O_espalierref_CheckLabels n : Orc ρ).ok Tryd.prog := orcCons_ok (by kernel_rfl) (ok_espalierref_IsName) (orcNil_ok)
noncomputable def T_espalierref_CheckLabels_s0 : Tm := ⟨[], [(3, .str), (9, (.lst .str)), (10, .i64), (11, .i64)], []⟩
noncomputable def X_espalierref_CheckLabels_s0 : Tm := ⟨[], [], []⟩
noncomputable def R_espalierref_CheckLabels_s0 : Tm := ⟨[], [(2, .i64)], []⟩
noncomputable def L_espalierref_CheckLabels_s0 {ρ : Type} (n : Nat) : LOrc ρ := lorcNil
omit [Tabs] [UTabs] in
theorem s_espalierref_CheckLabels_s0 {ρ : Type} (n : Nat) (rec : T_espalierref_CheckLabels_s0.den → Option ρ) kx kr s : dStep Tryd.prog 25 TT M_espalierref_CheckLabels (O_espalierref_CheckLabels n) (L_espalierref_CheckLabels_s0 n) dorcNil 0 (lbody 1000 C_espalierref_CheckLabels 0) T_espalierref_CheckLabels_s0 X_espalierref_CheckLabels_s0 R_espalierref_CheckLabels_s0 ⟨[], [], []⟩ rec kx kr s = espalierref_CheckLabels_s0 n rec kx kr s := by kernel_rfl
noncomputable def L_espalierref_CheckLabels {ρ : Type} (n : Nat) : LOrc ρ := lorcCons 0 (loopL 25 0 n T_espalierref_CheckLabels_s0 X_espalierref_CheckLabels_s0 R_espalierref_CheckLabels_s0 ⟨[], [], []⟩ (espalierref_CheckLabels_s0 n)) (lorcNil)
omit [Tabs] [UTabs] in
theorem e_espalierref_CheckLabels (n : Nat) (x) : evF Tryd.prog 25 TT M_espalierref_CheckLabels F_espalierref_CheckLabels (O_espalierref_CheckLabels n) (L_espalierref_CheckLabels n) dorcNil ⟨[], [], []⟩ [.tmp 2] C_espalierref_CheckLabels x = espalierref_CheckLabels n x := by kernel_rfl
omit [UTabs] in
theorem ok_espalierref_CheckLabels (n : Nat) : Contract Tryd.prog 125 F_espalierref_CheckLabels (espalierref_CheckLabels n) :=
  Contract.of_ev (c := C_espalierref_CheckLabels) (N := 25) Tryd.func125 (by kernel_rfl) (by kernel_rfl) (by kernel_rfl) (by kernel_rfl) (O_espalierref_CheckLabels_ok n) dorcNil_ok (.of (l := [(0, (lbody 1000 C_espalierref_CheckLabels 0))]) (by kernel_rfl) ⟨.head (loopL_sound (O_espalierref_CheckLabels_ok n) dorcNil_ok (.of (l := []) (by kernel_rfl) trivial) (s_espalierref_CheckLabels_s0 n)), trivial⟩) (e_espalierref_CheckLabels n)

noncomputable def F_espalierref_CheckProps : FnT := ⟨1, ⟨[], [(0, (.lst .prp))], []⟩, [.v .i64], []⟩
noncomputable def F_espalierref_CheckValue : FnT := ⟨2, ⟨[], [(0, .val), (1, .i64)], []⟩, [.v .i64], []⟩
noncomputable def C_espalierref_CheckValue : Code := bodyOf Tryd.f82
noncomputable def M_espalierref_CheckValue : List (Nat × ArgM) := [(82, ⟨[], [], [], true⟩), (134, ⟨[], [], [], true⟩)]
noncomputable def O_espalierref_CheckValue {ρ : Type} (self_espalierref_CheckValue : Ev.Val × Int × Unit → Option (Int × Unit)) (n : Nat) : Orc ρ := orcCons 82 F_espalierref_CheckValue (self_espalierref_CheckValue) (orcCons 134 F_valid (validN) (orcNil))
theorem O_espalierref_CheckValue_ok {ρ : Type} (self_espalierref_CheckValue : Ev.Val × Int × Unit → Option (Int × Unit)) (h_espalierref_CheckValue : Contract Tryd.prog 82 F_espalierref_CheckValue self_espalierref_CheckValue) (n : Nat) : (O_espalierref_CheckValue self_espalierref_CheckValue n : Orc ρ).ok Tryd.prog := orcCons_ok (by kernel_rfl) (h_espalierref_CheckValue) (orcCons_ok (by kernel_rfl) (validN_ok) (orcNil_ok))
noncomputable def T_espalierref_CheckValue_s1 : Tm := ⟨[], [(1, .i64), (5, .bool), (6, .bool), (34, (.lst .val)), (35, .i64), (36, .i64)], []⟩
noncomputable def X_espalierref_CheckValue_s1 : Tm := ⟨[], [(5, .bool), (6, .bool)], []⟩
noncomputable def R_espalierref_CheckValue_s1 : Tm := ⟨[], [(4, .i64)], []⟩
noncomputable def L_espalierref_CheckValue_s1 {ρ : Type} (self_espalierref_CheckValue : Ev.Val × Int × Unit → Option (Int × Unit)) (n : Nat) : LOrc ρ := lorcNil
omit [Tabs] [UTabs] in
theorem s_espalierref_CheckValue_s1 {ρ : Type} (self_espalierref_CheckValue : Ev.Val × Int × Unit → Option (Int × Unit)) (n : Nat) (rec : T_espalierref_CheckValue_s1.den → Option ρ) kx kr s : dStep Tryd.prog 96 TT M_espalierref_CheckValue (O_espalierref_CheckValue self_espalierref_CheckValue n) (L_espalierref_CheckValue_s1 self_espalierref_CheckValue n) (evDraw Tryd.prog 96 TT M_espalierref_CheckValue (O_espalierref_CheckValue self_espalierref_CheckValue n)) 1 (lbody 1000 C_espalierref_CheckValue 0) T_espalierref_CheckValue_s1 X_espalierref_CheckValue_s1 R_espalierref_CheckValue_s1 ⟨[], [], []⟩ rec kx kr s = espalierref_CheckValue_s1 self_espalierref_CheckValue n rec kx kr s := by kernel_rfl
noncomputable def L_espalierref_CheckValue {ρ : Type} (self_espalierref_CheckValue : Ev.Val × Int × Unit → Option (Int × Unit)) (n : Nat) : LOrc ρ := lorcCons 1 (loopL 96 1 n T_espalierref_CheckValue_s1 X_espalierref_CheckValue_s1 R_espalierref_CheckValue_s1 ⟨[], [], []⟩ (espalierref_CheckValue_s1 self_espalierref_CheckValue n)) (lorcNil)
omit [Tabs] [UTabs] in
theorem e_espalierref_CheckValue (self_espalierref_CheckValue : Ev.Val × Int × Unit → Option (Int × Unit)) (n : Nat) (x) : evF Tryd.prog 96 TT M_espalierref_CheckValue F_espalierref_CheckValue (O_espalierref_CheckValue self_espalierref_CheckValue n) (L_espalierref_CheckValue self_espalierref_CheckValue n) (evDraw Tryd.prog 96 TT M_espalierref_CheckValue (O_espalierref_CheckValue self_espalierref_CheckValue n)) ⟨[], [], []⟩ [.tmp 4] C_espalierref_CheckValue x = espalierref_CheckValue_b self_espalierref_CheckValue n x := by kernel_rfl
theorem okb_espalierref_CheckValue (self_espalierref_CheckValue : Ev.Val × Int × Unit → Option (Int × Unit)) (h_espalierref_CheckValue : Contract Tryd.prog 82 F_espalierref_CheckValue self_espalierref_CheckValue) (n : Nat) : Contract Tryd.prog 82 F_espalierref_CheckValue (espalierref_CheckValue_b self_espalierref_CheckValue n) :=
  Contract.of_ev (c := C_espalierref_CheckValue) (N := 96) Tryd.func82 (by kernel_rfl) (by kernel_rfl) (by kernel_rfl) (by kernel_rfl) (O_espalierref_CheckValue_ok self_espalierref_CheckValue h_espalierref_CheckValue n) (evDraw_ok (O_espalierref_CheckValue_ok self_espalierref_CheckValue h_espalierref_CheckValue n) (by kernel_rfl)) (.of (l := [(1, (lbody 1000 C_espalierref_CheckValue 0))]) (by kernel_rfl) ⟨.head (loopL_sound (O_espalierref_CheckValue_ok self_espalierref_CheckValue h_espalierref_CheckValue n) (evDraw_ok (O_espalierref_CheckValue_ok self_espalierref_CheckValue h_espalierref_CheckValue n) (by kernel_rfl)) (.of (l := []) (by kernel_rfl) trivial) (s_espalierref_CheckValue_s1 self_espalierref_CheckValue n)), trivial⟩) (e_espalierref_CheckValue self_espalierref_CheckValue n)
theorem ok_espalierref_CheckValue : ∀ n, Contract Tryd.prog 82 F_espalierref_CheckValue (espalierref_CheckValue n)
  | 0 => fun _ _ h => by cases h
  | n + 1 => okb_espalierref_CheckValue _ (ok_espalierref_CheckValue n) n

noncomputable def C_espalierref_CheckProps : Code := bodyOf Tryd.f126
noncomputable def M_espalierref_CheckProps : List (Nat × ArgM) := [(70, ⟨[], [], [], true⟩), (82, ⟨[], [], [], true⟩)]
noncomputable def O_espalierref_CheckProps {ρ : Type} (n : Nat) : Orc ρ := orcCons 70 F_espalierref_IsName (espalierref_IsName) (orcCons 82 F_espalierref_CheckValue (espalierref_CheckValue n) (orcNil))
theorem O_espalierref_CheckProps_ok {ρ : Type} (n : Nat) : (O_espalierref_CheckProps n : Orc ρ).ok Tryd.prog := orcCons_ok (by kernel_rfl) (ok_espalierref_IsName) (orcCons_ok (by kernel_rfl) (ok_espalierref_CheckValue n) (orcNil_ok))
noncomputable def T_espalierref_CheckProps_s0 : Tm := ⟨[], [(3, .str), (10, (.lst .prp)), (11, .i64), (12, .i64)], []⟩
noncomputable def X_espalierref_CheckProps_s0 : Tm := ⟨[], [], []⟩
noncomputable def R_espalierref_CheckProps_s0 : Tm := ⟨[], [(2, .i64)], []⟩
noncomputable def L_espalierref_CheckProps_s0 {ρ : Type} (n : Nat) : LOrc ρ := lorcNil
omit [Tabs] [UTabs] in
theorem s_espalierref_CheckProps_s0 {ρ : Type} (n : Nat) (rec : T_espalierref_CheckProps_s0.den → Option ρ) kx kr s : dStep Tryd.prog 41 TT M_espalierref_CheckProps (O_espalierref_CheckProps n) (L_espalierref_CheckProps_s0 n) dorcNil 0 (lbody 1000 C_espalierref_CheckProps 0) T_espalierref_CheckProps_s0 X_espalierref_CheckProps_s0 R_espalierref_CheckProps_s0 ⟨[], [], []⟩ rec kx kr s = espalierref_CheckProps_s0 n rec kx kr s := by kernel_rfl
noncomputable def L_espalierref_CheckProps {ρ : Type} (n : Nat) : LOrc ρ := lorcCons 0 (loopL 41 0 n T_espalierref_CheckProps_s0 X_espalierref_CheckProps_s0 R_espalierref_CheckProps_s0 ⟨[], [], []⟩ (espalierref_CheckProps_s0 n)) (lorcNil)
omit [Tabs] [UTabs] in
theorem e_espalierref_CheckProps (n : Nat) (x) : evF Tryd.prog 41 TT M_espalierref_CheckProps F_espalierref_CheckProps (O_espalierref_CheckProps n) (L_espalierref_CheckProps n) dorcNil ⟨[], [], []⟩ [.tmp 2] C_espalierref_CheckProps x = espalierref_CheckProps n x := by kernel_rfl
theorem ok_espalierref_CheckProps (n : Nat) : Contract Tryd.prog 126 F_espalierref_CheckProps (espalierref_CheckProps n) :=
  Contract.of_ev (c := C_espalierref_CheckProps) (N := 41) Tryd.func126 (by kernel_rfl) (by kernel_rfl) (by kernel_rfl) (by kernel_rfl) (O_espalierref_CheckProps_ok n) dorcNil_ok (.of (l := [(0, (lbody 1000 C_espalierref_CheckProps 0))]) (by kernel_rfl) ⟨.head (loopL_sound (O_espalierref_CheckProps_ok n) dorcNil_ok (.of (l := []) (by kernel_rfl) trivial) (s_espalierref_CheckProps_s0 n)), trivial⟩) (e_espalierref_CheckProps n)

noncomputable def F_espalierref_NodeAt : FnT := ⟨2, ⟨[], [(0, .graph), (1, .i64)], []⟩, [.opt .node], []⟩
noncomputable def C_espalierref_NodeAt : Code := bodyOf Tryd.f24
noncomputable def M_espalierref_NodeAt : List (Nat × ArgM) := []
noncomputable def O_espalierref_NodeAt {ρ : Type} (n : Nat) : Orc ρ := orcNil
omit [UTabs] in
theorem O_espalierref_NodeAt_ok {ρ : Type} (n : Nat) : (O_espalierref_NodeAt n : Orc ρ).ok Tryd.prog := orcNil_ok
noncomputable def T_espalierref_NodeAt_s0 : Tm := ⟨[(2, .ptr 2 0)], [(1, .i64), (8, .i64), (9, .i64)], [(2, .box [.d .graph])]⟩
noncomputable def X_espalierref_NodeAt_s0 : Tm := ⟨[], [], []⟩
noncomputable def R_espalierref_NodeAt_s0 : Tm := ⟨[], [(4, (.ptr .node))], []⟩
noncomputable def L_espalierref_NodeAt_s0 {ρ : Type} (n : Nat) : LOrc ρ := lorcNil
omit [Tabs] [UTabs] in
theorem s_espalierref_NodeAt_s0 {ρ : Type} (n : Nat) (rec : T_espalierref_NodeAt_s0.den → Option ρ) kx kr s : dStep Tryd.prog 25 TT M_espalierref_NodeAt (O_espalierref_NodeAt n) (L_espalierref_NodeAt_s0 n) dorcNil 0 (lbody 1000 C_espalierref_NodeAt 0) T_espalierref_NodeAt_s0 X_espalierref_NodeAt_s0 R_espalierref_NodeAt_s0 ⟨[], [], []⟩ rec kx kr s = espalierref_NodeAt_s0 n rec kx kr s := by kernel_rfl
noncomputable def L_espalierref_NodeAt {ρ : Type} (n : Nat) : LOrc ρ := lorcCons 0 (loopL 25 0 n T_espalierref_NodeAt_s0 X_espalierref_NodeAt_s0 R_espalierref_NodeAt_s0 ⟨[], [], []⟩ (espalierref_NodeAt_s0 n)) (lorcNil)
omit [Tabs] [UTabs] in
theorem e_espalierref_NodeAt (n : Nat) (x) : evF Tryd.prog 25 TT M_espalierref_NodeAt F_espalierref_NodeAt (O_espalierref_NodeAt n) (L_espalierref_NodeAt n) dorcNil ⟨[], [], []⟩ [.tmp 4] C_espalierref_NodeAt x = espalierref_NodeAt n x := by kernel_rfl
omit [UTabs] in
theorem ok_espalierref_NodeAt (n : Nat) : Contract Tryd.prog 24 F_espalierref_NodeAt (espalierref_NodeAt n) :=
  Contract.of_ev (c := C_espalierref_NodeAt) (N := 25) Tryd.func24 (by kernel_rfl) (by kernel_rfl) (by kernel_rfl) (by kernel_rfl) (O_espalierref_NodeAt_ok n) dorcNil_ok (.of (l := [(0, (lbody 1000 C_espalierref_NodeAt 0))]) (by kernel_rfl) ⟨.head (loopL_sound (O_espalierref_NodeAt_ok n) dorcNil_ok (.of (l := []) (by kernel_rfl) trivial) (s_espalierref_NodeAt_s0 n)), trivial⟩) (e_espalierref_NodeAt n)

noncomputable def C_espalierref_CheckGraph : Code := bodyOf Tryd.f65
noncomputable def M_espalierref_CheckGraph : List (Nat × ArgM) := [(125, ⟨[], [], [], true⟩), (126, ⟨[], [], [], true⟩), (70, ⟨[], [], [], true⟩)]
noncomputable def O_espalierref_CheckGraph {ρ : Type} (n : Nat) : Orc ρ := orcCons 125 F_espalierref_CheckLabels (espalierref_CheckLabels n) (orcCons 126 F_espalierref_CheckProps (espalierref_CheckProps n) (orcCons 24 F_espalierref_NodeAt (espalierref_NodeAt n) (orcCons 70 F_espalierref_IsName (espalierref_IsName) (orcNil))))
theorem O_espalierref_CheckGraph_ok {ρ : Type} (n : Nat) : (O_espalierref_CheckGraph n : Orc ρ).ok Tryd.prog := orcCons_ok (by kernel_rfl) (ok_espalierref_CheckLabels n) (orcCons_ok (by kernel_rfl) (ok_espalierref_CheckProps n) (orcCons_ok (by kernel_rfl) (ok_espalierref_NodeAt n) (orcCons_ok (by kernel_rfl) (ok_espalierref_IsName) (orcNil_ok))))
noncomputable def T_espalierref_CheckGraph_s0 : Tm := ⟨[(1, .ptr 1 0)], [(3, .i64), (4, .i64), (23, (.lst .node)), (24, .i64), (25, .i64)], [(1, .box [.d .graph])]⟩
noncomputable def X_espalierref_CheckGraph_s0 : Tm := ⟨[(1, .ptr 1 0)], [(3, .i64)], [(1, .box [.d .graph])]⟩
noncomputable def R_espalierref_CheckGraph_s0 : Tm := ⟨[], [(2, .i64)], []⟩
noncomputable def L_espalierref_CheckGraph_s0 {ρ : Type} (n : Nat) : LOrc ρ := lorcNil
omit [Tabs] [UTabs] in
theorem s_espalierref_CheckGraph_s0 {ρ : Type} (n : Nat) (rec : T_espalierref_CheckGraph_s0.den → Option ρ) kx kr s : dStep Tryd.prog 108 TT M_espalierref_CheckGraph (O_espalierref_CheckGraph n) (L_espalierref_CheckGraph_s0 n) (evDraw Tryd.prog 108 TT M_espalierref_CheckGraph (O_espalierref_CheckGraph n)) 0 (lbody 1000 C_espalierref_CheckGraph 0) T_espalierref_CheckGraph_s0 X_espalierref_CheckGraph_s0 R_espalierref_CheckGraph_s0 ⟨[], [], []⟩ rec kx kr s = espalierref_CheckGraph_s0 n rec kx kr s := by kernel_rfl
noncomputable def T_espalierref_CheckGraph_s2 : Tm := ⟨[(1, .ptr 1 0)], [(3, .i64), (4, .i64), (51, (.lst .edg)), (52, .i64), (53, .i64)], [(1, .box [.d .graph])]⟩
noncomputable def X_espalierref_CheckGraph_s2 : Tm := ⟨[(1, .ptr 1 0)], [(3, .i64)], [(1, .box [.d .graph])]⟩
noncomputable def R_espalierref_CheckGraph_s2 : Tm := ⟨[], [(2, .i64)], []⟩
noncomputable def L_espalierref_CheckGraph_s2 {ρ : Type} (n : Nat) : LOrc ρ := lorcNil
omit [Tabs] [UTabs] in
theorem s_espalierref_CheckGraph_s2 {ρ : Type} (n : Nat) (rec : T_espalierref_CheckGraph_s2.den → Option ρ) kx kr s : dStep Tryd.prog 108 TT M_espalierref_CheckGraph (O_espalierref_CheckGraph n) (L_espalierref_CheckGraph_s2 n) (evDraw Tryd.prog 108 TT M_espalierref_CheckGraph (O_espalierref_CheckGraph n)) 2 (lbody 1000 C_espalierref_CheckGraph 1) T_espalierref_CheckGraph_s2 X_espalierref_CheckGraph_s2 R_espalierref_CheckGraph_s2 ⟨[], [], []⟩ rec kx kr s = espalierref_CheckGraph_s2 n rec kx kr s := by kernel_rfl
noncomputable def L_espalierref_CheckGraph {ρ : Type} (n : Nat) : LOrc ρ := lorcCons 0 (loopL 108 0 n T_espalierref_CheckGraph_s0 X_espalierref_CheckGraph_s0 R_espalierref_CheckGraph_s0 ⟨[], [], []⟩ (espalierref_CheckGraph_s0 n)) (lorcCons 2 (loopL 108 2 n T_espalierref_CheckGraph_s2 X_espalierref_CheckGraph_s2 R_espalierref_CheckGraph_s2 ⟨[], [], []⟩ (espalierref_CheckGraph_s2 n)) (lorcNil))
omit [Tabs] [UTabs] in
theorem e_espalierref_CheckGraph (n : Nat) (x) : evF Tryd.prog 108 TT M_espalierref_CheckGraph F_espalierref_CheckGraph (O_espalierref_CheckGraph n) (L_espalierref_CheckGraph n) (evDraw Tryd.prog 108 TT M_espalierref_CheckGraph (O_espalierref_CheckGraph n)) ⟨[], [], []⟩ [.tmp 2] C_espalierref_CheckGraph x = espalierref_CheckGraph n x := by kernel_rfl
theorem ok_espalierref_CheckGraph (n : Nat) : Contract Tryd.prog 65 F_espalierref_CheckGraph (espalierref_CheckGraph n) :=
  Contract.of_ev (c := C_espalierref_CheckGraph) (N := 108) Tryd.func65 (by kernel_rfl) (by kernel_rfl) (by kernel_rfl) (by kernel_rfl) (O_espalierref_CheckGraph_ok n) (evDraw_ok (O_espalierref_CheckGraph_ok n) (by kernel_rfl)) (.of (l := [(0, (lbody 1000 C_espalierref_CheckGraph 0)), (2, (lbody 1000 C_espalierref_CheckGraph 1))]) (by kernel_rfl) ⟨.head (loopL_sound (O_espalierref_CheckGraph_ok n) (evDraw_ok (O_espalierref_CheckGraph_ok n) (by kernel_rfl)) (.of (l := []) (by kernel_rfl) trivial) (s_espalierref_CheckGraph_s0 n)), ⟨.tail rfl (.head (loopL_sound (O_espalierref_CheckGraph_ok n) (evDraw_ok (O_espalierref_CheckGraph_ok n) (by kernel_rfl)) (.of (l := []) (by kernel_rfl) trivial) (s_espalierref_CheckGraph_s2 n))), trivial⟩⟩) (e_espalierref_CheckGraph n)

noncomputable def F_espalierref_Seen : FnT := ⟨2, ⟨[], [(0, (.lst .str)), (1, .graph)], []⟩, [.v .graph], []⟩
noncomputable def F_slices_ContainsFunc_string_string_espalierref_Seen_1_c : FnT := ⟨2, ⟨[(1, .clo 79 [1000000])], [(0, (.lst .str))], [(1000000, .box [.d (.lst .str)])]⟩, [.v .bool], [(1000000, .box [.d (.lst .str)])]⟩
noncomputable def F_slices_IndexFunc_string_string_espalierref_Seen_1_c : FnT := ⟨2, ⟨[(1, .clo 79 [1000000])], [(0, (.lst .str))], [(1000000, .box [.d (.lst .str)])]⟩, [.v .i64], [(1000000, .box [.d (.lst .str)])]⟩
noncomputable def F_espalierref_Seen_1 : FnT := ⟨2, ⟨[(1, .ptr 1000000 0)], [(0, .str)], [(1000000, .box [.d (.lst .str)])]⟩, [.v .bool], [(1000000, .box [.d (.lst .str)])]⟩
noncomputable def C_espalierref_Seen_1 : Code := bodyOf Tryd.f79
noncomputable def M_espalierref_Seen_1 : List (Nat × ArgM) := [(28, ⟨[], [], [], true⟩)]
noncomputable def O_espalierref_Seen_1 {ρ : Type} (n : Nat) : Orc ρ := orcCons 28 F_slices_Contains_string_string (slices_Contains_string_string n) (orcNil)
omit [UTabs] in
theorem O_espalierref_Seen_1_ok {ρ : Type} (n : Nat) : (O_espalierref_Seen_1 n : Orc ρ).ok Tryd.prog := orcCons_ok (by kernel_rfl) (ok_slices_Contains_string_string n) (orcNil_ok)
noncomputable def L_espalierref_Seen_1 {ρ : Type} (n : Nat) : LOrc ρ := lorcNil
omit [Tabs] [UTabs] in
theorem e_espalierref_Seen_1 (n : Nat) (x) : evF Tryd.prog 7 TT M_espalierref_Seen_1 F_espalierref_Seen_1 (O_espalierref_Seen_1 n) (L_espalierref_Seen_1 n) dorcNil ⟨[], [], []⟩ [.tmp 3] C_espalierref_Seen_1 x = espalierref_Seen_1 n x := by kernel_rfl
omit [UTabs] in
theorem ok_espalierref_Seen_1 (n : Nat) : Contract Tryd.prog 79 F_espalierref_Seen_1 (espalierref_Seen_1 n) :=
  Contract.of_ev (c := C_espalierref_Seen_1) (N := 7) Tryd.func79 (by kernel_rfl) (by kernel_rfl) (by kernel_rfl) (by kernel_rfl) (O_espalierref_Seen_1_ok n) dorcNil_ok (.of (l := []) (by kernel_rfl) trivial) (e_espalierref_Seen_1 n)

noncomputable def C_slices_IndexFunc_string_string_espalierref_Seen_1_c : Code := bodyOf Tryd.f132
noncomputable def M_slices_IndexFunc_string_string_espalierref_Seen_1_c : List (Nat × ArgM) := [(79, ⟨[1], [], [], false⟩)]
noncomputable def O_slices_IndexFunc_string_string_espalierref_Seen_1_c {ρ : Type} (n : Nat) : Orc ρ := orcCons 79 F_espalierref_Seen_1 (espalierref_Seen_1 n) (orcNil)
omit [UTabs] in
theorem O_slices_IndexFunc_string_string_espalierref_Seen_1_c_ok {ρ : Type} (n : Nat) : (O_slices_IndexFunc_string_string_espalierref_Seen_1_c n : Orc ρ).ok Tryd.prog := orcCons_ok (by kernel_rfl) (ok_espalierref_Seen_1 n) (orcNil_ok)
noncomputable def T_slices_IndexFunc_string_string_espalierref_Seen_1_c_s0 : Tm := ⟨[(1, .clo 79 [1000000])], [(0, (.lst .str)), (7, .i64), (8, .i64)], [(1000000, .box [.d (.lst .str)])]⟩
noncomputable def X_slices_IndexFunc_string_string_espalierref_Seen_1_c_s0 : Tm := ⟨[], [], [(1000000, .box [.d (.lst .str)])]⟩
noncomputable def R_slices_IndexFunc_string_string_espalierref_Seen_1_c_s0 : Tm := ⟨[], [(4, .i64)], [(1000000, .box [.d (.lst .str)])]⟩
noncomputable def L_slices_IndexFunc_string_string_espalierref_Seen_1_c_s0 {ρ : Type} (n : Nat) : LOrc ρ := lorcNil
omit [Tabs] [UTabs] in
theorem s_slices_IndexFunc_string_string_espalierref_Seen_1_c_s0 {ρ : Type} (n : Nat) (rec : T_slices_IndexFunc_string_string_espalierref_Seen_1_c_s0.den → Option ρ) kx kr s : dStep Tryd.prog 19 TT M_slices_IndexFunc_string_string_espalierref_Seen_1_c (O_slices_IndexFunc_string_string_espalierref_Seen_1_c n) (L_slices_IndexFunc_string_string_espalierref_Seen_1_c_s0 n) dorcNil 0 (lbody 1000 C_slices_IndexFunc_string_string_espalierref_Seen_1_c 0) T_slices_IndexFunc_string_string_espalierref_Seen_1_c_s0 X_slices_IndexFunc_string_string_espalierref_Seen_1_c_s0 R_slices_IndexFunc_string_string_espalierref_Seen_1_c_s0 ⟨[], [], []⟩ rec kx kr s = slices_IndexFunc_string_string_espalierref_Seen_1_c_s0 n rec kx kr s := by kernel_rfl
noncomputable def L_slices_IndexFunc_string_string_espalierref_Seen_1_c {ρ : Type} (n : Nat) : LOrc ρ := lorcCons 0 (loopL 19 0 n T_slices_IndexFunc_string_string_espalierref_Seen_1_c_s0 X_slices_IndexFunc_string_string_espalierref_Seen_1_c_s0 R_slices_IndexFunc_string_string_espalierref_Seen_1_c_s0 ⟨[], [], []⟩ (slices_IndexFunc_string_string_espalierref_Seen_1_c_s0 n)) (lorcNil)
omit [Tabs] [UTabs] in
theorem e_slices_IndexFunc_string_string_espalierref_Seen_1_c (n : Nat) (x) : evF Tryd.prog 19 TT M_slices_IndexFunc_string_string_espalierref_Seen_1_c F_slices_IndexFunc_string_string_espalierref_Seen_1_c (O_slices_IndexFunc_string_string_espalierref_Seen_1_c n) (L_slices_IndexFunc_string_string_espalierref_Seen_1_c n) dorcNil ⟨[], [], []⟩ [.tmp 4] C_slices_IndexFunc_string_string_espalierref_Seen_1_c x = slices_IndexFunc_string_string_espalierref_Seen_1_c n x := by kernel_rfl
omit [UTabs] in
theorem ok_slices_IndexFunc_string_string_espalierref_Seen_1_c (n : Nat) : Contract Tryd.prog 132 F_slices_IndexFunc_string_string_espalierref_Seen_1_c (slices_IndexFunc_string_string_espalierref_Seen_1_c n) :=
  Contract.of_ev (c := C_slices_IndexFunc_string_string_espalierref_Seen_1_c) (N := 19) Tryd.func132 (by kernel_rfl) (by kernel_rfl) (by kernel_rfl) (by kernel_rfl) (O_slices_IndexFunc_string_string_espalierref_Seen_1_c_ok n) dorcNil_ok (.of (l := [(0, (lbody 1000 C_slices_IndexFunc_string_string_espalierref_Seen_1_c 0))]) (by kernel_rfl) ⟨.head (loopL_sound (O_slices_IndexFunc_string_string_espalierref_Seen_1_c_ok n) dorcNil_ok (.of (l := []) (by kernel_rfl) trivial) (s_slices_IndexFunc_string_string_espalierref_Seen_1_c_s0 n)), trivial⟩) (e_slices_IndexFunc_string_string_espalierref_Seen_1_c n)

noncomputable def C_slices_ContainsFunc_string_string_espalierref_Seen_1_c : Code := bodyOf Tryd.f78
noncomputable def M_slices_ContainsFunc_string_string_espalierref_Seen_1_c : List (Nat × ArgM) := [(132, ⟨[1], [], [], false⟩)]
noncomputable def O_slices_ContainsFunc_string_string_espalierref_Seen_1_c {ρ : Type} (n : Nat) : Orc ρ := orcCons 132 F_slices_IndexFunc_string_string_espalierref_Seen_1_c (slices_IndexFunc_string_string_espalierref_Seen_1_c n) (orcNil)
omit [UTabs] in
theorem O_slices_ContainsFunc_string_string_espalierref_Seen_1_c_ok {ρ : Type} (n : Nat) : (O_slices_ContainsFunc_string_string_espalierref_Seen_1_c n : Orc ρ).ok Tryd.prog := orcCons_ok (by kernel_rfl) (ok_slices_IndexFunc_string_string_espalierref_Seen_1_c n) (orcNil_ok)
noncomputable def L_slices_ContainsFunc_string_string_espalierref_Seen_1_c {ρ : Type} (n : Nat) : LOrc ρ := lorcNil
omit [Tabs] [UTabs] in
theorem e_slices_ContainsFunc_string_string_espalierref_Seen_1_c (n : Nat) (x) : evF Tryd.prog 9 TT M_slices_ContainsFunc_string_string_espalierref_Seen_1_c F_slices_ContainsFunc_string_string_espalierref_Seen_1_c (O_slices_ContainsFunc_string_string_espalierref_Seen_1_c n) (L_slices_ContainsFunc_string_string_espalierref_Seen_1_c n) dorcNil ⟨[], [], []⟩ [.tmp 4] C_slices_ContainsFunc_string_string_espalierref_Seen_1_c x = slices_ContainsFunc_string_string_espalierref_Seen_1_c n x := by kernel_rfl
omit [UTabs] in
theorem ok_slices_ContainsFunc_string_string_espalierref_Seen_1_c (n : Nat) : Contract Tryd.prog 78 F_slices_ContainsFunc_string_string_espalierref_Seen_1_c (slices_ContainsFunc_string_string_espalierref_Seen_1_c n) :=
  Contract.of_ev (c := C_slices_ContainsFunc_string_string_espalierref_Seen_1_c) (N := 9) Tryd.func78 (by kernel_rfl) (by kernel_rfl) (by kernel_rfl) (by kernel_rfl) (O_slices_ContainsFunc_string_string_espalierref_Seen_1_c_ok n) dorcNil_ok (.of (l := []) (by kernel_rfl) trivial) (e_slices_ContainsFunc_string_string_espalierref_Seen_1_c n)

noncomputable def C_espalierref_Seen : Code := bodyOf Tryd.f26
noncomputable def M_espalierref_Seen : List (Nat × ArgM) := [(78, ⟨[1], [], [], false⟩), (28, ⟨[], [], [], true⟩), (24, ⟨[], [], [], true⟩)]
noncomputable def O_espalierref_Seen {ρ : Type} (n : Nat) : Orc ρ := orcCons 28 F_slices_Contains_string_string (slices_Contains_string_string n) (orcCons 78 F_slices_ContainsFunc_string_string_espalierref_Seen_1_c (slices_ContainsFunc_string_string_espalierref_Seen_1_c n) (orcCons 24 F_espalierref_NodeAt (espalierref_NodeAt n) (orcNil)))
omit [UTabs] in
theorem O_espalierref_Seen_ok {ρ : Type} (n : Nat) : (O_espalierref_Seen n : Orc ρ).ok Tryd.prog := orcCons_ok (by kernel_rfl) (ok_slices_Contains_string_string n) (orcCons_ok (by kernel_rfl) (ok_slices_ContainsFunc_string_string_espalierref_Seen_1_c n) (orcCons_ok (by kernel_rfl) (ok_espalierref_NodeAt n) (orcNil_ok)))
noncomputable def T_espalierref_Seen_s0 : Tm := ⟨[(2, .ptr 2 0), (3, .ptr 3 0), (4, .ptr 4 0), (5, .ptr 5 0)], [(14, (.lst .node)), (15, .i64), (16, .i64)], [(2, .box [.d (.lst .str)]), (3, .box [.d .graph]), (4, .box [.d .graph]), (5, .box [.ref (.own 300200), .ref (.nils), .d .i64]), (300200, .arr 51 .node)]⟩
noncomputable def X_espalierref_Seen_s0 : Tm := ⟨[(3, .ptr 3 0), (4, .ptr 4 0), (5, .ptr 5 0)], [], [(3, .box [.d .graph]), (4, .box [.d .graph]), (5, .box [.ref (.own 300200), .ref (.nils), .d .i64]), (300200, .arr 51 .node)]⟩
noncomputable def R_espalierref_Seen_s0 : Tm := ⟨[], [], []⟩
noncomputable def L_espalierref_Seen_s0 {ρ : Type} (n : Nat) : LOrc ρ := lorcNil
omit [Tabs] [UTabs] in
theorem s_espalierref_Seen_s0 {ρ : Type} (n : Nat) (rec : T_espalierref_Seen_s0.den → Option ρ) kx kr s : dStep Tryd.prog 62 TT M_espalierref_Seen (O_espalierref_Seen n) (L_espalierref_Seen_s0 n) dorcNil 0 (lbody 1000 C_espalierref_Seen 0) T_espalierref_Seen_s0 X_espalierref_Seen_s0 R_espalierref_Seen_s0 ⟨[], [], [(5, 0, 300200, 51, 3)]⟩ rec kx kr s = espalierref_Seen_s0 n rec kx kr s := by kernel_rfl
noncomputable def T_espalierref_Seen_s2 : Tm := ⟨[(4, .ptr 4 0), (5, .ptr 5 0)], [(36, (.lst .edg)), (37, .i64), (38, .i64)], [(4, .box [.d .graph]), (5, .box [.ref (.own 300200), .ref (.own 300201), .d .i64]), (300200, .arr 51 .node), (300201, .arr 80 .edg)]⟩
noncomputable def X_espalierref_Seen_s2 : Tm := ⟨[(4, .ptr 4 0), (5, .ptr 5 0)], [], [(4, .box [.d .graph]), (5, .box [.ref (.own 300200), .ref (.own 300201), .d .i64]), (300200, .arr 51 .node), (300201, .arr 80 .edg)]⟩
noncomputable def R_espalierref_Seen_s2 : Tm := ⟨[], [], []⟩
noncomputable def L_espalierref_Seen_s2 {ρ : Type} (n : Nat) : LOrc ρ := lorcNil
omit [Tabs] [UTabs] in
theorem s_espalierref_Seen_s2 {ρ : Type} (n : Nat) (rec : T_espalierref_Seen_s2.den → Option ρ) kx kr s : dStep Tryd.prog 62 TT M_espalierref_Seen (O_espalierref_Seen n) (L_espalierref_Seen_s2 n) dorcNil 2 (lbody 1000 C_espalierref_Seen 1) T_espalierref_Seen_s2 X_espalierref_Seen_s2 R_espalierref_Seen_s2 ⟨[], [], [(5, 1, 300201, 80, 5)]⟩ rec kx kr s = espalierref_Seen_s2 n rec kx kr s := by kernel_rfl
noncomputable def L_espalierref_Seen {ρ : Type} (n : Nat) : LOrc ρ := lorcCons 0 (loopL 62 0 n T_espalierref_Seen_s0 X_espalierref_Seen_s0 R_espalierref_Seen_s0 ⟨[], [], [(5, 0, 300200, 51, 3)]⟩ (espalierref_Seen_s0 n)) (lorcCons 2 (loopL 62 2 n T_espalierref_Seen_s2 X_espalierref_Seen_s2 R_espalierref_Seen_s2 ⟨[], [], [(5, 1, 300201, 80, 5)]⟩ (espalierref_Seen_s2 n)) (lorcNil))
omit [Tabs] [UTabs] in
theorem e_espalierref_Seen (n : Nat) (x) : evF Tryd.prog 62 TT M_espalierref_Seen F_espalierref_Seen (O_espalierref_Seen n) (L_espalierref_Seen n) dorcNil ⟨[], [], []⟩ [.cell 4 26] C_espalierref_Seen x = espalierref_Seen n x := by kernel_rfl
omit [UTabs] in
theorem ok_espalierref_Seen (n : Nat) : Contract Tryd.prog 26 F_espalierref_Seen (espalierref_Seen n) :=
  Contract.of_ev (c := C_espalierref_Seen) (N := 62) Tryd.func26 (by kernel_rfl) (by kernel_rfl) (by kernel_rfl) (by kernel_rfl) (O_espalierref_Seen_ok n) dorcNil_ok (.of (l := [(0, (lbody 1000 C_espalierref_Seen 0)), (2, (lbody 1000 C_espalierref_Seen 1))]) (by kernel_rfl) ⟨.head (loopL_sound (O_espalierref_Seen_ok n) dorcNil_ok (.of (l := []) (by kernel_rfl) trivial) (s_espalierref_Seen_s0 n)), ⟨.tail rfl (.head (loopL_sound (O_espalierref_Seen_ok n) dorcNil_ok (.of (l := []) (by kernel_rfl) trivial) (s_espalierref_Seen_s2 n))), trivial⟩⟩) (e_espalierref_Seen n)

noncomputable def C_espalierlaw_seenBy : Code := bodyOf Tryd.f18
noncomputable def M_espalierlaw_seenBy : List (Nat × ArgM) := [(21, ⟨[], [], [], true⟩), (65, ⟨[], [], [], true⟩)]
noncomputable def O_espalierlaw_seenBy {ρ : Type} (n : Nat) : Orc ρ := orcCons 21 F_espalierlaw_checkGrants (espalierlaw_checkGrants n) (orcCons 65 F_espalierref_CheckGraph (espalierref_CheckGraph n) (orcCons 26 F_espalierref_Seen (espalierref_Seen n) (orcNil)))
theorem O_espalierlaw_seenBy_ok {ρ : Type} (n : Nat) : (O_espalierlaw_seenBy n : Orc ρ).ok Tryd.prog := orcCons_ok (by kernel_rfl) (ok_espalierlaw_checkGrants n) (orcCons_ok (by kernel_rfl) (ok_espalierref_CheckGraph n) (orcCons_ok (by kernel_rfl) (ok_espalierref_Seen n) (orcNil_ok)))
noncomputable def T_espalierlaw_seenBy_s0 : Tm := ⟨[(5, .ptr 5 0), (6, .ptr 6 0)], [(1, .str), (25, (.lst .grant)), (26, .i64), (27, .i64)], [(5, .box [.d .graph]), (6, .box [.d .graph])]⟩
noncomputable def X_espalierlaw_seenBy_s0 : Tm := ⟨[(6, .ptr 6 0)], [], [(6, .box [.d .graph])]⟩
noncomputable def R_espalierlaw_seenBy_s0 : Tm := ⟨[(6, .ptr 6 0)], [(7, (.lst .str)), (8, .i64)], [(6, .box [.d .graph])]⟩
noncomputable def L_espalierlaw_seenBy_s0 {ρ : Type} (n : Nat) : LOrc ρ := lorcNil
omit [Tabs] [UTabs] in
theorem s_espalierlaw_seenBy_s0 {ρ : Type} (n : Nat) (rec : T_espalierlaw_seenBy_s0.den → Option ρ) kx kr s : dStep Tryd.prog 43 TT M_espalierlaw_seenBy (O_espalierlaw_seenBy n) (L_espalierlaw_seenBy_s0 n) (evDraw Tryd.prog 43 TT M_espalierlaw_seenBy (O_espalierlaw_seenBy n)) 0 (lbody 1000 C_espalierlaw_seenBy 0) T_espalierlaw_seenBy_s0 X_espalierlaw_seenBy_s0 R_espalierlaw_seenBy_s0 ⟨[], [], []⟩ rec kx kr s = espalierlaw_seenBy_s0 n rec kx kr s := by kernel_rfl
noncomputable def L_espalierlaw_seenBy {ρ : Type} (n : Nat) : LOrc ρ := lorcCons 0 (loopL 43 0 n T_espalierlaw_seenBy_s0 X_espalierlaw_seenBy_s0 R_espalierlaw_seenBy_s0 ⟨[], [], []⟩ (espalierlaw_seenBy_s0 n)) (lorcNil)
omit [Tabs] [UTabs] in
theorem e_espalierlaw_seenBy (n : Nat) (x) : evF Tryd.prog 43 TT M_espalierlaw_seenBy F_espalierlaw_seenBy (O_espalierlaw_seenBy n) (L_espalierlaw_seenBy n) (evDraw Tryd.prog 43 TT M_espalierlaw_seenBy (O_espalierlaw_seenBy n)) ⟨[], [], []⟩ [.cell 6 26, .tmp 7, .tmp 8] C_espalierlaw_seenBy x = espalierlaw_seenBy n x := by kernel_rfl
theorem ok_espalierlaw_seenBy (n : Nat) : Contract Tryd.prog 18 F_espalierlaw_seenBy (espalierlaw_seenBy n) :=
  Contract.of_ev (c := C_espalierlaw_seenBy) (N := 43) Tryd.func18 (by kernel_rfl) (by kernel_rfl) (by kernel_rfl) (by kernel_rfl) (O_espalierlaw_seenBy_ok n) (evDraw_ok (O_espalierlaw_seenBy_ok n) (by kernel_rfl)) (.of (l := [(0, (lbody 1000 C_espalierlaw_seenBy 0))]) (by kernel_rfl) ⟨.head (loopL_sound (O_espalierlaw_seenBy_ok n) (evDraw_ok (O_espalierlaw_seenBy_ok n) (by kernel_rfl)) (.of (l := []) (by kernel_rfl) trivial) (s_espalierlaw_seenBy_s0 n)), trivial⟩) (e_espalierlaw_seenBy n)

noncomputable def F_espalierlaw_granted : FnT := ⟨0, ⟨[], [], []⟩, [.v .bool], []⟩
noncomputable def F_espalierlaw_line3 : FnT := ⟨0, ⟨[], [], []⟩, [.v .graph], []⟩
noncomputable def C_espalierlaw_line3 : Code := bodyOf Tryd.f66
noncomputable def M_espalierlaw_line3 : List (Nat × ArgM) := []
noncomputable def O_espalierlaw_line3 {ρ : Type} : Orc ρ := orcNil
omit [UTabs] in
theorem O_espalierlaw_line3_ok {ρ : Type} : (O_espalierlaw_line3 : Orc ρ).ok Tryd.prog := orcNil_ok
noncomputable def L_espalierlaw_line3 {ρ : Type} : LOrc ρ := lorcNil
omit [Tabs] [UTabs] in
theorem e_espalierlaw_line3 (x) : evF Tryd.prog 10 TT M_espalierlaw_line3 F_espalierlaw_line3 (O_espalierlaw_line3) (L_espalierlaw_line3) dorcNil ⟨[], [], []⟩ [.cell 0 26] C_espalierlaw_line3 x = espalierlaw_line3 x := by kernel_rfl
omit [UTabs] in
theorem ok_espalierlaw_line3 : Contract Tryd.prog 66 F_espalierlaw_line3 (espalierlaw_line3) :=
  Contract.of_ev (c := C_espalierlaw_line3) (N := 10) Tryd.func66 (by kernel_rfl) (by kernel_rfl) (by kernel_rfl) (by kernel_rfl) (O_espalierlaw_line3_ok) dorcNil_ok (.of (l := []) (by kernel_rfl) trivial) (e_espalierlaw_line3)

noncomputable def C_espalierlaw_granted : Code := bodyOf Tryd.f19
noncomputable def M_espalierlaw_granted : List (Nat × ArgM) := []
noncomputable def O_espalierlaw_granted {ρ : Type} (n : Nat) : Orc ρ := orcCons 66 F_espalierlaw_line3 (espalierlaw_line3) (orcCons 17 F_grant_See (grant_See n) (orcNil))
theorem O_espalierlaw_granted_ok {ρ : Type} (n : Nat) : (O_espalierlaw_granted n : Orc ρ).ok Tryd.prog := orcCons_ok (by kernel_rfl) (ok_espalierlaw_line3) (orcCons_ok (by kernel_rfl) (ok_grant_See n) (orcNil_ok))
noncomputable def L_espalierlaw_granted {ρ : Type} (n : Nat) : LOrc ρ := lorcNil
omit [Tabs] [UTabs] in
theorem e_espalierlaw_granted (n : Nat) (x) : evF Tryd.prog 33 TT M_espalierlaw_granted F_espalierlaw_granted (O_espalierlaw_granted n) (L_espalierlaw_granted n) dorcNil ⟨[], [], []⟩ [.tmp 0] C_espalierlaw_granted x = espalierlaw_granted n x := by kernel_rfl
theorem ok_espalierlaw_granted (n : Nat) : Contract Tryd.prog 19 F_espalierlaw_granted (espalierlaw_granted n) :=
  Contract.of_ev (c := C_espalierlaw_granted) (N := 33) Tryd.func19 (by kernel_rfl) (by kernel_rfl) (by kernel_rfl) (by kernel_rfl) (O_espalierlaw_granted_ok n) dorcNil_ok (.of (l := []) (by kernel_rfl) trivial) (e_espalierlaw_granted n)

noncomputable def F_espalierref_SameGraph : FnT := ⟨2, ⟨[], [(0, .graph), (1, .graph)], []⟩, [.v .bool], []⟩
noncomputable def F_slices_EqualFunc_api_Node_api_Node_api_Node_api_Node_espalierref_SameNode : FnT := ⟨3, ⟨[(2, .fn 72)], [(0, (.lst .node)), (1, (.lst .node))], []⟩, [.v .bool], []⟩
noncomputable def F_espalierref_SameNode : FnT := ⟨2, ⟨[], [(0, .node), (1, .node)], []⟩, [.v .bool], []⟩
noncomputable def F_slices_Equal_string_string : FnT := ⟨2, ⟨[], [(0, (.lst .str)), (1, (.lst .str))], []⟩, [.v .bool], []⟩
noncomputable def C_slices_Equal_string_string : Code := bodyOf Tryd.f128
noncomputable def M_slices_Equal_string_string : List (Nat × ArgM) := []
noncomputable def O_slices_Equal_string_string {ρ : Type} (n : Nat) : Orc ρ := orcNil
omit [UTabs] in
theorem O_slices_Equal_string_string_ok {ρ : Type} (n : Nat) : (O_slices_Equal_string_string n : Orc ρ).ok Tryd.prog := orcNil_ok
noncomputable def T_slices_Equal_string_string_s0 : Tm := ⟨[], [(0, (.lst .str)), (1, (.lst .str)), (12, .i64), (13, .i64)], []⟩
noncomputable def X_slices_Equal_string_string_s0 : Tm := ⟨[], [], []⟩
noncomputable def R_slices_Equal_string_string_s0 : Tm := ⟨[], [(4, .bool)], []⟩
noncomputable def L_slices_Equal_string_string_s0 {ρ : Type} (n : Nat) : LOrc ρ := lorcNil
omit [Tabs] [UTabs] in
theorem s_slices_Equal_string_string_s0 {ρ : Type} (n : Nat) (rec : T_slices_Equal_string_string_s0.den → Option ρ) kx kr s : dStep Tryd.prog 26 TT M_slices_Equal_string_string (O_slices_Equal_string_string n) (L_slices_Equal_string_string_s0 n) (evDraw Tryd.prog 26 TT M_slices_Equal_string_string (O_slices_Equal_string_string n)) 0 (lbody 1000 C_slices_Equal_string_string 0) T_slices_Equal_string_string_s0 X_slices_Equal_string_string_s0 R_slices_Equal_string_string_s0 ⟨[], [], []⟩ rec kx kr s = slices_Equal_string_string_s0 n rec kx kr s := by kernel_rfl
noncomputable def L_slices_Equal_string_string {ρ : Type} (n : Nat) : LOrc ρ := lorcCons 0 (loopL 26 0 n T_slices_Equal_string_string_s0 X_slices_Equal_string_string_s0 R_slices_Equal_string_string_s0 ⟨[], [], []⟩ (slices_Equal_string_string_s0 n)) (lorcNil)
omit [Tabs] [UTabs] in
theorem e_slices_Equal_string_string (n : Nat) (x) : evF Tryd.prog 26 TT M_slices_Equal_string_string F_slices_Equal_string_string (O_slices_Equal_string_string n) (L_slices_Equal_string_string n) (evDraw Tryd.prog 26 TT M_slices_Equal_string_string (O_slices_Equal_string_string n)) ⟨[], [], []⟩ [.tmp 4] C_slices_Equal_string_string x = slices_Equal_string_string n x := by kernel_rfl
omit [UTabs] in
theorem ok_slices_Equal_string_string (n : Nat) : Contract Tryd.prog 128 F_slices_Equal_string_string (slices_Equal_string_string n) :=
  Contract.of_ev (c := C_slices_Equal_string_string) (N := 26) Tryd.func128 (by kernel_rfl) (by kernel_rfl) (by kernel_rfl) (by kernel_rfl) (O_slices_Equal_string_string_ok n) (evDraw_ok (O_slices_Equal_string_string_ok n) (by kernel_rfl)) (.of (l := [(0, (lbody 1000 C_slices_Equal_string_string 0))]) (by kernel_rfl) ⟨.head (loopL_sound (O_slices_Equal_string_string_ok n) (evDraw_ok (O_slices_Equal_string_string_ok n) (by kernel_rfl)) (.of (l := []) (by kernel_rfl) trivial) (s_slices_Equal_string_string_s0 n)), trivial⟩) (e_slices_Equal_string_string n)

noncomputable def F_espalierref_SameProps : FnT := ⟨2, ⟨[], [(0, (.lst .prp)), (1, (.lst .prp))], []⟩, [.v .bool], []⟩
noncomputable def F_slices_EqualFunc_api_Prop_api_Prop_api_Prop_api_Prop_espalierref_SameProps_1 : FnT := ⟨3, ⟨[(2, .fn 177)], [(0, (.lst .prp)), (1, (.lst .prp))], []⟩, [.v .bool], []⟩
noncomputable def F_espalierref_SameProps_1 : FnT := ⟨2, ⟨[], [(0, .prp), (1, .prp)], []⟩, [.v .bool], []⟩
noncomputable def F_espalierref_SameValue : FnT := ⟨2, ⟨[], [(0, .val), (1, .val)], []⟩, [.v .bool], []⟩
noncomputable def F_espalierref_OrderOf : FnT := ⟨2, ⟨[], [(0, .val), (1, .val)], []⟩, [.v .i64], []⟩
noncomputable def F_bytes_Compare : FnT := ⟨2, ⟨[], [(0, (.lst .u8)), (1, (.lst .u8))], []⟩, [.v .i64], []⟩
noncomputable def C_bytes_Compare : Code := bodyOf Tryd.f138
noncomputable def M_bytes_Compare : List (Nat × ArgM) := []
noncomputable def O_bytes_Compare {ρ : Type} : Orc ρ := orcCons 180 T_cmpB (cmpN) (orcNil)
omit [UTabs] in
theorem O_bytes_Compare_ok {ρ : Type} : (O_bytes_Compare : Orc ρ).ok Tryd.prog := orcExt_ok (by kernel_rfl) (cmp_ok) (orcNil_ok)
noncomputable def L_bytes_Compare {ρ : Type} : LOrc ρ := lorcNil
omit [Tabs] [UTabs] in
theorem e_bytes_Compare (x) : evF Tryd.prog 8 TT M_bytes_Compare F_bytes_Compare (O_bytes_Compare) (L_bytes_Compare) dorcNil ⟨[], [], []⟩ [.tmp 4] C_bytes_Compare x = bytes_Compare x := by kernel_rfl
omit [UTabs] in
theorem ok_bytes_Compare : Contract Tryd.prog 138 F_bytes_Compare (bytes_Compare) :=
  Contract.of_ev (c := C_bytes_Compare) (N := 8) Tryd.func138 (by kernel_rfl) (by kernel_rfl) (by kernel_rfl) (by kernel_rfl) (O_bytes_Compare_ok) dorcNil_ok (.of (l := []) (by kernel_rfl) trivial) (e_bytes_Compare)

noncomputable def C_espalierref_OrderOf : Code := bodyOf Tryd.f85
noncomputable def M_espalierref_OrderOf : List (Nat × ArgM) := [(138, ⟨[], [], [], true⟩), (85, ⟨[], [], [], true⟩)]
noncomputable def O_espalierref_OrderOf {ρ : Type} (self_espalierref_OrderOf : Ev.Val × Ev.Val × Unit → Option (Int × Unit)) (n : Nat) : Orc ρ := orcCons 138 F_bytes_Compare (bytes_Compare) (orcCons 85 F_espalierref_OrderOf (self_espalierref_OrderOf) (orcNil))
omit [UTabs] in
theorem O_espalierref_OrderOf_ok {ρ : Type} (self_espalierref_OrderOf : Ev.Val × Ev.Val × Unit → Option (Int × Unit)) (h_espalierref_OrderOf : Contract Tryd.prog 85 F_espalierref_OrderOf self_espalierref_OrderOf) (n : Nat) : (O_espalierref_OrderOf self_espalierref_OrderOf n : Orc ρ).ok Tryd.prog := orcCons_ok (by kernel_rfl) (ok_bytes_Compare) (orcCons_ok (by kernel_rfl) (h_espalierref_OrderOf) (orcNil_ok))
noncomputable def T_espalierref_OrderOf_s1 : Tm := ⟨[(2, .ptr 2 0), (3, .ptr 3 0)], [(5, .i64)], [(2, .box [.d .val]), (3, .box [.d .val])]⟩
noncomputable def X_espalierref_OrderOf_s1 : Tm := ⟨[(2, .ptr 2 0), (3, .ptr 3 0)], [], [(2, .box [.d .val]), (3, .box [.d .val])]⟩
noncomputable def R_espalierref_OrderOf_s1 : Tm := ⟨[], [(4, .i64)], []⟩
noncomputable def L_espalierref_OrderOf_s1 {ρ : Type} (self_espalierref_OrderOf : Ev.Val × Ev.Val × Unit → Option (Int × Unit)) (n : Nat) : LOrc ρ := lorcNil
omit [Tabs] [UTabs] in
theorem s_espalierref_OrderOf_s1 {ρ : Type} (self_espalierref_OrderOf : Ev.Val × Ev.Val × Unit → Option (Int × Unit)) (n : Nat) (rec : T_espalierref_OrderOf_s1.den → Option ρ) kx kr s : dStep Tryd.prog 88 TT M_espalierref_OrderOf (O_espalierref_OrderOf self_espalierref_OrderOf n) (L_espalierref_OrderOf_s1 self_espalierref_OrderOf n) (evDraw Tryd.prog 88 TT M_espalierref_OrderOf (O_espalierref_OrderOf self_espalierref_OrderOf n)) 1 (lbody 1000 C_espalierref_OrderOf 0) T_espalierref_OrderOf_s1 X_espalierref_OrderOf_s1 R_espalierref_OrderOf_s1 ⟨[], [], []⟩ rec kx kr s = espalierref_OrderOf_s1 self_espalierref_OrderOf n rec kx kr s := by kernel_rfl
noncomputable def L_espalierref_OrderOf {ρ : Type} (self_espalierref_OrderOf : Ev.Val × Ev.Val × Unit → Option (Int × Unit)) (n : Nat) : LOrc ρ := lorcCons 1 (loopL 88 1 n T_espalierref_OrderOf_s1 X_espalierref_OrderOf_s1 R_espalierref_OrderOf_s1 ⟨[], [], []⟩ (espalierref_OrderOf_s1 self_espalierref_OrderOf n)) (lorcNil)
omit [Tabs] [UTabs] in
theorem e_espalierref_OrderOf (self_espalierref_OrderOf : Ev.Val × Ev.Val × Unit → Option (Int × Unit)) (n : Nat) (x) : evF Tryd.prog 88 TT M_espalierref_OrderOf F_espalierref_OrderOf (O_espalierref_OrderOf self_espalierref_OrderOf n) (L_espalierref_OrderOf self_espalierref_OrderOf n) (evDraw Tryd.prog 88 TT M_espalierref_OrderOf (O_espalierref_OrderOf self_espalierref_OrderOf n)) ⟨[], [], []⟩ [.tmp 4] C_espalierref_OrderOf x = espalierref_OrderOf_b self_espalierref_OrderOf n x := by kernel_rfl
omit [UTabs] in
theorem okb_espalierref_OrderOf (self_espalierref_OrderOf : Ev.Val × Ev.Val × Unit → Option (Int × Unit)) (h_espalierref_OrderOf : Contract Tryd.prog 85 F_espalierref_OrderOf self_espalierref_OrderOf) (n : Nat) : Contract Tryd.prog 85 F_espalierref_OrderOf (espalierref_OrderOf_b self_espalierref_OrderOf n) :=
  Contract.of_ev (c := C_espalierref_OrderOf) (N := 88) Tryd.func85 (by kernel_rfl) (by kernel_rfl) (by kernel_rfl) (by kernel_rfl) (O_espalierref_OrderOf_ok self_espalierref_OrderOf h_espalierref_OrderOf n) (evDraw_ok (O_espalierref_OrderOf_ok self_espalierref_OrderOf h_espalierref_OrderOf n) (by kernel_rfl)) (.of (l := [(1, (lbody 1000 C_espalierref_OrderOf 0))]) (by kernel_rfl) ⟨.head (loopL_sound (O_espalierref_OrderOf_ok self_espalierref_OrderOf h_espalierref_OrderOf n) (evDraw_ok (O_espalierref_OrderOf_ok self_espalierref_OrderOf h_espalierref_OrderOf n) (by kernel_rfl)) (.of (l := []) (by kernel_rfl) trivial) (s_espalierref_OrderOf_s1 self_espalierref_OrderOf n)), trivial⟩) (e_espalierref_OrderOf self_espalierref_OrderOf n)
omit [UTabs] in
theorem ok_espalierref_OrderOf : ∀ n, Contract Tryd.prog 85 F_espalierref_OrderOf (espalierref_OrderOf n)
  | 0 => fun _ _ h => by cases h
  | n + 1 => okb_espalierref_OrderOf _ (ok_espalierref_OrderOf n) n

noncomputable def C_espalierref_SameValue : Code := bodyOf Tryd.f54
noncomputable def M_espalierref_SameValue : List (Nat × ArgM) := [(85, ⟨[], [], [], true⟩)]
noncomputable def O_espalierref_SameValue {ρ : Type} (n : Nat) : Orc ρ := orcCons 85 F_espalierref_OrderOf (espalierref_OrderOf n) (orcNil)
omit [UTabs] in
theorem O_espalierref_SameValue_ok {ρ : Type} (n : Nat) : (O_espalierref_SameValue n : Orc ρ).ok Tryd.prog := orcCons_ok (by kernel_rfl) (ok_espalierref_OrderOf n) (orcNil_ok)
noncomputable def L_espalierref_SameValue {ρ : Type} (n : Nat) : LOrc ρ := lorcNil
omit [Tabs] [UTabs] in
theorem e_espalierref_SameValue (n : Nat) (x) : evF Tryd.prog 9 TT M_espalierref_SameValue F_espalierref_SameValue (O_espalierref_SameValue n) (L_espalierref_SameValue n) dorcNil ⟨[], [], []⟩ [.tmp 4] C_espalierref_SameValue x = espalierref_SameValue n x := by kernel_rfl
omit [UTabs] in
theorem ok_espalierref_SameValue (n : Nat) : Contract Tryd.prog 54 F_espalierref_SameValue (espalierref_SameValue n) :=
  Contract.of_ev (c := C_espalierref_SameValue) (N := 9) Tryd.func54 (by kernel_rfl) (by kernel_rfl) (by kernel_rfl) (by kernel_rfl) (O_espalierref_SameValue_ok n) dorcNil_ok (.of (l := []) (by kernel_rfl) trivial) (e_espalierref_SameValue n)

noncomputable def C_espalierref_SameProps_1 : Code := bodyOf Tryd.f177
noncomputable def M_espalierref_SameProps_1 : List (Nat × ArgM) := [(54, ⟨[], [], [], true⟩)]
noncomputable def O_espalierref_SameProps_1 {ρ : Type} (n : Nat) : Orc ρ := orcCons 54 F_espalierref_SameValue (espalierref_SameValue n) (orcNil)
omit [UTabs] in
theorem O_espalierref_SameProps_1_ok {ρ : Type} (n : Nat) : (O_espalierref_SameProps_1 n : Orc ρ).ok Tryd.prog := orcCons_ok (by kernel_rfl) (ok_espalierref_SameValue n) (orcNil_ok)
noncomputable def L_espalierref_SameProps_1 {ρ : Type} (n : Nat) : LOrc ρ := lorcNil
omit [Tabs] [UTabs] in
theorem e_espalierref_SameProps_1 (n : Nat) (x) : evF Tryd.prog 17 TT M_espalierref_SameProps_1 F_espalierref_SameProps_1 (O_espalierref_SameProps_1 n) (L_espalierref_SameProps_1 n) dorcNil ⟨[], [], []⟩ [.tmp 4] C_espalierref_SameProps_1 x = espalierref_SameProps_1 n x := by kernel_rfl
omit [UTabs] in
theorem ok_espalierref_SameProps_1 (n : Nat) : Contract Tryd.prog 177 F_espalierref_SameProps_1 (espalierref_SameProps_1 n) :=
  Contract.of_ev (c := C_espalierref_SameProps_1) (N := 17) Tryd.func177 (by kernel_rfl) (by kernel_rfl) (by kernel_rfl) (by kernel_rfl) (O_espalierref_SameProps_1_ok n) dorcNil_ok (.of (l := []) (by kernel_rfl) trivial) (e_espalierref_SameProps_1 n)

noncomputable def C_slices_EqualFunc_api_Prop_api_Prop_api_Prop_api_Prop_espalierref_SameProps_1 : Code := bodyOf Tryd.f176
noncomputable def M_slices_EqualFunc_api_Prop_api_Prop_api_Prop_api_Prop_espalierref_SameProps_1 : List (Nat × ArgM) := [(177, ⟨[], [], [], true⟩)]
noncomputable def O_slices_EqualFunc_api_Prop_api_Prop_api_Prop_api_Prop_espalierref_SameProps_1 {ρ : Type} (n : Nat) : Orc ρ := orcCons 177 F_espalierref_SameProps_1 (espalierref_SameProps_1 n) (orcNil)
omit [UTabs] in
theorem O_slices_EqualFunc_api_Prop_api_Prop_api_Prop_api_Prop_espalierref_SameProps_1_ok {ρ : Type} (n : Nat) : (O_slices_EqualFunc_api_Prop_api_Prop_api_Prop_api_Prop_espalierref_SameProps_1 n : Orc ρ).ok Tryd.prog := orcCons_ok (by kernel_rfl) (ok_espalierref_SameProps_1 n) (orcNil_ok)
noncomputable def T_slices_EqualFunc_api_Prop_api_Prop_api_Prop_api_Prop_espalierref_SameProps_1_s0 : Tm := ⟨[(2, .fn 177)], [(1, (.lst .prp)), (15, (.lst .prp)), (16, .i64), (17, .i64)], []⟩
noncomputable def X_slices_EqualFunc_api_Prop_api_Prop_api_Prop_api_Prop_espalierref_SameProps_1_s0 : Tm := ⟨[], [], []⟩
noncomputable def R_slices_EqualFunc_api_Prop_api_Prop_api_Prop_api_Prop_espalierref_SameProps_1_s0 : Tm := ⟨[], [(6, .bool)], []⟩
noncomputable def L_slices_EqualFunc_api_Prop_api_Prop_api_Prop_api_Prop_espalierref_SameProps_1_s0 {ρ : Type} (n : Nat) : LOrc ρ := lorcNil
omit [Tabs] [UTabs] in
theorem s_slices_EqualFunc_api_Prop_api_Prop_api_Prop_api_Prop_espalierref_SameProps_1_s0 {ρ : Type} (n : Nat) (rec : T_slices_EqualFunc_api_Prop_api_Prop_api_Prop_api_Prop_espalierref_SameProps_1_s0.den → Option ρ) kx kr s : dStep Tryd.prog 32 TT M_slices_EqualFunc_api_Prop_api_Prop_api_Prop_api_Prop_espalierref_SameProps_1 (O_slices_EqualFunc_api_Prop_api_Prop_api_Prop_api_Prop_espalierref_SameProps_1 n) (L_slices_EqualFunc_api_Prop_api_Prop_api_Prop_api_Prop_espalierref_SameProps_1_s0 n) dorcNil 0 (lbody 1000 C_slices_EqualFunc_api_Prop_api_Prop_api_Prop_api_Prop_espalierref_SameProps_1 0) T_slices_EqualFunc_api_Prop_api_Prop_api_Prop_api_Prop_espalierref_SameProps_1_s0 X_slices_EqualFunc_api_Prop_api_Prop_api_Prop_api_Prop_espalierref_SameProps_1_s0 R_slices_EqualFunc_api_Prop_api_Prop_api_Prop_api_Prop_espalierref_SameProps_1_s0 ⟨[], [], []⟩ rec kx kr s = slices_EqualFunc_api_Prop_api_Prop_api_Prop_api_Prop_espalierref_SameProps_1_s0 n rec kx kr s := by kernel_rfl
noncomputable def L_slices_EqualFunc_api_Prop_api_Prop_api_Prop_api_Prop_espalierref_SameProps_1 {ρ : Type} (n : Nat) : LOrc ρ := lorcCons 0 (loopL 32 0 n T_slices_EqualFunc_api_Prop_api_Prop_api_Prop_api_Prop_espalierref_SameProps_1_s0 X_slices_EqualFunc_api_Prop_api_Prop_api_Prop_api_Prop_espalierref_SameProps_1_s0 R_slices_EqualFunc_api_Prop_api_Prop_api_Prop_api_Prop_espalierref_SameProps_1_s0 ⟨[], [], []⟩ (slices_EqualFunc_api_Prop_api_Prop_api_Prop_api_Prop_espalierref_SameProps_1_s0 n)) (lorcNil)
omit [Tabs] [UTabs] in
theorem e_slices_EqualFunc_api_Prop_api_Prop_api_Prop_api_Prop_espalierref_SameProps_1 (n : Nat) (x) : evF Tryd.prog 32 TT M_slices_EqualFunc_api_Prop_api_Prop_api_Prop_api_Prop_espalierref_SameProps_1 F_slices_EqualFunc_api_Prop_api_Prop_api_Prop_api_Prop_espalierref_SameProps_1 (O_slices_EqualFunc_api_Prop_api_Prop_api_Prop_api_Prop_espalierref_SameProps_1 n) (L_slices_EqualFunc_api_Prop_api_Prop_api_Prop_api_Prop_espalierref_SameProps_1 n) dorcNil ⟨[], [], []⟩ [.tmp 6] C_slices_EqualFunc_api_Prop_api_Prop_api_Prop_api_Prop_espalierref_SameProps_1 x = slices_EqualFunc_api_Prop_api_Prop_api_Prop_api_Prop_espalierref_SameProps_1 n x := by kernel_rfl
omit [UTabs] in
theorem ok_slices_EqualFunc_api_Prop_api_Prop_api_Prop_api_Prop_espalierref_SameProps_1 (n : Nat) : Contract Tryd.prog 176 F_slices_EqualFunc_api_Prop_api_Prop_api_Prop_api_Prop_espalierref_SameProps_1 (slices_EqualFunc_api_Prop_api_Prop_api_Prop_api_Prop_espalierref_SameProps_1 n) :=
  Contract.of_ev (c := C_slices_EqualFunc_api_Prop_api_Prop_api_Prop_api_Prop_espalierref_SameProps_1) (N := 32) Tryd.func176 (by kernel_rfl) (by kernel_rfl) (by kernel_rfl) (by kernel_rfl) (O_slices_EqualFunc_api_Prop_api_Prop_api_Prop_api_Prop_espalierref_SameProps_1_ok n) dorcNil_ok (.of (l := [(0, (lbody 1000 C_slices_EqualFunc_api_Prop_api_Prop_api_Prop_api_Prop_espalierref_SameProps_1 0))]) (by kernel_rfl) ⟨.head (loopL_sound (O_slices_EqualFunc_api_Prop_api_Prop_api_Prop_api_Prop_espalierref_SameProps_1_ok n) dorcNil_ok (.of (l := []) (by kernel_rfl) trivial) (s_slices_EqualFunc_api_Prop_api_Prop_api_Prop_api_Prop_espalierref_SameProps_1_s0 n)), trivial⟩) (e_slices_EqualFunc_api_Prop_api_Prop_api_Prop_api_Prop_espalierref_SameProps_1 n)

noncomputable def C_espalierref_SameProps : Code := bodyOf Tryd.f129
noncomputable def M_espalierref_SameProps : List (Nat × ArgM) := [(176, ⟨[], [], [], true⟩)]
noncomputable def O_espalierref_SameProps {ρ : Type} (n : Nat) : Orc ρ := orcCons 176 F_slices_EqualFunc_api_Prop_api_Prop_api_Prop_api_Prop_espalierref_SameProps_1 (slices_EqualFunc_api_Prop_api_Prop_api_Prop_api_Prop_espalierref_SameProps_1 n) (orcNil)
omit [UTabs] in
theorem O_espalierref_SameProps_ok {ρ : Type} (n : Nat) : (O_espalierref_SameProps n : Orc ρ).ok Tryd.prog := orcCons_ok (by kernel_rfl) (ok_slices_EqualFunc_api_Prop_api_Prop_api_Prop_api_Prop_espalierref_SameProps_1 n) (orcNil_ok)
noncomputable def L_espalierref_SameProps {ρ : Type} (n : Nat) : LOrc ρ := lorcNil
omit [Tabs] [UTabs] in
theorem e_espalierref_SameProps (n : Nat) (x) : evF Tryd.prog 8 TT M_espalierref_SameProps F_espalierref_SameProps (O_espalierref_SameProps n) (L_espalierref_SameProps n) dorcNil ⟨[], [], []⟩ [.tmp 4] C_espalierref_SameProps x = espalierref_SameProps n x := by kernel_rfl
omit [UTabs] in
theorem ok_espalierref_SameProps (n : Nat) : Contract Tryd.prog 129 F_espalierref_SameProps (espalierref_SameProps n) :=
  Contract.of_ev (c := C_espalierref_SameProps) (N := 8) Tryd.func129 (by kernel_rfl) (by kernel_rfl) (by kernel_rfl) (by kernel_rfl) (O_espalierref_SameProps_ok n) dorcNil_ok (.of (l := []) (by kernel_rfl) trivial) (e_espalierref_SameProps n)

noncomputable def C_espalierref_SameNode : Code := bodyOf Tryd.f72
noncomputable def M_espalierref_SameNode : List (Nat × ArgM) := [(128, ⟨[], [], [], true⟩), (129, ⟨[], [], [], true⟩)]
noncomputable def O_espalierref_SameNode {ρ : Type} (n : Nat) : Orc ρ := orcCons 128 F_slices_Equal_string_string (slices_Equal_string_string n) (orcCons 129 F_espalierref_SameProps (espalierref_SameProps n) (orcNil))
omit [UTabs] in
theorem O_espalierref_SameNode_ok {ρ : Type} (n : Nat) : (O_espalierref_SameNode n : Orc ρ).ok Tryd.prog := orcCons_ok (by kernel_rfl) (ok_slices_Equal_string_string n) (orcCons_ok (by kernel_rfl) (ok_espalierref_SameProps n) (orcNil_ok))
noncomputable def L_espalierref_SameNode {ρ : Type} (n : Nat) : LOrc ρ := lorcNil
omit [Tabs] [UTabs] in
theorem e_espalierref_SameNode (n : Nat) (x) : evF Tryd.prog 24 TT M_espalierref_SameNode F_espalierref_SameNode (O_espalierref_SameNode n) (L_espalierref_SameNode n) dorcNil ⟨[], [], []⟩ [.tmp 4] C_espalierref_SameNode x = espalierref_SameNode n x := by kernel_rfl
omit [UTabs] in
theorem ok_espalierref_SameNode (n : Nat) : Contract Tryd.prog 72 F_espalierref_SameNode (espalierref_SameNode n) :=
  Contract.of_ev (c := C_espalierref_SameNode) (N := 24) Tryd.func72 (by kernel_rfl) (by kernel_rfl) (by kernel_rfl) (by kernel_rfl) (O_espalierref_SameNode_ok n) dorcNil_ok (.of (l := []) (by kernel_rfl) trivial) (e_espalierref_SameNode n)

noncomputable def C_slices_EqualFunc_api_Node_api_Node_api_Node_api_Node_espalierref_SameNode : Code := bodyOf Tryd.f71
noncomputable def M_slices_EqualFunc_api_Node_api_Node_api_Node_api_Node_espalierref_SameNode : List (Nat × ArgM) := [(72, ⟨[], [], [], true⟩)]
noncomputable def O_slices_EqualFunc_api_Node_api_Node_api_Node_api_Node_espalierref_SameNode {ρ : Type} (n : Nat) : Orc ρ := orcCons 72 F_espalierref_SameNode (espalierref_SameNode n) (orcNil)
omit [UTabs] in
theorem O_slices_EqualFunc_api_Node_api_Node_api_Node_api_Node_espalierref_SameNode_ok {ρ : Type} (n : Nat) : (O_slices_EqualFunc_api_Node_api_Node_api_Node_api_Node_espalierref_SameNode n : Orc ρ).ok Tryd.prog := orcCons_ok (by kernel_rfl) (ok_espalierref_SameNode n) (orcNil_ok)
noncomputable def T_slices_EqualFunc_api_Node_api_Node_api_Node_api_Node_espalierref_SameNode_s0 : Tm := ⟨[(2, .fn 72)], [(1, (.lst .node)), (15, (.lst .node)), (16, .i64), (17, .i64)], []⟩
noncomputable def X_slices_EqualFunc_api_Node_api_Node_api_Node_api_Node_espalierref_SameNode_s0 : Tm := ⟨[], [], []⟩
noncomputable def R_slices_EqualFunc_api_Node_api_Node_api_Node_api_Node_espalierref_SameNode_s0 : Tm := ⟨[], [(6, .bool)], []⟩
noncomputable def L_slices_EqualFunc_api_Node_api_Node_api_Node_api_Node_espalierref_SameNode_s0 {ρ : Type} (n : Nat) : LOrc ρ := lorcNil
omit [Tabs] [UTabs] in
theorem s_slices_EqualFunc_api_Node_api_Node_api_Node_api_Node_espalierref_SameNode_s0 {ρ : Type} (n : Nat) (rec : T_slices_EqualFunc_api_Node_api_Node_api_Node_api_Node_espalierref_SameNode_s0.den → Option ρ) kx kr s : dStep Tryd.prog 32 TT M_slices_EqualFunc_api_Node_api_Node_api_Node_api_Node_espalierref_SameNode (O_slices_EqualFunc_api_Node_api_Node_api_Node_api_Node_espalierref_SameNode n) (L_slices_EqualFunc_api_Node_api_Node_api_Node_api_Node_espalierref_SameNode_s0 n) dorcNil 0 (lbody 1000 C_slices_EqualFunc_api_Node_api_Node_api_Node_api_Node_espalierref_SameNode 0) T_slices_EqualFunc_api_Node_api_Node_api_Node_api_Node_espalierref_SameNode_s0 X_slices_EqualFunc_api_Node_api_Node_api_Node_api_Node_espalierref_SameNode_s0 R_slices_EqualFunc_api_Node_api_Node_api_Node_api_Node_espalierref_SameNode_s0 ⟨[], [], []⟩ rec kx kr s = slices_EqualFunc_api_Node_api_Node_api_Node_api_Node_espalierref_SameNode_s0 n rec kx kr s := by kernel_rfl
noncomputable def L_slices_EqualFunc_api_Node_api_Node_api_Node_api_Node_espalierref_SameNode {ρ : Type} (n : Nat) : LOrc ρ := lorcCons 0 (loopL 32 0 n T_slices_EqualFunc_api_Node_api_Node_api_Node_api_Node_espalierref_SameNode_s0 X_slices_EqualFunc_api_Node_api_Node_api_Node_api_Node_espalierref_SameNode_s0 R_slices_EqualFunc_api_Node_api_Node_api_Node_api_Node_espalierref_SameNode_s0 ⟨[], [], []⟩ (slices_EqualFunc_api_Node_api_Node_api_Node_api_Node_espalierref_SameNode_s0 n)) (lorcNil)
omit [Tabs] [UTabs] in
theorem e_slices_EqualFunc_api_Node_api_Node_api_Node_api_Node_espalierref_SameNode (n : Nat) (x) : evF Tryd.prog 32 TT M_slices_EqualFunc_api_Node_api_Node_api_Node_api_Node_espalierref_SameNode F_slices_EqualFunc_api_Node_api_Node_api_Node_api_Node_espalierref_SameNode (O_slices_EqualFunc_api_Node_api_Node_api_Node_api_Node_espalierref_SameNode n) (L_slices_EqualFunc_api_Node_api_Node_api_Node_api_Node_espalierref_SameNode n) dorcNil ⟨[], [], []⟩ [.tmp 6] C_slices_EqualFunc_api_Node_api_Node_api_Node_api_Node_espalierref_SameNode x = slices_EqualFunc_api_Node_api_Node_api_Node_api_Node_espalierref_SameNode n x := by kernel_rfl
omit [UTabs] in
theorem ok_slices_EqualFunc_api_Node_api_Node_api_Node_api_Node_espalierref_SameNode (n : Nat) : Contract Tryd.prog 71 F_slices_EqualFunc_api_Node_api_Node_api_Node_api_Node_espalierref_SameNode (slices_EqualFunc_api_Node_api_Node_api_Node_api_Node_espalierref_SameNode n) :=
  Contract.of_ev (c := C_slices_EqualFunc_api_Node_api_Node_api_Node_api_Node_espalierref_SameNode) (N := 32) Tryd.func71 (by kernel_rfl) (by kernel_rfl) (by kernel_rfl) (by kernel_rfl) (O_slices_EqualFunc_api_Node_api_Node_api_Node_api_Node_espalierref_SameNode_ok n) dorcNil_ok (.of (l := [(0, (lbody 1000 C_slices_EqualFunc_api_Node_api_Node_api_Node_api_Node_espalierref_SameNode 0))]) (by kernel_rfl) ⟨.head (loopL_sound (O_slices_EqualFunc_api_Node_api_Node_api_Node_api_Node_espalierref_SameNode_ok n) dorcNil_ok (.of (l := []) (by kernel_rfl) trivial) (s_slices_EqualFunc_api_Node_api_Node_api_Node_api_Node_espalierref_SameNode_s0 n)), trivial⟩) (e_slices_EqualFunc_api_Node_api_Node_api_Node_api_Node_espalierref_SameNode n)

noncomputable def F_slices_EqualFunc_api_Edge_api_Edge_api_Edge_api_Edge_espalierref_SameEdge : FnT := ⟨3, ⟨[(2, .fn 74)], [(0, (.lst .edg)), (1, (.lst .edg))], []⟩, [.v .bool], []⟩
noncomputable def F_espalierref_SameEdge : FnT := ⟨2, ⟨[], [(0, .edg), (1, .edg)], []⟩, [.v .bool], []⟩
noncomputable def C_espalierref_SameEdge : Code := bodyOf Tryd.f74
noncomputable def M_espalierref_SameEdge : List (Nat × ArgM) := [(129, ⟨[], [], [], true⟩)]
noncomputable def O_espalierref_SameEdge {ρ : Type} (n : Nat) : Orc ρ := orcCons 129 F_espalierref_SameProps (espalierref_SameProps n) (orcNil)
omit [UTabs] in
theorem O_espalierref_SameEdge_ok {ρ : Type} (n : Nat) : (O_espalierref_SameEdge n : Orc ρ).ok Tryd.prog := orcCons_ok (by kernel_rfl) (ok_espalierref_SameProps n) (orcNil_ok)
noncomputable def L_espalierref_SameEdge {ρ : Type} (n : Nat) : LOrc ρ := lorcNil
omit [Tabs] [UTabs] in
theorem e_espalierref_SameEdge (n : Nat) (x) : evF Tryd.prog 38 TT M_espalierref_SameEdge F_espalierref_SameEdge (O_espalierref_SameEdge n) (L_espalierref_SameEdge n) dorcNil ⟨[], [], []⟩ [.tmp 4] C_espalierref_SameEdge x = espalierref_SameEdge n x := by kernel_rfl
omit [UTabs] in
theorem ok_espalierref_SameEdge (n : Nat) : Contract Tryd.prog 74 F_espalierref_SameEdge (espalierref_SameEdge n) :=
  Contract.of_ev (c := C_espalierref_SameEdge) (N := 38) Tryd.func74 (by kernel_rfl) (by kernel_rfl) (by kernel_rfl) (by kernel_rfl) (O_espalierref_SameEdge_ok n) dorcNil_ok (.of (l := []) (by kernel_rfl) trivial) (e_espalierref_SameEdge n)

noncomputable def C_slices_EqualFunc_api_Edge_api_Edge_api_Edge_api_Edge_espalierref_SameEdge : Code := bodyOf Tryd.f73
noncomputable def M_slices_EqualFunc_api_Edge_api_Edge_api_Edge_api_Edge_espalierref_SameEdge : List (Nat × ArgM) := [(74, ⟨[], [], [], true⟩)]
noncomputable def O_slices_EqualFunc_api_Edge_api_Edge_api_Edge_api_Edge_espalierref_SameEdge {ρ : Type} (n : Nat) : Orc ρ := orcCons 74 F_espalierref_SameEdge (espalierref_SameEdge n) (orcNil)
omit [UTabs] in
theorem O_slices_EqualFunc_api_Edge_api_Edge_api_Edge_api_Edge_espalierref_SameEdge_ok {ρ : Type} (n : Nat) : (O_slices_EqualFunc_api_Edge_api_Edge_api_Edge_api_Edge_espalierref_SameEdge n : Orc ρ).ok Tryd.prog := orcCons_ok (by kernel_rfl) (ok_espalierref_SameEdge n) (orcNil_ok)
noncomputable def T_slices_EqualFunc_api_Edge_api_Edge_api_Edge_api_Edge_espalierref_SameEdge_s0 : Tm := ⟨[(2, .fn 74)], [(1, (.lst .edg)), (15, (.lst .edg)), (16, .i64), (17, .i64)], []⟩
noncomputable def X_slices_EqualFunc_api_Edge_api_Edge_api_Edge_api_Edge_espalierref_SameEdge_s0 : Tm := ⟨[], [], []⟩
noncomputable def R_slices_EqualFunc_api_Edge_api_Edge_api_Edge_api_Edge_espalierref_SameEdge_s0 : Tm := ⟨[], [(6, .bool)], []⟩
noncomputable def L_slices_EqualFunc_api_Edge_api_Edge_api_Edge_api_Edge_espalierref_SameEdge_s0 {ρ : Type} (n : Nat) : LOrc ρ := lorcNil
omit [Tabs] [UTabs] in
theorem s_slices_EqualFunc_api_Edge_api_Edge_api_Edge_api_Edge_espalierref_SameEdge_s0 {ρ : Type} (n : Nat) (rec : T_slices_EqualFunc_api_Edge_api_Edge_api_Edge_api_Edge_espalierref_SameEdge_s0.den → Option ρ) kx kr s : dStep Tryd.prog 32 TT M_slices_EqualFunc_api_Edge_api_Edge_api_Edge_api_Edge_espalierref_SameEdge (O_slices_EqualFunc_api_Edge_api_Edge_api_Edge_api_Edge_espalierref_SameEdge n) (L_slices_EqualFunc_api_Edge_api_Edge_api_Edge_api_Edge_espalierref_SameEdge_s0 n) dorcNil 0 (lbody 1000 C_slices_EqualFunc_api_Edge_api_Edge_api_Edge_api_Edge_espalierref_SameEdge 0) T_slices_EqualFunc_api_Edge_api_Edge_api_Edge_api_Edge_espalierref_SameEdge_s0 X_slices_EqualFunc_api_Edge_api_Edge_api_Edge_api_Edge_espalierref_SameEdge_s0 R_slices_EqualFunc_api_Edge_api_Edge_api_Edge_api_Edge_espalierref_SameEdge_s0 ⟨[], [], []⟩ rec kx kr s = slices_EqualFunc_api_Edge_api_Edge_api_Edge_api_Edge_espalierref_SameEdge_s0 n rec kx kr s := by kernel_rfl
noncomputable def L_slices_EqualFunc_api_Edge_api_Edge_api_Edge_api_Edge_espalierref_SameEdge {ρ : Type} (n : Nat) : LOrc ρ := lorcCons 0 (loopL 32 0 n T_slices_EqualFunc_api_Edge_api_Edge_api_Edge_api_Edge_espalierref_SameEdge_s0 X_slices_EqualFunc_api_Edge_api_Edge_api_Edge_api_Edge_espalierref_SameEdge_s0 R_slices_EqualFunc_api_Edge_api_Edge_api_Edge_api_Edge_espalierref_SameEdge_s0 ⟨[], [], []⟩ (slices_EqualFunc_api_Edge_api_Edge_api_Edge_api_Edge_espalierref_SameEdge_s0 n)) (lorcNil)
omit [Tabs] [UTabs] in
theorem e_slices_EqualFunc_api_Edge_api_Edge_api_Edge_api_Edge_espalierref_SameEdge (n : Nat) (x) : evF Tryd.prog 32 TT M_slices_EqualFunc_api_Edge_api_Edge_api_Edge_api_Edge_espalierref_SameEdge F_slices_EqualFunc_api_Edge_api_Edge_api_Edge_api_Edge_espalierref_SameEdge (O_slices_EqualFunc_api_Edge_api_Edge_api_Edge_api_Edge_espalierref_SameEdge n) (L_slices_EqualFunc_api_Edge_api_Edge_api_Edge_api_Edge_espalierref_SameEdge n) dorcNil ⟨[], [], []⟩ [.tmp 6] C_slices_EqualFunc_api_Edge_api_Edge_api_Edge_api_Edge_espalierref_SameEdge x = slices_EqualFunc_api_Edge_api_Edge_api_Edge_api_Edge_espalierref_SameEdge n x := by kernel_rfl
omit [UTabs] in
theorem ok_slices_EqualFunc_api_Edge_api_Edge_api_Edge_api_Edge_espalierref_SameEdge (n : Nat) : Contract Tryd.prog 73 F_slices_EqualFunc_api_Edge_api_Edge_api_Edge_api_Edge_espalierref_SameEdge (slices_EqualFunc_api_Edge_api_Edge_api_Edge_api_Edge_espalierref_SameEdge n) :=
  Contract.of_ev (c := C_slices_EqualFunc_api_Edge_api_Edge_api_Edge_api_Edge_espalierref_SameEdge) (N := 32) Tryd.func73 (by kernel_rfl) (by kernel_rfl) (by kernel_rfl) (by kernel_rfl) (O_slices_EqualFunc_api_Edge_api_Edge_api_Edge_api_Edge_espalierref_SameEdge_ok n) dorcNil_ok (.of (l := [(0, (lbody 1000 C_slices_EqualFunc_api_Edge_api_Edge_api_Edge_api_Edge_espalierref_SameEdge 0))]) (by kernel_rfl) ⟨.head (loopL_sound (O_slices_EqualFunc_api_Edge_api_Edge_api_Edge_api_Edge_espalierref_SameEdge_ok n) dorcNil_ok (.of (l := []) (by kernel_rfl) trivial) (s_slices_EqualFunc_api_Edge_api_Edge_api_Edge_api_Edge_espalierref_SameEdge_s0 n)), trivial⟩) (e_slices_EqualFunc_api_Edge_api_Edge_api_Edge_api_Edge_espalierref_SameEdge n)

noncomputable def C_espalierref_SameGraph : Code := bodyOf Tryd.f22
noncomputable def M_espalierref_SameGraph : List (Nat × ArgM) := [(71, ⟨[], [], [], true⟩), (73, ⟨[], [], [], true⟩)]
noncomputable def O_espalierref_SameGraph {ρ : Type} (n : Nat) : Orc ρ := orcCons 71 F_slices_EqualFunc_api_Node_api_Node_api_Node_api_Node_espalierref_SameNode (slices_EqualFunc_api_Node_api_Node_api_Node_api_Node_espalierref_SameNode n) (orcCons 73 F_slices_EqualFunc_api_Edge_api_Edge_api_Edge_api_Edge_espalierref_SameEdge (slices_EqualFunc_api_Edge_api_Edge_api_Edge_api_Edge_espalierref_SameEdge n) (orcNil))
omit [UTabs] in
theorem O_espalierref_SameGraph_ok {ρ : Type} (n : Nat) : (O_espalierref_SameGraph n : Orc ρ).ok Tryd.prog := orcCons_ok (by kernel_rfl) (ok_slices_EqualFunc_api_Node_api_Node_api_Node_api_Node_espalierref_SameNode n) (orcCons_ok (by kernel_rfl) (ok_slices_EqualFunc_api_Edge_api_Edge_api_Edge_api_Edge_espalierref_SameEdge n) (orcNil_ok))
noncomputable def L_espalierref_SameGraph {ρ : Type} (n : Nat) : LOrc ρ := lorcNil
omit [Tabs] [UTabs] in
theorem e_espalierref_SameGraph (n : Nat) (x) : evF Tryd.prog 24 TT M_espalierref_SameGraph F_espalierref_SameGraph (O_espalierref_SameGraph n) (L_espalierref_SameGraph n) dorcNil ⟨[], [], []⟩ [.tmp 4] C_espalierref_SameGraph x = espalierref_SameGraph n x := by kernel_rfl
omit [UTabs] in
theorem ok_espalierref_SameGraph (n : Nat) : Contract Tryd.prog 22 F_espalierref_SameGraph (espalierref_SameGraph n) :=
  Contract.of_ev (c := C_espalierref_SameGraph) (N := 24) Tryd.func22 (by kernel_rfl) (by kernel_rfl) (by kernel_rfl) (by kernel_rfl) (O_espalierref_SameGraph_ok n) dorcNil_ok (.of (l := []) (by kernel_rfl) trivial) (e_espalierref_SameGraph n)

noncomputable def C_espalierlaw_GrantSee : Code := bodyOf Tryd.f3
noncomputable def M_espalierlaw_GrantSee : List (Nat × ArgM) := [(19, ⟨[], [], [], true⟩), (20, ⟨[], [], [], true⟩), (21, ⟨[], [], [], true⟩), (22, ⟨[], [], [], true⟩)]
noncomputable def O_espalierlaw_GrantSee {ρ : Type} (n : Nat) : Orc ρ := orcCons 17 F_grant_See (grant_See n) (orcCons 18 F_espalierlaw_seenBy (espalierlaw_seenBy n) (orcCons 19 F_espalierlaw_granted (espalierlaw_granted n) (orcCons 20 F_grant_Check (grant_Check n) (orcCons 21 F_espalierlaw_checkGrants (espalierlaw_checkGrants n) (orcCons 22 F_espalierref_SameGraph (espalierref_SameGraph n) (orcNil))))))
theorem O_espalierlaw_GrantSee_ok {ρ : Type} (n : Nat) : (O_espalierlaw_GrantSee n : Orc ρ).ok Tryd.prog := orcCons_ok (by kernel_rfl) (ok_grant_See n) (orcCons_ok (by kernel_rfl) (ok_espalierlaw_seenBy n) (orcCons_ok (by kernel_rfl) (ok_espalierlaw_granted n) (orcCons_ok (by kernel_rfl) (ok_grant_Check n) (orcCons_ok (by kernel_rfl) (ok_espalierlaw_checkGrants n) (orcCons_ok (by kernel_rfl) (ok_espalierref_SameGraph n) (orcNil_ok))))))
noncomputable def L_espalierlaw_GrantSee {ρ : Type} (n : Nat) : LOrc ρ := lorcNil
omit [Tabs] [UTabs] in
theorem e_espalierlaw_GrantSee (n : Nat) (x) : evF Tryd.prog 45 TT M_espalierlaw_GrantSee F_espalierlaw_GrantSee (O_espalierlaw_GrantSee n) (L_espalierlaw_GrantSee n) dorcNil ⟨[], [], []⟩ [.tmp 6] C_espalierlaw_GrantSee x = espalierlaw_GrantSee n x := by kernel_rfl
theorem ok_espalierlaw_GrantSee (n : Nat) : Contract Tryd.prog 3 F_espalierlaw_GrantSee (espalierlaw_GrantSee n) :=
  Contract.of_ev (c := C_espalierlaw_GrantSee) (N := 45) Tryd.func3 (by kernel_rfl) (by kernel_rfl) (by kernel_rfl) (by kernel_rfl) (O_espalierlaw_GrantSee_ok n) dorcNil_ok (.of (l := []) (by kernel_rfl) trivial) (e_espalierlaw_GrantSee n)

noncomputable def F_espalierlaw_GrantMay : FnT := ⟨4, ⟨[], [(0, (.lst .grant)), (1, .str), (2, .graph), (3, .opn)], []⟩, [.v .bool], []⟩
noncomputable def F_grant_May : FnT := ⟨4, ⟨[], [(0, (.lst .grant)), (1, .str), (2, .graph), (3, .opn)], []⟩, [.v .bool, .v .i64], []⟩
noncomputable def F_slices_IndexFunc_api_Grant_api_Grant_grant_May_1_c : FnT := ⟨2, ⟨[(1, .clo 75 [1000000])], [(0, (.lst .grant))], [(1000000, .box [.d .str])]⟩, [.v .i64], [(1000000, .box [.d .str])]⟩
noncomputable def F_grant_May_1 : FnT := ⟨2, ⟨[(1, .ptr 1000000 0)], [(0, .grant)], [(1000000, .box [.d .str])]⟩, [.v .bool], [(1000000, .box [.d .str])]⟩
noncomputable def C_grant_May_1 : Code := bodyOf Tryd.f75
noncomputable def M_grant_May_1 : List (Nat × ArgM) := []
noncomputable def O_grant_May_1 {ρ : Type} : Orc ρ := orcNil
omit [UTabs] in
theorem O_grant_May_1_ok {ρ : Type} : (O_grant_May_1 : Orc ρ).ok Tryd.prog := orcNil_ok
noncomputable def L_grant_May_1 {ρ : Type} : LOrc ρ := lorcNil
omit [Tabs] [UTabs] in
theorem e_grant_May_1 (x) : evF Tryd.prog 8 TT M_grant_May_1 F_grant_May_1 (O_grant_May_1) (L_grant_May_1) dorcNil ⟨[], [], []⟩ [.tmp 3] C_grant_May_1 x = grant_May_1 x := by kernel_rfl
omit [UTabs] in
theorem ok_grant_May_1 : Contract Tryd.prog 75 F_grant_May_1 (grant_May_1) :=
  Contract.of_ev (c := C_grant_May_1) (N := 8) Tryd.func75 (by kernel_rfl) (by kernel_rfl) (by kernel_rfl) (by kernel_rfl) (O_grant_May_1_ok) dorcNil_ok (.of (l := []) (by kernel_rfl) trivial) (e_grant_May_1)

noncomputable def C_slices_IndexFunc_api_Grant_api_Grant_grant_May_1_c : Code := bodyOf Tryd.f59
noncomputable def M_slices_IndexFunc_api_Grant_api_Grant_grant_May_1_c : List (Nat × ArgM) := [(75, ⟨[1], [], [], false⟩)]
noncomputable def O_slices_IndexFunc_api_Grant_api_Grant_grant_May_1_c {ρ : Type} (n : Nat) : Orc ρ := orcCons 75 F_grant_May_1 (grant_May_1) (orcNil)
omit [UTabs] in
theorem O_slices_IndexFunc_api_Grant_api_Grant_grant_May_1_c_ok {ρ : Type} (n : Nat) : (O_slices_IndexFunc_api_Grant_api_Grant_grant_May_1_c n : Orc ρ).ok Tryd.prog := orcCons_ok (by kernel_rfl) (ok_grant_May_1) (orcNil_ok)
noncomputable def T_slices_IndexFunc_api_Grant_api_Grant_grant_May_1_c_s0 : Tm := ⟨[(1, .clo 75 [1000000])], [(0, (.lst .grant)), (7, .i64), (8, .i64)], [(1000000, .box [.d .str])]⟩
noncomputable def X_slices_IndexFunc_api_Grant_api_Grant_grant_May_1_c_s0 : Tm := ⟨[], [], [(1000000, .box [.d .str])]⟩
noncomputable def R_slices_IndexFunc_api_Grant_api_Grant_grant_May_1_c_s0 : Tm := ⟨[], [(4, .i64)], [(1000000, .box [.d .str])]⟩
noncomputable def L_slices_IndexFunc_api_Grant_api_Grant_grant_May_1_c_s0 {ρ : Type} (n : Nat) : LOrc ρ := lorcNil
omit [Tabs] [UTabs] in
theorem s_slices_IndexFunc_api_Grant_api_Grant_grant_May_1_c_s0 {ρ : Type} (n : Nat) (rec : T_slices_IndexFunc_api_Grant_api_Grant_grant_May_1_c_s0.den → Option ρ) kx kr s : dStep Tryd.prog 19 TT M_slices_IndexFunc_api_Grant_api_Grant_grant_May_1_c (O_slices_IndexFunc_api_Grant_api_Grant_grant_May_1_c n) (L_slices_IndexFunc_api_Grant_api_Grant_grant_May_1_c_s0 n) dorcNil 0 (lbody 1000 C_slices_IndexFunc_api_Grant_api_Grant_grant_May_1_c 0) T_slices_IndexFunc_api_Grant_api_Grant_grant_May_1_c_s0 X_slices_IndexFunc_api_Grant_api_Grant_grant_May_1_c_s0 R_slices_IndexFunc_api_Grant_api_Grant_grant_May_1_c_s0 ⟨[], [], []⟩ rec kx kr s = slices_IndexFunc_api_Grant_api_Grant_grant_May_1_c_s0 n rec kx kr s := by kernel_rfl
noncomputable def L_slices_IndexFunc_api_Grant_api_Grant_grant_May_1_c {ρ : Type} (n : Nat) : LOrc ρ := lorcCons 0 (loopL 19 0 n T_slices_IndexFunc_api_Grant_api_Grant_grant_May_1_c_s0 X_slices_IndexFunc_api_Grant_api_Grant_grant_May_1_c_s0 R_slices_IndexFunc_api_Grant_api_Grant_grant_May_1_c_s0 ⟨[], [], []⟩ (slices_IndexFunc_api_Grant_api_Grant_grant_May_1_c_s0 n)) (lorcNil)
omit [Tabs] [UTabs] in
theorem e_slices_IndexFunc_api_Grant_api_Grant_grant_May_1_c (n : Nat) (x) : evF Tryd.prog 19 TT M_slices_IndexFunc_api_Grant_api_Grant_grant_May_1_c F_slices_IndexFunc_api_Grant_api_Grant_grant_May_1_c (O_slices_IndexFunc_api_Grant_api_Grant_grant_May_1_c n) (L_slices_IndexFunc_api_Grant_api_Grant_grant_May_1_c n) dorcNil ⟨[], [], []⟩ [.tmp 4] C_slices_IndexFunc_api_Grant_api_Grant_grant_May_1_c x = slices_IndexFunc_api_Grant_api_Grant_grant_May_1_c n x := by kernel_rfl
omit [UTabs] in
theorem ok_slices_IndexFunc_api_Grant_api_Grant_grant_May_1_c (n : Nat) : Contract Tryd.prog 59 F_slices_IndexFunc_api_Grant_api_Grant_grant_May_1_c (slices_IndexFunc_api_Grant_api_Grant_grant_May_1_c n) :=
  Contract.of_ev (c := C_slices_IndexFunc_api_Grant_api_Grant_grant_May_1_c) (N := 19) Tryd.func59 (by kernel_rfl) (by kernel_rfl) (by kernel_rfl) (by kernel_rfl) (O_slices_IndexFunc_api_Grant_api_Grant_grant_May_1_c_ok n) dorcNil_ok (.of (l := [(0, (lbody 1000 C_slices_IndexFunc_api_Grant_api_Grant_grant_May_1_c 0))]) (by kernel_rfl) ⟨.head (loopL_sound (O_slices_IndexFunc_api_Grant_api_Grant_grant_May_1_c_ok n) dorcNil_ok (.of (l := []) (by kernel_rfl) trivial) (s_slices_IndexFunc_api_Grant_api_Grant_grant_May_1_c_s0 n)), trivial⟩) (e_slices_IndexFunc_api_Grant_api_Grant_grant_May_1_c n)

noncomputable def F_grant_May_2 : FnT := ⟨2, ⟨[(1, .ptr 1000000 0)], [(0, .i64)], [(1000000, .box [.d .graph])]⟩, [.v .bool], [(1000000, .box [.d .graph])]⟩
noncomputable def C_grant_May_2 : Code := bodyOf Tryd.f76
noncomputable def M_grant_May_2 : List (Nat × ArgM) := [(63, ⟨[], [], [], true⟩)]
noncomputable def O_grant_May_2 {ρ : Type} (n : Nat) : Orc ρ := orcCons 63 F_graph_Find (graph_Find n) (orcNil)
omit [UTabs] in
theorem O_grant_May_2_ok {ρ : Type} (n : Nat) : (O_grant_May_2 n : Orc ρ).ok Tryd.prog := orcCons_ok (by kernel_rfl) (ok_graph_Find n) (orcNil_ok)
noncomputable def L_grant_May_2 {ρ : Type} (n : Nat) : LOrc ρ := lorcNil
omit [Tabs] [UTabs] in
theorem e_grant_May_2 (n : Nat) (x) : evF Tryd.prog 8 TT M_grant_May_2 F_grant_May_2 (O_grant_May_2 n) (L_grant_May_2 n) dorcNil ⟨[], [], []⟩ [.tmp 3] C_grant_May_2 x = grant_May_2 n x := by kernel_rfl
omit [UTabs] in
theorem ok_grant_May_2 (n : Nat) : Contract Tryd.prog 76 F_grant_May_2 (grant_May_2 n) :=
  Contract.of_ev (c := C_grant_May_2) (N := 8) Tryd.func76 (by kernel_rfl) (by kernel_rfl) (by kernel_rfl) (by kernel_rfl) (O_grant_May_2_ok n) dorcNil_ok (.of (l := []) (by kernel_rfl) trivial) (e_grant_May_2 n)

noncomputable def F_graph_FindEdge : FnT := ⟨2, ⟨[], [(0, .graph), (1, .i64)], []⟩, [.v .i64], []⟩
noncomputable def F_slices_BinarySearchFunc_api_Edge_api_Edge_int_graph_FindEdge_1 : FnT := ⟨3, ⟨[(2, .fn 131)], [(0, (.lst .edg)), (1, .i64)], []⟩, [.v .i64, .v .bool], []⟩
noncomputable def F_graph_FindEdge_1 : FnT := ⟨2, ⟨[], [(0, .edg), (1, .i64)], []⟩, [.v .i64], []⟩
noncomputable def C_graph_FindEdge_1 : Code := bodyOf Tryd.f131
noncomputable def M_graph_FindEdge_1 : List (Nat × ArgM) := [(124, ⟨[], [], [], true⟩)]
noncomputable def O_graph_FindEdge_1 {ρ : Type} : Orc ρ := orcCons 124 F_cmp_Compare_int (cmp_Compare_int) (orcNil)
omit [UTabs] in
theorem O_graph_FindEdge_1_ok {ρ : Type} : (O_graph_FindEdge_1 : Orc ρ).ok Tryd.prog := orcCons_ok (by kernel_rfl) (ok_cmp_Compare_int) (orcNil_ok)
noncomputable def L_graph_FindEdge_1 {ρ : Type} : LOrc ρ := lorcNil
omit [Tabs] [UTabs] in
theorem e_graph_FindEdge_1 (x) : evF Tryd.prog 9 TT M_graph_FindEdge_1 F_graph_FindEdge_1 (O_graph_FindEdge_1) (L_graph_FindEdge_1) dorcNil ⟨[], [], []⟩ [.tmp 4] C_graph_FindEdge_1 x = graph_FindEdge_1 x := by kernel_rfl
omit [UTabs] in
theorem ok_graph_FindEdge_1 : Contract Tryd.prog 131 F_graph_FindEdge_1 (graph_FindEdge_1) :=
  Contract.of_ev (c := C_graph_FindEdge_1) (N := 9) Tryd.func131 (by kernel_rfl) (by kernel_rfl) (by kernel_rfl) (by kernel_rfl) (O_graph_FindEdge_1_ok) dorcNil_ok (.of (l := []) (by kernel_rfl) trivial) (e_graph_FindEdge_1)

noncomputable def C_slices_BinarySearchFunc_api_Edge_api_Edge_int_graph_FindEdge_1 : Code := bodyOf Tryd.f130
noncomputable def M_slices_BinarySearchFunc_api_Edge_api_Edge_int_graph_FindEdge_1 : List (Nat × ArgM) := [(131, ⟨[], [], [], true⟩)]
noncomputable def O_slices_BinarySearchFunc_api_Edge_api_Edge_int_graph_FindEdge_1 {ρ : Type} (n : Nat) : Orc ρ := orcCons 131 F_graph_FindEdge_1 (graph_FindEdge_1) (orcNil)
omit [UTabs] in
theorem O_slices_BinarySearchFunc_api_Edge_api_Edge_int_graph_FindEdge_1_ok {ρ : Type} (n : Nat) : (O_slices_BinarySearchFunc_api_Edge_api_Edge_int_graph_FindEdge_1 n : Orc ρ).ok Tryd.prog := orcCons_ok (by kernel_rfl) (ok_graph_FindEdge_1) (orcNil_ok)
noncomputable def T_slices_BinarySearchFunc_api_Edge_api_Edge_int_graph_FindEdge_1_s0 : Tm := ⟨[(2, .fn 131)], [(0, (.lst .edg)), (1, .i64), (8, .i64), (9, .i64), (10, .i64)], []⟩
noncomputable def X_slices_BinarySearchFunc_api_Edge_api_Edge_int_graph_FindEdge_1_s0 : Tm := ⟨[(2, .fn 131)], [(0, (.lst .edg)), (1, .i64), (8, .i64), (9, .i64)], []⟩
noncomputable def R_slices_BinarySearchFunc_api_Edge_api_Edge_int_graph_FindEdge_1_s0 : Tm := ⟨[], [], []⟩
noncomputable def L_slices_BinarySearchFunc_api_Edge_api_Edge_int_graph_FindEdge_1_s0 {ρ : Type} (n : Nat) : LOrc ρ := lorcNil
omit [Tabs] [UTabs] in
theorem s_slices_BinarySearchFunc_api_Edge_api_Edge_int_graph_FindEdge_1_s0 {ρ : Type} (n : Nat) (rec : T_slices_BinarySearchFunc_api_Edge_api_Edge_int_graph_FindEdge_1_s0.den → Option ρ) kx kr s : dStep Tryd.prog 49 TT M_slices_BinarySearchFunc_api_Edge_api_Edge_int_graph_FindEdge_1 (O_slices_BinarySearchFunc_api_Edge_api_Edge_int_graph_FindEdge_1 n) (L_slices_BinarySearchFunc_api_Edge_api_Edge_int_graph_FindEdge_1_s0 n) dorcNil 0 (lbody 1000 C_slices_BinarySearchFunc_api_Edge_api_Edge_int_graph_FindEdge_1 0) T_slices_BinarySearchFunc_api_Edge_api_Edge_int_graph_FindEdge_1_s0 X_slices_BinarySearchFunc_api_Edge_api_Edge_int_graph_FindEdge_1_s0 R_slices_BinarySearchFunc_api_Edge_api_Edge_int_graph_FindEdge_1_s0 ⟨[], [], []⟩ rec kx kr s = slices_BinarySearchFunc_api_Edge_api_Edge_int_graph_FindEdge_1_s0 n rec kx kr s := by kernel_rfl
noncomputable def L_slices_BinarySearchFunc_api_Edge_api_Edge_int_graph_FindEdge_1 {ρ : Type} (n : Nat) : LOrc ρ := lorcCons 0 (loopL 49 0 n T_slices_BinarySearchFunc_api_Edge_api_Edge_int_graph_FindEdge_1_s0 X_slices_BinarySearchFunc_api_Edge_api_Edge_int_graph_FindEdge_1_s0 R_slices_BinarySearchFunc_api_Edge_api_Edge_int_graph_FindEdge_1_s0 ⟨[], [], []⟩ (slices_BinarySearchFunc_api_Edge_api_Edge_int_graph_FindEdge_1_s0 n)) (lorcNil)
omit [Tabs] [UTabs] in
theorem e_slices_BinarySearchFunc_api_Edge_api_Edge_int_graph_FindEdge_1 (n : Nat) (x) : evF Tryd.prog 49 TT M_slices_BinarySearchFunc_api_Edge_api_Edge_int_graph_FindEdge_1 F_slices_BinarySearchFunc_api_Edge_api_Edge_int_graph_FindEdge_1 (O_slices_BinarySearchFunc_api_Edge_api_Edge_int_graph_FindEdge_1 n) (L_slices_BinarySearchFunc_api_Edge_api_Edge_int_graph_FindEdge_1 n) dorcNil ⟨[], [], []⟩ [.tmp 6, .tmp 7] C_slices_BinarySearchFunc_api_Edge_api_Edge_int_graph_FindEdge_1 x = slices_BinarySearchFunc_api_Edge_api_Edge_int_graph_FindEdge_1 n x := by kernel_rfl
omit [UTabs] in
theorem ok_slices_BinarySearchFunc_api_Edge_api_Edge_int_graph_FindEdge_1 (n : Nat) : Contract Tryd.prog 130 F_slices_BinarySearchFunc_api_Edge_api_Edge_int_graph_FindEdge_1 (slices_BinarySearchFunc_api_Edge_api_Edge_int_graph_FindEdge_1 n) :=
  Contract.of_ev (c := C_slices_BinarySearchFunc_api_Edge_api_Edge_int_graph_FindEdge_1) (N := 49) Tryd.func130 (by kernel_rfl) (by kernel_rfl) (by kernel_rfl) (by kernel_rfl) (O_slices_BinarySearchFunc_api_Edge_api_Edge_int_graph_FindEdge_1_ok n) dorcNil_ok (.of (l := [(0, (lbody 1000 C_slices_BinarySearchFunc_api_Edge_api_Edge_int_graph_FindEdge_1 0))]) (by kernel_rfl) ⟨.head (loopL_sound (O_slices_BinarySearchFunc_api_Edge_api_Edge_int_graph_FindEdge_1_ok n) dorcNil_ok (.of (l := []) (by kernel_rfl) trivial) (s_slices_BinarySearchFunc_api_Edge_api_Edge_int_graph_FindEdge_1_s0 n)), trivial⟩) (e_slices_BinarySearchFunc_api_Edge_api_Edge_int_graph_FindEdge_1 n)

noncomputable def C_graph_FindEdge : Code := bodyOf Tryd.f77
noncomputable def M_graph_FindEdge : List (Nat × ArgM) := [(130, ⟨[], [], [], true⟩)]
noncomputable def O_graph_FindEdge {ρ : Type} (n : Nat) : Orc ρ := orcCons 130 F_slices_BinarySearchFunc_api_Edge_api_Edge_int_graph_FindEdge_1 (slices_BinarySearchFunc_api_Edge_api_Edge_int_graph_FindEdge_1 n) (orcNil)
omit [UTabs] in
theorem O_graph_FindEdge_ok {ρ : Type} (n : Nat) : (O_graph_FindEdge n : Orc ρ).ok Tryd.prog := orcCons_ok (by kernel_rfl) (ok_slices_BinarySearchFunc_api_Edge_api_Edge_int_graph_FindEdge_1 n) (orcNil_ok)
noncomputable def L_graph_FindEdge {ρ : Type} (n : Nat) : LOrc ρ := lorcNil
omit [Tabs] [UTabs] in
theorem e_graph_FindEdge (n : Nat) (x) : evF Tryd.prog 17 TT M_graph_FindEdge F_graph_FindEdge (O_graph_FindEdge n) (L_graph_FindEdge n) dorcNil ⟨[], [], []⟩ [.tmp 4] C_graph_FindEdge x = graph_FindEdge n x := by kernel_rfl
omit [UTabs] in
theorem ok_graph_FindEdge (n : Nat) : Contract Tryd.prog 77 F_graph_FindEdge (graph_FindEdge n) :=
  Contract.of_ev (c := C_graph_FindEdge) (N := 17) Tryd.func77 (by kernel_rfl) (by kernel_rfl) (by kernel_rfl) (by kernel_rfl) (O_graph_FindEdge_ok n) dorcNil_ok (.of (l := []) (by kernel_rfl) trivial) (e_graph_FindEdge n)

noncomputable def C_grant_May : Code := bodyOf Tryd.f23
noncomputable def M_grant_May : List (Nat × ArgM) := [(59, ⟨[1], [], [], false⟩), (76, ⟨[1], [], [], false⟩), (61, ⟨[], [], [], true⟩), (77, ⟨[], [], [], true⟩)]
noncomputable def O_grant_May {ρ : Type} (n : Nat) : Orc ρ := orcCons 17 F_grant_See (grant_See n) (orcCons 59 F_slices_IndexFunc_api_Grant_api_Grant_grant_May_1_c (slices_IndexFunc_api_Grant_api_Grant_grant_May_1_c n) (orcCons 61 F_grant_sees (grant_sees n) (orcCons 76 F_grant_May_2 (grant_May_2 n) (orcCons 77 F_graph_FindEdge (graph_FindEdge n) (orcNil)))))
theorem O_grant_May_ok {ρ : Type} (n : Nat) : (O_grant_May n : Orc ρ).ok Tryd.prog := orcCons_ok (by kernel_rfl) (ok_grant_See n) (orcCons_ok (by kernel_rfl) (ok_slices_IndexFunc_api_Grant_api_Grant_grant_May_1_c n) (orcCons_ok (by kernel_rfl) (ok_grant_sees n) (orcCons_ok (by kernel_rfl) (ok_grant_May_2 n) (orcCons_ok (by kernel_rfl) (ok_graph_FindEdge n) (orcNil_ok)))))
noncomputable def L_grant_May {ρ : Type} (n : Nat) : LOrc ρ := lorcNil
omit [Tabs] [UTabs] in
theorem e_grant_May (n : Nat) (x) : evF Tryd.prog 80 TT M_grant_May F_grant_May (O_grant_May n) (L_grant_May n) (evDraw Tryd.prog 80 TT M_grant_May (O_grant_May n)) ⟨[], [], []⟩ [.tmp 8, .tmp 9] C_grant_May x = grant_May n x := by kernel_rfl
theorem ok_grant_May (n : Nat) : Contract Tryd.prog 23 F_grant_May (grant_May n) :=
  Contract.of_ev (c := C_grant_May) (N := 80) Tryd.func23 (by kernel_rfl) (by kernel_rfl) (by kernel_rfl) (by kernel_rfl) (O_grant_May_ok n) (evDraw_ok (O_grant_May_ok n) (by kernel_rfl)) (.of (l := []) (by kernel_rfl) trivial) (e_grant_May n)

noncomputable def F_espalierref_EdgeAt : FnT := ⟨2, ⟨[], [(0, .graph), (1, .i64)], []⟩, [.opt .edg], []⟩
noncomputable def C_espalierref_EdgeAt : Code := bodyOf Tryd.f25
noncomputable def M_espalierref_EdgeAt : List (Nat × ArgM) := []
noncomputable def O_espalierref_EdgeAt {ρ : Type} (n : Nat) : Orc ρ := orcNil
omit [UTabs] in
theorem O_espalierref_EdgeAt_ok {ρ : Type} (n : Nat) : (O_espalierref_EdgeAt n : Orc ρ).ok Tryd.prog := orcNil_ok
noncomputable def T_espalierref_EdgeAt_s0 : Tm := ⟨[(2, .ptr 2 0)], [(1, .i64), (8, .i64), (9, .i64)], [(2, .box [.d .graph])]⟩
noncomputable def X_espalierref_EdgeAt_s0 : Tm := ⟨[], [], []⟩
noncomputable def R_espalierref_EdgeAt_s0 : Tm := ⟨[], [(4, (.ptr .edg))], []⟩
noncomputable def L_espalierref_EdgeAt_s0 {ρ : Type} (n : Nat) : LOrc ρ := lorcNil
omit [Tabs] [UTabs] in
theorem s_espalierref_EdgeAt_s0 {ρ : Type} (n : Nat) (rec : T_espalierref_EdgeAt_s0.den → Option ρ) kx kr s : dStep Tryd.prog 25 TT M_espalierref_EdgeAt (O_espalierref_EdgeAt n) (L_espalierref_EdgeAt_s0 n) dorcNil 0 (lbody 1000 C_espalierref_EdgeAt 0) T_espalierref_EdgeAt_s0 X_espalierref_EdgeAt_s0 R_espalierref_EdgeAt_s0 ⟨[], [], []⟩ rec kx kr s = espalierref_EdgeAt_s0 n rec kx kr s := by kernel_rfl
noncomputable def L_espalierref_EdgeAt {ρ : Type} (n : Nat) : LOrc ρ := lorcCons 0 (loopL 25 0 n T_espalierref_EdgeAt_s0 X_espalierref_EdgeAt_s0 R_espalierref_EdgeAt_s0 ⟨[], [], []⟩ (espalierref_EdgeAt_s0 n)) (lorcNil)
omit [Tabs] [UTabs] in
theorem e_espalierref_EdgeAt (n : Nat) (x) : evF Tryd.prog 25 TT M_espalierref_EdgeAt F_espalierref_EdgeAt (O_espalierref_EdgeAt n) (L_espalierref_EdgeAt n) dorcNil ⟨[], [], []⟩ [.tmp 4] C_espalierref_EdgeAt x = espalierref_EdgeAt n x := by kernel_rfl
omit [UTabs] in
theorem ok_espalierref_EdgeAt (n : Nat) : Contract Tryd.prog 25 F_espalierref_EdgeAt (espalierref_EdgeAt n) :=
  Contract.of_ev (c := C_espalierref_EdgeAt) (N := 25) Tryd.func25 (by kernel_rfl) (by kernel_rfl) (by kernel_rfl) (by kernel_rfl) (O_espalierref_EdgeAt_ok n) dorcNil_ok (.of (l := [(0, (lbody 1000 C_espalierref_EdgeAt 0))]) (by kernel_rfl) ⟨.head (loopL_sound (O_espalierref_EdgeAt_ok n) dorcNil_ok (.of (l := []) (by kernel_rfl) trivial) (s_espalierref_EdgeAt_s0 n)), trivial⟩) (e_espalierref_EdgeAt n)

noncomputable def C_espalierlaw_GrantMay : Code := bodyOf Tryd.f4
noncomputable def M_espalierlaw_GrantMay : List (Nat × ArgM) := [(23, ⟨[], [], [], true⟩), (19, ⟨[], [], [], true⟩)]
noncomputable def O_espalierlaw_GrantMay {ρ : Type} (n : Nat) : Orc ρ := orcCons 23 F_grant_May (grant_May n) (orcCons 18 F_espalierlaw_seenBy (espalierlaw_seenBy n) (orcCons 19 F_espalierlaw_granted (espalierlaw_granted n) (orcCons 24 F_espalierref_NodeAt (espalierref_NodeAt n) (orcCons 25 F_espalierref_EdgeAt (espalierref_EdgeAt n) (orcCons 26 F_espalierref_Seen (espalierref_Seen n) (orcNil))))))
theorem O_espalierlaw_GrantMay_ok {ρ : Type} (n : Nat) : (O_espalierlaw_GrantMay n : Orc ρ).ok Tryd.prog := orcCons_ok (by kernel_rfl) (ok_grant_May n) (orcCons_ok (by kernel_rfl) (ok_espalierlaw_seenBy n) (orcCons_ok (by kernel_rfl) (ok_espalierlaw_granted n) (orcCons_ok (by kernel_rfl) (ok_espalierref_NodeAt n) (orcCons_ok (by kernel_rfl) (ok_espalierref_EdgeAt n) (orcCons_ok (by kernel_rfl) (ok_espalierref_Seen n) (orcNil_ok))))))
noncomputable def L_espalierlaw_GrantMay {ρ : Type} (n : Nat) : LOrc ρ := lorcNil
omit [Tabs] [UTabs] in
theorem e_espalierlaw_GrantMay (n : Nat) (x) : evF Tryd.prog 108 TT M_espalierlaw_GrantMay F_espalierlaw_GrantMay (O_espalierlaw_GrantMay n) (L_espalierlaw_GrantMay n) (evDraw Tryd.prog 108 TT M_espalierlaw_GrantMay (O_espalierlaw_GrantMay n)) ⟨[], [], []⟩ [.tmp 8] C_espalierlaw_GrantMay x = espalierlaw_GrantMay n x := by kernel_rfl
theorem ok_espalierlaw_GrantMay (n : Nat) : Contract Tryd.prog 4 F_espalierlaw_GrantMay (espalierlaw_GrantMay n) :=
  Contract.of_ev (c := C_espalierlaw_GrantMay) (N := 108) Tryd.func4 (by kernel_rfl) (by kernel_rfl) (by kernel_rfl) (by kernel_rfl) (O_espalierlaw_GrantMay_ok n) (evDraw_ok (O_espalierlaw_GrantMay_ok n) (by kernel_rfl)) (.of (l := []) (by kernel_rfl) trivial) (e_espalierlaw_GrantMay n)

noncomputable def F_espalierlaw_GrantTwice : FnT := ⟨4, ⟨[], [(0, (.lst .grant)), (1, .str), (2, .str), (3, .graph)], []⟩, [.v .bool], []⟩
noncomputable def F_espalierlaw_GrantTwice_1 : FnT := ⟨2, ⟨[(1, .ptr 1000000 0)], [(0, .str)], [(1000000, .box [.d (.lst .grant)])]⟩, [.v (.lst .str)], [(1000000, .box [.d (.lst .grant)])]⟩
noncomputable def C_espalierlaw_GrantTwice_1 : Code := bodyOf Tryd.f27
noncomputable def M_espalierlaw_GrantTwice_1 : List (Nat × ArgM) := []
noncomputable def O_espalierlaw_GrantTwice_1 {ρ : Type} (n : Nat) : Orc ρ := orcNil
omit [UTabs] in
theorem O_espalierlaw_GrantTwice_1_ok {ρ : Type} (n : Nat) : (O_espalierlaw_GrantTwice_1 n : Orc ρ).ok Tryd.prog := orcNil_ok
noncomputable def T_espalierlaw_GrantTwice_1_s0 : Tm := ⟨[], [(0, .str), (6, (.lst .grant)), (7, .i64), (8, .i64)], [(1000000, .box [.d (.lst .grant)])]⟩
noncomputable def X_espalierlaw_GrantTwice_1_s0 : Tm := ⟨[], [], [(1000000, .box [.d (.lst .grant)])]⟩
noncomputable def R_espalierlaw_GrantTwice_1_s0 : Tm := ⟨[], [(3, (.lst .str))], [(1000000, .box [.d (.lst .grant)])]⟩
noncomputable def L_espalierlaw_GrantTwice_1_s0 {ρ : Type} (n : Nat) : LOrc ρ := lorcNil
omit [Tabs] [UTabs] in
theorem s_espalierlaw_GrantTwice_1_s0 {ρ : Type} (n : Nat) (rec : T_espalierlaw_GrantTwice_1_s0.den → Option ρ) kx kr s : dStep Tryd.prog 19 TT M_espalierlaw_GrantTwice_1 (O_espalierlaw_GrantTwice_1 n) (L_espalierlaw_GrantTwice_1_s0 n) dorcNil 0 (lbody 1000 C_espalierlaw_GrantTwice_1 0) T_espalierlaw_GrantTwice_1_s0 X_espalierlaw_GrantTwice_1_s0 R_espalierlaw_GrantTwice_1_s0 ⟨[], [], []⟩ rec kx kr s = espalierlaw_GrantTwice_1_s0 n rec kx kr s := by kernel_rfl
noncomputable def L_espalierlaw_GrantTwice_1 {ρ : Type} (n : Nat) : LOrc ρ := lorcCons 0 (loopL 19 0 n T_espalierlaw_GrantTwice_1_s0 X_espalierlaw_GrantTwice_1_s0 R_espalierlaw_GrantTwice_1_s0 ⟨[], [], []⟩ (espalierlaw_GrantTwice_1_s0 n)) (lorcNil)
omit [Tabs] [UTabs] in
theorem e_espalierlaw_GrantTwice_1 (n : Nat) (x) : evF Tryd.prog 19 TT M_espalierlaw_GrantTwice_1 F_espalierlaw_GrantTwice_1 (O_espalierlaw_GrantTwice_1 n) (L_espalierlaw_GrantTwice_1 n) dorcNil ⟨[], [], []⟩ [.tmp 3] C_espalierlaw_GrantTwice_1 x = espalierlaw_GrantTwice_1 n x := by kernel_rfl
omit [UTabs] in
theorem ok_espalierlaw_GrantTwice_1 (n : Nat) : Contract Tryd.prog 27 F_espalierlaw_GrantTwice_1 (espalierlaw_GrantTwice_1 n) :=
  Contract.of_ev (c := C_espalierlaw_GrantTwice_1) (N := 19) Tryd.func27 (by kernel_rfl) (by kernel_rfl) (by kernel_rfl) (by kernel_rfl) (O_espalierlaw_GrantTwice_1_ok n) dorcNil_ok (.of (l := [(0, (lbody 1000 C_espalierlaw_GrantTwice_1 0))]) (by kernel_rfl) ⟨.head (loopL_sound (O_espalierlaw_GrantTwice_1_ok n) dorcNil_ok (.of (l := []) (by kernel_rfl) trivial) (s_espalierlaw_GrantTwice_1_s0 n)), trivial⟩) (e_espalierlaw_GrantTwice_1 n)

noncomputable def C_espalierlaw_GrantTwice : Code := bodyOf Tryd.f5
noncomputable def M_espalierlaw_GrantTwice : List (Nat × ArgM) := [(27, ⟨[1], [], [], false⟩), (19, ⟨[], [], [], true⟩), (22, ⟨[], [], [], true⟩), (28, ⟨[], [], [], true⟩)]
noncomputable def O_espalierlaw_GrantTwice {ρ : Type} (n : Nat) : Orc ρ := orcCons 17 F_grant_See (grant_See n) (orcCons 19 F_espalierlaw_granted (espalierlaw_granted n) (orcCons 22 F_espalierref_SameGraph (espalierref_SameGraph n) (orcCons 27 F_espalierlaw_GrantTwice_1 (espalierlaw_GrantTwice_1 n) (orcCons 28 F_slices_Contains_string_string (slices_Contains_string_string n) (orcCons 24 F_espalierref_NodeAt (espalierref_NodeAt n) (orcNil))))))
theorem O_espalierlaw_GrantTwice_ok {ρ : Type} (n : Nat) : (O_espalierlaw_GrantTwice n : Orc ρ).ok Tryd.prog := orcCons_ok (by kernel_rfl) (ok_grant_See n) (orcCons_ok (by kernel_rfl) (ok_espalierlaw_granted n) (orcCons_ok (by kernel_rfl) (ok_espalierref_SameGraph n) (orcCons_ok (by kernel_rfl) (ok_espalierlaw_GrantTwice_1 n) (orcCons_ok (by kernel_rfl) (ok_slices_Contains_string_string n) (orcCons_ok (by kernel_rfl) (ok_espalierref_NodeAt n) (orcNil_ok))))))
noncomputable def T_espalierlaw_GrantTwice_s0 : Tm := ⟨[(9, .ptr 9 0), (12, .ptr 12 0), (13, .clo 27 [4])], [(2, .str), (59, (.lst .str)), (60, .i64), (61, .i64)], [(4, .box [.d (.lst .grant)]), (9, .box [.d .graph]), (12, .box [.d .graph])]⟩
noncomputable def X_espalierlaw_GrantTwice_s0 : Tm := ⟨[(9, .ptr 9 0), (12, .ptr 12 0)], [], [(9, .box [.d .graph]), (12, .box [.d .graph])]⟩
noncomputable def R_espalierlaw_GrantTwice_s0 : Tm := ⟨[], [(8, .bool)], []⟩
noncomputable def L_espalierlaw_GrantTwice_s0 {ρ : Type} (n : Nat) : LOrc ρ := lorcNil
omit [Tabs] [UTabs] in
theorem s_espalierlaw_GrantTwice_s0 {ρ : Type} (n : Nat) (rec : T_espalierlaw_GrantTwice_s0.den → Option ρ) kx kr s : dStep Tryd.prog 92 TT M_espalierlaw_GrantTwice (O_espalierlaw_GrantTwice n) (L_espalierlaw_GrantTwice_s0 n) dorcNil 0 (lbody 1000 C_espalierlaw_GrantTwice 0) T_espalierlaw_GrantTwice_s0 X_espalierlaw_GrantTwice_s0 R_espalierlaw_GrantTwice_s0 ⟨[], [], []⟩ rec kx kr s = espalierlaw_GrantTwice_s0 n rec kx kr s := by kernel_rfl
noncomputable def T_espalierlaw_GrantTwice_s2 : Tm := ⟨[(9, .ptr 9 0), (12, .ptr 12 0)], [(73, (.lst .node)), (74, .i64), (75, .i64)], [(9, .box [.d .graph]), (12, .box [.d .graph])]⟩
noncomputable def X_espalierlaw_GrantTwice_s2 : Tm := ⟨[(9, .ptr 9 0), (12, .ptr 12 0)], [], [(9, .box [.d .graph]), (12, .box [.d .graph])]⟩
noncomputable def R_espalierlaw_GrantTwice_s2 : Tm := ⟨[], [(8, .bool)], []⟩
noncomputable def L_espalierlaw_GrantTwice_s2 {ρ : Type} (n : Nat) : LOrc ρ := lorcNil
omit [Tabs] [UTabs] in
theorem s_espalierlaw_GrantTwice_s2 {ρ : Type} (n : Nat) (rec : T_espalierlaw_GrantTwice_s2.den → Option ρ) kx kr s : dStep Tryd.prog 92 TT M_espalierlaw_GrantTwice (O_espalierlaw_GrantTwice n) (L_espalierlaw_GrantTwice_s2 n) dorcNil 2 (lbody 1000 C_espalierlaw_GrantTwice 1) T_espalierlaw_GrantTwice_s2 X_espalierlaw_GrantTwice_s2 R_espalierlaw_GrantTwice_s2 ⟨[], [], []⟩ rec kx kr s = espalierlaw_GrantTwice_s2 n rec kx kr s := by kernel_rfl
noncomputable def L_espalierlaw_GrantTwice {ρ : Type} (n : Nat) : LOrc ρ := lorcCons 0 (loopL 92 0 n T_espalierlaw_GrantTwice_s0 X_espalierlaw_GrantTwice_s0 R_espalierlaw_GrantTwice_s0 ⟨[], [], []⟩ (espalierlaw_GrantTwice_s0 n)) (lorcCons 2 (loopL 92 2 n T_espalierlaw_GrantTwice_s2 X_espalierlaw_GrantTwice_s2 R_espalierlaw_GrantTwice_s2 ⟨[], [], []⟩ (espalierlaw_GrantTwice_s2 n)) (lorcNil))
omit [Tabs] [UTabs] in
theorem e_espalierlaw_GrantTwice (n : Nat) (x) : evF Tryd.prog 92 TT M_espalierlaw_GrantTwice F_espalierlaw_GrantTwice (O_espalierlaw_GrantTwice n) (L_espalierlaw_GrantTwice n) dorcNil ⟨[], [], []⟩ [.tmp 8] C_espalierlaw_GrantTwice x = espalierlaw_GrantTwice n x := by kernel_rfl
theorem ok_espalierlaw_GrantTwice (n : Nat) : Contract Tryd.prog 5 F_espalierlaw_GrantTwice (espalierlaw_GrantTwice n) :=
  Contract.of_ev (c := C_espalierlaw_GrantTwice) (N := 92) Tryd.func5 (by kernel_rfl) (by kernel_rfl) (by kernel_rfl) (by kernel_rfl) (O_espalierlaw_GrantTwice_ok n) dorcNil_ok (.of (l := [(0, (lbody 1000 C_espalierlaw_GrantTwice 0)), (2, (lbody 1000 C_espalierlaw_GrantTwice 1))]) (by kernel_rfl) ⟨.head (loopL_sound (O_espalierlaw_GrantTwice_ok n) dorcNil_ok (.of (l := []) (by kernel_rfl) trivial) (s_espalierlaw_GrantTwice_s0 n)), ⟨.tail rfl (.head (loopL_sound (O_espalierlaw_GrantTwice_ok n) dorcNil_ok (.of (l := []) (by kernel_rfl) trivial) (s_espalierlaw_GrantTwice_s2 n))), trivial⟩⟩) (e_espalierlaw_GrantTwice n)

end Go.Proofs.YtnfoajgolcenlaaDoor

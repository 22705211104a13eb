/- Each of these functions computes what its plain function computes (written by gen.py). -/
import Derived.Test.YtdnhnpfommlfbaaDoorSBase
import Derived.KernelRfl
import Derived.Test.YtdnhnpfommlfbaaDoorEvDraw
import Derived.Test.YtdnhnpfommlfbaaDoorPCode
namespace Go.Proofs.YtdnhnpfommlfbaaDoor
open Go Esp Ev Pure
set_option linter.unusedSimpArgs false
set_option linter.unusedVariables false
set_option maxRecDepth 100000
set_option maxHeartbeats 1000000
/-- the functions that may be put off -/
def okds : List FuncId := []
theorem quiets : ∀ g ∈ okds, ∀ (args : Array Value) (w : World), (callFunc g args).run Tryd.prog w = .ok (.enter g args) w ∧ CallsD Tryd.prog g args .returning w fun e u w' => u = .returning ∧ (∃ v, e = .returned v) ∧ w' = w := by
  intro g hg args w
  cases hg
variable [Tabs]
/-- what is put off -/
class UDef : Prop where
  ok : ∀ g ∈ ([] : List Nat), g ∈ Tabs.okd
variable [QuietD Tryd.prog] [UDef] [UTabs]
def TT : List (TypeId × Ty) := [(2, .i64), (3, .i64), (4, .bool), (5, .u8), (6, .u8), (9, .str), (10, .str), (11, .str), (12, .u64), (21, .i32), (22, (.lst .node)), (23, (.lst .edg)), (25, .graph), (26, (.lst .str)), (27, (.lst .i64)), (28, (.lst .val)), (30, .val), (31, (.lst .term)), (33, .term), (34, .i64), (44, (.map .str .bool)), (45, (.map .str .i64)), (50, .envr), (56, (.lst .prp)), (58, .node), (63, .edg), (75, .prp), (78, (.lst .u8)), (79, (.lst .i64)), (81, .u64), (88, (.lst .i32)), (94, .u64), (113, .u32), (114, .u8), (115, .u8), (118, .i32), (119, .i32)]

noncomputable def F_espalierlaw_TermKleene : FnT := ⟨5, ⟨[], [(0, .graph), (1, (.lst .str)), (2, (.lst .i64)), (3, .term), (4, .term)], []⟩, [.v .bool], []⟩
noncomputable def F_espalierlaw_call : FnT := ⟨2, ⟨[], [(0, .str), (1, (.lst .term))], []⟩, [.v .term], []⟩
noncomputable def C_espalierlaw_call : Code := bodyOf Tryd.f8
noncomputable def M_espalierlaw_call : List (Nat × ArgM) := []
instance : DfOk M_espalierlaw_call := .none rfl
noncomputable def O_espalierlaw_call {ρ : Type} : Orc ρ := orcNil
omit [QuietD Tryd.prog] [UDef] [UTabs] in
theorem O_espalierlaw_call_ok {ρ : Type} : (O_espalierlaw_call : Orc ρ).ok Tryd.prog := orcNil_ok
noncomputable def L_espalierlaw_call {ρ : Type} : LOrc ρ := lorcNil
omit [Tabs] [QuietD Tryd.prog] [UDef] [UTabs] in
theorem e_espalierlaw_call (x) : evF Tryd.prog 8 TT M_espalierlaw_call F_espalierlaw_call (O_espalierlaw_call) (L_espalierlaw_call) dorcNil ⟨[], [], []⟩ [.cell 4 33] C_espalierlaw_call x = espalierlaw_call x := by kernel_rfl
omit [UDef] [UTabs] in
theorem ok_espalierlaw_call : Contract Tryd.prog 8 F_espalierlaw_call (espalierlaw_call) :=
  Contract.of_ev (c := C_espalierlaw_call) (N := 8) Tryd.func8 (by kernel_rfl) (by kernel_rfl) (by kernel_rfl) (by kernel_rfl) (O_espalierlaw_call_ok) dorcNil_ok (.of (l := []) (by kernel_rfl) trivial) (e_espalierlaw_call)

noncomputable def F_espalierlaw_TermKleene_1 : FnT := ⟨4, ⟨[], [(0, .term), (1, (.ptr .graph)), (2, (.ptr (.lst .str))), (3, (.ptr (.lst .i64)))], []⟩, [.v .val, .v .i64], []⟩
noncomputable def F_term_Eval : FnT := ⟨4, ⟨[], [(0, .graph), (1, (.lst .str)), (2, (.lst .i64)), (3, .term)], []⟩, [.v .val, .v .i64], []⟩
noncomputable def F_graph_Check : FnT := ⟨1, ⟨[], [(0, .graph)], []⟩, [.v .i64], []⟩
noncomputable def F_graph_Labels : FnT := ⟨1, ⟨[], [(0, (.lst .str))], []⟩, [.v .i64], []⟩
noncomputable def F_graph_Name : FnT := ⟨1, ⟨[], [(0, .str)], []⟩, [.v .bool], []⟩
noncomputable def C_graph_Name : Code := bodyOf Tryd.f26
noncomputable def M_graph_Name : List (Nat × ArgM) := []
instance : DfOk M_graph_Name := .none rfl
noncomputable def O_graph_Name {ρ : Type} (n : Nat) : Orc ρ := orcNil
omit [QuietD Tryd.prog] [UDef] [UTabs] in
theorem O_graph_Name_ok {ρ : Type} (n : Nat) : (O_graph_Name n : Orc ρ).ok Tryd.prog := orcNil_ok
noncomputable def T_graph_Name_s0 : Tm := ⟨[], [(0, .str), (14, .i64), (15, .i64)], []⟩
noncomputable def X_graph_Name_s0 : Tm := ⟨[], [], []⟩
noncomputable def R_graph_Name_s0 : Tm := ⟨[], [(2, .bool)], []⟩
noncomputable def L_graph_Name_s0 {ρ : Type} (n : Nat) : LOrc ρ := lorcNil
omit [Tabs] [QuietD Tryd.prog] [UDef] [UTabs] in
theorem s_graph_Name_s0 {ρ : Type} (n : Nat) (rec : T_graph_Name_s0.den → Option ρ) kx kr s : dStep Tryd.prog 54 TT M_graph_Name (O_graph_Name n) (L_graph_Name_s0 n) dorcNil 0 (lbody 1000 C_graph_Name 0) T_graph_Name_s0 X_graph_Name_s0 R_graph_Name_s0 ⟨[], [], []⟩ rec kx kr s = graph_Name_s0 n rec kx kr s := by kernel_rfl
noncomputable def L_graph_Name {ρ : Type} (n : Nat) : LOrc ρ := lorcCons 0 (loopL 54 0 n T_graph_Name_s0 X_graph_Name_s0 R_graph_Name_s0 ⟨[], [], []⟩ (graph_Name_s0 n)) (lorcNil)
omit [Tabs] [QuietD Tryd.prog] [UDef] [UTabs] in
theorem e_graph_Name (n : Nat) (x) : evF Tryd.prog 54 TT M_graph_Name F_graph_Name (O_graph_Name n) (L_graph_Name n) dorcNil ⟨[], [], []⟩ [.tmp 2] C_graph_Name x = graph_Name n x := by kernel_rfl
omit [UDef] [UTabs] in
theorem ok_graph_Name (n : Nat) : Contract Tryd.prog 26 F_graph_Name (graph_Name n) :=
  Contract.of_ev (c := C_graph_Name) (N := 54) Tryd.func26 (by kernel_rfl) (by kernel_rfl) (by kernel_rfl) (by kernel_rfl) (O_graph_Name_ok n) dorcNil_ok (.of (l := [(0, (lbody 1000 C_graph_Name 0))]) (by kernel_rfl) ⟨.head (loopL_sound (O_graph_Name_ok n) dorcNil_ok (.of (l := []) (by kernel_rfl) trivial) (s_graph_Name_s0 n)), trivial⟩) (e_graph_Name n)

noncomputable def C_graph_Labels : Code := bodyOf Tryd.f24
noncomputable def M_graph_Labels : List (Nat × ArgM) := [(26, ⟨[], [], [], true⟩)]
instance : DfOk M_graph_Labels := .none rfl
noncomputable def O_graph_Labels {ρ : Type} (n : Nat) : Orc ρ := orcCons 26 F_graph_Name (graph_Name n) (orcNil)
omit [UDef] [UTabs] in
theorem O_graph_Labels_ok {ρ : Type} (n : Nat) : (O_graph_Labels n : Orc ρ).ok Tryd.prog := orcCons_ok (by kernel_rfl) (ok_graph_Name n) (orcNil_ok)
noncomputable def T_graph_Labels_s0 : Tm := ⟨[], [(0, (.lst .str)), (8, (.lst .str)), (9, .i64), (10, .i64)], []⟩
noncomputable def X_graph_Labels_s0 : Tm := ⟨[], [], []⟩
noncomputable def R_graph_Labels_s0 : Tm := ⟨[], [(2, .i64)], []⟩
noncomputable def L_graph_Labels_s0 {ρ : Type} (n : Nat) : LOrc ρ := lorcNil
omit [Tabs] [QuietD Tryd.prog] [UDef] [UTabs] in
theorem s_graph_Labels_s0 {ρ : Type} (n : Nat) (rec : T_graph_Labels_s0.den → Option ρ) kx kr s : dStep Tryd.prog 32 TT M_graph_Labels (O_graph_Labels n) (L_graph_Labels_s0 n) dorcNil 0 (lbody 1000 C_graph_Labels 0) T_graph_Labels_s0 X_graph_Labels_s0 R_graph_Labels_s0 ⟨[], [], []⟩ rec kx kr s = graph_Labels_s0 n rec kx kr s := by kernel_rfl
noncomputable def L_graph_Labels {ρ : Type} (n : Nat) : LOrc ρ := lorcCons 0 (loopL 32 0 n T_graph_Labels_s0 X_graph_Labels_s0 R_graph_Labels_s0 ⟨[], [], []⟩ (graph_Labels_s0 n)) (lorcNil)
omit [Tabs] [QuietD Tryd.prog] [UDef] [UTabs] in
theorem e_graph_Labels (n : Nat) (x) : evF Tryd.prog 32 TT M_graph_Labels F_graph_Labels (O_graph_Labels n) (L_graph_Labels n) dorcNil ⟨[], [], []⟩ [.tmp 2] C_graph_Labels x = graph_Labels n x := by kernel_rfl
omit [UDef] [UTabs] in
theorem ok_graph_Labels (n : Nat) : Contract Tryd.prog 24 F_graph_Labels (graph_Labels n) :=
  Contract.of_ev (c := C_graph_Labels) (N := 32) Tryd.func24 (by kernel_rfl) (by kernel_rfl) (by kernel_rfl) (by kernel_rfl) (O_graph_Labels_ok n) dorcNil_ok (.of (l := [(0, (lbody 1000 C_graph_Labels 0))]) (by kernel_rfl) ⟨.head (loopL_sound (O_graph_Labels_ok n) dorcNil_ok (.of (l := []) (by kernel_rfl) trivial) (s_graph_Labels_s0 n)), trivial⟩) (e_graph_Labels n)

noncomputable def F_graph_Props : FnT := ⟨1, ⟨[], [(0, (.lst .prp))], []⟩, [.v .i64], []⟩
noncomputable def F_value_Check : FnT := ⟨1, ⟨[], [(0, .val)], []⟩, [.v .i64], []⟩
noncomputable def F_value_check : FnT := ⟨2, ⟨[], [(0, .val), (1, .i64)], []⟩, [.v .i64], []⟩
noncomputable def C_value_check : Code := bodyOf Tryd.f50
noncomputable def M_value_check : List (Nat × ArgM) := [(57, ⟨[], [], [], true⟩), (50, ⟨[], [], [], true⟩)]
instance : DfOk M_value_check := .none rfl
noncomputable def O_value_check {ρ : Type} (self_value_check : Ev.Val × Int × Unit → Option (Int × Unit)) (n : Nat) : Orc ρ := orcCons 57 F_valid (validN) (orcCons 50 F_value_check (self_value_check) (orcNil))
omit [QuietD Tryd.prog] [UDef] in
theorem O_value_check_ok {ρ : Type} (self_value_check : Ev.Val × Int × Unit → Option (Int × Unit)) (h_value_check : Contract Tryd.prog 50 F_value_check self_value_check) (n : Nat) : (O_value_check self_value_check n : Orc ρ).ok Tryd.prog := orcCons_ok (by kernel_rfl) (validN_ok) (orcCons_ok (by kernel_rfl) (h_value_check) (orcNil_ok))
noncomputable def T_value_check_s1 : Tm := ⟨[(2, .ptr 2 0)], [(1, .i64), (90, (.lst .val)), (91, .i64), (92, .i64)], [(2, .box [.d .val])]⟩
noncomputable def X_value_check_s1 : Tm := ⟨[(2, .ptr 2 0)], [], [(2, .box [.d .val])]⟩
noncomputable def R_value_check_s1 : Tm := ⟨[], [(4, .i64)], []⟩
noncomputable def L_value_check_s1 {ρ : Type} (self_value_check : Ev.Val × Int × Unit → Option (Int × Unit)) (n : Nat) : LOrc ρ := lorcNil
omit [Tabs] [QuietD Tryd.prog] [UDef] [UTabs] in
theorem s_value_check_s1 {ρ : Type} (self_value_check : Ev.Val × Int × Unit → Option (Int × Unit)) (n : Nat) (rec : T_value_check_s1.den → Option ρ) kx kr s : dStep Tryd.prog 114 TT M_value_check (O_value_check self_value_check n) (L_value_check_s1 self_value_check n) dorcNil 1 (lbody 1000 C_value_check 0) T_value_check_s1 X_value_check_s1 R_value_check_s1 ⟨[], [], []⟩ rec kx kr s = value_check_s1 self_value_check n rec kx kr s := by kernel_rfl
noncomputable def L_value_check {ρ : Type} (self_value_check : Ev.Val × Int × Unit → Option (Int × Unit)) (n : Nat) : LOrc ρ := lorcCons 1 (loopL 114 1 n T_value_check_s1 X_value_check_s1 R_value_check_s1 ⟨[], [], []⟩ (value_check_s1 self_value_check n)) (lorcNil)
omit [Tabs] [QuietD Tryd.prog] [UDef] [UTabs] in
theorem e_value_check (self_value_check : Ev.Val × Int × Unit → Option (Int × Unit)) (n : Nat) (x) : evF Tryd.prog 114 TT M_value_check F_value_check (O_value_check self_value_check n) (L_value_check self_value_check n) dorcNil ⟨[], [], []⟩ [.tmp 4] C_value_check x = value_check_b self_value_check n x := by kernel_rfl
omit [UDef] in
theorem okb_value_check (self_value_check : Ev.Val × Int × Unit → Option (Int × Unit)) (h_value_check : Contract Tryd.prog 50 F_value_check self_value_check) (n : Nat) : Contract Tryd.prog 50 F_value_check (value_check_b self_value_check n) :=
  Contract.of_ev (c := C_value_check) (N := 114) Tryd.func50 (by kernel_rfl) (by kernel_rfl) (by kernel_rfl) (by kernel_rfl) (O_value_check_ok self_value_check h_value_check n) dorcNil_ok (.of (l := [(1, (lbody 1000 C_value_check 0))]) (by kernel_rfl) ⟨.head (loopL_sound (O_value_check_ok self_value_check h_value_check n) dorcNil_ok (.of (l := []) (by kernel_rfl) trivial) (s_value_check_s1 self_value_check n)), trivial⟩) (e_value_check self_value_check n)
omit [UDef] in
theorem ok_value_check : ∀ n, Contract Tryd.prog 50 F_value_check (value_check n)
  | 0 => fun _ _ h => by cases h
  | n + 1 => okb_value_check _ (ok_value_check n) n

noncomputable def C_value_Check : Code := bodyOf Tryd.f38
noncomputable def M_value_Check : List (Nat × ArgM) := [(50, ⟨[], [], [], true⟩)]
instance : DfOk M_value_Check := .none rfl
noncomputable def O_value_Check {ρ : Type} (n : Nat) : Orc ρ := orcCons 50 F_value_check (value_check n) (orcNil)
omit [UDef] in
theorem O_value_Check_ok {ρ : Type} (n : Nat) : (O_value_Check n : Orc ρ).ok Tryd.prog := orcCons_ok (by kernel_rfl) (ok_value_check n) (orcNil_ok)
noncomputable def L_value_Check {ρ : Type} (n : Nat) : LOrc ρ := lorcNil
omit [Tabs] [QuietD Tryd.prog] [UDef] [UTabs] in
theorem e_value_Check (n : Nat) (x) : evF Tryd.prog 5 TT M_value_Check F_value_Check (O_value_Check n) (L_value_Check n) dorcNil ⟨[], [], []⟩ [.tmp 2] C_value_Check x = value_Check n x := by kernel_rfl
omit [UDef] in
theorem ok_value_Check (n : Nat) : Contract Tryd.prog 38 F_value_Check (value_Check n) :=
  Contract.of_ev (c := C_value_Check) (N := 5) Tryd.func38 (by kernel_rfl) (by kernel_rfl) (by kernel_rfl) (by kernel_rfl) (O_value_Check_ok n) dorcNil_ok (.of (l := []) (by kernel_rfl) trivial) (e_value_Check n)

noncomputable def C_graph_Props : Code := bodyOf Tryd.f25
noncomputable def M_graph_Props : List (Nat × ArgM) := [(26, ⟨[], [], [], true⟩), (38, ⟨[], [], [], true⟩)]
instance : DfOk M_graph_Props := .none rfl
noncomputable def O_graph_Props {ρ : Type} (n : Nat) : Orc ρ := orcCons 26 F_graph_Name (graph_Name n) (orcCons 38 F_value_Check (value_Check n) (orcNil))
omit [UDef] in
theorem O_graph_Props_ok {ρ : Type} (n : Nat) : (O_graph_Props n : Orc ρ).ok Tryd.prog := orcCons_ok (by kernel_rfl) (ok_graph_Name n) (orcCons_ok (by kernel_rfl) (ok_value_Check n) (orcNil_ok))
noncomputable def T_graph_Props_s0 : Tm := ⟨[], [(0, (.lst .prp)), (9, (.lst .prp)), (10, .i64), (11, .i64)], []⟩
noncomputable def X_graph_Props_s0 : Tm := ⟨[], [], []⟩
noncomputable def R_graph_Props_s0 : Tm := ⟨[], [(2, .i64)], []⟩
noncomputable def L_graph_Props_s0 {ρ : Type} (n : Nat) : LOrc ρ := lorcNil
omit [Tabs] [QuietD Tryd.prog] [UDef] [UTabs] in
theorem s_graph_Props_s0 {ρ : Type} (n : Nat) (rec : T_graph_Props_s0.den → Option ρ) kx kr s : dStep Tryd.prog 48 TT M_graph_Props (O_graph_Props n) (L_graph_Props_s0 n) (evDraw Tryd.prog 48 TT M_graph_Props (O_graph_Props n)) 0 (lbody 1000 C_graph_Props 0) T_graph_Props_s0 X_graph_Props_s0 R_graph_Props_s0 ⟨[], [], []⟩ rec kx kr s = graph_Props_s0 n rec kx kr s := by kernel_rfl
noncomputable def L_graph_Props {ρ : Type} (n : Nat) : LOrc ρ := lorcCons 0 (loopL 48 0 n T_graph_Props_s0 X_graph_Props_s0 R_graph_Props_s0 ⟨[], [], []⟩ (graph_Props_s0 n)) (lorcNil)
omit [Tabs] [QuietD Tryd.prog] [UDef] [UTabs] in
theorem e_graph_Props (n : Nat) (x) : evF Tryd.prog 48 TT M_graph_Props F_graph_Props (O_graph_Props n) (L_graph_Props n) (evDraw Tryd.prog 48 TT M_graph_Props (O_graph_Props n)) ⟨[], [], []⟩ [.tmp 2] C_graph_Props x = graph_Props n x := by kernel_rfl
omit [UDef] in
theorem ok_graph_Props (n : Nat) : Contract Tryd.prog 25 F_graph_Props (graph_Props n) :=
  Contract.of_ev (c := C_graph_Props) (N := 48) Tryd.func25 (by kernel_rfl) (by kernel_rfl) (by kernel_rfl) (by kernel_rfl) (O_graph_Props_ok n) (evDraw_ok (O_graph_Props_ok n) (by kernel_rfl)) (.of (l := [(0, (lbody 1000 C_graph_Props 0))]) (by kernel_rfl) ⟨.head (loopL_sound (O_graph_Props_ok n) (evDraw_ok (O_graph_Props_ok n) (by kernel_rfl)) (.of (l := []) (by kernel_rfl) trivial) (s_graph_Props_s0 n)), trivial⟩) (e_graph_Props n)

noncomputable def F_cmp_Or_api_Errno : FnT := ⟨1, ⟨[], [(0, (.lst .i64))], []⟩, [.v .i64], []⟩
noncomputable def C_cmp_Or_api_Errno : Code := bodyOf Tryd.f23
noncomputable def M_cmp_Or_api_Errno : List (Nat × ArgM) := []
instance : DfOk M_cmp_Or_api_Errno := .none rfl
noncomputable def O_cmp_Or_api_Errno {ρ : Type} (n : Nat) : Orc ρ := orcNil
omit [QuietD Tryd.prog] [UDef] [UTabs] in
theorem O_cmp_Or_api_Errno_ok {ρ : Type} (n : Nat) : (O_cmp_Or_api_Errno n : Orc ρ).ok Tryd.prog := orcNil_ok
noncomputable def T_cmp_Or_api_Errno_s0 : Tm := ⟨[], [(3, .i64), (6, (.lst .i64)), (7, .i64), (8, .i64)], []⟩
noncomputable def X_cmp_Or_api_Errno_s0 : Tm := ⟨[], [(3, .i64)], []⟩
noncomputable def R_cmp_Or_api_Errno_s0 : Tm := ⟨[], [(2, .i64)], []⟩
noncomputable def L_cmp_Or_api_Errno_s0 {ρ : Type} (n : Nat) : LOrc ρ := lorcNil
omit [Tabs] [QuietD Tryd.prog] [UDef] [UTabs] in
theorem s_cmp_Or_api_Errno_s0 {ρ : Type} (n : Nat) (rec : T_cmp_Or_api_Errno_s0.den → Option ρ) kx kr s : dStep Tryd.prog 18 TT M_cmp_Or_api_Errno (O_cmp_Or_api_Errno n) (L_cmp_Or_api_Errno_s0 n) dorcNil 0 (lbody 1000 C_cmp_Or_api_Errno 0) T_cmp_Or_api_Errno_s0 X_cmp_Or_api_Errno_s0 R_cmp_Or_api_Errno_s0 ⟨[], [], []⟩ rec kx kr s = cmp_Or_api_Errno_s0 n rec kx kr s := by kernel_rfl
noncomputable def L_cmp_Or_api_Errno {ρ : Type} (n : Nat) : LOrc ρ := lorcCons 0 (loopL 18 0 n T_cmp_Or_api_Errno_s0 X_cmp_Or_api_Errno_s0 R_cmp_Or_api_Errno_s0 ⟨[], [], []⟩ (cmp_Or_api_Errno_s0 n)) (lorcNil)
omit [Tabs] [QuietD Tryd.prog] [UDef] [UTabs] in
theorem e_cmp_Or_api_Errno (n : Nat) (x) : evF Tryd.prog 18 TT M_cmp_Or_api_Errno F_cmp_Or_api_Errno (O_cmp_Or_api_Errno n) (L_cmp_Or_api_Errno n) dorcNil ⟨[], [], []⟩ [.tmp 2] C_cmp_Or_api_Errno x = cmp_Or_api_Errno n x := by kernel_rfl
omit [UDef] [UTabs] in
theorem ok_cmp_Or_api_Errno (n : Nat) : Contract Tryd.prog 23 F_cmp_Or_api_Errno (cmp_Or_api_Errno n) :=
  Contract.of_ev (c := C_cmp_Or_api_Errno) (N := 18) Tryd.func23 (by kernel_rfl) (by kernel_rfl) (by kernel_rfl) (by kernel_rfl) (O_cmp_Or_api_Errno_ok n) dorcNil_ok (.of (l := [(0, (lbody 1000 C_cmp_Or_api_Errno 0))]) (by kernel_rfl) ⟨.head (loopL_sound (O_cmp_Or_api_Errno_ok n) dorcNil_ok (.of (l := []) (by kernel_rfl) trivial) (s_cmp_Or_api_Errno_s0 n)), trivial⟩) (e_cmp_Or_api_Errno n)

noncomputable def F_graph_Find : FnT := ⟨2, ⟨[], [(0, .graph), (1, .i64)], []⟩, [.v .i64], []⟩
noncomputable def F_slices_BinarySearchFunc_api_Node_api_Node_int_graph_Find_1 : FnT := ⟨3, ⟨[(2, .fn 28)], [(0, (.lst .node)), (1, .i64)], []⟩, [.v .i64, .v .bool], []⟩
noncomputable def F_graph_Find_1 : FnT := ⟨2, ⟨[], [(0, .node), (1, .i64)], []⟩, [.v .i64], []⟩
noncomputable def F_cmp_Compare_int : FnT := ⟨2, ⟨[], [(0, .i64), (1, .i64)], []⟩, [.v .i64], []⟩
noncomputable def F_cmp_isNaN_int : FnT := ⟨1, ⟨[], [(0, .i64)], []⟩, [.v .bool], []⟩
noncomputable def C_cmp_isNaN_int : Code := bodyOf Tryd.f39
noncomputable def M_cmp_isNaN_int : List (Nat × ArgM) := []
instance : DfOk M_cmp_isNaN_int := .none rfl
noncomputable def O_cmp_isNaN_int {ρ : Type} : Orc ρ := orcNil
omit [QuietD Tryd.prog] [UDef] [UTabs] in
theorem O_cmp_isNaN_int_ok {ρ : Type} : (O_cmp_isNaN_int : Orc ρ).ok Tryd.prog := orcNil_ok
noncomputable def L_cmp_isNaN_int {ρ : Type} : LOrc ρ := lorcNil
omit [Tabs] [QuietD Tryd.prog] [UDef] [UTabs] in
theorem e_cmp_isNaN_int (x) : evF Tryd.prog 6 TT M_cmp_isNaN_int F_cmp_isNaN_int (O_cmp_isNaN_int) (L_cmp_isNaN_int) dorcNil ⟨[], [], []⟩ [.tmp 2] C_cmp_isNaN_int x = cmp_isNaN_int x := by kernel_rfl
omit [UDef] [UTabs] in
theorem ok_cmp_isNaN_int : Contract Tryd.prog 39 F_cmp_isNaN_int (cmp_isNaN_int) :=
  Contract.of_ev (c := C_cmp_isNaN_int) (N := 6) Tryd.func39 (by kernel_rfl) (by kernel_rfl) (by kernel_rfl) (by kernel_rfl) (O_cmp_isNaN_int_ok) dorcNil_ok (.of (l := []) (by kernel_rfl) trivial) (e_cmp_isNaN_int)

noncomputable def C_cmp_Compare_int : Code := bodyOf Tryd.f29
noncomputable def M_cmp_Compare_int : List (Nat × ArgM) := [(39, ⟨[], [], [], true⟩)]
instance : DfOk M_cmp_Compare_int := .none rfl
noncomputable def O_cmp_Compare_int {ρ : Type} : Orc ρ := orcCons 39 F_cmp_isNaN_int (cmp_isNaN_int) (orcNil)
omit [UDef] [UTabs] in
theorem O_cmp_Compare_int_ok {ρ : Type} : (O_cmp_Compare_int : Orc ρ).ok Tryd.prog := orcCons_ok (by kernel_rfl) (ok_cmp_isNaN_int) (orcNil_ok)
noncomputable def L_cmp_Compare_int {ρ : Type} : LOrc ρ := lorcNil
omit [Tabs] [QuietD Tryd.prog] [UDef] [UTabs] in
theorem e_cmp_Compare_int (x) : evF Tryd.prog 20 TT M_cmp_Compare_int F_cmp_Compare_int (O_cmp_Compare_int) (L_cmp_Compare_int) dorcNil ⟨[], [], []⟩ [.tmp 4] C_cmp_Compare_int x = cmp_Compare_int x := by kernel_rfl
omit [UDef] [UTabs] in
theorem ok_cmp_Compare_int : Contract Tryd.prog 29 F_cmp_Compare_int (cmp_Compare_int) :=
  Contract.of_ev (c := C_cmp_Compare_int) (N := 20) Tryd.func29 (by kernel_rfl) (by kernel_rfl) (by kernel_rfl) (by kernel_rfl) (O_cmp_Compare_int_ok) dorcNil_ok (.of (l := []) (by kernel_rfl) trivial) (e_cmp_Compare_int)

noncomputable def C_graph_Find_1 : Code := bodyOf Tryd.f28
noncomputable def M_graph_Find_1 : List (Nat × ArgM) := [(29, ⟨[], [], [], true⟩)]
instance : DfOk M_graph_Find_1 := .none rfl
noncomputable def O_graph_Find_1 {ρ : Type} : Orc ρ := orcCons 29 F_cmp_Compare_int (cmp_Compare_int) (orcNil)
omit [UDef] [UTabs] in
theorem O_graph_Find_1_ok {ρ : Type} : (O_graph_Find_1 : Orc ρ).ok Tryd.prog := orcCons_ok (by kernel_rfl) (ok_cmp_Compare_int) (orcNil_ok)
noncomputable def L_graph_Find_1 {ρ : Type} : LOrc ρ := lorcNil
omit [Tabs] [QuietD Tryd.prog] [UDef] [UTabs] in
theorem e_graph_Find_1 (x) : evF Tryd.prog 9 TT M_graph_Find_1 F_graph_Find_1 (O_graph_Find_1) (L_graph_Find_1) dorcNil ⟨[], [], []⟩ [.tmp 4] C_graph_Find_1 x = graph_Find_1 x := by kernel_rfl
omit [UDef] [UTabs] in
theorem ok_graph_Find_1 : Contract Tryd.prog 28 F_graph_Find_1 (graph_Find_1) :=
  Contract.of_ev (c := C_graph_Find_1) (N := 9) Tryd.func28 (by kernel_rfl) (by kernel_rfl) (by kernel_rfl) (by kernel_rfl) (O_graph_Find_1_ok) dorcNil_ok (.of (l := []) (by kernel_rfl) trivial) (e_graph_Find_1)

noncomputable def C_slices_BinarySearchFunc_api_Node_api_Node_int_graph_Find_1 : Code := bodyOf Tryd.f27
noncomputable def M_slices_BinarySearchFunc_api_Node_api_Node_int_graph_Find_1 : List (Nat × ArgM) := [(28, ⟨[], [], [], true⟩)]
instance : DfOk M_slices_BinarySearchFunc_api_Node_api_Node_int_graph_Find_1 := .none rfl
noncomputable def O_slices_BinarySearchFunc_api_Node_api_Node_int_graph_Find_1 {ρ : Type} (n : Nat) : Orc ρ := orcCons 28 F_graph_Find_1 (graph_Find_1) (orcNil)
omit [UDef] [UTabs] in
theorem O_slices_BinarySearchFunc_api_Node_api_Node_int_graph_Find_1_ok {ρ : Type} (n : Nat) : (O_slices_BinarySearchFunc_api_Node_api_Node_int_graph_Find_1 n : Orc ρ).ok Tryd.prog := orcCons_ok (by kernel_rfl) (ok_graph_Find_1) (orcNil_ok)
noncomputable def T_slices_BinarySearchFunc_api_Node_api_Node_int_graph_Find_1_s0 : Tm := ⟨[(2, .fn 28)], [(0, (.lst .node)), (1, .i64), (8, .i64), (9, .i64), (10, .i64)], []⟩
noncomputable def X_slices_BinarySearchFunc_api_Node_api_Node_int_graph_Find_1_s0 : Tm := ⟨[(2, .fn 28)], [(0, (.lst .node)), (1, .i64), (8, .i64), (9, .i64)], []⟩
noncomputable def R_slices_BinarySearchFunc_api_Node_api_Node_int_graph_Find_1_s0 : Tm := ⟨[], [], []⟩
noncomputable def L_slices_BinarySearchFunc_api_Node_api_Node_int_graph_Find_1_s0 {ρ : Type} (n : Nat) : LOrc ρ := lorcNil
omit [Tabs] [QuietD Tryd.prog] [UDef] [UTabs] in
theorem s_slices_BinarySearchFunc_api_Node_api_Node_int_graph_Find_1_s0 {ρ : Type} (n : Nat) (rec : T_slices_BinarySearchFunc_api_Node_api_Node_int_graph_Find_1_s0.den → Option ρ) kx kr s : dStep Tryd.prog 49 TT M_slices_BinarySearchFunc_api_Node_api_Node_int_graph_Find_1 (O_slices_BinarySearchFunc_api_Node_api_Node_int_graph_Find_1 n) (L_slices_BinarySearchFunc_api_Node_api_Node_int_graph_Find_1_s0 n) dorcNil 0 (lbody 1000 C_slices_BinarySearchFunc_api_Node_api_Node_int_graph_Find_1 0) T_slices_BinarySearchFunc_api_Node_api_Node_int_graph_Find_1_s0 X_slices_BinarySearchFunc_api_Node_api_Node_int_graph_Find_1_s0 R_slices_BinarySearchFunc_api_Node_api_Node_int_graph_Find_1_s0 ⟨[], [], []⟩ rec kx kr s = slices_BinarySearchFunc_api_Node_api_Node_int_graph_Find_1_s0 n rec kx kr s := by kernel_rfl
noncomputable def L_slices_BinarySearchFunc_api_Node_api_Node_int_graph_Find_1 {ρ : Type} (n : Nat) : LOrc ρ := lorcCons 0 (loopL 49 0 n T_slices_BinarySearchFunc_api_Node_api_Node_int_graph_Find_1_s0 X_slices_BinarySearchFunc_api_Node_api_Node_int_graph_Find_1_s0 R_slices_BinarySearchFunc_api_Node_api_Node_int_graph_Find_1_s0 ⟨[], [], []⟩ (slices_BinarySearchFunc_api_Node_api_Node_int_graph_Find_1_s0 n)) (lorcNil)
omit [Tabs] [QuietD Tryd.prog] [UDef] [UTabs] in
theorem e_slices_BinarySearchFunc_api_Node_api_Node_int_graph_Find_1 (n : Nat) (x) : evF Tryd.prog 49 TT M_slices_BinarySearchFunc_api_Node_api_Node_int_graph_Find_1 F_slices_BinarySearchFunc_api_Node_api_Node_int_graph_Find_1 (O_slices_BinarySearchFunc_api_Node_api_Node_int_graph_Find_1 n) (L_slices_BinarySearchFunc_api_Node_api_Node_int_graph_Find_1 n) dorcNil ⟨[], [], []⟩ [.tmp 6, .tmp 7] C_slices_BinarySearchFunc_api_Node_api_Node_int_graph_Find_1 x = slices_BinarySearchFunc_api_Node_api_Node_int_graph_Find_1 n x := by kernel_rfl
omit [UDef] [UTabs] in
theorem ok_slices_BinarySearchFunc_api_Node_api_Node_int_graph_Find_1 (n : Nat) : Contract Tryd.prog 27 F_slices_BinarySearchFunc_api_Node_api_Node_int_graph_Find_1 (slices_BinarySearchFunc_api_Node_api_Node_int_graph_Find_1 n) :=
  Contract.of_ev (c := C_slices_BinarySearchFunc_api_Node_api_Node_int_graph_Find_1) (N := 49) Tryd.func27 (by kernel_rfl) (by kernel_rfl) (by kernel_rfl) (by kernel_rfl) (O_slices_BinarySearchFunc_api_Node_api_Node_int_graph_Find_1_ok n) dorcNil_ok (.of (l := [(0, (lbody 1000 C_slices_BinarySearchFunc_api_Node_api_Node_int_graph_Find_1 0))]) (by kernel_rfl) ⟨.head (loopL_sound (O_slices_BinarySearchFunc_api_Node_api_Node_int_graph_Find_1_ok n) dorcNil_ok (.of (l := []) (by kernel_rfl) trivial) (s_slices_BinarySearchFunc_api_Node_api_Node_int_graph_Find_1_s0 n)), trivial⟩) (e_slices_BinarySearchFunc_api_Node_api_Node_int_graph_Find_1 n)

noncomputable def C_graph_Find : Code := bodyOf Tryd.f13
noncomputable def M_graph_Find : List (Nat × ArgM) := [(27, ⟨[], [], [], true⟩)]
instance : DfOk M_graph_Find := .none rfl
noncomputable def O_graph_Find {ρ : Type} (n : Nat) : Orc ρ := orcCons 27 F_slices_BinarySearchFunc_api_Node_api_Node_int_graph_Find_1 (slices_BinarySearchFunc_api_Node_api_Node_int_graph_Find_1 n) (orcNil)
omit [UDef] [UTabs] in
theorem O_graph_Find_ok {ρ : Type} (n : Nat) : (O_graph_Find n : Orc ρ).ok Tryd.prog := orcCons_ok (by kernel_rfl) (ok_slices_BinarySearchFunc_api_Node_api_Node_int_graph_Find_1 n) (orcNil_ok)
noncomputable def L_graph_Find {ρ : Type} (n : Nat) : LOrc ρ := lorcNil
omit [Tabs] [QuietD Tryd.prog] [UDef] [UTabs] in
theorem e_graph_Find (n : Nat) (x) : evF Tryd.prog 17 TT M_graph_Find F_graph_Find (O_graph_Find n) (L_graph_Find n) dorcNil ⟨[], [], []⟩ [.tmp 4] C_graph_Find x = graph_Find n x := by kernel_rfl
omit [UDef] [UTabs] in
theorem ok_graph_Find (n : Nat) : Contract Tryd.prog 13 F_graph_Find (graph_Find n) :=
  Contract.of_ev (c := C_graph_Find) (N := 17) Tryd.func13 (by kernel_rfl) (by kernel_rfl) (by kernel_rfl) (by kernel_rfl) (O_graph_Find_ok n) dorcNil_ok (.of (l := []) (by kernel_rfl) trivial) (e_graph_Find n)

noncomputable def C_graph_Check : Code := bodyOf Tryd.f12
noncomputable def M_graph_Check : List (Nat × ArgM) := [(24, ⟨[], [], [], true⟩), (25, ⟨[], [], [], true⟩), (23, ⟨[], [], [], true⟩), (13, ⟨[], [], [], true⟩), (26, ⟨[], [], [], true⟩)]
instance : DfOk M_graph_Check := .none rfl
noncomputable def O_graph_Check {ρ : Type} (n : Nat) : Orc ρ := orcCons 24 F_graph_Labels (graph_Labels n) (orcCons 25 F_graph_Props (graph_Props n) (orcCons 23 F_cmp_Or_api_Errno (cmp_Or_api_Errno n) (orcCons 13 F_graph_Find (graph_Find n) (orcCons 26 F_graph_Name (graph_Name n) (orcNil)))))
omit [UDef] in
theorem O_graph_Check_ok {ρ : Type} (n : Nat) : (O_graph_Check n : Orc ρ).ok Tryd.prog := orcCons_ok (by kernel_rfl) (ok_graph_Labels n) (orcCons_ok (by kernel_rfl) (ok_graph_Props n) (orcCons_ok (by kernel_rfl) (ok_cmp_Or_api_Errno n) (orcCons_ok (by kernel_rfl) (ok_graph_Find n) (orcCons_ok (by kernel_rfl) (ok_graph_Name n) (orcNil_ok)))))
noncomputable def T_graph_Check_s0 : Tm := ⟨[(1, .ptr 1 0)], [(3, .i64), (22, (.lst .node)), (23, .i64), (24, .i64)], [(1, .box [.d .graph])]⟩
noncomputable def X_graph_Check_s0 : Tm := ⟨[(1, .ptr 1 0)], [(3, .i64)], [(1, .box [.d .graph])]⟩
noncomputable def R_graph_Check_s0 : Tm := ⟨[], [(2, .i64)], []⟩
noncomputable def L_graph_Check_s0 {ρ : Type} (n : Nat) : LOrc ρ := lorcNil
omit [Tabs] [QuietD Tryd.prog] [UDef] [UTabs] in
theorem s_graph_Check_s0 {ρ : Type} (n : Nat) (rec : T_graph_Check_s0.den → Option ρ) kx kr s : dStep Tryd.prog 103 TT M_graph_Check (O_graph_Check n) (L_graph_Check_s0 n) (evDraw Tryd.prog 103 TT M_graph_Check (O_graph_Check n)) 0 (lbody 1000 C_graph_Check 0) T_graph_Check_s0 X_graph_Check_s0 R_graph_Check_s0 ⟨[], [], []⟩ rec kx kr s = graph_Check_s0 n rec kx kr s := by kernel_rfl
noncomputable def T_graph_Check_s2 : Tm := ⟨[(1, .ptr 1 0)], [(3, .i64), (7, .i64), (48, (.lst .edg)), (49, .i64), (50, .i64)], [(1, .box [.d .graph])]⟩
noncomputable def X_graph_Check_s2 : Tm := ⟨[(1, .ptr 1 0)], [(3, .i64), (7, .i64)], [(1, .box [.d .graph])]⟩
noncomputable def R_graph_Check_s2 : Tm := ⟨[], [(2, .i64)], []⟩
noncomputable def L_graph_Check_s2 {ρ : Type} (n : Nat) : LOrc ρ := lorcNil
omit [Tabs] [QuietD Tryd.prog] [UDef] [UTabs] in
theorem s_graph_Check_s2 {ρ : Type} (n : Nat) (rec : T_graph_Check_s2.den → Option ρ) kx kr s : dStep Tryd.prog 103 TT M_graph_Check (O_graph_Check n) (L_graph_Check_s2 n) (evDraw Tryd.prog 103 TT M_graph_Check (O_graph_Check n)) 2 (lbody 1000 C_graph_Check 1) T_graph_Check_s2 X_graph_Check_s2 R_graph_Check_s2 ⟨[], [], []⟩ rec kx kr s = graph_Check_s2 n rec kx kr s := by kernel_rfl
noncomputable def L_graph_Check {ρ : Type} (n : Nat) : LOrc ρ := lorcCons 0 (loopL 103 0 n T_graph_Check_s0 X_graph_Check_s0 R_graph_Check_s0 ⟨[], [], []⟩ (graph_Check_s0 n)) (lorcCons 2 (loopL 103 2 n T_graph_Check_s2 X_graph_Check_s2 R_graph_Check_s2 ⟨[], [], []⟩ (graph_Check_s2 n)) (lorcNil))
omit [Tabs] [QuietD Tryd.prog] [UDef] [UTabs] in
theorem e_graph_Check (n : Nat) (x) : evF Tryd.prog 103 TT M_graph_Check F_graph_Check (O_graph_Check n) (L_graph_Check n) (evDraw Tryd.prog 103 TT M_graph_Check (O_graph_Check n)) ⟨[], [], []⟩ [.tmp 2] C_graph_Check x = graph_Check n x := by kernel_rfl
omit [UDef] in
theorem ok_graph_Check (n : Nat) : Contract Tryd.prog 12 F_graph_Check (graph_Check n) :=
  Contract.of_ev (c := C_graph_Check) (N := 103) Tryd.func12 (by kernel_rfl) (by kernel_rfl) (by kernel_rfl) (by kernel_rfl) (O_graph_Check_ok n) (evDraw_ok (O_graph_Check_ok n) (by kernel_rfl)) (.of (l := [(0, (lbody 1000 C_graph_Check 0)), (2, (lbody 1000 C_graph_Check 1))]) (by kernel_rfl) ⟨.head (loopL_sound (O_graph_Check_ok n) (evDraw_ok (O_graph_Check_ok n) (by kernel_rfl)) (.of (l := []) (by kernel_rfl) trivial) (s_graph_Check_s0 n)), ⟨.tail rfl (.head (loopL_sound (O_graph_Check_ok n) (evDraw_ok (O_graph_Check_ok n) (by kernel_rfl)) (.of (l := []) (by kernel_rfl) trivial) (s_graph_Check_s2 n))), trivial⟩⟩) (e_graph_Check n)

noncomputable def F_graph_FindEdge : FnT := ⟨2, ⟨[], [(0, .graph), (1, .i64)], []⟩, [.v .i64], []⟩
noncomputable def F_slices_BinarySearchFunc_api_Edge_api_Edge_int_graph_FindEdge_1 : FnT := ⟨3, ⟨[(2, .fn 31)], [(0, (.lst .edg)), (1, .i64)], []⟩, [.v .i64, .v .bool], []⟩
noncomputable def F_graph_FindEdge_1 : FnT := ⟨2, ⟨[], [(0, .edg), (1, .i64)], []⟩, [.v .i64], []⟩
noncomputable def C_graph_FindEdge_1 : Code := bodyOf Tryd.f31
noncomputable def M_graph_FindEdge_1 : List (Nat × ArgM) := [(29, ⟨[], [], [], true⟩)]
instance : DfOk M_graph_FindEdge_1 := .none rfl
noncomputable def O_graph_FindEdge_1 {ρ : Type} : Orc ρ := orcCons 29 F_cmp_Compare_int (cmp_Compare_int) (orcNil)
omit [UDef] [UTabs] in
theorem O_graph_FindEdge_1_ok {ρ : Type} : (O_graph_FindEdge_1 : Orc ρ).ok Tryd.prog := orcCons_ok (by kernel_rfl) (ok_cmp_Compare_int) (orcNil_ok)
noncomputable def L_graph_FindEdge_1 {ρ : Type} : LOrc ρ := lorcNil
omit [Tabs] [QuietD Tryd.prog] [UDef] [UTabs] in
theorem e_graph_FindEdge_1 (x) : evF Tryd.prog 9 TT M_graph_FindEdge_1 F_graph_FindEdge_1 (O_graph_FindEdge_1) (L_graph_FindEdge_1) dorcNil ⟨[], [], []⟩ [.tmp 4] C_graph_FindEdge_1 x = graph_FindEdge_1 x := by kernel_rfl
omit [UDef] [UTabs] in
theorem ok_graph_FindEdge_1 : Contract Tryd.prog 31 F_graph_FindEdge_1 (graph_FindEdge_1) :=
  Contract.of_ev (c := C_graph_FindEdge_1) (N := 9) Tryd.func31 (by kernel_rfl) (by kernel_rfl) (by kernel_rfl) (by kernel_rfl) (O_graph_FindEdge_1_ok) dorcNil_ok (.of (l := []) (by kernel_rfl) trivial) (e_graph_FindEdge_1)

noncomputable def C_slices_BinarySearchFunc_api_Edge_api_Edge_int_graph_FindEdge_1 : Code := bodyOf Tryd.f30
noncomputable def M_slices_BinarySearchFunc_api_Edge_api_Edge_int_graph_FindEdge_1 : List (Nat × ArgM) := [(31, ⟨[], [], [], true⟩)]
instance : DfOk M_slices_BinarySearchFunc_api_Edge_api_Edge_int_graph_FindEdge_1 := .none rfl
noncomputable def O_slices_BinarySearchFunc_api_Edge_api_Edge_int_graph_FindEdge_1 {ρ : Type} (n : Nat) : Orc ρ := orcCons 31 F_graph_FindEdge_1 (graph_FindEdge_1) (orcNil)
omit [UDef] [UTabs] in
theorem O_slices_BinarySearchFunc_api_Edge_api_Edge_int_graph_FindEdge_1_ok {ρ : Type} (n : Nat) : (O_slices_BinarySearchFunc_api_Edge_api_Edge_int_graph_FindEdge_1 n : Orc ρ).ok Tryd.prog := orcCons_ok (by kernel_rfl) (ok_graph_FindEdge_1) (orcNil_ok)
noncomputable def T_slices_BinarySearchFunc_api_Edge_api_Edge_int_graph_FindEdge_1_s0 : Tm := ⟨[(2, .fn 31)], [(0, (.lst .edg)), (1, .i64), (8, .i64), (9, .i64), (10, .i64)], []⟩
noncomputable def X_slices_BinarySearchFunc_api_Edge_api_Edge_int_graph_FindEdge_1_s0 : Tm := ⟨[(2, .fn 31)], [(0, (.lst .edg)), (1, .i64), (8, .i64), (9, .i64)], []⟩
noncomputable def R_slices_BinarySearchFunc_api_Edge_api_Edge_int_graph_FindEdge_1_s0 : Tm := ⟨[], [], []⟩
noncomputable def L_slices_BinarySearchFunc_api_Edge_api_Edge_int_graph_FindEdge_1_s0 {ρ : Type} (n : Nat) : LOrc ρ := lorcNil
omit [Tabs] [QuietD Tryd.prog] [UDef] [UTabs] in
theorem s_slices_BinarySearchFunc_api_Edge_api_Edge_int_graph_FindEdge_1_s0 {ρ : Type} (n : Nat) (rec : T_slices_BinarySearchFunc_api_Edge_api_Edge_int_graph_FindEdge_1_s0.den → Option ρ) kx kr s : dStep Tryd.prog 49 TT M_slices_BinarySearchFunc_api_Edge_api_Edge_int_graph_FindEdge_1 (O_slices_BinarySearchFunc_api_Edge_api_Edge_int_graph_FindEdge_1 n) (L_slices_BinarySearchFunc_api_Edge_api_Edge_int_graph_FindEdge_1_s0 n) dorcNil 0 (lbody 1000 C_slices_BinarySearchFunc_api_Edge_api_Edge_int_graph_FindEdge_1 0) T_slices_BinarySearchFunc_api_Edge_api_Edge_int_graph_FindEdge_1_s0 X_slices_BinarySearchFunc_api_Edge_api_Edge_int_graph_FindEdge_1_s0 R_slices_BinarySearchFunc_api_Edge_api_Edge_int_graph_FindEdge_1_s0 ⟨[], [], []⟩ rec kx kr s = slices_BinarySearchFunc_api_Edge_api_Edge_int_graph_FindEdge_1_s0 n rec kx kr s := by kernel_rfl
noncomputable def L_slices_BinarySearchFunc_api_Edge_api_Edge_int_graph_FindEdge_1 {ρ : Type} (n : Nat) : LOrc ρ := lorcCons 0 (loopL 49 0 n T_slices_BinarySearchFunc_api_Edge_api_Edge_int_graph_FindEdge_1_s0 X_slices_BinarySearchFunc_api_Edge_api_Edge_int_graph_FindEdge_1_s0 R_slices_BinarySearchFunc_api_Edge_api_Edge_int_graph_FindEdge_1_s0 ⟨[], [], []⟩ (slices_BinarySearchFunc_api_Edge_api_Edge_int_graph_FindEdge_1_s0 n)) (lorcNil)
omit [Tabs] [QuietD Tryd.prog] [UDef] [UTabs] in
theorem e_slices_BinarySearchFunc_api_Edge_api_Edge_int_graph_FindEdge_1 (n : Nat) (x) : evF Tryd.prog 49 TT M_slices_BinarySearchFunc_api_Edge_api_Edge_int_graph_FindEdge_1 F_slices_BinarySearchFunc_api_Edge_api_Edge_int_graph_FindEdge_1 (O_slices_BinarySearchFunc_api_Edge_api_Edge_int_graph_FindEdge_1 n) (L_slices_BinarySearchFunc_api_Edge_api_Edge_int_graph_FindEdge_1 n) dorcNil ⟨[], [], []⟩ [.tmp 6, .tmp 7] C_slices_BinarySearchFunc_api_Edge_api_Edge_int_graph_FindEdge_1 x = slices_BinarySearchFunc_api_Edge_api_Edge_int_graph_FindEdge_1 n x := by kernel_rfl
omit [UDef] [UTabs] in
theorem ok_slices_BinarySearchFunc_api_Edge_api_Edge_int_graph_FindEdge_1 (n : Nat) : Contract Tryd.prog 30 F_slices_BinarySearchFunc_api_Edge_api_Edge_int_graph_FindEdge_1 (slices_BinarySearchFunc_api_Edge_api_Edge_int_graph_FindEdge_1 n) :=
  Contract.of_ev (c := C_slices_BinarySearchFunc_api_Edge_api_Edge_int_graph_FindEdge_1) (N := 49) Tryd.func30 (by kernel_rfl) (by kernel_rfl) (by kernel_rfl) (by kernel_rfl) (O_slices_BinarySearchFunc_api_Edge_api_Edge_int_graph_FindEdge_1_ok n) dorcNil_ok (.of (l := [(0, (lbody 1000 C_slices_BinarySearchFunc_api_Edge_api_Edge_int_graph_FindEdge_1 0))]) (by kernel_rfl) ⟨.head (loopL_sound (O_slices_BinarySearchFunc_api_Edge_api_Edge_int_graph_FindEdge_1_ok n) dorcNil_ok (.of (l := []) (by kernel_rfl) trivial) (s_slices_BinarySearchFunc_api_Edge_api_Edge_int_graph_FindEdge_1_s0 n)), trivial⟩) (e_slices_BinarySearchFunc_api_Edge_api_Edge_int_graph_FindEdge_1 n)

noncomputable def C_graph_FindEdge : Code := bodyOf Tryd.f14
noncomputable def M_graph_FindEdge : List (Nat × ArgM) := [(30, ⟨[], [], [], true⟩)]
instance : DfOk M_graph_FindEdge := .none rfl
noncomputable def O_graph_FindEdge {ρ : Type} (n : Nat) : Orc ρ := orcCons 30 F_slices_BinarySearchFunc_api_Edge_api_Edge_int_graph_FindEdge_1 (slices_BinarySearchFunc_api_Edge_api_Edge_int_graph_FindEdge_1 n) (orcNil)
omit [UDef] [UTabs] in
theorem O_graph_FindEdge_ok {ρ : Type} (n : Nat) : (O_graph_FindEdge n : Orc ρ).ok Tryd.prog := orcCons_ok (by kernel_rfl) (ok_slices_BinarySearchFunc_api_Edge_api_Edge_int_graph_FindEdge_1 n) (orcNil_ok)
noncomputable def L_graph_FindEdge {ρ : Type} (n : Nat) : LOrc ρ := lorcNil
omit [Tabs] [QuietD Tryd.prog] [UDef] [UTabs] in
theorem e_graph_FindEdge (n : Nat) (x) : evF Tryd.prog 17 TT M_graph_FindEdge F_graph_FindEdge (O_graph_FindEdge n) (L_graph_FindEdge n) dorcNil ⟨[], [], []⟩ [.tmp 4] C_graph_FindEdge x = graph_FindEdge n x := by kernel_rfl
omit [UDef] [UTabs] in
theorem ok_graph_FindEdge (n : Nat) : Contract Tryd.prog 14 F_graph_FindEdge (graph_FindEdge n) :=
  Contract.of_ev (c := C_graph_FindEdge) (N := 17) Tryd.func14 (by kernel_rfl) (by kernel_rfl) (by kernel_rfl) (by kernel_rfl) (O_graph_FindEdge_ok n) dorcNil_ok (.of (l := []) (by kernel_rfl) trivial) (e_graph_FindEdge n)

noncomputable def F_term_Check : FnT := ⟨2, ⟨[], [(0, .term), (1, (.map .str .bool))], []⟩, [.v .i64], []⟩
noncomputable def F_term_check : FnT := ⟨3, ⟨[], [(0, .term), (1, (.map .str .bool)), (2, .i64)], []⟩, [.v .i64], []⟩
noncomputable def F_term_Name : FnT := ⟨1, ⟨[], [(0, .str)], []⟩, [.v .bool], []⟩
noncomputable def F_term_Reserved : FnT := ⟨1, ⟨[], [(0, .str)], []⟩, [.v .bool], []⟩
noncomputable def F_slices_Contains_string_string : FnT := ⟨2, ⟨[], [(0, (.lst .str)), (1, .str)], []⟩, [.v .bool], []⟩
noncomputable def F_slices_Index_string_string : FnT := ⟨2, ⟨[], [(0, (.lst .str)), (1, .str)], []⟩, [.v .i64], []⟩
noncomputable def C_slices_Index_string_string : Code := bodyOf Tryd.f48
noncomputable def M_slices_Index_string_string : List (Nat × ArgM) := []
instance : DfOk M_slices_Index_string_string := .none rfl
noncomputable def O_slices_Index_string_string {ρ : Type} (n : Nat) : Orc ρ := orcNil
omit [QuietD Tryd.prog] [UDef] [UTabs] in
theorem O_slices_Index_string_string_ok {ρ : Type} (n : Nat) : (O_slices_Index_string_string n : Orc ρ).ok Tryd.prog := orcNil_ok
noncomputable def T_slices_Index_string_string_s0 : Tm := ⟨[], [(0, (.lst .str)), (1, .str), (7, .i64), (8, .i64)], []⟩
noncomputable def X_slices_Index_string_string_s0 : Tm := ⟨[], [], []⟩
noncomputable def R_slices_Index_string_string_s0 : Tm := ⟨[], [(4, .i64)], []⟩
noncomputable def L_slices_Index_string_string_s0 {ρ : Type} (n : Nat) : LOrc ρ := lorcNil
omit [Tabs] [QuietD Tryd.prog] [UDef] [UTabs] in
theorem s_slices_Index_string_string_s0 {ρ : Type} (n : Nat) (rec : T_slices_Index_string_string_s0.den → Option ρ) kx kr s : dStep Tryd.prog 19 TT M_slices_Index_string_string (O_slices_Index_string_string n) (L_slices_Index_string_string_s0 n) dorcNil 0 (lbody 1000 C_slices_Index_string_string 0) T_slices_Index_string_string_s0 X_slices_Index_string_string_s0 R_slices_Index_string_string_s0 ⟨[], [], []⟩ rec kx kr s = slices_Index_string_string_s0 n rec kx kr s := by kernel_rfl
noncomputable def L_slices_Index_string_string {ρ : Type} (n : Nat) : LOrc ρ := lorcCons 0 (loopL 19 0 n T_slices_Index_string_string_s0 X_slices_Index_string_string_s0 R_slices_Index_string_string_s0 ⟨[], [], []⟩ (slices_Index_string_string_s0 n)) (lorcNil)
omit [Tabs] [QuietD Tryd.prog] [UDef] [UTabs] in
theorem e_slices_Index_string_string (n : Nat) (x) : evF Tryd.prog 19 TT M_slices_Index_string_string F_slices_Index_string_string (O_slices_Index_string_string n) (L_slices_Index_string_string n) dorcNil ⟨[], [], []⟩ [.tmp 4] C_slices_Index_string_string x = slices_Index_string_string n x := by kernel_rfl
omit [UDef] [UTabs] in
theorem ok_slices_Index_string_string (n : Nat) : Contract Tryd.prog 48 F_slices_Index_string_string (slices_Index_string_string n) :=
  Contract.of_ev (c := C_slices_Index_string_string) (N := 19) Tryd.func48 (by kernel_rfl) (by kernel_rfl) (by kernel_rfl) (by kernel_rfl) (O_slices_Index_string_string_ok n) dorcNil_ok (.of (l := [(0, (lbody 1000 C_slices_Index_string_string 0))]) (by kernel_rfl) ⟨.head (loopL_sound (O_slices_Index_string_string_ok n) dorcNil_ok (.of (l := []) (by kernel_rfl) trivial) (s_slices_Index_string_string_s0 n)), trivial⟩) (e_slices_Index_string_string n)

noncomputable def C_slices_Contains_string_string : Code := bodyOf Tryd.f36
noncomputable def M_slices_Contains_string_string : List (Nat × ArgM) := [(48, ⟨[], [], [], true⟩)]
instance : DfOk M_slices_Contains_string_string := .none rfl
noncomputable def O_slices_Contains_string_string {ρ : Type} (n : Nat) : Orc ρ := orcCons 48 F_slices_Index_string_string (slices_Index_string_string n) (orcNil)
omit [UDef] [UTabs] in
theorem O_slices_Contains_string_string_ok {ρ : Type} (n : Nat) : (O_slices_Contains_string_string n : Orc ρ).ok Tryd.prog := orcCons_ok (by kernel_rfl) (ok_slices_Index_string_string n) (orcNil_ok)
noncomputable def L_slices_Contains_string_string {ρ : Type} (n : Nat) : LOrc ρ := lorcNil
omit [Tabs] [QuietD Tryd.prog] [UDef] [UTabs] in
theorem e_slices_Contains_string_string (n : Nat) (x) : evF Tryd.prog 9 TT M_slices_Contains_string_string F_slices_Contains_string_string (O_slices_Contains_string_string n) (L_slices_Contains_string_string n) dorcNil ⟨[], [], []⟩ [.tmp 4] C_slices_Contains_string_string x = slices_Contains_string_string n x := by kernel_rfl
omit [UDef] [UTabs] in
theorem ok_slices_Contains_string_string (n : Nat) : Contract Tryd.prog 36 F_slices_Contains_string_string (slices_Contains_string_string n) :=
  Contract.of_ev (c := C_slices_Contains_string_string) (N := 9) Tryd.func36 (by kernel_rfl) (by kernel_rfl) (by kernel_rfl) (by kernel_rfl) (O_slices_Contains_string_string_ok n) dorcNil_ok (.of (l := []) (by kernel_rfl) trivial) (e_slices_Contains_string_string n)

noncomputable def C_term_Reserved : Code := bodyOf Tryd.f20
noncomputable def M_term_Reserved : List (Nat × ArgM) := [(36, ⟨[], [], [], true⟩)]
instance : DfOk M_term_Reserved := .none rfl
noncomputable def O_term_Reserved {ρ : Type} (n : Nat) : Orc ρ := orcCons 36 F_slices_Contains_string_string (slices_Contains_string_string n) (orcNil)
omit [UDef] [UTabs] in
theorem O_term_Reserved_ok {ρ : Type} (n : Nat) : (O_term_Reserved n : Orc ρ).ok Tryd.prog := orcCons_ok (by kernel_rfl) (ok_slices_Contains_string_string n) (orcNil_ok)
noncomputable def L_term_Reserved {ρ : Type} (n : Nat) : LOrc ρ := lorcNil
omit [Tabs] [QuietD Tryd.prog] [UDef] [UTabs] in
theorem e_term_Reserved (n : Nat) (x) : evF Tryd.prog 6 TT M_term_Reserved F_term_Reserved (O_term_Reserved n) (L_term_Reserved n) dorcNil ⟨[], [], []⟩ [.tmp 2] C_term_Reserved x = term_Reserved n x := by kernel_rfl
omit [UDef] [UTabs] in
theorem ok_term_Reserved (n : Nat) : Contract Tryd.prog 20 F_term_Reserved (term_Reserved n) :=
  Contract.of_ev (c := C_term_Reserved) (N := 6) Tryd.func20 (by kernel_rfl) (by kernel_rfl) (by kernel_rfl) (by kernel_rfl) (O_term_Reserved_ok n) dorcNil_ok (.of (l := []) (by kernel_rfl) trivial) (e_term_Reserved n)

noncomputable def C_term_Name : Code := bodyOf Tryd.f21
noncomputable def M_term_Name : List (Nat × ArgM) := [(26, ⟨[], [], [], true⟩), (20, ⟨[], [], [], true⟩)]
instance : DfOk M_term_Name := .none rfl
noncomputable def O_term_Name {ρ : Type} (n : Nat) : Orc ρ := orcCons 26 F_graph_Name (graph_Name n) (orcCons 20 F_term_Reserved (term_Reserved n) (orcNil))
omit [UDef] [UTabs] in
theorem O_term_Name_ok {ρ : Type} (n : Nat) : (O_term_Name n : Orc ρ).ok Tryd.prog := orcCons_ok (by kernel_rfl) (ok_graph_Name n) (orcCons_ok (by kernel_rfl) (ok_term_Reserved n) (orcNil_ok))
noncomputable def L_term_Name {ρ : Type} (n : Nat) : LOrc ρ := lorcNil
omit [Tabs] [QuietD Tryd.prog] [UDef] [UTabs] in
theorem e_term_Name (n : Nat) (x) : evF Tryd.prog 10 TT M_term_Name F_term_Name (O_term_Name n) (L_term_Name n) dorcNil ⟨[], [], []⟩ [.tmp 2] C_term_Name x = term_Name n x := by kernel_rfl
omit [UDef] [UTabs] in
theorem ok_term_Name (n : Nat) : Contract Tryd.prog 21 F_term_Name (term_Name n) :=
  Contract.of_ev (c := C_term_Name) (N := 10) Tryd.func21 (by kernel_rfl) (by kernel_rfl) (by kernel_rfl) (by kernel_rfl) (O_term_Name_ok n) dorcNil_ok (.of (l := []) (by kernel_rfl) trivial) (e_term_Name n)

noncomputable def F_term_arity : FnT := ⟨1, ⟨[], [(0, .str)], []⟩, [.v .i64, .v .bool], []⟩
noncomputable def C_term_arity : Code := bodyOf Tryd.f40
noncomputable def M_term_arity : List (Nat × ArgM) := []
instance : DfOk M_term_arity := .none rfl
noncomputable def O_term_arity {ρ : Type} : Orc ρ := orcNil
omit [QuietD Tryd.prog] [UDef] [UTabs] in
theorem O_term_arity_ok {ρ : Type} : (O_term_arity : Orc ρ).ok Tryd.prog := orcNil_ok
noncomputable def L_term_arity {ρ : Type} : LOrc ρ := lorcNil
omit [Tabs] [QuietD Tryd.prog] [UDef] [UTabs] in
theorem e_term_arity (x) : evF Tryd.prog 25 TT M_term_arity F_term_arity (O_term_arity) (L_term_arity) dorcNil ⟨[], [], []⟩ [.tmp 2, .tmp 3] C_term_arity x = term_arity x := by kernel_rfl
omit [UDef] [UTabs] in
theorem ok_term_arity : Contract Tryd.prog 40 F_term_arity (term_arity) :=
  Contract.of_ev (c := C_term_arity) (N := 25) Tryd.func40 (by kernel_rfl) (by kernel_rfl) (by kernel_rfl) (by kernel_rfl) (O_term_arity_ok) dorcNil_ok (.of (l := []) (by kernel_rfl) trivial) (e_term_arity)

noncomputable def C_term_check : Code := bodyOf Tryd.f32
noncomputable def M_term_check : List (Nat × ArgM) := [(38, ⟨[], [], [], true⟩), (21, ⟨[], [], [], true⟩), (26, ⟨[], [], [], true⟩), (32, ⟨[], [], [], true⟩), (40, ⟨[], [], [], true⟩)]
instance : DfOk M_term_check := .none rfl
noncomputable def O_term_check {ρ : Type} (self_term_check : Ev.Term × (List (ByteArray × Bool)) × Int × Unit → Option (Int × Unit)) (n : Nat) : Orc ρ := orcCons 38 F_value_Check (value_Check n) (orcCons 21 F_term_Name (term_Name n) (orcCons 26 F_graph_Name (graph_Name n) (orcCons 32 F_term_check (self_term_check) (orcCons 40 F_term_arity (term_arity) (orcNil)))))
omit [UDef] in
theorem O_term_check_ok {ρ : Type} (self_term_check : Ev.Term × (List (ByteArray × Bool)) × Int × Unit → Option (Int × Unit)) (h_term_check : Contract Tryd.prog 32 F_term_check self_term_check) (n : Nat) : (O_term_check self_term_check n : Orc ρ).ok Tryd.prog := orcCons_ok (by kernel_rfl) (ok_value_Check n) (orcCons_ok (by kernel_rfl) (ok_term_Name n) (orcCons_ok (by kernel_rfl) (ok_graph_Name n) (orcCons_ok (by kernel_rfl) (h_term_check) (orcCons_ok (by kernel_rfl) (ok_term_arity) (orcNil_ok)))))
noncomputable def T_term_check_s1 : Tm := ⟨[(3, .ptr 3 0)], [(1, (.map .str .bool)), (2, .i64), (147, (.lst .term)), (148, .i64), (149, .i64)], [(3, .box [.d .term])]⟩
noncomputable def X_term_check_s1 : Tm := ⟨[(3, .ptr 3 0)], [(1, (.map .str .bool))], [(3, .box [.d .term])]⟩
noncomputable def R_term_check_s1 : Tm := ⟨[], [(6, .i64)], []⟩
noncomputable def L_term_check_s1 {ρ : Type} (self_term_check : Ev.Term × (List (ByteArray × Bool)) × Int × Unit → Option (Int × Unit)) (n : Nat) : LOrc ρ := lorcNil
omit [Tabs] [QuietD Tryd.prog] [UDef] [UTabs] in
theorem s_term_check_s1 {ρ : Type} (self_term_check : Ev.Term × (List (ByteArray × Bool)) × Int × Unit → Option (Int × Unit)) (n : Nat) (rec : T_term_check_s1.den → Option ρ) kx kr s : dStep Tryd.prog 196 TT M_term_check (O_term_check self_term_check n) (L_term_check_s1 self_term_check n) dorcNil 1 (lbody 1000 C_term_check 0) T_term_check_s1 X_term_check_s1 R_term_check_s1 ⟨[], [], []⟩ rec kx kr s = term_check_s1 self_term_check n rec kx kr s := by kernel_rfl
noncomputable def L_term_check {ρ : Type} (self_term_check : Ev.Term × (List (ByteArray × Bool)) × Int × Unit → Option (Int × Unit)) (n : Nat) : LOrc ρ := lorcCons 1 (loopL 196 1 n T_term_check_s1 X_term_check_s1 R_term_check_s1 ⟨[], [], []⟩ (term_check_s1 self_term_check n)) (lorcNil)
omit [Tabs] [QuietD Tryd.prog] [UDef] [UTabs] in
theorem e_term_check (self_term_check : Ev.Term × (List (ByteArray × Bool)) × Int × Unit → Option (Int × Unit)) (n : Nat) (x) : evF Tryd.prog 196 TT M_term_check F_term_check (O_term_check self_term_check n) (L_term_check self_term_check n) dorcNil ⟨[], [], []⟩ [.tmp 6] C_term_check x = term_check_b self_term_check n x := by kernel_rfl
omit [UDef] in
theorem okb_term_check (self_term_check : Ev.Term × (List (ByteArray × Bool)) × Int × Unit → Option (Int × Unit)) (h_term_check : Contract Tryd.prog 32 F_term_check self_term_check) (n : Nat) : Contract Tryd.prog 32 F_term_check (term_check_b self_term_check n) :=
  Contract.of_ev (c := C_term_check) (N := 196) Tryd.func32 (by kernel_rfl) (by kernel_rfl) (by kernel_rfl) (by kernel_rfl) (O_term_check_ok self_term_check h_term_check n) dorcNil_ok (.of (l := [(1, (lbody 1000 C_term_check 0))]) (by kernel_rfl) ⟨.head (loopL_sound (O_term_check_ok self_term_check h_term_check n) dorcNil_ok (.of (l := []) (by kernel_rfl) trivial) (s_term_check_s1 self_term_check n)), trivial⟩) (e_term_check self_term_check n)
omit [UDef] in
theorem ok_term_check : ∀ n, Contract Tryd.prog 32 F_term_check (term_check n)
  | 0 => fun _ _ h => by cases h
  | n + 1 => okb_term_check _ (ok_term_check n) n

noncomputable def C_term_Check : Code := bodyOf Tryd.f15
noncomputable def M_term_Check : List (Nat × ArgM) := [(32, ⟨[], [], [], true⟩)]
instance : DfOk M_term_Check := .none rfl
noncomputable def O_term_Check {ρ : Type} (n : Nat) : Orc ρ := orcCons 32 F_term_check (term_check n) (orcNil)
omit [UDef] in
theorem O_term_Check_ok {ρ : Type} (n : Nat) : (O_term_Check n : Orc ρ).ok Tryd.prog := orcCons_ok (by kernel_rfl) (ok_term_check n) (orcNil_ok)
noncomputable def L_term_Check {ρ : Type} (n : Nat) : LOrc ρ := lorcNil
omit [Tabs] [QuietD Tryd.prog] [UDef] [UTabs] in
theorem e_term_Check (n : Nat) (x) : evF Tryd.prog 8 TT M_term_Check F_term_Check (O_term_Check n) (L_term_Check n) dorcNil ⟨[], [], []⟩ [.tmp 4] C_term_Check x = term_Check n x := by kernel_rfl
omit [UDef] in
theorem ok_term_Check (n : Nat) : Contract Tryd.prog 15 F_term_Check (term_Check n) :=
  Contract.of_ev (c := C_term_Check) (N := 8) Tryd.func15 (by kernel_rfl) (by kernel_rfl) (by kernel_rfl) (by kernel_rfl) (O_term_Check_ok n) dorcNil_ok (.of (l := []) (by kernel_rfl) trivial) (e_term_Check n)

noncomputable def F_term_Env_Value : FnT := ⟨2, ⟨[], [(0, .envr), (1, .term)], []⟩, [.v .val], []⟩
noncomputable def F_value_Copy : FnT := ⟨1, ⟨[], [(0, .val)], []⟩, [.v .val], []⟩
noncomputable def C_value_Copy : Code := bodyOf Tryd.f33
noncomputable def M_value_Copy : List (Nat × ArgM) := []
instance : DfOk M_value_Copy := .none rfl
noncomputable def O_value_Copy {ρ : Type} (self_value_Copy : Ev.Val × Unit → Option (Ev.Val × Unit)) (n : Nat) : Orc ρ := orcCons 33 F_value_Copy (self_value_Copy) (orcNil)
omit [QuietD Tryd.prog] [UDef] [UTabs] in
theorem O_value_Copy_ok {ρ : Type} (self_value_Copy : Ev.Val × Unit → Option (Ev.Val × Unit)) (h_value_Copy : Contract Tryd.prog 33 F_value_Copy self_value_Copy) (n : Nat) : (O_value_Copy self_value_Copy n : Orc ρ).ok Tryd.prog := orcCons_ok (by kernel_rfl) (h_value_Copy) (orcNil_ok)
noncomputable def T_value_Copy_s0 : Tm := ⟨[(1, .ptr 1 0), (2, .ptr 2 0)], [(9, (.lst .val)), (10, .i64), (11, .i64)], [(1, .box [.d .i64, .d .i64, .d .str, .ref (.own 300043)]), (2, .box [.d .val]), (300043, .arr 30 .val)]⟩
noncomputable def X_value_Copy_s0 : Tm := ⟨[(1, .ptr 1 0), (2, .ptr 2 0)], [], [(1, .box [.d .i64, .d .i64, .d .str, .ref (.own 300043)]), (2, .box [.d .val]), (300043, .arr 30 .val)]⟩
noncomputable def R_value_Copy_s0 : Tm := ⟨[], [], []⟩
noncomputable def L_value_Copy_s0 {ρ : Type} (self_value_Copy : Ev.Val × Unit → Option (Ev.Val × Unit)) (n : Nat) : LOrc ρ := lorcNil
omit [Tabs] [QuietD Tryd.prog] [UDef] [UTabs] in
theorem s_value_Copy_s0 {ρ : Type} (self_value_Copy : Ev.Val × Unit → Option (Ev.Val × Unit)) (n : Nat) (rec : T_value_Copy_s0.den → Option ρ) kx kr s : dStep Tryd.prog 24 TT M_value_Copy (O_value_Copy self_value_Copy n) (L_value_Copy_s0 self_value_Copy n) (evDraw Tryd.prog 24 TT M_value_Copy (O_value_Copy self_value_Copy n)) 0 (lbody 1000 C_value_Copy 0) T_value_Copy_s0 X_value_Copy_s0 R_value_Copy_s0 ⟨[], [], [(1, 3, 300043, 30, 4)]⟩ rec kx kr s = value_Copy_s0 self_value_Copy n rec kx kr s := by kernel_rfl
noncomputable def L_value_Copy {ρ : Type} (self_value_Copy : Ev.Val × Unit → Option (Ev.Val × Unit)) (n : Nat) : LOrc ρ := lorcCons 0 (loopL 24 0 n T_value_Copy_s0 X_value_Copy_s0 R_value_Copy_s0 ⟨[], [], [(1, 3, 300043, 30, 4)]⟩ (value_Copy_s0 self_value_Copy n)) (lorcNil)
omit [Tabs] [QuietD Tryd.prog] [UDef] [UTabs] in
theorem e_value_Copy (self_value_Copy : Ev.Val × Unit → Option (Ev.Val × Unit)) (n : Nat) (x) : evF Tryd.prog 24 TT M_value_Copy F_value_Copy (O_value_Copy self_value_Copy n) (L_value_Copy self_value_Copy n) (evDraw Tryd.prog 24 TT M_value_Copy (O_value_Copy self_value_Copy n)) ⟨[], [], []⟩ [.cell 2 30] C_value_Copy x = value_Copy_b self_value_Copy n x := by kernel_rfl
omit [UDef] [UTabs] in
theorem okb_value_Copy (self_value_Copy : Ev.Val × Unit → Option (Ev.Val × Unit)) (h_value_Copy : Contract Tryd.prog 33 F_value_Copy self_value_Copy) (n : Nat) : Contract Tryd.prog 33 F_value_Copy (value_Copy_b self_value_Copy n) :=
  Contract.of_ev (c := C_value_Copy) (N := 24) Tryd.func33 (by kernel_rfl) (by kernel_rfl) (by kernel_rfl) (by kernel_rfl) (O_value_Copy_ok self_value_Copy h_value_Copy n) (evDraw_ok (O_value_Copy_ok self_value_Copy h_value_Copy n) (by kernel_rfl)) (.of (l := [(0, (lbody 1000 C_value_Copy 0))]) (by kernel_rfl) ⟨.head (loopL_sound (O_value_Copy_ok self_value_Copy h_value_Copy n) (evDraw_ok (O_value_Copy_ok self_value_Copy h_value_Copy n) (by kernel_rfl)) (.of (l := []) (by kernel_rfl) trivial) (s_value_Copy_s0 self_value_Copy n)), trivial⟩) (e_value_Copy self_value_Copy n)
omit [UDef] [UTabs] in
theorem ok_value_Copy : ∀ n, Contract Tryd.prog 33 F_value_Copy (value_Copy n)
  | 0 => fun _ _ h => by cases h
  | n + 1 => okb_value_Copy _ (ok_value_Copy n) n

noncomputable def F_term_Env_field : FnT := ⟨3, ⟨[], [(0, .envr), (1, .i64), (2, .str)], []⟩, [.v .val], []⟩
noncomputable def F_graph_Get : FnT := ⟨2, ⟨[], [(0, (.lst .prp)), (1, .str)], []⟩, [.v .val], []⟩
noncomputable def C_graph_Get : Code := bodyOf Tryd.f41
noncomputable def M_graph_Get : List (Nat × ArgM) := []
instance : DfOk M_graph_Get := .none rfl
noncomputable def O_graph_Get {ρ : Type} (n : Nat) : Orc ρ := orcCons 33 F_value_Copy (value_Copy n) (orcNil)
omit [UDef] [UTabs] in
theorem O_graph_Get_ok {ρ : Type} (n : Nat) : (O_graph_Get n : Orc ρ).ok Tryd.prog := orcCons_ok (by kernel_rfl) (ok_value_Copy n) (orcNil_ok)
noncomputable def T_graph_Get_s0 : Tm := ⟨[(4, .ptr 4 0)], [(1, .str), (7, (.lst .prp)), (8, .i64), (9, .i64)], [(4, .box [.d .val])]⟩
noncomputable def X_graph_Get_s0 : Tm := ⟨[(4, .ptr 4 0)], [], [(4, .box [.d .val])]⟩
noncomputable def R_graph_Get_s0 : Tm := ⟨[(4, .ptr 4 0)], [], [(4, .box [.d .val])]⟩
noncomputable def L_graph_Get_s0 {ρ : Type} (n : Nat) : LOrc ρ := lorcNil
omit [Tabs] [QuietD Tryd.prog] [UDef] [UTabs] in
theorem s_graph_Get_s0 {ρ : Type} (n : Nat) (rec : T_graph_Get_s0.den → Option ρ) kx kr s : dStep Tryd.prog 22 TT M_graph_Get (O_graph_Get n) (L_graph_Get_s0 n) dorcNil 0 (lbody 1000 C_graph_Get 0) T_graph_Get_s0 X_graph_Get_s0 R_graph_Get_s0 ⟨[], [], []⟩ rec kx kr s = graph_Get_s0 n rec kx kr s := by kernel_rfl
noncomputable def L_graph_Get {ρ : Type} (n : Nat) : LOrc ρ := lorcCons 0 (loopL 22 0 n T_graph_Get_s0 X_graph_Get_s0 R_graph_Get_s0 ⟨[], [], []⟩ (graph_Get_s0 n)) (lorcNil)
omit [Tabs] [QuietD Tryd.prog] [UDef] [UTabs] in
theorem e_graph_Get (n : Nat) (x) : evF Tryd.prog 22 TT M_graph_Get F_graph_Get (O_graph_Get n) (L_graph_Get n) dorcNil ⟨[], [], []⟩ [.cell 4 30] C_graph_Get x = graph_Get n x := by kernel_rfl
omit [UDef] [UTabs] in
theorem ok_graph_Get (n : Nat) : Contract Tryd.prog 41 F_graph_Get (graph_Get n) :=
  Contract.of_ev (c := C_graph_Get) (N := 22) Tryd.func41 (by kernel_rfl) (by kernel_rfl) (by kernel_rfl) (by kernel_rfl) (O_graph_Get_ok n) dorcNil_ok (.of (l := [(0, (lbody 1000 C_graph_Get 0))]) (by kernel_rfl) ⟨.head (loopL_sound (O_graph_Get_ok n) dorcNil_ok (.of (l := []) (by kernel_rfl) trivial) (s_graph_Get_s0 n)), trivial⟩) (e_graph_Get n)

noncomputable def C_term_Env_field : Code := bodyOf Tryd.f34
noncomputable def M_term_Env_field : List (Nat × ArgM) := [(13, ⟨[], [], [], true⟩), (14, ⟨[], [], [], true⟩)]
instance : DfOk M_term_Env_field := .none rfl
noncomputable def O_term_Env_field {ρ : Type} (n : Nat) : Orc ρ := orcCons 13 F_graph_Find (graph_Find n) (orcCons 41 F_graph_Get (graph_Get n) (orcCons 14 F_graph_FindEdge (graph_FindEdge n) (orcNil)))
omit [UDef] [UTabs] in
theorem O_term_Env_field_ok {ρ : Type} (n : Nat) : (O_term_Env_field n : Orc ρ).ok Tryd.prog := orcCons_ok (by kernel_rfl) (ok_graph_Find n) (orcCons_ok (by kernel_rfl) (ok_graph_Get n) (orcCons_ok (by kernel_rfl) (ok_graph_FindEdge n) (orcNil_ok)))
noncomputable def L_term_Env_field {ρ : Type} (n : Nat) : LOrc ρ := lorcNil
omit [Tabs] [QuietD Tryd.prog] [UDef] [UTabs] in
theorem e_term_Env_field (n : Nat) (x) : evF Tryd.prog 40 TT M_term_Env_field F_term_Env_field (O_term_Env_field n) (L_term_Env_field n) dorcNil ⟨[], [], []⟩ [.cell 6 30] C_term_Env_field x = term_Env_field n x := by kernel_rfl
omit [UDef] [UTabs] in
theorem ok_term_Env_field (n : Nat) : Contract Tryd.prog 34 F_term_Env_field (term_Env_field n) :=
  Contract.of_ev (c := C_term_Env_field) (N := 40) Tryd.func34 (by kernel_rfl) (by kernel_rfl) (by kernel_rfl) (by kernel_rfl) (O_term_Env_field_ok n) dorcNil_ok (.of (l := []) (by kernel_rfl) trivial) (e_term_Env_field n)

noncomputable def F_term_Env_call : FnT := ⟨3, ⟨[], [(0, .envr), (1, .term), (2, (.lst .val))], []⟩, [.v .val], []⟩
noncomputable def F_value_Reckon : FnT := ⟨3, ⟨[], [(0, .str), (1, .val), (2, .val)], []⟩, [.v .val, .v .i64], []⟩
noncomputable def F_value_add : FnT := ⟨2, ⟨[], [(0, .i64), (1, .i64)], []⟩, [.v .i64, .v .bool], []⟩
noncomputable def C_value_add : Code := bodyOf Tryd.f51
noncomputable def M_value_add : List (Nat × ArgM) := []
instance : DfOk M_value_add := .none rfl
noncomputable def O_value_add {ρ : Type} : Orc ρ := orcNil
omit [QuietD Tryd.prog] [UDef] [UTabs] in
theorem O_value_add_ok {ρ : Type} : (O_value_add : Orc ρ).ok Tryd.prog := orcNil_ok
noncomputable def L_value_add {ρ : Type} : LOrc ρ := lorcNil
omit [Tabs] [QuietD Tryd.prog] [UDef] [UTabs] in
theorem e_value_add (x) : evF Tryd.prog 17 TT M_value_add F_value_add (O_value_add) (L_value_add) dorcNil ⟨[], [], []⟩ [.tmp 4, .tmp 5] C_value_add x = value_add x := by kernel_rfl
omit [UDef] [UTabs] in
theorem ok_value_add : Contract Tryd.prog 51 F_value_add (value_add) :=
  Contract.of_ev (c := C_value_add) (N := 17) Tryd.func51 (by kernel_rfl) (by kernel_rfl) (by kernel_rfl) (by kernel_rfl) (O_value_add_ok) dorcNil_ok (.of (l := []) (by kernel_rfl) trivial) (e_value_add)

noncomputable def F_value_Copy_own : FnT := ⟨1, ⟨[], [(0, .val)], []⟩, [.mix [.d .i64, .d .i64, .d .str, .ref (.own 300043)]], [(300043, .arr 30 .val)]⟩
noncomputable def C_value_Copy_own : Code := bodyOf Tryd.f33
noncomputable def M_value_Copy_own : List (Nat × ArgM) := []
instance : DfOk M_value_Copy_own := .none rfl
noncomputable def O_value_Copy_own {ρ : Type} (n : Nat) : Orc ρ := orcCons 33 F_value_Copy (value_Copy n) (orcNil)
omit [UDef] [UTabs] in
theorem O_value_Copy_own_ok {ρ : Type} (n : Nat) : (O_value_Copy_own n : Orc ρ).ok Tryd.prog := orcCons_ok (by kernel_rfl) (ok_value_Copy n) (orcNil_ok)
noncomputable def T_value_Copy_own_s0 : Tm := ⟨[(1, .ptr 1 0), (2, .ptr 2 0)], [(9, (.lst .val)), (10, .i64), (11, .i64)], [(1, .box [.d .i64, .d .i64, .d .str, .ref (.own 300043)]), (2, .box [.d .val]), (300043, .arr 30 .val)]⟩
noncomputable def X_value_Copy_own_s0 : Tm := ⟨[(1, .ptr 1 0), (2, .ptr 2 0)], [], [(1, .box [.d .i64, .d .i64, .d .str, .ref (.own 300043)]), (2, .box [.d .val]), (300043, .arr 30 .val)]⟩
noncomputable def R_value_Copy_own_s0 : Tm := ⟨[], [], []⟩
noncomputable def L_value_Copy_own_s0 {ρ : Type} (n : Nat) : LOrc ρ := lorcNil
omit [Tabs] [QuietD Tryd.prog] [UDef] [UTabs] in
theorem s_value_Copy_own_s0 {ρ : Type} (n : Nat) (rec : T_value_Copy_own_s0.den → Option ρ) kx kr s : dStep Tryd.prog 24 TT M_value_Copy_own (O_value_Copy_own n) (L_value_Copy_own_s0 n) (evDraw Tryd.prog 24 TT M_value_Copy_own (O_value_Copy_own n)) 0 (lbody 1000 C_value_Copy_own 0) T_value_Copy_own_s0 X_value_Copy_own_s0 R_value_Copy_own_s0 ⟨[], [], [(1, 3, 300043, 30, 4)]⟩ rec kx kr s = value_Copy_own_s0 n rec kx kr s := by kernel_rfl
noncomputable def L_value_Copy_own {ρ : Type} (n : Nat) : LOrc ρ := lorcCons 0 (loopL 24 0 n T_value_Copy_own_s0 X_value_Copy_own_s0 R_value_Copy_own_s0 ⟨[], [], [(1, 3, 300043, 30, 4)]⟩ (value_Copy_own_s0 n)) (lorcNil)
omit [Tabs] [QuietD Tryd.prog] [UDef] [UTabs] in
theorem e_value_Copy_own (n : Nat) (x) : evF Tryd.prog 24 TT M_value_Copy_own F_value_Copy_own (O_value_Copy_own n) (L_value_Copy_own n) (evDraw Tryd.prog 24 TT M_value_Copy_own (O_value_Copy_own n)) ⟨[], [], []⟩ [.cell 2 30] C_value_Copy_own x = value_Copy_own n x := by kernel_rfl
omit [UDef] [UTabs] in
theorem ok_value_Copy_own (n : Nat) : Contract Tryd.prog 33 F_value_Copy_own (value_Copy_own n) :=
  Contract.of_ev (c := C_value_Copy_own) (N := 24) Tryd.func33 (by kernel_rfl) (by kernel_rfl) (by kernel_rfl) (by kernel_rfl) (O_value_Copy_own_ok n) (evDraw_ok (O_value_Copy_own_ok n) (by kernel_rfl)) (.of (l := [(0, (lbody 1000 C_value_Copy_own 0))]) (by kernel_rfl) ⟨.head (loopL_sound (O_value_Copy_own_ok n) (evDraw_ok (O_value_Copy_own_ok n) (by kernel_rfl)) (.of (l := []) (by kernel_rfl) trivial) (s_value_Copy_own_s0 n)), trivial⟩) (e_value_Copy_own n)

noncomputable def F_value_sub : FnT := ⟨2, ⟨[], [(0, .i64), (1, .i64)], []⟩, [.v .i64, .v .bool], []⟩
noncomputable def C_value_sub : Code := bodyOf Tryd.f52
noncomputable def M_value_sub : List (Nat × ArgM) := []
instance : DfOk M_value_sub := .none rfl
noncomputable def O_value_sub {ρ : Type} : Orc ρ := orcNil
omit [QuietD Tryd.prog] [UDef] [UTabs] in
theorem O_value_sub_ok {ρ : Type} : (O_value_sub : Orc ρ).ok Tryd.prog := orcNil_ok
noncomputable def L_value_sub {ρ : Type} : LOrc ρ := lorcNil
omit [Tabs] [QuietD Tryd.prog] [UDef] [UTabs] in
theorem e_value_sub (x) : evF Tryd.prog 17 TT M_value_sub F_value_sub (O_value_sub) (L_value_sub) dorcNil ⟨[], [], []⟩ [.tmp 4, .tmp 5] C_value_sub x = value_sub x := by kernel_rfl
omit [UDef] [UTabs] in
theorem ok_value_sub : Contract Tryd.prog 52 F_value_sub (value_sub) :=
  Contract.of_ev (c := C_value_sub) (N := 17) Tryd.func52 (by kernel_rfl) (by kernel_rfl) (by kernel_rfl) (by kernel_rfl) (O_value_sub_ok) dorcNil_ok (.of (l := []) (by kernel_rfl) trivial) (e_value_sub)

noncomputable def F_value_mul : FnT := ⟨2, ⟨[], [(0, .i64), (1, .i64)], []⟩, [.v .i64, .v .bool], []⟩
noncomputable def F_value_mul_1 : FnT := ⟨1, ⟨[], [(0, .i64)], []⟩, [.v .u64], []⟩
noncomputable def C_value_mul_1 : Code := bodyOf Tryd.f58
noncomputable def M_value_mul_1 : List (Nat × ArgM) := []
instance : DfOk M_value_mul_1 := .none rfl
noncomputable def O_value_mul_1 {ρ : Type} : Orc ρ := orcNil
omit [QuietD Tryd.prog] [UDef] [UTabs] in
theorem O_value_mul_1_ok {ρ : Type} : (O_value_mul_1 : Orc ρ).ok Tryd.prog := orcNil_ok
noncomputable def L_value_mul_1 {ρ : Type} : LOrc ρ := lorcNil
omit [Tabs] [QuietD Tryd.prog] [UDef] [UTabs] in
theorem e_value_mul_1 (x) : evF Tryd.prog 10 TT M_value_mul_1 F_value_mul_1 (O_value_mul_1) (L_value_mul_1) dorcNil ⟨[], [], []⟩ [.tmp 2] C_value_mul_1 x = value_mul_1 x := by kernel_rfl
omit [UDef] [UTabs] in
theorem ok_value_mul_1 : Contract Tryd.prog 58 F_value_mul_1 (value_mul_1) :=
  Contract.of_ev (c := C_value_mul_1) (N := 10) Tryd.func58 (by kernel_rfl) (by kernel_rfl) (by kernel_rfl) (by kernel_rfl) (O_value_mul_1_ok) dorcNil_ok (.of (l := []) (by kernel_rfl) trivial) (e_value_mul_1)

noncomputable def F_math_bits_Mul64 : FnT := ⟨2, ⟨[], [(0, .u64), (1, .u64)], []⟩, [.v .u64, .v .u64], []⟩
noncomputable def C_math_bits_Mul64 : Code := bodyOf Tryd.f59
noncomputable def M_math_bits_Mul64 : List (Nat × ArgM) := []
instance : DfOk M_math_bits_Mul64 := .none rfl
noncomputable def O_math_bits_Mul64 {ρ : Type} : Orc ρ := orcNil
omit [QuietD Tryd.prog] [UDef] [UTabs] in
theorem O_math_bits_Mul64_ok {ρ : Type} : (O_math_bits_Mul64 : Orc ρ).ok Tryd.prog := orcNil_ok
noncomputable def L_math_bits_Mul64 {ρ : Type} : LOrc ρ := lorcNil
omit [Tabs] [QuietD Tryd.prog] [UDef] [UTabs] in
theorem e_math_bits_Mul64 (x) : evF Tryd.prog 51 TT M_math_bits_Mul64 F_math_bits_Mul64 (O_math_bits_Mul64) (L_math_bits_Mul64) dorcNil ⟨[], [], []⟩ [.tmp 4, .tmp 5] C_math_bits_Mul64 x = math_bits_Mul64 x := by kernel_rfl
omit [UDef] [UTabs] in
theorem ok_math_bits_Mul64 : Contract Tryd.prog 59 F_math_bits_Mul64 (math_bits_Mul64) :=
  Contract.of_ev (c := C_math_bits_Mul64) (N := 51) Tryd.func59 (by kernel_rfl) (by kernel_rfl) (by kernel_rfl) (by kernel_rfl) (O_math_bits_Mul64_ok) dorcNil_ok (.of (l := []) (by kernel_rfl) trivial) (e_math_bits_Mul64)

noncomputable def C_value_mul : Code := bodyOf Tryd.f53
noncomputable def M_value_mul : List (Nat × ArgM) := [(58, ⟨[], [], [], true⟩), (59, ⟨[], [], [], true⟩)]
instance : DfOk M_value_mul := .none rfl
noncomputable def O_value_mul {ρ : Type} : Orc ρ := orcCons 58 F_value_mul_1 (value_mul_1) (orcCons 59 F_math_bits_Mul64 (math_bits_Mul64) (orcNil))
omit [UDef] [UTabs] in
theorem O_value_mul_ok {ρ : Type} : (O_value_mul : Orc ρ).ok Tryd.prog := orcCons_ok (by kernel_rfl) (ok_value_mul_1) (orcCons_ok (by kernel_rfl) (ok_math_bits_Mul64) (orcNil_ok))
noncomputable def L_value_mul {ρ : Type} : LOrc ρ := lorcNil
omit [Tabs] [QuietD Tryd.prog] [UDef] [UTabs] in
theorem e_value_mul (x) : evF Tryd.prog 45 TT M_value_mul F_value_mul (O_value_mul) (L_value_mul) dorcNil ⟨[], [], []⟩ [.tmp 4, .tmp 5] C_value_mul x = value_mul x := by kernel_rfl
omit [UDef] [UTabs] in
theorem ok_value_mul : Contract Tryd.prog 53 F_value_mul (value_mul) :=
  Contract.of_ev (c := C_value_mul) (N := 45) Tryd.func53 (by kernel_rfl) (by kernel_rfl) (by kernel_rfl) (by kernel_rfl) (O_value_mul_ok) dorcNil_ok (.of (l := []) (by kernel_rfl) trivial) (e_value_mul)

noncomputable def C_value_Reckon : Code := bodyOf Tryd.f42
noncomputable def M_value_Reckon : List (Nat × ArgM) := [(1500000033, ⟨[4, 3], [], [], false⟩), (999999999, ⟨[1], [], [], false⟩), (51, ⟨[], [], [], true⟩), (33, ⟨[], [], [300043], false⟩), (52, ⟨[], [], [], true⟩), (53, ⟨[], [], [], true⟩)]
instance : DfOk M_value_Reckon := .none rfl
noncomputable def O_value_Reckon {ρ : Type} (n : Nat) : Orc ρ := orcCons 51 F_value_add (value_add) (orcCons 33 F_value_Copy_own (value_Copy_own n) (orcCons 52 F_value_sub (value_sub) (orcCons 53 F_value_mul (value_mul) (orcNil))))
omit [UDef] [UTabs] in
theorem O_value_Reckon_ok {ρ : Type} (n : Nat) : (O_value_Reckon n : Orc ρ).ok Tryd.prog := orcCons_ok (by kernel_rfl) (ok_value_add) (orcCons_ok (by kernel_rfl) (ok_value_Copy_own n) (orcCons_ok (by kernel_rfl) (ok_value_sub) (orcCons_ok (by kernel_rfl) (ok_value_mul) (orcNil_ok))))
noncomputable def L_value_Reckon {ρ : Type} (n : Nat) : LOrc ρ := lorcNil
omit [Tabs] [QuietD Tryd.prog] [UDef] [UTabs] in
theorem e_value_Reckon (n : Nat) (x) : evF Tryd.prog 111 TT M_value_Reckon F_value_Reckon (O_value_Reckon n) (L_value_Reckon n) (evDraw Tryd.prog 111 TT M_value_Reckon (O_value_Reckon n)) ⟨[], [], []⟩ [.cell 6 30, .tmp 7] C_value_Reckon x = value_Reckon n x := by kernel_rfl
omit [UDef] [UTabs] in
theorem ok_value_Reckon (n : Nat) : Contract Tryd.prog 42 F_value_Reckon (value_Reckon n) :=
  Contract.of_ev (c := C_value_Reckon) (N := 111) Tryd.func42 (by kernel_rfl) (by kernel_rfl) (by kernel_rfl) (by kernel_rfl) (O_value_Reckon_ok n) (evDraw_ok (O_value_Reckon_ok n) (by kernel_rfl)) (.of (l := []) (by kernel_rfl) trivial) (e_value_Reckon n)

noncomputable def F_value_Same : FnT := ⟨2, ⟨[], [(0, .val), (1, .val)], []⟩, [.v .val], []⟩
noncomputable def F_value_Order : FnT := ⟨2, ⟨[], [(0, .val), (1, .val)], []⟩, [.v .i64], []⟩
noncomputable def F_cmp_Compare_string : FnT := ⟨2, ⟨[], [(0, .str), (1, .str)], []⟩, [.v .i64], []⟩
noncomputable def F_cmp_isNaN_string : FnT := ⟨1, ⟨[], [(0, .str)], []⟩, [.v .bool], []⟩
noncomputable def C_cmp_isNaN_string : Code := bodyOf Tryd.f64
noncomputable def M_cmp_isNaN_string : List (Nat × ArgM) := []
instance : DfOk M_cmp_isNaN_string := .none rfl
noncomputable def O_cmp_isNaN_string {ρ : Type} : Orc ρ := orcNil
omit [QuietD Tryd.prog] [UDef] [UTabs] in
theorem O_cmp_isNaN_string_ok {ρ : Type} : (O_cmp_isNaN_string : Orc ρ).ok Tryd.prog := orcNil_ok
noncomputable def L_cmp_isNaN_string {ρ : Type} : LOrc ρ := lorcNil
omit [Tabs] [QuietD Tryd.prog] [UDef] [UTabs] in
theorem e_cmp_isNaN_string (x) : evF Tryd.prog 6 TT M_cmp_isNaN_string F_cmp_isNaN_string (O_cmp_isNaN_string) (L_cmp_isNaN_string) dorcNil ⟨[], [], []⟩ [.tmp 2] C_cmp_isNaN_string x = cmp_isNaN_string x := by kernel_rfl
omit [UDef] [UTabs] in
theorem ok_cmp_isNaN_string : Contract Tryd.prog 64 F_cmp_isNaN_string (cmp_isNaN_string) :=
  Contract.of_ev (c := C_cmp_isNaN_string) (N := 6) Tryd.func64 (by kernel_rfl) (by kernel_rfl) (by kernel_rfl) (by kernel_rfl) (O_cmp_isNaN_string_ok) dorcNil_ok (.of (l := []) (by kernel_rfl) trivial) (e_cmp_isNaN_string)

noncomputable def C_cmp_Compare_string : Code := bodyOf Tryd.f61
noncomputable def M_cmp_Compare_string : List (Nat × ArgM) := [(64, ⟨[], [], [], true⟩)]
instance : DfOk M_cmp_Compare_string := .none rfl
noncomputable def O_cmp_Compare_string {ρ : Type} : Orc ρ := orcCons 64 F_cmp_isNaN_string (cmp_isNaN_string) (orcNil)
omit [UDef] [UTabs] in
theorem O_cmp_Compare_string_ok {ρ : Type} : (O_cmp_Compare_string : Orc ρ).ok Tryd.prog := orcCons_ok (by kernel_rfl) (ok_cmp_isNaN_string) (orcNil_ok)
noncomputable def L_cmp_Compare_string {ρ : Type} : LOrc ρ := lorcNil
omit [Tabs] [QuietD Tryd.prog] [UDef] [UTabs] in
theorem e_cmp_Compare_string (x) : evF Tryd.prog 20 TT M_cmp_Compare_string F_cmp_Compare_string (O_cmp_Compare_string) (L_cmp_Compare_string) dorcNil ⟨[], [], []⟩ [.tmp 4] C_cmp_Compare_string x = cmp_Compare_string x := by kernel_rfl
omit [UDef] [UTabs] in
theorem ok_cmp_Compare_string : Contract Tryd.prog 61 F_cmp_Compare_string (cmp_Compare_string) :=
  Contract.of_ev (c := C_cmp_Compare_string) (N := 20) Tryd.func61 (by kernel_rfl) (by kernel_rfl) (by kernel_rfl) (by kernel_rfl) (O_cmp_Compare_string_ok) dorcNil_ok (.of (l := []) (by kernel_rfl) trivial) (e_cmp_Compare_string)

noncomputable def F_slices_CompareFunc_api_Value_api_Value_api_Value_api_Value_value_Order : FnT := ⟨3, ⟨[(2, .fn 55)], [(0, (.lst .val)), (1, (.lst .val))], []⟩, [.v .i64], []⟩
noncomputable def C_slices_CompareFunc_api_Value_api_Value_api_Value_api_Value_value_Order : Code := bodyOf Tryd.f62
noncomputable def M_slices_CompareFunc_api_Value_api_Value_api_Value_api_Value_value_Order : List (Nat × ArgM) := [(55, ⟨[], [], [], true⟩)]
instance : DfOk M_slices_CompareFunc_api_Value_api_Value_api_Value_api_Value_value_Order := .none rfl
noncomputable def O_slices_CompareFunc_api_Value_api_Value_api_Value_api_Value_value_Order {ρ : Type} (self_value_Order : Ev.Val × Ev.Val × Unit → Option (Int × Unit)) (n : Nat) : Orc ρ := orcCons 55 F_value_Order (self_value_Order) (orcNil)
omit [QuietD Tryd.prog] [UDef] [UTabs] in
theorem O_slices_CompareFunc_api_Value_api_Value_api_Value_api_Value_value_Order_ok {ρ : Type} (self_value_Order : Ev.Val × Ev.Val × Unit → Option (Int × Unit)) (h_value_Order : Contract Tryd.prog 55 F_value_Order self_value_Order) (n : Nat) : (O_slices_CompareFunc_api_Value_api_Value_api_Value_api_Value_value_Order self_value_Order n : Orc ρ).ok Tryd.prog := orcCons_ok (by kernel_rfl) (h_value_Order) (orcNil_ok)
noncomputable def T_slices_CompareFunc_api_Value_api_Value_api_Value_api_Value_value_Order_s0 : Tm := ⟨[(2, .fn 55)], [(0, (.lst .val)), (1, (.lst .val)), (11, (.lst .val)), (12, .i64), (13, .i64)], []⟩
noncomputable def X_slices_CompareFunc_api_Value_api_Value_api_Value_api_Value_value_Order_s0 : Tm := ⟨[], [(0, (.lst .val)), (1, (.lst .val))], []⟩
noncomputable def R_slices_CompareFunc_api_Value_api_Value_api_Value_api_Value_value_Order_s0 : Tm := ⟨[], [(6, .i64)], []⟩
noncomputable def L_slices_CompareFunc_api_Value_api_Value_api_Value_api_Value_value_Order_s0 {ρ : Type} (self_value_Order : Ev.Val × Ev.Val × Unit → Option (Int × Unit)) (n : Nat) : LOrc ρ := lorcNil
omit [Tabs] [QuietD Tryd.prog] [UDef] [UTabs] in
theorem s_slices_CompareFunc_api_Value_api_Value_api_Value_api_Value_value_Order_s0 {ρ : Type} (self_value_Order : Ev.Val × Ev.Val × Unit → Option (Int × Unit)) (n : Nat) (rec : T_slices_CompareFunc_api_Value_api_Value_api_Value_api_Value_value_Order_s0.den → Option ρ) kx kr s : dStep Tryd.prog 39 TT M_slices_CompareFunc_api_Value_api_Value_api_Value_api_Value_value_Order (O_slices_CompareFunc_api_Value_api_Value_api_Value_api_Value_value_Order self_value_Order n) (L_slices_CompareFunc_api_Value_api_Value_api_Value_api_Value_value_Order_s0 self_value_Order n) dorcNil 0 (lbody 1000 C_slices_CompareFunc_api_Value_api_Value_api_Value_api_Value_value_Order 0) T_slices_CompareFunc_api_Value_api_Value_api_Value_api_Value_value_Order_s0 X_slices_CompareFunc_api_Value_api_Value_api_Value_api_Value_value_Order_s0 R_slices_CompareFunc_api_Value_api_Value_api_Value_api_Value_value_Order_s0 ⟨[], [], []⟩ rec kx kr s = slices_CompareFunc_api_Value_api_Value_api_Value_api_Value_value_Order_s0 self_value_Order n rec kx kr s := by kernel_rfl
noncomputable def L_slices_CompareFunc_api_Value_api_Value_api_Value_api_Value_value_Order {ρ : Type} (self_value_Order : Ev.Val × Ev.Val × Unit → Option (Int × Unit)) (n : Nat) : LOrc ρ := lorcCons 0 (loopL 39 0 n T_slices_CompareFunc_api_Value_api_Value_api_Value_api_Value_value_Order_s0 X_slices_CompareFunc_api_Value_api_Value_api_Value_api_Value_value_Order_s0 R_slices_CompareFunc_api_Value_api_Value_api_Value_api_Value_value_Order_s0 ⟨[], [], []⟩ (slices_CompareFunc_api_Value_api_Value_api_Value_api_Value_value_Order_s0 self_value_Order n)) (lorcNil)
omit [Tabs] [QuietD Tryd.prog] [UDef] [UTabs] in
theorem e_slices_CompareFunc_api_Value_api_Value_api_Value_api_Value_value_Order (self_value_Order : Ev.Val × Ev.Val × Unit → Option (Int × Unit)) (n : Nat) (x) : evF Tryd.prog 39 TT M_slices_CompareFunc_api_Value_api_Value_api_Value_api_Value_value_Order F_slices_CompareFunc_api_Value_api_Value_api_Value_api_Value_value_Order (O_slices_CompareFunc_api_Value_api_Value_api_Value_api_Value_value_Order self_value_Order n) (L_slices_CompareFunc_api_Value_api_Value_api_Value_api_Value_value_Order self_value_Order n) dorcNil ⟨[], [], []⟩ [.tmp 6] C_slices_CompareFunc_api_Value_api_Value_api_Value_api_Value_value_Order x = slices_CompareFunc_api_Value_api_Value_api_Value_api_Value_value_Order self_value_Order n x := by kernel_rfl
omit [UDef] [UTabs] in
theorem ok_slices_CompareFunc_api_Value_api_Value_api_Value_api_Value_value_Order (self_value_Order : Ev.Val × Ev.Val × Unit → Option (Int × Unit)) (h_value_Order : Contract Tryd.prog 55 F_value_Order self_value_Order) (n : Nat) : Contract Tryd.prog 62 F_slices_CompareFunc_api_Value_api_Value_api_Value_api_Value_value_Order (slices_CompareFunc_api_Value_api_Value_api_Value_api_Value_value_Order self_value_Order n) :=
  Contract.of_ev (c := C_slices_CompareFunc_api_Value_api_Value_api_Value_api_Value_value_Order) (N := 39) Tryd.func62 (by kernel_rfl) (by kernel_rfl) (by kernel_rfl) (by kernel_rfl) (O_slices_CompareFunc_api_Value_api_Value_api_Value_api_Value_value_Order_ok self_value_Order h_value_Order n) dorcNil_ok (.of (l := [(0, (lbody 1000 C_slices_CompareFunc_api_Value_api_Value_api_Value_api_Value_value_Order 0))]) (by kernel_rfl) ⟨.head (loopL_sound (O_slices_CompareFunc_api_Value_api_Value_api_Value_api_Value_value_Order_ok self_value_Order h_value_Order n) dorcNil_ok (.of (l := []) (by kernel_rfl) trivial) (s_slices_CompareFunc_api_Value_api_Value_api_Value_api_Value_value_Order_s0 self_value_Order n)), trivial⟩) (e_slices_CompareFunc_api_Value_api_Value_api_Value_api_Value_value_Order self_value_Order n)

noncomputable def F_cmp_Or_int : FnT := ⟨1, ⟨[], [(0, (.lst .i64))], []⟩, [.v .i64], []⟩
noncomputable def C_cmp_Or_int : Code := bodyOf Tryd.f60
noncomputable def M_cmp_Or_int : List (Nat × ArgM) := []
instance : DfOk M_cmp_Or_int := .none rfl
noncomputable def O_cmp_Or_int {ρ : Type} (n : Nat) : Orc ρ := orcNil
omit [QuietD Tryd.prog] [UDef] [UTabs] in
theorem O_cmp_Or_int_ok {ρ : Type} (n : Nat) : (O_cmp_Or_int n : Orc ρ).ok Tryd.prog := orcNil_ok
noncomputable def T_cmp_Or_int_s0 : Tm := ⟨[], [(3, .i64), (6, (.lst .i64)), (7, .i64), (8, .i64)], []⟩
noncomputable def X_cmp_Or_int_s0 : Tm := ⟨[], [(3, .i64)], []⟩
noncomputable def R_cmp_Or_int_s0 : Tm := ⟨[], [(2, .i64)], []⟩
noncomputable def L_cmp_Or_int_s0 {ρ : Type} (n : Nat) : LOrc ρ := lorcNil
omit [Tabs] [QuietD Tryd.prog] [UDef] [UTabs] in
theorem s_cmp_Or_int_s0 {ρ : Type} (n : Nat) (rec : T_cmp_Or_int_s0.den → Option ρ) kx kr s : dStep Tryd.prog 18 TT M_cmp_Or_int (O_cmp_Or_int n) (L_cmp_Or_int_s0 n) dorcNil 0 (lbody 1000 C_cmp_Or_int 0) T_cmp_Or_int_s0 X_cmp_Or_int_s0 R_cmp_Or_int_s0 ⟨[], [], []⟩ rec kx kr s = cmp_Or_int_s0 n rec kx kr s := by kernel_rfl
noncomputable def L_cmp_Or_int {ρ : Type} (n : Nat) : LOrc ρ := lorcCons 0 (loopL 18 0 n T_cmp_Or_int_s0 X_cmp_Or_int_s0 R_cmp_Or_int_s0 ⟨[], [], []⟩ (cmp_Or_int_s0 n)) (lorcNil)
omit [Tabs] [QuietD Tryd.prog] [UDef] [UTabs] in
theorem e_cmp_Or_int (n : Nat) (x) : evF Tryd.prog 18 TT M_cmp_Or_int F_cmp_Or_int (O_cmp_Or_int n) (L_cmp_Or_int n) dorcNil ⟨[], [], []⟩ [.tmp 2] C_cmp_Or_int x = cmp_Or_int n x := by kernel_rfl
omit [UDef] [UTabs] in
theorem ok_cmp_Or_int (n : Nat) : Contract Tryd.prog 60 F_cmp_Or_int (cmp_Or_int n) :=
  Contract.of_ev (c := C_cmp_Or_int) (N := 18) Tryd.func60 (by kernel_rfl) (by kernel_rfl) (by kernel_rfl) (by kernel_rfl) (O_cmp_Or_int_ok n) dorcNil_ok (.of (l := [(0, (lbody 1000 C_cmp_Or_int 0))]) (by kernel_rfl) ⟨.head (loopL_sound (O_cmp_Or_int_ok n) dorcNil_ok (.of (l := []) (by kernel_rfl) trivial) (s_cmp_Or_int_s0 n)), trivial⟩) (e_cmp_Or_int n)

noncomputable def C_value_Order : Code := bodyOf Tryd.f55
noncomputable def M_value_Order : List (Nat × ArgM) := [(29, ⟨[], [], [], true⟩), (61, ⟨[], [], [], true⟩), (62, ⟨[], [], [], true⟩), (60, ⟨[], [], [], true⟩)]
instance : DfOk M_value_Order := .none rfl
noncomputable def O_value_Order {ρ : Type} (self_value_Order : Ev.Val × Ev.Val × Unit → Option (Int × Unit)) (n : Nat) : Orc ρ := orcCons 29 F_cmp_Compare_int (cmp_Compare_int) (orcCons 61 F_cmp_Compare_string (cmp_Compare_string) (orcCons 62 F_slices_CompareFunc_api_Value_api_Value_api_Value_api_Value_value_Order (slices_CompareFunc_api_Value_api_Value_api_Value_api_Value_value_Order self_value_Order n) (orcCons 60 F_cmp_Or_int (cmp_Or_int n) (orcNil))))
omit [UDef] [UTabs] in
theorem O_value_Order_ok {ρ : Type} (self_value_Order : Ev.Val × Ev.Val × Unit → Option (Int × Unit)) (h_value_Order : Contract Tryd.prog 55 F_value_Order self_value_Order) (n : Nat) : (O_value_Order self_value_Order n : Orc ρ).ok Tryd.prog := orcCons_ok (by kernel_rfl) (ok_cmp_Compare_int) (orcCons_ok (by kernel_rfl) (ok_cmp_Compare_string) (orcCons_ok (by kernel_rfl) (ok_slices_CompareFunc_api_Value_api_Value_api_Value_api_Value_value_Order _ h_value_Order n) (orcCons_ok (by kernel_rfl) (ok_cmp_Or_int n) (orcNil_ok))))
noncomputable def L_value_Order {ρ : Type} (self_value_Order : Ev.Val × Ev.Val × Unit → Option (Int × Unit)) (n : Nat) : LOrc ρ := lorcNil
omit [Tabs] [QuietD Tryd.prog] [UDef] [UTabs] in
theorem e_value_Order (self_value_Order : Ev.Val × Ev.Val × Unit → Option (Int × Unit)) (n : Nat) (x) : evF Tryd.prog 31 TT M_value_Order F_value_Order (O_value_Order self_value_Order n) (L_value_Order self_value_Order n) (evDraw Tryd.prog 31 TT M_value_Order (O_value_Order self_value_Order n)) ⟨[], [], []⟩ [.tmp 4] C_value_Order x = value_Order_b self_value_Order n x := by kernel_rfl
omit [UDef] [UTabs] in
theorem okb_value_Order (self_value_Order : Ev.Val × Ev.Val × Unit → Option (Int × Unit)) (h_value_Order : Contract Tryd.prog 55 F_value_Order self_value_Order) (n : Nat) : Contract Tryd.prog 55 F_value_Order (value_Order_b self_value_Order n) :=
  Contract.of_ev (c := C_value_Order) (N := 31) Tryd.func55 (by kernel_rfl) (by kernel_rfl) (by kernel_rfl) (by kernel_rfl) (O_value_Order_ok self_value_Order h_value_Order n) (evDraw_ok (O_value_Order_ok self_value_Order h_value_Order n) (by kernel_rfl)) (.of (l := []) (by kernel_rfl) trivial) (e_value_Order self_value_Order n)
omit [UDef] [UTabs] in
theorem ok_value_Order : ∀ n, Contract Tryd.prog 55 F_value_Order (value_Order n)
  | 0 => fun _ _ h => by cases h
  | n + 1 => okb_value_Order _ (ok_value_Order n) n

noncomputable def F_value_truth : FnT := ⟨1, ⟨[], [(0, .bool)], []⟩, [.v .val], []⟩
noncomputable def C_value_truth : Code := bodyOf Tryd.f54
noncomputable def M_value_truth : List (Nat × ArgM) := []
instance : DfOk M_value_truth := .none rfl
noncomputable def O_value_truth {ρ : Type} : Orc ρ := orcNil
omit [QuietD Tryd.prog] [UDef] [UTabs] in
theorem O_value_truth_ok {ρ : Type} : (O_value_truth : Orc ρ).ok Tryd.prog := orcNil_ok
noncomputable def L_value_truth {ρ : Type} : LOrc ρ := lorcNil
omit [Tabs] [QuietD Tryd.prog] [UDef] [UTabs] in
theorem e_value_truth (x) : evF Tryd.prog 8 TT M_value_truth F_value_truth (O_value_truth) (L_value_truth) dorcNil ⟨[], [], []⟩ [.cell 2 30] C_value_truth x = value_truth x := by kernel_rfl
omit [UDef] [UTabs] in
theorem ok_value_truth : Contract Tryd.prog 54 F_value_truth (value_truth) :=
  Contract.of_ev (c := C_value_truth) (N := 8) Tryd.func54 (by kernel_rfl) (by kernel_rfl) (by kernel_rfl) (by kernel_rfl) (O_value_truth_ok) dorcNil_ok (.of (l := []) (by kernel_rfl) trivial) (e_value_truth)

noncomputable def C_value_Same : Code := bodyOf Tryd.f43
noncomputable def M_value_Same : List (Nat × ArgM) := [(55, ⟨[], [], [], true⟩)]
instance : DfOk M_value_Same := .none rfl
noncomputable def O_value_Same {ρ : Type} (self_value_Same : Ev.Val × Ev.Val × Unit → Option (Ev.Val × Unit)) (n : Nat) : Orc ρ := orcCons 55 F_value_Order (value_Order n) (orcCons 54 F_value_truth (value_truth) (orcCons 43 F_value_Same (self_value_Same) (orcNil)))
omit [UDef] [UTabs] in
theorem O_value_Same_ok {ρ : Type} (self_value_Same : Ev.Val × Ev.Val × Unit → Option (Ev.Val × Unit)) (h_value_Same : Contract Tryd.prog 43 F_value_Same self_value_Same) (n : Nat) : (O_value_Same self_value_Same n : Orc ρ).ok Tryd.prog := orcCons_ok (by kernel_rfl) (ok_value_Order n) (orcCons_ok (by kernel_rfl) (ok_value_truth) (orcCons_ok (by kernel_rfl) (h_value_Same) (orcNil_ok)))
noncomputable def T_value_Same_s0 : Tm := ⟨[(2, .ptr 2 0), (3, .ptr 3 0), (4, .ptr 4 0), (5, .ptr 5 0)], [(41, .i64), (42, .i64)], [(2, .box [.d .val]), (3, .box [.d .val]), (4, .box [.d .val]), (5, .box [.d .val])]⟩
noncomputable def X_value_Same_s0 : Tm := ⟨[(4, .ptr 4 0), (5, .ptr 5 0)], [], [(4, .box [.d .val]), (5, .box [.d .val])]⟩
noncomputable def R_value_Same_s0 : Tm := ⟨[(4, .ptr 4 0)], [], [(4, .box [.d .val])]⟩
noncomputable def L_value_Same_s0 {ρ : Type} (self_value_Same : Ev.Val × Ev.Val × Unit → Option (Ev.Val × Unit)) (n : Nat) : LOrc ρ := lorcNil
omit [Tabs] [QuietD Tryd.prog] [UDef] [UTabs] in
theorem s_value_Same_s0 {ρ : Type} (self_value_Same : Ev.Val × Ev.Val × Unit → Option (Ev.Val × Unit)) (n : Nat) (rec : T_value_Same_s0.den → Option ρ) kx kr s : dStep Tryd.prog 68 TT M_value_Same (O_value_Same self_value_Same n) (L_value_Same_s0 self_value_Same n) (evDraw Tryd.prog 68 TT M_value_Same (O_value_Same self_value_Same n)) 0 (lbody 1000 C_value_Same 0) T_value_Same_s0 X_value_Same_s0 R_value_Same_s0 ⟨[], [], []⟩ rec kx kr s = value_Same_s0 self_value_Same n rec kx kr s := by kernel_rfl
noncomputable def L_value_Same {ρ : Type} (self_value_Same : Ev.Val × Ev.Val × Unit → Option (Ev.Val × Unit)) (n : Nat) : LOrc ρ := lorcCons 0 (loopL 68 0 n T_value_Same_s0 X_value_Same_s0 R_value_Same_s0 ⟨[], [], []⟩ (value_Same_s0 self_value_Same n)) (lorcNil)
omit [Tabs] [QuietD Tryd.prog] [UDef] [UTabs] in
theorem e_value_Same (self_value_Same : Ev.Val × Ev.Val × Unit → Option (Ev.Val × Unit)) (n : Nat) (x) : evF Tryd.prog 68 TT M_value_Same F_value_Same (O_value_Same self_value_Same n) (L_value_Same self_value_Same n) (evDraw Tryd.prog 68 TT M_value_Same (O_value_Same self_value_Same n)) ⟨[], [], []⟩ [.cell 4 30] C_value_Same x = value_Same_b self_value_Same n x := by kernel_rfl
omit [UDef] [UTabs] in
theorem okb_value_Same (self_value_Same : Ev.Val × Ev.Val × Unit → Option (Ev.Val × Unit)) (h_value_Same : Contract Tryd.prog 43 F_value_Same self_value_Same) (n : Nat) : Contract Tryd.prog 43 F_value_Same (value_Same_b self_value_Same n) :=
  Contract.of_ev (c := C_value_Same) (N := 68) Tryd.func43 (by kernel_rfl) (by kernel_rfl) (by kernel_rfl) (by kernel_rfl) (O_value_Same_ok self_value_Same h_value_Same n) (evDraw_ok (O_value_Same_ok self_value_Same h_value_Same n) (by kernel_rfl)) (.of (l := [(0, (lbody 1000 C_value_Same 0))]) (by kernel_rfl) ⟨.head (loopL_sound (O_value_Same_ok self_value_Same h_value_Same n) (evDraw_ok (O_value_Same_ok self_value_Same h_value_Same n) (by kernel_rfl)) (.of (l := []) (by kernel_rfl) trivial) (s_value_Same_s0 self_value_Same n)), trivial⟩) (e_value_Same self_value_Same n)
omit [UDef] [UTabs] in
theorem ok_value_Same : ∀ n, Contract Tryd.prog 43 F_value_Same (value_Same n)
  | 0 => fun _ _ h => by cases h
  | n + 1 => okb_value_Same _ (ok_value_Same n) n

noncomputable def F_value_Less : FnT := ⟨2, ⟨[], [(0, .val), (1, .val)], []⟩, [.v .val], []⟩
noncomputable def C_value_Less : Code := bodyOf Tryd.f44
noncomputable def M_value_Less : List (Nat × ArgM) := [(55, ⟨[], [], [], true⟩)]
instance : DfOk M_value_Less := .none rfl
noncomputable def O_value_Less {ρ : Type} (n : Nat) : Orc ρ := orcCons 55 F_value_Order (value_Order n) (orcCons 54 F_value_truth (value_truth) (orcNil))
omit [UDef] [UTabs] in
theorem O_value_Less_ok {ρ : Type} (n : Nat) : (O_value_Less n : Orc ρ).ok Tryd.prog := orcCons_ok (by kernel_rfl) (ok_value_Order n) (orcCons_ok (by kernel_rfl) (ok_value_truth) (orcNil_ok))
noncomputable def L_value_Less {ρ : Type} (n : Nat) : LOrc ρ := lorcNil
omit [Tabs] [QuietD Tryd.prog] [UDef] [UTabs] in
theorem e_value_Less (n : Nat) (x) : evF Tryd.prog 26 TT M_value_Less F_value_Less (O_value_Less n) (L_value_Less n) dorcNil ⟨[], [], []⟩ [.cell 4 30] C_value_Less x = value_Less n x := by kernel_rfl
omit [UDef] [UTabs] in
theorem ok_value_Less (n : Nat) : Contract Tryd.prog 44 F_value_Less (value_Less n) :=
  Contract.of_ev (c := C_value_Less) (N := 26) Tryd.func44 (by kernel_rfl) (by kernel_rfl) (by kernel_rfl) (by kernel_rfl) (O_value_Less_ok n) dorcNil_ok (.of (l := []) (by kernel_rfl) trivial) (e_value_Less n)

noncomputable def F_term_turned : FnT := ⟨1, ⟨[], [(0, .val)], []⟩, [.v .val], []⟩
noncomputable def F_term_known : FnT := ⟨1, ⟨[], [(0, .val)], []⟩, [.v .bool, .v .bool], []⟩
noncomputable def C_term_known : Code := bodyOf Tryd.f56
noncomputable def M_term_known : List (Nat × ArgM) := []
instance : DfOk M_term_known := .none rfl
noncomputable def O_term_known {ρ : Type} : Orc ρ := orcNil
omit [QuietD Tryd.prog] [UDef] [UTabs] in
theorem O_term_known_ok {ρ : Type} : (O_term_known : Orc ρ).ok Tryd.prog := orcNil_ok
noncomputable def L_term_known {ρ : Type} : LOrc ρ := lorcNil
omit [Tabs] [QuietD Tryd.prog] [UDef] [UTabs] in
theorem e_term_known (x) : evF Tryd.prog 10 TT M_term_known F_term_known (O_term_known) (L_term_known) (evDraw Tryd.prog 10 TT M_term_known (O_term_known)) ⟨[], [], []⟩ [.tmp 2, .tmp 3] C_term_known x = term_known x := by kernel_rfl
omit [UDef] [UTabs] in
theorem ok_term_known : Contract Tryd.prog 56 F_term_known (term_known) :=
  Contract.of_ev (c := C_term_known) (N := 10) Tryd.func56 (by kernel_rfl) (by kernel_rfl) (by kernel_rfl) (by kernel_rfl) (O_term_known_ok) (evDraw_ok (O_term_known_ok) (by kernel_rfl)) (.of (l := []) (by kernel_rfl) trivial) (e_term_known)

noncomputable def F_term_truth : FnT := ⟨1, ⟨[], [(0, .bool)], []⟩, [.v .val], []⟩
noncomputable def C_term_truth : Code := bodyOf Tryd.f47
noncomputable def M_term_truth : List (Nat × ArgM) := []
instance : DfOk M_term_truth := .none rfl
noncomputable def O_term_truth {ρ : Type} : Orc ρ := orcNil
omit [QuietD Tryd.prog] [UDef] [UTabs] in
theorem O_term_truth_ok {ρ : Type} : (O_term_truth : Orc ρ).ok Tryd.prog := orcNil_ok
noncomputable def L_term_truth {ρ : Type} : LOrc ρ := lorcNil
omit [Tabs] [QuietD Tryd.prog] [UDef] [UTabs] in
theorem e_term_truth (x) : evF Tryd.prog 6 TT M_term_truth F_term_truth (O_term_truth) (L_term_truth) dorcNil ⟨[], [], []⟩ [.cell 2 30] C_term_truth x = term_truth x := by kernel_rfl
omit [UDef] [UTabs] in
theorem ok_term_truth : Contract Tryd.prog 47 F_term_truth (term_truth) :=
  Contract.of_ev (c := C_term_truth) (N := 6) Tryd.func47 (by kernel_rfl) (by kernel_rfl) (by kernel_rfl) (by kernel_rfl) (O_term_truth_ok) dorcNil_ok (.of (l := []) (by kernel_rfl) trivial) (e_term_truth)

noncomputable def C_term_turned : Code := bodyOf Tryd.f45
noncomputable def M_term_turned : List (Nat × ArgM) := [(56, ⟨[], [], [], true⟩)]
instance : DfOk M_term_turned := .none rfl
noncomputable def O_term_turned {ρ : Type} : Orc ρ := orcCons 56 F_term_known (term_known) (orcCons 47 F_term_truth (term_truth) (orcNil))
omit [UDef] [UTabs] in
theorem O_term_turned_ok {ρ : Type} : (O_term_turned : Orc ρ).ok Tryd.prog := orcCons_ok (by kernel_rfl) (ok_term_known) (orcCons_ok (by kernel_rfl) (ok_term_truth) (orcNil_ok))
noncomputable def L_term_turned {ρ : Type} : LOrc ρ := lorcNil
omit [Tabs] [QuietD Tryd.prog] [UDef] [UTabs] in
theorem e_term_turned (x) : evF Tryd.prog 15 TT M_term_turned F_term_turned (O_term_turned) (L_term_turned) dorcNil ⟨[], [], []⟩ [.cell 2 30] C_term_turned x = term_turned x := by kernel_rfl
omit [UDef] [UTabs] in
theorem ok_term_turned : Contract Tryd.prog 45 F_term_turned (term_turned) :=
  Contract.of_ev (c := C_term_turned) (N := 15) Tryd.func45 (by kernel_rfl) (by kernel_rfl) (by kernel_rfl) (by kernel_rfl) (O_term_turned_ok) dorcNil_ok (.of (l := []) (by kernel_rfl) trivial) (e_term_turned)

noncomputable def F_term_either : FnT := ⟨2, ⟨[], [(0, .val), (1, .val)], []⟩, [.v .val], []⟩
noncomputable def C_term_either : Code := bodyOf Tryd.f46
noncomputable def M_term_either : List (Nat × ArgM) := [(56, ⟨[], [], [], true⟩)]
instance : DfOk M_term_either := .none rfl
noncomputable def O_term_either {ρ : Type} : Orc ρ := orcCons 56 F_term_known (term_known) (orcCons 47 F_term_truth (term_truth) (orcNil))
omit [UDef] [UTabs] in
theorem O_term_either_ok {ρ : Type} : (O_term_either : Orc ρ).ok Tryd.prog := orcCons_ok (by kernel_rfl) (ok_term_known) (orcCons_ok (by kernel_rfl) (ok_term_truth) (orcNil_ok))
noncomputable def L_term_either {ρ : Type} : LOrc ρ := lorcNil
omit [Tabs] [QuietD Tryd.prog] [UDef] [UTabs] in
theorem e_term_either (x) : evF Tryd.prog 38 TT M_term_either F_term_either (O_term_either) (L_term_either) dorcNil ⟨[], [], []⟩ [.cell 4 30] C_term_either x = term_either x := by kernel_rfl
omit [UDef] [UTabs] in
theorem ok_term_either : Contract Tryd.prog 46 F_term_either (term_either) :=
  Contract.of_ev (c := C_term_either) (N := 38) Tryd.func46 (by kernel_rfl) (by kernel_rfl) (by kernel_rfl) (by kernel_rfl) (O_term_either_ok) dorcNil_ok (.of (l := []) (by kernel_rfl) trivial) (e_term_either)

noncomputable def C_term_Env_call : Code := bodyOf Tryd.f35
noncomputable def M_term_Env_call : List (Nat × ArgM) := [(38, ⟨[], [], [], true⟩), (14, ⟨[], [], [], true⟩)]
instance : DfOk M_term_Env_call := .none rfl
noncomputable def O_term_Env_call {ρ : Type} (n : Nat) : Orc ρ := orcCons 42 F_value_Reckon (value_Reckon n) (orcCons 38 F_value_Check (value_Check n) (orcCons 43 F_value_Same (value_Same n) (orcCons 44 F_value_Less (value_Less n) (orcCons 45 F_term_turned (term_turned) (orcCons 46 F_term_either (term_either) (orcCons 47 F_term_truth (term_truth) (orcCons 14 F_graph_FindEdge (graph_FindEdge n) (orcNil))))))))
omit [UDef] in
theorem O_term_Env_call_ok {ρ : Type} (n : Nat) : (O_term_Env_call n : Orc ρ).ok Tryd.prog := orcCons_ok (by kernel_rfl) (ok_value_Reckon n) (orcCons_ok (by kernel_rfl) (ok_value_Check n) (orcCons_ok (by kernel_rfl) (ok_value_Same n) (orcCons_ok (by kernel_rfl) (ok_value_Less n) (orcCons_ok (by kernel_rfl) (ok_term_turned) (orcCons_ok (by kernel_rfl) (ok_term_either) (orcCons_ok (by kernel_rfl) (ok_term_truth) (orcCons_ok (by kernel_rfl) (ok_graph_FindEdge n) (orcNil_ok))))))))
noncomputable def T_term_Env_call_s1 : Tm := ⟨[(6, .ptr 6 0), (9, .ptr 9 0)], [(2, (.lst .val)), (114, (.lst .val)), (115, .i64), (116, .i64)], [(6, .box [.d .val]), (9, .box [.d .val])]⟩
noncomputable def X_term_Env_call_s1 : Tm := ⟨[(6, .ptr 6 0), (9, .ptr 9 0)], [], [(6, .box [.d .val]), (9, .box [.d .val])]⟩
noncomputable def R_term_Env_call_s1 : Tm := ⟨[], [], []⟩
noncomputable def L_term_Env_call_s1 {ρ : Type} (n : Nat) : LOrc ρ := lorcNil
omit [Tabs] [QuietD Tryd.prog] [UDef] [UTabs] in
theorem s_term_Env_call_s1 {ρ : Type} (n : Nat) (rec : T_term_Env_call_s1.den → Option ρ) kx kr s : dStep Tryd.prog 219 TT M_term_Env_call (O_term_Env_call n) (L_term_Env_call_s1 n) (evDraw Tryd.prog 219 TT M_term_Env_call (O_term_Env_call n)) 1 (lbody 1000 C_term_Env_call 0) T_term_Env_call_s1 X_term_Env_call_s1 R_term_Env_call_s1 ⟨[], [], []⟩ rec kx kr s = term_Env_call_s1 n rec kx kr s := by kernel_rfl
noncomputable def T_term_Env_call_s4 : Tm := ⟨[(6, .ptr 6 0)], [(175, (.lst .val)), (176, .i64), (177, .i64)], [(6, .box [.d .val])]⟩
noncomputable def X_term_Env_call_s4 : Tm := ⟨[(6, .ptr 6 0)], [], [(6, .box [.d .val])]⟩
noncomputable def R_term_Env_call_s4 : Tm := ⟨[(6, .ptr 6 0)], [], [(6, .box [.d .val])]⟩
noncomputable def L_term_Env_call_s4 {ρ : Type} (n : Nat) : LOrc ρ := lorcNil
omit [Tabs] [QuietD Tryd.prog] [UDef] [UTabs] in
theorem s_term_Env_call_s4 {ρ : Type} (n : Nat) (rec : T_term_Env_call_s4.den → Option ρ) kx kr s : dStep Tryd.prog 219 TT M_term_Env_call (O_term_Env_call n) (L_term_Env_call_s4 n) (evDraw Tryd.prog 219 TT M_term_Env_call (O_term_Env_call n)) 4 (lbody 1000 C_term_Env_call 1) T_term_Env_call_s4 X_term_Env_call_s4 R_term_Env_call_s4 ⟨[], [], []⟩ rec kx kr s = term_Env_call_s4 n rec kx kr s := by kernel_rfl
noncomputable def L_term_Env_call {ρ : Type} (n : Nat) : LOrc ρ := lorcCons 1 (loopL 219 1 n T_term_Env_call_s1 X_term_Env_call_s1 R_term_Env_call_s1 ⟨[], [], []⟩ (term_Env_call_s1 n)) (lorcCons 4 (loopL 219 4 n T_term_Env_call_s4 X_term_Env_call_s4 R_term_Env_call_s4 ⟨[], [], []⟩ (term_Env_call_s4 n)) (lorcNil))
omit [Tabs] [QuietD Tryd.prog] [UDef] [UTabs] in
theorem e_term_Env_call (n : Nat) (x) : evF Tryd.prog 219 TT M_term_Env_call F_term_Env_call (O_term_Env_call n) (L_term_Env_call n) (evDraw Tryd.prog 219 TT M_term_Env_call (O_term_Env_call n)) ⟨[], [], []⟩ [.cell 6 30] C_term_Env_call x = term_Env_call n x := by kernel_rfl
omit [UDef] in
theorem ok_term_Env_call (n : Nat) : Contract Tryd.prog 35 F_term_Env_call (term_Env_call n) :=
  Contract.of_ev (c := C_term_Env_call) (N := 219) Tryd.func35 (by kernel_rfl) (by kernel_rfl) (by kernel_rfl) (by kernel_rfl) (O_term_Env_call_ok n) (evDraw_ok (O_term_Env_call_ok n) (by kernel_rfl)) (.of (l := [(1, (lbody 1000 C_term_Env_call 0)), (4, (lbody 1000 C_term_Env_call 1))]) (by kernel_rfl) ⟨.head (loopL_sound (O_term_Env_call_ok n) (evDraw_ok (O_term_Env_call_ok n) (by kernel_rfl)) (.of (l := []) (by kernel_rfl) trivial) (s_term_Env_call_s1 n)), ⟨.tail rfl (.head (loopL_sound (O_term_Env_call_ok n) (evDraw_ok (O_term_Env_call_ok n) (by kernel_rfl)) (.of (l := []) (by kernel_rfl) trivial) (s_term_Env_call_s4 n))), trivial⟩⟩) (e_term_Env_call n)

noncomputable def C_term_Env_Value : Code := bodyOf Tryd.f16
noncomputable def M_term_Env_Value : List (Nat × ArgM) := []
instance : DfOk M_term_Env_Value := .none rfl
noncomputable def O_term_Env_Value {ρ : Type} (self_term_Env_Value : Ev.Envr × Ev.Term × Unit → Option (Ev.Val × Unit)) (n : Nat) : Orc ρ := orcCons 33 F_value_Copy (value_Copy n) (orcCons 34 F_term_Env_field (term_Env_field n) (orcCons 16 F_term_Env_Value (self_term_Env_Value) (orcCons 35 F_term_Env_call (term_Env_call n) (orcNil))))
omit [UDef] in
theorem O_term_Env_Value_ok {ρ : Type} (self_term_Env_Value : Ev.Envr × Ev.Term × Unit → Option (Ev.Val × Unit)) (h_term_Env_Value : Contract Tryd.prog 16 F_term_Env_Value self_term_Env_Value) (n : Nat) : (O_term_Env_Value self_term_Env_Value n : Orc ρ).ok Tryd.prog := orcCons_ok (by kernel_rfl) (ok_value_Copy n) (orcCons_ok (by kernel_rfl) (ok_term_Env_field n) (orcCons_ok (by kernel_rfl) (h_term_Env_Value) (orcCons_ok (by kernel_rfl) (ok_term_Env_call n) (orcNil_ok))))
noncomputable def T_term_Env_Value_s1 : Tm := ⟨[(2, .ptr 2 0), (3, .ptr 3 0), (4, .ptr 4 0), (5, .own 5)], [(38, (.lst .term)), (39, .i64), (40, .i64)], [(2, .box [.d .envr]), (3, .box [.d .term]), (4, .box [.d .val]), (5, .arr 30 .val)]⟩
noncomputable def X_term_Env_Value_s1 : Tm := ⟨[(2, .ptr 2 0), (3, .ptr 3 0), (4, .ptr 4 0), (5, .own 5)], [], [(2, .box [.d .envr]), (3, .box [.d .term]), (4, .box [.d .val]), (5, .arr 30 .val)]⟩
noncomputable def R_term_Env_Value_s1 : Tm := ⟨[], [], []⟩
noncomputable def L_term_Env_Value_s1 {ρ : Type} (self_term_Env_Value : Ev.Envr × Ev.Term × Unit → Option (Ev.Val × Unit)) (n : Nat) : LOrc ρ := lorcNil
omit [Tabs] [QuietD Tryd.prog] [UDef] [UTabs] in
theorem s_term_Env_Value_s1 {ρ : Type} (self_term_Env_Value : Ev.Envr × Ev.Term × Unit → Option (Ev.Val × Unit)) (n : Nat) (rec : T_term_Env_Value_s1.den → Option ρ) kx kr s : dStep Tryd.prog 55 TT M_term_Env_Value (O_term_Env_Value self_term_Env_Value n) (L_term_Env_Value_s1 self_term_Env_Value n) (evDraw Tryd.prog 55 TT M_term_Env_Value (O_term_Env_Value self_term_Env_Value n)) 1 (lbody 1000 C_term_Env_Value 0) T_term_Env_Value_s1 X_term_Env_Value_s1 R_term_Env_Value_s1 ⟨[], [(5, 5, 30, 4)], []⟩ rec kx kr s = term_Env_Value_s1 self_term_Env_Value n rec kx kr s := by kernel_rfl
noncomputable def L_term_Env_Value {ρ : Type} (self_term_Env_Value : Ev.Envr × Ev.Term × Unit → Option (Ev.Val × Unit)) (n : Nat) : LOrc ρ := lorcCons 1 (loopL 55 1 n T_term_Env_Value_s1 X_term_Env_Value_s1 R_term_Env_Value_s1 ⟨[], [(5, 5, 30, 4)], []⟩ (term_Env_Value_s1 self_term_Env_Value n)) (lorcNil)
omit [Tabs] [QuietD Tryd.prog] [UDef] [UTabs] in
theorem e_term_Env_Value (self_term_Env_Value : Ev.Envr × Ev.Term × Unit → Option (Ev.Val × Unit)) (n : Nat) (x) : evF Tryd.prog 55 TT M_term_Env_Value F_term_Env_Value (O_term_Env_Value self_term_Env_Value n) (L_term_Env_Value self_term_Env_Value n) (evDraw Tryd.prog 55 TT M_term_Env_Value (O_term_Env_Value self_term_Env_Value n)) ⟨[], [], []⟩ [.cell 4 30] C_term_Env_Value x = term_Env_Value_b self_term_Env_Value n x := by kernel_rfl
omit [UDef] in
theorem okb_term_Env_Value (self_term_Env_Value : Ev.Envr × Ev.Term × Unit → Option (Ev.Val × Unit)) (h_term_Env_Value : Contract Tryd.prog 16 F_term_Env_Value self_term_Env_Value) (n : Nat) : Contract Tryd.prog 16 F_term_Env_Value (term_Env_Value_b self_term_Env_Value n) :=
  Contract.of_ev (c := C_term_Env_Value) (N := 55) Tryd.func16 (by kernel_rfl) (by kernel_rfl) (by kernel_rfl) (by kernel_rfl) (O_term_Env_Value_ok self_term_Env_Value h_term_Env_Value n) (evDraw_ok (O_term_Env_Value_ok self_term_Env_Value h_term_Env_Value n) (by kernel_rfl)) (.of (l := [(1, (lbody 1000 C_term_Env_Value 0))]) (by kernel_rfl) ⟨.head (loopL_sound (O_term_Env_Value_ok self_term_Env_Value h_term_Env_Value n) (evDraw_ok (O_term_Env_Value_ok self_term_Env_Value h_term_Env_Value n) (by kernel_rfl)) (.of (l := []) (by kernel_rfl) trivial) (s_term_Env_Value_s1 self_term_Env_Value n)), trivial⟩) (e_term_Env_Value self_term_Env_Value n)
omit [UDef] in
theorem ok_term_Env_Value : ∀ n, Contract Tryd.prog 16 F_term_Env_Value (term_Env_Value n)
  | 0 => fun _ _ h => by cases h
  | n + 1 => okb_term_Env_Value _ (ok_term_Env_Value n) n

noncomputable def C_term_Eval : Code := bodyOf Tryd.f7
noncomputable def M_term_Eval : List (Nat × ArgM) := [(12, ⟨[], [], [], true⟩), (13, ⟨[], [], [], true⟩), (14, ⟨[], [], [], true⟩), (15, ⟨[], [], [], true⟩)]
instance : DfOk M_term_Eval := .none rfl
noncomputable def O_term_Eval {ρ : Type} (n : Nat) : Orc ρ := orcCons 12 F_graph_Check (graph_Check n) (orcCons 13 F_graph_Find (graph_Find n) (orcCons 14 F_graph_FindEdge (graph_FindEdge n) (orcCons 15 F_term_Check (term_Check n) (orcCons 16 F_term_Env_Value (term_Env_Value n) (orcNil)))))
omit [UDef] in
theorem O_term_Eval_ok {ρ : Type} (n : Nat) : (O_term_Eval n : Orc ρ).ok Tryd.prog := orcCons_ok (by kernel_rfl) (ok_graph_Check n) (orcCons_ok (by kernel_rfl) (ok_graph_Find n) (orcCons_ok (by kernel_rfl) (ok_graph_FindEdge n) (orcCons_ok (by kernel_rfl) (ok_term_Check n) (orcCons_ok (by kernel_rfl) (ok_term_Env_Value n) (orcNil_ok)))))
noncomputable def T_term_Eval_s0 : Tm := ⟨[(4, .ptr 4 0), (7, .ptr 7 0), (8, .ptr 8 0), (11, .mpr 37), (12, .mpr 38)], [(2, (.lst .i64)), (39, (.lst .str)), (40, .i64), (41, .i64)], [(4, .box [.d .graph]), (7, .box [.d .term]), (8, .box [.d .val]), (37, .mp 44 .str .bool true), (38, .mp 45 .str .i64 true)]⟩
noncomputable def X_term_Eval_s0 : Tm := ⟨[(4, .ptr 4 0), (7, .ptr 7 0), (8, .ptr 8 0), (11, .mpr 37), (12, .mpr 38)], [], [(4, .box [.d .graph]), (7, .box [.d .term]), (8, .box [.d .val]), (37, .mp 44 .str .bool true), (38, .mp 45 .str .i64 true)]⟩
noncomputable def R_term_Eval_s0 : Tm := ⟨[(8, .ptr 8 0)], [(9, .i64)], [(8, .box [.d .val])]⟩
noncomputable def L_term_Eval_s0 {ρ : Type} (n : Nat) : LOrc ρ := lorcNil
omit [Tabs] [QuietD Tryd.prog] [UDef] [UTabs] in
theorem s_term_Eval_s0 {ρ : Type} (n : Nat) (rec : T_term_Eval_s0.den → Option ρ) kx kr s : dStep Tryd.prog 98 TT M_term_Eval (O_term_Eval n) (L_term_Eval_s0 n) (evDraw Tryd.prog 98 TT M_term_Eval (O_term_Eval n)) 0 (lbody 1000 C_term_Eval 0) T_term_Eval_s0 X_term_Eval_s0 R_term_Eval_s0 ⟨[], [], []⟩ rec kx kr s = term_Eval_s0 n rec kx kr s := by kernel_rfl
noncomputable def L_term_Eval {ρ : Type} (n : Nat) : LOrc ρ := lorcCons 0 (loopL 98 0 n T_term_Eval_s0 X_term_Eval_s0 R_term_Eval_s0 ⟨[], [], []⟩ (term_Eval_s0 n)) (lorcNil)
omit [Tabs] [QuietD Tryd.prog] [UDef] [UTabs] in
theorem e_term_Eval (n : Nat) (x) : evF Tryd.prog 98 TT M_term_Eval F_term_Eval (O_term_Eval n) (L_term_Eval n) (evDraw Tryd.prog 98 TT M_term_Eval (O_term_Eval n)) ⟨[], [], []⟩ [.cell 8 30, .tmp 9] C_term_Eval x = term_Eval n x := by kernel_rfl
omit [UDef] in
theorem ok_term_Eval (n : Nat) : Contract Tryd.prog 7 F_term_Eval (term_Eval n) :=
  Contract.of_ev (c := C_term_Eval) (N := 98) Tryd.func7 (by kernel_rfl) (by kernel_rfl) (by kernel_rfl) (by kernel_rfl) (O_term_Eval_ok n) (evDraw_ok (O_term_Eval_ok n) (by kernel_rfl)) (.of (l := [(0, (lbody 1000 C_term_Eval 0))]) (by kernel_rfl) ⟨.head (loopL_sound (O_term_Eval_ok n) (evDraw_ok (O_term_Eval_ok n) (by kernel_rfl)) (.of (l := []) (by kernel_rfl) trivial) (s_term_Eval_s0 n)), trivial⟩) (e_term_Eval n)

noncomputable def C_espalierlaw_TermKleene_1 : Code := bodyOf Tryd.f6
noncomputable def M_espalierlaw_TermKleene_1 : List (Nat × ArgM) := []
instance : DfOk M_espalierlaw_TermKleene_1 := .none rfl
noncomputable def O_espalierlaw_TermKleene_1 {ρ : Type} (n : Nat) : Orc ρ := orcCons 7 F_term_Eval (term_Eval n) (orcNil)
omit [UDef] in
theorem O_espalierlaw_TermKleene_1_ok {ρ : Type} (n : Nat) : (O_espalierlaw_TermKleene_1 n : Orc ρ).ok Tryd.prog := orcCons_ok (by kernel_rfl) (ok_term_Eval n) (orcNil_ok)
noncomputable def L_espalierlaw_TermKleene_1 {ρ : Type} (n : Nat) : LOrc ρ := lorcNil
omit [Tabs] [QuietD Tryd.prog] [UDef] [UTabs] in
theorem e_espalierlaw_TermKleene_1 (n : Nat) (x) : evF Tryd.prog 14 TT M_espalierlaw_TermKleene_1 F_espalierlaw_TermKleene_1 (O_espalierlaw_TermKleene_1 n) (L_espalierlaw_TermKleene_1 n) dorcNil ⟨[], [], []⟩ [.cell 5 30, .tmp 6] C_espalierlaw_TermKleene_1 x = espalierlaw_TermKleene_1 n x := by kernel_rfl
omit [UDef] in
theorem ok_espalierlaw_TermKleene_1 (n : Nat) : Contract Tryd.prog 6 F_espalierlaw_TermKleene_1 (espalierlaw_TermKleene_1 n) :=
  Contract.of_ev (c := C_espalierlaw_TermKleene_1) (N := 14) Tryd.func6 (by kernel_rfl) (by kernel_rfl) (by kernel_rfl) (by kernel_rfl) (O_espalierlaw_TermKleene_1_ok n) dorcNil_ok (.of (l := []) (by kernel_rfl) trivial) (e_espalierlaw_TermKleene_1 n)

noncomputable def F_espalierlaw_termed : FnT := ⟨0, ⟨[], [], []⟩, [.v .bool], []⟩
noncomputable def F_espalierref_Truth : FnT := ⟨1, ⟨[], [(0, .i64)], []⟩, [.v .val], []⟩
noncomputable def C_espalierref_Truth : Code := bodyOf Tryd.f17
noncomputable def M_espalierref_Truth : List (Nat × ArgM) := []
instance : DfOk M_espalierref_Truth := .none rfl
noncomputable def O_espalierref_Truth {ρ : Type} : Orc ρ := orcNil
omit [QuietD Tryd.prog] [UDef] [UTabs] in
theorem O_espalierref_Truth_ok {ρ : Type} : (O_espalierref_Truth : Orc ρ).ok Tryd.prog := orcNil_ok
noncomputable def L_espalierref_Truth {ρ : Type} : LOrc ρ := lorcNil
omit [Tabs] [QuietD Tryd.prog] [UDef] [UTabs] in
theorem e_espalierref_Truth (x) : evF Tryd.prog 8 TT M_espalierref_Truth F_espalierref_Truth (O_espalierref_Truth) (L_espalierref_Truth) dorcNil ⟨[], [], []⟩ [.cell 2 30] C_espalierref_Truth x = espalierref_Truth x := by kernel_rfl
omit [UDef] [UTabs] in
theorem ok_espalierref_Truth : Contract Tryd.prog 17 F_espalierref_Truth (espalierref_Truth) :=
  Contract.of_ev (c := C_espalierref_Truth) (N := 8) Tryd.func17 (by kernel_rfl) (by kernel_rfl) (by kernel_rfl) (by kernel_rfl) (O_espalierref_Truth_ok) dorcNil_ok (.of (l := []) (by kernel_rfl) trivial) (e_espalierref_Truth)

noncomputable def F_espalierlaw_knows : FnT := ⟨0, ⟨[], [], []⟩, [.v .graph], []⟩
noncomputable def F_espalierlaw_num : FnT := ⟨1, ⟨[], [(0, .i64)], []⟩, [.v .val], []⟩
noncomputable def C_espalierlaw_num : Code := bodyOf Tryd.f19
noncomputable def M_espalierlaw_num : List (Nat × ArgM) := []
instance : DfOk M_espalierlaw_num := .none rfl
noncomputable def O_espalierlaw_num {ρ : Type} : Orc ρ := orcNil
omit [QuietD Tryd.prog] [UDef] [UTabs] in
theorem O_espalierlaw_num_ok {ρ : Type} : (O_espalierlaw_num : Orc ρ).ok Tryd.prog := orcNil_ok
noncomputable def L_espalierlaw_num {ρ : Type} : LOrc ρ := lorcNil
omit [Tabs] [QuietD Tryd.prog] [UDef] [UTabs] in
theorem e_espalierlaw_num (x) : evF Tryd.prog 5 TT M_espalierlaw_num F_espalierlaw_num (O_espalierlaw_num) (L_espalierlaw_num) dorcNil ⟨[], [], []⟩ [.cell 2 30] C_espalierlaw_num x = espalierlaw_num x := by kernel_rfl
omit [UDef] [UTabs] in
theorem ok_espalierlaw_num : Contract Tryd.prog 19 F_espalierlaw_num (espalierlaw_num) :=
  Contract.of_ev (c := C_espalierlaw_num) (N := 5) Tryd.func19 (by kernel_rfl) (by kernel_rfl) (by kernel_rfl) (by kernel_rfl) (O_espalierlaw_num_ok) dorcNil_ok (.of (l := []) (by kernel_rfl) trivial) (e_espalierlaw_num)

noncomputable def C_espalierlaw_knows : Code := bodyOf Tryd.f18
noncomputable def M_espalierlaw_knows : List (Nat × ArgM) := []
instance : DfOk M_espalierlaw_knows := .none rfl
noncomputable def O_espalierlaw_knows {ρ : Type} : Orc ρ := orcCons 19 F_espalierlaw_num (espalierlaw_num) (orcNil)
omit [UDef] [UTabs] in
theorem O_espalierlaw_knows_ok {ρ : Type} : (O_espalierlaw_knows : Orc ρ).ok Tryd.prog := orcCons_ok (by kernel_rfl) (ok_espalierlaw_num) (orcNil_ok)
noncomputable def L_espalierlaw_knows {ρ : Type} : LOrc ρ := lorcNil
omit [Tabs] [QuietD Tryd.prog] [UDef] [UTabs] in
theorem e_espalierlaw_knows (x) : evF Tryd.prog 11 TT M_espalierlaw_knows F_espalierlaw_knows (O_espalierlaw_knows) (L_espalierlaw_knows) dorcNil ⟨[], [], []⟩ [.cell 0 25] C_espalierlaw_knows x = espalierlaw_knows x := by kernel_rfl
omit [UDef] [UTabs] in
theorem ok_espalierlaw_knows : Contract Tryd.prog 18 F_espalierlaw_knows (espalierlaw_knows) :=
  Contract.of_ev (c := C_espalierlaw_knows) (N := 11) Tryd.func18 (by kernel_rfl) (by kernel_rfl) (by kernel_rfl) (by kernel_rfl) (O_espalierlaw_knows_ok) dorcNil_ok (.of (l := []) (by kernel_rfl) trivial) (e_espalierlaw_knows)

noncomputable def F_espalierref_SameValue : FnT := ⟨2, ⟨[], [(0, .val), (1, .val)], []⟩, [.v .bool], []⟩
noncomputable def F_espalierref_OrderOf : FnT := ⟨2, ⟨[], [(0, .val), (1, .val)], []⟩, [.v .i64], []⟩
noncomputable def F_bytes_Compare : FnT := ⟨2, ⟨[], [(0, (.lst .u8)), (1, (.lst .u8))], []⟩, [.v .i64], []⟩
noncomputable def C_bytes_Compare : Code := bodyOf Tryd.f37
noncomputable def M_bytes_Compare : List (Nat × ArgM) := []
instance : DfOk M_bytes_Compare := .none rfl
noncomputable def O_bytes_Compare {ρ : Type} : Orc ρ := orcCons 49 T_cmpB (cmpN) (orcNil)
omit [QuietD Tryd.prog] [UDef] [UTabs] in
theorem O_bytes_Compare_ok {ρ : Type} : (O_bytes_Compare : Orc ρ).ok Tryd.prog := orcExt_ok (by kernel_rfl) (cmp_ok) (orcNil_ok)
noncomputable def L_bytes_Compare {ρ : Type} : LOrc ρ := lorcNil
omit [Tabs] [QuietD Tryd.prog] [UDef] [UTabs] in
theorem e_bytes_Compare (x) : evF Tryd.prog 8 TT M_bytes_Compare F_bytes_Compare (O_bytes_Compare) (L_bytes_Compare) dorcNil ⟨[], [], []⟩ [.tmp 4] C_bytes_Compare x = bytes_Compare x := by kernel_rfl
omit [UDef] [UTabs] in
theorem ok_bytes_Compare : Contract Tryd.prog 37 F_bytes_Compare (bytes_Compare) :=
  Contract.of_ev (c := C_bytes_Compare) (N := 8) Tryd.func37 (by kernel_rfl) (by kernel_rfl) (by kernel_rfl) (by kernel_rfl) (O_bytes_Compare_ok) dorcNil_ok (.of (l := []) (by kernel_rfl) trivial) (e_bytes_Compare)

noncomputable def C_espalierref_OrderOf : Code := bodyOf Tryd.f22
noncomputable def M_espalierref_OrderOf : List (Nat × ArgM) := [(37, ⟨[], [], [], true⟩), (22, ⟨[], [], [], true⟩)]
instance : DfOk M_espalierref_OrderOf := .none rfl
noncomputable def O_espalierref_OrderOf {ρ : Type} (self_espalierref_OrderOf : Ev.Val × Ev.Val × Unit → Option (Int × Unit)) (n : Nat) : Orc ρ := orcCons 37 F_bytes_Compare (bytes_Compare) (orcCons 22 F_espalierref_OrderOf (self_espalierref_OrderOf) (orcNil))
omit [UDef] [UTabs] in
theorem O_espalierref_OrderOf_ok {ρ : Type} (self_espalierref_OrderOf : Ev.Val × Ev.Val × Unit → Option (Int × Unit)) (h_espalierref_OrderOf : Contract Tryd.prog 22 F_espalierref_OrderOf self_espalierref_OrderOf) (n : Nat) : (O_espalierref_OrderOf self_espalierref_OrderOf n : Orc ρ).ok Tryd.prog := orcCons_ok (by kernel_rfl) (ok_bytes_Compare) (orcCons_ok (by kernel_rfl) (h_espalierref_OrderOf) (orcNil_ok))
noncomputable def T_espalierref_OrderOf_s1 : Tm := ⟨[(2, .ptr 2 0), (3, .ptr 3 0)], [(5, .i64)], [(2, .box [.d .val]), (3, .box [.d .val])]⟩
noncomputable def X_espalierref_OrderOf_s1 : Tm := ⟨[(2, .ptr 2 0), (3, .ptr 3 0)], [], [(2, .box [.d .val]), (3, .box [.d .val])]⟩
noncomputable def R_espalierref_OrderOf_s1 : Tm := ⟨[], [(4, .i64)], []⟩
noncomputable def L_espalierref_OrderOf_s1 {ρ : Type} (self_espalierref_OrderOf : Ev.Val × Ev.Val × Unit → Option (Int × Unit)) (n : Nat) : LOrc ρ := lorcNil
omit [Tabs] [QuietD Tryd.prog] [UDef] [UTabs] in
theorem s_espalierref_OrderOf_s1 {ρ : Type} (self_espalierref_OrderOf : Ev.Val × Ev.Val × Unit → Option (Int × Unit)) (n : Nat) (rec : T_espalierref_OrderOf_s1.den → Option ρ) kx kr s : dStep Tryd.prog 88 TT M_espalierref_OrderOf (O_espalierref_OrderOf self_espalierref_OrderOf n) (L_espalierref_OrderOf_s1 self_espalierref_OrderOf n) (evDraw Tryd.prog 88 TT M_espalierref_OrderOf (O_espalierref_OrderOf self_espalierref_OrderOf n)) 1 (lbody 1000 C_espalierref_OrderOf 0) T_espalierref_OrderOf_s1 X_espalierref_OrderOf_s1 R_espalierref_OrderOf_s1 ⟨[], [], []⟩ rec kx kr s = espalierref_OrderOf_s1 self_espalierref_OrderOf n rec kx kr s := by kernel_rfl
noncomputable def L_espalierref_OrderOf {ρ : Type} (self_espalierref_OrderOf : Ev.Val × Ev.Val × Unit → Option (Int × Unit)) (n : Nat) : LOrc ρ := lorcCons 1 (loopL 88 1 n T_espalierref_OrderOf_s1 X_espalierref_OrderOf_s1 R_espalierref_OrderOf_s1 ⟨[], [], []⟩ (espalierref_OrderOf_s1 self_espalierref_OrderOf n)) (lorcNil)
omit [Tabs] [QuietD Tryd.prog] [UDef] [UTabs] in
theorem e_espalierref_OrderOf (self_espalierref_OrderOf : Ev.Val × Ev.Val × Unit → Option (Int × Unit)) (n : Nat) (x) : evF Tryd.prog 88 TT M_espalierref_OrderOf F_espalierref_OrderOf (O_espalierref_OrderOf self_espalierref_OrderOf n) (L_espalierref_OrderOf self_espalierref_OrderOf n) (evDraw Tryd.prog 88 TT M_espalierref_OrderOf (O_espalierref_OrderOf self_espalierref_OrderOf n)) ⟨[], [], []⟩ [.tmp 4] C_espalierref_OrderOf x = espalierref_OrderOf_b self_espalierref_OrderOf n x := by kernel_rfl
omit [UDef] [UTabs] in
theorem okb_espalierref_OrderOf (self_espalierref_OrderOf : Ev.Val × Ev.Val × Unit → Option (Int × Unit)) (h_espalierref_OrderOf : Contract Tryd.prog 22 F_espalierref_OrderOf self_espalierref_OrderOf) (n : Nat) : Contract Tryd.prog 22 F_espalierref_OrderOf (espalierref_OrderOf_b self_espalierref_OrderOf n) :=
  Contract.of_ev (c := C_espalierref_OrderOf) (N := 88) Tryd.func22 (by kernel_rfl) (by kernel_rfl) (by kernel_rfl) (by kernel_rfl) (O_espalierref_OrderOf_ok self_espalierref_OrderOf h_espalierref_OrderOf n) (evDraw_ok (O_espalierref_OrderOf_ok self_espalierref_OrderOf h_espalierref_OrderOf n) (by kernel_rfl)) (.of (l := [(1, (lbody 1000 C_espalierref_OrderOf 0))]) (by kernel_rfl) ⟨.head (loopL_sound (O_espalierref_OrderOf_ok self_espalierref_OrderOf h_espalierref_OrderOf n) (evDraw_ok (O_espalierref_OrderOf_ok self_espalierref_OrderOf h_espalierref_OrderOf n) (by kernel_rfl)) (.of (l := []) (by kernel_rfl) trivial) (s_espalierref_OrderOf_s1 self_espalierref_OrderOf n)), trivial⟩) (e_espalierref_OrderOf self_espalierref_OrderOf n)
omit [UDef] [UTabs] in
theorem ok_espalierref_OrderOf : ∀ n, Contract Tryd.prog 22 F_espalierref_OrderOf (espalierref_OrderOf n)
  | 0 => fun _ _ h => by cases h
  | n + 1 => okb_espalierref_OrderOf _ (ok_espalierref_OrderOf n) n

noncomputable def C_espalierref_SameValue : Code := bodyOf Tryd.f10
noncomputable def M_espalierref_SameValue : List (Nat × ArgM) := [(22, ⟨[], [], [], true⟩)]
instance : DfOk M_espalierref_SameValue := .none rfl
noncomputable def O_espalierref_SameValue {ρ : Type} (n : Nat) : Orc ρ := orcCons 22 F_espalierref_OrderOf (espalierref_OrderOf n) (orcNil)
omit [UDef] [UTabs] in
theorem O_espalierref_SameValue_ok {ρ : Type} (n : Nat) : (O_espalierref_SameValue n : Orc ρ).ok Tryd.prog := orcCons_ok (by kernel_rfl) (ok_espalierref_OrderOf n) (orcNil_ok)
noncomputable def L_espalierref_SameValue {ρ : Type} (n : Nat) : LOrc ρ := lorcNil
omit [Tabs] [QuietD Tryd.prog] [UDef] [UTabs] in
theorem e_espalierref_SameValue (n : Nat) (x) : evF Tryd.prog 9 TT M_espalierref_SameValue F_espalierref_SameValue (O_espalierref_SameValue n) (L_espalierref_SameValue n) dorcNil ⟨[], [], []⟩ [.tmp 4] C_espalierref_SameValue x = espalierref_SameValue n x := by kernel_rfl
omit [UDef] [UTabs] in
theorem ok_espalierref_SameValue (n : Nat) : Contract Tryd.prog 10 F_espalierref_SameValue (espalierref_SameValue n) :=
  Contract.of_ev (c := C_espalierref_SameValue) (N := 9) Tryd.func10 (by kernel_rfl) (by kernel_rfl) (by kernel_rfl) (by kernel_rfl) (O_espalierref_SameValue_ok n) dorcNil_ok (.of (l := []) (by kernel_rfl) trivial) (e_espalierref_SameValue n)

noncomputable def C_espalierlaw_termed : Code := bodyOf Tryd.f9
noncomputable def M_espalierlaw_termed : List (Nat × ArgM) := [(10, ⟨[], [], [], true⟩), (20, ⟨[], [], [], true⟩), (21, ⟨[], [], [], true⟩)]
instance : DfOk M_espalierlaw_termed := .none rfl
noncomputable def O_espalierlaw_termed {ρ : Type} (n : Nat) : Orc ρ := orcCons 17 F_espalierref_Truth (espalierref_Truth) (orcCons 18 F_espalierlaw_knows (espalierlaw_knows) (orcCons 7 F_term_Eval (term_Eval n) (orcCons 19 F_espalierlaw_num (espalierlaw_num) (orcCons 10 F_espalierref_SameValue (espalierref_SameValue n) (orcCons 20 F_term_Reserved (term_Reserved n) (orcCons 21 F_term_Name (term_Name n) (orcNil)))))))
omit [UDef] in
theorem O_espalierlaw_termed_ok {ρ : Type} (n : Nat) : (O_espalierlaw_termed n : Orc ρ).ok Tryd.prog := orcCons_ok (by kernel_rfl) (ok_espalierref_Truth) (orcCons_ok (by kernel_rfl) (ok_espalierlaw_knows) (orcCons_ok (by kernel_rfl) (ok_term_Eval n) (orcCons_ok (by kernel_rfl) (ok_espalierlaw_num) (orcCons_ok (by kernel_rfl) (ok_espalierref_SameValue n) (orcCons_ok (by kernel_rfl) (ok_term_Reserved n) (orcCons_ok (by kernel_rfl) (ok_term_Name n) (orcNil_ok)))))))
noncomputable def L_espalierlaw_termed {ρ : Type} (n : Nat) : LOrc ρ := lorcNil
omit [Tabs] [QuietD Tryd.prog] [UDef] [UTabs] in
theorem e_espalierlaw_termed (n : Nat) (x) : evF Tryd.prog 50 TT M_espalierlaw_termed F_espalierlaw_termed (O_espalierlaw_termed n) (L_espalierlaw_termed n) (evDraw Tryd.prog 50 TT M_espalierlaw_termed (O_espalierlaw_termed n)) ⟨[], [], []⟩ [.tmp 0] C_espalierlaw_termed x = espalierlaw_termed n x := by kernel_rfl
omit [UDef] in
theorem ok_espalierlaw_termed (n : Nat) : Contract Tryd.prog 9 F_espalierlaw_termed (espalierlaw_termed n) :=
  Contract.of_ev (c := C_espalierlaw_termed) (N := 50) Tryd.func9 (by kernel_rfl) (by kernel_rfl) (by kernel_rfl) (by kernel_rfl) (O_espalierlaw_termed_ok n) (evDraw_ok (O_espalierlaw_termed_ok n) (by kernel_rfl)) (.of (l := []) (by kernel_rfl) trivial) (e_espalierlaw_termed n)

noncomputable def C_espalierlaw_TermKleene : Code := bodyOf Tryd.f3
noncomputable def M_espalierlaw_TermKleene : List (Nat × ArgM) := [(999999995, ⟨[5, 6, 7], [], [], false⟩), (9, ⟨[], [], [], true⟩), (10, ⟨[], [], [], true⟩)]
instance : DfOk M_espalierlaw_TermKleene := .none rfl
noncomputable def O_espalierlaw_TermKleene {ρ : Type} (n : Nat) : Orc ρ := orcCons 8 F_espalierlaw_call (espalierlaw_call) (orcCons 6 F_espalierlaw_TermKleene_1 (espalierlaw_TermKleene_1 n) (orcCons 9 F_espalierlaw_termed (espalierlaw_termed n) (orcCons 10 F_espalierref_SameValue (espalierref_SameValue n) (orcNil))))
omit [UDef] in
theorem O_espalierlaw_TermKleene_ok {ρ : Type} (n : Nat) : (O_espalierlaw_TermKleene n : Orc ρ).ok Tryd.prog := orcCons_ok (by kernel_rfl) (ok_espalierlaw_call) (orcCons_ok (by kernel_rfl) (ok_espalierlaw_TermKleene_1 n) (orcCons_ok (by kernel_rfl) (ok_espalierlaw_termed n) (orcCons_ok (by kernel_rfl) (ok_espalierref_SameValue n) (orcNil_ok))))
noncomputable def L_espalierlaw_TermKleene {ρ : Type} (n : Nat) : LOrc ρ := lorcNil
omit [Tabs] [QuietD Tryd.prog] [UDef] [UTabs] in
theorem e_espalierlaw_TermKleene (n : Nat) (x) : evF Tryd.prog 129 TT M_espalierlaw_TermKleene F_espalierlaw_TermKleene (O_espalierlaw_TermKleene n) (L_espalierlaw_TermKleene n) (evDraw Tryd.prog 129 TT M_espalierlaw_TermKleene (O_espalierlaw_TermKleene n)) ⟨[], [], []⟩ [.tmp 10] C_espalierlaw_TermKleene x = espalierlaw_TermKleene n x := by kernel_rfl
omit [UDef] in
theorem ok_espalierlaw_TermKleene (n : Nat) : Contract Tryd.prog 3 F_espalierlaw_TermKleene (espalierlaw_TermKleene n) :=
  Contract.of_ev (c := C_espalierlaw_TermKleene) (N := 129) Tryd.func3 (by kernel_rfl) (by kernel_rfl) (by kernel_rfl) (by kernel_rfl) (O_espalierlaw_TermKleene_ok n) (evDraw_ok (O_espalierlaw_TermKleene_ok n) (by kernel_rfl)) (.of (l := []) (by kernel_rfl) trivial) (e_espalierlaw_TermKleene n)

noncomputable def F_espalierlaw_TermIn : FnT := ⟨6, ⟨[], [(0, .graph), (1, (.lst .str)), (2, (.lst .i64)), (3, .term), (4, .term), (5, .term)], []⟩, [.v .bool], []⟩
noncomputable def C_espalierlaw_TermIn : Code := bodyOf Tryd.f4
noncomputable def M_espalierlaw_TermIn : List (Nat × ArgM) := [(9, ⟨[], [], [], true⟩), (10, ⟨[], [], [], true⟩)]
instance : DfOk M_espalierlaw_TermIn := .none rfl
noncomputable def O_espalierlaw_TermIn {ρ : Type} (n : Nat) : Orc ρ := orcCons 8 F_espalierlaw_call (espalierlaw_call) (orcCons 7 F_term_Eval (term_Eval n) (orcCons 9 F_espalierlaw_termed (espalierlaw_termed n) (orcCons 10 F_espalierref_SameValue (espalierref_SameValue n) (orcNil))))
omit [UDef] in
theorem O_espalierlaw_TermIn_ok {ρ : Type} (n : Nat) : (O_espalierlaw_TermIn n : Orc ρ).ok Tryd.prog := orcCons_ok (by kernel_rfl) (ok_espalierlaw_call) (orcCons_ok (by kernel_rfl) (ok_term_Eval n) (orcCons_ok (by kernel_rfl) (ok_espalierlaw_termed n) (orcCons_ok (by kernel_rfl) (ok_espalierref_SameValue n) (orcNil_ok))))
noncomputable def L_espalierlaw_TermIn {ρ : Type} (n : Nat) : LOrc ρ := lorcNil
omit [Tabs] [QuietD Tryd.prog] [UDef] [UTabs] in
theorem e_espalierlaw_TermIn (n : Nat) (x) : evF Tryd.prog 84 TT M_espalierlaw_TermIn F_espalierlaw_TermIn (O_espalierlaw_TermIn n) (L_espalierlaw_TermIn n) (evDraw Tryd.prog 84 TT M_espalierlaw_TermIn (O_espalierlaw_TermIn n)) ⟨[], [], []⟩ [.tmp 12] C_espalierlaw_TermIn x = espalierlaw_TermIn n x := by kernel_rfl
omit [UDef] in
theorem ok_espalierlaw_TermIn (n : Nat) : Contract Tryd.prog 4 F_espalierlaw_TermIn (espalierlaw_TermIn n) :=
  Contract.of_ev (c := C_espalierlaw_TermIn) (N := 84) Tryd.func4 (by kernel_rfl) (by kernel_rfl) (by kernel_rfl) (by kernel_rfl) (O_espalierlaw_TermIn_ok n) (evDraw_ok (O_espalierlaw_TermIn_ok n) (by kernel_rfl)) (.of (l := []) (by kernel_rfl) trivial) (e_espalierlaw_TermIn n)

noncomputable def F_espalierlaw_TermTwice : FnT := ⟨5, ⟨[], [(0, .graph), (1, (.lst .str)), (2, (.lst .i64)), (3, .term), (4, .term)], []⟩, [.v .bool], []⟩
noncomputable def F_espalierlaw_TermTwice_1 : FnT := ⟨4, ⟨[], [(0, .term), (1, (.ptr .graph)), (2, (.ptr (.lst .str))), (3, (.ptr (.lst .i64)))], []⟩, [.v .val, .v .i64], []⟩
noncomputable def C_espalierlaw_TermTwice_1 : Code := bodyOf Tryd.f11
noncomputable def M_espalierlaw_TermTwice_1 : List (Nat × ArgM) := []
instance : DfOk M_espalierlaw_TermTwice_1 := .none rfl
noncomputable def O_espalierlaw_TermTwice_1 {ρ : Type} (n : Nat) : Orc ρ := orcCons 7 F_term_Eval (term_Eval n) (orcNil)
omit [UDef] in
theorem O_espalierlaw_TermTwice_1_ok {ρ : Type} (n : Nat) : (O_espalierlaw_TermTwice_1 n : Orc ρ).ok Tryd.prog := orcCons_ok (by kernel_rfl) (ok_term_Eval n) (orcNil_ok)
noncomputable def L_espalierlaw_TermTwice_1 {ρ : Type} (n : Nat) : LOrc ρ := lorcNil
omit [Tabs] [QuietD Tryd.prog] [UDef] [UTabs] in
theorem e_espalierlaw_TermTwice_1 (n : Nat) (x) : evF Tryd.prog 14 TT M_espalierlaw_TermTwice_1 F_espalierlaw_TermTwice_1 (O_espalierlaw_TermTwice_1 n) (L_espalierlaw_TermTwice_1 n) dorcNil ⟨[], [], []⟩ [.cell 5 30, .tmp 6] C_espalierlaw_TermTwice_1 x = espalierlaw_TermTwice_1 n x := by kernel_rfl
omit [UDef] in
theorem ok_espalierlaw_TermTwice_1 (n : Nat) : Contract Tryd.prog 11 F_espalierlaw_TermTwice_1 (espalierlaw_TermTwice_1 n) :=
  Contract.of_ev (c := C_espalierlaw_TermTwice_1) (N := 14) Tryd.func11 (by kernel_rfl) (by kernel_rfl) (by kernel_rfl) (by kernel_rfl) (O_espalierlaw_TermTwice_1_ok n) dorcNil_ok (.of (l := []) (by kernel_rfl) trivial) (e_espalierlaw_TermTwice_1 n)

noncomputable def C_espalierlaw_TermTwice : Code := bodyOf Tryd.f5
noncomputable def M_espalierlaw_TermTwice : List (Nat × ArgM) := [(999999995, ⟨[5, 6, 7], [], [], false⟩), (9, ⟨[], [], [], true⟩), (10, ⟨[], [], [], true⟩)]
instance : DfOk M_espalierlaw_TermTwice := .none rfl
noncomputable def O_espalierlaw_TermTwice {ρ : Type} (n : Nat) : Orc ρ := orcCons 11 F_espalierlaw_TermTwice_1 (espalierlaw_TermTwice_1 n) (orcCons 8 F_espalierlaw_call (espalierlaw_call) (orcCons 9 F_espalierlaw_termed (espalierlaw_termed n) (orcCons 10 F_espalierref_SameValue (espalierref_SameValue n) (orcNil))))
omit [UDef] in
theorem O_espalierlaw_TermTwice_ok {ρ : Type} (n : Nat) : (O_espalierlaw_TermTwice n : Orc ρ).ok Tryd.prog := orcCons_ok (by kernel_rfl) (ok_espalierlaw_TermTwice_1 n) (orcCons_ok (by kernel_rfl) (ok_espalierlaw_call) (orcCons_ok (by kernel_rfl) (ok_espalierlaw_termed n) (orcCons_ok (by kernel_rfl) (ok_espalierref_SameValue n) (orcNil_ok))))
noncomputable def L_espalierlaw_TermTwice {ρ : Type} (n : Nat) : LOrc ρ := lorcNil
omit [Tabs] [QuietD Tryd.prog] [UDef] [UTabs] in
theorem e_espalierlaw_TermTwice (n : Nat) (x) : evF Tryd.prog 143 TT M_espalierlaw_TermTwice F_espalierlaw_TermTwice (O_espalierlaw_TermTwice n) (L_espalierlaw_TermTwice n) dorcNil ⟨[], [], []⟩ [.tmp 10] C_espalierlaw_TermTwice x = espalierlaw_TermTwice n x := by kernel_rfl
omit [UDef] in
theorem ok_espalierlaw_TermTwice (n : Nat) : Contract Tryd.prog 5 F_espalierlaw_TermTwice (espalierlaw_TermTwice n) :=
  Contract.of_ev (c := C_espalierlaw_TermTwice) (N := 143) Tryd.func5 (by kernel_rfl) (by kernel_rfl) (by kernel_rfl) (by kernel_rfl) (O_espalierlaw_TermTwice_ok n) dorcNil_ok (.of (l := []) (by kernel_rfl) trivial) (e_espalierlaw_TermTwice n)

end Go.Proofs.YtdnhnpfommlfbaaDoor

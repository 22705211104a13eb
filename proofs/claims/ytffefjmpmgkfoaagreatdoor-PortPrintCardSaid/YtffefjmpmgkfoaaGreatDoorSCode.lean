/- Each of these functions computes what its plain function computes (written by gen.py). -/
import Derived.Test.YtffefjmpmgkfoaaGreatDoorSBase
import Derived.Test.YtffefjmpmgkfoaaGreatDoorSP
import Derived.KernelRfl
import Derived.Test.YtffefjmpmgkfoaaGreatDoorEvDraw
import Derived.Test.YtffefjmpmgkfoaaGreatDoorEvQuiet
import Derived.WalkKit
import Derived.Test.YtffefjmpmgkfoaaGreatDoorPCode
namespace Go.Proofs.YtffefjmpmgkfoaaGreatDoor
open Go Esp Ev Pure
set_option linter.unusedSimpArgs false
set_option linter.unusedVariables false
set_option maxRecDepth 100000
set_option maxHeartbeats 1000000
theorem quiet_45 (args : Array Value) (w : World) : (callFunc 45 args).run Tryz.prog w = .ok (.enter 45 args) w ∧ CallsD Tryz.prog 45 args .returning w fun e u w' => u = .returning ∧ (∃ v, e = .returned v) ∧ w' = w :=
  quiet_closure (fn := Tryz.f45) (by kernel_rfl) rfl (by kernel_rfl) (by kernel_rfl) (by kernel_rfl) (by kernel_rfl) args w
def okds : List FuncId := [45]
theorem quiets : ∀ g ∈ okds, ∀ (args : Array Value) (w : World), (callFunc g args).run Tryz.prog w = .ok (.enter g args) w ∧ CallsD Tryz.prog g args .returning w fun e u w' => u = .returning ∧ (∃ v, e = .returned v) ∧ w' = w := by
  intro g hg args w
  simp only [okds, List.mem_cons, List.not_mem_nil, or_false] at hg
  rcases hg with rfl
  · exact quiet_45 args w
variable [Tabs]
class UDef : Prop where
  ok : ∀ g ∈ ([45] : List Nat), g ∈ Tabs.okd
variable [QuietD Tryz.prog] [UDef] [UTabs]
def TT : List (TypeId × Ty) := [(2, .i64), (3, .i64), (4, .bool), (5, .u8), (6, .u8), (9, .str), (10, .str), (11, .str), (12, .u64), (21, .i32), (22, (.lst .val)), (24, .val), (25, .i64), (32, (.lst .node)), (33, (.lst .edg)), (35, .graph), (43, (.lst .u8)), (56, (.lst .str)), (67, (.lst .prp)), (69, .prp), (73, .node), (75, .edg), (94, .u64), (105, .u32), (134, .u64), (144, (.lst .i64)), (195, .i64), (232, (.lst .i64)), (251, .u8), (252, .u8), (254, .i32), (255, .i32), (259, (.lst .u8))]

noncomputable def F_q18z : FnT := ⟨1, ⟨[], [(0, .graph)], [], []⟩, [.v .bool], []⟩
noncomputable def F_q56z : FnT := ⟨1, ⟨[], [(0, .graph)], [], []⟩, [.v .str, .v .i64], []⟩
noncomputable def F_q46z : FnT := ⟨1, ⟨[], [(0, .graph)], [], []⟩, [.v .i64], []⟩
noncomputable def F_q43z : FnT := ⟨1, ⟨[], [(0, (.lst .str))], [], []⟩, [.v .i64], []⟩
noncomputable def F_q54z : FnT := ⟨1, ⟨[], [(0, .str)], [], []⟩, [.v .bool], []⟩
noncomputable def C_q54z : Code := bodyOf Tryz.f56
noncomputable def M_q54z : List (Nat × ArgM) := []
instance : DfOk M_q54z := .none rfl
noncomputable def O_q54z {ρ : Type} (n : Nat) : Orc ρ := orcNil
omit [QuietD Tryz.prog] [UDef] [UTabs] in
theorem O_q54z_ok {ρ : Type} (n : Nat) : (O_q54z n : Orc ρ).ok Tryz.prog := orcNil_ok
noncomputable def T_q54z_s0 : Tm := ⟨[], [(0, .str), (14, .i64), (15, .i64)], [], []⟩
noncomputable def X_q54z_s0 : Tm := ⟨[], [], [], []⟩
noncomputable def R_q54z_s0 : Tm := ⟨[], [(2, .bool)], [], []⟩
noncomputable def L_q54z_s0 {ρ : Type} (n : Nat) : LOrc ρ := lorcNil
omit [Tabs] [QuietD Tryz.prog] [UDef] [UTabs] in
theorem s_q54z_s0 {ρ : Type} (n : Nat) (rec : T_q54z_s0.den → Option ρ) kx kr s : dStep Tryz.prog 54 TT M_q54z (O_q54z n) (L_q54z_s0 n) dorcNil 0 (lbody 1000 C_q54z 0) T_q54z_s0 X_q54z_s0 R_q54z_s0 ⟨[], [], []⟩ rec kx kr s = q54z_s0 n rec kx kr s := by kernel_rfl
noncomputable def L_q54z {ρ : Type} (n : Nat) : LOrc ρ := lorcCons 0 (loopL 54 0 n T_q54z_s0 X_q54z_s0 R_q54z_s0 ⟨[], [], []⟩ (q54z_s0 n)) (lorcNil)
omit [Tabs] [QuietD Tryz.prog] [UDef] [UTabs] in
theorem e_q54z (n : Nat) (x) : evF Tryz.prog 54 TT M_q54z F_q54z (O_q54z n) (L_q54z n) dorcNil ⟨[], [], []⟩ [.tmp 2] C_q54z x = q54z n x := by kernel_rfl
omit [UDef] [UTabs] in
theorem ok_q54z (n : Nat) : Contract Tryz.prog 56 F_q54z (q54z n) :=
  Contract.of_ev (c := C_q54z) (N := 54) Tryz.func56 (by kernel_rfl) (by kernel_rfl) (by kernel_rfl) (by kernel_rfl) (O_q54z_ok n) dorcNil_ok (.of (l := [(0, (lbody 1000 C_q54z 0))]) (by kernel_rfl) ⟨.head (loopL_sound (O_q54z_ok n) dorcNil_ok (.of (l := []) (by kernel_rfl) trivial) (s_q54z_s0 n)), trivial⟩) (e_q54z n)

noncomputable def C_q43z : Code := bodyOf Tryz.f53
noncomputable def M_q43z : List (Nat × ArgM) := [(56, ⟨[], [], [], true⟩)]
instance : DfOk M_q43z := .none rfl
noncomputable def O_q43z {ρ : Type} (n : Nat) : Orc ρ := orcCons 56 F_q54z (q54z n) (orcNil)
omit [UDef] [UTabs] in
theorem O_q43z_ok {ρ : Type} (n : Nat) : (O_q43z n : Orc ρ).ok Tryz.prog := orcCons_ok (by kernel_rfl) (ok_q54z n) (orcNil_ok)
noncomputable def T_q43z_s0 : Tm := ⟨[], [(0, (.lst .str)), (8, (.lst .str)), (9, .i64), (10, .i64)], [], []⟩
noncomputable def X_q43z_s0 : Tm := ⟨[], [], [], []⟩
noncomputable def R_q43z_s0 : Tm := ⟨[], [(2, .i64)], [], []⟩
noncomputable def L_q43z_s0 {ρ : Type} (n : Nat) : LOrc ρ := lorcNil
omit [Tabs] [QuietD Tryz.prog] [UDef] [UTabs] in
theorem s_q43z_s0 {ρ : Type} (n : Nat) (rec : T_q43z_s0.den → Option ρ) kx kr s : dStep Tryz.prog 32 TT M_q43z (O_q43z n) (L_q43z_s0 n) dorcNil 0 (lbody 1000 C_q43z 0) T_q43z_s0 X_q43z_s0 R_q43z_s0 ⟨[], [], []⟩ rec kx kr s = q43z_s0 n rec kx kr s := by kernel_rfl
noncomputable def L_q43z {ρ : Type} (n : Nat) : LOrc ρ := lorcCons 0 (loopL 32 0 n T_q43z_s0 X_q43z_s0 R_q43z_s0 ⟨[], [], []⟩ (q43z_s0 n)) (lorcNil)
omit [Tabs] [QuietD Tryz.prog] [UDef] [UTabs] in
theorem e_q43z (n : Nat) (x) : evF Tryz.prog 32 TT M_q43z F_q43z (O_q43z n) (L_q43z n) dorcNil ⟨[], [], []⟩ [.tmp 2] C_q43z x = q43z n x := by kernel_rfl
omit [UDef] [UTabs] in
theorem ok_q43z (n : Nat) : Contract Tryz.prog 53 F_q43z (q43z n) :=
  Contract.of_ev (c := C_q43z) (N := 32) Tryz.func53 (by kernel_rfl) (by kernel_rfl) (by kernel_rfl) (by kernel_rfl) (O_q43z_ok n) dorcNil_ok (.of (l := [(0, (lbody 1000 C_q43z 0))]) (by kernel_rfl) ⟨.head (loopL_sound (O_q43z_ok n) dorcNil_ok (.of (l := []) (by kernel_rfl) trivial) (s_q43z_s0 n)), trivial⟩) (e_q43z n)

noncomputable def F_q47z : FnT := ⟨1, ⟨[], [(0, (.lst .prp))], [], []⟩, [.v .i64], []⟩
noncomputable def F_q48z : FnT := ⟨1, ⟨[], [(0, .val)], [], []⟩, [.v .i64], []⟩
noncomputable def F_q51z : FnT := ⟨2, ⟨[], [(0, .val), (1, .i64)], [], []⟩, [.v .i64], []⟩
noncomputable def C_q51z : Code := bodyOf Tryz.f40
noncomputable def M_q51z : List (Nat × ArgM) := [(17, ⟨[], [], [], true⟩), (40, ⟨[], [], [], true⟩)]
instance : DfOk M_q51z := .none rfl
noncomputable def O_q51z {ρ : Type} (self_q51z : Ev.Val × Int × Unit → Option (Int × Unit)) (n : Nat) : Orc ρ := orcCons 17 F_valid (validN) (orcCons 40 F_q51z (self_q51z) (orcNil))
omit [QuietD Tryz.prog] [UDef] in
theorem O_q51z_ok {ρ : Type} (self_q51z : Ev.Val × Int × Unit → Option (Int × Unit)) (h_q51z : Contract Tryz.prog 40 F_q51z self_q51z) (n : Nat) : (O_q51z self_q51z n : Orc ρ).ok Tryz.prog := orcCons_ok (by kernel_rfl) (validN_ok) (orcCons_ok (by kernel_rfl) (h_q51z) (orcNil_ok))
noncomputable def T_q51z_s1 : Tm := ⟨[(2, .ptr 2 0)], [(1, .i64), (90, (.lst .val)), (91, .i64), (92, .i64)], [(2, .box [.d .val])], []⟩
noncomputable def X_q51z_s1 : Tm := ⟨[(2, .ptr 2 0)], [], [(2, .box [.d .val])], []⟩
noncomputable def R_q51z_s1 : Tm := ⟨[], [(4, .i64)], [], []⟩
noncomputable def L_q51z_s1 {ρ : Type} (self_q51z : Ev.Val × Int × Unit → Option (Int × Unit)) (n : Nat) : LOrc ρ := lorcNil
omit [Tabs] [QuietD Tryz.prog] [UDef] [UTabs] in
theorem s_q51z_s1 {ρ : Type} (self_q51z : Ev.Val × Int × Unit → Option (Int × Unit)) (n : Nat) (rec : T_q51z_s1.den → Option ρ) kx kr s : dStep Tryz.prog 114 TT M_q51z (O_q51z self_q51z n) (L_q51z_s1 self_q51z n) dorcNil 1 (lbody 1000 C_q51z 0) T_q51z_s1 X_q51z_s1 R_q51z_s1 ⟨[], [], []⟩ rec kx kr s = q51z_s1 self_q51z n rec kx kr s := by kernel_rfl
noncomputable def L_q51z {ρ : Type} (self_q51z : Ev.Val × Int × Unit → Option (Int × Unit)) (n : Nat) : LOrc ρ := lorcCons 1 (loopL 114 1 n T_q51z_s1 X_q51z_s1 R_q51z_s1 ⟨[], [], []⟩ (q51z_s1 self_q51z n)) (lorcNil)
omit [Tabs] [QuietD Tryz.prog] [UDef] [UTabs] in
theorem e_q51z (self_q51z : Ev.Val × Int × Unit → Option (Int × Unit)) (n : Nat) (x) : evF Tryz.prog 114 TT M_q51z F_q51z (O_q51z self_q51z n) (L_q51z self_q51z n) dorcNil ⟨[], [], []⟩ [.tmp 4] C_q51z x = q51z_b self_q51z n x := by kernel_rfl
omit [UDef] in
theorem okb_q51z (self_q51z : Ev.Val × Int × Unit → Option (Int × Unit)) (h_q51z : Contract Tryz.prog 40 F_q51z self_q51z) (n : Nat) : Contract Tryz.prog 40 F_q51z (q51z_b self_q51z n) :=
  Contract.of_ev (c := C_q51z) (N := 114) Tryz.func40 (by kernel_rfl) (by kernel_rfl) (by kernel_rfl) (by kernel_rfl) (O_q51z_ok self_q51z h_q51z n) dorcNil_ok (.of (l := [(1, (lbody 1000 C_q51z 0))]) (by kernel_rfl) ⟨.head (loopL_sound (O_q51z_ok self_q51z h_q51z n) dorcNil_ok (.of (l := []) (by kernel_rfl) trivial) (s_q51z_s1 self_q51z n)), trivial⟩) (e_q51z self_q51z n)
omit [UDef] in
theorem ok_q51z : ∀ n, Contract Tryz.prog 40 F_q51z (q51z n)
  | 0 => fun _ _ h => by cases h
  | n + 1 => okb_q51z _ (ok_q51z n) n

noncomputable def C_q48z : Code := bodyOf Tryz.f13
noncomputable def M_q48z : List (Nat × ArgM) := [(40, ⟨[], [], [], true⟩)]
instance : DfOk M_q48z := .none rfl
noncomputable def O_q48z {ρ : Type} (n : Nat) : Orc ρ := orcCons 40 F_q51z (q51z n) (orcNil)
omit [UDef] in
theorem O_q48z_ok {ρ : Type} (n : Nat) : (O_q48z n : Orc ρ).ok Tryz.prog := orcCons_ok (by kernel_rfl) (ok_q51z n) (orcNil_ok)
noncomputable def L_q48z {ρ : Type} (n : Nat) : LOrc ρ := lorcNil
omit [Tabs] [QuietD Tryz.prog] [UDef] [UTabs] in
theorem e_q48z (n : Nat) (x) : evF Tryz.prog 5 TT M_q48z F_q48z (O_q48z n) (L_q48z n) dorcNil ⟨[], [], []⟩ [.tmp 2] C_q48z x = q48z n x := by kernel_rfl
omit [UDef] in
theorem ok_q48z (n : Nat) : Contract Tryz.prog 13 F_q48z (q48z n) :=
  Contract.of_ev (c := C_q48z) (N := 5) Tryz.func13 (by kernel_rfl) (by kernel_rfl) (by kernel_rfl) (by kernel_rfl) (O_q48z_ok n) dorcNil_ok (.of (l := []) (by kernel_rfl) trivial) (e_q48z n)

noncomputable def C_q47z : Code := bodyOf Tryz.f54
noncomputable def M_q47z : List (Nat × ArgM) := [(56, ⟨[], [], [], true⟩), (13, ⟨[], [], [], true⟩)]
instance : DfOk M_q47z := .none rfl
noncomputable def O_q47z {ρ : Type} (n : Nat) : Orc ρ := orcCons 56 F_q54z (q54z n) (orcCons 13 F_q48z (q48z n) (orcNil))
omit [UDef] in
theorem O_q47z_ok {ρ : Type} (n : Nat) : (O_q47z n : Orc ρ).ok Tryz.prog := orcCons_ok (by kernel_rfl) (ok_q54z n) (orcCons_ok (by kernel_rfl) (ok_q48z n) (orcNil_ok))
noncomputable def T_q47z_s0 : Tm := ⟨[], [(0, (.lst .prp)), (9, (.lst .prp)), (10, .i64), (11, .i64)], [], []⟩
noncomputable def X_q47z_s0 : Tm := ⟨[], [], [], []⟩
noncomputable def R_q47z_s0 : Tm := ⟨[], [(2, .i64)], [], []⟩
noncomputable def L_q47z_s0 {ρ : Type} (n : Nat) : LOrc ρ := lorcNil
omit [Tabs] [QuietD Tryz.prog] [UDef] [UTabs] in
theorem s_q47z_s0 {ρ : Type} (n : Nat) (rec : T_q47z_s0.den → Option ρ) kx kr s : dStep Tryz.prog 48 TT M_q47z (O_q47z n) (L_q47z_s0 n) (evDraw Tryz.prog 48 TT M_q47z (O_q47z n)) 0 (lbody 1000 C_q47z 0) T_q47z_s0 X_q47z_s0 R_q47z_s0 ⟨[], [], []⟩ rec kx kr s = q47z_s0 n rec kx kr s := by kernel_rfl
noncomputable def L_q47z {ρ : Type} (n : Nat) : LOrc ρ := lorcCons 0 (loopL 48 0 n T_q47z_s0 X_q47z_s0 R_q47z_s0 ⟨[], [], []⟩ (q47z_s0 n)) (lorcNil)
omit [Tabs] [QuietD Tryz.prog] [UDef] [UTabs] in
theorem e_q47z (n : Nat) (x) : evF Tryz.prog 48 TT M_q47z F_q47z (O_q47z n) (L_q47z n) (evDraw Tryz.prog 48 TT M_q47z (O_q47z n)) ⟨[], [], []⟩ [.tmp 2] C_q47z x = q47z n x := by kernel_rfl
omit [UDef] in
theorem ok_q47z (n : Nat) : Contract Tryz.prog 54 F_q47z (q47z n) :=
  Contract.of_ev (c := C_q47z) (N := 48) Tryz.func54 (by kernel_rfl) (by kernel_rfl) (by kernel_rfl) (by kernel_rfl) (O_q47z_ok n) (evDraw_ok (O_q47z_ok n) (by kernel_rfl)) (.of (l := [(0, (lbody 1000 C_q47z 0))]) (by kernel_rfl) ⟨.head (loopL_sound (O_q47z_ok n) (evDraw_ok (O_q47z_ok n) (by kernel_rfl)) (.of (l := []) (by kernel_rfl) trivial) (s_q47z_s0 n)), trivial⟩) (e_q47z n)

noncomputable def F_q36z : FnT := ⟨1, ⟨[], [(0, (.lst .i64))], [], []⟩, [.v .i64], []⟩
noncomputable def C_q36z : Code := bodyOf Tryz.f52
noncomputable def M_q36z : List (Nat × ArgM) := []
instance : DfOk M_q36z := .none rfl
noncomputable def O_q36z {ρ : Type} (n : Nat) : Orc ρ := orcNil
omit [QuietD Tryz.prog] [UDef] [UTabs] in
theorem O_q36z_ok {ρ : Type} (n : Nat) : (O_q36z n : Orc ρ).ok Tryz.prog := orcNil_ok
noncomputable def T_q36z_s0 : Tm := ⟨[], [(3, .i64), (6, (.lst .i64)), (7, .i64), (8, .i64)], [], []⟩
noncomputable def X_q36z_s0 : Tm := ⟨[], [(3, .i64)], [], []⟩
noncomputable def R_q36z_s0 : Tm := ⟨[], [(2, .i64)], [], []⟩
noncomputable def L_q36z_s0 {ρ : Type} (n : Nat) : LOrc ρ := lorcNil
omit [Tabs] [QuietD Tryz.prog] [UDef] [UTabs] in
theorem s_q36z_s0 {ρ : Type} (n : Nat) (rec : T_q36z_s0.den → Option ρ) kx kr s : dStep Tryz.prog 18 TT M_q36z (O_q36z n) (L_q36z_s0 n) dorcNil 0 (lbody 1000 C_q36z 0) T_q36z_s0 X_q36z_s0 R_q36z_s0 ⟨[], [], []⟩ rec kx kr s = q36z_s0 n rec kx kr s := by kernel_rfl
noncomputable def L_q36z {ρ : Type} (n : Nat) : LOrc ρ := lorcCons 0 (loopL 18 0 n T_q36z_s0 X_q36z_s0 R_q36z_s0 ⟨[], [], []⟩ (q36z_s0 n)) (lorcNil)
omit [Tabs] [QuietD Tryz.prog] [UDef] [UTabs] in
theorem e_q36z (n : Nat) (x) : evF Tryz.prog 18 TT M_q36z F_q36z (O_q36z n) (L_q36z n) dorcNil ⟨[], [], []⟩ [.tmp 2] C_q36z x = q36z n x := by kernel_rfl
omit [UDef] [UTabs] in
theorem ok_q36z (n : Nat) : Contract Tryz.prog 52 F_q36z (q36z n) :=
  Contract.of_ev (c := C_q36z) (N := 18) Tryz.func52 (by kernel_rfl) (by kernel_rfl) (by kernel_rfl) (by kernel_rfl) (O_q36z_ok n) dorcNil_ok (.of (l := [(0, (lbody 1000 C_q36z 0))]) (by kernel_rfl) ⟨.head (loopL_sound (O_q36z_ok n) dorcNil_ok (.of (l := []) (by kernel_rfl) trivial) (s_q36z_s0 n)), trivial⟩) (e_q36z n)

noncomputable def F_q53z : FnT := ⟨2, ⟨[], [(0, .graph), (1, .i64)], [], []⟩, [.v .i64], []⟩
noncomputable def F_q3z : FnT := ⟨3, ⟨[(2, .fn 84)], [(0, (.lst .node)), (1, .i64)], [], []⟩, [.v .i64, .v .bool], []⟩
noncomputable def F_q42z : FnT := ⟨2, ⟨[], [(0, .node), (1, .i64)], [], []⟩, [.v .i64], []⟩
noncomputable def F_q37z : FnT := ⟨2, ⟨[], [(0, .i64), (1, .i64)], [], []⟩, [.v .i64], []⟩
noncomputable def F_q41z : FnT := ⟨1, ⟨[], [(0, .i64)], [], []⟩, [.v .bool], []⟩
noncomputable def C_q41z : Code := bodyOf Tryz.f116
noncomputable def M_q41z : List (Nat × ArgM) := []
instance : DfOk M_q41z := .none rfl
noncomputable def O_q41z {ρ : Type} : Orc ρ := orcNil
omit [QuietD Tryz.prog] [UDef] [UTabs] in
theorem O_q41z_ok {ρ : Type} : (O_q41z : Orc ρ).ok Tryz.prog := orcNil_ok
noncomputable def L_q41z {ρ : Type} : LOrc ρ := lorcNil
omit [Tabs] [QuietD Tryz.prog] [UDef] [UTabs] in
theorem e_q41z (x) : evF Tryz.prog 6 TT M_q41z F_q41z (O_q41z) (L_q41z) dorcNil ⟨[], [], []⟩ [.tmp 2] C_q41z x = q41z x := by kernel_rfl
omit [UDef] [UTabs] in
theorem ok_q41z : Contract Tryz.prog 116 F_q41z (q41z) :=
  Contract.of_ev (c := C_q41z) (N := 6) Tryz.func116 (by kernel_rfl) (by kernel_rfl) (by kernel_rfl) (by kernel_rfl) (O_q41z_ok) dorcNil_ok (.of (l := []) (by kernel_rfl) trivial) (e_q41z)

noncomputable def C_q37z : Code := bodyOf Tryz.f85
noncomputable def M_q37z : List (Nat × ArgM) := [(116, ⟨[], [], [], true⟩)]
instance : DfOk M_q37z := .none rfl
noncomputable def O_q37z {ρ : Type} : Orc ρ := orcCons 116 F_q41z (q41z) (orcNil)
omit [UDef] [UTabs] in
theorem O_q37z_ok {ρ : Type} : (O_q37z : Orc ρ).ok Tryz.prog := orcCons_ok (by kernel_rfl) (ok_q41z) (orcNil_ok)
noncomputable def L_q37z {ρ : Type} : LOrc ρ := lorcNil
omit [Tabs] [QuietD Tryz.prog] [UDef] [UTabs] in
theorem e_q37z (x) : evF Tryz.prog 20 TT M_q37z F_q37z (O_q37z) (L_q37z) dorcNil ⟨[], [], []⟩ [.tmp 4] C_q37z x = q37z x := by kernel_rfl
omit [UDef] [UTabs] in
theorem ok_q37z : Contract Tryz.prog 85 F_q37z (q37z) :=
  Contract.of_ev (c := C_q37z) (N := 20) Tryz.func85 (by kernel_rfl) (by kernel_rfl) (by kernel_rfl) (by kernel_rfl) (O_q37z_ok) dorcNil_ok (.of (l := []) (by kernel_rfl) trivial) (e_q37z)

noncomputable def C_q42z : Code := bodyOf Tryz.f84
noncomputable def M_q42z : List (Nat × ArgM) := [(85, ⟨[], [], [], true⟩)]
instance : DfOk M_q42z := .none rfl
noncomputable def O_q42z {ρ : Type} : Orc ρ := orcCons 85 F_q37z (q37z) (orcNil)
omit [UDef] [UTabs] in
theorem O_q42z_ok {ρ : Type} : (O_q42z : Orc ρ).ok Tryz.prog := orcCons_ok (by kernel_rfl) (ok_q37z) (orcNil_ok)
noncomputable def L_q42z {ρ : Type} : LOrc ρ := lorcNil
omit [Tabs] [QuietD Tryz.prog] [UDef] [UTabs] in
theorem e_q42z (x) : evF Tryz.prog 9 TT M_q42z F_q42z (O_q42z) (L_q42z) dorcNil ⟨[], [], []⟩ [.tmp 4] C_q42z x = q42z x := by kernel_rfl
omit [UDef] [UTabs] in
theorem ok_q42z : Contract Tryz.prog 84 F_q42z (q42z) :=
  Contract.of_ev (c := C_q42z) (N := 9) Tryz.func84 (by kernel_rfl) (by kernel_rfl) (by kernel_rfl) (by kernel_rfl) (O_q42z_ok) dorcNil_ok (.of (l := []) (by kernel_rfl) trivial) (e_q42z)

noncomputable def C_q3z : Code := bodyOf Tryz.f83
noncomputable def M_q3z : List (Nat × ArgM) := [(84, ⟨[], [], [], true⟩)]
instance : DfOk M_q3z := .none rfl
noncomputable def O_q3z {ρ : Type} (n : Nat) : Orc ρ := orcCons 84 F_q42z (q42z) (orcNil)
omit [UDef] [UTabs] in
theorem O_q3z_ok {ρ : Type} (n : Nat) : (O_q3z n : Orc ρ).ok Tryz.prog := orcCons_ok (by kernel_rfl) (ok_q42z) (orcNil_ok)
noncomputable def T_q3z_s0 : Tm := ⟨[(2, .fn 84)], [(0, (.lst .node)), (1, .i64), (8, .i64), (9, .i64), (10, .i64)], [], []⟩
noncomputable def X_q3z_s0 : Tm := ⟨[(2, .fn 84)], [(0, (.lst .node)), (1, .i64), (8, .i64), (9, .i64)], [], []⟩
noncomputable def R_q3z_s0 : Tm := ⟨[], [], [], []⟩
noncomputable def L_q3z_s0 {ρ : Type} (n : Nat) : LOrc ρ := lorcNil
omit [Tabs] [QuietD Tryz.prog] [UDef] [UTabs] in
theorem s_q3z_s0 {ρ : Type} (n : Nat) (rec : T_q3z_s0.den → Option ρ) kx kr s : dStep Tryz.prog 49 TT M_q3z (O_q3z n) (L_q3z_s0 n) dorcNil 0 (lbody 1000 C_q3z 0) T_q3z_s0 X_q3z_s0 R_q3z_s0 ⟨[], [], []⟩ rec kx kr s = q3z_s0 n rec kx kr s := by kernel_rfl
noncomputable def L_q3z {ρ : Type} (n : Nat) : LOrc ρ := lorcCons 0 (loopL 49 0 n T_q3z_s0 X_q3z_s0 R_q3z_s0 ⟨[], [], []⟩ (q3z_s0 n)) (lorcNil)
omit [Tabs] [QuietD Tryz.prog] [UDef] [UTabs] in
theorem e_q3z (n : Nat) (x) : evF Tryz.prog 49 TT M_q3z F_q3z (O_q3z n) (L_q3z n) dorcNil ⟨[], [], []⟩ [.tmp 6, .tmp 7] C_q3z x = q3z n x := by kernel_rfl
omit [UDef] [UTabs] in
theorem ok_q3z (n : Nat) : Contract Tryz.prog 83 F_q3z (q3z n) :=
  Contract.of_ev (c := C_q3z) (N := 49) Tryz.func83 (by kernel_rfl) (by kernel_rfl) (by kernel_rfl) (by kernel_rfl) (O_q3z_ok n) dorcNil_ok (.of (l := [(0, (lbody 1000 C_q3z 0))]) (by kernel_rfl) ⟨.head (loopL_sound (O_q3z_ok n) dorcNil_ok (.of (l := []) (by kernel_rfl) trivial) (s_q3z_s0 n)), trivial⟩) (e_q3z n)

noncomputable def C_q53z : Code := bodyOf Tryz.f55
noncomputable def M_q53z : List (Nat × ArgM) := [(83, ⟨[], [], [], true⟩)]
instance : DfOk M_q53z := .none rfl
noncomputable def O_q53z {ρ : Type} (n : Nat) : Orc ρ := orcCons 83 F_q3z (q3z n) (orcNil)
omit [UDef] [UTabs] in
theorem O_q53z_ok {ρ : Type} (n : Nat) : (O_q53z n : Orc ρ).ok Tryz.prog := orcCons_ok (by kernel_rfl) (ok_q3z n) (orcNil_ok)
noncomputable def L_q53z {ρ : Type} (n : Nat) : LOrc ρ := lorcNil
omit [Tabs] [QuietD Tryz.prog] [UDef] [UTabs] in
theorem e_q53z (n : Nat) (x) : evF Tryz.prog 17 TT M_q53z F_q53z (O_q53z n) (L_q53z n) dorcNil ⟨[], [], []⟩ [.tmp 4] C_q53z x = q53z n x := by kernel_rfl
omit [UDef] [UTabs] in
theorem ok_q53z (n : Nat) : Contract Tryz.prog 55 F_q53z (q53z n) :=
  Contract.of_ev (c := C_q53z) (N := 17) Tryz.func55 (by kernel_rfl) (by kernel_rfl) (by kernel_rfl) (by kernel_rfl) (O_q53z_ok n) dorcNil_ok (.of (l := []) (by kernel_rfl) trivial) (e_q53z n)

noncomputable def C_q46z : Code := bodyOf Tryz.f27
noncomputable def M_q46z : List (Nat × ArgM) := [(53, ⟨[], [], [], true⟩), (54, ⟨[], [], [], true⟩), (52, ⟨[], [], [], true⟩), (55, ⟨[], [], [], true⟩), (56, ⟨[], [], [], true⟩)]
instance : DfOk M_q46z := .none rfl
noncomputable def O_q46z {ρ : Type} (n : Nat) : Orc ρ := orcCons 53 F_q43z (q43z n) (orcCons 54 F_q47z (q47z n) (orcCons 52 F_q36z (q36z n) (orcCons 55 F_q53z (q53z n) (orcCons 56 F_q54z (q54z n) (orcNil)))))
omit [UDef] in
theorem O_q46z_ok {ρ : Type} (n : Nat) : (O_q46z n : Orc ρ).ok Tryz.prog := orcCons_ok (by kernel_rfl) (ok_q43z n) (orcCons_ok (by kernel_rfl) (ok_q47z n) (orcCons_ok (by kernel_rfl) (ok_q36z n) (orcCons_ok (by kernel_rfl) (ok_q53z n) (orcCons_ok (by kernel_rfl) (ok_q54z n) (orcNil_ok)))))
noncomputable def T_q46z_s0 : Tm := ⟨[(1, .ptr 1 0)], [(3, .i64), (22, (.lst .node)), (23, .i64), (24, .i64)], [(1, .box [.d .graph])], []⟩
noncomputable def X_q46z_s0 : Tm := ⟨[(1, .ptr 1 0)], [(3, .i64)], [(1, .box [.d .graph])], []⟩
noncomputable def R_q46z_s0 : Tm := ⟨[], [(2, .i64)], [], []⟩
noncomputable def L_q46z_s0 {ρ : Type} (n : Nat) : LOrc ρ := lorcNil
omit [Tabs] [QuietD Tryz.prog] [UDef] [UTabs] in
theorem s_q46z_s0 {ρ : Type} (n : Nat) (rec : T_q46z_s0.den → Option ρ) kx kr s : dStep Tryz.prog 103 TT M_q46z (O_q46z n) (L_q46z_s0 n) (evDraw Tryz.prog 103 TT M_q46z (O_q46z n)) 0 (lbody 1000 C_q46z 0) T_q46z_s0 X_q46z_s0 R_q46z_s0 ⟨[], [], []⟩ rec kx kr s = q46z_s0 n rec kx kr s := by kernel_rfl
noncomputable def T_q46z_s2 : Tm := ⟨[(1, .ptr 1 0)], [(3, .i64), (7, .i64), (48, (.lst .edg)), (49, .i64), (50, .i64)], [(1, .box [.d .graph])], []⟩
noncomputable def X_q46z_s2 : Tm := ⟨[(1, .ptr 1 0)], [(3, .i64), (7, .i64)], [(1, .box [.d .graph])], []⟩
noncomputable def R_q46z_s2 : Tm := ⟨[], [(2, .i64)], [], []⟩
noncomputable def L_q46z_s2 {ρ : Type} (n : Nat) : LOrc ρ := lorcNil
omit [Tabs] [QuietD Tryz.prog] [UDef] [UTabs] in
theorem s_q46z_s2 {ρ : Type} (n : Nat) (rec : T_q46z_s2.den → Option ρ) kx kr s : dStep Tryz.prog 103 TT M_q46z (O_q46z n) (L_q46z_s2 n) (evDraw Tryz.prog 103 TT M_q46z (O_q46z n)) 2 (lbody 1000 C_q46z 1) T_q46z_s2 X_q46z_s2 R_q46z_s2 ⟨[], [], []⟩ rec kx kr s = q46z_s2 n rec kx kr s := by kernel_rfl
noncomputable def L_q46z {ρ : Type} (n : Nat) : LOrc ρ := lorcCons 0 (loopL 103 0 n T_q46z_s0 X_q46z_s0 R_q46z_s0 ⟨[], [], []⟩ (q46z_s0 n)) (lorcCons 2 (loopL 103 2 n T_q46z_s2 X_q46z_s2 R_q46z_s2 ⟨[], [], []⟩ (q46z_s2 n)) (lorcNil))
omit [Tabs] [QuietD Tryz.prog] [UDef] [UTabs] in
theorem e_q46z (n : Nat) (x) : evF Tryz.prog 103 TT M_q46z F_q46z (O_q46z n) (L_q46z n) (evDraw Tryz.prog 103 TT M_q46z (O_q46z n)) ⟨[], [], []⟩ [.tmp 2] C_q46z x = q46z n x := by kernel_rfl
omit [UDef] in
theorem ok_q46z (n : Nat) : Contract Tryz.prog 27 F_q46z (q46z n) :=
  Contract.of_ev (c := C_q46z) (N := 103) Tryz.func27 (by kernel_rfl) (by kernel_rfl) (by kernel_rfl) (by kernel_rfl) (O_q46z_ok n) (evDraw_ok (O_q46z_ok n) (by kernel_rfl)) (.of (l := [(0, (lbody 1000 C_q46z 0)), (2, (lbody 1000 C_q46z 1))]) (by kernel_rfl) ⟨.head (loopL_sound (O_q46z_ok n) (evDraw_ok (O_q46z_ok n) (by kernel_rfl)) (.of (l := []) (by kernel_rfl) trivial) (s_q46z_s0 n)), ⟨.tail rfl (.head (loopL_sound (O_q46z_ok n) (evDraw_ok (O_q46z_ok n) (by kernel_rfl)) (.of (l := []) (by kernel_rfl) trivial) (s_q46z_s2 n))), trivial⟩⟩) (e_q46z n)

noncomputable def F_q44z : FnT := ⟨2, ⟨[(1, .ptr 1000000 0)], [(0, (.lst .str))], [(1000000, .box [.ref (.pn 1000000), .ref (.own 1000001)] (some 45)), (1000001, .arr 5 .u8)], []⟩, [], [(1000000, .box [.ref (.pn 1000000), .ref (.own 1000001)] (some 45)), (1000001, .arr 5 .u8)]⟩
noncomputable def F_q6z : FnT := ⟨2, ⟨[(0, .ptr 1000000 0)], [(1, .str)], [(1000000, .box [.ref (.pn 1000000), .ref (.own 1000001)] (some 45)), (1000001, .arr 5 .u8)], []⟩, [.v .i64, .ref (.nili)], [(1000000, .box [.ref (.pn 1000000), .ref (.own 1000001)] (some 45)), (1000001, .arr 5 .u8)]⟩
noncomputable def C_q6z : Code := bodyOf Tryz.f29
noncomputable def M_q6z : List (Nat × ArgM) := [(57, ⟨[0], [], [], false⟩)]
instance : DfOk M_q6z := .none rfl
noncomputable def O_q6z {ρ : Type} : Orc ρ := orcCons 57 F_cc (copyCheckN) (orcNil)
omit [QuietD Tryz.prog] [UDef] [UTabs] in
theorem O_q6z_ok {ρ : Type} : (O_q6z : Orc ρ).ok Tryz.prog := orcCons_ok (by kernel_rfl) (copyCheckN_ok) (orcNil_ok)
noncomputable def L_q6z {ρ : Type} : LOrc ρ := lorcNil
omit [Tabs] [QuietD Tryz.prog] [UDef] [UTabs] in
theorem e_q6z (x) : evF Tryz.prog 19 TT M_q6z F_q6z (O_q6z) (L_q6z) dorcNil ⟨[], [], []⟩ [.tmp 4, .tmp 5] C_q6z x = q6z x := by kernel_rfl
omit [UDef] [UTabs] in
theorem ok_q6z : Contract Tryz.prog 29 F_q6z (q6z) :=
  Contract.of_ev (c := C_q6z) (N := 19) Tryz.func29 (by kernel_rfl) (by kernel_rfl) (by kernel_rfl) (by kernel_rfl) (O_q6z_ok) dorcNil_ok (.of (l := []) (by kernel_rfl) trivial) (e_q6z)

noncomputable def C_q44z : Code := bodyOf Tryz.f28
noncomputable def M_q44z : List (Nat × ArgM) := [(29, ⟨[0], [], [], false⟩)]
instance : DfOk M_q44z := .none rfl
noncomputable def O_q44z {ρ : Type} (n : Nat) : Orc ρ := orcCons 29 F_q6z (q6z) (orcNil)
omit [UDef] [UTabs] in
theorem O_q44z_ok {ρ : Type} (n : Nat) : (O_q44z n : Orc ρ).ok Tryz.prog := orcCons_ok (by kernel_rfl) (ok_q6z) (orcNil_ok)
noncomputable def T_q44z_s0 : Tm := ⟨[(1, .ptr 1000000 0)], [(5, (.lst .str)), (6, .i64), (7, .i64)], [(1000000, .box [.ref (.pn 1000000), .ref (.own 1000001)] (some 45)), (1000001, .arr 5 .u8)], []⟩
noncomputable def X_q44z_s0 : Tm := ⟨[], [], [(1000000, .box [.ref (.pn 1000000), .ref (.own 1000001)] (some 45)), (1000001, .arr 5 .u8)], []⟩
noncomputable def R_q44z_s0 : Tm := ⟨[], [], [], []⟩
noncomputable def L_q44z_s0 {ρ : Type} (n : Nat) : LOrc ρ := lorcNil
omit [Tabs] [QuietD Tryz.prog] [UDef] [UTabs] in
theorem s_q44z_s0 {ρ : Type} (n : Nat) (rec : T_q44z_s0.den → Option ρ) kx kr s : dStep Tryz.prog 14 TT M_q44z (O_q44z n) (L_q44z_s0 n) dorcNil 0 (lbody 1000 C_q44z 0) T_q44z_s0 X_q44z_s0 R_q44z_s0 ⟨[], [], []⟩ rec kx kr s = q44z_s0 n rec kx kr s := by kernel_rfl
noncomputable def L_q44z {ρ : Type} (n : Nat) : LOrc ρ := lorcCons 0 (loopL 14 0 n T_q44z_s0 X_q44z_s0 R_q44z_s0 ⟨[], [], []⟩ (q44z_s0 n)) (lorcNil)
omit [Tabs] [QuietD Tryz.prog] [UDef] [UTabs] in
theorem e_q44z (n : Nat) (x) : evF Tryz.prog 14 TT M_q44z F_q44z (O_q44z n) (L_q44z n) dorcNil ⟨[], [], []⟩ [] C_q44z x = q44z n x := by kernel_rfl
omit [UDef] [UTabs] in
theorem ok_q44z (n : Nat) : Contract Tryz.prog 28 F_q44z (q44z n) :=
  Contract.of_ev (c := C_q44z) (N := 14) Tryz.func28 (by kernel_rfl) (by kernel_rfl) (by kernel_rfl) (by kernel_rfl) (O_q44z_ok n) dorcNil_ok (.of (l := [(0, (lbody 1000 C_q44z 0))]) (by kernel_rfl) ⟨.head (loopL_sound (O_q44z_ok n) dorcNil_ok (.of (l := []) (by kernel_rfl) trivial) (s_q44z_s0 n)), trivial⟩) (e_q44z n)

noncomputable def F_q45z : FnT := ⟨3, ⟨[(1, .ptr 1000000 0), (2, .ptr 1000016 0)], [(0, (.lst .prp))], [(1000000, .box [.d .bool]), (1000016, .box [.ref (.clo 28 [1000017])]), (1000017, .box [.ref (.pn 1000017), .ref (.own 1000018)] (some 45)), (1000018, .arr 5 .u8)], []⟩, [], [(1000000, .box [.d .bool]), (1000016, .box [.ref (.clo 28 [1000017])]), (1000017, .box [.ref (.pn 1000017), .ref (.own 1000018)] (some 45)), (1000018, .arr 5 .u8)]⟩
noncomputable def F_q50z : FnT := ⟨1, ⟨[], [(0, .val)], [], []⟩, [.v .str, .v .i64], []⟩
noncomputable def F_q59z : FnT := ⟨2, ⟨[(0, .ptr 1000000 0)], [(1, .val)], [(1000000, .box [.ref (.pn 1000000), .ref (.own 1000001)] (some 45)), (1000001, .arr 5 .u8)], []⟩, [], [(1000000, .box [.ref (.pn 1000000), .ref (.own 1000001)] (some 45)), (1000001, .arr 5 .u8)]⟩
noncomputable def F_q32z : FnT := ⟨1, ⟨[], [(0, .bool)], [], []⟩, [.v .str], []⟩
noncomputable def F_q7z : FnT := ⟨1, ⟨[], [(0, .bool)], [], []⟩, [.v .str], []⟩
noncomputable def C_q7z : Code := bodyOf Tryz.f68
noncomputable def M_q7z : List (Nat × ArgM) := []
instance : DfOk M_q7z := .none rfl
noncomputable def O_q7z {ρ : Type} : Orc ρ := orcNil
omit [QuietD Tryz.prog] [UDef] [UTabs] in
theorem O_q7z_ok {ρ : Type} : (O_q7z : Orc ρ).ok Tryz.prog := orcNil_ok
noncomputable def L_q7z {ρ : Type} : LOrc ρ := lorcNil
omit [Tabs] [QuietD Tryz.prog] [UDef] [UTabs] in
theorem e_q7z (x) : evF Tryz.prog 4 TT M_q7z F_q7z (O_q7z) (L_q7z) dorcNil ⟨[], [], []⟩ [.tmp 2] C_q7z x = q7z x := by kernel_rfl
omit [UDef] [UTabs] in
theorem ok_q7z : Contract Tryz.prog 68 F_q7z (q7z) :=
  Contract.of_ev (c := C_q7z) (N := 4) Tryz.func68 (by kernel_rfl) (by kernel_rfl) (by kernel_rfl) (by kernel_rfl) (O_q7z_ok) dorcNil_ok (.of (l := []) (by kernel_rfl) trivial) (e_q7z)

noncomputable def C_q32z : Code := bodyOf Tryz.f41
noncomputable def M_q32z : List (Nat × ArgM) := [(68, ⟨[], [], [], true⟩)]
instance : DfOk M_q32z := .none rfl
noncomputable def O_q32z {ρ : Type} : Orc ρ := orcCons 68 F_q7z (q7z) (orcNil)
omit [UDef] [UTabs] in
theorem O_q32z_ok {ρ : Type} : (O_q32z : Orc ρ).ok Tryz.prog := orcCons_ok (by kernel_rfl) (ok_q7z) (orcNil_ok)
noncomputable def L_q32z {ρ : Type} : LOrc ρ := lorcNil
omit [Tabs] [QuietD Tryz.prog] [UDef] [UTabs] in
theorem e_q32z (x) : evF Tryz.prog 5 TT M_q32z F_q32z (O_q32z) (L_q32z) dorcNil ⟨[], [], []⟩ [.tmp 2] C_q32z x = q32z x := by kernel_rfl
omit [UDef] [UTabs] in
theorem ok_q32z : Contract Tryz.prog 41 F_q32z (q32z) :=
  Contract.of_ev (c := C_q32z) (N := 5) Tryz.func41 (by kernel_rfl) (by kernel_rfl) (by kernel_rfl) (by kernel_rfl) (O_q32z_ok) dorcNil_ok (.of (l := []) (by kernel_rfl) trivial) (e_q32z)

noncomputable def F_q8z : FnT := ⟨2, ⟨[(0, .ptr 1000000 0)], [(1, .u8)], [(1000000, .box [.ref (.pn 1000000), .ref (.own 1000001)] (some 45)), (1000001, .arr 5 .u8)], []⟩, [.ref (.nili)], [(1000000, .box [.ref (.pn 1000000), .ref (.own 1000001)] (some 45)), (1000001, .arr 5 .u8)]⟩
noncomputable def C_q8z : Code := bodyOf Tryz.f42
noncomputable def M_q8z : List (Nat × ArgM) := [(57, ⟨[0], [], [], false⟩)]
instance : DfOk M_q8z := .none rfl
noncomputable def O_q8z {ρ : Type} : Orc ρ := orcCons 57 F_cc (copyCheckN) (orcNil)
omit [QuietD Tryz.prog] [UDef] [UTabs] in
theorem O_q8z_ok {ρ : Type} : (O_q8z : Orc ρ).ok Tryz.prog := orcCons_ok (by kernel_rfl) (copyCheckN_ok) (orcNil_ok)
noncomputable def L_q8z {ρ : Type} : LOrc ρ := lorcNil
omit [Tabs] [QuietD Tryz.prog] [UDef] [UTabs] in
theorem e_q8z (x) : evF Tryz.prog 17 TT M_q8z F_q8z (O_q8z) (L_q8z) dorcNil ⟨[], [], []⟩ [.tmp 4] C_q8z x = q8z x := by kernel_rfl
omit [UDef] [UTabs] in
theorem ok_q8z : Contract Tryz.prog 42 F_q8z (q8z) :=
  Contract.of_ev (c := C_q8z) (N := 17) Tryz.func42 (by kernel_rfl) (by kernel_rfl) (by kernel_rfl) (by kernel_rfl) (O_q8z_ok) dorcNil_ok (.of (l := []) (by kernel_rfl) trivial) (e_q8z)

noncomputable def F_q9z : FnT := ⟨2, ⟨[(0, .ptr 1000000 0)], [(1, .i32)], [(1000000, .box [.ref (.pn 1000000), .ref (.own 1000001)] (some 45)), (1000001, .arr 5 .u8)], []⟩, [.v .i64, .ref (.nili)], [(1000000, .box [.ref (.pn 1000000), .ref (.own 1000001)] (some 45)), (1000001, .arr 5 .u8)]⟩
noncomputable def F_q14z : FnT := ⟨2, ⟨[(0, .own 1000000)], [(1, .i32)], [(1000000, .arr 5 .u8)], []⟩, [.ref (.own 1000000)], [(1000000, .arr 5 .u8)]⟩
noncomputable def F_q4z : FnT := ⟨2, ⟨[(0, .own 1000000)], [(1, .i32)], [(1000000, .arr 5 .u8)], []⟩, [.ref (.own 1000000)], [(1000000, .arr 5 .u8)]⟩
noncomputable def C_q4z : Code := bodyOf Tryz.f99
noncomputable def M_q4z : List (Nat × ArgM) := []
instance : DfOk M_q4z := .none rfl
noncomputable def O_q4z {ρ : Type} : Orc ρ := orcNil
omit [QuietD Tryz.prog] [UDef] [UTabs] in
theorem O_q4z_ok {ρ : Type} : (O_q4z : Orc ρ).ok Tryz.prog := orcNil_ok
noncomputable def L_q4z {ρ : Type} : LOrc ρ := lorcNil
omit [Tabs] [QuietD Tryz.prog] [UDef] [UTabs] in
theorem e_q4z (x) : evF Tryz.prog 78 TT M_q4z F_q4z (O_q4z) (L_q4z) dorcNil ⟨[], [], []⟩ [.tmp 4] C_q4z x = q4z x := by kernel_rfl
omit [UDef] [UTabs] in
theorem ok_q4z : Contract Tryz.prog 99 F_q4z (q4z) :=
  Contract.of_ev (c := C_q4z) (N := 78) Tryz.func99 (by kernel_rfl) (by kernel_rfl) (by kernel_rfl) (by kernel_rfl) (O_q4z_ok) dorcNil_ok (.of (l := []) (by kernel_rfl) trivial) (e_q4z)

noncomputable def C_q14z : Code := bodyOf Tryz.f69
noncomputable def M_q14z : List (Nat × ArgM) := [(99, ⟨[0], [⟨0, 1000000, 5, 1⟩], [], false⟩)]
instance : DfOk M_q14z := .none rfl
noncomputable def O_q14z {ρ : Type} : Orc ρ := orcCons 99 F_q4z (q4z) (orcNil)
omit [UDef] [UTabs] in
theorem O_q14z_ok {ρ : Type} : (O_q14z : Orc ρ).ok Tryz.prog := orcCons_ok (by kernel_rfl) (ok_q4z) (orcNil_ok)
noncomputable def L_q14z {ρ : Type} : LOrc ρ := lorcNil
omit [Tabs] [QuietD Tryz.prog] [UDef] [UTabs] in
theorem e_q14z (x) : evF Tryz.prog 16 TT M_q14z F_q14z (O_q14z) (L_q14z) dorcNil ⟨[], [], []⟩ [.tmp 4] C_q14z x = q14z x := by kernel_rfl
omit [UDef] [UTabs] in
theorem ok_q14z : Contract Tryz.prog 69 F_q14z (q14z) :=
  Contract.of_ev (c := C_q14z) (N := 16) Tryz.func69 (by kernel_rfl) (by kernel_rfl) (by kernel_rfl) (by kernel_rfl) (O_q14z_ok) dorcNil_ok (.of (l := []) (by kernel_rfl) trivial) (e_q14z)

noncomputable def C_q9z : Code := bodyOf Tryz.f43
noncomputable def M_q9z : List (Nat × ArgM) := [(57, ⟨[0], [], [], false⟩), (69, ⟨[0], [⟨0, 1000000, 5, 1⟩], [], false⟩)]
instance : DfOk M_q9z := .none rfl
noncomputable def O_q9z {ρ : Type} : Orc ρ := orcCons 57 F_cc (copyCheckN) (orcCons 69 F_q14z (q14z) (orcNil))
omit [UDef] [UTabs] in
theorem O_q9z_ok {ρ : Type} : (O_q9z : Orc ρ).ok Tryz.prog := orcCons_ok (by kernel_rfl) (copyCheckN_ok) (orcCons_ok (by kernel_rfl) (ok_q14z) (orcNil_ok))
noncomputable def L_q9z {ρ : Type} : LOrc ρ := lorcNil
omit [Tabs] [QuietD Tryz.prog] [UDef] [UTabs] in
theorem e_q9z (x) : evF Tryz.prog 30 TT M_q9z F_q9z (O_q9z) (L_q9z) dorcNil ⟨[], [], []⟩ [.tmp 4, .tmp 5] C_q9z x = q9z x := by kernel_rfl
omit [UDef] [UTabs] in
theorem ok_q9z : Contract Tryz.prog 43 F_q9z (q9z) :=
  Contract.of_ev (c := C_q9z) (N := 30) Tryz.func43 (by kernel_rfl) (by kernel_rfl) (by kernel_rfl) (by kernel_rfl) (O_q9z_ok) dorcNil_ok (.of (l := []) (by kernel_rfl) trivial) (e_q9z)

noncomputable def C_q59z : Code := bodyOf Tryz.f14
noncomputable def M_q59z : List (Nat × ArgM) := [(29, ⟨[0], [], [], false⟩), (42, ⟨[0], [], [], false⟩), (43, ⟨[0], [], [], false⟩), (14, ⟨[0], [], [], false⟩), (41, ⟨[], [], [], true⟩), (31, ⟨[], [], [], true⟩)]
instance : DfOk M_q59z := .none rfl
noncomputable def O_q59z {ρ : Type} (self_q59z : Ev.Val × Unit × (List Int) × Unit → Option (Unit × (List Int) × Unit)) (n : Nat) : Orc ρ := orcCons 29 F_q6z (q6z) (orcCons 41 F_q32z (q32z) (orcCons 31 F_itoa (itoaN) (orcCons 42 F_q8z (q8z) (orcCons 43 F_q9z (q9z) (orcCons 14 F_q59z (self_q59z) (orcNil))))))
omit [UDef] in
theorem O_q59z_ok {ρ : Type} (self_q59z : Ev.Val × Unit × (List Int) × Unit → Option (Unit × (List Int) × Unit)) (h_q59z : Contract Tryz.prog 14 F_q59z self_q59z) (n : Nat) : (O_q59z self_q59z n : Orc ρ).ok Tryz.prog := orcCons_ok (by kernel_rfl) (ok_q6z) (orcCons_ok (by kernel_rfl) (ok_q32z) (orcCons_ok (by kernel_rfl) (itoaN_ok) (orcCons_ok (by kernel_rfl) (ok_q8z) (orcCons_ok (by kernel_rfl) (ok_q9z) (orcCons_ok (by kernel_rfl) (h_q59z) (orcNil_ok))))))
noncomputable def T_q59z_s1 : Tm := ⟨[(0, .ptr 1000000 0), (35, .ptr 35 0)], [], [(35, .it), (1000000, .box [.ref (.pn 1000000), .ref (.own 1000001)] (some 45)), (1000001, .arr 5 .u8)], []⟩
noncomputable def X_q59z_s1 : Tm := ⟨[(0, .ptr 1000000 0)], [], [(1000000, .box [.ref (.pn 1000000), .ref (.own 1000001)] (some 45)), (1000001, .arr 5 .u8)], []⟩
noncomputable def R_q59z_s1 : Tm := ⟨[], [], [], []⟩
noncomputable def L_q59z_s1 {ρ : Type} (self_q59z : Ev.Val × Unit × (List Int) × Unit → Option (Unit × (List Int) × Unit)) (n : Nat) : LOrc ρ := lorcNil
omit [Tabs] [QuietD Tryz.prog] [UDef] [UTabs] in
theorem s_q59z_s1 {ρ : Type} (self_q59z : Ev.Val × Unit × (List Int) × Unit → Option (Unit × (List Int) × Unit)) (n : Nat) (rec : T_q59z_s1.den → Option ρ) kx kr s : dStep Tryz.prog 76 TT M_q59z (O_q59z self_q59z n) (L_q59z_s1 self_q59z n) dorcNil 1 (lbody 1000 C_q59z 0) T_q59z_s1 X_q59z_s1 R_q59z_s1 ⟨[], [], []⟩ rec kx kr s = q59z_s1 self_q59z n rec kx kr s := by kernel_rfl
noncomputable def T_q59z_s4 : Tm := ⟨[(0, .ptr 1000000 0)], [(59, (.lst .val)), (60, .i64), (61, .i64)], [(1000000, .box [.ref (.pn 1000000), .ref (.own 1000001)] (some 45)), (1000001, .arr 5 .u8)], []⟩
noncomputable def X_q59z_s4 : Tm := ⟨[(0, .ptr 1000000 0)], [], [(1000000, .box [.ref (.pn 1000000), .ref (.own 1000001)] (some 45)), (1000001, .arr 5 .u8)], []⟩
noncomputable def R_q59z_s4 : Tm := ⟨[], [], [], []⟩
noncomputable def L_q59z_s4 {ρ : Type} (self_q59z : Ev.Val × Unit × (List Int) × Unit → Option (Unit × (List Int) × Unit)) (n : Nat) : LOrc ρ := lorcNil
omit [Tabs] [QuietD Tryz.prog] [UDef] [UTabs] in
theorem s_q59z_s4 {ρ : Type} (self_q59z : Ev.Val × Unit × (List Int) × Unit → Option (Unit × (List Int) × Unit)) (n : Nat) (rec : T_q59z_s4.den → Option ρ) kx kr s : dStep Tryz.prog 76 TT M_q59z (O_q59z self_q59z n) (L_q59z_s4 self_q59z n) dorcNil 4 (lbody 1000 C_q59z 1) T_q59z_s4 X_q59z_s4 R_q59z_s4 ⟨[], [], []⟩ rec kx kr s = q59z_s4 self_q59z n rec kx kr s := by kernel_rfl
noncomputable def L_q59z {ρ : Type} (self_q59z : Ev.Val × Unit × (List Int) × Unit → Option (Unit × (List Int) × Unit)) (n : Nat) : LOrc ρ := lorcCons 1 (loopL 76 1 n T_q59z_s1 X_q59z_s1 R_q59z_s1 ⟨[], [], []⟩ (q59z_s1 self_q59z n)) (lorcCons 4 (loopL 76 4 n T_q59z_s4 X_q59z_s4 R_q59z_s4 ⟨[], [], []⟩ (q59z_s4 self_q59z n)) (lorcNil))
omit [Tabs] [QuietD Tryz.prog] [UDef] [UTabs] in
theorem e_q59z (self_q59z : Ev.Val × Unit × (List Int) × Unit → Option (Unit × (List Int) × Unit)) (n : Nat) (x) : evF Tryz.prog 76 TT M_q59z F_q59z (O_q59z self_q59z n) (L_q59z self_q59z n) dorcNil ⟨[], [], []⟩ [] C_q59z x = q59z_b self_q59z n x := by kernel_rfl
omit [UDef] in
theorem okb_q59z (self_q59z : Ev.Val × Unit × (List Int) × Unit → Option (Unit × (List Int) × Unit)) (h_q59z : Contract Tryz.prog 14 F_q59z self_q59z) (n : Nat) : Contract Tryz.prog 14 F_q59z (q59z_b self_q59z n) :=
  Contract.of_ev (c := C_q59z) (N := 76) Tryz.func14 (by kernel_rfl) (by kernel_rfl) (by kernel_rfl) (by kernel_rfl) (O_q59z_ok self_q59z h_q59z n) dorcNil_ok (.of (l := [(1, (lbody 1000 C_q59z 0)), (4, (lbody 1000 C_q59z 1))]) (by kernel_rfl) ⟨.head (loopL_sound (O_q59z_ok self_q59z h_q59z n) dorcNil_ok (.of (l := []) (by kernel_rfl) trivial) (s_q59z_s1 self_q59z n)), ⟨.tail rfl (.head (loopL_sound (O_q59z_ok self_q59z h_q59z n) dorcNil_ok (.of (l := []) (by kernel_rfl) trivial) (s_q59z_s4 self_q59z n))), trivial⟩⟩) (e_q59z self_q59z n)
omit [UDef] in
theorem ok_q59z : ∀ n, Contract Tryz.prog 14 F_q59z (q59z n)
  | 0 => fun _ _ h => by cases h
  | n + 1 => okb_q59z _ (ok_q59z n) n

noncomputable def F_q25z : FnT := ⟨1, ⟨[(0, .ptr 1000000 0)], [], [(1000000, .box [.ref (.pn 1000000), .ref (.own 1000001)] (some 45)), (1000001, .arr 5 .u8)], []⟩, [.v .i64], [(1000000, .box [.ref (.pn 1000000), .ref (.own 1000001)] (some 45)), (1000001, .arr 5 .u8)]⟩
noncomputable def C_q25z : Code := bodyOf Tryz.f15
noncomputable def M_q25z : List (Nat × ArgM) := []
instance : DfOk M_q25z := .none rfl
noncomputable def O_q25z {ρ : Type} : Orc ρ := orcNil
omit [QuietD Tryz.prog] [UDef] [UTabs] in
theorem O_q25z_ok {ρ : Type} : (O_q25z : Orc ρ).ok Tryz.prog := orcNil_ok
noncomputable def L_q25z {ρ : Type} : LOrc ρ := lorcNil
omit [Tabs] [QuietD Tryz.prog] [UDef] [UTabs] in
theorem e_q25z (x) : evF Tryz.prog 8 TT M_q25z F_q25z (O_q25z) (L_q25z) dorcNil ⟨[], [], []⟩ [.tmp 2] C_q25z x = q25z x := by kernel_rfl
omit [UDef] [UTabs] in
theorem ok_q25z : Contract Tryz.prog 15 F_q25z (q25z) :=
  Contract.of_ev (c := C_q25z) (N := 8) Tryz.func15 (by kernel_rfl) (by kernel_rfl) (by kernel_rfl) (by kernel_rfl) (O_q25z_ok) dorcNil_ok (.of (l := []) (by kernel_rfl) trivial) (e_q25z)

noncomputable def C_q50z : Code := bodyOf Tryz.f5
noncomputable def M_q50z : List (Nat × ArgM) := [(999999996, ⟨[45, 5], [], [], false⟩), (14, ⟨[0], [], [], false⟩), (15, ⟨[0], [], [], false⟩), (16, ⟨[0], [], [], false⟩), (13, ⟨[], [], [], true⟩)]
instance : DfOk M_q50z := .none rfl
noncomputable def O_q50z {ρ : Type} (n : Nat) : Orc ρ := orcCons 13 F_q48z (q48z n) (orcCons 14 F_q59z (q59z n) (orcCons 15 F_q25z (q25z) (orcCons 16 F_st (stringN) (orcNil))))
omit [UDef] in
theorem O_q50z_ok {ρ : Type} (n : Nat) : (O_q50z n : Orc ρ).ok Tryz.prog := orcCons_ok (by kernel_rfl) (ok_q48z n) (orcCons_ok (by kernel_rfl) (ok_q59z n) (orcCons_ok (by kernel_rfl) (ok_q25z) (orcCons_ok (by kernel_rfl) (stringN_ok) (orcNil_ok))))
noncomputable def L_q50z {ρ : Type} (n : Nat) : LOrc ρ := lorcNil
omit [Tabs] [QuietD Tryz.prog] [UDef] [UTabs] in
theorem e_q50z (n : Nat) (x) : evF Tryz.prog 16 TT M_q50z F_q50z (O_q50z n) (L_q50z n) dorcNil ⟨[], [], []⟩ [.tmp 2, .tmp 3] C_q50z x = q50z n x := by kernel_rfl
omit [UDef] in
theorem ok_q50z (n : Nat) : Contract Tryz.prog 5 F_q50z (q50z n) :=
  Contract.of_ev (c := C_q50z) (N := 16) Tryz.func5 (by kernel_rfl) (by kernel_rfl) (by kernel_rfl) (by kernel_rfl) (O_q50z_ok n) dorcNil_ok (.of (l := []) (by kernel_rfl) trivial) (e_q50z n)

noncomputable def C_q45z : Code := bodyOf Tryz.f30
noncomputable def M_q45z : List (Nat × ArgM) := [(28, ⟨[1], [], [], false⟩), (5, ⟨[], [], [], true⟩)]
instance : DfOk M_q45z := .none rfl
noncomputable def O_q45z {ρ : Type} (n : Nat) : Orc ρ := orcCons 5 F_q50z (q50z n) (orcCons 28 F_q44z (q44z n) (orcNil))
omit [UDef] in
theorem O_q45z_ok {ρ : Type} (n : Nat) : (O_q45z n : Orc ρ).ok Tryz.prog := orcCons_ok (by kernel_rfl) (ok_q50z n) (orcCons_ok (by kernel_rfl) (ok_q44z n) (orcNil_ok))
noncomputable def T_q45z_s0 : Tm := ⟨[(1, .ptr 1000000 0), (2, .ptr 1000016 0)], [(8, (.lst .prp)), (9, .i64), (10, .i64)], [(1000000, .box [.d .bool]), (1000016, .box [.ref (.clo 28 [1000017])]), (1000017, .box [.ref (.pn 1000017), .ref (.own 1000018)] (some 45)), (1000018, .arr 5 .u8)], []⟩
noncomputable def X_q45z_s0 : Tm := ⟨[(2, .ptr 1000016 0)], [], [(1000000, .box [.d .bool]), (1000016, .box [.ref (.clo 28 [1000017])]), (1000017, .box [.ref (.pn 1000017), .ref (.own 1000018)] (some 45)), (1000018, .arr 5 .u8)], []⟩
noncomputable def R_q45z_s0 : Tm := ⟨[], [], [], []⟩
noncomputable def L_q45z_s0 {ρ : Type} (n : Nat) : LOrc ρ := lorcNil
omit [Tabs] [QuietD Tryz.prog] [UDef] [UTabs] in
theorem s_q45z_s0 {ρ : Type} (n : Nat) (rec : T_q45z_s0.den → Option ρ) kx kr s : dStep Tryz.prog 32 TT M_q45z (O_q45z n) (L_q45z_s0 n) dorcNil 0 (lbody 1000 C_q45z 0) T_q45z_s0 X_q45z_s0 R_q45z_s0 ⟨[], [], []⟩ rec kx kr s = q45z_s0 n rec kx kr s := by kernel_rfl
noncomputable def L_q45z {ρ : Type} (n : Nat) : LOrc ρ := lorcCons 0 (loopL 32 0 n T_q45z_s0 X_q45z_s0 R_q45z_s0 ⟨[], [], []⟩ (q45z_s0 n)) (lorcNil)
omit [Tabs] [QuietD Tryz.prog] [UDef] [UTabs] in
theorem e_q45z (n : Nat) (x) : evF Tryz.prog 32 TT M_q45z F_q45z (O_q45z n) (L_q45z n) dorcNil ⟨[], [], []⟩ [] C_q45z x = q45z n x := by kernel_rfl
omit [UDef] in
theorem ok_q45z (n : Nat) : Contract Tryz.prog 30 F_q45z (q45z n) :=
  Contract.of_ev (c := C_q45z) (N := 32) Tryz.func30 (by kernel_rfl) (by kernel_rfl) (by kernel_rfl) (by kernel_rfl) (O_q45z_ok n) dorcNil_ok (.of (l := [(0, (lbody 1000 C_q45z 0))]) (by kernel_rfl) ⟨.head (loopL_sound (O_q45z_ok n) dorcNil_ok (.of (l := []) (by kernel_rfl) trivial) (s_q45z_s0 n)), trivial⟩) (e_q45z n)

noncomputable def C_q56z : Code := bodyOf Tryz.f9
noncomputable def M_q56z : List (Nat × ArgM) := [(999999994, ⟨[27, 40, 78], [], [], false⟩), (999999996, ⟨[45, 5], [], [], false⟩), (30, ⟨[1, 2], [], [], false⟩), (28, ⟨[1], [], [], false⟩), (15, ⟨[0], [], [], false⟩), (16, ⟨[0], [], [], false⟩), (27, ⟨[], [], [], true⟩), (31, ⟨[], [], [], true⟩)]
instance : DfOk M_q56z := .none rfl
noncomputable def O_q56z {ρ : Type} (n : Nat) : Orc ρ := orcCons 27 F_q46z (q46z n) (orcCons 31 F_itoa (itoaN) (orcCons 28 F_q44z (q44z n) (orcCons 30 F_q45z (q45z n) (orcCons 15 F_q25z (q25z) (orcCons 16 F_st (stringN) (orcNil))))))
omit [UDef] in
theorem O_q56z_ok {ρ : Type} (n : Nat) : (O_q56z n : Orc ρ).ok Tryz.prog := orcCons_ok (by kernel_rfl) (ok_q46z n) (orcCons_ok (by kernel_rfl) (itoaN_ok) (orcCons_ok (by kernel_rfl) (ok_q44z n) (orcCons_ok (by kernel_rfl) (ok_q45z n) (orcCons_ok (by kernel_rfl) (ok_q25z) (orcCons_ok (by kernel_rfl) (stringN_ok) (orcNil_ok))))))
noncomputable def T_q56z_s2 : Tm := ⟨[(1, .ptr 1 0), (5, .ptr 5 0), (6, .ptr 6 0), (7, .ptr 7 0), (8, .clo 30 [6, 7]), (10, .ptr 10 0)], [(29, (.lst .node)), (30, .i64), (31, .i64), (42, (.lst .str)), (43, .i64), (44, .i64)], [(1, .box [.d .graph]), (5, .box [.ref (.pn 5), .ref (.own 500005)] (some 45)), (6, .box [.d .bool]), (7, .box [.ref (.clo 28 [5])]), (10, .box [.d .node]), (500005, .arr 5 .u8)], []⟩
noncomputable def X_q56z_s2 : Tm := ⟨[(1, .ptr 1 0), (5, .ptr 5 0), (6, .ptr 6 0), (7, .ptr 7 0), (8, .clo 30 [6, 7]), (10, .ptr 10 0)], [(29, (.lst .node)), (30, .i64), (31, .i64)], [(1, .box [.d .graph]), (5, .box [.ref (.pn 5), .ref (.own 500005)] (some 45)), (6, .box [.d .bool]), (7, .box [.ref (.clo 28 [5])]), (10, .box [.d .node]), (500005, .arr 5 .u8)], []⟩
noncomputable def R_q56z_s2 : Tm := ⟨[], [], [], []⟩
noncomputable def L_q56z_s2 {ρ : Type} (n : Nat) : LOrc ρ := lorcNil
omit [Tabs] [QuietD Tryz.prog] [UDef] [UTabs] in
theorem s_q56z_s2 {ρ : Type} (n : Nat) (rec : T_q56z_s2.den → Option ρ) kx kr s : dStep Tryz.prog 90 TT M_q56z (O_q56z n) (L_q56z_s2 n) (evDraw Tryz.prog 90 TT M_q56z (O_q56z n)) 2 (lbody 0 (lbody 1000 C_q56z 0) 0) T_q56z_s2 X_q56z_s2 R_q56z_s2 ⟨[], [], []⟩ rec kx kr s = q56z_s2 n rec kx kr s := by kernel_rfl
noncomputable def T_q56z_s0 : Tm := ⟨[(1, .ptr 1 0), (5, .ptr 5 0), (6, .ptr 6 0), (7, .ptr 7 0), (8, .clo 30 [6, 7])], [(29, (.lst .node)), (30, .i64), (31, .i64)], [(1, .box [.d .graph]), (5, .box [.ref (.pn 5), .ref (.own 500005)] (some 45)), (6, .box [.d .bool]), (7, .box [.ref (.clo 28 [5])]), (500005, .arr 5 .u8)], []⟩
noncomputable def X_q56z_s0 : Tm := ⟨[(1, .ptr 1 0), (5, .ptr 5 0), (6, .ptr 6 0), (7, .ptr 7 0), (8, .clo 30 [6, 7])], [], [(1, .box [.d .graph]), (5, .box [.ref (.pn 5), .ref (.own 500005)] (some 45)), (6, .box [.d .bool]), (7, .box [.ref (.clo 28 [5])]), (500005, .arr 5 .u8)], []⟩
noncomputable def R_q56z_s0 : Tm := ⟨[], [], [], []⟩
noncomputable def L_q56z_s0 {ρ : Type} (n : Nat) : LOrc ρ := lorcCons 2 (loopL 90 2 n T_q56z_s2 X_q56z_s2 R_q56z_s2 ⟨[], [], []⟩ (q56z_s2 n)) (lorcNil)
omit [Tabs] [QuietD Tryz.prog] [UDef] [UTabs] in
theorem s_q56z_s0 {ρ : Type} (n : Nat) (rec : T_q56z_s0.den → Option ρ) kx kr s : dStep Tryz.prog 90 TT M_q56z (O_q56z n) (L_q56z_s0 n) (evDraw Tryz.prog 90 TT M_q56z (O_q56z n)) 0 (lbody 1000 C_q56z 0) T_q56z_s0 X_q56z_s0 R_q56z_s0 ⟨[], [], []⟩ rec kx kr s = q56z_s0 n rec kx kr s := by kernel_rfl
noncomputable def T_q56z_s4 : Tm := ⟨[(5, .ptr 5 0), (6, .ptr 6 0), (7, .ptr 7 0), (8, .clo 30 [6, 7])], [(59, (.lst .edg)), (60, .i64), (61, .i64)], [(5, .box [.ref (.pn 5), .ref (.own 500005)] (some 45)), (6, .box [.d .bool]), (7, .box [.ref (.clo 28 [5])]), (500005, .arr 5 .u8)], []⟩
noncomputable def X_q56z_s4 : Tm := ⟨[(5, .ptr 5 0), (6, .ptr 6 0)], [], [(5, .box [.ref (.pn 5), .ref (.own 500005)] (some 45)), (6, .box [.d .bool]), (500005, .arr 5 .u8)], []⟩
noncomputable def R_q56z_s4 : Tm := ⟨[], [], [], []⟩
noncomputable def L_q56z_s4 {ρ : Type} (n : Nat) : LOrc ρ := lorcNil
omit [Tabs] [QuietD Tryz.prog] [UDef] [UTabs] in
theorem s_q56z_s4 {ρ : Type} (n : Nat) (rec : T_q56z_s4.den → Option ρ) kx kr s : dStep Tryz.prog 90 TT M_q56z (O_q56z n) (L_q56z_s4 n) (evDraw Tryz.prog 90 TT M_q56z (O_q56z n)) 4 (lbody 1000 C_q56z 1) T_q56z_s4 X_q56z_s4 R_q56z_s4 ⟨[], [], []⟩ rec kx kr s = q56z_s4 n rec kx kr s := by kernel_rfl
noncomputable def L_q56z {ρ : Type} (n : Nat) : LOrc ρ := lorcCons 0 (loopL 90 0 n T_q56z_s0 X_q56z_s0 R_q56z_s0 ⟨[], [], []⟩ (q56z_s0 n)) (lorcCons 4 (loopL 90 4 n T_q56z_s4 X_q56z_s4 R_q56z_s4 ⟨[], [], []⟩ (q56z_s4 n)) (lorcNil))
omit [Tabs] [QuietD Tryz.prog] [UDef] [UTabs] in
theorem e_q56z (n : Nat) (x) : evF Tryz.prog 90 TT M_q56z F_q56z (O_q56z n) (L_q56z n) (evDraw Tryz.prog 90 TT M_q56z (O_q56z n)) ⟨[], [], []⟩ [.tmp 2, .tmp 3] C_q56z x = q56z n x := by kernel_rfl
omit [UDef] in
theorem ok_q56z (n : Nat) : Contract Tryz.prog 9 F_q56z (q56z n) :=
  Contract.of_ev (c := C_q56z) (N := 90) Tryz.func9 (by kernel_rfl) (by kernel_rfl) (by kernel_rfl) (by kernel_rfl) (O_q56z_ok n) (evDraw_ok (O_q56z_ok n) (by kernel_rfl)) (.of (l := [(0, (lbody 1000 C_q56z 0)), (4, (lbody 1000 C_q56z 1))]) (by kernel_rfl) ⟨.head (loopL_sound (O_q56z_ok n) (evDraw_ok (O_q56z_ok n) (by kernel_rfl)) (.of (l := [(2, (lbody 0 (lbody 1000 C_q56z 0) 0))]) (by kernel_rfl) ⟨.head (loopL_sound (O_q56z_ok n) (evDraw_ok (O_q56z_ok n) (by kernel_rfl)) (.of (l := []) (by kernel_rfl) trivial) (s_q56z_s2 n)), trivial⟩) (s_q56z_s0 n)), ⟨.tail rfl (.head (loopL_sound (O_q56z_ok n) (evDraw_ok (O_q56z_ok n) (by kernel_rfl)) (.of (l := []) (by kernel_rfl) trivial) (s_q56z_s4 n))), trivial⟩⟩) (e_q56z n)

noncomputable def F_q15z : FnT := ⟨1, ⟨[], [(0, .graph)], [], []⟩, [.v .i64], []⟩
noncomputable def F_q11z : FnT := ⟨1, ⟨[], [(0, (.lst .str))], [], []⟩, [.v .i64], []⟩
noncomputable def F_q29z : FnT := ⟨1, ⟨[], [(0, .str)], [], []⟩, [.v .bool], []⟩
noncomputable def C_q29z : Code := bodyOf Tryz.f35
noncomputable def M_q29z : List (Nat × ArgM) := [(59, ⟨[], [], [], true⟩)]
instance : DfOk M_q29z := .none rfl
noncomputable def O_q29z {ρ : Type} : Orc ρ := orcCons 59 F_trim (trimN) (orcNil)
omit [QuietD Tryz.prog] [UDef] [UTabs] in
theorem O_q29z_ok {ρ : Type} : (O_q29z : Orc ρ).ok Tryz.prog := orcCons_ok (by kernel_rfl) (trimN_ok) (orcNil_ok)
noncomputable def L_q29z {ρ : Type} : LOrc ρ := lorcNil
omit [Tabs] [QuietD Tryz.prog] [UDef] [UTabs] in
theorem e_q29z (x) : evF Tryz.prog 23 TT M_q29z F_q29z (O_q29z) (L_q29z) dorcNil ⟨[], [], []⟩ [.tmp 2] C_q29z x = q29z x := by kernel_rfl
omit [UDef] [UTabs] in
theorem ok_q29z : Contract Tryz.prog 35 F_q29z (q29z) :=
  Contract.of_ev (c := C_q29z) (N := 23) Tryz.func35 (by kernel_rfl) (by kernel_rfl) (by kernel_rfl) (by kernel_rfl) (O_q29z_ok) dorcNil_ok (.of (l := []) (by kernel_rfl) trivial) (e_q29z)

noncomputable def C_q11z : Code := bodyOf Tryz.f32
noncomputable def M_q11z : List (Nat × ArgM) := [(35, ⟨[], [], [], true⟩)]
instance : DfOk M_q11z := .none rfl
noncomputable def O_q11z {ρ : Type} (n : Nat) : Orc ρ := orcCons 35 F_q29z (q29z) (orcNil)
omit [UDef] [UTabs] in
theorem O_q11z_ok {ρ : Type} (n : Nat) : (O_q11z n : Orc ρ).ok Tryz.prog := orcCons_ok (by kernel_rfl) (ok_q29z) (orcNil_ok)
noncomputable def T_q11z_s0 : Tm := ⟨[], [(3, .str), (9, (.lst .str)), (10, .i64), (11, .i64)], [], []⟩
noncomputable def X_q11z_s0 : Tm := ⟨[], [], [], []⟩
noncomputable def R_q11z_s0 : Tm := ⟨[], [(2, .i64)], [], []⟩
noncomputable def L_q11z_s0 {ρ : Type} (n : Nat) : LOrc ρ := lorcNil
omit [Tabs] [QuietD Tryz.prog] [UDef] [UTabs] in
theorem s_q11z_s0 {ρ : Type} (n : Nat) (rec : T_q11z_s0.den → Option ρ) kx kr s : dStep Tryz.prog 25 TT M_q11z (O_q11z n) (L_q11z_s0 n) dorcNil 0 (lbody 1000 C_q11z 0) T_q11z_s0 X_q11z_s0 R_q11z_s0 ⟨[], [], []⟩ rec kx kr s = q11z_s0 n rec kx kr s := by kernel_rfl
noncomputable def L_q11z {ρ : Type} (n : Nat) : LOrc ρ := lorcCons 0 (loopL 25 0 n T_q11z_s0 X_q11z_s0 R_q11z_s0 ⟨[], [], []⟩ (q11z_s0 n)) (lorcNil)
omit [Tabs] [QuietD Tryz.prog] [UDef] [UTabs] in
theorem e_q11z (n : Nat) (x) : evF Tryz.prog 25 TT M_q11z F_q11z (O_q11z n) (L_q11z n) dorcNil ⟨[], [], []⟩ [.tmp 2] C_q11z x = q11z n x := by kernel_rfl
omit [UDef] [UTabs] in
theorem ok_q11z (n : Nat) : Contract Tryz.prog 32 F_q11z (q11z n) :=
  Contract.of_ev (c := C_q11z) (N := 25) Tryz.func32 (by kernel_rfl) (by kernel_rfl) (by kernel_rfl) (by kernel_rfl) (O_q11z_ok n) dorcNil_ok (.of (l := [(0, (lbody 1000 C_q11z 0))]) (by kernel_rfl) ⟨.head (loopL_sound (O_q11z_ok n) dorcNil_ok (.of (l := []) (by kernel_rfl) trivial) (s_q11z_s0 n)), trivial⟩) (e_q11z n)

noncomputable def F_q16z : FnT := ⟨1, ⟨[], [(0, (.lst .prp))], [], []⟩, [.v .i64], []⟩
noncomputable def F_q17z : FnT := ⟨2, ⟨[], [(0, .val), (1, .i64)], [], []⟩, [.v .i64], []⟩
noncomputable def C_q17z : Code := bodyOf Tryz.f6
noncomputable def M_q17z : List (Nat × ArgM) := [(6, ⟨[], [], [], true⟩), (17, ⟨[], [], [], true⟩)]
instance : DfOk M_q17z := .none rfl
noncomputable def O_q17z {ρ : Type} (self_q17z : Ev.Val × Int × Unit → Option (Int × Unit)) (n : Nat) : Orc ρ := orcCons 6 F_q17z (self_q17z) (orcCons 17 F_valid (validN) (orcNil))
omit [QuietD Tryz.prog] [UDef] in
theorem O_q17z_ok {ρ : Type} (self_q17z : Ev.Val × Int × Unit → Option (Int × Unit)) (h_q17z : Contract Tryz.prog 6 F_q17z self_q17z) (n : Nat) : (O_q17z self_q17z n : Orc ρ).ok Tryz.prog := orcCons_ok (by kernel_rfl) (h_q17z) (orcCons_ok (by kernel_rfl) (validN_ok) (orcNil_ok))
noncomputable def T_q17z_s1 : Tm := ⟨[], [(1, .i64), (5, .bool), (6, .bool), (34, (.lst .val)), (35, .i64), (36, .i64)], [], []⟩
noncomputable def X_q17z_s1 : Tm := ⟨[], [(5, .bool), (6, .bool)], [], []⟩
noncomputable def R_q17z_s1 : Tm := ⟨[], [(4, .i64)], [], []⟩
noncomputable def L_q17z_s1 {ρ : Type} (self_q17z : Ev.Val × Int × Unit → Option (Int × Unit)) (n : Nat) : LOrc ρ := lorcNil
omit [Tabs] [QuietD Tryz.prog] [UDef] [UTabs] in
theorem s_q17z_s1 {ρ : Type} (self_q17z : Ev.Val × Int × Unit → Option (Int × Unit)) (n : Nat) (rec : T_q17z_s1.den → Option ρ) kx kr s : dStep Tryz.prog 96 TT M_q17z (O_q17z self_q17z n) (L_q17z_s1 self_q17z n) (evDraw Tryz.prog 96 TT M_q17z (O_q17z self_q17z n)) 1 (lbody 1000 C_q17z 0) T_q17z_s1 X_q17z_s1 R_q17z_s1 ⟨[], [], []⟩ rec kx kr s = q17z_s1 self_q17z n rec kx kr s := by kernel_rfl
noncomputable def L_q17z {ρ : Type} (self_q17z : Ev.Val × Int × Unit → Option (Int × Unit)) (n : Nat) : LOrc ρ := lorcCons 1 (loopL 96 1 n T_q17z_s1 X_q17z_s1 R_q17z_s1 ⟨[], [], []⟩ (q17z_s1 self_q17z n)) (lorcNil)
omit [Tabs] [QuietD Tryz.prog] [UDef] [UTabs] in
theorem e_q17z (self_q17z : Ev.Val × Int × Unit → Option (Int × Unit)) (n : Nat) (x) : evF Tryz.prog 96 TT M_q17z F_q17z (O_q17z self_q17z n) (L_q17z self_q17z n) (evDraw Tryz.prog 96 TT M_q17z (O_q17z self_q17z n)) ⟨[], [], []⟩ [.tmp 4] C_q17z x = q17z_b self_q17z n x := by kernel_rfl
omit [UDef] in
theorem okb_q17z (self_q17z : Ev.Val × Int × Unit → Option (Int × Unit)) (h_q17z : Contract Tryz.prog 6 F_q17z self_q17z) (n : Nat) : Contract Tryz.prog 6 F_q17z (q17z_b self_q17z n) :=
  Contract.of_ev (c := C_q17z) (N := 96) Tryz.func6 (by kernel_rfl) (by kernel_rfl) (by kernel_rfl) (by kernel_rfl) (O_q17z_ok self_q17z h_q17z n) (evDraw_ok (O_q17z_ok self_q17z h_q17z n) (by kernel_rfl)) (.of (l := [(1, (lbody 1000 C_q17z 0))]) (by kernel_rfl) ⟨.head (loopL_sound (O_q17z_ok self_q17z h_q17z n) (evDraw_ok (O_q17z_ok self_q17z h_q17z n) (by kernel_rfl)) (.of (l := []) (by kernel_rfl) trivial) (s_q17z_s1 self_q17z n)), trivial⟩) (e_q17z self_q17z n)
omit [UDef] in
theorem ok_q17z : ∀ n, Contract Tryz.prog 6 F_q17z (q17z n)
  | 0 => fun _ _ h => by cases h
  | n + 1 => okb_q17z _ (ok_q17z n) n

noncomputable def C_q16z : Code := bodyOf Tryz.f33
noncomputable def M_q16z : List (Nat × ArgM) := [(35, ⟨[], [], [], true⟩), (6, ⟨[], [], [], true⟩)]
instance : DfOk M_q16z := .none rfl
noncomputable def O_q16z {ρ : Type} (n : Nat) : Orc ρ := orcCons 35 F_q29z (q29z) (orcCons 6 F_q17z (q17z n) (orcNil))
omit [UDef] in
theorem O_q16z_ok {ρ : Type} (n : Nat) : (O_q16z n : Orc ρ).ok Tryz.prog := orcCons_ok (by kernel_rfl) (ok_q29z) (orcCons_ok (by kernel_rfl) (ok_q17z n) (orcNil_ok))
noncomputable def T_q16z_s0 : Tm := ⟨[], [(3, .str), (10, (.lst .prp)), (11, .i64), (12, .i64)], [], []⟩
noncomputable def X_q16z_s0 : Tm := ⟨[], [], [], []⟩
noncomputable def R_q16z_s0 : Tm := ⟨[], [(2, .i64)], [], []⟩
noncomputable def L_q16z_s0 {ρ : Type} (n : Nat) : LOrc ρ := lorcNil
omit [Tabs] [QuietD Tryz.prog] [UDef] [UTabs] in
theorem s_q16z_s0 {ρ : Type} (n : Nat) (rec : T_q16z_s0.den → Option ρ) kx kr s : dStep Tryz.prog 41 TT M_q16z (O_q16z n) (L_q16z_s0 n) dorcNil 0 (lbody 1000 C_q16z 0) T_q16z_s0 X_q16z_s0 R_q16z_s0 ⟨[], [], []⟩ rec kx kr s = q16z_s0 n rec kx kr s := by kernel_rfl
noncomputable def L_q16z {ρ : Type} (n : Nat) : LOrc ρ := lorcCons 0 (loopL 41 0 n T_q16z_s0 X_q16z_s0 R_q16z_s0 ⟨[], [], []⟩ (q16z_s0 n)) (lorcNil)
omit [Tabs] [QuietD Tryz.prog] [UDef] [UTabs] in
theorem e_q16z (n : Nat) (x) : evF Tryz.prog 41 TT M_q16z F_q16z (O_q16z n) (L_q16z n) dorcNil ⟨[], [], []⟩ [.tmp 2] C_q16z x = q16z n x := by kernel_rfl
omit [UDef] in
theorem ok_q16z (n : Nat) : Contract Tryz.prog 33 F_q16z (q16z n) :=
  Contract.of_ev (c := C_q16z) (N := 41) Tryz.func33 (by kernel_rfl) (by kernel_rfl) (by kernel_rfl) (by kernel_rfl) (O_q16z_ok n) dorcNil_ok (.of (l := [(0, (lbody 1000 C_q16z 0))]) (by kernel_rfl) ⟨.head (loopL_sound (O_q16z_ok n) dorcNil_ok (.of (l := []) (by kernel_rfl) trivial) (s_q16z_s0 n)), trivial⟩) (e_q16z n)

noncomputable def F_q30z : FnT := ⟨2, ⟨[], [(0, .graph), (1, .i64)], [], []⟩, [.opt .node], []⟩
noncomputable def C_q30z : Code := bodyOf Tryz.f34
noncomputable def M_q30z : List (Nat × ArgM) := []
instance : DfOk M_q30z := .none rfl
noncomputable def O_q30z {ρ : Type} (n : Nat) : Orc ρ := orcNil
omit [QuietD Tryz.prog] [UDef] [UTabs] in
theorem O_q30z_ok {ρ : Type} (n : Nat) : (O_q30z n : Orc ρ).ok Tryz.prog := orcNil_ok
noncomputable def T_q30z_s0 : Tm := ⟨[(2, .ptr 2 0)], [(1, .i64), (8, .i64), (9, .i64)], [(2, .box [.d .graph])], []⟩
noncomputable def X_q30z_s0 : Tm := ⟨[], [], [], []⟩
noncomputable def R_q30z_s0 : Tm := ⟨[], [(4, (.ptr .node))], [], []⟩
noncomputable def L_q30z_s0 {ρ : Type} (n : Nat) : LOrc ρ := lorcNil
omit [Tabs] [QuietD Tryz.prog] [UDef] [UTabs] in
theorem s_q30z_s0 {ρ : Type} (n : Nat) (rec : T_q30z_s0.den → Option ρ) kx kr s : dStep Tryz.prog 25 TT M_q30z (O_q30z n) (L_q30z_s0 n) dorcNil 0 (lbody 1000 C_q30z 0) T_q30z_s0 X_q30z_s0 R_q30z_s0 ⟨[], [], []⟩ rec kx kr s = q30z_s0 n rec kx kr s := by kernel_rfl
noncomputable def L_q30z {ρ : Type} (n : Nat) : LOrc ρ := lorcCons 0 (loopL 25 0 n T_q30z_s0 X_q30z_s0 R_q30z_s0 ⟨[], [], []⟩ (q30z_s0 n)) (lorcNil)
omit [Tabs] [QuietD Tryz.prog] [UDef] [UTabs] in
theorem e_q30z (n : Nat) (x) : evF Tryz.prog 25 TT M_q30z F_q30z (O_q30z n) (L_q30z n) dorcNil ⟨[], [], []⟩ [.tmp 4] C_q30z x = q30z n x := by kernel_rfl
omit [UDef] [UTabs] in
theorem ok_q30z (n : Nat) : Contract Tryz.prog 34 F_q30z (q30z n) :=
  Contract.of_ev (c := C_q30z) (N := 25) Tryz.func34 (by kernel_rfl) (by kernel_rfl) (by kernel_rfl) (by kernel_rfl) (O_q30z_ok n) dorcNil_ok (.of (l := [(0, (lbody 1000 C_q30z 0))]) (by kernel_rfl) ⟨.head (loopL_sound (O_q30z_ok n) dorcNil_ok (.of (l := []) (by kernel_rfl) trivial) (s_q30z_s0 n)), trivial⟩) (e_q30z n)

noncomputable def C_q15z : Code := bodyOf Tryz.f10
noncomputable def M_q15z : List (Nat × ArgM) := [(32, ⟨[], [], [], true⟩), (33, ⟨[], [], [], true⟩), (35, ⟨[], [], [], true⟩)]
instance : DfOk M_q15z := .none rfl
noncomputable def O_q15z {ρ : Type} (n : Nat) : Orc ρ := orcCons 32 F_q11z (q11z n) (orcCons 33 F_q16z (q16z n) (orcCons 34 F_q30z (q30z n) (orcCons 35 F_q29z (q29z) (orcNil))))
omit [UDef] in
theorem O_q15z_ok {ρ : Type} (n : Nat) : (O_q15z n : Orc ρ).ok Tryz.prog := orcCons_ok (by kernel_rfl) (ok_q11z n) (orcCons_ok (by kernel_rfl) (ok_q16z n) (orcCons_ok (by kernel_rfl) (ok_q30z n) (orcCons_ok (by kernel_rfl) (ok_q29z) (orcNil_ok))))
noncomputable def T_q15z_s0 : Tm := ⟨[(1, .ptr 1 0)], [(3, .i64), (4, .i64), (23, (.lst .node)), (24, .i64), (25, .i64)], [(1, .box [.d .graph])], []⟩
noncomputable def X_q15z_s0 : Tm := ⟨[(1, .ptr 1 0)], [(3, .i64)], [(1, .box [.d .graph])], []⟩
noncomputable def R_q15z_s0 : Tm := ⟨[], [(2, .i64)], [], []⟩
noncomputable def L_q15z_s0 {ρ : Type} (n : Nat) : LOrc ρ := lorcNil
omit [Tabs] [QuietD Tryz.prog] [UDef] [UTabs] in
theorem s_q15z_s0 {ρ : Type} (n : Nat) (rec : T_q15z_s0.den → Option ρ) kx kr s : dStep Tryz.prog 108 TT M_q15z (O_q15z n) (L_q15z_s0 n) (evDraw Tryz.prog 108 TT M_q15z (O_q15z n)) 0 (lbody 1000 C_q15z 0) T_q15z_s0 X_q15z_s0 R_q15z_s0 ⟨[], [], []⟩ rec kx kr s = q15z_s0 n rec kx kr s := by kernel_rfl
noncomputable def T_q15z_s2 : Tm := ⟨[(1, .ptr 1 0)], [(3, .i64), (4, .i64), (51, (.lst .edg)), (52, .i64), (53, .i64)], [(1, .box [.d .graph])], []⟩
noncomputable def X_q15z_s2 : Tm := ⟨[(1, .ptr 1 0)], [(3, .i64)], [(1, .box [.d .graph])], []⟩
noncomputable def R_q15z_s2 : Tm := ⟨[], [(2, .i64)], [], []⟩
noncomputable def L_q15z_s2 {ρ : Type} (n : Nat) : LOrc ρ := lorcNil
omit [Tabs] [QuietD Tryz.prog] [UDef] [UTabs] in
theorem s_q15z_s2 {ρ : Type} (n : Nat) (rec : T_q15z_s2.den → Option ρ) kx kr s : dStep Tryz.prog 108 TT M_q15z (O_q15z n) (L_q15z_s2 n) (evDraw Tryz.prog 108 TT M_q15z (O_q15z n)) 2 (lbody 1000 C_q15z 1) T_q15z_s2 X_q15z_s2 R_q15z_s2 ⟨[], [], []⟩ rec kx kr s = q15z_s2 n rec kx kr s := by kernel_rfl
noncomputable def L_q15z {ρ : Type} (n : Nat) : LOrc ρ := lorcCons 0 (loopL 108 0 n T_q15z_s0 X_q15z_s0 R_q15z_s0 ⟨[], [], []⟩ (q15z_s0 n)) (lorcCons 2 (loopL 108 2 n T_q15z_s2 X_q15z_s2 R_q15z_s2 ⟨[], [], []⟩ (q15z_s2 n)) (lorcNil))
omit [Tabs] [QuietD Tryz.prog] [UDef] [UTabs] in
theorem e_q15z (n : Nat) (x) : evF Tryz.prog 108 TT M_q15z F_q15z (O_q15z n) (L_q15z n) (evDraw Tryz.prog 108 TT M_q15z (O_q15z n)) ⟨[], [], []⟩ [.tmp 2] C_q15z x = q15z n x := by kernel_rfl
omit [UDef] in
theorem ok_q15z (n : Nat) : Contract Tryz.prog 10 F_q15z (q15z n) :=
  Contract.of_ev (c := C_q15z) (N := 108) Tryz.func10 (by kernel_rfl) (by kernel_rfl) (by kernel_rfl) (by kernel_rfl) (O_q15z_ok n) (evDraw_ok (O_q15z_ok n) (by kernel_rfl)) (.of (l := [(0, (lbody 1000 C_q15z 0)), (2, (lbody 1000 C_q15z 1))]) (by kernel_rfl) ⟨.head (loopL_sound (O_q15z_ok n) (evDraw_ok (O_q15z_ok n) (by kernel_rfl)) (.of (l := []) (by kernel_rfl) trivial) (s_q15z_s0 n)), ⟨.tail rfl (.head (loopL_sound (O_q15z_ok n) (evDraw_ok (O_q15z_ok n) (by kernel_rfl)) (.of (l := []) (by kernel_rfl) trivial) (s_q15z_s2 n))), trivial⟩⟩) (e_q15z n)

noncomputable def F_q28z : FnT := ⟨0, ⟨[], [], [], []⟩, [.v .bool], []⟩
noncomputable def F_q33z : FnT := ⟨0, ⟨[], [], [], []⟩, [.v .graph], []⟩
noncomputable def F_q38z : FnT := ⟨1, ⟨[], [(0, .i64)], [], []⟩, [.v .val], []⟩
noncomputable def C_q38z : Code := bodyOf Tryz.f19
noncomputable def M_q38z : List (Nat × ArgM) := []
instance : DfOk M_q38z := .none rfl
noncomputable def O_q38z {ρ : Type} : Orc ρ := orcNil
omit [QuietD Tryz.prog] [UDef] [UTabs] in
theorem O_q38z_ok {ρ : Type} : (O_q38z : Orc ρ).ok Tryz.prog := orcNil_ok
noncomputable def L_q38z {ρ : Type} : LOrc ρ := lorcNil
omit [Tabs] [QuietD Tryz.prog] [UDef] [UTabs] in
theorem e_q38z (x) : evF Tryz.prog 5 TT M_q38z F_q38z (O_q38z) (L_q38z) dorcNil ⟨[], [], []⟩ [.cell 2 24] C_q38z x = q38z x := by kernel_rfl
omit [UDef] [UTabs] in
theorem ok_q38z : Contract Tryz.prog 19 F_q38z (q38z) :=
  Contract.of_ev (c := C_q38z) (N := 5) Tryz.func19 (by kernel_rfl) (by kernel_rfl) (by kernel_rfl) (by kernel_rfl) (O_q38z_ok) dorcNil_ok (.of (l := []) (by kernel_rfl) trivial) (e_q38z)

noncomputable def C_q33z : Code := bodyOf Tryz.f36
noncomputable def M_q33z : List (Nat × ArgM) := []
instance : DfOk M_q33z := .none rfl
noncomputable def O_q33z {ρ : Type} : Orc ρ := orcCons 19 F_q38z (q38z) (orcNil)
omit [UDef] [UTabs] in
theorem O_q33z_ok {ρ : Type} : (O_q33z : Orc ρ).ok Tryz.prog := orcCons_ok (by kernel_rfl) (ok_q38z) (orcNil_ok)
noncomputable def L_q33z {ρ : Type} : LOrc ρ := lorcNil
omit [Tabs] [QuietD Tryz.prog] [UDef] [UTabs] in
theorem e_q33z (x) : evF Tryz.prog 11 TT M_q33z F_q33z (O_q33z) (L_q33z) dorcNil ⟨[], [], []⟩ [.cell 0 35] C_q33z x = q33z x := by kernel_rfl
omit [UDef] [UTabs] in
theorem ok_q33z : Contract Tryz.prog 36 F_q33z (q33z) :=
  Contract.of_ev (c := C_q33z) (N := 11) Tryz.func36 (by kernel_rfl) (by kernel_rfl) (by kernel_rfl) (by kernel_rfl) (O_q33z_ok) dorcNil_ok (.of (l := []) (by kernel_rfl) trivial) (e_q33z)

noncomputable def F_q55z : FnT := ⟨1, ⟨[], [(0, .str)], [], []⟩, [.v .graph, .v .i64, .v .i64], []⟩
noncomputable def F_q58z : FnT := ⟨1, ⟨[], [(0, .str)], [], []⟩, [.v (.lst .str)], []⟩
noncomputable def C_q58z : Code := bodyOf Tryz.f61
noncomputable def M_q58z : List (Nat × ArgM) := []
instance : DfOk M_q58z := .none rfl
noncomputable def O_q58z {ρ : Type} (n : Nat) : Orc ρ := orcNil
omit [QuietD Tryz.prog] [UDef] [UTabs] in
theorem O_q58z_ok {ρ : Type} (n : Nat) : (O_q58z n : Orc ρ).ok Tryz.prog := orcNil_ok
noncomputable def T_q58z_s0 : Tm := ⟨[(3, .own 3)], [(0, .str), (4, .str), (5, .bool), (6, .i64)], [(3, .arr 9 .str)], []⟩
noncomputable def X_q58z_s0 : Tm := ⟨[(3, .own 3)], [(4, .str)], [(3, .arr 9 .str)], []⟩
noncomputable def R_q58z_s0 : Tm := ⟨[], [], [], []⟩
noncomputable def L_q58z_s0 {ρ : Type} (n : Nat) : LOrc ρ := lorcNil
omit [Tabs] [QuietD Tryz.prog] [UDef] [UTabs] in
theorem s_q58z_s0 {ρ : Type} (n : Nat) (rec : T_q58z_s0.den → Option ρ) kx kr s : dStep Tryz.prog 66 TT M_q58z (O_q58z n) (L_q58z_s0 n) dorcNil 0 (lbody 1000 C_q58z 0) T_q58z_s0 X_q58z_s0 R_q58z_s0 ⟨[], [(3, 3, 9, 1)], []⟩ rec kx kr s = q58z_s0 n rec kx kr s := by kernel_rfl
noncomputable def L_q58z {ρ : Type} (n : Nat) : LOrc ρ := lorcCons 0 (loopL 66 0 n T_q58z_s0 X_q58z_s0 R_q58z_s0 ⟨[], [(3, 3, 9, 1)], []⟩ (q58z_s0 n)) (lorcNil)
omit [Tabs] [QuietD Tryz.prog] [UDef] [UTabs] in
theorem e_q58z (n : Nat) (x) : evF Tryz.prog 66 TT M_q58z F_q58z (O_q58z n) (L_q58z n) dorcNil ⟨[], [], []⟩ [.tmp 2] C_q58z x = q58z n x := by kernel_rfl
omit [UDef] [UTabs] in
theorem ok_q58z (n : Nat) : Contract Tryz.prog 61 F_q58z (q58z n) :=
  Contract.of_ev (c := C_q58z) (N := 66) Tryz.func61 (by kernel_rfl) (by kernel_rfl) (by kernel_rfl) (by kernel_rfl) (O_q58z_ok n) dorcNil_ok (.of (l := [(0, (lbody 1000 C_q58z 0))]) (by kernel_rfl) ⟨.head (loopL_sound (O_q58z_ok n) dorcNil_ok (.of (l := []) (by kernel_rfl) trivial) (s_q58z_s0 n)), trivial⟩) (e_q58z n)

noncomputable def F_q57z : FnT := ⟨1, ⟨[], [(0, .str)], [], []⟩, [.v .i64, .v .bool], []⟩
noncomputable def C_q57z : Code := bodyOf Tryz.f62
noncomputable def M_q57z : List (Nat × ArgM) := [(31, ⟨[], [], [], true⟩)]
instance : DfOk M_q57z := .none rfl
noncomputable def O_q57z {ρ : Type} : Orc ρ := orcCons 73 F_atoi (atoiN) (orcCons 31 F_itoa (itoaN) (orcNil))
omit [QuietD Tryz.prog] [UDef] in
theorem O_q57z_ok {ρ : Type} : (O_q57z : Orc ρ).ok Tryz.prog := orcCons_ok (by kernel_rfl) (atoiN_ok) (orcCons_ok (by kernel_rfl) (itoaN_ok) (orcNil_ok))
noncomputable def L_q57z {ρ : Type} : LOrc ρ := lorcNil
omit [Tabs] [QuietD Tryz.prog] [UDef] [UTabs] in
theorem e_q57z (x) : evF Tryz.prog 20 TT M_q57z F_q57z (O_q57z) (L_q57z) dorcNil ⟨[], [], []⟩ [.tmp 2, .tmp 3] C_q57z x = q57z x := by kernel_rfl
omit [UDef] in
theorem ok_q57z : Contract Tryz.prog 62 F_q57z (q57z) :=
  Contract.of_ev (c := C_q57z) (N := 20) Tryz.func62 (by kernel_rfl) (by kernel_rfl) (by kernel_rfl) (by kernel_rfl) (O_q57z_ok) dorcNil_ok (.of (l := []) (by kernel_rfl) trivial) (e_q57z)

noncomputable def F_port_line : FnT := ⟨2, ⟨[(0, .ptr 1000000 0)], [(1, (.lst .str))], [(1000000, .box [.ref (.own 1000001), .ref (.own 1000002), .d .i64]), (1000001, .arr 73 .node), (1000002, .arr 75 .edg)], []⟩, [.v .bool], [(1000000, .box [.ref (.own 1000001), .ref (.own 1000002), .d .i64]), (1000001, .arr 73 .node), (1000002, .arr 75 .edg)]⟩
noncomputable def F_q35z : FnT := ⟨2, ⟨[], [(0, .str), (1, .str)], [], []⟩, [.v .bool], []⟩
noncomputable def F_q5z : FnT := ⟨2, ⟨[], [(0, .str), (1, .str)], [], []⟩, [.v .bool], []⟩
noncomputable def C_q5z : Code := bodyOf Tryz.f123
noncomputable def M_q5z : List (Nat × ArgM) := []
instance : DfOk M_q5z := .none rfl
noncomputable def O_q5z {ρ : Type} : Orc ρ := orcNil
omit [QuietD Tryz.prog] [UDef] [UTabs] in
theorem O_q5z_ok {ρ : Type} : (O_q5z : Orc ρ).ok Tryz.prog := orcNil_ok
noncomputable def L_q5z {ρ : Type} : LOrc ρ := lorcNil
omit [Tabs] [QuietD Tryz.prog] [UDef] [UTabs] in
theorem e_q5z (x) : evF Tryz.prog 18 TT M_q5z F_q5z (O_q5z) (L_q5z) dorcNil ⟨[], [], []⟩ [.tmp 4] C_q5z x = q5z x := by kernel_rfl
omit [UDef] [UTabs] in
theorem ok_q5z : Contract Tryz.prog 123 F_q5z (q5z) :=
  Contract.of_ev (c := C_q5z) (N := 18) Tryz.func123 (by kernel_rfl) (by kernel_rfl) (by kernel_rfl) (by kernel_rfl) (O_q5z_ok) dorcNil_ok (.of (l := []) (by kernel_rfl) trivial) (e_q5z)

noncomputable def C_q35z : Code := bodyOf Tryz.f95
noncomputable def M_q35z : List (Nat × ArgM) := [(123, ⟨[], [], [], true⟩)]
instance : DfOk M_q35z := .none rfl
noncomputable def O_q35z {ρ : Type} : Orc ρ := orcCons 123 F_q5z (q5z) (orcNil)
omit [UDef] [UTabs] in
theorem O_q35z_ok {ρ : Type} : (O_q35z : Orc ρ).ok Tryz.prog := orcCons_ok (by kernel_rfl) (ok_q5z) (orcNil_ok)
noncomputable def L_q35z {ρ : Type} : LOrc ρ := lorcNil
omit [Tabs] [QuietD Tryz.prog] [UDef] [UTabs] in
theorem e_q35z (x) : evF Tryz.prog 8 TT M_q35z F_q35z (O_q35z) (L_q35z) dorcNil ⟨[], [], []⟩ [.tmp 4] C_q35z x = q35z x := by kernel_rfl
omit [UDef] [UTabs] in
theorem ok_q35z : Contract Tryz.prog 95 F_q35z (q35z) :=
  Contract.of_ev (c := C_q35z) (N := 8) Tryz.func95 (by kernel_rfl) (by kernel_rfl) (by kernel_rfl) (by kernel_rfl) (O_q35z_ok) dorcNil_ok (.of (l := []) (by kernel_rfl) trivial) (e_q35z)

noncomputable def F_q39z : FnT := ⟨1, ⟨[], [(0, (.lst .str))], [], []⟩, [.v (.lst .prp), .v .bool], []⟩
noncomputable def F_q49z : FnT := ⟨1, ⟨[], [(0, .str)], [], []⟩, [.v .val, .v .i64, .v .i64], []⟩
noncomputable def F_q27z : FnT := ⟨2, ⟨[(0, .ptr 1000000 0)], [(1, .i64)], [(1000000, .box [.d .str, .d .i64])], []⟩, [.v .val], [(1000000, .box [.d .str, .d .i64])]⟩
noncomputable def F_q34z : FnT := ⟨2, ⟨[(0, .ptr 1000000 0)], [(1, .str)], [(1000000, .box [.d .str, .d .i64])], []⟩, [.v .bool], [(1000000, .box [.d .str, .d .i64])]⟩
noncomputable def C_q34z : Code := bodyOf Tryz.f70
noncomputable def M_q34z : List (Nat × ArgM) := [(95, ⟨[], [], [], true⟩)]
instance : DfOk M_q34z := .none rfl
noncomputable def O_q34z {ρ : Type} : Orc ρ := orcCons 95 F_q35z (q35z) (orcNil)
omit [UDef] [UTabs] in
theorem O_q34z_ok {ρ : Type} : (O_q34z : Orc ρ).ok Tryz.prog := orcCons_ok (by kernel_rfl) (ok_q35z) (orcNil_ok)
noncomputable def L_q34z {ρ : Type} : LOrc ρ := lorcNil
omit [Tabs] [QuietD Tryz.prog] [UDef] [UTabs] in
theorem e_q34z (x) : evF Tryz.prog 26 TT M_q34z F_q34z (O_q34z) (L_q34z) (evDraw Tryz.prog 26 TT M_q34z (O_q34z)) ⟨[], [], []⟩ [.tmp 4] C_q34z x = q34z x := by kernel_rfl
omit [UDef] [UTabs] in
theorem ok_q34z : Contract Tryz.prog 70 F_q34z (q34z) :=
  Contract.of_ev (c := C_q34z) (N := 26) Tryz.func70 (by kernel_rfl) (by kernel_rfl) (by kernel_rfl) (by kernel_rfl) (O_q34z_ok) (evDraw_ok (O_q34z_ok) (by kernel_rfl)) (.of (l := []) (by kernel_rfl) trivial) (e_q34z)

noncomputable def F_q52z : FnT := ⟨1, ⟨[], [(0, .bool)], [], []⟩, [.v .val], []⟩
noncomputable def C_q52z : Code := bodyOf Tryz.f71
noncomputable def M_q52z : List (Nat × ArgM) := []
instance : DfOk M_q52z := .none rfl
noncomputable def O_q52z {ρ : Type} : Orc ρ := orcNil
omit [QuietD Tryz.prog] [UDef] [UTabs] in
theorem O_q52z_ok {ρ : Type} : (O_q52z : Orc ρ).ok Tryz.prog := orcNil_ok
noncomputable def L_q52z {ρ : Type} : LOrc ρ := lorcNil
omit [Tabs] [QuietD Tryz.prog] [UDef] [UTabs] in
theorem e_q52z (x) : evF Tryz.prog 8 TT M_q52z F_q52z (O_q52z) (L_q52z) dorcNil ⟨[], [], []⟩ [.cell 2 24] C_q52z x = q52z x := by kernel_rfl
omit [UDef] [UTabs] in
theorem ok_q52z : Contract Tryz.prog 71 F_q52z (q52z) :=
  Contract.of_ev (c := C_q52z) (N := 8) Tryz.func71 (by kernel_rfl) (by kernel_rfl) (by kernel_rfl) (by kernel_rfl) (O_q52z_ok) dorcNil_ok (.of (l := []) (by kernel_rfl) trivial) (e_q52z)

noncomputable def F_q31z : FnT := ⟨1, ⟨[(0, .ptr 1000000 0)], [], [(1000000, .box [.d .str, .d .i64])], []⟩, [.v .str], [(1000000, .box [.d .str, .d .i64])]⟩
noncomputable def C_q31z : Code := bodyOf Tryz.f72
noncomputable def M_q31z : List (Nat × ArgM) := [(999999996, ⟨[45, 5], [], [], false⟩), (70, ⟨[0], [], [], false⟩), (16, ⟨[0], [], [], false⟩), (42, ⟨[0], [], [], false⟩), (43, ⟨[0], [], [], false⟩), (100, ⟨[], [], [], true⟩)]
instance : DfOk M_q31z := .none rfl
noncomputable def O_q31z {ρ : Type} (n : Nat) : Orc ρ := orcCons 70 F_q34z (q34z) (orcCons 16 F_st (stringN) (orcCons 42 F_q8z (q8z) (orcCons 100 F_decode (decodeN) (orcCons 43 F_q9z (q9z) (orcNil)))))
omit [UDef] in
theorem O_q31z_ok {ρ : Type} (n : Nat) : (O_q31z n : Orc ρ).ok Tryz.prog := orcCons_ok (by kernel_rfl) (ok_q34z) (orcCons_ok (by kernel_rfl) (stringN_ok) (orcCons_ok (by kernel_rfl) (ok_q8z) (orcCons_ok (by kernel_rfl) (decodeN_ok) (orcCons_ok (by kernel_rfl) (ok_q9z) (orcNil_ok)))))
noncomputable def T_q31z_s0 : Tm := ⟨[(0, .ptr 1000000 0), (3, .ptr 3 0)], [], [(3, .box [.ref (.pn 3), .ref (.own 500003)] (some 45)), (500003, .arr 5 .u8), (1000000, .box [.d .str, .d .i64])], []⟩
noncomputable def X_q31z_s0 : Tm := ⟨[], [], [], []⟩
noncomputable def R_q31z_s0 : Tm := ⟨[], [(2, .str)], [(1000000, .box [.d .str, .d .i64])], []⟩
noncomputable def L_q31z_s0 {ρ : Type} (n : Nat) : LOrc ρ := lorcNil
omit [Tabs] [QuietD Tryz.prog] [UDef] [UTabs] in
theorem s_q31z_s0 {ρ : Type} (n : Nat) (rec : T_q31z_s0.den → Option ρ) kx kr s : dStep Tryz.prog 69 TT M_q31z (O_q31z n) (L_q31z_s0 n) (evDraw Tryz.prog 69 TT M_q31z (O_q31z n)) 0 (lbody 1000 C_q31z 0) T_q31z_s0 X_q31z_s0 R_q31z_s0 ⟨[], [], []⟩ rec kx kr s = q31z_s0 n rec kx kr s := by kernel_rfl
noncomputable def L_q31z {ρ : Type} (n : Nat) : LOrc ρ := lorcCons 0 (loopL 69 0 n T_q31z_s0 X_q31z_s0 R_q31z_s0 ⟨[], [], []⟩ (q31z_s0 n)) (lorcNil)
omit [Tabs] [QuietD Tryz.prog] [UDef] [UTabs] in
theorem e_q31z (n : Nat) (x) : evF Tryz.prog 69 TT M_q31z F_q31z (O_q31z n) (L_q31z n) (evDraw Tryz.prog 69 TT M_q31z (O_q31z n)) ⟨[], [], []⟩ [.tmp 2] C_q31z x = q31z n x := by kernel_rfl
omit [UDef] in
theorem ok_q31z (n : Nat) : Contract Tryz.prog 72 F_q31z (q31z n) :=
  Contract.of_ev (c := C_q31z) (N := 69) Tryz.func72 (by kernel_rfl) (by kernel_rfl) (by kernel_rfl) (by kernel_rfl) (O_q31z_ok n) (evDraw_ok (O_q31z_ok n) (by kernel_rfl)) (.of (l := [(0, (lbody 1000 C_q31z 0))]) (by kernel_rfl) ⟨.head (loopL_sound (O_q31z_ok n) (evDraw_ok (O_q31z_ok n) (by kernel_rfl)) (.of (l := []) (by kernel_rfl) trivial) (s_q31z_s0 n)), trivial⟩) (e_q31z n)

noncomputable def C_q27z : Code := bodyOf Tryz.f46
noncomputable def M_q27z : List (Nat × ArgM) := [(70, ⟨[0], [], [], false⟩), (72, ⟨[0], [], [], false⟩), (46, ⟨[0], [], [], false⟩), (31, ⟨[], [], [], true⟩)]
instance : DfOk M_q27z := .none rfl
noncomputable def O_q27z {ρ : Type} (self_q27z : Int × (ByteArray × Int × Unit) × Unit → Option (Ev.Val × (ByteArray × Int × Unit) × Unit)) (n : Nat) : Orc ρ := orcCons 70 F_q34z (q34z) (orcCons 71 F_q52z (q52z) (orcCons 72 F_q31z (q31z n) (orcCons 46 F_q27z (self_q27z) (orcCons 73 F_atoi (atoiN) (orcCons 31 F_itoa (itoaN) (orcNil))))))
omit [UDef] in
theorem O_q27z_ok {ρ : Type} (self_q27z : Int × (ByteArray × Int × Unit) × Unit → Option (Ev.Val × (ByteArray × Int × Unit) × Unit)) (h_q27z : Contract Tryz.prog 46 F_q27z self_q27z) (n : Nat) : (O_q27z self_q27z n : Orc ρ).ok Tryz.prog := orcCons_ok (by kernel_rfl) (ok_q34z) (orcCons_ok (by kernel_rfl) (ok_q52z) (orcCons_ok (by kernel_rfl) (ok_q31z n) (orcCons_ok (by kernel_rfl) (h_q27z) (orcCons_ok (by kernel_rfl) (atoiN_ok) (orcCons_ok (by kernel_rfl) (itoaN_ok) (orcNil_ok))))))
noncomputable def T_q27z_s1 : Tm := ⟨[(0, .ptr 1000000 0), (4, .ptr 4 0), (6, .ptr 6 0)], [(1, .i64)], [(4, .box [.d .val]), (6, .box [.d .i64, .d .i64, .d .str, .ref (.own 300243)]), (300243, .arr 24 .val), (1000000, .box [.d .str, .d .i64])], []⟩
noncomputable def X_q27z_s1 : Tm := ⟨[], [], [], []⟩
noncomputable def R_q27z_s1 : Tm := ⟨[(4, .ptr 4 0)], [], [(4, .box [.d .i64, .d .i64, .d .str, .ref (.own 300243)]), (300243, .arr 24 .val), (1000000, .box [.d .str, .d .i64])], []⟩
noncomputable def L_q27z_s1 {ρ : Type} (self_q27z : Int × (ByteArray × Int × Unit) × Unit → Option (Ev.Val × (ByteArray × Int × Unit) × Unit)) (n : Nat) : LOrc ρ := lorcNil
omit [Tabs] [QuietD Tryz.prog] [UDef] [UTabs] in
theorem s_q27z_s1 {ρ : Type} (self_q27z : Int × (ByteArray × Int × Unit) × Unit → Option (Ev.Val × (ByteArray × Int × Unit) × Unit)) (n : Nat) (rec : T_q27z_s1.den → Option ρ) kx kr s : dStep Tryz.prog 143 TT M_q27z (O_q27z self_q27z n) (L_q27z_s1 self_q27z n) (evDraw Tryz.prog 143 TT M_q27z (O_q27z self_q27z n)) 1 (lbody 1000 C_q27z 0) T_q27z_s1 X_q27z_s1 R_q27z_s1 ⟨[], [], [(6, 3, 300243, 24, 4)]⟩ rec kx kr s = q27z_s1 self_q27z n rec kx kr s := by kernel_rfl
noncomputable def T_q27z_s3 : Tm := ⟨[(0, .ptr 1000000 0), (4, .ptr 4 0)], [(5, .i64)], [(4, .box [.d .val]), (1000000, .box [.d .str, .d .i64])], []⟩
noncomputable def X_q27z_s3 : Tm := ⟨[(0, .ptr 1000000 0), (4, .ptr 4 0)], [(5, .i64)], [(4, .box [.d .val]), (1000000, .box [.d .str, .d .i64])], []⟩
noncomputable def R_q27z_s3 : Tm := ⟨[], [], [], []⟩
noncomputable def L_q27z_s3 {ρ : Type} (self_q27z : Int × (ByteArray × Int × Unit) × Unit → Option (Ev.Val × (ByteArray × Int × Unit) × Unit)) (n : Nat) : LOrc ρ := lorcNil
omit [Tabs] [QuietD Tryz.prog] [UDef] [UTabs] in
theorem s_q27z_s3 {ρ : Type} (self_q27z : Int × (ByteArray × Int × Unit) × Unit → Option (Ev.Val × (ByteArray × Int × Unit) × Unit)) (n : Nat) (rec : T_q27z_s3.den → Option ρ) kx kr s : dStep Tryz.prog 143 TT M_q27z (O_q27z self_q27z n) (L_q27z_s3 self_q27z n) (evDraw Tryz.prog 143 TT M_q27z (O_q27z self_q27z n)) 3 (lbody 1000 C_q27z 1) T_q27z_s3 X_q27z_s3 R_q27z_s3 ⟨[], [], []⟩ rec kx kr s = q27z_s3 self_q27z n rec kx kr s := by kernel_rfl
noncomputable def L_q27z {ρ : Type} (self_q27z : Int × (ByteArray × Int × Unit) × Unit → Option (Ev.Val × (ByteArray × Int × Unit) × Unit)) (n : Nat) : LOrc ρ := lorcCons 1 (loopL 143 1 n T_q27z_s1 X_q27z_s1 R_q27z_s1 ⟨[], [], [(6, 3, 300243, 24, 4)]⟩ (q27z_s1 self_q27z n)) (lorcCons 3 (loopL 143 3 n T_q27z_s3 X_q27z_s3 R_q27z_s3 ⟨[], [], []⟩ (q27z_s3 self_q27z n)) (lorcNil))
omit [Tabs] [QuietD Tryz.prog] [UDef] [UTabs] in
theorem e_q27z (self_q27z : Int × (ByteArray × Int × Unit) × Unit → Option (Ev.Val × (ByteArray × Int × Unit) × Unit)) (n : Nat) (x) : evF Tryz.prog 143 TT M_q27z F_q27z (O_q27z self_q27z n) (L_q27z self_q27z n) (evDraw Tryz.prog 143 TT M_q27z (O_q27z self_q27z n)) ⟨[], [], []⟩ [.cell 4 24] C_q27z x = q27z_b self_q27z n x := by kernel_rfl
omit [UDef] in
theorem okb_q27z (self_q27z : Int × (ByteArray × Int × Unit) × Unit → Option (Ev.Val × (ByteArray × Int × Unit) × Unit)) (h_q27z : Contract Tryz.prog 46 F_q27z self_q27z) (n : Nat) : Contract Tryz.prog 46 F_q27z (q27z_b self_q27z n) :=
  Contract.of_ev (c := C_q27z) (N := 143) Tryz.func46 (by kernel_rfl) (by kernel_rfl) (by kernel_rfl) (by kernel_rfl) (O_q27z_ok self_q27z h_q27z n) (evDraw_ok (O_q27z_ok self_q27z h_q27z n) (by kernel_rfl)) (.of (l := [(1, (lbody 1000 C_q27z 0)), (3, (lbody 1000 C_q27z 1))]) (by kernel_rfl) ⟨.head (loopL_sound (O_q27z_ok self_q27z h_q27z n) (evDraw_ok (O_q27z_ok self_q27z h_q27z n) (by kernel_rfl)) (.of (l := []) (by kernel_rfl) trivial) (s_q27z_s1 self_q27z n)), ⟨.tail rfl (.head (loopL_sound (O_q27z_ok self_q27z h_q27z n) (evDraw_ok (O_q27z_ok self_q27z h_q27z n) (by kernel_rfl)) (.of (l := []) (by kernel_rfl) trivial) (s_q27z_s3 self_q27z n))), trivial⟩⟩) (e_q27z self_q27z n)
omit [UDef] in
theorem ok_q27z : ∀ n, Contract Tryz.prog 46 F_q27z (q27z n)
  | 0 => fun _ _ h => by cases h
  | n + 1 => okb_q27z _ (ok_q27z n) n

noncomputable def C_q49z : Code := bodyOf Tryz.f21
noncomputable def M_q49z : List (Nat × ArgM) := [(999999997, ⟨[45], [], [], false⟩), (46, ⟨[0], [], [], false⟩), (13, ⟨[], [], [], true⟩)]
instance : DfOk M_q49z := ⟨fun g hg => ⟨UDef.ok g ((show ∀ x ∈ ([45] : List Nat), x ∈ ([45] : List Nat) by decide) g hg), QuietD.free Tryz.prog⟩⟩
noncomputable def O_q49z {ρ : Type} (n : Nat) : Orc ρ := orcCons 46 F_q27z (q27z n) (orcCons 13 F_q48z (q48z n) (orcNil))
omit [UDef] in
theorem O_q49z_ok {ρ : Type} (n : Nat) : (O_q49z n : Orc ρ).ok Tryz.prog := orcCons_ok (by kernel_rfl) (ok_q27z n) (orcCons_ok (by kernel_rfl) (ok_q48z n) (orcNil_ok))
noncomputable def L_q49z {ρ : Type} (n : Nat) : LOrc ρ := lorcNil
omit [Tabs] [QuietD Tryz.prog] [UDef] [UTabs] in
theorem e_q49z (n : Nat) (x) : evF Tryz.prog 37 TT M_q49z F_q49z (O_q49z n) (L_q49z n) dorcNil ⟨[], [], []⟩ [.cell 2 24, .cell 3 3, .cell 4 25] C_q49z x = q49z n x := by kernel_rfl
theorem ok_q49z (n : Nat) : Contract Tryz.prog 21 F_q49z (q49z n) :=
  Contract.of_ev (c := C_q49z) (N := 37) Tryz.func21 (by kernel_rfl) (by kernel_rfl) (by kernel_rfl) (by kernel_rfl) (O_q49z_ok n) dorcNil_ok (.of (l := []) (by kernel_rfl) trivial) (e_q49z n)

noncomputable def C_q39z : Code := bodyOf Tryz.f96
noncomputable def M_q39z : List (Nat × ArgM) := [(124, ⟨[], [], [], true⟩)]
instance : DfOk M_q39z := .none rfl
noncomputable def O_q39z {ρ : Type} (n : Nat) : Orc ρ := orcCons 124 F_cut (cutN) (orcCons 21 F_q49z (q49z n) (orcNil))
theorem O_q39z_ok {ρ : Type} (n : Nat) : (O_q39z n : Orc ρ).ok Tryz.prog := orcCons_ok (by kernel_rfl) (cutN_ok) (orcCons_ok (by kernel_rfl) (ok_q49z n) (orcNil_ok))
noncomputable def T_q39z_s0 : Tm := ⟨[(4, .own 4)], [(13, (.lst .str)), (14, .i64), (15, .i64)], [(4, .arr 69 .prp)], []⟩
noncomputable def X_q39z_s0 : Tm := ⟨[(4, .own 4)], [], [(4, .arr 69 .prp)], []⟩
noncomputable def R_q39z_s0 : Tm := ⟨[], [(2, (.lst .prp)), (3, .bool)], [], []⟩
noncomputable def L_q39z_s0 {ρ : Type} (n : Nat) : LOrc ρ := lorcNil
omit [Tabs] [QuietD Tryz.prog] [UDef] [UTabs] in
theorem s_q39z_s0 {ρ : Type} (n : Nat) (rec : T_q39z_s0.den → Option ρ) kx kr s : dStep Tryz.prog 45 TT M_q39z (O_q39z n) (L_q39z_s0 n) dorcNil 0 (lbody 1000 C_q39z 0) T_q39z_s0 X_q39z_s0 R_q39z_s0 ⟨[], [(4, 4, 69, 5)], []⟩ rec kx kr s = q39z_s0 n rec kx kr s := by kernel_rfl
noncomputable def L_q39z {ρ : Type} (n : Nat) : LOrc ρ := lorcCons 0 (loopL 45 0 n T_q39z_s0 X_q39z_s0 R_q39z_s0 ⟨[], [(4, 4, 69, 5)], []⟩ (q39z_s0 n)) (lorcNil)
omit [Tabs] [QuietD Tryz.prog] [UDef] [UTabs] in
theorem e_q39z (n : Nat) (x) : evF Tryz.prog 45 TT M_q39z F_q39z (O_q39z n) (L_q39z n) dorcNil ⟨[], [], []⟩ [.tmp 2, .tmp 3] C_q39z x = q39z n x := by kernel_rfl
theorem ok_q39z (n : Nat) : Contract Tryz.prog 96 F_q39z (q39z n) :=
  Contract.of_ev (c := C_q39z) (N := 45) Tryz.func96 (by kernel_rfl) (by kernel_rfl) (by kernel_rfl) (by kernel_rfl) (O_q39z_ok n) dorcNil_ok (.of (l := [(0, (lbody 1000 C_q39z 0))]) (by kernel_rfl) ⟨.head (loopL_sound (O_q39z_ok n) dorcNil_ok (.of (l := []) (by kernel_rfl) trivial) (s_q39z_s0 n)), trivial⟩) (e_q39z n)

noncomputable def C_port_line : Code := bodyOf Tryz.f63
noncomputable def M_port_line : List (Nat × ArgM) := [(62, ⟨[], [], [], true⟩), (95, ⟨[], [], [], true⟩)]
instance : DfOk M_port_line := .none rfl
noncomputable def O_port_line {ρ : Type} (n : Nat) : Orc ρ := orcCons 62 F_q57z (q57z) (orcCons 95 F_q35z (q35z) (orcCons 96 F_q39z (q39z n) (orcNil)))
theorem O_port_line_ok {ρ : Type} (n : Nat) : (O_port_line n : Orc ρ).ok Tryz.prog := orcCons_ok (by kernel_rfl) (ok_q57z) (orcCons_ok (by kernel_rfl) (ok_q35z) (orcCons_ok (by kernel_rfl) (ok_q39z n) (orcNil_ok)))
noncomputable def T_port_line_s1 : Tm := ⟨[(0, .ptr 1000000 0), (7, .ptr 7 0)], [(1, (.lst .str)), (6, .bool)], [(7, .box [.d .i64, .ref (.own 300281), .ref (.nils)]), (300281, .arr 9 .str), (1000000, .box [.ref (.own 1000001), .ref (.own 1000002), .d .i64]), (1000001, .arr 73 .node), (1000002, .arr 75 .edg)], []⟩
noncomputable def X_port_line_s1 : Tm := ⟨[(0, .ptr 1000000 0), (7, .ptr 7 0)], [(1, (.lst .str)), (6, .bool)], [(7, .box [.d .i64, .ref (.own 300281), .ref (.nils)]), (300281, .arr 9 .str), (1000000, .box [.ref (.own 1000001), .ref (.own 1000002), .d .i64]), (1000001, .arr 73 .node), (1000002, .arr 75 .edg)], []⟩
noncomputable def R_port_line_s1 : Tm := ⟨[], [], [], []⟩
noncomputable def L_port_line_s1 {ρ : Type} (n : Nat) : LOrc ρ := lorcNil
omit [Tabs] [QuietD Tryz.prog] [UDef] [UTabs] in
theorem s_port_line_s1 {ρ : Type} (n : Nat) (rec : T_port_line_s1.den → Option ρ) kx kr s : dStep Tryz.prog 162 TT M_port_line (O_port_line n) (L_port_line_s1 n) (evDraw Tryz.prog 162 TT M_port_line (O_port_line n)) 1 (lbody 1000 C_port_line 0) T_port_line_s1 X_port_line_s1 R_port_line_s1 ⟨[], [], [(7, 1, 300281, 9, 1)]⟩ rec kx kr s = port_line_s1 n rec kx kr s := by kernel_rfl
noncomputable def L_port_line {ρ : Type} (n : Nat) : LOrc ρ := lorcCons 1 (loopL 162 1 n T_port_line_s1 X_port_line_s1 R_port_line_s1 ⟨[], [], [(7, 1, 300281, 9, 1)]⟩ (port_line_s1 n)) (lorcNil)
omit [Tabs] [QuietD Tryz.prog] [UDef] [UTabs] in
theorem e_port_line (n : Nat) (x) : evF Tryz.prog 162 TT M_port_line F_port_line (O_port_line n) (L_port_line n) (evDraw Tryz.prog 162 TT M_port_line (O_port_line n)) ⟨[], [], []⟩ [.tmp 4] C_port_line x = port_line n x := by kernel_rfl
theorem ok_port_line (n : Nat) : Contract Tryz.prog 63 F_port_line (port_line n) :=
  Contract.of_ev (c := C_port_line) (N := 162) Tryz.func63 (by kernel_rfl) (by kernel_rfl) (by kernel_rfl) (by kernel_rfl) (O_port_line_ok n) (evDraw_ok (O_port_line_ok n) (by kernel_rfl)) (.of (l := [(1, (lbody 1000 C_port_line 0))]) (by kernel_rfl) ⟨.head (loopL_sound (O_port_line_ok n) (evDraw_ok (O_port_line_ok n) (by kernel_rfl)) (.of (l := []) (by kernel_rfl) trivial) (s_port_line_s1 n)), trivial⟩) (e_port_line n)

noncomputable def C_q55z : Code := bodyOf Tryz.f37
noncomputable def M_q55z : List (Nat × ArgM) := [(63, ⟨[0], [], [], false⟩), (62, ⟨[], [], [], true⟩), (27, ⟨[], [], [], true⟩)]
instance : DfOk M_q55z := .none rfl
noncomputable def O_q55z {ρ : Type} (n : Nat) : Orc ρ := orcCons 60 F_split (splitN) (orcCons 61 F_q58z (q58z n) (orcCons 62 F_q57z (q57z) (orcCons 63 F_port_line (port_line n) (orcCons 27 F_q46z (q46z n) (orcNil)))))
theorem O_q55z_ok {ρ : Type} (n : Nat) : (O_q55z n : Orc ρ).ok Tryz.prog := orcCons_ok (by kernel_rfl) (splitN_ok) (orcCons_ok (by kernel_rfl) (ok_q58z n) (orcCons_ok (by kernel_rfl) (ok_q57z) (orcCons_ok (by kernel_rfl) (ok_port_line n) (orcCons_ok (by kernel_rfl) (ok_q46z n) (orcNil_ok)))))
noncomputable def T_q55z_s0 : Tm := ⟨[(2, .ptr 2 0)], [(5, (.lst .str)), (17, (.lst .str)), (18, .i64), (19, .i64)], [(2, .box [.ref (.own 300080), .ref (.own 300081), .d .i64]), (300080, .arr 73 .node), (300081, .arr 75 .edg)], []⟩
noncomputable def X_q55z_s0 : Tm := ⟨[(2, .ptr 2 0)], [], [(2, .box [.ref (.own 300080), .ref (.own 300081), .d .i64]), (300080, .arr 73 .node), (300081, .arr 75 .edg)], []⟩
noncomputable def R_q55z_s0 : Tm := ⟨[(2, .ptr 2 0)], [(3, .i64), (4, .i64)], [(2, .box [.d .graph])], []⟩
noncomputable def L_q55z_s0 {ρ : Type} (n : Nat) : LOrc ρ := lorcNil
omit [Tabs] [QuietD Tryz.prog] [UDef] [UTabs] in
theorem s_q55z_s0 {ρ : Type} (n : Nat) (rec : T_q55z_s0.den → Option ρ) kx kr s : dStep Tryz.prog 72 TT M_q55z (O_q55z n) (L_q55z_s0 n) dorcNil 0 (lbody 1000 C_q55z 0) T_q55z_s0 X_q55z_s0 R_q55z_s0 ⟨[], [], [(2, 0, 300080, 73, 3), (2, 1, 300081, 75, 5)]⟩ rec kx kr s = q55z_s0 n rec kx kr s := by kernel_rfl
noncomputable def L_q55z {ρ : Type} (n : Nat) : LOrc ρ := lorcCons 0 (loopL 72 0 n T_q55z_s0 X_q55z_s0 R_q55z_s0 ⟨[], [], [(2, 0, 300080, 73, 3), (2, 1, 300081, 75, 5)]⟩ (q55z_s0 n)) (lorcNil)
omit [Tabs] [QuietD Tryz.prog] [UDef] [UTabs] in
theorem e_q55z (n : Nat) (x) : evF Tryz.prog 72 TT M_q55z F_q55z (O_q55z n) (L_q55z n) dorcNil ⟨[], [], []⟩ [.cell 2 35, .tmp 3, .tmp 4] C_q55z x = q55z n x := by kernel_rfl
theorem ok_q55z (n : Nat) : Contract Tryz.prog 37 F_q55z (q55z n) :=
  Contract.of_ev (c := C_q55z) (N := 72) Tryz.func37 (by kernel_rfl) (by kernel_rfl) (by kernel_rfl) (by kernel_rfl) (O_q55z_ok n) dorcNil_ok (.of (l := [(0, (lbody 1000 C_q55z 0))]) (by kernel_rfl) ⟨.head (loopL_sound (O_q55z_ok n) dorcNil_ok (.of (l := []) (by kernel_rfl) trivial) (s_q55z_s0 n)), trivial⟩) (e_q55z n)

noncomputable def F_q20z : FnT := ⟨2, ⟨[], [(0, .graph), (1, .graph)], [], []⟩, [.v .bool], []⟩
noncomputable def F_q2z : FnT := ⟨3, ⟨[(2, .fn 65)], [(0, (.lst .node)), (1, (.lst .node))], [], []⟩, [.v .bool], []⟩
noncomputable def F_q24z : FnT := ⟨2, ⟨[], [(0, .node), (1, .node)], [], []⟩, [.v .bool], []⟩
noncomputable def F_q10z : FnT := ⟨2, ⟨[], [(0, (.lst .str)), (1, (.lst .str))], [], []⟩, [.v .bool], []⟩
noncomputable def C_q10z : Code := bodyOf Tryz.f97
noncomputable def M_q10z : List (Nat × ArgM) := []
instance : DfOk M_q10z := .none rfl
noncomputable def O_q10z {ρ : Type} (n : Nat) : Orc ρ := orcNil
omit [QuietD Tryz.prog] [UDef] [UTabs] in
theorem O_q10z_ok {ρ : Type} (n : Nat) : (O_q10z n : Orc ρ).ok Tryz.prog := orcNil_ok
noncomputable def T_q10z_s0 : Tm := ⟨[], [(0, (.lst .str)), (1, (.lst .str)), (12, .i64), (13, .i64)], [], []⟩
noncomputable def X_q10z_s0 : Tm := ⟨[], [], [], []⟩
noncomputable def R_q10z_s0 : Tm := ⟨[], [(4, .bool)], [], []⟩
noncomputable def L_q10z_s0 {ρ : Type} (n : Nat) : LOrc ρ := lorcNil
omit [Tabs] [QuietD Tryz.prog] [UDef] [UTabs] in
theorem s_q10z_s0 {ρ : Type} (n : Nat) (rec : T_q10z_s0.den → Option ρ) kx kr s : dStep Tryz.prog 26 TT M_q10z (O_q10z n) (L_q10z_s0 n) (evDraw Tryz.prog 26 TT M_q10z (O_q10z n)) 0 (lbody 1000 C_q10z 0) T_q10z_s0 X_q10z_s0 R_q10z_s0 ⟨[], [], []⟩ rec kx kr s = q10z_s0 n rec kx kr s := by kernel_rfl
noncomputable def L_q10z {ρ : Type} (n : Nat) : LOrc ρ := lorcCons 0 (loopL 26 0 n T_q10z_s0 X_q10z_s0 R_q10z_s0 ⟨[], [], []⟩ (q10z_s0 n)) (lorcNil)
omit [Tabs] [QuietD Tryz.prog] [UDef] [UTabs] in
theorem e_q10z (n : Nat) (x) : evF Tryz.prog 26 TT M_q10z F_q10z (O_q10z n) (L_q10z n) (evDraw Tryz.prog 26 TT M_q10z (O_q10z n)) ⟨[], [], []⟩ [.tmp 4] C_q10z x = q10z n x := by kernel_rfl
omit [UDef] [UTabs] in
theorem ok_q10z (n : Nat) : Contract Tryz.prog 97 F_q10z (q10z n) :=
  Contract.of_ev (c := C_q10z) (N := 26) Tryz.func97 (by kernel_rfl) (by kernel_rfl) (by kernel_rfl) (by kernel_rfl) (O_q10z_ok n) (evDraw_ok (O_q10z_ok n) (by kernel_rfl)) (.of (l := [(0, (lbody 1000 C_q10z 0))]) (by kernel_rfl) ⟨.head (loopL_sound (O_q10z_ok n) (evDraw_ok (O_q10z_ok n) (by kernel_rfl)) (.of (l := []) (by kernel_rfl) trivial) (s_q10z_s0 n)), trivial⟩) (e_q10z n)

noncomputable def F_q21z : FnT := ⟨2, ⟨[], [(0, (.lst .prp)), (1, (.lst .prp))], [], []⟩, [.v .bool], []⟩
noncomputable def F_q0z : FnT := ⟨3, ⟨[(2, .fn 126)], [(0, (.lst .prp)), (1, (.lst .prp))], [], []⟩, [.v .bool], []⟩
noncomputable def F_q13z : FnT := ⟨2, ⟨[], [(0, .prp), (1, .prp)], [], []⟩, [.v .bool], []⟩
noncomputable def F_q22z : FnT := ⟨2, ⟨[], [(0, .val), (1, .val)], [], []⟩, [.v .bool], []⟩
noncomputable def F_q26z : FnT := ⟨2, ⟨[], [(0, .val), (1, .val)], [], []⟩, [.v .i64], []⟩
noncomputable def F_q40z : FnT := ⟨2, ⟨[], [(0, (.lst .u8)), (1, (.lst .u8))], [], []⟩, [.v .i64], []⟩
noncomputable def C_q40z : Code := bodyOf Tryz.f74
noncomputable def M_q40z : List (Nat × ArgM) := []
instance : DfOk M_q40z := .none rfl
noncomputable def O_q40z {ρ : Type} : Orc ρ := orcCons 103 T_cmpB (cmpN) (orcNil)
omit [QuietD Tryz.prog] [UDef] [UTabs] in
theorem O_q40z_ok {ρ : Type} : (O_q40z : Orc ρ).ok Tryz.prog := orcExt_ok (by kernel_rfl) (cmp_ok) (orcNil_ok)
noncomputable def L_q40z {ρ : Type} : LOrc ρ := lorcNil
omit [Tabs] [QuietD Tryz.prog] [UDef] [UTabs] in
theorem e_q40z (x) : evF Tryz.prog 8 TT M_q40z F_q40z (O_q40z) (L_q40z) dorcNil ⟨[], [], []⟩ [.tmp 4] C_q40z x = q40z x := by kernel_rfl
omit [UDef] [UTabs] in
theorem ok_q40z : Contract Tryz.prog 74 F_q40z (q40z) :=
  Contract.of_ev (c := C_q40z) (N := 8) Tryz.func74 (by kernel_rfl) (by kernel_rfl) (by kernel_rfl) (by kernel_rfl) (O_q40z_ok) dorcNil_ok (.of (l := []) (by kernel_rfl) trivial) (e_q40z)

noncomputable def C_q26z : Code := bodyOf Tryz.f47
noncomputable def M_q26z : List (Nat × ArgM) := [(74, ⟨[], [], [], true⟩), (47, ⟨[], [], [], true⟩)]
instance : DfOk M_q26z := .none rfl
noncomputable def O_q26z {ρ : Type} (self_q26z : Ev.Val × Ev.Val × Unit → Option (Int × Unit)) (n : Nat) : Orc ρ := orcCons 74 F_q40z (q40z) (orcCons 47 F_q26z (self_q26z) (orcNil))
omit [UDef] [UTabs] in
theorem O_q26z_ok {ρ : Type} (self_q26z : Ev.Val × Ev.Val × Unit → Option (Int × Unit)) (h_q26z : Contract Tryz.prog 47 F_q26z self_q26z) (n : Nat) : (O_q26z self_q26z n : Orc ρ).ok Tryz.prog := orcCons_ok (by kernel_rfl) (ok_q40z) (orcCons_ok (by kernel_rfl) (h_q26z) (orcNil_ok))
noncomputable def T_q26z_s1 : Tm := ⟨[(2, .ptr 2 0), (3, .ptr 3 0)], [(5, .i64)], [(2, .box [.d .val]), (3, .box [.d .val])], []⟩
noncomputable def X_q26z_s1 : Tm := ⟨[(2, .ptr 2 0), (3, .ptr 3 0)], [], [(2, .box [.d .val]), (3, .box [.d .val])], []⟩
noncomputable def R_q26z_s1 : Tm := ⟨[], [(4, .i64)], [], []⟩
noncomputable def L_q26z_s1 {ρ : Type} (self_q26z : Ev.Val × Ev.Val × Unit → Option (Int × Unit)) (n : Nat) : LOrc ρ := lorcNil
omit [Tabs] [QuietD Tryz.prog] [UDef] [UTabs] in
theorem s_q26z_s1 {ρ : Type} (self_q26z : Ev.Val × Ev.Val × Unit → Option (Int × Unit)) (n : Nat) (rec : T_q26z_s1.den → Option ρ) kx kr s : dStep Tryz.prog 88 TT M_q26z (O_q26z self_q26z n) (L_q26z_s1 self_q26z n) (evDraw Tryz.prog 88 TT M_q26z (O_q26z self_q26z n)) 1 (lbody 1000 C_q26z 0) T_q26z_s1 X_q26z_s1 R_q26z_s1 ⟨[], [], []⟩ rec kx kr s = q26z_s1 self_q26z n rec kx kr s := by kernel_rfl
noncomputable def L_q26z {ρ : Type} (self_q26z : Ev.Val × Ev.Val × Unit → Option (Int × Unit)) (n : Nat) : LOrc ρ := lorcCons 1 (loopL 88 1 n T_q26z_s1 X_q26z_s1 R_q26z_s1 ⟨[], [], []⟩ (q26z_s1 self_q26z n)) (lorcNil)
omit [Tabs] [QuietD Tryz.prog] [UDef] [UTabs] in
theorem e_q26z (self_q26z : Ev.Val × Ev.Val × Unit → Option (Int × Unit)) (n : Nat) (x) : evF Tryz.prog 88 TT M_q26z F_q26z (O_q26z self_q26z n) (L_q26z self_q26z n) (evDraw Tryz.prog 88 TT M_q26z (O_q26z self_q26z n)) ⟨[], [], []⟩ [.tmp 4] C_q26z x = q26z_b self_q26z n x := by kernel_rfl
omit [UDef] [UTabs] in
theorem okb_q26z (self_q26z : Ev.Val × Ev.Val × Unit → Option (Int × Unit)) (h_q26z : Contract Tryz.prog 47 F_q26z self_q26z) (n : Nat) : Contract Tryz.prog 47 F_q26z (q26z_b self_q26z n) :=
  Contract.of_ev (c := C_q26z) (N := 88) Tryz.func47 (by kernel_rfl) (by kernel_rfl) (by kernel_rfl) (by kernel_rfl) (O_q26z_ok self_q26z h_q26z n) (evDraw_ok (O_q26z_ok self_q26z h_q26z n) (by kernel_rfl)) (.of (l := [(1, (lbody 1000 C_q26z 0))]) (by kernel_rfl) ⟨.head (loopL_sound (O_q26z_ok self_q26z h_q26z n) (evDraw_ok (O_q26z_ok self_q26z h_q26z n) (by kernel_rfl)) (.of (l := []) (by kernel_rfl) trivial) (s_q26z_s1 self_q26z n)), trivial⟩) (e_q26z self_q26z n)
omit [UDef] [UTabs] in
theorem ok_q26z : ∀ n, Contract Tryz.prog 47 F_q26z (q26z n)
  | 0 => fun _ _ h => by cases h
  | n + 1 => okb_q26z _ (ok_q26z n) n

noncomputable def C_q22z : Code := bodyOf Tryz.f22
noncomputable def M_q22z : List (Nat × ArgM) := [(47, ⟨[], [], [], true⟩)]
instance : DfOk M_q22z := .none rfl
noncomputable def O_q22z {ρ : Type} (n : Nat) : Orc ρ := orcCons 47 F_q26z (q26z n) (orcNil)
omit [UDef] [UTabs] in
theorem O_q22z_ok {ρ : Type} (n : Nat) : (O_q22z n : Orc ρ).ok Tryz.prog := orcCons_ok (by kernel_rfl) (ok_q26z n) (orcNil_ok)
noncomputable def L_q22z {ρ : Type} (n : Nat) : LOrc ρ := lorcNil
omit [Tabs] [QuietD Tryz.prog] [UDef] [UTabs] in
theorem e_q22z (n : Nat) (x) : evF Tryz.prog 9 TT M_q22z F_q22z (O_q22z n) (L_q22z n) dorcNil ⟨[], [], []⟩ [.tmp 4] C_q22z x = q22z n x := by kernel_rfl
omit [UDef] [UTabs] in
theorem ok_q22z (n : Nat) : Contract Tryz.prog 22 F_q22z (q22z n) :=
  Contract.of_ev (c := C_q22z) (N := 9) Tryz.func22 (by kernel_rfl) (by kernel_rfl) (by kernel_rfl) (by kernel_rfl) (O_q22z_ok n) dorcNil_ok (.of (l := []) (by kernel_rfl) trivial) (e_q22z n)

noncomputable def C_q13z : Code := bodyOf Tryz.f126
noncomputable def M_q13z : List (Nat × ArgM) := [(22, ⟨[], [], [], true⟩)]
instance : DfOk M_q13z := .none rfl
noncomputable def O_q13z {ρ : Type} (n : Nat) : Orc ρ := orcCons 22 F_q22z (q22z n) (orcNil)
omit [UDef] [UTabs] in
theorem O_q13z_ok {ρ : Type} (n : Nat) : (O_q13z n : Orc ρ).ok Tryz.prog := orcCons_ok (by kernel_rfl) (ok_q22z n) (orcNil_ok)
noncomputable def L_q13z {ρ : Type} (n : Nat) : LOrc ρ := lorcNil
omit [Tabs] [QuietD Tryz.prog] [UDef] [UTabs] in
theorem e_q13z (n : Nat) (x) : evF Tryz.prog 17 TT M_q13z F_q13z (O_q13z n) (L_q13z n) dorcNil ⟨[], [], []⟩ [.tmp 4] C_q13z x = q13z n x := by kernel_rfl
omit [UDef] [UTabs] in
theorem ok_q13z (n : Nat) : Contract Tryz.prog 126 F_q13z (q13z n) :=
  Contract.of_ev (c := C_q13z) (N := 17) Tryz.func126 (by kernel_rfl) (by kernel_rfl) (by kernel_rfl) (by kernel_rfl) (O_q13z_ok n) dorcNil_ok (.of (l := []) (by kernel_rfl) trivial) (e_q13z n)

noncomputable def C_q0z : Code := bodyOf Tryz.f125
noncomputable def M_q0z : List (Nat × ArgM) := [(126, ⟨[], [], [], true⟩)]
instance : DfOk M_q0z := .none rfl
noncomputable def O_q0z {ρ : Type} (n : Nat) : Orc ρ := orcCons 126 F_q13z (q13z n) (orcNil)
omit [UDef] [UTabs] in
theorem O_q0z_ok {ρ : Type} (n : Nat) : (O_q0z n : Orc ρ).ok Tryz.prog := orcCons_ok (by kernel_rfl) (ok_q13z n) (orcNil_ok)
noncomputable def T_q0z_s0 : Tm := ⟨[(2, .fn 126)], [(1, (.lst .prp)), (15, (.lst .prp)), (16, .i64), (17, .i64)], [], []⟩
noncomputable def X_q0z_s0 : Tm := ⟨[], [], [], []⟩
noncomputable def R_q0z_s0 : Tm := ⟨[], [(6, .bool)], [], []⟩
noncomputable def L_q0z_s0 {ρ : Type} (n : Nat) : LOrc ρ := lorcNil
omit [Tabs] [QuietD Tryz.prog] [UDef] [UTabs] in
theorem s_q0z_s0 {ρ : Type} (n : Nat) (rec : T_q0z_s0.den → Option ρ) kx kr s : dStep Tryz.prog 32 TT M_q0z (O_q0z n) (L_q0z_s0 n) dorcNil 0 (lbody 1000 C_q0z 0) T_q0z_s0 X_q0z_s0 R_q0z_s0 ⟨[], [], []⟩ rec kx kr s = q0z_s0 n rec kx kr s := by kernel_rfl
noncomputable def L_q0z {ρ : Type} (n : Nat) : LOrc ρ := lorcCons 0 (loopL 32 0 n T_q0z_s0 X_q0z_s0 R_q0z_s0 ⟨[], [], []⟩ (q0z_s0 n)) (lorcNil)
omit [Tabs] [QuietD Tryz.prog] [UDef] [UTabs] in
theorem e_q0z (n : Nat) (x) : evF Tryz.prog 32 TT M_q0z F_q0z (O_q0z n) (L_q0z n) dorcNil ⟨[], [], []⟩ [.tmp 6] C_q0z x = q0z n x := by kernel_rfl
omit [UDef] [UTabs] in
theorem ok_q0z (n : Nat) : Contract Tryz.prog 125 F_q0z (q0z n) :=
  Contract.of_ev (c := C_q0z) (N := 32) Tryz.func125 (by kernel_rfl) (by kernel_rfl) (by kernel_rfl) (by kernel_rfl) (O_q0z_ok n) dorcNil_ok (.of (l := [(0, (lbody 1000 C_q0z 0))]) (by kernel_rfl) ⟨.head (loopL_sound (O_q0z_ok n) dorcNil_ok (.of (l := []) (by kernel_rfl) trivial) (s_q0z_s0 n)), trivial⟩) (e_q0z n)

noncomputable def C_q21z : Code := bodyOf Tryz.f98
noncomputable def M_q21z : List (Nat × ArgM) := [(125, ⟨[], [], [], true⟩)]
instance : DfOk M_q21z := .none rfl
noncomputable def O_q21z {ρ : Type} (n : Nat) : Orc ρ := orcCons 125 F_q0z (q0z n) (orcNil)
omit [UDef] [UTabs] in
theorem O_q21z_ok {ρ : Type} (n : Nat) : (O_q21z n : Orc ρ).ok Tryz.prog := orcCons_ok (by kernel_rfl) (ok_q0z n) (orcNil_ok)
noncomputable def L_q21z {ρ : Type} (n : Nat) : LOrc ρ := lorcNil
omit [Tabs] [QuietD Tryz.prog] [UDef] [UTabs] in
theorem e_q21z (n : Nat) (x) : evF Tryz.prog 8 TT M_q21z F_q21z (O_q21z n) (L_q21z n) dorcNil ⟨[], [], []⟩ [.tmp 4] C_q21z x = q21z n x := by kernel_rfl
omit [UDef] [UTabs] in
theorem ok_q21z (n : Nat) : Contract Tryz.prog 98 F_q21z (q21z n) :=
  Contract.of_ev (c := C_q21z) (N := 8) Tryz.func98 (by kernel_rfl) (by kernel_rfl) (by kernel_rfl) (by kernel_rfl) (O_q21z_ok n) dorcNil_ok (.of (l := []) (by kernel_rfl) trivial) (e_q21z n)

noncomputable def C_q24z : Code := bodyOf Tryz.f65
noncomputable def M_q24z : List (Nat × ArgM) := [(97, ⟨[], [], [], true⟩), (98, ⟨[], [], [], true⟩)]
instance : DfOk M_q24z := .none rfl
noncomputable def O_q24z {ρ : Type} (n : Nat) : Orc ρ := orcCons 97 F_q10z (q10z n) (orcCons 98 F_q21z (q21z n) (orcNil))
omit [UDef] [UTabs] in
theorem O_q24z_ok {ρ : Type} (n : Nat) : (O_q24z n : Orc ρ).ok Tryz.prog := orcCons_ok (by kernel_rfl) (ok_q10z n) (orcCons_ok (by kernel_rfl) (ok_q21z n) (orcNil_ok))
noncomputable def L_q24z {ρ : Type} (n : Nat) : LOrc ρ := lorcNil
omit [Tabs] [QuietD Tryz.prog] [UDef] [UTabs] in
theorem e_q24z (n : Nat) (x) : evF Tryz.prog 24 TT M_q24z F_q24z (O_q24z n) (L_q24z n) dorcNil ⟨[], [], []⟩ [.tmp 4] C_q24z x = q24z n x := by kernel_rfl
omit [UDef] [UTabs] in
theorem ok_q24z (n : Nat) : Contract Tryz.prog 65 F_q24z (q24z n) :=
  Contract.of_ev (c := C_q24z) (N := 24) Tryz.func65 (by kernel_rfl) (by kernel_rfl) (by kernel_rfl) (by kernel_rfl) (O_q24z_ok n) dorcNil_ok (.of (l := []) (by kernel_rfl) trivial) (e_q24z n)

noncomputable def C_q2z : Code := bodyOf Tryz.f64
noncomputable def M_q2z : List (Nat × ArgM) := [(65, ⟨[], [], [], true⟩)]
instance : DfOk M_q2z := .none rfl
noncomputable def O_q2z {ρ : Type} (n : Nat) : Orc ρ := orcCons 65 F_q24z (q24z n) (orcNil)
omit [UDef] [UTabs] in
theorem O_q2z_ok {ρ : Type} (n : Nat) : (O_q2z n : Orc ρ).ok Tryz.prog := orcCons_ok (by kernel_rfl) (ok_q24z n) (orcNil_ok)
noncomputable def T_q2z_s0 : Tm := ⟨[(2, .fn 65)], [(1, (.lst .node)), (15, (.lst .node)), (16, .i64), (17, .i64)], [], []⟩
noncomputable def X_q2z_s0 : Tm := ⟨[], [], [], []⟩
noncomputable def R_q2z_s0 : Tm := ⟨[], [(6, .bool)], [], []⟩
noncomputable def L_q2z_s0 {ρ : Type} (n : Nat) : LOrc ρ := lorcNil
omit [Tabs] [QuietD Tryz.prog] [UDef] [UTabs] in
theorem s_q2z_s0 {ρ : Type} (n : Nat) (rec : T_q2z_s0.den → Option ρ) kx kr s : dStep Tryz.prog 32 TT M_q2z (O_q2z n) (L_q2z_s0 n) dorcNil 0 (lbody 1000 C_q2z 0) T_q2z_s0 X_q2z_s0 R_q2z_s0 ⟨[], [], []⟩ rec kx kr s = q2z_s0 n rec kx kr s := by kernel_rfl
noncomputable def L_q2z {ρ : Type} (n : Nat) : LOrc ρ := lorcCons 0 (loopL 32 0 n T_q2z_s0 X_q2z_s0 R_q2z_s0 ⟨[], [], []⟩ (q2z_s0 n)) (lorcNil)
omit [Tabs] [QuietD Tryz.prog] [UDef] [UTabs] in
theorem e_q2z (n : Nat) (x) : evF Tryz.prog 32 TT M_q2z F_q2z (O_q2z n) (L_q2z n) dorcNil ⟨[], [], []⟩ [.tmp 6] C_q2z x = q2z n x := by kernel_rfl
omit [UDef] [UTabs] in
theorem ok_q2z (n : Nat) : Contract Tryz.prog 64 F_q2z (q2z n) :=
  Contract.of_ev (c := C_q2z) (N := 32) Tryz.func64 (by kernel_rfl) (by kernel_rfl) (by kernel_rfl) (by kernel_rfl) (O_q2z_ok n) dorcNil_ok (.of (l := [(0, (lbody 1000 C_q2z 0))]) (by kernel_rfl) ⟨.head (loopL_sound (O_q2z_ok n) dorcNil_ok (.of (l := []) (by kernel_rfl) trivial) (s_q2z_s0 n)), trivial⟩) (e_q2z n)

noncomputable def F_q1z : FnT := ⟨3, ⟨[(2, .fn 67)], [(0, (.lst .edg)), (1, (.lst .edg))], [], []⟩, [.v .bool], []⟩
noncomputable def F_q23z : FnT := ⟨2, ⟨[], [(0, .edg), (1, .edg)], [], []⟩, [.v .bool], []⟩
noncomputable def C_q23z : Code := bodyOf Tryz.f67
noncomputable def M_q23z : List (Nat × ArgM) := [(98, ⟨[], [], [], true⟩)]
instance : DfOk M_q23z := .none rfl
noncomputable def O_q23z {ρ : Type} (n : Nat) : Orc ρ := orcCons 98 F_q21z (q21z n) (orcNil)
omit [UDef] [UTabs] in
theorem O_q23z_ok {ρ : Type} (n : Nat) : (O_q23z n : Orc ρ).ok Tryz.prog := orcCons_ok (by kernel_rfl) (ok_q21z n) (orcNil_ok)
noncomputable def L_q23z {ρ : Type} (n : Nat) : LOrc ρ := lorcNil
omit [Tabs] [QuietD Tryz.prog] [UDef] [UTabs] in
theorem e_q23z (n : Nat) (x) : evF Tryz.prog 38 TT M_q23z F_q23z (O_q23z n) (L_q23z n) dorcNil ⟨[], [], []⟩ [.tmp 4] C_q23z x = q23z n x := by kernel_rfl
omit [UDef] [UTabs] in
theorem ok_q23z (n : Nat) : Contract Tryz.prog 67 F_q23z (q23z n) :=
  Contract.of_ev (c := C_q23z) (N := 38) Tryz.func67 (by kernel_rfl) (by kernel_rfl) (by kernel_rfl) (by kernel_rfl) (O_q23z_ok n) dorcNil_ok (.of (l := []) (by kernel_rfl) trivial) (e_q23z n)

noncomputable def C_q1z : Code := bodyOf Tryz.f66
noncomputable def M_q1z : List (Nat × ArgM) := [(67, ⟨[], [], [], true⟩)]
instance : DfOk M_q1z := .none rfl
noncomputable def O_q1z {ρ : Type} (n : Nat) : Orc ρ := orcCons 67 F_q23z (q23z n) (orcNil)
omit [UDef] [UTabs] in
theorem O_q1z_ok {ρ : Type} (n : Nat) : (O_q1z n : Orc ρ).ok Tryz.prog := orcCons_ok (by kernel_rfl) (ok_q23z n) (orcNil_ok)
noncomputable def T_q1z_s0 : Tm := ⟨[(2, .fn 67)], [(1, (.lst .edg)), (15, (.lst .edg)), (16, .i64), (17, .i64)], [], []⟩
noncomputable def X_q1z_s0 : Tm := ⟨[], [], [], []⟩
noncomputable def R_q1z_s0 : Tm := ⟨[], [(6, .bool)], [], []⟩
noncomputable def L_q1z_s0 {ρ : Type} (n : Nat) : LOrc ρ := lorcNil
omit [Tabs] [QuietD Tryz.prog] [UDef] [UTabs] in
theorem s_q1z_s0 {ρ : Type} (n : Nat) (rec : T_q1z_s0.den → Option ρ) kx kr s : dStep Tryz.prog 32 TT M_q1z (O_q1z n) (L_q1z_s0 n) dorcNil 0 (lbody 1000 C_q1z 0) T_q1z_s0 X_q1z_s0 R_q1z_s0 ⟨[], [], []⟩ rec kx kr s = q1z_s0 n rec kx kr s := by kernel_rfl
noncomputable def L_q1z {ρ : Type} (n : Nat) : LOrc ρ := lorcCons 0 (loopL 32 0 n T_q1z_s0 X_q1z_s0 R_q1z_s0 ⟨[], [], []⟩ (q1z_s0 n)) (lorcNil)
omit [Tabs] [QuietD Tryz.prog] [UDef] [UTabs] in
theorem e_q1z (n : Nat) (x) : evF Tryz.prog 32 TT M_q1z F_q1z (O_q1z n) (L_q1z n) dorcNil ⟨[], [], []⟩ [.tmp 6] C_q1z x = q1z n x := by kernel_rfl
omit [UDef] [UTabs] in
theorem ok_q1z (n : Nat) : Contract Tryz.prog 66 F_q1z (q1z n) :=
  Contract.of_ev (c := C_q1z) (N := 32) Tryz.func66 (by kernel_rfl) (by kernel_rfl) (by kernel_rfl) (by kernel_rfl) (O_q1z_ok n) dorcNil_ok (.of (l := [(0, (lbody 1000 C_q1z 0))]) (by kernel_rfl) ⟨.head (loopL_sound (O_q1z_ok n) dorcNil_ok (.of (l := []) (by kernel_rfl) trivial) (s_q1z_s0 n)), trivial⟩) (e_q1z n)

noncomputable def C_q20z : Code := bodyOf Tryz.f38
noncomputable def M_q20z : List (Nat × ArgM) := [(64, ⟨[], [], [], true⟩), (66, ⟨[], [], [], true⟩)]
instance : DfOk M_q20z := .none rfl
noncomputable def O_q20z {ρ : Type} (n : Nat) : Orc ρ := orcCons 64 F_q2z (q2z n) (orcCons 66 F_q1z (q1z n) (orcNil))
omit [UDef] [UTabs] in
theorem O_q20z_ok {ρ : Type} (n : Nat) : (O_q20z n : Orc ρ).ok Tryz.prog := orcCons_ok (by kernel_rfl) (ok_q2z n) (orcCons_ok (by kernel_rfl) (ok_q1z n) (orcNil_ok))
noncomputable def L_q20z {ρ : Type} (n : Nat) : LOrc ρ := lorcNil
omit [Tabs] [QuietD Tryz.prog] [UDef] [UTabs] in
theorem e_q20z (n : Nat) (x) : evF Tryz.prog 24 TT M_q20z F_q20z (O_q20z n) (L_q20z n) dorcNil ⟨[], [], []⟩ [.tmp 4] C_q20z x = q20z n x := by kernel_rfl
omit [UDef] [UTabs] in
theorem ok_q20z (n : Nat) : Contract Tryz.prog 38 F_q20z (q20z n) :=
  Contract.of_ev (c := C_q20z) (N := 24) Tryz.func38 (by kernel_rfl) (by kernel_rfl) (by kernel_rfl) (by kernel_rfl) (O_q20z_ok n) dorcNil_ok (.of (l := []) (by kernel_rfl) trivial) (e_q20z n)

noncomputable def C_q28z : Code := bodyOf Tryz.f11
noncomputable def M_q28z : List (Nat × ArgM) := [(9, ⟨[], [], [], true⟩), (38, ⟨[], [], [], true⟩)]
instance : DfOk M_q28z := .none rfl
noncomputable def O_q28z {ρ : Type} (n : Nat) : Orc ρ := orcCons 36 F_q33z (q33z) (orcCons 9 F_q56z (q56z n) (orcCons 37 F_q55z (q55z n) (orcCons 38 F_q20z (q20z n) (orcNil))))
theorem O_q28z_ok {ρ : Type} (n : Nat) : (O_q28z n : Orc ρ).ok Tryz.prog := orcCons_ok (by kernel_rfl) (ok_q33z) (orcCons_ok (by kernel_rfl) (ok_q56z n) (orcCons_ok (by kernel_rfl) (ok_q55z n) (orcCons_ok (by kernel_rfl) (ok_q20z n) (orcNil_ok))))
noncomputable def L_q28z {ρ : Type} (n : Nat) : LOrc ρ := lorcNil
omit [Tabs] [QuietD Tryz.prog] [UDef] [UTabs] in
theorem e_q28z (n : Nat) (x) : evF Tryz.prog 36 TT M_q28z F_q28z (O_q28z n) (L_q28z n) (evDraw Tryz.prog 36 TT M_q28z (O_q28z n)) ⟨[], [], []⟩ [.tmp 0] C_q28z x = q28z n x := by kernel_rfl
theorem ok_q28z (n : Nat) : Contract Tryz.prog 11 F_q28z (q28z n) :=
  Contract.of_ev (c := C_q28z) (N := 36) Tryz.func11 (by kernel_rfl) (by kernel_rfl) (by kernel_rfl) (by kernel_rfl) (O_q28z_ok n) (evDraw_ok (O_q28z_ok n) (by kernel_rfl)) (.of (l := []) (by kernel_rfl) trivial) (e_q28z n)

noncomputable def F_q19z : FnT := ⟨1, ⟨[], [(0, .graph)], [], []⟩, [.v .str, .v .bool], []⟩
noncomputable def F_q12z : FnT := ⟨2, ⟨[(1, .ptr 1000000 0)], [(0, (.lst .prp))], [(1000000, .box [.d .bool])], []⟩, [.v .str], [(1000000, .box [.d .bool])]⟩
noncomputable def C_q12z : Code := bodyOf Tryz.f39
noncomputable def M_q12z : List (Nat × ArgM) := [(8, ⟨[], [], [], true⟩)]
instance : DfOk M_q12z := .none rfl
noncomputable def O_q12z {ρ : Type} (n : Nat) : Orc ρ := orcCons 8 F_printOf (printOfN) (orcNil)
omit [QuietD Tryz.prog] [UDef] in
theorem O_q12z_ok {ρ : Type} (n : Nat) : (O_q12z n : Orc ρ).ok Tryz.prog := orcCons_ok (by kernel_rfl) (printOfN_ok) (orcNil_ok)
noncomputable def T_q12z_s0 : Tm := ⟨[(1, .ptr 1000000 0)], [(4, .str), (8, (.lst .prp)), (9, .i64), (10, .i64)], [(1000000, .box [.d .bool])], []⟩
noncomputable def X_q12z_s0 : Tm := ⟨[], [(4, .str)], [(1000000, .box [.d .bool])], []⟩
noncomputable def R_q12z_s0 : Tm := ⟨[], [], [], []⟩
noncomputable def L_q12z_s0 {ρ : Type} (n : Nat) : LOrc ρ := lorcNil
omit [Tabs] [QuietD Tryz.prog] [UDef] [UTabs] in
theorem s_q12z_s0 {ρ : Type} (n : Nat) (rec : T_q12z_s0.den → Option ρ) kx kr s : dStep Tryz.prog 34 TT M_q12z (O_q12z n) (L_q12z_s0 n) dorcNil 0 (lbody 1000 C_q12z 0) T_q12z_s0 X_q12z_s0 R_q12z_s0 ⟨[], [], []⟩ rec kx kr s = q12z_s0 n rec kx kr s := by kernel_rfl
noncomputable def L_q12z {ρ : Type} (n : Nat) : LOrc ρ := lorcCons 0 (loopL 34 0 n T_q12z_s0 X_q12z_s0 R_q12z_s0 ⟨[], [], []⟩ (q12z_s0 n)) (lorcNil)
omit [Tabs] [QuietD Tryz.prog] [UDef] [UTabs] in
theorem e_q12z (n : Nat) (x) : evF Tryz.prog 34 TT M_q12z F_q12z (O_q12z n) (L_q12z n) dorcNil ⟨[], [], []⟩ [.tmp 3] C_q12z x = q12z n x := by kernel_rfl
omit [UDef] in
theorem ok_q12z (n : Nat) : Contract Tryz.prog 39 F_q12z (q12z n) :=
  Contract.of_ev (c := C_q12z) (N := 34) Tryz.func39 (by kernel_rfl) (by kernel_rfl) (by kernel_rfl) (by kernel_rfl) (O_q12z_ok n) dorcNil_ok (.of (l := [(0, (lbody 1000 C_q12z 0))]) (by kernel_rfl) ⟨.head (loopL_sound (O_q12z_ok n) dorcNil_ok (.of (l := []) (by kernel_rfl) trivial) (s_q12z_s0 n)), trivial⟩) (e_q12z n)

noncomputable def C_q19z : Code := bodyOf Tryz.f12
noncomputable def M_q19z : List (Nat × ArgM) := [(39, ⟨[1], [], [], false⟩), (31, ⟨[], [], [], true⟩)]
instance : DfOk M_q19z := .none rfl
noncomputable def O_q19z {ρ : Type} (n : Nat) : Orc ρ := orcCons 31 F_itoa (itoaN) (orcCons 39 F_q12z (q12z n) (orcNil))
omit [UDef] in
theorem O_q19z_ok {ρ : Type} (n : Nat) : (O_q19z n : Orc ρ).ok Tryz.prog := orcCons_ok (by kernel_rfl) (itoaN_ok) (orcCons_ok (by kernel_rfl) (ok_q12z n) (orcNil_ok))
noncomputable def T_q19z_s2 : Tm := ⟨[(1, .ptr 1 0), (4, .ptr 4 0), (5, .clo 39 [4]), (8, .ptr 8 0)], [(6, .str), (20, (.lst .node)), (21, .i64), (22, .i64), (33, (.lst .str)), (34, .i64), (35, .i64)], [(1, .box [.d .graph]), (4, .box [.d .bool]), (8, .box [.d .node])], []⟩
noncomputable def X_q19z_s2 : Tm := ⟨[(1, .ptr 1 0), (4, .ptr 4 0), (5, .clo 39 [4]), (8, .ptr 8 0)], [(6, .str), (20, (.lst .node)), (21, .i64), (22, .i64)], [(1, .box [.d .graph]), (4, .box [.d .bool]), (8, .box [.d .node])], []⟩
noncomputable def R_q19z_s2 : Tm := ⟨[], [], [], []⟩
noncomputable def L_q19z_s2 {ρ : Type} (n : Nat) : LOrc ρ := lorcNil
omit [Tabs] [QuietD Tryz.prog] [UDef] [UTabs] in
theorem s_q19z_s2 {ρ : Type} (n : Nat) (rec : T_q19z_s2.den → Option ρ) kx kr s : dStep Tryz.prog 91 TT M_q19z (O_q19z n) (L_q19z_s2 n) (evDraw Tryz.prog 91 TT M_q19z (O_q19z n)) 2 (lbody 0 (lbody 1000 C_q19z 0) 0) T_q19z_s2 X_q19z_s2 R_q19z_s2 ⟨[], [], []⟩ rec kx kr s = q19z_s2 n rec kx kr s := by kernel_rfl
noncomputable def T_q19z_s0 : Tm := ⟨[(1, .ptr 1 0), (4, .ptr 4 0), (5, .clo 39 [4])], [(6, .str), (20, (.lst .node)), (21, .i64), (22, .i64)], [(1, .box [.d .graph]), (4, .box [.d .bool])], []⟩
noncomputable def X_q19z_s0 : Tm := ⟨[(1, .ptr 1 0), (4, .ptr 4 0), (5, .clo 39 [4])], [(6, .str)], [(1, .box [.d .graph]), (4, .box [.d .bool])], []⟩
noncomputable def R_q19z_s0 : Tm := ⟨[], [], [], []⟩
noncomputable def L_q19z_s0 {ρ : Type} (n : Nat) : LOrc ρ := lorcCons 2 (loopL 91 2 n T_q19z_s2 X_q19z_s2 R_q19z_s2 ⟨[], [], []⟩ (q19z_s2 n)) (lorcNil)
omit [Tabs] [QuietD Tryz.prog] [UDef] [UTabs] in
theorem s_q19z_s0 {ρ : Type} (n : Nat) (rec : T_q19z_s0.den → Option ρ) kx kr s : dStep Tryz.prog 91 TT M_q19z (O_q19z n) (L_q19z_s0 n) (evDraw Tryz.prog 91 TT M_q19z (O_q19z n)) 0 (lbody 1000 C_q19z 0) T_q19z_s0 X_q19z_s0 R_q19z_s0 ⟨[], [], []⟩ rec kx kr s = q19z_s0 n rec kx kr s := by kernel_rfl
noncomputable def T_q19z_s4 : Tm := ⟨[(4, .ptr 4 0), (5, .clo 39 [4])], [(6, .str), (52, (.lst .edg)), (53, .i64), (54, .i64)], [(4, .box [.d .bool])], []⟩
noncomputable def X_q19z_s4 : Tm := ⟨[(4, .ptr 4 0)], [(6, .str)], [(4, .box [.d .bool])], []⟩
noncomputable def R_q19z_s4 : Tm := ⟨[], [], [], []⟩
noncomputable def L_q19z_s4 {ρ : Type} (n : Nat) : LOrc ρ := lorcNil
omit [Tabs] [QuietD Tryz.prog] [UDef] [UTabs] in
theorem s_q19z_s4 {ρ : Type} (n : Nat) (rec : T_q19z_s4.den → Option ρ) kx kr s : dStep Tryz.prog 91 TT M_q19z (O_q19z n) (L_q19z_s4 n) (evDraw Tryz.prog 91 TT M_q19z (O_q19z n)) 4 (lbody 1000 C_q19z 1) T_q19z_s4 X_q19z_s4 R_q19z_s4 ⟨[], [], []⟩ rec kx kr s = q19z_s4 n rec kx kr s := by kernel_rfl
noncomputable def L_q19z {ρ : Type} (n : Nat) : LOrc ρ := lorcCons 0 (loopL 91 0 n T_q19z_s0 X_q19z_s0 R_q19z_s0 ⟨[], [], []⟩ (q19z_s0 n)) (lorcCons 4 (loopL 91 4 n T_q19z_s4 X_q19z_s4 R_q19z_s4 ⟨[], [], []⟩ (q19z_s4 n)) (lorcNil))
omit [Tabs] [QuietD Tryz.prog] [UDef] [UTabs] in
theorem e_q19z (n : Nat) (x) : evF Tryz.prog 91 TT M_q19z F_q19z (O_q19z n) (L_q19z n) (evDraw Tryz.prog 91 TT M_q19z (O_q19z n)) ⟨[], [], []⟩ [.tmp 2, .tmp 3] C_q19z x = q19z n x := by kernel_rfl
omit [UDef] in
theorem ok_q19z (n : Nat) : Contract Tryz.prog 12 F_q19z (q19z n) :=
  Contract.of_ev (c := C_q19z) (N := 91) Tryz.func12 (by kernel_rfl) (by kernel_rfl) (by kernel_rfl) (by kernel_rfl) (O_q19z_ok n) (evDraw_ok (O_q19z_ok n) (by kernel_rfl)) (.of (l := [(0, (lbody 1000 C_q19z 0)), (4, (lbody 1000 C_q19z 1))]) (by kernel_rfl) ⟨.head (loopL_sound (O_q19z_ok n) (evDraw_ok (O_q19z_ok n) (by kernel_rfl)) (.of (l := [(2, (lbody 0 (lbody 1000 C_q19z 0) 0))]) (by kernel_rfl) ⟨.head (loopL_sound (O_q19z_ok n) (evDraw_ok (O_q19z_ok n) (by kernel_rfl)) (.of (l := []) (by kernel_rfl) trivial) (s_q19z_s2 n)), trivial⟩) (s_q19z_s0 n)), ⟨.tail rfl (.head (loopL_sound (O_q19z_ok n) (evDraw_ok (O_q19z_ok n) (by kernel_rfl)) (.of (l := []) (by kernel_rfl) trivial) (s_q19z_s4 n))), trivial⟩⟩) (e_q19z n)

noncomputable def C_q18z : Code := bodyOf Tryz.f4
noncomputable def M_q18z : List (Nat × ArgM) := [(9, ⟨[], [], [], true⟩), (10, ⟨[], [], [], true⟩), (11, ⟨[], [], [], true⟩), (12, ⟨[], [], [], true⟩)]
instance : DfOk M_q18z := .none rfl
noncomputable def O_q18z {ρ : Type} (n : Nat) : Orc ρ := orcCons 9 F_q56z (q56z n) (orcCons 10 F_q15z (q15z n) (orcCons 11 F_q28z (q28z n) (orcCons 12 F_q19z (q19z n) (orcNil))))
theorem O_q18z_ok {ρ : Type} (n : Nat) : (O_q18z n : Orc ρ).ok Tryz.prog := orcCons_ok (by kernel_rfl) (ok_q56z n) (orcCons_ok (by kernel_rfl) (ok_q15z n) (orcCons_ok (by kernel_rfl) (ok_q28z n) (orcCons_ok (by kernel_rfl) (ok_q19z n) (orcNil_ok))))
noncomputable def L_q18z {ρ : Type} (n : Nat) : LOrc ρ := lorcNil
omit [Tabs] [QuietD Tryz.prog] [UDef] [UTabs] in
theorem e_q18z (n : Nat) (x) : evF Tryz.prog 51 TT M_q18z F_q18z (O_q18z n) (L_q18z n) dorcNil ⟨[], [], []⟩ [.tmp 2] C_q18z x = q18z n x := by kernel_rfl
theorem ok_q18z (n : Nat) : Contract Tryz.prog 4 F_q18z (q18z n) :=
  Contract.of_ev (c := C_q18z) (N := 51) Tryz.func4 (by kernel_rfl) (by kernel_rfl) (by kernel_rfl) (by kernel_rfl) (O_q18z_ok n) dorcNil_ok (.of (l := []) (by kernel_rfl) trivial) (e_q18z n)

end Go.Proofs.YtffefjmpmgkfoaaGreatDoor

/- Each of these functions computes what its plain function computes (written by gen.py). -/
import Derived.Test.YtbimcdakgbdiiaaGreatDoorSBase
import Derived.KernelRfl
import Derived.Test.YtbimcdakgbdiiaaGreatDoorEvDraw
import Derived.Test.YtbimcdakgbdiiaaGreatDoorEvQuiet
import Derived.WalkKit
import Derived.Test.YtbimcdakgbdiiaaGreatDoorPCode
namespace Go.Proofs.YtbimcdakgbdiiaaGreatDoor
open Go Esp Ev Pure
set_option linter.unusedSimpArgs false
set_option linter.unusedVariables false
set_option maxRecDepth 100000
set_option maxHeartbeats 1000000
theorem quiet_80 (args : Array Value) (w : World) : (callFunc 80 args).run Tryz.prog w = .ok (.enter 80 args) w ∧ CallsD Tryz.prog 80 args .returning w fun e u w' => u = .returning ∧ (∃ v, e = .returned v) ∧ w' = w :=
  quiet_closure (fn := Tryz.f80) (by kernel_rfl) rfl (by kernel_rfl) (by kernel_rfl) (by kernel_rfl) (by kernel_rfl) args w
def okds : List FuncId := [80]
theorem quiets : ∀ g ∈ okds, ∀ (args : Array Value) (w : World), (callFunc g args).run Tryz.prog w = .ok (.enter g args) w ∧ CallsD Tryz.prog g args .returning w fun e u w' => u = .returning ∧ (∃ v, e = .returned v) ∧ w' = w := by
  intro g hg args w
  simp only [okds, List.mem_cons, List.not_mem_nil, or_false] at hg
  rcases hg with rfl
  · exact quiet_80 args w
variable [Tabs]
class UDef : Prop where
  ok : ∀ g ∈ ([80] : List Nat), g ∈ Tabs.okd
variable [QuietD Tryz.prog] [UDef] [UTabs]
def TT : List (TypeId × Ty) := [(2, .i64), (3, .i64), (4, .bool), (5, .u8), (6, .u8), (9, .str), (10, .str), (11, .str), (12, .u64), (21, .i32), (22, (.lst .node)), (23, (.lst .edg)), (25, .graph), (26, .i64), (36, (.lst .u8)), (39, (.lst .str)), (45, (.lst .prp)), (46, (.lst .val)), (48, .val), (50, .prp), (55, .node), (57, .edg), (86, (.lst .i64)), (107, .u64), (111, .u64), (120, .i64), (138, .u32), (166, .u8), (167, .u8), (169, .i32), (170, .i32)]

noncomputable def F_q49z : FnT := ⟨1, ⟨[], [(0, .graph)], [], []⟩, [.v .str, .v .i64], []⟩
noncomputable def F_q39z : FnT := ⟨1, ⟨[], [(0, .graph)], [], []⟩, [.v .i64], []⟩
noncomputable def F_q36z : FnT := ⟨1, ⟨[], [(0, (.lst .str))], [], []⟩, [.v .i64], []⟩
noncomputable def F_q47z : FnT := ⟨1, ⟨[], [(0, .str)], [], []⟩, [.v .bool], []⟩
noncomputable def C_q47z : Code := bodyOf Tryz.f30
noncomputable def M_q47z : List (Nat × ArgM) := []
instance : DfOk M_q47z := .none rfl
noncomputable def O_q47z {ρ : Type} (n : Nat) : Orc ρ := orcNil
omit [QuietD Tryz.prog] [UDef] [UTabs] in
theorem O_q47z_ok {ρ : Type} (n : Nat) : (O_q47z n : Orc ρ).ok Tryz.prog := orcNil_ok
noncomputable def T_q47z_s0 : Tm := ⟨[], [(0, .str), (14, .i64), (15, .i64)], [], []⟩
noncomputable def X_q47z_s0 : Tm := ⟨[], [], [], []⟩
noncomputable def R_q47z_s0 : Tm := ⟨[], [(2, .bool)], [], []⟩
noncomputable def L_q47z_s0 {ρ : Type} (n : Nat) : LOrc ρ := lorcNil
omit [Tabs] [QuietD Tryz.prog] [UDef] [UTabs] in
theorem s_q47z_s0 {ρ : Type} (n : Nat) (rec : T_q47z_s0.den → Option ρ) kx kr s : dStep Tryz.prog 54 TT M_q47z (O_q47z n) (L_q47z_s0 n) dorcNil 0 (lbody 1000 C_q47z 0) T_q47z_s0 X_q47z_s0 R_q47z_s0 ⟨[], [], []⟩ rec kx kr s = q47z_s0 n rec kx kr s := by kernel_rfl
noncomputable def L_q47z {ρ : Type} (n : Nat) : LOrc ρ := lorcCons 0 (loopL 54 0 n T_q47z_s0 X_q47z_s0 R_q47z_s0 ⟨[], [], []⟩ (q47z_s0 n)) (lorcNil)
omit [Tabs] [QuietD Tryz.prog] [UDef] [UTabs] in
theorem e_q47z (n : Nat) (x) : evF Tryz.prog 54 TT M_q47z F_q47z (O_q47z n) (L_q47z n) dorcNil ⟨[], [], []⟩ [.tmp 2] C_q47z x = q47z n x := by kernel_rfl
omit [UDef] [UTabs] in
theorem ok_q47z (n : Nat) : Contract Tryz.prog 30 F_q47z (q47z n) :=
  Contract.of_ev (c := C_q47z) (N := 54) Tryz.func30 (by kernel_rfl) (by kernel_rfl) (by kernel_rfl) (by kernel_rfl) (O_q47z_ok n) dorcNil_ok (.of (l := [(0, (lbody 1000 C_q47z 0))]) (by kernel_rfl) ⟨.head (loopL_sound (O_q47z_ok n) dorcNil_ok (.of (l := []) (by kernel_rfl) trivial) (s_q47z_s0 n)), trivial⟩) (e_q47z n)

noncomputable def C_q36z : Code := bodyOf Tryz.f27
noncomputable def M_q36z : List (Nat × ArgM) := [(30, ⟨[], [], [], true⟩)]
instance : DfOk M_q36z := .none rfl
noncomputable def O_q36z {ρ : Type} (n : Nat) : Orc ρ := orcCons 30 F_q47z (q47z n) (orcNil)
omit [UDef] [UTabs] in
theorem O_q36z_ok {ρ : Type} (n : Nat) : (O_q36z n : Orc ρ).ok Tryz.prog := orcCons_ok (by kernel_rfl) (ok_q47z n) (orcNil_ok)
noncomputable def T_q36z_s0 : Tm := ⟨[], [(0, (.lst .str)), (8, (.lst .str)), (9, .i64), (10, .i64)], [], []⟩
noncomputable def X_q36z_s0 : Tm := ⟨[], [], [], []⟩
noncomputable def R_q36z_s0 : Tm := ⟨[], [(2, .i64)], [], []⟩
noncomputable def L_q36z_s0 {ρ : Type} (n : Nat) : LOrc ρ := lorcNil
omit [Tabs] [QuietD Tryz.prog] [UDef] [UTabs] in
theorem s_q36z_s0 {ρ : Type} (n : Nat) (rec : T_q36z_s0.den → Option ρ) kx kr s : dStep Tryz.prog 32 TT M_q36z (O_q36z n) (L_q36z_s0 n) dorcNil 0 (lbody 1000 C_q36z 0) T_q36z_s0 X_q36z_s0 R_q36z_s0 ⟨[], [], []⟩ rec kx kr s = q36z_s0 n rec kx kr s := by kernel_rfl
noncomputable def L_q36z {ρ : Type} (n : Nat) : LOrc ρ := lorcCons 0 (loopL 32 0 n T_q36z_s0 X_q36z_s0 R_q36z_s0 ⟨[], [], []⟩ (q36z_s0 n)) (lorcNil)
omit [Tabs] [QuietD Tryz.prog] [UDef] [UTabs] in
theorem e_q36z (n : Nat) (x) : evF Tryz.prog 32 TT M_q36z F_q36z (O_q36z n) (L_q36z n) dorcNil ⟨[], [], []⟩ [.tmp 2] C_q36z x = q36z n x := by kernel_rfl
omit [UDef] [UTabs] in
theorem ok_q36z (n : Nat) : Contract Tryz.prog 27 F_q36z (q36z n) :=
  Contract.of_ev (c := C_q36z) (N := 32) Tryz.func27 (by kernel_rfl) (by kernel_rfl) (by kernel_rfl) (by kernel_rfl) (O_q36z_ok n) dorcNil_ok (.of (l := [(0, (lbody 1000 C_q36z 0))]) (by kernel_rfl) ⟨.head (loopL_sound (O_q36z_ok n) dorcNil_ok (.of (l := []) (by kernel_rfl) trivial) (s_q36z_s0 n)), trivial⟩) (e_q36z n)

noncomputable def F_q40z : FnT := ⟨1, ⟨[], [(0, (.lst .prp))], [], []⟩, [.v .i64], []⟩
noncomputable def F_q41z : FnT := ⟨1, ⟨[], [(0, .val)], [], []⟩, [.v .i64], []⟩
noncomputable def F_q44z : FnT := ⟨2, ⟨[], [(0, .val), (1, .i64)], [], []⟩, [.v .i64], []⟩
noncomputable def C_q44z : Code := bodyOf Tryz.f46
noncomputable def M_q44z : List (Nat × ArgM) := [(63, ⟨[], [], [], true⟩), (46, ⟨[], [], [], true⟩)]
instance : DfOk M_q44z := .none rfl
noncomputable def O_q44z {ρ : Type} (self_q44z : Ev.Val × Int × Unit → Option (Int × Unit)) (n : Nat) : Orc ρ := orcCons 63 F_valid (validN) (orcCons 46 F_q44z (self_q44z) (orcNil))
omit [QuietD Tryz.prog] [UDef] in
theorem O_q44z_ok {ρ : Type} (self_q44z : Ev.Val × Int × Unit → Option (Int × Unit)) (h_q44z : Contract Tryz.prog 46 F_q44z self_q44z) (n : Nat) : (O_q44z self_q44z n : Orc ρ).ok Tryz.prog := orcCons_ok (by kernel_rfl) (validN_ok) (orcCons_ok (by kernel_rfl) (h_q44z) (orcNil_ok))
noncomputable def T_q44z_s1 : Tm := ⟨[(2, .ptr 2 0)], [(1, .i64), (90, (.lst .val)), (91, .i64), (92, .i64)], [(2, .box [.d .val])], []⟩
noncomputable def X_q44z_s1 : Tm := ⟨[(2, .ptr 2 0)], [], [(2, .box [.d .val])], []⟩
noncomputable def R_q44z_s1 : Tm := ⟨[], [(4, .i64)], [], []⟩
noncomputable def L_q44z_s1 {ρ : Type} (self_q44z : Ev.Val × Int × Unit → Option (Int × Unit)) (n : Nat) : LOrc ρ := lorcNil
omit [Tabs] [QuietD Tryz.prog] [UDef] [UTabs] in
theorem s_q44z_s1 {ρ : Type} (self_q44z : Ev.Val × Int × Unit → Option (Int × Unit)) (n : Nat) (rec : T_q44z_s1.den → Option ρ) kx kr s : dStep Tryz.prog 114 TT M_q44z (O_q44z self_q44z n) (L_q44z_s1 self_q44z n) dorcNil 1 (lbody 1000 C_q44z 0) T_q44z_s1 X_q44z_s1 R_q44z_s1 ⟨[], [], []⟩ rec kx kr s = q44z_s1 self_q44z n rec kx kr s := by kernel_rfl
noncomputable def L_q44z {ρ : Type} (self_q44z : Ev.Val × Int × Unit → Option (Int × Unit)) (n : Nat) : LOrc ρ := lorcCons 1 (loopL 114 1 n T_q44z_s1 X_q44z_s1 R_q44z_s1 ⟨[], [], []⟩ (q44z_s1 self_q44z n)) (lorcNil)
omit [Tabs] [QuietD Tryz.prog] [UDef] [UTabs] in
theorem e_q44z (self_q44z : Ev.Val × Int × Unit → Option (Int × Unit)) (n : Nat) (x) : evF Tryz.prog 114 TT M_q44z F_q44z (O_q44z self_q44z n) (L_q44z self_q44z n) dorcNil ⟨[], [], []⟩ [.tmp 4] C_q44z x = q44z_b self_q44z n x := by kernel_rfl
omit [UDef] in
theorem okb_q44z (self_q44z : Ev.Val × Int × Unit → Option (Int × Unit)) (h_q44z : Contract Tryz.prog 46 F_q44z self_q44z) (n : Nat) : Contract Tryz.prog 46 F_q44z (q44z_b self_q44z n) :=
  Contract.of_ev (c := C_q44z) (N := 114) Tryz.func46 (by kernel_rfl) (by kernel_rfl) (by kernel_rfl) (by kernel_rfl) (O_q44z_ok self_q44z h_q44z n) dorcNil_ok (.of (l := [(1, (lbody 1000 C_q44z 0))]) (by kernel_rfl) ⟨.head (loopL_sound (O_q44z_ok self_q44z h_q44z n) dorcNil_ok (.of (l := []) (by kernel_rfl) trivial) (s_q44z_s1 self_q44z n)), trivial⟩) (e_q44z self_q44z n)
omit [UDef] in
theorem ok_q44z : ∀ n, Contract Tryz.prog 46 F_q44z (q44z n)
  | 0 => fun _ _ h => by cases h
  | n + 1 => okb_q44z _ (ok_q44z n) n

noncomputable def C_q41z : Code := bodyOf Tryz.f32
noncomputable def M_q41z : List (Nat × ArgM) := [(46, ⟨[], [], [], true⟩)]
instance : DfOk M_q41z := .none rfl
noncomputable def O_q41z {ρ : Type} (n : Nat) : Orc ρ := orcCons 46 F_q44z (q44z n) (orcNil)
omit [UDef] in
theorem O_q41z_ok {ρ : Type} (n : Nat) : (O_q41z n : Orc ρ).ok Tryz.prog := orcCons_ok (by kernel_rfl) (ok_q44z n) (orcNil_ok)
noncomputable def L_q41z {ρ : Type} (n : Nat) : LOrc ρ := lorcNil
omit [Tabs] [QuietD Tryz.prog] [UDef] [UTabs] in
theorem e_q41z (n : Nat) (x) : evF Tryz.prog 5 TT M_q41z F_q41z (O_q41z n) (L_q41z n) dorcNil ⟨[], [], []⟩ [.tmp 2] C_q41z x = q41z n x := by kernel_rfl
omit [UDef] in
theorem ok_q41z (n : Nat) : Contract Tryz.prog 32 F_q41z (q41z n) :=
  Contract.of_ev (c := C_q41z) (N := 5) Tryz.func32 (by kernel_rfl) (by kernel_rfl) (by kernel_rfl) (by kernel_rfl) (O_q41z_ok n) dorcNil_ok (.of (l := []) (by kernel_rfl) trivial) (e_q41z n)

noncomputable def C_q40z : Code := bodyOf Tryz.f28
noncomputable def M_q40z : List (Nat × ArgM) := [(30, ⟨[], [], [], true⟩), (32, ⟨[], [], [], true⟩)]
instance : DfOk M_q40z := .none rfl
noncomputable def O_q40z {ρ : Type} (n : Nat) : Orc ρ := orcCons 30 F_q47z (q47z n) (orcCons 32 F_q41z (q41z n) (orcNil))
omit [UDef] in
theorem O_q40z_ok {ρ : Type} (n : Nat) : (O_q40z n : Orc ρ).ok Tryz.prog := orcCons_ok (by kernel_rfl) (ok_q47z n) (orcCons_ok (by kernel_rfl) (ok_q41z n) (orcNil_ok))
noncomputable def T_q40z_s0 : Tm := ⟨[], [(0, (.lst .prp)), (9, (.lst .prp)), (10, .i64), (11, .i64)], [], []⟩
noncomputable def X_q40z_s0 : Tm := ⟨[], [], [], []⟩
noncomputable def R_q40z_s0 : Tm := ⟨[], [(2, .i64)], [], []⟩
noncomputable def L_q40z_s0 {ρ : Type} (n : Nat) : LOrc ρ := lorcNil
omit [Tabs] [QuietD Tryz.prog] [UDef] [UTabs] in
theorem s_q40z_s0 {ρ : Type} (n : Nat) (rec : T_q40z_s0.den → Option ρ) kx kr s : dStep Tryz.prog 48 TT M_q40z (O_q40z n) (L_q40z_s0 n) (evDraw Tryz.prog 48 TT M_q40z (O_q40z n)) 0 (lbody 1000 C_q40z 0) T_q40z_s0 X_q40z_s0 R_q40z_s0 ⟨[], [], []⟩ rec kx kr s = q40z_s0 n rec kx kr s := by kernel_rfl
noncomputable def L_q40z {ρ : Type} (n : Nat) : LOrc ρ := lorcCons 0 (loopL 48 0 n T_q40z_s0 X_q40z_s0 R_q40z_s0 ⟨[], [], []⟩ (q40z_s0 n)) (lorcNil)
omit [Tabs] [QuietD Tryz.prog] [UDef] [UTabs] in
theorem e_q40z (n : Nat) (x) : evF Tryz.prog 48 TT M_q40z F_q40z (O_q40z n) (L_q40z n) (evDraw Tryz.prog 48 TT M_q40z (O_q40z n)) ⟨[], [], []⟩ [.tmp 2] C_q40z x = q40z n x := by kernel_rfl
omit [UDef] in
theorem ok_q40z (n : Nat) : Contract Tryz.prog 28 F_q40z (q40z n) :=
  Contract.of_ev (c := C_q40z) (N := 48) Tryz.func28 (by kernel_rfl) (by kernel_rfl) (by kernel_rfl) (by kernel_rfl) (O_q40z_ok n) (evDraw_ok (O_q40z_ok n) (by kernel_rfl)) (.of (l := [(0, (lbody 1000 C_q40z 0))]) (by kernel_rfl) ⟨.head (loopL_sound (O_q40z_ok n) (evDraw_ok (O_q40z_ok n) (by kernel_rfl)) (.of (l := []) (by kernel_rfl) trivial) (s_q40z_s0 n)), trivial⟩) (e_q40z n)

noncomputable def F_q29z : FnT := ⟨1, ⟨[], [(0, (.lst .i64))], [], []⟩, [.v .i64], []⟩
noncomputable def C_q29z : Code := bodyOf Tryz.f26
noncomputable def M_q29z : List (Nat × ArgM) := []
instance : DfOk M_q29z := .none rfl
noncomputable def O_q29z {ρ : Type} (n : Nat) : Orc ρ := orcNil
omit [QuietD Tryz.prog] [UDef] [UTabs] in
theorem O_q29z_ok {ρ : Type} (n : Nat) : (O_q29z n : Orc ρ).ok Tryz.prog := orcNil_ok
noncomputable def T_q29z_s0 : Tm := ⟨[], [(3, .i64), (6, (.lst .i64)), (7, .i64), (8, .i64)], [], []⟩
noncomputable def X_q29z_s0 : Tm := ⟨[], [(3, .i64)], [], []⟩
noncomputable def R_q29z_s0 : Tm := ⟨[], [(2, .i64)], [], []⟩
noncomputable def L_q29z_s0 {ρ : Type} (n : Nat) : LOrc ρ := lorcNil
omit [Tabs] [QuietD Tryz.prog] [UDef] [UTabs] in
theorem s_q29z_s0 {ρ : Type} (n : Nat) (rec : T_q29z_s0.den → Option ρ) kx kr s : dStep Tryz.prog 18 TT M_q29z (O_q29z n) (L_q29z_s0 n) dorcNil 0 (lbody 1000 C_q29z 0) T_q29z_s0 X_q29z_s0 R_q29z_s0 ⟨[], [], []⟩ rec kx kr s = q29z_s0 n rec kx kr s := by kernel_rfl
noncomputable def L_q29z {ρ : Type} (n : Nat) : LOrc ρ := lorcCons 0 (loopL 18 0 n T_q29z_s0 X_q29z_s0 R_q29z_s0 ⟨[], [], []⟩ (q29z_s0 n)) (lorcNil)
omit [Tabs] [QuietD Tryz.prog] [UDef] [UTabs] in
theorem e_q29z (n : Nat) (x) : evF Tryz.prog 18 TT M_q29z F_q29z (O_q29z n) (L_q29z n) dorcNil ⟨[], [], []⟩ [.tmp 2] C_q29z x = q29z n x := by kernel_rfl
omit [UDef] [UTabs] in
theorem ok_q29z (n : Nat) : Contract Tryz.prog 26 F_q29z (q29z n) :=
  Contract.of_ev (c := C_q29z) (N := 18) Tryz.func26 (by kernel_rfl) (by kernel_rfl) (by kernel_rfl) (by kernel_rfl) (O_q29z_ok n) dorcNil_ok (.of (l := [(0, (lbody 1000 C_q29z 0))]) (by kernel_rfl) ⟨.head (loopL_sound (O_q29z_ok n) dorcNil_ok (.of (l := []) (by kernel_rfl) trivial) (s_q29z_s0 n)), trivial⟩) (e_q29z n)

noncomputable def F_q46z : FnT := ⟨2, ⟨[], [(0, .graph), (1, .i64)], [], []⟩, [.v .i64], []⟩
noncomputable def F_q3z : FnT := ⟨3, ⟨[(2, .fn 43)], [(0, (.lst .node)), (1, .i64)], [], []⟩, [.v .i64, .v .bool], []⟩
noncomputable def F_q35z : FnT := ⟨2, ⟨[], [(0, .node), (1, .i64)], [], []⟩, [.v .i64], []⟩
noncomputable def F_q30z : FnT := ⟨2, ⟨[], [(0, .i64), (1, .i64)], [], []⟩, [.v .i64], []⟩
noncomputable def F_q34z : FnT := ⟨1, ⟨[], [(0, .i64)], [], []⟩, [.v .bool], []⟩
noncomputable def C_q34z : Code := bodyOf Tryz.f62
noncomputable def M_q34z : List (Nat × ArgM) := []
instance : DfOk M_q34z := .none rfl
noncomputable def O_q34z {ρ : Type} : Orc ρ := orcNil
omit [QuietD Tryz.prog] [UDef] [UTabs] in
theorem O_q34z_ok {ρ : Type} : (O_q34z : Orc ρ).ok Tryz.prog := orcNil_ok
noncomputable def L_q34z {ρ : Type} : LOrc ρ := lorcNil
omit [Tabs] [QuietD Tryz.prog] [UDef] [UTabs] in
theorem e_q34z (x) : evF Tryz.prog 6 TT M_q34z F_q34z (O_q34z) (L_q34z) dorcNil ⟨[], [], []⟩ [.tmp 2] C_q34z x = q34z x := by kernel_rfl
omit [UDef] [UTabs] in
theorem ok_q34z : Contract Tryz.prog 62 F_q34z (q34z) :=
  Contract.of_ev (c := C_q34z) (N := 6) Tryz.func62 (by kernel_rfl) (by kernel_rfl) (by kernel_rfl) (by kernel_rfl) (O_q34z_ok) dorcNil_ok (.of (l := []) (by kernel_rfl) trivial) (e_q34z)

noncomputable def C_q30z : Code := bodyOf Tryz.f44
noncomputable def M_q30z : List (Nat × ArgM) := [(62, ⟨[], [], [], true⟩)]
instance : DfOk M_q30z := .none rfl
noncomputable def O_q30z {ρ : Type} : Orc ρ := orcCons 62 F_q34z (q34z) (orcNil)
omit [UDef] [UTabs] in
theorem O_q30z_ok {ρ : Type} : (O_q30z : Orc ρ).ok Tryz.prog := orcCons_ok (by kernel_rfl) (ok_q34z) (orcNil_ok)
noncomputable def L_q30z {ρ : Type} : LOrc ρ := lorcNil
omit [Tabs] [QuietD Tryz.prog] [UDef] [UTabs] in
theorem e_q30z (x) : evF Tryz.prog 20 TT M_q30z F_q30z (O_q30z) (L_q30z) dorcNil ⟨[], [], []⟩ [.tmp 4] C_q30z x = q30z x := by kernel_rfl
omit [UDef] [UTabs] in
theorem ok_q30z : Contract Tryz.prog 44 F_q30z (q30z) :=
  Contract.of_ev (c := C_q30z) (N := 20) Tryz.func44 (by kernel_rfl) (by kernel_rfl) (by kernel_rfl) (by kernel_rfl) (O_q30z_ok) dorcNil_ok (.of (l := []) (by kernel_rfl) trivial) (e_q30z)

noncomputable def C_q35z : Code := bodyOf Tryz.f43
noncomputable def M_q35z : List (Nat × ArgM) := [(44, ⟨[], [], [], true⟩)]
instance : DfOk M_q35z := .none rfl
noncomputable def O_q35z {ρ : Type} : Orc ρ := orcCons 44 F_q30z (q30z) (orcNil)
omit [UDef] [UTabs] in
theorem O_q35z_ok {ρ : Type} : (O_q35z : Orc ρ).ok Tryz.prog := orcCons_ok (by kernel_rfl) (ok_q30z) (orcNil_ok)
noncomputable def L_q35z {ρ : Type} : LOrc ρ := lorcNil
omit [Tabs] [QuietD Tryz.prog] [UDef] [UTabs] in
theorem e_q35z (x) : evF Tryz.prog 9 TT M_q35z F_q35z (O_q35z) (L_q35z) dorcNil ⟨[], [], []⟩ [.tmp 4] C_q35z x = q35z x := by kernel_rfl
omit [UDef] [UTabs] in
theorem ok_q35z : Contract Tryz.prog 43 F_q35z (q35z) :=
  Contract.of_ev (c := C_q35z) (N := 9) Tryz.func43 (by kernel_rfl) (by kernel_rfl) (by kernel_rfl) (by kernel_rfl) (O_q35z_ok) dorcNil_ok (.of (l := []) (by kernel_rfl) trivial) (e_q35z)

noncomputable def C_q3z : Code := bodyOf Tryz.f42
noncomputable def M_q3z : List (Nat × ArgM) := [(43, ⟨[], [], [], true⟩)]
instance : DfOk M_q3z := .none rfl
noncomputable def O_q3z {ρ : Type} (n : Nat) : Orc ρ := orcCons 43 F_q35z (q35z) (orcNil)
omit [UDef] [UTabs] in
theorem O_q3z_ok {ρ : Type} (n : Nat) : (O_q3z n : Orc ρ).ok Tryz.prog := orcCons_ok (by kernel_rfl) (ok_q35z) (orcNil_ok)
noncomputable def T_q3z_s0 : Tm := ⟨[(2, .fn 43)], [(0, (.lst .node)), (1, .i64), (8, .i64), (9, .i64), (10, .i64)], [], []⟩
noncomputable def X_q3z_s0 : Tm := ⟨[(2, .fn 43)], [(0, (.lst .node)), (1, .i64), (8, .i64), (9, .i64)], [], []⟩
noncomputable def R_q3z_s0 : Tm := ⟨[], [], [], []⟩
noncomputable def L_q3z_s0 {ρ : Type} (n : Nat) : LOrc ρ := lorcNil
omit [Tabs] [QuietD Tryz.prog] [UDef] [UTabs] in
theorem s_q3z_s0 {ρ : Type} (n : Nat) (rec : T_q3z_s0.den → Option ρ) kx kr s : dStep Tryz.prog 49 TT M_q3z (O_q3z n) (L_q3z_s0 n) dorcNil 0 (lbody 1000 C_q3z 0) T_q3z_s0 X_q3z_s0 R_q3z_s0 ⟨[], [], []⟩ rec kx kr s = q3z_s0 n rec kx kr s := by kernel_rfl
noncomputable def L_q3z {ρ : Type} (n : Nat) : LOrc ρ := lorcCons 0 (loopL 49 0 n T_q3z_s0 X_q3z_s0 R_q3z_s0 ⟨[], [], []⟩ (q3z_s0 n)) (lorcNil)
omit [Tabs] [QuietD Tryz.prog] [UDef] [UTabs] in
theorem e_q3z (n : Nat) (x) : evF Tryz.prog 49 TT M_q3z F_q3z (O_q3z n) (L_q3z n) dorcNil ⟨[], [], []⟩ [.tmp 6, .tmp 7] C_q3z x = q3z n x := by kernel_rfl
omit [UDef] [UTabs] in
theorem ok_q3z (n : Nat) : Contract Tryz.prog 42 F_q3z (q3z n) :=
  Contract.of_ev (c := C_q3z) (N := 49) Tryz.func42 (by kernel_rfl) (by kernel_rfl) (by kernel_rfl) (by kernel_rfl) (O_q3z_ok n) dorcNil_ok (.of (l := [(0, (lbody 1000 C_q3z 0))]) (by kernel_rfl) ⟨.head (loopL_sound (O_q3z_ok n) dorcNil_ok (.of (l := []) (by kernel_rfl) trivial) (s_q3z_s0 n)), trivial⟩) (e_q3z n)

noncomputable def C_q46z : Code := bodyOf Tryz.f29
noncomputable def M_q46z : List (Nat × ArgM) := [(42, ⟨[], [], [], true⟩)]
instance : DfOk M_q46z := .none rfl
noncomputable def O_q46z {ρ : Type} (n : Nat) : Orc ρ := orcCons 42 F_q3z (q3z n) (orcNil)
omit [UDef] [UTabs] in
theorem O_q46z_ok {ρ : Type} (n : Nat) : (O_q46z n : Orc ρ).ok Tryz.prog := orcCons_ok (by kernel_rfl) (ok_q3z n) (orcNil_ok)
noncomputable def L_q46z {ρ : Type} (n : Nat) : LOrc ρ := lorcNil
omit [Tabs] [QuietD Tryz.prog] [UDef] [UTabs] in
theorem e_q46z (n : Nat) (x) : evF Tryz.prog 17 TT M_q46z F_q46z (O_q46z n) (L_q46z n) dorcNil ⟨[], [], []⟩ [.tmp 4] C_q46z x = q46z n x := by kernel_rfl
omit [UDef] [UTabs] in
theorem ok_q46z (n : Nat) : Contract Tryz.prog 29 F_q46z (q46z n) :=
  Contract.of_ev (c := C_q46z) (N := 17) Tryz.func29 (by kernel_rfl) (by kernel_rfl) (by kernel_rfl) (by kernel_rfl) (O_q46z_ok n) dorcNil_ok (.of (l := []) (by kernel_rfl) trivial) (e_q46z n)

noncomputable def C_q39z : Code := bodyOf Tryz.f9
noncomputable def M_q39z : List (Nat × ArgM) := [(27, ⟨[], [], [], true⟩), (28, ⟨[], [], [], true⟩), (26, ⟨[], [], [], true⟩), (29, ⟨[], [], [], true⟩), (30, ⟨[], [], [], true⟩)]
instance : DfOk M_q39z := .none rfl
noncomputable def O_q39z {ρ : Type} (n : Nat) : Orc ρ := orcCons 27 F_q36z (q36z n) (orcCons 28 F_q40z (q40z n) (orcCons 26 F_q29z (q29z n) (orcCons 29 F_q46z (q46z n) (orcCons 30 F_q47z (q47z n) (orcNil)))))
omit [UDef] in
theorem O_q39z_ok {ρ : Type} (n : Nat) : (O_q39z n : Orc ρ).ok Tryz.prog := orcCons_ok (by kernel_rfl) (ok_q36z n) (orcCons_ok (by kernel_rfl) (ok_q40z n) (orcCons_ok (by kernel_rfl) (ok_q29z n) (orcCons_ok (by kernel_rfl) (ok_q46z n) (orcCons_ok (by kernel_rfl) (ok_q47z n) (orcNil_ok)))))
noncomputable def T_q39z_s0 : Tm := ⟨[(1, .ptr 1 0)], [(3, .i64), (22, (.lst .node)), (23, .i64), (24, .i64)], [(1, .box [.d .graph])], []⟩
noncomputable def X_q39z_s0 : Tm := ⟨[(1, .ptr 1 0)], [(3, .i64)], [(1, .box [.d .graph])], []⟩
noncomputable def R_q39z_s0 : Tm := ⟨[], [(2, .i64)], [], []⟩
noncomputable def L_q39z_s0 {ρ : Type} (n : Nat) : LOrc ρ := lorcNil
omit [Tabs] [QuietD Tryz.prog] [UDef] [UTabs] in
theorem s_q39z_s0 {ρ : Type} (n : Nat) (rec : T_q39z_s0.den → Option ρ) kx kr s : dStep Tryz.prog 103 TT M_q39z (O_q39z n) (L_q39z_s0 n) (evDraw Tryz.prog 103 TT M_q39z (O_q39z n)) 0 (lbody 1000 C_q39z 0) T_q39z_s0 X_q39z_s0 R_q39z_s0 ⟨[], [], []⟩ rec kx kr s = q39z_s0 n rec kx kr s := by kernel_rfl
noncomputable def T_q39z_s2 : Tm := ⟨[(1, .ptr 1 0)], [(3, .i64), (7, .i64), (48, (.lst .edg)), (49, .i64), (50, .i64)], [(1, .box [.d .graph])], []⟩
noncomputable def X_q39z_s2 : Tm := ⟨[(1, .ptr 1 0)], [(3, .i64), (7, .i64)], [(1, .box [.d .graph])], []⟩
noncomputable def R_q39z_s2 : Tm := ⟨[], [(2, .i64)], [], []⟩
noncomputable def L_q39z_s2 {ρ : Type} (n : Nat) : LOrc ρ := lorcNil
omit [Tabs] [QuietD Tryz.prog] [UDef] [UTabs] in
theorem s_q39z_s2 {ρ : Type} (n : Nat) (rec : T_q39z_s2.den → Option ρ) kx kr s : dStep Tryz.prog 103 TT M_q39z (O_q39z n) (L_q39z_s2 n) (evDraw Tryz.prog 103 TT M_q39z (O_q39z n)) 2 (lbody 1000 C_q39z 1) T_q39z_s2 X_q39z_s2 R_q39z_s2 ⟨[], [], []⟩ rec kx kr s = q39z_s2 n rec kx kr s := by kernel_rfl
noncomputable def L_q39z {ρ : Type} (n : Nat) : LOrc ρ := lorcCons 0 (loopL 103 0 n T_q39z_s0 X_q39z_s0 R_q39z_s0 ⟨[], [], []⟩ (q39z_s0 n)) (lorcCons 2 (loopL 103 2 n T_q39z_s2 X_q39z_s2 R_q39z_s2 ⟨[], [], []⟩ (q39z_s2 n)) (lorcNil))
omit [Tabs] [QuietD Tryz.prog] [UDef] [UTabs] in
theorem e_q39z (n : Nat) (x) : evF Tryz.prog 103 TT M_q39z F_q39z (O_q39z n) (L_q39z n) (evDraw Tryz.prog 103 TT M_q39z (O_q39z n)) ⟨[], [], []⟩ [.tmp 2] C_q39z x = q39z n x := by kernel_rfl
omit [UDef] in
theorem ok_q39z (n : Nat) : Contract Tryz.prog 9 F_q39z (q39z n) :=
  Contract.of_ev (c := C_q39z) (N := 103) Tryz.func9 (by kernel_rfl) (by kernel_rfl) (by kernel_rfl) (by kernel_rfl) (O_q39z_ok n) (evDraw_ok (O_q39z_ok n) (by kernel_rfl)) (.of (l := [(0, (lbody 1000 C_q39z 0)), (2, (lbody 1000 C_q39z 1))]) (by kernel_rfl) ⟨.head (loopL_sound (O_q39z_ok n) (evDraw_ok (O_q39z_ok n) (by kernel_rfl)) (.of (l := []) (by kernel_rfl) trivial) (s_q39z_s0 n)), ⟨.tail rfl (.head (loopL_sound (O_q39z_ok n) (evDraw_ok (O_q39z_ok n) (by kernel_rfl)) (.of (l := []) (by kernel_rfl) trivial) (s_q39z_s2 n))), trivial⟩⟩) (e_q39z n)

noncomputable def F_q37z : FnT := ⟨2, ⟨[(1, .ptr 1000000 0)], [(0, (.lst .str))], [(1000000, .box [.ref (.pn 1000000), .ref (.own 1000001)] (some 38)), (1000001, .arr 5 .u8)], []⟩, [], [(1000000, .box [.ref (.pn 1000000), .ref (.own 1000001)] (some 38)), (1000001, .arr 5 .u8)]⟩
noncomputable def F_q6z : FnT := ⟨2, ⟨[(0, .ptr 1000000 0)], [(1, .str)], [(1000000, .box [.ref (.pn 1000000), .ref (.own 1000001)] (some 38)), (1000001, .arr 5 .u8)], []⟩, [.v .i64, .ref (.nili)], [(1000000, .box [.ref (.pn 1000000), .ref (.own 1000001)] (some 38)), (1000001, .arr 5 .u8)]⟩
noncomputable def C_q6z : Code := bodyOf Tryz.f11
noncomputable def M_q6z : List (Nat × ArgM) := [(31, ⟨[0], [], [], false⟩)]
instance : DfOk M_q6z := .none rfl
noncomputable def O_q6z {ρ : Type} : Orc ρ := orcCons 31 F_cc (copyCheckN) (orcNil)
omit [QuietD Tryz.prog] [UDef] [UTabs] in
theorem O_q6z_ok {ρ : Type} : (O_q6z : Orc ρ).ok Tryz.prog := orcCons_ok (by kernel_rfl) (copyCheckN_ok) (orcNil_ok)
noncomputable def L_q6z {ρ : Type} : LOrc ρ := lorcNil
omit [Tabs] [QuietD Tryz.prog] [UDef] [UTabs] in
theorem e_q6z (x) : evF Tryz.prog 19 TT M_q6z F_q6z (O_q6z) (L_q6z) dorcNil ⟨[], [], []⟩ [.tmp 4, .tmp 5] C_q6z x = q6z x := by kernel_rfl
omit [UDef] [UTabs] in
theorem ok_q6z : Contract Tryz.prog 11 F_q6z (q6z) :=
  Contract.of_ev (c := C_q6z) (N := 19) Tryz.func11 (by kernel_rfl) (by kernel_rfl) (by kernel_rfl) (by kernel_rfl) (O_q6z_ok) dorcNil_ok (.of (l := []) (by kernel_rfl) trivial) (e_q6z)

noncomputable def C_q37z : Code := bodyOf Tryz.f10
noncomputable def M_q37z : List (Nat × ArgM) := [(11, ⟨[0], [], [], false⟩)]
instance : DfOk M_q37z := .none rfl
noncomputable def O_q37z {ρ : Type} (n : Nat) : Orc ρ := orcCons 11 F_q6z (q6z) (orcNil)
omit [UDef] [UTabs] in
theorem O_q37z_ok {ρ : Type} (n : Nat) : (O_q37z n : Orc ρ).ok Tryz.prog := orcCons_ok (by kernel_rfl) (ok_q6z) (orcNil_ok)
noncomputable def T_q37z_s0 : Tm := ⟨[(1, .ptr 1000000 0)], [(5, (.lst .str)), (6, .i64), (7, .i64)], [(1000000, .box [.ref (.pn 1000000), .ref (.own 1000001)] (some 38)), (1000001, .arr 5 .u8)], []⟩
noncomputable def X_q37z_s0 : Tm := ⟨[], [], [(1000000, .box [.ref (.pn 1000000), .ref (.own 1000001)] (some 38)), (1000001, .arr 5 .u8)], []⟩
noncomputable def R_q37z_s0 : Tm := ⟨[], [], [], []⟩
noncomputable def L_q37z_s0 {ρ : Type} (n : Nat) : LOrc ρ := lorcNil
omit [Tabs] [QuietD Tryz.prog] [UDef] [UTabs] in
theorem s_q37z_s0 {ρ : Type} (n : Nat) (rec : T_q37z_s0.den → Option ρ) kx kr s : dStep Tryz.prog 14 TT M_q37z (O_q37z n) (L_q37z_s0 n) dorcNil 0 (lbody 1000 C_q37z 0) T_q37z_s0 X_q37z_s0 R_q37z_s0 ⟨[], [], []⟩ rec kx kr s = q37z_s0 n rec kx kr s := by kernel_rfl
noncomputable def L_q37z {ρ : Type} (n : Nat) : LOrc ρ := lorcCons 0 (loopL 14 0 n T_q37z_s0 X_q37z_s0 R_q37z_s0 ⟨[], [], []⟩ (q37z_s0 n)) (lorcNil)
omit [Tabs] [QuietD Tryz.prog] [UDef] [UTabs] in
theorem e_q37z (n : Nat) (x) : evF Tryz.prog 14 TT M_q37z F_q37z (O_q37z n) (L_q37z n) dorcNil ⟨[], [], []⟩ [] C_q37z x = q37z n x := by kernel_rfl
omit [UDef] [UTabs] in
theorem ok_q37z (n : Nat) : Contract Tryz.prog 10 F_q37z (q37z n) :=
  Contract.of_ev (c := C_q37z) (N := 14) Tryz.func10 (by kernel_rfl) (by kernel_rfl) (by kernel_rfl) (by kernel_rfl) (O_q37z_ok n) dorcNil_ok (.of (l := [(0, (lbody 1000 C_q37z 0))]) (by kernel_rfl) ⟨.head (loopL_sound (O_q37z_ok n) dorcNil_ok (.of (l := []) (by kernel_rfl) trivial) (s_q37z_s0 n)), trivial⟩) (e_q37z n)

noncomputable def F_q38z : FnT := ⟨3, ⟨[(1, .ptr 1000000 0), (2, .ptr 1000016 0)], [(0, (.lst .prp))], [(1000000, .box [.d .bool]), (1000016, .box [.ref (.clo 10 [1000017])]), (1000017, .box [.ref (.pn 1000017), .ref (.own 1000018)] (some 38)), (1000018, .arr 5 .u8)], []⟩, [], [(1000000, .box [.d .bool]), (1000016, .box [.ref (.clo 10 [1000017])]), (1000017, .box [.ref (.pn 1000017), .ref (.own 1000018)] (some 38)), (1000018, .arr 5 .u8)]⟩
noncomputable def F_q43z : FnT := ⟨1, ⟨[], [(0, .val)], [], []⟩, [.v .str, .v .i64], []⟩
noncomputable def F_q52z : FnT := ⟨2, ⟨[(0, .ptr 1000000 0)], [(1, .val)], [(1000000, .box [.ref (.pn 1000000), .ref (.own 1000001)] (some 38)), (1000001, .arr 5 .u8)], []⟩, [], [(1000000, .box [.ref (.pn 1000000), .ref (.own 1000001)] (some 38)), (1000001, .arr 5 .u8)]⟩
noncomputable def F_q25z : FnT := ⟨1, ⟨[], [(0, .bool)], [], []⟩, [.v .str], []⟩
noncomputable def F_q7z : FnT := ⟨1, ⟨[], [(0, .bool)], [], []⟩, [.v .str], []⟩
noncomputable def C_q7z : Code := bodyOf Tryz.f64
noncomputable def M_q7z : List (Nat × ArgM) := []
instance : DfOk M_q7z := .none rfl
noncomputable def O_q7z {ρ : Type} : Orc ρ := orcNil
omit [QuietD Tryz.prog] [UDef] [UTabs] in
theorem O_q7z_ok {ρ : Type} : (O_q7z : Orc ρ).ok Tryz.prog := orcNil_ok
noncomputable def L_q7z {ρ : Type} : LOrc ρ := lorcNil
omit [Tabs] [QuietD Tryz.prog] [UDef] [UTabs] in
theorem e_q7z (x) : evF Tryz.prog 4 TT M_q7z F_q7z (O_q7z) (L_q7z) dorcNil ⟨[], [], []⟩ [.tmp 2] C_q7z x = q7z x := by kernel_rfl
omit [UDef] [UTabs] in
theorem ok_q7z : Contract Tryz.prog 64 F_q7z (q7z) :=
  Contract.of_ev (c := C_q7z) (N := 4) Tryz.func64 (by kernel_rfl) (by kernel_rfl) (by kernel_rfl) (by kernel_rfl) (O_q7z_ok) dorcNil_ok (.of (l := []) (by kernel_rfl) trivial) (e_q7z)

noncomputable def C_q25z : Code := bodyOf Tryz.f47
noncomputable def M_q25z : List (Nat × ArgM) := [(64, ⟨[], [], [], true⟩)]
instance : DfOk M_q25z := .none rfl
noncomputable def O_q25z {ρ : Type} : Orc ρ := orcCons 64 F_q7z (q7z) (orcNil)
omit [UDef] [UTabs] in
theorem O_q25z_ok {ρ : Type} : (O_q25z : Orc ρ).ok Tryz.prog := orcCons_ok (by kernel_rfl) (ok_q7z) (orcNil_ok)
noncomputable def L_q25z {ρ : Type} : LOrc ρ := lorcNil
omit [Tabs] [QuietD Tryz.prog] [UDef] [UTabs] in
theorem e_q25z (x) : evF Tryz.prog 5 TT M_q25z F_q25z (O_q25z) (L_q25z) dorcNil ⟨[], [], []⟩ [.tmp 2] C_q25z x = q25z x := by kernel_rfl
omit [UDef] [UTabs] in
theorem ok_q25z : Contract Tryz.prog 47 F_q25z (q25z) :=
  Contract.of_ev (c := C_q25z) (N := 5) Tryz.func47 (by kernel_rfl) (by kernel_rfl) (by kernel_rfl) (by kernel_rfl) (O_q25z_ok) dorcNil_ok (.of (l := []) (by kernel_rfl) trivial) (e_q25z)

noncomputable def F_q8z : FnT := ⟨2, ⟨[(0, .ptr 1000000 0)], [(1, .u8)], [(1000000, .box [.ref (.pn 1000000), .ref (.own 1000001)] (some 38)), (1000001, .arr 5 .u8)], []⟩, [.ref (.nili)], [(1000000, .box [.ref (.pn 1000000), .ref (.own 1000001)] (some 38)), (1000001, .arr 5 .u8)]⟩
noncomputable def C_q8z : Code := bodyOf Tryz.f48
noncomputable def M_q8z : List (Nat × ArgM) := [(31, ⟨[0], [], [], false⟩)]
instance : DfOk M_q8z := .none rfl
noncomputable def O_q8z {ρ : Type} : Orc ρ := orcCons 31 F_cc (copyCheckN) (orcNil)
omit [QuietD Tryz.prog] [UDef] [UTabs] in
theorem O_q8z_ok {ρ : Type} : (O_q8z : Orc ρ).ok Tryz.prog := orcCons_ok (by kernel_rfl) (copyCheckN_ok) (orcNil_ok)
noncomputable def L_q8z {ρ : Type} : LOrc ρ := lorcNil
omit [Tabs] [QuietD Tryz.prog] [UDef] [UTabs] in
theorem e_q8z (x) : evF Tryz.prog 17 TT M_q8z F_q8z (O_q8z) (L_q8z) dorcNil ⟨[], [], []⟩ [.tmp 4] C_q8z x = q8z x := by kernel_rfl
omit [UDef] [UTabs] in
theorem ok_q8z : Contract Tryz.prog 48 F_q8z (q8z) :=
  Contract.of_ev (c := C_q8z) (N := 17) Tryz.func48 (by kernel_rfl) (by kernel_rfl) (by kernel_rfl) (by kernel_rfl) (O_q8z_ok) dorcNil_ok (.of (l := []) (by kernel_rfl) trivial) (e_q8z)

noncomputable def F_q9z : FnT := ⟨2, ⟨[(0, .ptr 1000000 0)], [(1, .i32)], [(1000000, .box [.ref (.pn 1000000), .ref (.own 1000001)] (some 38)), (1000001, .arr 5 .u8)], []⟩, [.v .i64, .ref (.nili)], [(1000000, .box [.ref (.pn 1000000), .ref (.own 1000001)] (some 38)), (1000001, .arr 5 .u8)]⟩
noncomputable def F_q12z : FnT := ⟨2, ⟨[(0, .own 1000000)], [(1, .i32)], [(1000000, .arr 5 .u8)], []⟩, [.ref (.own 1000000)], [(1000000, .arr 5 .u8)]⟩
noncomputable def F_q4z : FnT := ⟨2, ⟨[(0, .own 1000000)], [(1, .i32)], [(1000000, .arr 5 .u8)], []⟩, [.ref (.own 1000000)], [(1000000, .arr 5 .u8)]⟩
noncomputable def C_q4z : Code := bodyOf Tryz.f84
noncomputable def M_q4z : List (Nat × ArgM) := []
instance : DfOk M_q4z := .none rfl
noncomputable def O_q4z {ρ : Type} : Orc ρ := orcNil
omit [QuietD Tryz.prog] [UDef] [UTabs] in
theorem O_q4z_ok {ρ : Type} : (O_q4z : Orc ρ).ok Tryz.prog := orcNil_ok
noncomputable def L_q4z {ρ : Type} : LOrc ρ := lorcNil
omit [Tabs] [QuietD Tryz.prog] [UDef] [UTabs] in
theorem e_q4z (x) : evF Tryz.prog 78 TT M_q4z F_q4z (O_q4z) (L_q4z) dorcNil ⟨[], [], []⟩ [.tmp 4] C_q4z x = q4z x := by kernel_rfl
omit [UDef] [UTabs] in
theorem ok_q4z : Contract Tryz.prog 84 F_q4z (q4z) :=
  Contract.of_ev (c := C_q4z) (N := 78) Tryz.func84 (by kernel_rfl) (by kernel_rfl) (by kernel_rfl) (by kernel_rfl) (O_q4z_ok) dorcNil_ok (.of (l := []) (by kernel_rfl) trivial) (e_q4z)

noncomputable def C_q12z : Code := bodyOf Tryz.f65
noncomputable def M_q12z : List (Nat × ArgM) := [(84, ⟨[0], [⟨0, 1000000, 5, 1⟩], [], false⟩)]
instance : DfOk M_q12z := .none rfl
noncomputable def O_q12z {ρ : Type} : Orc ρ := orcCons 84 F_q4z (q4z) (orcNil)
omit [UDef] [UTabs] in
theorem O_q12z_ok {ρ : Type} : (O_q12z : Orc ρ).ok Tryz.prog := orcCons_ok (by kernel_rfl) (ok_q4z) (orcNil_ok)
noncomputable def L_q12z {ρ : Type} : LOrc ρ := lorcNil
omit [Tabs] [QuietD Tryz.prog] [UDef] [UTabs] in
theorem e_q12z (x) : evF Tryz.prog 16 TT M_q12z F_q12z (O_q12z) (L_q12z) dorcNil ⟨[], [], []⟩ [.tmp 4] C_q12z x = q12z x := by kernel_rfl
omit [UDef] [UTabs] in
theorem ok_q12z : Contract Tryz.prog 65 F_q12z (q12z) :=
  Contract.of_ev (c := C_q12z) (N := 16) Tryz.func65 (by kernel_rfl) (by kernel_rfl) (by kernel_rfl) (by kernel_rfl) (O_q12z_ok) dorcNil_ok (.of (l := []) (by kernel_rfl) trivial) (e_q12z)

noncomputable def C_q9z : Code := bodyOf Tryz.f49
noncomputable def M_q9z : List (Nat × ArgM) := [(31, ⟨[0], [], [], false⟩), (65, ⟨[0], [⟨0, 1000000, 5, 1⟩], [], false⟩)]
instance : DfOk M_q9z := .none rfl
noncomputable def O_q9z {ρ : Type} : Orc ρ := orcCons 31 F_cc (copyCheckN) (orcCons 65 F_q12z (q12z) (orcNil))
omit [UDef] [UTabs] in
theorem O_q9z_ok {ρ : Type} : (O_q9z : Orc ρ).ok Tryz.prog := orcCons_ok (by kernel_rfl) (copyCheckN_ok) (orcCons_ok (by kernel_rfl) (ok_q12z) (orcNil_ok))
noncomputable def L_q9z {ρ : Type} : LOrc ρ := lorcNil
omit [Tabs] [QuietD Tryz.prog] [UDef] [UTabs] in
theorem e_q9z (x) : evF Tryz.prog 30 TT M_q9z F_q9z (O_q9z) (L_q9z) dorcNil ⟨[], [], []⟩ [.tmp 4, .tmp 5] C_q9z x = q9z x := by kernel_rfl
omit [UDef] [UTabs] in
theorem ok_q9z : Contract Tryz.prog 49 F_q9z (q9z) :=
  Contract.of_ev (c := C_q9z) (N := 30) Tryz.func49 (by kernel_rfl) (by kernel_rfl) (by kernel_rfl) (by kernel_rfl) (O_q9z_ok) dorcNil_ok (.of (l := []) (by kernel_rfl) trivial) (e_q9z)

noncomputable def C_q52z : Code := bodyOf Tryz.f33
noncomputable def M_q52z : List (Nat × ArgM) := [(11, ⟨[0], [], [], false⟩), (48, ⟨[0], [], [], false⟩), (49, ⟨[0], [], [], false⟩), (33, ⟨[0], [], [], false⟩), (47, ⟨[], [], [], true⟩), (14, ⟨[], [], [], true⟩)]
instance : DfOk M_q52z := .none rfl
noncomputable def O_q52z {ρ : Type} (self_q52z : Ev.Val × Unit × (List Int) × Unit → Option (Unit × (List Int) × Unit)) (n : Nat) : Orc ρ := orcCons 11 F_q6z (q6z) (orcCons 47 F_q25z (q25z) (orcCons 14 F_itoa (itoaN) (orcCons 48 F_q8z (q8z) (orcCons 49 F_q9z (q9z) (orcCons 33 F_q52z (self_q52z) (orcNil))))))
omit [UDef] in
theorem O_q52z_ok {ρ : Type} (self_q52z : Ev.Val × Unit × (List Int) × Unit → Option (Unit × (List Int) × Unit)) (h_q52z : Contract Tryz.prog 33 F_q52z self_q52z) (n : Nat) : (O_q52z self_q52z n : Orc ρ).ok Tryz.prog := orcCons_ok (by kernel_rfl) (ok_q6z) (orcCons_ok (by kernel_rfl) (ok_q25z) (orcCons_ok (by kernel_rfl) (itoaN_ok) (orcCons_ok (by kernel_rfl) (ok_q8z) (orcCons_ok (by kernel_rfl) (ok_q9z) (orcCons_ok (by kernel_rfl) (h_q52z) (orcNil_ok))))))
noncomputable def T_q52z_s1 : Tm := ⟨[(0, .ptr 1000000 0), (35, .ptr 35 0)], [], [(35, .it), (1000000, .box [.ref (.pn 1000000), .ref (.own 1000001)] (some 38)), (1000001, .arr 5 .u8)], []⟩
noncomputable def X_q52z_s1 : Tm := ⟨[(0, .ptr 1000000 0)], [], [(1000000, .box [.ref (.pn 1000000), .ref (.own 1000001)] (some 38)), (1000001, .arr 5 .u8)], []⟩
noncomputable def R_q52z_s1 : Tm := ⟨[], [], [], []⟩
noncomputable def L_q52z_s1 {ρ : Type} (self_q52z : Ev.Val × Unit × (List Int) × Unit → Option (Unit × (List Int) × Unit)) (n : Nat) : LOrc ρ := lorcNil
omit [Tabs] [QuietD Tryz.prog] [UDef] [UTabs] in
theorem s_q52z_s1 {ρ : Type} (self_q52z : Ev.Val × Unit × (List Int) × Unit → Option (Unit × (List Int) × Unit)) (n : Nat) (rec : T_q52z_s1.den → Option ρ) kx kr s : dStep Tryz.prog 76 TT M_q52z (O_q52z self_q52z n) (L_q52z_s1 self_q52z n) dorcNil 1 (lbody 1000 C_q52z 0) T_q52z_s1 X_q52z_s1 R_q52z_s1 ⟨[], [], []⟩ rec kx kr s = q52z_s1 self_q52z n rec kx kr s := by kernel_rfl
noncomputable def T_q52z_s4 : Tm := ⟨[(0, .ptr 1000000 0)], [(59, (.lst .val)), (60, .i64), (61, .i64)], [(1000000, .box [.ref (.pn 1000000), .ref (.own 1000001)] (some 38)), (1000001, .arr 5 .u8)], []⟩
noncomputable def X_q52z_s4 : Tm := ⟨[(0, .ptr 1000000 0)], [], [(1000000, .box [.ref (.pn 1000000), .ref (.own 1000001)] (some 38)), (1000001, .arr 5 .u8)], []⟩
noncomputable def R_q52z_s4 : Tm := ⟨[], [], [], []⟩
noncomputable def L_q52z_s4 {ρ : Type} (self_q52z : Ev.Val × Unit × (List Int) × Unit → Option (Unit × (List Int) × Unit)) (n : Nat) : LOrc ρ := lorcNil
omit [Tabs] [QuietD Tryz.prog] [UDef] [UTabs] in
theorem s_q52z_s4 {ρ : Type} (self_q52z : Ev.Val × Unit × (List Int) × Unit → Option (Unit × (List Int) × Unit)) (n : Nat) (rec : T_q52z_s4.den → Option ρ) kx kr s : dStep Tryz.prog 76 TT M_q52z (O_q52z self_q52z n) (L_q52z_s4 self_q52z n) dorcNil 4 (lbody 1000 C_q52z 1) T_q52z_s4 X_q52z_s4 R_q52z_s4 ⟨[], [], []⟩ rec kx kr s = q52z_s4 self_q52z n rec kx kr s := by kernel_rfl
noncomputable def L_q52z {ρ : Type} (self_q52z : Ev.Val × Unit × (List Int) × Unit → Option (Unit × (List Int) × Unit)) (n : Nat) : LOrc ρ := lorcCons 1 (loopL 76 1 n T_q52z_s1 X_q52z_s1 R_q52z_s1 ⟨[], [], []⟩ (q52z_s1 self_q52z n)) (lorcCons 4 (loopL 76 4 n T_q52z_s4 X_q52z_s4 R_q52z_s4 ⟨[], [], []⟩ (q52z_s4 self_q52z n)) (lorcNil))
omit [Tabs] [QuietD Tryz.prog] [UDef] [UTabs] in
theorem e_q52z (self_q52z : Ev.Val × Unit × (List Int) × Unit → Option (Unit × (List Int) × Unit)) (n : Nat) (x) : evF Tryz.prog 76 TT M_q52z F_q52z (O_q52z self_q52z n) (L_q52z self_q52z n) dorcNil ⟨[], [], []⟩ [] C_q52z x = q52z_b self_q52z n x := by kernel_rfl
omit [UDef] in
theorem okb_q52z (self_q52z : Ev.Val × Unit × (List Int) × Unit → Option (Unit × (List Int) × Unit)) (h_q52z : Contract Tryz.prog 33 F_q52z self_q52z) (n : Nat) : Contract Tryz.prog 33 F_q52z (q52z_b self_q52z n) :=
  Contract.of_ev (c := C_q52z) (N := 76) Tryz.func33 (by kernel_rfl) (by kernel_rfl) (by kernel_rfl) (by kernel_rfl) (O_q52z_ok self_q52z h_q52z n) dorcNil_ok (.of (l := [(1, (lbody 1000 C_q52z 0)), (4, (lbody 1000 C_q52z 1))]) (by kernel_rfl) ⟨.head (loopL_sound (O_q52z_ok self_q52z h_q52z n) dorcNil_ok (.of (l := []) (by kernel_rfl) trivial) (s_q52z_s1 self_q52z n)), ⟨.tail rfl (.head (loopL_sound (O_q52z_ok self_q52z h_q52z n) dorcNil_ok (.of (l := []) (by kernel_rfl) trivial) (s_q52z_s4 self_q52z n))), trivial⟩⟩) (e_q52z self_q52z n)
omit [UDef] in
theorem ok_q52z : ∀ n, Contract Tryz.prog 33 F_q52z (q52z n)
  | 0 => fun _ _ h => by cases h
  | n + 1 => okb_q52z _ (ok_q52z n) n

noncomputable def F_q20z : FnT := ⟨1, ⟨[(0, .ptr 1000000 0)], [], [(1000000, .box [.ref (.pn 1000000), .ref (.own 1000001)] (some 38)), (1000001, .arr 5 .u8)], []⟩, [.v .i64], [(1000000, .box [.ref (.pn 1000000), .ref (.own 1000001)] (some 38)), (1000001, .arr 5 .u8)]⟩
noncomputable def C_q20z : Code := bodyOf Tryz.f15
noncomputable def M_q20z : List (Nat × ArgM) := []
instance : DfOk M_q20z := .none rfl
noncomputable def O_q20z {ρ : Type} : Orc ρ := orcNil
omit [QuietD Tryz.prog] [UDef] [UTabs] in
theorem O_q20z_ok {ρ : Type} : (O_q20z : Orc ρ).ok Tryz.prog := orcNil_ok
noncomputable def L_q20z {ρ : Type} : LOrc ρ := lorcNil
omit [Tabs] [QuietD Tryz.prog] [UDef] [UTabs] in
theorem e_q20z (x) : evF Tryz.prog 8 TT M_q20z F_q20z (O_q20z) (L_q20z) dorcNil ⟨[], [], []⟩ [.tmp 2] C_q20z x = q20z x := by kernel_rfl
omit [UDef] [UTabs] in
theorem ok_q20z : Contract Tryz.prog 15 F_q20z (q20z) :=
  Contract.of_ev (c := C_q20z) (N := 8) Tryz.func15 (by kernel_rfl) (by kernel_rfl) (by kernel_rfl) (by kernel_rfl) (O_q20z_ok) dorcNil_ok (.of (l := []) (by kernel_rfl) trivial) (e_q20z)

noncomputable def C_q43z : Code := bodyOf Tryz.f13
noncomputable def M_q43z : List (Nat × ArgM) := [(999999996, ⟨[38, 5], [], [], false⟩), (33, ⟨[0], [], [], false⟩), (15, ⟨[0], [], [], false⟩), (16, ⟨[0], [], [], false⟩), (32, ⟨[], [], [], true⟩)]
instance : DfOk M_q43z := .none rfl
noncomputable def O_q43z {ρ : Type} (n : Nat) : Orc ρ := orcCons 32 F_q41z (q41z n) (orcCons 33 F_q52z (q52z n) (orcCons 15 F_q20z (q20z) (orcCons 16 F_st (stringN) (orcNil))))
omit [UDef] in
theorem O_q43z_ok {ρ : Type} (n : Nat) : (O_q43z n : Orc ρ).ok Tryz.prog := orcCons_ok (by kernel_rfl) (ok_q41z n) (orcCons_ok (by kernel_rfl) (ok_q52z n) (orcCons_ok (by kernel_rfl) (ok_q20z) (orcCons_ok (by kernel_rfl) (stringN_ok) (orcNil_ok))))
noncomputable def L_q43z {ρ : Type} (n : Nat) : LOrc ρ := lorcNil
omit [Tabs] [QuietD Tryz.prog] [UDef] [UTabs] in
theorem e_q43z (n : Nat) (x) : evF Tryz.prog 16 TT M_q43z F_q43z (O_q43z n) (L_q43z n) dorcNil ⟨[], [], []⟩ [.tmp 2, .tmp 3] C_q43z x = q43z n x := by kernel_rfl
omit [UDef] in
theorem ok_q43z (n : Nat) : Contract Tryz.prog 13 F_q43z (q43z n) :=
  Contract.of_ev (c := C_q43z) (N := 16) Tryz.func13 (by kernel_rfl) (by kernel_rfl) (by kernel_rfl) (by kernel_rfl) (O_q43z_ok n) dorcNil_ok (.of (l := []) (by kernel_rfl) trivial) (e_q43z n)

noncomputable def C_q38z : Code := bodyOf Tryz.f12
noncomputable def M_q38z : List (Nat × ArgM) := [(10, ⟨[1], [], [], false⟩), (13, ⟨[], [], [], true⟩)]
instance : DfOk M_q38z := .none rfl
noncomputable def O_q38z {ρ : Type} (n : Nat) : Orc ρ := orcCons 13 F_q43z (q43z n) (orcCons 10 F_q37z (q37z n) (orcNil))
omit [UDef] in
theorem O_q38z_ok {ρ : Type} (n : Nat) : (O_q38z n : Orc ρ).ok Tryz.prog := orcCons_ok (by kernel_rfl) (ok_q43z n) (orcCons_ok (by kernel_rfl) (ok_q37z n) (orcNil_ok))
noncomputable def T_q38z_s0 : Tm := ⟨[(1, .ptr 1000000 0), (2, .ptr 1000016 0)], [(8, (.lst .prp)), (9, .i64), (10, .i64)], [(1000000, .box [.d .bool]), (1000016, .box [.ref (.clo 10 [1000017])]), (1000017, .box [.ref (.pn 1000017), .ref (.own 1000018)] (some 38)), (1000018, .arr 5 .u8)], []⟩
noncomputable def X_q38z_s0 : Tm := ⟨[(2, .ptr 1000016 0)], [], [(1000000, .box [.d .bool]), (1000016, .box [.ref (.clo 10 [1000017])]), (1000017, .box [.ref (.pn 1000017), .ref (.own 1000018)] (some 38)), (1000018, .arr 5 .u8)], []⟩
noncomputable def R_q38z_s0 : Tm := ⟨[], [], [], []⟩
noncomputable def L_q38z_s0 {ρ : Type} (n : Nat) : LOrc ρ := lorcNil
omit [Tabs] [QuietD Tryz.prog] [UDef] [UTabs] in
theorem s_q38z_s0 {ρ : Type} (n : Nat) (rec : T_q38z_s0.den → Option ρ) kx kr s : dStep Tryz.prog 32 TT M_q38z (O_q38z n) (L_q38z_s0 n) dorcNil 0 (lbody 1000 C_q38z 0) T_q38z_s0 X_q38z_s0 R_q38z_s0 ⟨[], [], []⟩ rec kx kr s = q38z_s0 n rec kx kr s := by kernel_rfl
noncomputable def L_q38z {ρ : Type} (n : Nat) : LOrc ρ := lorcCons 0 (loopL 32 0 n T_q38z_s0 X_q38z_s0 R_q38z_s0 ⟨[], [], []⟩ (q38z_s0 n)) (lorcNil)
omit [Tabs] [QuietD Tryz.prog] [UDef] [UTabs] in
theorem e_q38z (n : Nat) (x) : evF Tryz.prog 32 TT M_q38z F_q38z (O_q38z n) (L_q38z n) dorcNil ⟨[], [], []⟩ [] C_q38z x = q38z n x := by kernel_rfl
omit [UDef] in
theorem ok_q38z (n : Nat) : Contract Tryz.prog 12 F_q38z (q38z n) :=
  Contract.of_ev (c := C_q38z) (N := 32) Tryz.func12 (by kernel_rfl) (by kernel_rfl) (by kernel_rfl) (by kernel_rfl) (O_q38z_ok n) dorcNil_ok (.of (l := [(0, (lbody 1000 C_q38z 0))]) (by kernel_rfl) ⟨.head (loopL_sound (O_q38z_ok n) dorcNil_ok (.of (l := []) (by kernel_rfl) trivial) (s_q38z_s0 n)), trivial⟩) (e_q38z n)

noncomputable def C_q49z : Code := bodyOf Tryz.f5
noncomputable def M_q49z : List (Nat × ArgM) := [(999999994, ⟨[27, 40, 78], [], [], false⟩), (999999996, ⟨[38, 5], [], [], false⟩), (12, ⟨[1, 2], [], [], false⟩), (10, ⟨[1], [], [], false⟩), (15, ⟨[0], [], [], false⟩), (16, ⟨[0], [], [], false⟩), (9, ⟨[], [], [], true⟩), (14, ⟨[], [], [], true⟩)]
instance : DfOk M_q49z := .none rfl
noncomputable def O_q49z {ρ : Type} (n : Nat) : Orc ρ := orcCons 9 F_q39z (q39z n) (orcCons 14 F_itoa (itoaN) (orcCons 10 F_q37z (q37z n) (orcCons 12 F_q38z (q38z n) (orcCons 15 F_q20z (q20z) (orcCons 16 F_st (stringN) (orcNil))))))
omit [UDef] in
theorem O_q49z_ok {ρ : Type} (n : Nat) : (O_q49z n : Orc ρ).ok Tryz.prog := orcCons_ok (by kernel_rfl) (ok_q39z n) (orcCons_ok (by kernel_rfl) (itoaN_ok) (orcCons_ok (by kernel_rfl) (ok_q37z n) (orcCons_ok (by kernel_rfl) (ok_q38z n) (orcCons_ok (by kernel_rfl) (ok_q20z) (orcCons_ok (by kernel_rfl) (stringN_ok) (orcNil_ok))))))
noncomputable def T_q49z_s2 : Tm := ⟨[(1, .ptr 1 0), (5, .ptr 5 0), (6, .ptr 6 0), (7, .ptr 7 0), (8, .clo 12 [6, 7]), (10, .ptr 10 0)], [(29, (.lst .node)), (30, .i64), (31, .i64), (42, (.lst .str)), (43, .i64), (44, .i64)], [(1, .box [.d .graph]), (5, .box [.ref (.pn 5), .ref (.own 500005)] (some 38)), (6, .box [.d .bool]), (7, .box [.ref (.clo 10 [5])]), (10, .box [.d .node]), (500005, .arr 5 .u8)], []⟩
noncomputable def X_q49z_s2 : Tm := ⟨[(1, .ptr 1 0), (5, .ptr 5 0), (6, .ptr 6 0), (7, .ptr 7 0), (8, .clo 12 [6, 7]), (10, .ptr 10 0)], [(29, (.lst .node)), (30, .i64), (31, .i64)], [(1, .box [.d .graph]), (5, .box [.ref (.pn 5), .ref (.own 500005)] (some 38)), (6, .box [.d .bool]), (7, .box [.ref (.clo 10 [5])]), (10, .box [.d .node]), (500005, .arr 5 .u8)], []⟩
noncomputable def R_q49z_s2 : Tm := ⟨[], [], [], []⟩
noncomputable def L_q49z_s2 {ρ : Type} (n : Nat) : LOrc ρ := lorcNil
omit [Tabs] [QuietD Tryz.prog] [UDef] [UTabs] in
theorem s_q49z_s2 {ρ : Type} (n : Nat) (rec : T_q49z_s2.den → Option ρ) kx kr s : dStep Tryz.prog 90 TT M_q49z (O_q49z n) (L_q49z_s2 n) (evDraw Tryz.prog 90 TT M_q49z (O_q49z n)) 2 (lbody 0 (lbody 1000 C_q49z 0) 0) T_q49z_s2 X_q49z_s2 R_q49z_s2 ⟨[], [], []⟩ rec kx kr s = q49z_s2 n rec kx kr s := by kernel_rfl
noncomputable def T_q49z_s0 : Tm := ⟨[(1, .ptr 1 0), (5, .ptr 5 0), (6, .ptr 6 0), (7, .ptr 7 0), (8, .clo 12 [6, 7])], [(29, (.lst .node)), (30, .i64), (31, .i64)], [(1, .box [.d .graph]), (5, .box [.ref (.pn 5), .ref (.own 500005)] (some 38)), (6, .box [.d .bool]), (7, .box [.ref (.clo 10 [5])]), (500005, .arr 5 .u8)], []⟩
noncomputable def X_q49z_s0 : Tm := ⟨[(1, .ptr 1 0), (5, .ptr 5 0), (6, .ptr 6 0), (7, .ptr 7 0), (8, .clo 12 [6, 7])], [], [(1, .box [.d .graph]), (5, .box [.ref (.pn 5), .ref (.own 500005)] (some 38)), (6, .box [.d .bool]), (7, .box [.ref (.clo 10 [5])]), (500005, .arr 5 .u8)], []⟩
noncomputable def R_q49z_s0 : Tm := ⟨[], [], [], []⟩
noncomputable def L_q49z_s0 {ρ : Type} (n : Nat) : LOrc ρ := lorcCons 2 (loopL 90 2 n T_q49z_s2 X_q49z_s2 R_q49z_s2 ⟨[], [], []⟩ (q49z_s2 n)) (lorcNil)
omit [Tabs] [QuietD Tryz.prog] [UDef] [UTabs] in
theorem s_q49z_s0 {ρ : Type} (n : Nat) (rec : T_q49z_s0.den → Option ρ) kx kr s : dStep Tryz.prog 90 TT M_q49z (O_q49z n) (L_q49z_s0 n) (evDraw Tryz.prog 90 TT M_q49z (O_q49z n)) 0 (lbody 1000 C_q49z 0) T_q49z_s0 X_q49z_s0 R_q49z_s0 ⟨[], [], []⟩ rec kx kr s = q49z_s0 n rec kx kr s := by kernel_rfl
noncomputable def T_q49z_s4 : Tm := ⟨[(5, .ptr 5 0), (6, .ptr 6 0), (7, .ptr 7 0), (8, .clo 12 [6, 7])], [(59, (.lst .edg)), (60, .i64), (61, .i64)], [(5, .box [.ref (.pn 5), .ref (.own 500005)] (some 38)), (6, .box [.d .bool]), (7, .box [.ref (.clo 10 [5])]), (500005, .arr 5 .u8)], []⟩
noncomputable def X_q49z_s4 : Tm := ⟨[(5, .ptr 5 0), (6, .ptr 6 0)], [], [(5, .box [.ref (.pn 5), .ref (.own 500005)] (some 38)), (6, .box [.d .bool]), (500005, .arr 5 .u8)], []⟩
noncomputable def R_q49z_s4 : Tm := ⟨[], [], [], []⟩
noncomputable def L_q49z_s4 {ρ : Type} (n : Nat) : LOrc ρ := lorcNil
omit [Tabs] [QuietD Tryz.prog] [UDef] [UTabs] in
theorem s_q49z_s4 {ρ : Type} (n : Nat) (rec : T_q49z_s4.den → Option ρ) kx kr s : dStep Tryz.prog 90 TT M_q49z (O_q49z n) (L_q49z_s4 n) (evDraw Tryz.prog 90 TT M_q49z (O_q49z n)) 4 (lbody 1000 C_q49z 1) T_q49z_s4 X_q49z_s4 R_q49z_s4 ⟨[], [], []⟩ rec kx kr s = q49z_s4 n rec kx kr s := by kernel_rfl
noncomputable def L_q49z {ρ : Type} (n : Nat) : LOrc ρ := lorcCons 0 (loopL 90 0 n T_q49z_s0 X_q49z_s0 R_q49z_s0 ⟨[], [], []⟩ (q49z_s0 n)) (lorcCons 4 (loopL 90 4 n T_q49z_s4 X_q49z_s4 R_q49z_s4 ⟨[], [], []⟩ (q49z_s4 n)) (lorcNil))
omit [Tabs] [QuietD Tryz.prog] [UDef] [UTabs] in
theorem e_q49z (n : Nat) (x) : evF Tryz.prog 90 TT M_q49z F_q49z (O_q49z n) (L_q49z n) (evDraw Tryz.prog 90 TT M_q49z (O_q49z n)) ⟨[], [], []⟩ [.tmp 2, .tmp 3] C_q49z x = q49z n x := by kernel_rfl
omit [UDef] in
theorem ok_q49z (n : Nat) : Contract Tryz.prog 5 F_q49z (q49z n) :=
  Contract.of_ev (c := C_q49z) (N := 90) Tryz.func5 (by kernel_rfl) (by kernel_rfl) (by kernel_rfl) (by kernel_rfl) (O_q49z_ok n) (evDraw_ok (O_q49z_ok n) (by kernel_rfl)) (.of (l := [(0, (lbody 1000 C_q49z 0)), (4, (lbody 1000 C_q49z 1))]) (by kernel_rfl) ⟨.head (loopL_sound (O_q49z_ok n) (evDraw_ok (O_q49z_ok n) (by kernel_rfl)) (.of (l := [(2, (lbody 0 (lbody 1000 C_q49z 0) 0))]) (by kernel_rfl) ⟨.head (loopL_sound (O_q49z_ok n) (evDraw_ok (O_q49z_ok n) (by kernel_rfl)) (.of (l := []) (by kernel_rfl) trivial) (s_q49z_s2 n)), trivial⟩) (s_q49z_s0 n)), ⟨.tail rfl (.head (loopL_sound (O_q49z_ok n) (evDraw_ok (O_q49z_ok n) (by kernel_rfl)) (.of (l := []) (by kernel_rfl) trivial) (s_q49z_s4 n))), trivial⟩⟩) (e_q49z n)

noncomputable def F_q51z : FnT := ⟨1, ⟨[], [(0, .str)], [], []⟩, [.v (.lst .str)], []⟩
noncomputable def C_q51z : Code := bodyOf Tryz.f19
noncomputable def M_q51z : List (Nat × ArgM) := []
instance : DfOk M_q51z := .none rfl
noncomputable def O_q51z {ρ : Type} (n : Nat) : Orc ρ := orcNil
omit [QuietD Tryz.prog] [UDef] [UTabs] in
theorem O_q51z_ok {ρ : Type} (n : Nat) : (O_q51z n : Orc ρ).ok Tryz.prog := orcNil_ok
noncomputable def T_q51z_s0 : Tm := ⟨[(3, .own 3)], [(0, .str), (4, .str), (5, .bool), (6, .i64)], [(3, .arr 9 .str)], []⟩
noncomputable def X_q51z_s0 : Tm := ⟨[(3, .own 3)], [(4, .str)], [(3, .arr 9 .str)], []⟩
noncomputable def R_q51z_s0 : Tm := ⟨[], [], [], []⟩
noncomputable def L_q51z_s0 {ρ : Type} (n : Nat) : LOrc ρ := lorcNil
omit [Tabs] [QuietD Tryz.prog] [UDef] [UTabs] in
theorem s_q51z_s0 {ρ : Type} (n : Nat) (rec : T_q51z_s0.den → Option ρ) kx kr s : dStep Tryz.prog 66 TT M_q51z (O_q51z n) (L_q51z_s0 n) dorcNil 0 (lbody 1000 C_q51z 0) T_q51z_s0 X_q51z_s0 R_q51z_s0 ⟨[], [(3, 3, 9, 1)], []⟩ rec kx kr s = q51z_s0 n rec kx kr s := by kernel_rfl
noncomputable def L_q51z {ρ : Type} (n : Nat) : LOrc ρ := lorcCons 0 (loopL 66 0 n T_q51z_s0 X_q51z_s0 R_q51z_s0 ⟨[], [(3, 3, 9, 1)], []⟩ (q51z_s0 n)) (lorcNil)
omit [Tabs] [QuietD Tryz.prog] [UDef] [UTabs] in
theorem e_q51z (n : Nat) (x) : evF Tryz.prog 66 TT M_q51z F_q51z (O_q51z n) (L_q51z n) dorcNil ⟨[], [], []⟩ [.tmp 2] C_q51z x = q51z n x := by kernel_rfl
omit [UDef] [UTabs] in
theorem ok_q51z (n : Nat) : Contract Tryz.prog 19 F_q51z (q51z n) :=
  Contract.of_ev (c := C_q51z) (N := 66) Tryz.func19 (by kernel_rfl) (by kernel_rfl) (by kernel_rfl) (by kernel_rfl) (O_q51z_ok n) dorcNil_ok (.of (l := [(0, (lbody 1000 C_q51z 0))]) (by kernel_rfl) ⟨.head (loopL_sound (O_q51z_ok n) dorcNil_ok (.of (l := []) (by kernel_rfl) trivial) (s_q51z_s0 n)), trivial⟩) (e_q51z n)

noncomputable def F_q50z : FnT := ⟨1, ⟨[], [(0, .str)], [], []⟩, [.v .i64, .v .bool], []⟩
noncomputable def C_q50z : Code := bodyOf Tryz.f20
noncomputable def M_q50z : List (Nat × ArgM) := [(14, ⟨[], [], [], true⟩)]
instance : DfOk M_q50z := .none rfl
noncomputable def O_q50z {ρ : Type} : Orc ρ := orcCons 37 F_atoi (atoiN) (orcCons 14 F_itoa (itoaN) (orcNil))
omit [QuietD Tryz.prog] [UDef] in
theorem O_q50z_ok {ρ : Type} : (O_q50z : Orc ρ).ok Tryz.prog := orcCons_ok (by kernel_rfl) (atoiN_ok) (orcCons_ok (by kernel_rfl) (itoaN_ok) (orcNil_ok))
noncomputable def L_q50z {ρ : Type} : LOrc ρ := lorcNil
omit [Tabs] [QuietD Tryz.prog] [UDef] [UTabs] in
theorem e_q50z (x) : evF Tryz.prog 20 TT M_q50z F_q50z (O_q50z) (L_q50z) dorcNil ⟨[], [], []⟩ [.tmp 2, .tmp 3] C_q50z x = q50z x := by kernel_rfl
omit [UDef] in
theorem ok_q50z : Contract Tryz.prog 20 F_q50z (q50z) :=
  Contract.of_ev (c := C_q50z) (N := 20) Tryz.func20 (by kernel_rfl) (by kernel_rfl) (by kernel_rfl) (by kernel_rfl) (O_q50z_ok) dorcNil_ok (.of (l := []) (by kernel_rfl) trivial) (e_q50z)

noncomputable def F_q32z : FnT := ⟨1, ⟨[], [(0, (.lst .str))], [], []⟩, [.v (.lst .prp), .v .bool], []⟩
noncomputable def F_q42z : FnT := ⟨1, ⟨[], [(0, .str)], [], []⟩, [.v .val, .v .i64, .v .i64], []⟩
noncomputable def F_q22z : FnT := ⟨2, ⟨[(0, .ptr 1000000 0)], [(1, .i64)], [(1000000, .box [.d .str, .d .i64])], []⟩, [.v .val], [(1000000, .box [.d .str, .d .i64])]⟩
noncomputable def F_q27z : FnT := ⟨2, ⟨[(0, .ptr 1000000 0)], [(1, .str)], [(1000000, .box [.d .str, .d .i64])], []⟩, [.v .bool], [(1000000, .box [.d .str, .d .i64])]⟩
noncomputable def F_q28z : FnT := ⟨2, ⟨[], [(0, .str), (1, .str)], [], []⟩, [.v .bool], []⟩
noncomputable def F_q5z : FnT := ⟨2, ⟨[], [(0, .str), (1, .str)], [], []⟩, [.v .bool], []⟩
noncomputable def C_q5z : Code := bodyOf Tryz.f56
noncomputable def M_q5z : List (Nat × ArgM) := []
instance : DfOk M_q5z := .none rfl
noncomputable def O_q5z {ρ : Type} : Orc ρ := orcNil
omit [QuietD Tryz.prog] [UDef] [UTabs] in
theorem O_q5z_ok {ρ : Type} : (O_q5z : Orc ρ).ok Tryz.prog := orcNil_ok
noncomputable def L_q5z {ρ : Type} : LOrc ρ := lorcNil
omit [Tabs] [QuietD Tryz.prog] [UDef] [UTabs] in
theorem e_q5z (x) : evF Tryz.prog 18 TT M_q5z F_q5z (O_q5z) (L_q5z) dorcNil ⟨[], [], []⟩ [.tmp 4] C_q5z x = q5z x := by kernel_rfl
omit [UDef] [UTabs] in
theorem ok_q5z : Contract Tryz.prog 56 F_q5z (q5z) :=
  Contract.of_ev (c := C_q5z) (N := 18) Tryz.func56 (by kernel_rfl) (by kernel_rfl) (by kernel_rfl) (by kernel_rfl) (O_q5z_ok) dorcNil_ok (.of (l := []) (by kernel_rfl) trivial) (e_q5z)

noncomputable def C_q28z : Code := bodyOf Tryz.f38
noncomputable def M_q28z : List (Nat × ArgM) := [(56, ⟨[], [], [], true⟩)]
instance : DfOk M_q28z := .none rfl
noncomputable def O_q28z {ρ : Type} : Orc ρ := orcCons 56 F_q5z (q5z) (orcNil)
omit [UDef] [UTabs] in
theorem O_q28z_ok {ρ : Type} : (O_q28z : Orc ρ).ok Tryz.prog := orcCons_ok (by kernel_rfl) (ok_q5z) (orcNil_ok)
noncomputable def L_q28z {ρ : Type} : LOrc ρ := lorcNil
omit [Tabs] [QuietD Tryz.prog] [UDef] [UTabs] in
theorem e_q28z (x) : evF Tryz.prog 8 TT M_q28z F_q28z (O_q28z) (L_q28z) dorcNil ⟨[], [], []⟩ [.tmp 4] C_q28z x = q28z x := by kernel_rfl
omit [UDef] [UTabs] in
theorem ok_q28z : Contract Tryz.prog 38 F_q28z (q28z) :=
  Contract.of_ev (c := C_q28z) (N := 8) Tryz.func38 (by kernel_rfl) (by kernel_rfl) (by kernel_rfl) (by kernel_rfl) (O_q28z_ok) dorcNil_ok (.of (l := []) (by kernel_rfl) trivial) (e_q28z)

noncomputable def C_q27z : Code := bodyOf Tryz.f98
noncomputable def M_q27z : List (Nat × ArgM) := [(38, ⟨[], [], [], true⟩)]
instance : DfOk M_q27z := .none rfl
noncomputable def O_q27z {ρ : Type} : Orc ρ := orcCons 38 F_q28z (q28z) (orcNil)
omit [UDef] [UTabs] in
theorem O_q27z_ok {ρ : Type} : (O_q27z : Orc ρ).ok Tryz.prog := orcCons_ok (by kernel_rfl) (ok_q28z) (orcNil_ok)
noncomputable def L_q27z {ρ : Type} : LOrc ρ := lorcNil
omit [Tabs] [QuietD Tryz.prog] [UDef] [UTabs] in
theorem e_q27z (x) : evF Tryz.prog 26 TT M_q27z F_q27z (O_q27z) (L_q27z) (evDraw Tryz.prog 26 TT M_q27z (O_q27z)) ⟨[], [], []⟩ [.tmp 4] C_q27z x = q27z x := by kernel_rfl
omit [UDef] [UTabs] in
theorem ok_q27z : Contract Tryz.prog 98 F_q27z (q27z) :=
  Contract.of_ev (c := C_q27z) (N := 26) Tryz.func98 (by kernel_rfl) (by kernel_rfl) (by kernel_rfl) (by kernel_rfl) (O_q27z_ok) (evDraw_ok (O_q27z_ok) (by kernel_rfl)) (.of (l := []) (by kernel_rfl) trivial) (e_q27z)

noncomputable def F_q45z : FnT := ⟨1, ⟨[], [(0, .bool)], [], []⟩, [.v .val], []⟩
noncomputable def C_q45z : Code := bodyOf Tryz.f99
noncomputable def M_q45z : List (Nat × ArgM) := []
instance : DfOk M_q45z := .none rfl
noncomputable def O_q45z {ρ : Type} : Orc ρ := orcNil
omit [QuietD Tryz.prog] [UDef] [UTabs] in
theorem O_q45z_ok {ρ : Type} : (O_q45z : Orc ρ).ok Tryz.prog := orcNil_ok
noncomputable def L_q45z {ρ : Type} : LOrc ρ := lorcNil
omit [Tabs] [QuietD Tryz.prog] [UDef] [UTabs] in
theorem e_q45z (x) : evF Tryz.prog 8 TT M_q45z F_q45z (O_q45z) (L_q45z) dorcNil ⟨[], [], []⟩ [.cell 2 48] C_q45z x = q45z x := by kernel_rfl
omit [UDef] [UTabs] in
theorem ok_q45z : Contract Tryz.prog 99 F_q45z (q45z) :=
  Contract.of_ev (c := C_q45z) (N := 8) Tryz.func99 (by kernel_rfl) (by kernel_rfl) (by kernel_rfl) (by kernel_rfl) (O_q45z_ok) dorcNil_ok (.of (l := []) (by kernel_rfl) trivial) (e_q45z)

noncomputable def F_q24z : FnT := ⟨1, ⟨[(0, .ptr 1000000 0)], [], [(1000000, .box [.d .str, .d .i64])], []⟩, [.v .str], [(1000000, .box [.d .str, .d .i64])]⟩
noncomputable def C_q24z : Code := bodyOf Tryz.f100
noncomputable def M_q24z : List (Nat × ArgM) := [(999999996, ⟨[38, 5], [], [], false⟩), (98, ⟨[0], [], [], false⟩), (16, ⟨[0], [], [], false⟩), (48, ⟨[0], [], [], false⟩), (49, ⟨[0], [], [], false⟩), (71, ⟨[], [], [], true⟩)]
instance : DfOk M_q24z := .none rfl
noncomputable def O_q24z {ρ : Type} (n : Nat) : Orc ρ := orcCons 98 F_q27z (q27z) (orcCons 16 F_st (stringN) (orcCons 48 F_q8z (q8z) (orcCons 71 F_decode (decodeN) (orcCons 49 F_q9z (q9z) (orcNil)))))
omit [UDef] in
theorem O_q24z_ok {ρ : Type} (n : Nat) : (O_q24z n : Orc ρ).ok Tryz.prog := orcCons_ok (by kernel_rfl) (ok_q27z) (orcCons_ok (by kernel_rfl) (stringN_ok) (orcCons_ok (by kernel_rfl) (ok_q8z) (orcCons_ok (by kernel_rfl) (decodeN_ok) (orcCons_ok (by kernel_rfl) (ok_q9z) (orcNil_ok)))))
noncomputable def T_q24z_s0 : Tm := ⟨[(0, .ptr 1000000 0), (3, .ptr 3 0)], [], [(3, .box [.ref (.pn 3), .ref (.own 500003)] (some 38)), (500003, .arr 5 .u8), (1000000, .box [.d .str, .d .i64])], []⟩
noncomputable def X_q24z_s0 : Tm := ⟨[], [], [], []⟩
noncomputable def R_q24z_s0 : Tm := ⟨[], [(2, .str)], [(1000000, .box [.d .str, .d .i64])], []⟩
noncomputable def L_q24z_s0 {ρ : Type} (n : Nat) : LOrc ρ := lorcNil
omit [Tabs] [QuietD Tryz.prog] [UDef] [UTabs] in
theorem s_q24z_s0 {ρ : Type} (n : Nat) (rec : T_q24z_s0.den → Option ρ) kx kr s : dStep Tryz.prog 69 TT M_q24z (O_q24z n) (L_q24z_s0 n) (evDraw Tryz.prog 69 TT M_q24z (O_q24z n)) 0 (lbody 1000 C_q24z 0) T_q24z_s0 X_q24z_s0 R_q24z_s0 ⟨[], [], []⟩ rec kx kr s = q24z_s0 n rec kx kr s := by kernel_rfl
noncomputable def L_q24z {ρ : Type} (n : Nat) : LOrc ρ := lorcCons 0 (loopL 69 0 n T_q24z_s0 X_q24z_s0 R_q24z_s0 ⟨[], [], []⟩ (q24z_s0 n)) (lorcNil)
omit [Tabs] [QuietD Tryz.prog] [UDef] [UTabs] in
theorem e_q24z (n : Nat) (x) : evF Tryz.prog 69 TT M_q24z F_q24z (O_q24z n) (L_q24z n) (evDraw Tryz.prog 69 TT M_q24z (O_q24z n)) ⟨[], [], []⟩ [.tmp 2] C_q24z x = q24z n x := by kernel_rfl
omit [UDef] in
theorem ok_q24z (n : Nat) : Contract Tryz.prog 100 F_q24z (q24z n) :=
  Contract.of_ev (c := C_q24z) (N := 69) Tryz.func100 (by kernel_rfl) (by kernel_rfl) (by kernel_rfl) (by kernel_rfl) (O_q24z_ok n) (evDraw_ok (O_q24z_ok n) (by kernel_rfl)) (.of (l := [(0, (lbody 1000 C_q24z 0))]) (by kernel_rfl) ⟨.head (loopL_sound (O_q24z_ok n) (evDraw_ok (O_q24z_ok n) (by kernel_rfl)) (.of (l := []) (by kernel_rfl) trivial) (s_q24z_s0 n)), trivial⟩) (e_q24z n)

noncomputable def C_q22z : Code := bodyOf Tryz.f81
noncomputable def M_q22z : List (Nat × ArgM) := [(98, ⟨[0], [], [], false⟩), (100, ⟨[0], [], [], false⟩), (81, ⟨[0], [], [], false⟩), (14, ⟨[], [], [], true⟩)]
instance : DfOk M_q22z := .none rfl
noncomputable def O_q22z {ρ : Type} (self_q22z : Int × (ByteArray × Int × Unit) × Unit → Option (Ev.Val × (ByteArray × Int × Unit) × Unit)) (n : Nat) : Orc ρ := orcCons 98 F_q27z (q27z) (orcCons 99 F_q45z (q45z) (orcCons 100 F_q24z (q24z n) (orcCons 81 F_q22z (self_q22z) (orcCons 37 F_atoi (atoiN) (orcCons 14 F_itoa (itoaN) (orcNil))))))
omit [UDef] in
theorem O_q22z_ok {ρ : Type} (self_q22z : Int × (ByteArray × Int × Unit) × Unit → Option (Ev.Val × (ByteArray × Int × Unit) × Unit)) (h_q22z : Contract Tryz.prog 81 F_q22z self_q22z) (n : Nat) : (O_q22z self_q22z n : Orc ρ).ok Tryz.prog := orcCons_ok (by kernel_rfl) (ok_q27z) (orcCons_ok (by kernel_rfl) (ok_q45z) (orcCons_ok (by kernel_rfl) (ok_q24z n) (orcCons_ok (by kernel_rfl) (h_q22z) (orcCons_ok (by kernel_rfl) (atoiN_ok) (orcCons_ok (by kernel_rfl) (itoaN_ok) (orcNil_ok))))))
noncomputable def T_q22z_s1 : Tm := ⟨[(0, .ptr 1000000 0), (4, .ptr 4 0), (6, .ptr 6 0)], [(1, .i64)], [(4, .box [.d .val]), (6, .box [.d .i64, .d .i64, .d .str, .ref (.own 300243)]), (300243, .arr 48 .val), (1000000, .box [.d .str, .d .i64])], []⟩
noncomputable def X_q22z_s1 : Tm := ⟨[], [], [], []⟩
noncomputable def R_q22z_s1 : Tm := ⟨[(4, .ptr 4 0)], [], [(4, .box [.d .i64, .d .i64, .d .str, .ref (.own 300243)]), (300243, .arr 48 .val), (1000000, .box [.d .str, .d .i64])], []⟩
noncomputable def L_q22z_s1 {ρ : Type} (self_q22z : Int × (ByteArray × Int × Unit) × Unit → Option (Ev.Val × (ByteArray × Int × Unit) × Unit)) (n : Nat) : LOrc ρ := lorcNil
omit [Tabs] [QuietD Tryz.prog] [UDef] [UTabs] in
theorem s_q22z_s1 {ρ : Type} (self_q22z : Int × (ByteArray × Int × Unit) × Unit → Option (Ev.Val × (ByteArray × Int × Unit) × Unit)) (n : Nat) (rec : T_q22z_s1.den → Option ρ) kx kr s : dStep Tryz.prog 143 TT M_q22z (O_q22z self_q22z n) (L_q22z_s1 self_q22z n) (evDraw Tryz.prog 143 TT M_q22z (O_q22z self_q22z n)) 1 (lbody 1000 C_q22z 0) T_q22z_s1 X_q22z_s1 R_q22z_s1 ⟨[], [], [(6, 3, 300243, 48, 4)]⟩ rec kx kr s = q22z_s1 self_q22z n rec kx kr s := by kernel_rfl
noncomputable def T_q22z_s3 : Tm := ⟨[(0, .ptr 1000000 0), (4, .ptr 4 0)], [(5, .i64)], [(4, .box [.d .val]), (1000000, .box [.d .str, .d .i64])], []⟩
noncomputable def X_q22z_s3 : Tm := ⟨[(0, .ptr 1000000 0), (4, .ptr 4 0)], [(5, .i64)], [(4, .box [.d .val]), (1000000, .box [.d .str, .d .i64])], []⟩
noncomputable def R_q22z_s3 : Tm := ⟨[], [], [], []⟩
noncomputable def L_q22z_s3 {ρ : Type} (self_q22z : Int × (ByteArray × Int × Unit) × Unit → Option (Ev.Val × (ByteArray × Int × Unit) × Unit)) (n : Nat) : LOrc ρ := lorcNil
omit [Tabs] [QuietD Tryz.prog] [UDef] [UTabs] in
theorem s_q22z_s3 {ρ : Type} (self_q22z : Int × (ByteArray × Int × Unit) × Unit → Option (Ev.Val × (ByteArray × Int × Unit) × Unit)) (n : Nat) (rec : T_q22z_s3.den → Option ρ) kx kr s : dStep Tryz.prog 143 TT M_q22z (O_q22z self_q22z n) (L_q22z_s3 self_q22z n) (evDraw Tryz.prog 143 TT M_q22z (O_q22z self_q22z n)) 3 (lbody 1000 C_q22z 1) T_q22z_s3 X_q22z_s3 R_q22z_s3 ⟨[], [], []⟩ rec kx kr s = q22z_s3 self_q22z n rec kx kr s := by kernel_rfl
noncomputable def L_q22z {ρ : Type} (self_q22z : Int × (ByteArray × Int × Unit) × Unit → Option (Ev.Val × (ByteArray × Int × Unit) × Unit)) (n : Nat) : LOrc ρ := lorcCons 1 (loopL 143 1 n T_q22z_s1 X_q22z_s1 R_q22z_s1 ⟨[], [], [(6, 3, 300243, 48, 4)]⟩ (q22z_s1 self_q22z n)) (lorcCons 3 (loopL 143 3 n T_q22z_s3 X_q22z_s3 R_q22z_s3 ⟨[], [], []⟩ (q22z_s3 self_q22z n)) (lorcNil))
omit [Tabs] [QuietD Tryz.prog] [UDef] [UTabs] in
theorem e_q22z (self_q22z : Int × (ByteArray × Int × Unit) × Unit → Option (Ev.Val × (ByteArray × Int × Unit) × Unit)) (n : Nat) (x) : evF Tryz.prog 143 TT M_q22z F_q22z (O_q22z self_q22z n) (L_q22z self_q22z n) (evDraw Tryz.prog 143 TT M_q22z (O_q22z self_q22z n)) ⟨[], [], []⟩ [.cell 4 48] C_q22z x = q22z_b self_q22z n x := by kernel_rfl
omit [UDef] in
theorem okb_q22z (self_q22z : Int × (ByteArray × Int × Unit) × Unit → Option (Ev.Val × (ByteArray × Int × Unit) × Unit)) (h_q22z : Contract Tryz.prog 81 F_q22z self_q22z) (n : Nat) : Contract Tryz.prog 81 F_q22z (q22z_b self_q22z n) :=
  Contract.of_ev (c := C_q22z) (N := 143) Tryz.func81 (by kernel_rfl) (by kernel_rfl) (by kernel_rfl) (by kernel_rfl) (O_q22z_ok self_q22z h_q22z n) (evDraw_ok (O_q22z_ok self_q22z h_q22z n) (by kernel_rfl)) (.of (l := [(1, (lbody 1000 C_q22z 0)), (3, (lbody 1000 C_q22z 1))]) (by kernel_rfl) ⟨.head (loopL_sound (O_q22z_ok self_q22z h_q22z n) (evDraw_ok (O_q22z_ok self_q22z h_q22z n) (by kernel_rfl)) (.of (l := []) (by kernel_rfl) trivial) (s_q22z_s1 self_q22z n)), ⟨.tail rfl (.head (loopL_sound (O_q22z_ok self_q22z h_q22z n) (evDraw_ok (O_q22z_ok self_q22z h_q22z n) (by kernel_rfl)) (.of (l := []) (by kernel_rfl) trivial) (s_q22z_s3 self_q22z n))), trivial⟩⟩) (e_q22z self_q22z n)
omit [UDef] in
theorem ok_q22z : ∀ n, Contract Tryz.prog 81 F_q22z (q22z n)
  | 0 => fun _ _ h => by cases h
  | n + 1 => okb_q22z _ (ok_q22z n) n

noncomputable def C_q42z : Code := bodyOf Tryz.f58
noncomputable def M_q42z : List (Nat × ArgM) := [(999999997, ⟨[80], [], [], false⟩), (81, ⟨[0], [], [], false⟩), (32, ⟨[], [], [], true⟩)]
instance : DfOk M_q42z := ⟨fun g hg => UDef.ok g ((show ∀ x ∈ ([80] : List Nat), x ∈ ([80] : List Nat) by decide) g hg)⟩
noncomputable def O_q42z {ρ : Type} (n : Nat) : Orc ρ := orcCons 81 F_q22z (q22z n) (orcCons 32 F_q41z (q41z n) (orcNil))
omit [UDef] in
theorem O_q42z_ok {ρ : Type} (n : Nat) : (O_q42z n : Orc ρ).ok Tryz.prog := orcCons_ok (by kernel_rfl) (ok_q22z n) (orcCons_ok (by kernel_rfl) (ok_q41z n) (orcNil_ok))
noncomputable def L_q42z {ρ : Type} (n : Nat) : LOrc ρ := lorcNil
omit [Tabs] [QuietD Tryz.prog] [UDef] [UTabs] in
theorem e_q42z (n : Nat) (x) : evF Tryz.prog 37 TT M_q42z F_q42z (O_q42z n) (L_q42z n) dorcNil ⟨[], [], []⟩ [.cell 2 48, .cell 3 3, .cell 4 26] C_q42z x = q42z n x := by kernel_rfl
theorem ok_q42z (n : Nat) : Contract Tryz.prog 58 F_q42z (q42z n) :=
  Contract.of_ev (c := C_q42z) (N := 37) Tryz.func58 (by kernel_rfl) (by kernel_rfl) (by kernel_rfl) (by kernel_rfl) (O_q42z_ok n) dorcNil_ok (.of (l := []) (by kernel_rfl) trivial) (e_q42z n)

noncomputable def C_q32z : Code := bodyOf Tryz.f39
noncomputable def M_q32z : List (Nat × ArgM) := [(57, ⟨[], [], [], true⟩)]
instance : DfOk M_q32z := .none rfl
noncomputable def O_q32z {ρ : Type} (n : Nat) : Orc ρ := orcCons 57 F_cut (cutN) (orcCons 58 F_q42z (q42z n) (orcNil))
theorem O_q32z_ok {ρ : Type} (n : Nat) : (O_q32z n : Orc ρ).ok Tryz.prog := orcCons_ok (by kernel_rfl) (cutN_ok) (orcCons_ok (by kernel_rfl) (ok_q42z n) (orcNil_ok))
noncomputable def T_q32z_s0 : Tm := ⟨[(4, .own 4)], [(13, (.lst .str)), (14, .i64), (15, .i64)], [(4, .arr 50 .prp)], []⟩
noncomputable def X_q32z_s0 : Tm := ⟨[(4, .own 4)], [], [(4, .arr 50 .prp)], []⟩
noncomputable def R_q32z_s0 : Tm := ⟨[], [(2, (.lst .prp)), (3, .bool)], [], []⟩
noncomputable def L_q32z_s0 {ρ : Type} (n : Nat) : LOrc ρ := lorcNil
omit [Tabs] [QuietD Tryz.prog] [UDef] [UTabs] in
theorem s_q32z_s0 {ρ : Type} (n : Nat) (rec : T_q32z_s0.den → Option ρ) kx kr s : dStep Tryz.prog 45 TT M_q32z (O_q32z n) (L_q32z_s0 n) dorcNil 0 (lbody 1000 C_q32z 0) T_q32z_s0 X_q32z_s0 R_q32z_s0 ⟨[], [(4, 4, 50, 5)], []⟩ rec kx kr s = q32z_s0 n rec kx kr s := by kernel_rfl
noncomputable def L_q32z {ρ : Type} (n : Nat) : LOrc ρ := lorcCons 0 (loopL 45 0 n T_q32z_s0 X_q32z_s0 R_q32z_s0 ⟨[], [(4, 4, 50, 5)], []⟩ (q32z_s0 n)) (lorcNil)
omit [Tabs] [QuietD Tryz.prog] [UDef] [UTabs] in
theorem e_q32z (n : Nat) (x) : evF Tryz.prog 45 TT M_q32z F_q32z (O_q32z n) (L_q32z n) dorcNil ⟨[], [], []⟩ [.tmp 2, .tmp 3] C_q32z x = q32z n x := by kernel_rfl
theorem ok_q32z (n : Nat) : Contract Tryz.prog 39 F_q32z (q32z n) :=
  Contract.of_ev (c := C_q32z) (N := 45) Tryz.func39 (by kernel_rfl) (by kernel_rfl) (by kernel_rfl) (by kernel_rfl) (O_q32z_ok n) dorcNil_ok (.of (l := [(0, (lbody 1000 C_q32z 0))]) (by kernel_rfl) ⟨.head (loopL_sound (O_q32z_ok n) dorcNil_ok (.of (l := []) (by kernel_rfl) trivial) (s_q32z_s0 n)), trivial⟩) (e_q32z n)

noncomputable def F_port_line : FnT := ⟨2, ⟨[(0, .ptr 1000000 0)], [(1, (.lst .str))], [(1000000, .box [.ref (.own 1000001), .ref (.own 1000002), .d .i64]), (1000001, .arr 55 .node), (1000002, .arr 57 .edg)], []⟩, [.v .bool], [(1000000, .box [.ref (.own 1000001), .ref (.own 1000002), .d .i64]), (1000001, .arr 55 .node), (1000002, .arr 57 .edg)]⟩
noncomputable def C_port_line : Code := bodyOf Tryz.f21
noncomputable def M_port_line : List (Nat × ArgM) := [(20, ⟨[], [], [], true⟩), (38, ⟨[], [], [], true⟩)]
instance : DfOk M_port_line := .none rfl
noncomputable def O_port_line {ρ : Type} (n : Nat) : Orc ρ := orcCons 20 F_q50z (q50z) (orcCons 38 F_q28z (q28z) (orcCons 39 F_q32z (q32z n) (orcNil)))
theorem O_port_line_ok {ρ : Type} (n : Nat) : (O_port_line n : Orc ρ).ok Tryz.prog := orcCons_ok (by kernel_rfl) (ok_q50z) (orcCons_ok (by kernel_rfl) (ok_q28z) (orcCons_ok (by kernel_rfl) (ok_q32z n) (orcNil_ok)))
noncomputable def T_port_line_s1 : Tm := ⟨[(0, .ptr 1000000 0), (7, .ptr 7 0)], [(1, (.lst .str)), (6, .bool)], [(7, .box [.d .i64, .ref (.own 300281), .ref (.nils)]), (300281, .arr 9 .str), (1000000, .box [.ref (.own 1000001), .ref (.own 1000002), .d .i64]), (1000001, .arr 55 .node), (1000002, .arr 57 .edg)], []⟩
noncomputable def X_port_line_s1 : Tm := ⟨[(0, .ptr 1000000 0), (7, .ptr 7 0)], [(1, (.lst .str)), (6, .bool)], [(7, .box [.d .i64, .ref (.own 300281), .ref (.nils)]), (300281, .arr 9 .str), (1000000, .box [.ref (.own 1000001), .ref (.own 1000002), .d .i64]), (1000001, .arr 55 .node), (1000002, .arr 57 .edg)], []⟩
noncomputable def R_port_line_s1 : Tm := ⟨[], [], [], []⟩
noncomputable def L_port_line_s1 {ρ : Type} (n : Nat) : LOrc ρ := lorcNil
omit [Tabs] [QuietD Tryz.prog] [UDef] [UTabs] in
theorem s_port_line_s1 {ρ : Type} (n : Nat) (rec : T_port_line_s1.den → Option ρ) kx kr s : dStep Tryz.prog 162 TT M_port_line (O_port_line n) (L_port_line_s1 n) (evDraw Tryz.prog 162 TT M_port_line (O_port_line n)) 1 (lbody 1000 C_port_line 0) T_port_line_s1 X_port_line_s1 R_port_line_s1 ⟨[], [], [(7, 1, 300281, 9, 1)]⟩ rec kx kr s = port_line_s1 n rec kx kr s := by kernel_rfl
noncomputable def L_port_line {ρ : Type} (n : Nat) : LOrc ρ := lorcCons 1 (loopL 162 1 n T_port_line_s1 X_port_line_s1 R_port_line_s1 ⟨[], [], [(7, 1, 300281, 9, 1)]⟩ (port_line_s1 n)) (lorcNil)
omit [Tabs] [QuietD Tryz.prog] [UDef] [UTabs] in
theorem e_port_line (n : Nat) (x) : evF Tryz.prog 162 TT M_port_line F_port_line (O_port_line n) (L_port_line n) (evDraw Tryz.prog 162 TT M_port_line (O_port_line n)) ⟨[], [], []⟩ [.tmp 4] C_port_line x = port_line n x := by kernel_rfl
theorem ok_port_line (n : Nat) : Contract Tryz.prog 21 F_port_line (port_line n) :=
  Contract.of_ev (c := C_port_line) (N := 162) Tryz.func21 (by kernel_rfl) (by kernel_rfl) (by kernel_rfl) (by kernel_rfl) (O_port_line_ok n) (evDraw_ok (O_port_line_ok n) (by kernel_rfl)) (.of (l := [(1, (lbody 1000 C_port_line 0))]) (by kernel_rfl) ⟨.head (loopL_sound (O_port_line_ok n) (evDraw_ok (O_port_line_ok n) (by kernel_rfl)) (.of (l := []) (by kernel_rfl) trivial) (s_port_line_s1 n)), trivial⟩) (e_port_line n)

noncomputable def F_q48z : FnT := ⟨1, ⟨[], [(0, .str)], [], []⟩, [.v .graph, .v .i64, .v .i64], []⟩
noncomputable def C_q48z : Code := bodyOf Tryz.f7
noncomputable def M_q48z : List (Nat × ArgM) := [(21, ⟨[0], [], [], false⟩), (20, ⟨[], [], [], true⟩), (9, ⟨[], [], [], true⟩)]
instance : DfOk M_q48z := .none rfl
noncomputable def O_q48z {ρ : Type} (n : Nat) : Orc ρ := orcCons 18 F_split (splitN) (orcCons 19 F_q51z (q51z n) (orcCons 20 F_q50z (q50z) (orcCons 21 F_port_line (port_line n) (orcCons 9 F_q39z (q39z n) (orcNil)))))
theorem O_q48z_ok {ρ : Type} (n : Nat) : (O_q48z n : Orc ρ).ok Tryz.prog := orcCons_ok (by kernel_rfl) (splitN_ok) (orcCons_ok (by kernel_rfl) (ok_q51z n) (orcCons_ok (by kernel_rfl) (ok_q50z) (orcCons_ok (by kernel_rfl) (ok_port_line n) (orcCons_ok (by kernel_rfl) (ok_q39z n) (orcNil_ok)))))
noncomputable def T_q48z_s0 : Tm := ⟨[(2, .ptr 2 0)], [(5, (.lst .str)), (17, (.lst .str)), (18, .i64), (19, .i64)], [(2, .box [.ref (.own 300080), .ref (.own 300081), .d .i64]), (300080, .arr 55 .node), (300081, .arr 57 .edg)], []⟩
noncomputable def X_q48z_s0 : Tm := ⟨[(2, .ptr 2 0)], [], [(2, .box [.ref (.own 300080), .ref (.own 300081), .d .i64]), (300080, .arr 55 .node), (300081, .arr 57 .edg)], []⟩
noncomputable def R_q48z_s0 : Tm := ⟨[(2, .ptr 2 0)], [(3, .i64), (4, .i64)], [(2, .box [.d .graph])], []⟩
noncomputable def L_q48z_s0 {ρ : Type} (n : Nat) : LOrc ρ := lorcNil
omit [Tabs] [QuietD Tryz.prog] [UDef] [UTabs] in
theorem s_q48z_s0 {ρ : Type} (n : Nat) (rec : T_q48z_s0.den → Option ρ) kx kr s : dStep Tryz.prog 72 TT M_q48z (O_q48z n) (L_q48z_s0 n) dorcNil 0 (lbody 1000 C_q48z 0) T_q48z_s0 X_q48z_s0 R_q48z_s0 ⟨[], [], [(2, 0, 300080, 55, 3), (2, 1, 300081, 57, 5)]⟩ rec kx kr s = q48z_s0 n rec kx kr s := by kernel_rfl
noncomputable def L_q48z {ρ : Type} (n : Nat) : LOrc ρ := lorcCons 0 (loopL 72 0 n T_q48z_s0 X_q48z_s0 R_q48z_s0 ⟨[], [], [(2, 0, 300080, 55, 3), (2, 1, 300081, 57, 5)]⟩ (q48z_s0 n)) (lorcNil)
omit [Tabs] [QuietD Tryz.prog] [UDef] [UTabs] in
theorem e_q48z (n : Nat) (x) : evF Tryz.prog 72 TT M_q48z F_q48z (O_q48z n) (L_q48z n) dorcNil ⟨[], [], []⟩ [.cell 2 25, .tmp 3, .tmp 4] C_q48z x = q48z n x := by kernel_rfl
theorem ok_q48z (n : Nat) : Contract Tryz.prog 7 F_q48z (q48z n) :=
  Contract.of_ev (c := C_q48z) (N := 72) Tryz.func7 (by kernel_rfl) (by kernel_rfl) (by kernel_rfl) (by kernel_rfl) (O_q48z_ok n) dorcNil_ok (.of (l := [(0, (lbody 1000 C_q48z 0))]) (by kernel_rfl) ⟨.head (loopL_sound (O_q48z_ok n) dorcNil_ok (.of (l := []) (by kernel_rfl) trivial) (s_q48z_s0 n)), trivial⟩) (e_q48z n)

noncomputable def F_q23z : FnT := ⟨0, ⟨[], [], [], []⟩, [.v .bool], []⟩
noncomputable def F_q26z : FnT := ⟨0, ⟨[], [], [], []⟩, [.v .graph], []⟩
noncomputable def F_q31z : FnT := ⟨1, ⟨[], [(0, .i64)], [], []⟩, [.v .val], []⟩
noncomputable def C_q31z : Code := bodyOf Tryz.f35
noncomputable def M_q31z : List (Nat × ArgM) := []
instance : DfOk M_q31z := .none rfl
noncomputable def O_q31z {ρ : Type} : Orc ρ := orcNil
omit [QuietD Tryz.prog] [UDef] [UTabs] in
theorem O_q31z_ok {ρ : Type} : (O_q31z : Orc ρ).ok Tryz.prog := orcNil_ok
noncomputable def L_q31z {ρ : Type} : LOrc ρ := lorcNil
omit [Tabs] [QuietD Tryz.prog] [UDef] [UTabs] in
theorem e_q31z (x) : evF Tryz.prog 5 TT M_q31z F_q31z (O_q31z) (L_q31z) dorcNil ⟨[], [], []⟩ [.cell 2 48] C_q31z x = q31z x := by kernel_rfl
omit [UDef] [UTabs] in
theorem ok_q31z : Contract Tryz.prog 35 F_q31z (q31z) :=
  Contract.of_ev (c := C_q31z) (N := 5) Tryz.func35 (by kernel_rfl) (by kernel_rfl) (by kernel_rfl) (by kernel_rfl) (O_q31z_ok) dorcNil_ok (.of (l := []) (by kernel_rfl) trivial) (e_q31z)

noncomputable def C_q26z : Code := bodyOf Tryz.f17
noncomputable def M_q26z : List (Nat × ArgM) := []
instance : DfOk M_q26z := .none rfl
noncomputable def O_q26z {ρ : Type} : Orc ρ := orcCons 35 F_q31z (q31z) (orcNil)
omit [UDef] [UTabs] in
theorem O_q26z_ok {ρ : Type} : (O_q26z : Orc ρ).ok Tryz.prog := orcCons_ok (by kernel_rfl) (ok_q31z) (orcNil_ok)
noncomputable def L_q26z {ρ : Type} : LOrc ρ := lorcNil
omit [Tabs] [QuietD Tryz.prog] [UDef] [UTabs] in
theorem e_q26z (x) : evF Tryz.prog 11 TT M_q26z F_q26z (O_q26z) (L_q26z) dorcNil ⟨[], [], []⟩ [.cell 0 25] C_q26z x = q26z x := by kernel_rfl
omit [UDef] [UTabs] in
theorem ok_q26z : Contract Tryz.prog 17 F_q26z (q26z) :=
  Contract.of_ev (c := C_q26z) (N := 11) Tryz.func17 (by kernel_rfl) (by kernel_rfl) (by kernel_rfl) (by kernel_rfl) (O_q26z_ok) dorcNil_ok (.of (l := []) (by kernel_rfl) trivial) (e_q26z)

noncomputable def F_q14z : FnT := ⟨2, ⟨[], [(0, .graph), (1, .graph)], [], []⟩, [.v .bool], []⟩
noncomputable def F_q2z : FnT := ⟨3, ⟨[(2, .fn 23)], [(0, (.lst .node)), (1, (.lst .node))], [], []⟩, [.v .bool], []⟩
noncomputable def F_q19z : FnT := ⟨2, ⟨[], [(0, .node), (1, .node)], [], []⟩, [.v .bool], []⟩
noncomputable def F_q10z : FnT := ⟨2, ⟨[], [(0, (.lst .str)), (1, (.lst .str))], [], []⟩, [.v .bool], []⟩
noncomputable def C_q10z : Code := bodyOf Tryz.f40
noncomputable def M_q10z : List (Nat × ArgM) := []
instance : DfOk M_q10z := .none rfl
noncomputable def O_q10z {ρ : Type} (n : Nat) : Orc ρ := orcNil
omit [QuietD Tryz.prog] [UDef] [UTabs] in
theorem O_q10z_ok {ρ : Type} (n : Nat) : (O_q10z n : Orc ρ).ok Tryz.prog := orcNil_ok
noncomputable def T_q10z_s0 : Tm := ⟨[], [(0, (.lst .str)), (1, (.lst .str)), (12, .i64), (13, .i64)], [], []⟩
noncomputable def X_q10z_s0 : Tm := ⟨[], [], [], []⟩
noncomputable def R_q10z_s0 : Tm := ⟨[], [(4, .bool)], [], []⟩
noncomputable def L_q10z_s0 {ρ : Type} (n : Nat) : LOrc ρ := lorcNil
omit [Tabs] [QuietD Tryz.prog] [UDef] [UTabs] in
theorem s_q10z_s0 {ρ : Type} (n : Nat) (rec : T_q10z_s0.den → Option ρ) kx kr s : dStep Tryz.prog 26 TT M_q10z (O_q10z n) (L_q10z_s0 n) (evDraw Tryz.prog 26 TT M_q10z (O_q10z n)) 0 (lbody 1000 C_q10z 0) T_q10z_s0 X_q10z_s0 R_q10z_s0 ⟨[], [], []⟩ rec kx kr s = q10z_s0 n rec kx kr s := by kernel_rfl
noncomputable def L_q10z {ρ : Type} (n : Nat) : LOrc ρ := lorcCons 0 (loopL 26 0 n T_q10z_s0 X_q10z_s0 R_q10z_s0 ⟨[], [], []⟩ (q10z_s0 n)) (lorcNil)
omit [Tabs] [QuietD Tryz.prog] [UDef] [UTabs] in
theorem e_q10z (n : Nat) (x) : evF Tryz.prog 26 TT M_q10z F_q10z (O_q10z n) (L_q10z n) (evDraw Tryz.prog 26 TT M_q10z (O_q10z n)) ⟨[], [], []⟩ [.tmp 4] C_q10z x = q10z n x := by kernel_rfl
omit [UDef] [UTabs] in
theorem ok_q10z (n : Nat) : Contract Tryz.prog 40 F_q10z (q10z n) :=
  Contract.of_ev (c := C_q10z) (N := 26) Tryz.func40 (by kernel_rfl) (by kernel_rfl) (by kernel_rfl) (by kernel_rfl) (O_q10z_ok n) (evDraw_ok (O_q10z_ok n) (by kernel_rfl)) (.of (l := [(0, (lbody 1000 C_q10z 0))]) (by kernel_rfl) ⟨.head (loopL_sound (O_q10z_ok n) (evDraw_ok (O_q10z_ok n) (by kernel_rfl)) (.of (l := []) (by kernel_rfl) trivial) (s_q10z_s0 n)), trivial⟩) (e_q10z n)

noncomputable def F_q15z : FnT := ⟨2, ⟨[], [(0, (.lst .prp)), (1, (.lst .prp))], [], []⟩, [.v .bool], []⟩
noncomputable def F_q0z : FnT := ⟨3, ⟨[(2, .fn 60)], [(0, (.lst .prp)), (1, (.lst .prp))], [], []⟩, [.v .bool], []⟩
noncomputable def F_q11z : FnT := ⟨2, ⟨[], [(0, .prp), (1, .prp)], [], []⟩, [.v .bool], []⟩
noncomputable def F_q16z : FnT := ⟨2, ⟨[], [(0, .val), (1, .val)], [], []⟩, [.v .bool], []⟩
noncomputable def F_q21z : FnT := ⟨2, ⟨[], [(0, .val), (1, .val)], [], []⟩, [.v .i64], []⟩
noncomputable def F_q33z : FnT := ⟨2, ⟨[], [(0, (.lst .u8)), (1, (.lst .u8))], [], []⟩, [.v .i64], []⟩
noncomputable def C_q33z : Code := bodyOf Tryz.f101
noncomputable def M_q33z : List (Nat × ArgM) := []
instance : DfOk M_q33z := .none rfl
noncomputable def O_q33z {ρ : Type} : Orc ρ := orcCons 108 T_cmpB (cmpN) (orcNil)
omit [QuietD Tryz.prog] [UDef] [UTabs] in
theorem O_q33z_ok {ρ : Type} : (O_q33z : Orc ρ).ok Tryz.prog := orcExt_ok (by kernel_rfl) (cmp_ok) (orcNil_ok)
noncomputable def L_q33z {ρ : Type} : LOrc ρ := lorcNil
omit [Tabs] [QuietD Tryz.prog] [UDef] [UTabs] in
theorem e_q33z (x) : evF Tryz.prog 8 TT M_q33z F_q33z (O_q33z) (L_q33z) dorcNil ⟨[], [], []⟩ [.tmp 4] C_q33z x = q33z x := by kernel_rfl
omit [UDef] [UTabs] in
theorem ok_q33z : Contract Tryz.prog 101 F_q33z (q33z) :=
  Contract.of_ev (c := C_q33z) (N := 8) Tryz.func101 (by kernel_rfl) (by kernel_rfl) (by kernel_rfl) (by kernel_rfl) (O_q33z_ok) dorcNil_ok (.of (l := []) (by kernel_rfl) trivial) (e_q33z)

noncomputable def C_q21z : Code := bodyOf Tryz.f82
noncomputable def M_q21z : List (Nat × ArgM) := [(101, ⟨[], [], [], true⟩), (82, ⟨[], [], [], true⟩)]
instance : DfOk M_q21z := .none rfl
noncomputable def O_q21z {ρ : Type} (self_q21z : Ev.Val × Ev.Val × Unit → Option (Int × Unit)) (n : Nat) : Orc ρ := orcCons 101 F_q33z (q33z) (orcCons 82 F_q21z (self_q21z) (orcNil))
omit [UDef] [UTabs] in
theorem O_q21z_ok {ρ : Type} (self_q21z : Ev.Val × Ev.Val × Unit → Option (Int × Unit)) (h_q21z : Contract Tryz.prog 82 F_q21z self_q21z) (n : Nat) : (O_q21z self_q21z n : Orc ρ).ok Tryz.prog := orcCons_ok (by kernel_rfl) (ok_q33z) (orcCons_ok (by kernel_rfl) (h_q21z) (orcNil_ok))
noncomputable def T_q21z_s1 : Tm := ⟨[(2, .ptr 2 0), (3, .ptr 3 0)], [(5, .i64)], [(2, .box [.d .val]), (3, .box [.d .val])], []⟩
noncomputable def X_q21z_s1 : Tm := ⟨[(2, .ptr 2 0), (3, .ptr 3 0)], [], [(2, .box [.d .val]), (3, .box [.d .val])], []⟩
noncomputable def R_q21z_s1 : Tm := ⟨[], [(4, .i64)], [], []⟩
noncomputable def L_q21z_s1 {ρ : Type} (self_q21z : Ev.Val × Ev.Val × Unit → Option (Int × Unit)) (n : Nat) : LOrc ρ := lorcNil
omit [Tabs] [QuietD Tryz.prog] [UDef] [UTabs] in
theorem s_q21z_s1 {ρ : Type} (self_q21z : Ev.Val × Ev.Val × Unit → Option (Int × Unit)) (n : Nat) (rec : T_q21z_s1.den → Option ρ) kx kr s : dStep Tryz.prog 88 TT M_q21z (O_q21z self_q21z n) (L_q21z_s1 self_q21z n) (evDraw Tryz.prog 88 TT M_q21z (O_q21z self_q21z n)) 1 (lbody 1000 C_q21z 0) T_q21z_s1 X_q21z_s1 R_q21z_s1 ⟨[], [], []⟩ rec kx kr s = q21z_s1 self_q21z n rec kx kr s := by kernel_rfl
noncomputable def L_q21z {ρ : Type} (self_q21z : Ev.Val × Ev.Val × Unit → Option (Int × Unit)) (n : Nat) : LOrc ρ := lorcCons 1 (loopL 88 1 n T_q21z_s1 X_q21z_s1 R_q21z_s1 ⟨[], [], []⟩ (q21z_s1 self_q21z n)) (lorcNil)
omit [Tabs] [QuietD Tryz.prog] [UDef] [UTabs] in
theorem e_q21z (self_q21z : Ev.Val × Ev.Val × Unit → Option (Int × Unit)) (n : Nat) (x) : evF Tryz.prog 88 TT M_q21z F_q21z (O_q21z self_q21z n) (L_q21z self_q21z n) (evDraw Tryz.prog 88 TT M_q21z (O_q21z self_q21z n)) ⟨[], [], []⟩ [.tmp 4] C_q21z x = q21z_b self_q21z n x := by kernel_rfl
omit [UDef] [UTabs] in
theorem okb_q21z (self_q21z : Ev.Val × Ev.Val × Unit → Option (Int × Unit)) (h_q21z : Contract Tryz.prog 82 F_q21z self_q21z) (n : Nat) : Contract Tryz.prog 82 F_q21z (q21z_b self_q21z n) :=
  Contract.of_ev (c := C_q21z) (N := 88) Tryz.func82 (by kernel_rfl) (by kernel_rfl) (by kernel_rfl) (by kernel_rfl) (O_q21z_ok self_q21z h_q21z n) (evDraw_ok (O_q21z_ok self_q21z h_q21z n) (by kernel_rfl)) (.of (l := [(1, (lbody 1000 C_q21z 0))]) (by kernel_rfl) ⟨.head (loopL_sound (O_q21z_ok self_q21z h_q21z n) (evDraw_ok (O_q21z_ok self_q21z h_q21z n) (by kernel_rfl)) (.of (l := []) (by kernel_rfl) trivial) (s_q21z_s1 self_q21z n)), trivial⟩) (e_q21z self_q21z n)
omit [UDef] [UTabs] in
theorem ok_q21z : ∀ n, Contract Tryz.prog 82 F_q21z (q21z n)
  | 0 => fun _ _ h => by cases h
  | n + 1 => okb_q21z _ (ok_q21z n) n

noncomputable def C_q16z : Code := bodyOf Tryz.f61
noncomputable def M_q16z : List (Nat × ArgM) := [(82, ⟨[], [], [], true⟩)]
instance : DfOk M_q16z := .none rfl
noncomputable def O_q16z {ρ : Type} (n : Nat) : Orc ρ := orcCons 82 F_q21z (q21z n) (orcNil)
omit [UDef] [UTabs] in
theorem O_q16z_ok {ρ : Type} (n : Nat) : (O_q16z n : Orc ρ).ok Tryz.prog := orcCons_ok (by kernel_rfl) (ok_q21z n) (orcNil_ok)
noncomputable def L_q16z {ρ : Type} (n : Nat) : LOrc ρ := lorcNil
omit [Tabs] [QuietD Tryz.prog] [UDef] [UTabs] in
theorem e_q16z (n : Nat) (x) : evF Tryz.prog 9 TT M_q16z F_q16z (O_q16z n) (L_q16z n) dorcNil ⟨[], [], []⟩ [.tmp 4] C_q16z x = q16z n x := by kernel_rfl
omit [UDef] [UTabs] in
theorem ok_q16z (n : Nat) : Contract Tryz.prog 61 F_q16z (q16z n) :=
  Contract.of_ev (c := C_q16z) (N := 9) Tryz.func61 (by kernel_rfl) (by kernel_rfl) (by kernel_rfl) (by kernel_rfl) (O_q16z_ok n) dorcNil_ok (.of (l := []) (by kernel_rfl) trivial) (e_q16z n)

noncomputable def C_q11z : Code := bodyOf Tryz.f60
noncomputable def M_q11z : List (Nat × ArgM) := [(61, ⟨[], [], [], true⟩)]
instance : DfOk M_q11z := .none rfl
noncomputable def O_q11z {ρ : Type} (n : Nat) : Orc ρ := orcCons 61 F_q16z (q16z n) (orcNil)
omit [UDef] [UTabs] in
theorem O_q11z_ok {ρ : Type} (n : Nat) : (O_q11z n : Orc ρ).ok Tryz.prog := orcCons_ok (by kernel_rfl) (ok_q16z n) (orcNil_ok)
noncomputable def L_q11z {ρ : Type} (n : Nat) : LOrc ρ := lorcNil
omit [Tabs] [QuietD Tryz.prog] [UDef] [UTabs] in
theorem e_q11z (n : Nat) (x) : evF Tryz.prog 17 TT M_q11z F_q11z (O_q11z n) (L_q11z n) dorcNil ⟨[], [], []⟩ [.tmp 4] C_q11z x = q11z n x := by kernel_rfl
omit [UDef] [UTabs] in
theorem ok_q11z (n : Nat) : Contract Tryz.prog 60 F_q11z (q11z n) :=
  Contract.of_ev (c := C_q11z) (N := 17) Tryz.func60 (by kernel_rfl) (by kernel_rfl) (by kernel_rfl) (by kernel_rfl) (O_q11z_ok n) dorcNil_ok (.of (l := []) (by kernel_rfl) trivial) (e_q11z n)

noncomputable def C_q0z : Code := bodyOf Tryz.f59
noncomputable def M_q0z : List (Nat × ArgM) := [(60, ⟨[], [], [], true⟩)]
instance : DfOk M_q0z := .none rfl
noncomputable def O_q0z {ρ : Type} (n : Nat) : Orc ρ := orcCons 60 F_q11z (q11z n) (orcNil)
omit [UDef] [UTabs] in
theorem O_q0z_ok {ρ : Type} (n : Nat) : (O_q0z n : Orc ρ).ok Tryz.prog := orcCons_ok (by kernel_rfl) (ok_q11z n) (orcNil_ok)
noncomputable def T_q0z_s0 : Tm := ⟨[(2, .fn 60)], [(1, (.lst .prp)), (15, (.lst .prp)), (16, .i64), (17, .i64)], [], []⟩
noncomputable def X_q0z_s0 : Tm := ⟨[], [], [], []⟩
noncomputable def R_q0z_s0 : Tm := ⟨[], [(6, .bool)], [], []⟩
noncomputable def L_q0z_s0 {ρ : Type} (n : Nat) : LOrc ρ := lorcNil
omit [Tabs] [QuietD Tryz.prog] [UDef] [UTabs] in
theorem s_q0z_s0 {ρ : Type} (n : Nat) (rec : T_q0z_s0.den → Option ρ) kx kr s : dStep Tryz.prog 32 TT M_q0z (O_q0z n) (L_q0z_s0 n) dorcNil 0 (lbody 1000 C_q0z 0) T_q0z_s0 X_q0z_s0 R_q0z_s0 ⟨[], [], []⟩ rec kx kr s = q0z_s0 n rec kx kr s := by kernel_rfl
noncomputable def L_q0z {ρ : Type} (n : Nat) : LOrc ρ := lorcCons 0 (loopL 32 0 n T_q0z_s0 X_q0z_s0 R_q0z_s0 ⟨[], [], []⟩ (q0z_s0 n)) (lorcNil)
omit [Tabs] [QuietD Tryz.prog] [UDef] [UTabs] in
theorem e_q0z (n : Nat) (x) : evF Tryz.prog 32 TT M_q0z F_q0z (O_q0z n) (L_q0z n) dorcNil ⟨[], [], []⟩ [.tmp 6] C_q0z x = q0z n x := by kernel_rfl
omit [UDef] [UTabs] in
theorem ok_q0z (n : Nat) : Contract Tryz.prog 59 F_q0z (q0z n) :=
  Contract.of_ev (c := C_q0z) (N := 32) Tryz.func59 (by kernel_rfl) (by kernel_rfl) (by kernel_rfl) (by kernel_rfl) (O_q0z_ok n) dorcNil_ok (.of (l := [(0, (lbody 1000 C_q0z 0))]) (by kernel_rfl) ⟨.head (loopL_sound (O_q0z_ok n) dorcNil_ok (.of (l := []) (by kernel_rfl) trivial) (s_q0z_s0 n)), trivial⟩) (e_q0z n)

noncomputable def C_q15z : Code := bodyOf Tryz.f41
noncomputable def M_q15z : List (Nat × ArgM) := [(59, ⟨[], [], [], true⟩)]
instance : DfOk M_q15z := .none rfl
noncomputable def O_q15z {ρ : Type} (n : Nat) : Orc ρ := orcCons 59 F_q0z (q0z n) (orcNil)
omit [UDef] [UTabs] in
theorem O_q15z_ok {ρ : Type} (n : Nat) : (O_q15z n : Orc ρ).ok Tryz.prog := orcCons_ok (by kernel_rfl) (ok_q0z n) (orcNil_ok)
noncomputable def L_q15z {ρ : Type} (n : Nat) : LOrc ρ := lorcNil
omit [Tabs] [QuietD Tryz.prog] [UDef] [UTabs] in
theorem e_q15z (n : Nat) (x) : evF Tryz.prog 8 TT M_q15z F_q15z (O_q15z n) (L_q15z n) dorcNil ⟨[], [], []⟩ [.tmp 4] C_q15z x = q15z n x := by kernel_rfl
omit [UDef] [UTabs] in
theorem ok_q15z (n : Nat) : Contract Tryz.prog 41 F_q15z (q15z n) :=
  Contract.of_ev (c := C_q15z) (N := 8) Tryz.func41 (by kernel_rfl) (by kernel_rfl) (by kernel_rfl) (by kernel_rfl) (O_q15z_ok n) dorcNil_ok (.of (l := []) (by kernel_rfl) trivial) (e_q15z n)

noncomputable def C_q19z : Code := bodyOf Tryz.f23
noncomputable def M_q19z : List (Nat × ArgM) := [(40, ⟨[], [], [], true⟩), (41, ⟨[], [], [], true⟩)]
instance : DfOk M_q19z := .none rfl
noncomputable def O_q19z {ρ : Type} (n : Nat) : Orc ρ := orcCons 40 F_q10z (q10z n) (orcCons 41 F_q15z (q15z n) (orcNil))
omit [UDef] [UTabs] in
theorem O_q19z_ok {ρ : Type} (n : Nat) : (O_q19z n : Orc ρ).ok Tryz.prog := orcCons_ok (by kernel_rfl) (ok_q10z n) (orcCons_ok (by kernel_rfl) (ok_q15z n) (orcNil_ok))
noncomputable def L_q19z {ρ : Type} (n : Nat) : LOrc ρ := lorcNil
omit [Tabs] [QuietD Tryz.prog] [UDef] [UTabs] in
theorem e_q19z (n : Nat) (x) : evF Tryz.prog 24 TT M_q19z F_q19z (O_q19z n) (L_q19z n) dorcNil ⟨[], [], []⟩ [.tmp 4] C_q19z x = q19z n x := by kernel_rfl
omit [UDef] [UTabs] in
theorem ok_q19z (n : Nat) : Contract Tryz.prog 23 F_q19z (q19z n) :=
  Contract.of_ev (c := C_q19z) (N := 24) Tryz.func23 (by kernel_rfl) (by kernel_rfl) (by kernel_rfl) (by kernel_rfl) (O_q19z_ok n) dorcNil_ok (.of (l := []) (by kernel_rfl) trivial) (e_q19z n)

noncomputable def C_q2z : Code := bodyOf Tryz.f22
noncomputable def M_q2z : List (Nat × ArgM) := [(23, ⟨[], [], [], true⟩)]
instance : DfOk M_q2z := .none rfl
noncomputable def O_q2z {ρ : Type} (n : Nat) : Orc ρ := orcCons 23 F_q19z (q19z n) (orcNil)
omit [UDef] [UTabs] in
theorem O_q2z_ok {ρ : Type} (n : Nat) : (O_q2z n : Orc ρ).ok Tryz.prog := orcCons_ok (by kernel_rfl) (ok_q19z n) (orcNil_ok)
noncomputable def T_q2z_s0 : Tm := ⟨[(2, .fn 23)], [(1, (.lst .node)), (15, (.lst .node)), (16, .i64), (17, .i64)], [], []⟩
noncomputable def X_q2z_s0 : Tm := ⟨[], [], [], []⟩
noncomputable def R_q2z_s0 : Tm := ⟨[], [(6, .bool)], [], []⟩
noncomputable def L_q2z_s0 {ρ : Type} (n : Nat) : LOrc ρ := lorcNil
omit [Tabs] [QuietD Tryz.prog] [UDef] [UTabs] in
theorem s_q2z_s0 {ρ : Type} (n : Nat) (rec : T_q2z_s0.den → Option ρ) kx kr s : dStep Tryz.prog 32 TT M_q2z (O_q2z n) (L_q2z_s0 n) dorcNil 0 (lbody 1000 C_q2z 0) T_q2z_s0 X_q2z_s0 R_q2z_s0 ⟨[], [], []⟩ rec kx kr s = q2z_s0 n rec kx kr s := by kernel_rfl
noncomputable def L_q2z {ρ : Type} (n : Nat) : LOrc ρ := lorcCons 0 (loopL 32 0 n T_q2z_s0 X_q2z_s0 R_q2z_s0 ⟨[], [], []⟩ (q2z_s0 n)) (lorcNil)
omit [Tabs] [QuietD Tryz.prog] [UDef] [UTabs] in
theorem e_q2z (n : Nat) (x) : evF Tryz.prog 32 TT M_q2z F_q2z (O_q2z n) (L_q2z n) dorcNil ⟨[], [], []⟩ [.tmp 6] C_q2z x = q2z n x := by kernel_rfl
omit [UDef] [UTabs] in
theorem ok_q2z (n : Nat) : Contract Tryz.prog 22 F_q2z (q2z n) :=
  Contract.of_ev (c := C_q2z) (N := 32) Tryz.func22 (by kernel_rfl) (by kernel_rfl) (by kernel_rfl) (by kernel_rfl) (O_q2z_ok n) dorcNil_ok (.of (l := [(0, (lbody 1000 C_q2z 0))]) (by kernel_rfl) ⟨.head (loopL_sound (O_q2z_ok n) dorcNil_ok (.of (l := []) (by kernel_rfl) trivial) (s_q2z_s0 n)), trivial⟩) (e_q2z n)

noncomputable def F_q1z : FnT := ⟨3, ⟨[(2, .fn 25)], [(0, (.lst .edg)), (1, (.lst .edg))], [], []⟩, [.v .bool], []⟩
noncomputable def F_q18z : FnT := ⟨2, ⟨[], [(0, .edg), (1, .edg)], [], []⟩, [.v .bool], []⟩
noncomputable def C_q18z : Code := bodyOf Tryz.f25
noncomputable def M_q18z : List (Nat × ArgM) := [(41, ⟨[], [], [], true⟩)]
instance : DfOk M_q18z := .none rfl
noncomputable def O_q18z {ρ : Type} (n : Nat) : Orc ρ := orcCons 41 F_q15z (q15z n) (orcNil)
omit [UDef] [UTabs] in
theorem O_q18z_ok {ρ : Type} (n : Nat) : (O_q18z n : Orc ρ).ok Tryz.prog := orcCons_ok (by kernel_rfl) (ok_q15z n) (orcNil_ok)
noncomputable def L_q18z {ρ : Type} (n : Nat) : LOrc ρ := lorcNil
omit [Tabs] [QuietD Tryz.prog] [UDef] [UTabs] in
theorem e_q18z (n : Nat) (x) : evF Tryz.prog 38 TT M_q18z F_q18z (O_q18z n) (L_q18z n) dorcNil ⟨[], [], []⟩ [.tmp 4] C_q18z x = q18z n x := by kernel_rfl
omit [UDef] [UTabs] in
theorem ok_q18z (n : Nat) : Contract Tryz.prog 25 F_q18z (q18z n) :=
  Contract.of_ev (c := C_q18z) (N := 38) Tryz.func25 (by kernel_rfl) (by kernel_rfl) (by kernel_rfl) (by kernel_rfl) (O_q18z_ok n) dorcNil_ok (.of (l := []) (by kernel_rfl) trivial) (e_q18z n)

noncomputable def C_q1z : Code := bodyOf Tryz.f24
noncomputable def M_q1z : List (Nat × ArgM) := [(25, ⟨[], [], [], true⟩)]
instance : DfOk M_q1z := .none rfl
noncomputable def O_q1z {ρ : Type} (n : Nat) : Orc ρ := orcCons 25 F_q18z (q18z n) (orcNil)
omit [UDef] [UTabs] in
theorem O_q1z_ok {ρ : Type} (n : Nat) : (O_q1z n : Orc ρ).ok Tryz.prog := orcCons_ok (by kernel_rfl) (ok_q18z n) (orcNil_ok)
noncomputable def T_q1z_s0 : Tm := ⟨[(2, .fn 25)], [(1, (.lst .edg)), (15, (.lst .edg)), (16, .i64), (17, .i64)], [], []⟩
noncomputable def X_q1z_s0 : Tm := ⟨[], [], [], []⟩
noncomputable def R_q1z_s0 : Tm := ⟨[], [(6, .bool)], [], []⟩
noncomputable def L_q1z_s0 {ρ : Type} (n : Nat) : LOrc ρ := lorcNil
omit [Tabs] [QuietD Tryz.prog] [UDef] [UTabs] in
theorem s_q1z_s0 {ρ : Type} (n : Nat) (rec : T_q1z_s0.den → Option ρ) kx kr s : dStep Tryz.prog 32 TT M_q1z (O_q1z n) (L_q1z_s0 n) dorcNil 0 (lbody 1000 C_q1z 0) T_q1z_s0 X_q1z_s0 R_q1z_s0 ⟨[], [], []⟩ rec kx kr s = q1z_s0 n rec kx kr s := by kernel_rfl
noncomputable def L_q1z {ρ : Type} (n : Nat) : LOrc ρ := lorcCons 0 (loopL 32 0 n T_q1z_s0 X_q1z_s0 R_q1z_s0 ⟨[], [], []⟩ (q1z_s0 n)) (lorcNil)
omit [Tabs] [QuietD Tryz.prog] [UDef] [UTabs] in
theorem e_q1z (n : Nat) (x) : evF Tryz.prog 32 TT M_q1z F_q1z (O_q1z n) (L_q1z n) dorcNil ⟨[], [], []⟩ [.tmp 6] C_q1z x = q1z n x := by kernel_rfl
omit [UDef] [UTabs] in
theorem ok_q1z (n : Nat) : Contract Tryz.prog 24 F_q1z (q1z n) :=
  Contract.of_ev (c := C_q1z) (N := 32) Tryz.func24 (by kernel_rfl) (by kernel_rfl) (by kernel_rfl) (by kernel_rfl) (O_q1z_ok n) dorcNil_ok (.of (l := [(0, (lbody 1000 C_q1z 0))]) (by kernel_rfl) ⟨.head (loopL_sound (O_q1z_ok n) dorcNil_ok (.of (l := []) (by kernel_rfl) trivial) (s_q1z_s0 n)), trivial⟩) (e_q1z n)

noncomputable def C_q14z : Code := bodyOf Tryz.f8
noncomputable def M_q14z : List (Nat × ArgM) := [(22, ⟨[], [], [], true⟩), (24, ⟨[], [], [], true⟩)]
instance : DfOk M_q14z := .none rfl
noncomputable def O_q14z {ρ : Type} (n : Nat) : Orc ρ := orcCons 22 F_q2z (q2z n) (orcCons 24 F_q1z (q1z n) (orcNil))
omit [UDef] [UTabs] in
theorem O_q14z_ok {ρ : Type} (n : Nat) : (O_q14z n : Orc ρ).ok Tryz.prog := orcCons_ok (by kernel_rfl) (ok_q2z n) (orcCons_ok (by kernel_rfl) (ok_q1z n) (orcNil_ok))
noncomputable def L_q14z {ρ : Type} (n : Nat) : LOrc ρ := lorcNil
omit [Tabs] [QuietD Tryz.prog] [UDef] [UTabs] in
theorem e_q14z (n : Nat) (x) : evF Tryz.prog 24 TT M_q14z F_q14z (O_q14z n) (L_q14z n) dorcNil ⟨[], [], []⟩ [.tmp 4] C_q14z x = q14z n x := by kernel_rfl
omit [UDef] [UTabs] in
theorem ok_q14z (n : Nat) : Contract Tryz.prog 8 F_q14z (q14z n) :=
  Contract.of_ev (c := C_q14z) (N := 24) Tryz.func8 (by kernel_rfl) (by kernel_rfl) (by kernel_rfl) (by kernel_rfl) (O_q14z_ok n) dorcNil_ok (.of (l := []) (by kernel_rfl) trivial) (e_q14z n)

noncomputable def C_q23z : Code := bodyOf Tryz.f6
noncomputable def M_q23z : List (Nat × ArgM) := [(5, ⟨[], [], [], true⟩), (8, ⟨[], [], [], true⟩)]
instance : DfOk M_q23z := .none rfl
noncomputable def O_q23z {ρ : Type} (n : Nat) : Orc ρ := orcCons 17 F_q26z (q26z) (orcCons 5 F_q49z (q49z n) (orcCons 7 F_q48z (q48z n) (orcCons 8 F_q14z (q14z n) (orcNil))))
theorem O_q23z_ok {ρ : Type} (n : Nat) : (O_q23z n : Orc ρ).ok Tryz.prog := orcCons_ok (by kernel_rfl) (ok_q26z) (orcCons_ok (by kernel_rfl) (ok_q49z n) (orcCons_ok (by kernel_rfl) (ok_q48z n) (orcCons_ok (by kernel_rfl) (ok_q14z n) (orcNil_ok))))
noncomputable def L_q23z {ρ : Type} (n : Nat) : LOrc ρ := lorcNil
omit [Tabs] [QuietD Tryz.prog] [UDef] [UTabs] in
theorem e_q23z (n : Nat) (x) : evF Tryz.prog 36 TT M_q23z F_q23z (O_q23z n) (L_q23z n) (evDraw Tryz.prog 36 TT M_q23z (O_q23z n)) ⟨[], [], []⟩ [.tmp 0] C_q23z x = q23z n x := by kernel_rfl
theorem ok_q23z (n : Nat) : Contract Tryz.prog 6 F_q23z (q23z n) :=
  Contract.of_ev (c := C_q23z) (N := 36) Tryz.func6 (by kernel_rfl) (by kernel_rfl) (by kernel_rfl) (by kernel_rfl) (O_q23z_ok n) (evDraw_ok (O_q23z_ok n) (by kernel_rfl)) (.of (l := []) (by kernel_rfl) trivial) (e_q23z n)

noncomputable def F_q13z : FnT := ⟨1, ⟨[], [(0, .graph)], [], []⟩, [.v .bool], []⟩
noncomputable def C_q13z : Code := bodyOf Tryz.f4
noncomputable def M_q13z : List (Nat × ArgM) := [(5, ⟨[], [], [], true⟩), (6, ⟨[], [], [], true⟩)]
instance : DfOk M_q13z := .none rfl
noncomputable def O_q13z {ρ : Type} (n : Nat) : Orc ρ := orcCons 5 F_q49z (q49z n) (orcCons 6 F_q23z (q23z n) (orcNil))
theorem O_q13z_ok {ρ : Type} (n : Nat) : (O_q13z n : Orc ρ).ok Tryz.prog := orcCons_ok (by kernel_rfl) (ok_q49z n) (orcCons_ok (by kernel_rfl) (ok_q23z n) (orcNil_ok))
noncomputable def T_q13z_s0 : Tm := ⟨[(1, .ptr 1 0)], [(3, .str), (5, .i64), (20, .i64), (21, .i64)], [(1, .box [.d .graph])], []⟩
noncomputable def X_q13z_s0 : Tm := ⟨[(1, .ptr 1 0)], [(5, .i64)], [(1, .box [.d .graph])], []⟩
noncomputable def R_q13z_s0 : Tm := ⟨[], [], [], []⟩
noncomputable def L_q13z_s0 {ρ : Type} (n : Nat) : LOrc ρ := lorcNil
omit [Tabs] [QuietD Tryz.prog] [UDef] [UTabs] in
theorem s_q13z_s0 {ρ : Type} (n : Nat) (rec : T_q13z_s0.den → Option ρ) kx kr s : dStep Tryz.prog 41 TT M_q13z (O_q13z n) (L_q13z_s0 n) dorcNil 0 (lbody 1000 C_q13z 0) T_q13z_s0 X_q13z_s0 R_q13z_s0 ⟨[], [], []⟩ rec kx kr s = q13z_s0 n rec kx kr s := by kernel_rfl
noncomputable def L_q13z {ρ : Type} (n : Nat) : LOrc ρ := lorcCons 0 (loopL 41 0 n T_q13z_s0 X_q13z_s0 R_q13z_s0 ⟨[], [], []⟩ (q13z_s0 n)) (lorcNil)
omit [Tabs] [QuietD Tryz.prog] [UDef] [UTabs] in
theorem e_q13z (n : Nat) (x) : evF Tryz.prog 41 TT M_q13z F_q13z (O_q13z n) (L_q13z n) dorcNil ⟨[], [], []⟩ [.tmp 2] C_q13z x = q13z n x := by kernel_rfl
theorem ok_q13z (n : Nat) : Contract Tryz.prog 4 F_q13z (q13z n) :=
  Contract.of_ev (c := C_q13z) (N := 41) Tryz.func4 (by kernel_rfl) (by kernel_rfl) (by kernel_rfl) (by kernel_rfl) (O_q13z_ok n) dorcNil_ok (.of (l := [(0, (lbody 1000 C_q13z 0))]) (by kernel_rfl) ⟨.head (loopL_sound (O_q13z_ok n) dorcNil_ok (.of (l := []) (by kernel_rfl) trivial) (s_q13z_s0 n)), trivial⟩) (e_q13z n)

noncomputable def F_q17z : FnT := ⟨1, ⟨[], [(0, .graph)], [], []⟩, [.v .bool], []⟩
noncomputable def C_q17z : Code := bodyOf Tryz.f3
noncomputable def M_q17z : List (Nat × ArgM) := [(5, ⟨[], [], [], true⟩), (6, ⟨[], [], [], true⟩), (8, ⟨[], [], [], true⟩)]
instance : DfOk M_q17z := .none rfl
noncomputable def O_q17z {ρ : Type} (n : Nat) : Orc ρ := orcCons 5 F_q49z (q49z n) (orcCons 6 F_q23z (q23z n) (orcCons 7 F_q48z (q48z n) (orcCons 8 F_q14z (q14z n) (orcNil))))
theorem O_q17z_ok {ρ : Type} (n : Nat) : (O_q17z n : Orc ρ).ok Tryz.prog := orcCons_ok (by kernel_rfl) (ok_q49z n) (orcCons_ok (by kernel_rfl) (ok_q23z n) (orcCons_ok (by kernel_rfl) (ok_q48z n) (orcCons_ok (by kernel_rfl) (ok_q14z n) (orcNil_ok))))
noncomputable def L_q17z {ρ : Type} (n : Nat) : LOrc ρ := lorcNil
omit [Tabs] [QuietD Tryz.prog] [UDef] [UTabs] in
theorem e_q17z (n : Nat) (x) : evF Tryz.prog 36 TT M_q17z F_q17z (O_q17z n) (L_q17z n) dorcNil ⟨[], [], []⟩ [.tmp 2] C_q17z x = q17z n x := by kernel_rfl
theorem ok_q17z (n : Nat) : Contract Tryz.prog 3 F_q17z (q17z n) :=
  Contract.of_ev (c := C_q17z) (N := 36) Tryz.func3 (by kernel_rfl) (by kernel_rfl) (by kernel_rfl) (by kernel_rfl) (O_q17z_ok n) dorcNil_ok (.of (l := []) (by kernel_rfl) trivial) (e_q17z n)

end Go.Proofs.YtbimcdakgbdiiaaGreatDoor

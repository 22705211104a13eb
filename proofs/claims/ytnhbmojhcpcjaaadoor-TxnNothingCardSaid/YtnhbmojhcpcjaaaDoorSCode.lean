/- Each of these functions computes what its plain function computes (written by gen.py). -/
import Derived.Test.YtnhbmojhcpcjaaaDoorSBase
import Derived.KernelRfl
import Derived.Test.YtnhbmojhcpcjaaaDoorEvDraw
import Derived.Test.YtnhbmojhcpcjaaaDoorPCode
namespace Go.Proofs.YtnhbmojhcpcjaaaDoor
open Go Esp Ev Pure
set_option linter.unusedSimpArgs false
set_option linter.unusedVariables false
set_option maxRecDepth 100000
set_option maxHeartbeats 1000000
def okds : List FuncId := []
theorem quiets : ∀ g ∈ okds, ∀ (args : Array Value) (w : World), (callFunc g args).run Tryd.prog w = .ok (.enter g args) w ∧ CallsD Tryd.prog g args .returning w fun e u w' => u = .returning ∧ (∃ v, e = .returned v) ∧ w' = w := by
  intro g hg args w
  cases hg
variable [Tabs]
class UDef : Prop where
  ok : ∀ g ∈ ([] : List Nat), g ∈ Tabs.okd
variable [QuietD Tryd.prog] [UDef] [UTabs]
def TT : List (TypeId × Ty) := [(2, .i64), (3, .i64), (4, .bool), (5, .u8), (6, .u8), (9, .str), (10, .str), (11, .str), (12, .u64), (21, .i32), (22, (.lst .node)), (23, (.lst .edg)), (25, .graph), (27, .delta), (28, .i64), (32, (.lst .i64)), (38, (.two .graph)), (41, (.lst .str)), (42, (.lst .prp)), (44, .node), (49, .edg), (53, (.lst .val)), (55, .val), (57, .opn), (58, (.lst .opn)), (87, .prp), (102, (.lst .i64)), (119, .u64), (135, (.lst .u8)), (136, .u64), (145, .u32), (146, .u8), (147, .u8), (150, .i32), (151, .i32)]

noncomputable def F_q15z : FnT := ⟨2, ⟨[], [(0, .graph), (1, .graph)], [], []⟩, [.v .bool], []⟩
noncomputable def F_q49z : FnT := ⟨2, ⟨[], [(0, .graph), (1, .graph)], [], []⟩, [.v .delta, .v .i64], []⟩
noncomputable def F_q47z : FnT := ⟨1, ⟨[], [(0, .graph)], [], []⟩, [.v .i64], []⟩
noncomputable def F_q46z : FnT := ⟨1, ⟨[], [(0, (.lst .str))], [], []⟩, [.v .i64], []⟩
noncomputable def F_q57z : FnT := ⟨1, ⟨[], [(0, .str)], [], []⟩, [.v .bool], []⟩
noncomputable def C_q57z : Code := bodyOf Tryd.f34
noncomputable def M_q57z : List (Nat × ArgM) := []
instance : DfOk M_q57z := .none rfl
noncomputable def O_q57z {ρ : Type} (n : Nat) : Orc ρ := orcNil
omit [QuietD Tryd.prog] [UDef] [UTabs] in
theorem O_q57z_ok {ρ : Type} (n : Nat) : (O_q57z n : Orc ρ).ok Tryd.prog := orcNil_ok
noncomputable def T_q57z_s0 : Tm := ⟨[], [(0, .str), (14, .i64), (15, .i64)], [], []⟩
noncomputable def X_q57z_s0 : Tm := ⟨[], [], [], []⟩
noncomputable def R_q57z_s0 : Tm := ⟨[], [(2, .bool)], [], []⟩
noncomputable def L_q57z_s0 {ρ : Type} (n : Nat) : LOrc ρ := lorcNil
omit [Tabs] [QuietD Tryd.prog] [UDef] [UTabs] in
theorem s_q57z_s0 {ρ : Type} (n : Nat) (rec : T_q57z_s0.den → Option ρ) kx kr s : dStep Tryd.prog 54 TT M_q57z (O_q57z n) (L_q57z_s0 n) dorcNil 0 (lbody 1000 C_q57z 0) T_q57z_s0 X_q57z_s0 R_q57z_s0 ⟨[], [], []⟩ rec kx kr s = q57z_s0 n rec kx kr s := by kernel_rfl
noncomputable def L_q57z {ρ : Type} (n : Nat) : LOrc ρ := lorcCons 0 (loopL 54 0 n T_q57z_s0 X_q57z_s0 R_q57z_s0 ⟨[], [], []⟩ (q57z_s0 n)) (lorcNil)
omit [Tabs] [QuietD Tryd.prog] [UDef] [UTabs] in
theorem e_q57z (n : Nat) (x) : evF Tryd.prog 54 TT M_q57z F_q57z (O_q57z n) (L_q57z n) dorcNil ⟨[], [], []⟩ [.tmp 2] C_q57z x = q57z n x := by kernel_rfl
omit [UDef] [UTabs] in
theorem ok_q57z (n : Nat) : Contract Tryd.prog 34 F_q57z (q57z n) :=
  Contract.of_ev (c := C_q57z) (N := 54) Tryd.func34 (by kernel_rfl) (by kernel_rfl) (by kernel_rfl) (by kernel_rfl) (O_q57z_ok n) dorcNil_ok (.of (l := [(0, (lbody 1000 C_q57z 0))]) (by kernel_rfl) ⟨.head (loopL_sound (O_q57z_ok n) dorcNil_ok (.of (l := []) (by kernel_rfl) trivial) (s_q57z_s0 n)), trivial⟩) (e_q57z n)

noncomputable def C_q46z : Code := bodyOf Tryd.f31
noncomputable def M_q46z : List (Nat × ArgM) := [(34, ⟨[], [], [], true⟩)]
instance : DfOk M_q46z := .none rfl
noncomputable def O_q46z {ρ : Type} (n : Nat) : Orc ρ := orcCons 34 F_q57z (q57z n) (orcNil)
omit [UDef] [UTabs] in
theorem O_q46z_ok {ρ : Type} (n : Nat) : (O_q46z n : Orc ρ).ok Tryd.prog := orcCons_ok (by kernel_rfl) (ok_q57z n) (orcNil_ok)
noncomputable def T_q46z_s0 : Tm := ⟨[], [(0, (.lst .str)), (8, (.lst .str)), (9, .i64), (10, .i64)], [], []⟩
noncomputable def X_q46z_s0 : Tm := ⟨[], [], [], []⟩
noncomputable def R_q46z_s0 : Tm := ⟨[], [(2, .i64)], [], []⟩
noncomputable def L_q46z_s0 {ρ : Type} (n : Nat) : LOrc ρ := lorcNil
omit [Tabs] [QuietD Tryd.prog] [UDef] [UTabs] in
theorem s_q46z_s0 {ρ : Type} (n : Nat) (rec : T_q46z_s0.den → Option ρ) kx kr s : dStep Tryd.prog 32 TT M_q46z (O_q46z n) (L_q46z_s0 n) dorcNil 0 (lbody 1000 C_q46z 0) T_q46z_s0 X_q46z_s0 R_q46z_s0 ⟨[], [], []⟩ rec kx kr s = q46z_s0 n rec kx kr s := by kernel_rfl
noncomputable def L_q46z {ρ : Type} (n : Nat) : LOrc ρ := lorcCons 0 (loopL 32 0 n T_q46z_s0 X_q46z_s0 R_q46z_s0 ⟨[], [], []⟩ (q46z_s0 n)) (lorcNil)
omit [Tabs] [QuietD Tryd.prog] [UDef] [UTabs] in
theorem e_q46z (n : Nat) (x) : evF Tryd.prog 32 TT M_q46z F_q46z (O_q46z n) (L_q46z n) dorcNil ⟨[], [], []⟩ [.tmp 2] C_q46z x = q46z n x := by kernel_rfl
omit [UDef] [UTabs] in
theorem ok_q46z (n : Nat) : Contract Tryd.prog 31 F_q46z (q46z n) :=
  Contract.of_ev (c := C_q46z) (N := 32) Tryd.func31 (by kernel_rfl) (by kernel_rfl) (by kernel_rfl) (by kernel_rfl) (O_q46z_ok n) dorcNil_ok (.of (l := [(0, (lbody 1000 C_q46z 0))]) (by kernel_rfl) ⟨.head (loopL_sound (O_q46z_ok n) dorcNil_ok (.of (l := []) (by kernel_rfl) trivial) (s_q46z_s0 n)), trivial⟩) (e_q46z n)

noncomputable def F_q48z : FnT := ⟨1, ⟨[], [(0, (.lst .prp))], [], []⟩, [.v .i64], []⟩
noncomputable def F_q52z : FnT := ⟨1, ⟨[], [(0, .val)], [], []⟩, [.v .i64], []⟩
noncomputable def F_q54z : FnT := ⟨2, ⟨[], [(0, .val), (1, .i64)], [], []⟩, [.v .i64], []⟩
noncomputable def C_q54z : Code := bodyOf Tryd.f67
noncomputable def M_q54z : List (Nat × ArgM) := [(82, ⟨[], [], [], true⟩), (67, ⟨[], [], [], true⟩)]
instance : DfOk M_q54z := .none rfl
noncomputable def O_q54z {ρ : Type} (self_q54z : Ev.Val × Int × Unit → Option (Int × Unit)) (n : Nat) : Orc ρ := orcCons 82 F_valid (validN) (orcCons 67 F_q54z (self_q54z) (orcNil))
omit [QuietD Tryd.prog] [UDef] in
theorem O_q54z_ok {ρ : Type} (self_q54z : Ev.Val × Int × Unit → Option (Int × Unit)) (h_q54z : Contract Tryd.prog 67 F_q54z self_q54z) (n : Nat) : (O_q54z self_q54z n : Orc ρ).ok Tryd.prog := orcCons_ok (by kernel_rfl) (validN_ok) (orcCons_ok (by kernel_rfl) (h_q54z) (orcNil_ok))
noncomputable def T_q54z_s1 : Tm := ⟨[(2, .ptr 2 0)], [(1, .i64), (90, (.lst .val)), (91, .i64), (92, .i64)], [(2, .box [.d .val])], []⟩
noncomputable def X_q54z_s1 : Tm := ⟨[(2, .ptr 2 0)], [], [(2, .box [.d .val])], []⟩
noncomputable def R_q54z_s1 : Tm := ⟨[], [(4, .i64)], [], []⟩
noncomputable def L_q54z_s1 {ρ : Type} (self_q54z : Ev.Val × Int × Unit → Option (Int × Unit)) (n : Nat) : LOrc ρ := lorcNil
omit [Tabs] [QuietD Tryd.prog] [UDef] [UTabs] in
theorem s_q54z_s1 {ρ : Type} (self_q54z : Ev.Val × Int × Unit → Option (Int × Unit)) (n : Nat) (rec : T_q54z_s1.den → Option ρ) kx kr s : dStep Tryd.prog 114 TT M_q54z (O_q54z self_q54z n) (L_q54z_s1 self_q54z n) dorcNil 1 (lbody 1000 C_q54z 0) T_q54z_s1 X_q54z_s1 R_q54z_s1 ⟨[], [], []⟩ rec kx kr s = q54z_s1 self_q54z n rec kx kr s := by kernel_rfl
noncomputable def L_q54z {ρ : Type} (self_q54z : Ev.Val × Int × Unit → Option (Int × Unit)) (n : Nat) : LOrc ρ := lorcCons 1 (loopL 114 1 n T_q54z_s1 X_q54z_s1 R_q54z_s1 ⟨[], [], []⟩ (q54z_s1 self_q54z n)) (lorcNil)
omit [Tabs] [QuietD Tryd.prog] [UDef] [UTabs] in
theorem e_q54z (self_q54z : Ev.Val × Int × Unit → Option (Int × Unit)) (n : Nat) (x) : evF Tryd.prog 114 TT M_q54z F_q54z (O_q54z self_q54z n) (L_q54z self_q54z n) dorcNil ⟨[], [], []⟩ [.tmp 4] C_q54z x = q54z_b self_q54z n x := by kernel_rfl
omit [UDef] in
theorem okb_q54z (self_q54z : Ev.Val × Int × Unit → Option (Int × Unit)) (h_q54z : Contract Tryd.prog 67 F_q54z self_q54z) (n : Nat) : Contract Tryd.prog 67 F_q54z (q54z_b self_q54z n) :=
  Contract.of_ev (c := C_q54z) (N := 114) Tryd.func67 (by kernel_rfl) (by kernel_rfl) (by kernel_rfl) (by kernel_rfl) (O_q54z_ok self_q54z h_q54z n) dorcNil_ok (.of (l := [(1, (lbody 1000 C_q54z 0))]) (by kernel_rfl) ⟨.head (loopL_sound (O_q54z_ok self_q54z h_q54z n) dorcNil_ok (.of (l := []) (by kernel_rfl) trivial) (s_q54z_s1 self_q54z n)), trivial⟩) (e_q54z self_q54z n)
omit [UDef] in
theorem ok_q54z : ∀ n, Contract Tryd.prog 67 F_q54z (q54z n)
  | 0 => fun _ _ h => by cases h
  | n + 1 => okb_q54z _ (ok_q54z n) n

noncomputable def C_q52z : Code := bodyOf Tryd.f50
noncomputable def M_q52z : List (Nat × ArgM) := [(67, ⟨[], [], [], true⟩)]
instance : DfOk M_q52z := .none rfl
noncomputable def O_q52z {ρ : Type} (n : Nat) : Orc ρ := orcCons 67 F_q54z (q54z n) (orcNil)
omit [UDef] in
theorem O_q52z_ok {ρ : Type} (n : Nat) : (O_q52z n : Orc ρ).ok Tryd.prog := orcCons_ok (by kernel_rfl) (ok_q54z n) (orcNil_ok)
noncomputable def L_q52z {ρ : Type} (n : Nat) : LOrc ρ := lorcNil
omit [Tabs] [QuietD Tryd.prog] [UDef] [UTabs] in
theorem e_q52z (n : Nat) (x) : evF Tryd.prog 5 TT M_q52z F_q52z (O_q52z n) (L_q52z n) dorcNil ⟨[], [], []⟩ [.tmp 2] C_q52z x = q52z n x := by kernel_rfl
omit [UDef] in
theorem ok_q52z (n : Nat) : Contract Tryd.prog 50 F_q52z (q52z n) :=
  Contract.of_ev (c := C_q52z) (N := 5) Tryd.func50 (by kernel_rfl) (by kernel_rfl) (by kernel_rfl) (by kernel_rfl) (O_q52z_ok n) dorcNil_ok (.of (l := []) (by kernel_rfl) trivial) (e_q52z n)

noncomputable def C_q48z : Code := bodyOf Tryd.f32
noncomputable def M_q48z : List (Nat × ArgM) := [(34, ⟨[], [], [], true⟩), (50, ⟨[], [], [], true⟩)]
instance : DfOk M_q48z := .none rfl
noncomputable def O_q48z {ρ : Type} (n : Nat) : Orc ρ := orcCons 34 F_q57z (q57z n) (orcCons 50 F_q52z (q52z n) (orcNil))
omit [UDef] in
theorem O_q48z_ok {ρ : Type} (n : Nat) : (O_q48z n : Orc ρ).ok Tryd.prog := orcCons_ok (by kernel_rfl) (ok_q57z n) (orcCons_ok (by kernel_rfl) (ok_q52z n) (orcNil_ok))
noncomputable def T_q48z_s0 : Tm := ⟨[], [(0, (.lst .prp)), (9, (.lst .prp)), (10, .i64), (11, .i64)], [], []⟩
noncomputable def X_q48z_s0 : Tm := ⟨[], [], [], []⟩
noncomputable def R_q48z_s0 : Tm := ⟨[], [(2, .i64)], [], []⟩
noncomputable def L_q48z_s0 {ρ : Type} (n : Nat) : LOrc ρ := lorcNil
omit [Tabs] [QuietD Tryd.prog] [UDef] [UTabs] in
theorem s_q48z_s0 {ρ : Type} (n : Nat) (rec : T_q48z_s0.den → Option ρ) kx kr s : dStep Tryd.prog 48 TT M_q48z (O_q48z n) (L_q48z_s0 n) (evDraw Tryd.prog 48 TT M_q48z (O_q48z n)) 0 (lbody 1000 C_q48z 0) T_q48z_s0 X_q48z_s0 R_q48z_s0 ⟨[], [], []⟩ rec kx kr s = q48z_s0 n rec kx kr s := by kernel_rfl
noncomputable def L_q48z {ρ : Type} (n : Nat) : LOrc ρ := lorcCons 0 (loopL 48 0 n T_q48z_s0 X_q48z_s0 R_q48z_s0 ⟨[], [], []⟩ (q48z_s0 n)) (lorcNil)
omit [Tabs] [QuietD Tryd.prog] [UDef] [UTabs] in
theorem e_q48z (n : Nat) (x) : evF Tryd.prog 48 TT M_q48z F_q48z (O_q48z n) (L_q48z n) (evDraw Tryd.prog 48 TT M_q48z (O_q48z n)) ⟨[], [], []⟩ [.tmp 2] C_q48z x = q48z n x := by kernel_rfl
omit [UDef] in
theorem ok_q48z (n : Nat) : Contract Tryd.prog 32 F_q48z (q48z n) :=
  Contract.of_ev (c := C_q48z) (N := 48) Tryd.func32 (by kernel_rfl) (by kernel_rfl) (by kernel_rfl) (by kernel_rfl) (O_q48z_ok n) (evDraw_ok (O_q48z_ok n) (by kernel_rfl)) (.of (l := [(0, (lbody 1000 C_q48z 0))]) (by kernel_rfl) ⟨.head (loopL_sound (O_q48z_ok n) (evDraw_ok (O_q48z_ok n) (by kernel_rfl)) (.of (l := []) (by kernel_rfl) trivial) (s_q48z_s0 n)), trivial⟩) (e_q48z n)

noncomputable def F_q31z : FnT := ⟨1, ⟨[], [(0, (.lst .i64))], [], []⟩, [.v .i64], []⟩
noncomputable def C_q31z : Code := bodyOf Tryd.f30
noncomputable def M_q31z : List (Nat × ArgM) := []
instance : DfOk M_q31z := .none rfl
noncomputable def O_q31z {ρ : Type} (n : Nat) : Orc ρ := orcNil
omit [QuietD Tryd.prog] [UDef] [UTabs] in
theorem O_q31z_ok {ρ : Type} (n : Nat) : (O_q31z n : Orc ρ).ok Tryd.prog := orcNil_ok
noncomputable def T_q31z_s0 : Tm := ⟨[], [(3, .i64), (6, (.lst .i64)), (7, .i64), (8, .i64)], [], []⟩
noncomputable def X_q31z_s0 : Tm := ⟨[], [(3, .i64)], [], []⟩
noncomputable def R_q31z_s0 : Tm := ⟨[], [(2, .i64)], [], []⟩
noncomputable def L_q31z_s0 {ρ : Type} (n : Nat) : LOrc ρ := lorcNil
omit [Tabs] [QuietD Tryd.prog] [UDef] [UTabs] in
theorem s_q31z_s0 {ρ : Type} (n : Nat) (rec : T_q31z_s0.den → Option ρ) kx kr s : dStep Tryd.prog 18 TT M_q31z (O_q31z n) (L_q31z_s0 n) dorcNil 0 (lbody 1000 C_q31z 0) T_q31z_s0 X_q31z_s0 R_q31z_s0 ⟨[], [], []⟩ rec kx kr s = q31z_s0 n rec kx kr s := by kernel_rfl
noncomputable def L_q31z {ρ : Type} (n : Nat) : LOrc ρ := lorcCons 0 (loopL 18 0 n T_q31z_s0 X_q31z_s0 R_q31z_s0 ⟨[], [], []⟩ (q31z_s0 n)) (lorcNil)
omit [Tabs] [QuietD Tryd.prog] [UDef] [UTabs] in
theorem e_q31z (n : Nat) (x) : evF Tryd.prog 18 TT M_q31z F_q31z (O_q31z n) (L_q31z n) dorcNil ⟨[], [], []⟩ [.tmp 2] C_q31z x = q31z n x := by kernel_rfl
omit [UDef] [UTabs] in
theorem ok_q31z (n : Nat) : Contract Tryd.prog 30 F_q31z (q31z n) :=
  Contract.of_ev (c := C_q31z) (N := 18) Tryd.func30 (by kernel_rfl) (by kernel_rfl) (by kernel_rfl) (by kernel_rfl) (O_q31z_ok n) dorcNil_ok (.of (l := [(0, (lbody 1000 C_q31z 0))]) (by kernel_rfl) ⟨.head (loopL_sound (O_q31z_ok n) dorcNil_ok (.of (l := []) (by kernel_rfl) trivial) (s_q31z_s0 n)), trivial⟩) (e_q31z n)

noncomputable def F_q56z : FnT := ⟨2, ⟨[], [(0, .graph), (1, .i64)], [], []⟩, [.v .i64], []⟩
noncomputable def F_q9z : FnT := ⟨3, ⟨[(2, .fn 57)], [(0, (.lst .node)), (1, .i64)], [], []⟩, [.v .i64, .v .bool], []⟩
noncomputable def F_q45z : FnT := ⟨2, ⟨[], [(0, .node), (1, .i64)], [], []⟩, [.v .i64], []⟩
noncomputable def F_q33z : FnT := ⟨2, ⟨[], [(0, .i64), (1, .i64)], [], []⟩, [.v .i64], []⟩
noncomputable def F_q44z : FnT := ⟨1, ⟨[], [(0, .i64)], [], []⟩, [.v .bool], []⟩
noncomputable def C_q44z : Code := bodyOf Tryd.f78
noncomputable def M_q44z : List (Nat × ArgM) := []
instance : DfOk M_q44z := .none rfl
noncomputable def O_q44z {ρ : Type} : Orc ρ := orcNil
omit [QuietD Tryd.prog] [UDef] [UTabs] in
theorem O_q44z_ok {ρ : Type} : (O_q44z : Orc ρ).ok Tryd.prog := orcNil_ok
noncomputable def L_q44z {ρ : Type} : LOrc ρ := lorcNil
omit [Tabs] [QuietD Tryd.prog] [UDef] [UTabs] in
theorem e_q44z (x) : evF Tryd.prog 6 TT M_q44z F_q44z (O_q44z) (L_q44z) dorcNil ⟨[], [], []⟩ [.tmp 2] C_q44z x = q44z x := by kernel_rfl
omit [UDef] [UTabs] in
theorem ok_q44z : Contract Tryd.prog 78 F_q44z (q44z) :=
  Contract.of_ev (c := C_q44z) (N := 6) Tryd.func78 (by kernel_rfl) (by kernel_rfl) (by kernel_rfl) (by kernel_rfl) (O_q44z_ok) dorcNil_ok (.of (l := []) (by kernel_rfl) trivial) (e_q44z)

noncomputable def C_q33z : Code := bodyOf Tryd.f58
noncomputable def M_q33z : List (Nat × ArgM) := [(78, ⟨[], [], [], true⟩)]
instance : DfOk M_q33z := .none rfl
noncomputable def O_q33z {ρ : Type} : Orc ρ := orcCons 78 F_q44z (q44z) (orcNil)
omit [UDef] [UTabs] in
theorem O_q33z_ok {ρ : Type} : (O_q33z : Orc ρ).ok Tryd.prog := orcCons_ok (by kernel_rfl) (ok_q44z) (orcNil_ok)
noncomputable def L_q33z {ρ : Type} : LOrc ρ := lorcNil
omit [Tabs] [QuietD Tryd.prog] [UDef] [UTabs] in
theorem e_q33z (x) : evF Tryd.prog 20 TT M_q33z F_q33z (O_q33z) (L_q33z) dorcNil ⟨[], [], []⟩ [.tmp 4] C_q33z x = q33z x := by kernel_rfl
omit [UDef] [UTabs] in
theorem ok_q33z : Contract Tryd.prog 58 F_q33z (q33z) :=
  Contract.of_ev (c := C_q33z) (N := 20) Tryd.func58 (by kernel_rfl) (by kernel_rfl) (by kernel_rfl) (by kernel_rfl) (O_q33z_ok) dorcNil_ok (.of (l := []) (by kernel_rfl) trivial) (e_q33z)

noncomputable def C_q45z : Code := bodyOf Tryd.f57
noncomputable def M_q45z : List (Nat × ArgM) := [(58, ⟨[], [], [], true⟩)]
instance : DfOk M_q45z := .none rfl
noncomputable def O_q45z {ρ : Type} : Orc ρ := orcCons 58 F_q33z (q33z) (orcNil)
omit [UDef] [UTabs] in
theorem O_q45z_ok {ρ : Type} : (O_q45z : Orc ρ).ok Tryd.prog := orcCons_ok (by kernel_rfl) (ok_q33z) (orcNil_ok)
noncomputable def L_q45z {ρ : Type} : LOrc ρ := lorcNil
omit [Tabs] [QuietD Tryd.prog] [UDef] [UTabs] in
theorem e_q45z (x) : evF Tryd.prog 9 TT M_q45z F_q45z (O_q45z) (L_q45z) dorcNil ⟨[], [], []⟩ [.tmp 4] C_q45z x = q45z x := by kernel_rfl
omit [UDef] [UTabs] in
theorem ok_q45z : Contract Tryd.prog 57 F_q45z (q45z) :=
  Contract.of_ev (c := C_q45z) (N := 9) Tryd.func57 (by kernel_rfl) (by kernel_rfl) (by kernel_rfl) (by kernel_rfl) (O_q45z_ok) dorcNil_ok (.of (l := []) (by kernel_rfl) trivial) (e_q45z)

noncomputable def C_q9z : Code := bodyOf Tryd.f56
noncomputable def M_q9z : List (Nat × ArgM) := [(57, ⟨[], [], [], true⟩)]
instance : DfOk M_q9z := .none rfl
noncomputable def O_q9z {ρ : Type} (n : Nat) : Orc ρ := orcCons 57 F_q45z (q45z) (orcNil)
omit [UDef] [UTabs] in
theorem O_q9z_ok {ρ : Type} (n : Nat) : (O_q9z n : Orc ρ).ok Tryd.prog := orcCons_ok (by kernel_rfl) (ok_q45z) (orcNil_ok)
noncomputable def T_q9z_s0 : Tm := ⟨[(2, .fn 57)], [(0, (.lst .node)), (1, .i64), (8, .i64), (9, .i64), (10, .i64)], [], []⟩
noncomputable def X_q9z_s0 : Tm := ⟨[(2, .fn 57)], [(0, (.lst .node)), (1, .i64), (8, .i64), (9, .i64)], [], []⟩
noncomputable def R_q9z_s0 : Tm := ⟨[], [], [], []⟩
noncomputable def L_q9z_s0 {ρ : Type} (n : Nat) : LOrc ρ := lorcNil
omit [Tabs] [QuietD Tryd.prog] [UDef] [UTabs] in
theorem s_q9z_s0 {ρ : Type} (n : Nat) (rec : T_q9z_s0.den → Option ρ) kx kr s : dStep Tryd.prog 49 TT M_q9z (O_q9z n) (L_q9z_s0 n) dorcNil 0 (lbody 1000 C_q9z 0) T_q9z_s0 X_q9z_s0 R_q9z_s0 ⟨[], [], []⟩ rec kx kr s = q9z_s0 n rec kx kr s := by kernel_rfl
noncomputable def L_q9z {ρ : Type} (n : Nat) : LOrc ρ := lorcCons 0 (loopL 49 0 n T_q9z_s0 X_q9z_s0 R_q9z_s0 ⟨[], [], []⟩ (q9z_s0 n)) (lorcNil)
omit [Tabs] [QuietD Tryd.prog] [UDef] [UTabs] in
theorem e_q9z (n : Nat) (x) : evF Tryd.prog 49 TT M_q9z F_q9z (O_q9z n) (L_q9z n) dorcNil ⟨[], [], []⟩ [.tmp 6, .tmp 7] C_q9z x = q9z n x := by kernel_rfl
omit [UDef] [UTabs] in
theorem ok_q9z (n : Nat) : Contract Tryd.prog 56 F_q9z (q9z n) :=
  Contract.of_ev (c := C_q9z) (N := 49) Tryd.func56 (by kernel_rfl) (by kernel_rfl) (by kernel_rfl) (by kernel_rfl) (O_q9z_ok n) dorcNil_ok (.of (l := [(0, (lbody 1000 C_q9z 0))]) (by kernel_rfl) ⟨.head (loopL_sound (O_q9z_ok n) dorcNil_ok (.of (l := []) (by kernel_rfl) trivial) (s_q9z_s0 n)), trivial⟩) (e_q9z n)

noncomputable def C_q56z : Code := bodyOf Tryd.f33
noncomputable def M_q56z : List (Nat × ArgM) := [(56, ⟨[], [], [], true⟩)]
instance : DfOk M_q56z := .none rfl
noncomputable def O_q56z {ρ : Type} (n : Nat) : Orc ρ := orcCons 56 F_q9z (q9z n) (orcNil)
omit [UDef] [UTabs] in
theorem O_q56z_ok {ρ : Type} (n : Nat) : (O_q56z n : Orc ρ).ok Tryd.prog := orcCons_ok (by kernel_rfl) (ok_q9z n) (orcNil_ok)
noncomputable def L_q56z {ρ : Type} (n : Nat) : LOrc ρ := lorcNil
omit [Tabs] [QuietD Tryd.prog] [UDef] [UTabs] in
theorem e_q56z (n : Nat) (x) : evF Tryd.prog 17 TT M_q56z F_q56z (O_q56z n) (L_q56z n) dorcNil ⟨[], [], []⟩ [.tmp 4] C_q56z x = q56z n x := by kernel_rfl
omit [UDef] [UTabs] in
theorem ok_q56z (n : Nat) : Contract Tryd.prog 33 F_q56z (q56z n) :=
  Contract.of_ev (c := C_q56z) (N := 17) Tryd.func33 (by kernel_rfl) (by kernel_rfl) (by kernel_rfl) (by kernel_rfl) (O_q56z_ok n) dorcNil_ok (.of (l := []) (by kernel_rfl) trivial) (e_q56z n)

noncomputable def C_q47z : Code := bodyOf Tryd.f10
noncomputable def M_q47z : List (Nat × ArgM) := [(31, ⟨[], [], [], true⟩), (32, ⟨[], [], [], true⟩), (30, ⟨[], [], [], true⟩), (33, ⟨[], [], [], true⟩), (34, ⟨[], [], [], true⟩)]
instance : DfOk M_q47z := .none rfl
noncomputable def O_q47z {ρ : Type} (n : Nat) : Orc ρ := orcCons 31 F_q46z (q46z n) (orcCons 32 F_q48z (q48z n) (orcCons 30 F_q31z (q31z n) (orcCons 33 F_q56z (q56z n) (orcCons 34 F_q57z (q57z n) (orcNil)))))
omit [UDef] in
theorem O_q47z_ok {ρ : Type} (n : Nat) : (O_q47z n : Orc ρ).ok Tryd.prog := orcCons_ok (by kernel_rfl) (ok_q46z n) (orcCons_ok (by kernel_rfl) (ok_q48z n) (orcCons_ok (by kernel_rfl) (ok_q31z n) (orcCons_ok (by kernel_rfl) (ok_q56z n) (orcCons_ok (by kernel_rfl) (ok_q57z n) (orcNil_ok)))))
noncomputable def T_q47z_s0 : Tm := ⟨[(1, .ptr 1 0)], [(3, .i64), (22, (.lst .node)), (23, .i64), (24, .i64)], [(1, .box [.d .graph])], []⟩
noncomputable def X_q47z_s0 : Tm := ⟨[(1, .ptr 1 0)], [(3, .i64)], [(1, .box [.d .graph])], []⟩
noncomputable def R_q47z_s0 : Tm := ⟨[], [(2, .i64)], [], []⟩
noncomputable def L_q47z_s0 {ρ : Type} (n : Nat) : LOrc ρ := lorcNil
omit [Tabs] [QuietD Tryd.prog] [UDef] [UTabs] in
theorem s_q47z_s0 {ρ : Type} (n : Nat) (rec : T_q47z_s0.den → Option ρ) kx kr s : dStep Tryd.prog 103 TT M_q47z (O_q47z n) (L_q47z_s0 n) (evDraw Tryd.prog 103 TT M_q47z (O_q47z n)) 0 (lbody 1000 C_q47z 0) T_q47z_s0 X_q47z_s0 R_q47z_s0 ⟨[], [], []⟩ rec kx kr s = q47z_s0 n rec kx kr s := by kernel_rfl
noncomputable def T_q47z_s2 : Tm := ⟨[(1, .ptr 1 0)], [(3, .i64), (7, .i64), (48, (.lst .edg)), (49, .i64), (50, .i64)], [(1, .box [.d .graph])], []⟩
noncomputable def X_q47z_s2 : Tm := ⟨[(1, .ptr 1 0)], [(3, .i64), (7, .i64)], [(1, .box [.d .graph])], []⟩
noncomputable def R_q47z_s2 : Tm := ⟨[], [(2, .i64)], [], []⟩
noncomputable def L_q47z_s2 {ρ : Type} (n : Nat) : LOrc ρ := lorcNil
omit [Tabs] [QuietD Tryd.prog] [UDef] [UTabs] in
theorem s_q47z_s2 {ρ : Type} (n : Nat) (rec : T_q47z_s2.den → Option ρ) kx kr s : dStep Tryd.prog 103 TT M_q47z (O_q47z n) (L_q47z_s2 n) (evDraw Tryd.prog 103 TT M_q47z (O_q47z n)) 2 (lbody 1000 C_q47z 1) T_q47z_s2 X_q47z_s2 R_q47z_s2 ⟨[], [], []⟩ rec kx kr s = q47z_s2 n rec kx kr s := by kernel_rfl
noncomputable def L_q47z {ρ : Type} (n : Nat) : LOrc ρ := lorcCons 0 (loopL 103 0 n T_q47z_s0 X_q47z_s0 R_q47z_s0 ⟨[], [], []⟩ (q47z_s0 n)) (lorcCons 2 (loopL 103 2 n T_q47z_s2 X_q47z_s2 R_q47z_s2 ⟨[], [], []⟩ (q47z_s2 n)) (lorcNil))
omit [Tabs] [QuietD Tryd.prog] [UDef] [UTabs] in
theorem e_q47z (n : Nat) (x) : evF Tryd.prog 103 TT M_q47z F_q47z (O_q47z n) (L_q47z n) (evDraw Tryd.prog 103 TT M_q47z (O_q47z n)) ⟨[], [], []⟩ [.tmp 2] C_q47z x = q47z n x := by kernel_rfl
omit [UDef] in
theorem ok_q47z (n : Nat) : Contract Tryd.prog 10 F_q47z (q47z n) :=
  Contract.of_ev (c := C_q47z) (N := 103) Tryd.func10 (by kernel_rfl) (by kernel_rfl) (by kernel_rfl) (by kernel_rfl) (O_q47z_ok n) (evDraw_ok (O_q47z_ok n) (by kernel_rfl)) (.of (l := [(0, (lbody 1000 C_q47z 0)), (2, (lbody 1000 C_q47z 1))]) (by kernel_rfl) ⟨.head (loopL_sound (O_q47z_ok n) (evDraw_ok (O_q47z_ok n) (by kernel_rfl)) (.of (l := []) (by kernel_rfl) trivial) (s_q47z_s0 n)), ⟨.tail rfl (.head (loopL_sound (O_q47z_ok n) (evDraw_ok (O_q47z_ok n) (by kernel_rfl)) (.of (l := []) (by kernel_rfl) trivial) (s_q47z_s2 n))), trivial⟩⟩) (e_q47z n)

noncomputable def F_q11z : FnT := ⟨4, ⟨[(2, .fn 12), (3, .fn 13)], [(0, (.lst .node)), (1, (.lst .node))], [], []⟩, [.v (.lst .node)], []⟩
noncomputable def F_q6z : FnT := ⟨2, ⟨[(1, .clo 36 [1000000, 1000001])], [(0, (.lst .node))], [(1000000, .box [.ref (.fn 12)]), (1000001, .box [.d .node])], []⟩, [.v .bool], [(1000000, .box [.ref (.fn 12)]), (1000001, .box [.d .node])]⟩
noncomputable def F_q8z : FnT := ⟨2, ⟨[(1, .clo 36 [1000000, 1000001])], [(0, (.lst .node))], [(1000000, .box [.ref (.fn 12)]), (1000001, .box [.d .node])], []⟩, [.v .i64], [(1000000, .box [.ref (.fn 12)]), (1000001, .box [.d .node])]⟩
noncomputable def F_q17z : FnT := ⟨3, ⟨[(1, .ptr 1000000 0), (2, .ptr 1000016 0)], [(0, .node)], [(1000000, .box [.ref (.fn 12)]), (1000016, .box [.d .node])], []⟩, [.v .bool], [(1000000, .box [.ref (.fn 12)]), (1000016, .box [.d .node])]⟩
noncomputable def F_q41z : FnT := ⟨2, ⟨[], [(0, .node), (1, .node)], [], []⟩, [.v .bool], []⟩
noncomputable def F_q13z : FnT := ⟨2, ⟨[], [(0, (.lst .str)), (1, (.lst .str))], [], []⟩, [.v .bool], []⟩
noncomputable def C_q13z : Code := bodyOf Tryd.f37
noncomputable def M_q13z : List (Nat × ArgM) := []
instance : DfOk M_q13z := .none rfl
noncomputable def O_q13z {ρ : Type} (n : Nat) : Orc ρ := orcNil
omit [QuietD Tryd.prog] [UDef] [UTabs] in
theorem O_q13z_ok {ρ : Type} (n : Nat) : (O_q13z n : Orc ρ).ok Tryd.prog := orcNil_ok
noncomputable def T_q13z_s0 : Tm := ⟨[], [(0, (.lst .str)), (1, (.lst .str)), (12, .i64), (13, .i64)], [], []⟩
noncomputable def X_q13z_s0 : Tm := ⟨[], [], [], []⟩
noncomputable def R_q13z_s0 : Tm := ⟨[], [(4, .bool)], [], []⟩
noncomputable def L_q13z_s0 {ρ : Type} (n : Nat) : LOrc ρ := lorcNil
omit [Tabs] [QuietD Tryd.prog] [UDef] [UTabs] in
theorem s_q13z_s0 {ρ : Type} (n : Nat) (rec : T_q13z_s0.den → Option ρ) kx kr s : dStep Tryd.prog 26 TT M_q13z (O_q13z n) (L_q13z_s0 n) (evDraw Tryd.prog 26 TT M_q13z (O_q13z n)) 0 (lbody 1000 C_q13z 0) T_q13z_s0 X_q13z_s0 R_q13z_s0 ⟨[], [], []⟩ rec kx kr s = q13z_s0 n rec kx kr s := by kernel_rfl
noncomputable def L_q13z {ρ : Type} (n : Nat) : LOrc ρ := lorcCons 0 (loopL 26 0 n T_q13z_s0 X_q13z_s0 R_q13z_s0 ⟨[], [], []⟩ (q13z_s0 n)) (lorcNil)
omit [Tabs] [QuietD Tryd.prog] [UDef] [UTabs] in
theorem e_q13z (n : Nat) (x) : evF Tryd.prog 26 TT M_q13z F_q13z (O_q13z n) (L_q13z n) (evDraw Tryd.prog 26 TT M_q13z (O_q13z n)) ⟨[], [], []⟩ [.tmp 4] C_q13z x = q13z n x := by kernel_rfl
omit [UDef] [UTabs] in
theorem ok_q13z (n : Nat) : Contract Tryd.prog 37 F_q13z (q13z n) :=
  Contract.of_ev (c := C_q13z) (N := 26) Tryd.func37 (by kernel_rfl) (by kernel_rfl) (by kernel_rfl) (by kernel_rfl) (O_q13z_ok n) (evDraw_ok (O_q13z_ok n) (by kernel_rfl)) (.of (l := [(0, (lbody 1000 C_q13z 0))]) (by kernel_rfl) ⟨.head (loopL_sound (O_q13z_ok n) (evDraw_ok (O_q13z_ok n) (by kernel_rfl)) (.of (l := []) (by kernel_rfl) trivial) (s_q13z_s0 n)), trivial⟩) (e_q13z n)

noncomputable def F_q36z : FnT := ⟨2, ⟨[], [(0, (.lst .prp)), (1, (.lst .prp))], [], []⟩, [.v .bool], []⟩
noncomputable def F_q4z : FnT := ⟨3, ⟨[(2, .fn 61)], [(0, (.lst .prp)), (1, (.lst .prp))], [], []⟩, [.v .bool], []⟩
noncomputable def F_q29z : FnT := ⟨2, ⟨[], [(0, .prp), (1, .prp)], [], []⟩, [.v .bool], []⟩
noncomputable def F_q53z : FnT := ⟨2, ⟨[], [(0, .val), (1, .val)], [], []⟩, [.v .i64], []⟩
noncomputable def F_q27z : FnT := ⟨2, ⟨[], [(0, .str), (1, .str)], [], []⟩, [.v .i64], []⟩
noncomputable def F_q32z : FnT := ⟨1, ⟨[], [(0, .str)], [], []⟩, [.v .bool], []⟩
noncomputable def C_q32z : Code := bodyOf Tryd.f85
noncomputable def M_q32z : List (Nat × ArgM) := []
instance : DfOk M_q32z := .none rfl
noncomputable def O_q32z {ρ : Type} : Orc ρ := orcNil
omit [QuietD Tryd.prog] [UDef] [UTabs] in
theorem O_q32z_ok {ρ : Type} : (O_q32z : Orc ρ).ok Tryd.prog := orcNil_ok
noncomputable def L_q32z {ρ : Type} : LOrc ρ := lorcNil
omit [Tabs] [QuietD Tryd.prog] [UDef] [UTabs] in
theorem e_q32z (x) : evF Tryd.prog 6 TT M_q32z F_q32z (O_q32z) (L_q32z) dorcNil ⟨[], [], []⟩ [.tmp 2] C_q32z x = q32z x := by kernel_rfl
omit [UDef] [UTabs] in
theorem ok_q32z : Contract Tryd.prog 85 F_q32z (q32z) :=
  Contract.of_ev (c := C_q32z) (N := 6) Tryd.func85 (by kernel_rfl) (by kernel_rfl) (by kernel_rfl) (by kernel_rfl) (O_q32z_ok) dorcNil_ok (.of (l := []) (by kernel_rfl) trivial) (e_q32z)

noncomputable def C_q27z : Code := bodyOf Tryd.f80
noncomputable def M_q27z : List (Nat × ArgM) := [(85, ⟨[], [], [], true⟩)]
instance : DfOk M_q27z := .none rfl
noncomputable def O_q27z {ρ : Type} : Orc ρ := orcCons 85 F_q32z (q32z) (orcNil)
omit [UDef] [UTabs] in
theorem O_q27z_ok {ρ : Type} : (O_q27z : Orc ρ).ok Tryd.prog := orcCons_ok (by kernel_rfl) (ok_q32z) (orcNil_ok)
noncomputable def L_q27z {ρ : Type} : LOrc ρ := lorcNil
omit [Tabs] [QuietD Tryd.prog] [UDef] [UTabs] in
theorem e_q27z (x) : evF Tryd.prog 20 TT M_q27z F_q27z (O_q27z) (L_q27z) dorcNil ⟨[], [], []⟩ [.tmp 4] C_q27z x = q27z x := by kernel_rfl
omit [UDef] [UTabs] in
theorem ok_q27z : Contract Tryd.prog 80 F_q27z (q27z) :=
  Contract.of_ev (c := C_q27z) (N := 20) Tryd.func80 (by kernel_rfl) (by kernel_rfl) (by kernel_rfl) (by kernel_rfl) (O_q27z_ok) dorcNil_ok (.of (l := []) (by kernel_rfl) trivial) (e_q27z)

noncomputable def F_q3z : FnT := ⟨3, ⟨[(2, .fn 62)], [(0, (.lst .val)), (1, (.lst .val))], [], []⟩, [.v .i64], []⟩
noncomputable def C_q3z : Code := bodyOf Tryd.f81
noncomputable def M_q3z : List (Nat × ArgM) := [(62, ⟨[], [], [], true⟩)]
instance : DfOk M_q3z := .none rfl
noncomputable def O_q3z {ρ : Type} (self_q53z : Ev.Val × Ev.Val × Unit → Option (Int × Unit)) (n : Nat) : Orc ρ := orcCons 62 F_q53z (self_q53z) (orcNil)
omit [QuietD Tryd.prog] [UDef] [UTabs] in
theorem O_q3z_ok {ρ : Type} (self_q53z : Ev.Val × Ev.Val × Unit → Option (Int × Unit)) (h_q53z : Contract Tryd.prog 62 F_q53z self_q53z) (n : Nat) : (O_q3z self_q53z n : Orc ρ).ok Tryd.prog := orcCons_ok (by kernel_rfl) (h_q53z) (orcNil_ok)
noncomputable def T_q3z_s0 : Tm := ⟨[(2, .fn 62)], [(0, (.lst .val)), (1, (.lst .val)), (11, (.lst .val)), (12, .i64), (13, .i64)], [], []⟩
noncomputable def X_q3z_s0 : Tm := ⟨[], [(0, (.lst .val)), (1, (.lst .val))], [], []⟩
noncomputable def R_q3z_s0 : Tm := ⟨[], [(6, .i64)], [], []⟩
noncomputable def L_q3z_s0 {ρ : Type} (self_q53z : Ev.Val × Ev.Val × Unit → Option (Int × Unit)) (n : Nat) : LOrc ρ := lorcNil
omit [Tabs] [QuietD Tryd.prog] [UDef] [UTabs] in
theorem s_q3z_s0 {ρ : Type} (self_q53z : Ev.Val × Ev.Val × Unit → Option (Int × Unit)) (n : Nat) (rec : T_q3z_s0.den → Option ρ) kx kr s : dStep Tryd.prog 39 TT M_q3z (O_q3z self_q53z n) (L_q3z_s0 self_q53z n) dorcNil 0 (lbody 1000 C_q3z 0) T_q3z_s0 X_q3z_s0 R_q3z_s0 ⟨[], [], []⟩ rec kx kr s = q3z_s0 self_q53z n rec kx kr s := by kernel_rfl
noncomputable def L_q3z {ρ : Type} (self_q53z : Ev.Val × Ev.Val × Unit → Option (Int × Unit)) (n : Nat) : LOrc ρ := lorcCons 0 (loopL 39 0 n T_q3z_s0 X_q3z_s0 R_q3z_s0 ⟨[], [], []⟩ (q3z_s0 self_q53z n)) (lorcNil)
omit [Tabs] [QuietD Tryd.prog] [UDef] [UTabs] in
theorem e_q3z (self_q53z : Ev.Val × Ev.Val × Unit → Option (Int × Unit)) (n : Nat) (x) : evF Tryd.prog 39 TT M_q3z F_q3z (O_q3z self_q53z n) (L_q3z self_q53z n) dorcNil ⟨[], [], []⟩ [.tmp 6] C_q3z x = q3z self_q53z n x := by kernel_rfl
omit [UDef] [UTabs] in
theorem ok_q3z (self_q53z : Ev.Val × Ev.Val × Unit → Option (Int × Unit)) (h_q53z : Contract Tryd.prog 62 F_q53z self_q53z) (n : Nat) : Contract Tryd.prog 81 F_q3z (q3z self_q53z n) :=
  Contract.of_ev (c := C_q3z) (N := 39) Tryd.func81 (by kernel_rfl) (by kernel_rfl) (by kernel_rfl) (by kernel_rfl) (O_q3z_ok self_q53z h_q53z n) dorcNil_ok (.of (l := [(0, (lbody 1000 C_q3z 0))]) (by kernel_rfl) ⟨.head (loopL_sound (O_q3z_ok self_q53z h_q53z n) dorcNil_ok (.of (l := []) (by kernel_rfl) trivial) (s_q3z_s0 self_q53z n)), trivial⟩) (e_q3z self_q53z n)

noncomputable def F_q55z : FnT := ⟨1, ⟨[], [(0, (.lst .i64))], [], []⟩, [.v .i64], []⟩
noncomputable def C_q55z : Code := bodyOf Tryd.f79
noncomputable def M_q55z : List (Nat × ArgM) := []
instance : DfOk M_q55z := .none rfl
noncomputable def O_q55z {ρ : Type} (n : Nat) : Orc ρ := orcNil
omit [QuietD Tryd.prog] [UDef] [UTabs] in
theorem O_q55z_ok {ρ : Type} (n : Nat) : (O_q55z n : Orc ρ).ok Tryd.prog := orcNil_ok
noncomputable def T_q55z_s0 : Tm := ⟨[], [(3, .i64), (6, (.lst .i64)), (7, .i64), (8, .i64)], [], []⟩
noncomputable def X_q55z_s0 : Tm := ⟨[], [(3, .i64)], [], []⟩
noncomputable def R_q55z_s0 : Tm := ⟨[], [(2, .i64)], [], []⟩
noncomputable def L_q55z_s0 {ρ : Type} (n : Nat) : LOrc ρ := lorcNil
omit [Tabs] [QuietD Tryd.prog] [UDef] [UTabs] in
theorem s_q55z_s0 {ρ : Type} (n : Nat) (rec : T_q55z_s0.den → Option ρ) kx kr s : dStep Tryd.prog 18 TT M_q55z (O_q55z n) (L_q55z_s0 n) dorcNil 0 (lbody 1000 C_q55z 0) T_q55z_s0 X_q55z_s0 R_q55z_s0 ⟨[], [], []⟩ rec kx kr s = q55z_s0 n rec kx kr s := by kernel_rfl
noncomputable def L_q55z {ρ : Type} (n : Nat) : LOrc ρ := lorcCons 0 (loopL 18 0 n T_q55z_s0 X_q55z_s0 R_q55z_s0 ⟨[], [], []⟩ (q55z_s0 n)) (lorcNil)
omit [Tabs] [QuietD Tryd.prog] [UDef] [UTabs] in
theorem e_q55z (n : Nat) (x) : evF Tryd.prog 18 TT M_q55z F_q55z (O_q55z n) (L_q55z n) dorcNil ⟨[], [], []⟩ [.tmp 2] C_q55z x = q55z n x := by kernel_rfl
omit [UDef] [UTabs] in
theorem ok_q55z (n : Nat) : Contract Tryd.prog 79 F_q55z (q55z n) :=
  Contract.of_ev (c := C_q55z) (N := 18) Tryd.func79 (by kernel_rfl) (by kernel_rfl) (by kernel_rfl) (by kernel_rfl) (O_q55z_ok n) dorcNil_ok (.of (l := [(0, (lbody 1000 C_q55z 0))]) (by kernel_rfl) ⟨.head (loopL_sound (O_q55z_ok n) dorcNil_ok (.of (l := []) (by kernel_rfl) trivial) (s_q55z_s0 n)), trivial⟩) (e_q55z n)

noncomputable def C_q53z : Code := bodyOf Tryd.f62
noncomputable def M_q53z : List (Nat × ArgM) := [(58, ⟨[], [], [], true⟩), (80, ⟨[], [], [], true⟩), (81, ⟨[], [], [], true⟩), (79, ⟨[], [], [], true⟩)]
instance : DfOk M_q53z := .none rfl
noncomputable def O_q53z {ρ : Type} (self_q53z : Ev.Val × Ev.Val × Unit → Option (Int × Unit)) (n : Nat) : Orc ρ := orcCons 58 F_q33z (q33z) (orcCons 80 F_q27z (q27z) (orcCons 81 F_q3z (q3z self_q53z n) (orcCons 79 F_q55z (q55z n) (orcNil))))
omit [UDef] [UTabs] in
theorem O_q53z_ok {ρ : Type} (self_q53z : Ev.Val × Ev.Val × Unit → Option (Int × Unit)) (h_q53z : Contract Tryd.prog 62 F_q53z self_q53z) (n : Nat) : (O_q53z self_q53z n : Orc ρ).ok Tryd.prog := orcCons_ok (by kernel_rfl) (ok_q33z) (orcCons_ok (by kernel_rfl) (ok_q27z) (orcCons_ok (by kernel_rfl) (ok_q3z _ h_q53z n) (orcCons_ok (by kernel_rfl) (ok_q55z n) (orcNil_ok))))
noncomputable def L_q53z {ρ : Type} (self_q53z : Ev.Val × Ev.Val × Unit → Option (Int × Unit)) (n : Nat) : LOrc ρ := lorcNil
omit [Tabs] [QuietD Tryd.prog] [UDef] [UTabs] in
theorem e_q53z (self_q53z : Ev.Val × Ev.Val × Unit → Option (Int × Unit)) (n : Nat) (x) : evF Tryd.prog 31 TT M_q53z F_q53z (O_q53z self_q53z n) (L_q53z self_q53z n) (evDraw Tryd.prog 31 TT M_q53z (O_q53z self_q53z n)) ⟨[], [], []⟩ [.tmp 4] C_q53z x = q53z_b self_q53z n x := by kernel_rfl
omit [UDef] [UTabs] in
theorem okb_q53z (self_q53z : Ev.Val × Ev.Val × Unit → Option (Int × Unit)) (h_q53z : Contract Tryd.prog 62 F_q53z self_q53z) (n : Nat) : Contract Tryd.prog 62 F_q53z (q53z_b self_q53z n) :=
  Contract.of_ev (c := C_q53z) (N := 31) Tryd.func62 (by kernel_rfl) (by kernel_rfl) (by kernel_rfl) (by kernel_rfl) (O_q53z_ok self_q53z h_q53z n) (evDraw_ok (O_q53z_ok self_q53z h_q53z n) (by kernel_rfl)) (.of (l := []) (by kernel_rfl) trivial) (e_q53z self_q53z n)
omit [UDef] [UTabs] in
theorem ok_q53z : ∀ n, Contract Tryd.prog 62 F_q53z (q53z n)
  | 0 => fun _ _ h => by cases h
  | n + 1 => okb_q53z _ (ok_q53z n) n

noncomputable def C_q29z : Code := bodyOf Tryd.f61
noncomputable def M_q29z : List (Nat × ArgM) := [(62, ⟨[], [], [], true⟩)]
instance : DfOk M_q29z := .none rfl
noncomputable def O_q29z {ρ : Type} (n : Nat) : Orc ρ := orcCons 62 F_q53z (q53z n) (orcNil)
omit [UDef] [UTabs] in
theorem O_q29z_ok {ρ : Type} (n : Nat) : (O_q29z n : Orc ρ).ok Tryd.prog := orcCons_ok (by kernel_rfl) (ok_q53z n) (orcNil_ok)
noncomputable def L_q29z {ρ : Type} (n : Nat) : LOrc ρ := lorcNil
omit [Tabs] [QuietD Tryd.prog] [UDef] [UTabs] in
theorem e_q29z (n : Nat) (x) : evF Tryd.prog 18 TT M_q29z F_q29z (O_q29z n) (L_q29z n) dorcNil ⟨[], [], []⟩ [.tmp 4] C_q29z x = q29z n x := by kernel_rfl
omit [UDef] [UTabs] in
theorem ok_q29z (n : Nat) : Contract Tryd.prog 61 F_q29z (q29z n) :=
  Contract.of_ev (c := C_q29z) (N := 18) Tryd.func61 (by kernel_rfl) (by kernel_rfl) (by kernel_rfl) (by kernel_rfl) (O_q29z_ok n) dorcNil_ok (.of (l := []) (by kernel_rfl) trivial) (e_q29z n)

noncomputable def C_q4z : Code := bodyOf Tryd.f60
noncomputable def M_q4z : List (Nat × ArgM) := [(61, ⟨[], [], [], true⟩)]
instance : DfOk M_q4z := .none rfl
noncomputable def O_q4z {ρ : Type} (n : Nat) : Orc ρ := orcCons 61 F_q29z (q29z n) (orcNil)
omit [UDef] [UTabs] in
theorem O_q4z_ok {ρ : Type} (n : Nat) : (O_q4z n : Orc ρ).ok Tryd.prog := orcCons_ok (by kernel_rfl) (ok_q29z n) (orcNil_ok)
noncomputable def T_q4z_s0 : Tm := ⟨[(2, .fn 61)], [(1, (.lst .prp)), (15, (.lst .prp)), (16, .i64), (17, .i64)], [], []⟩
noncomputable def X_q4z_s0 : Tm := ⟨[], [], [], []⟩
noncomputable def R_q4z_s0 : Tm := ⟨[], [(6, .bool)], [], []⟩
noncomputable def L_q4z_s0 {ρ : Type} (n : Nat) : LOrc ρ := lorcNil
omit [Tabs] [QuietD Tryd.prog] [UDef] [UTabs] in
theorem s_q4z_s0 {ρ : Type} (n : Nat) (rec : T_q4z_s0.den → Option ρ) kx kr s : dStep Tryd.prog 32 TT M_q4z (O_q4z n) (L_q4z_s0 n) dorcNil 0 (lbody 1000 C_q4z 0) T_q4z_s0 X_q4z_s0 R_q4z_s0 ⟨[], [], []⟩ rec kx kr s = q4z_s0 n rec kx kr s := by kernel_rfl
noncomputable def L_q4z {ρ : Type} (n : Nat) : LOrc ρ := lorcCons 0 (loopL 32 0 n T_q4z_s0 X_q4z_s0 R_q4z_s0 ⟨[], [], []⟩ (q4z_s0 n)) (lorcNil)
omit [Tabs] [QuietD Tryd.prog] [UDef] [UTabs] in
theorem e_q4z (n : Nat) (x) : evF Tryd.prog 32 TT M_q4z F_q4z (O_q4z n) (L_q4z n) dorcNil ⟨[], [], []⟩ [.tmp 6] C_q4z x = q4z n x := by kernel_rfl
omit [UDef] [UTabs] in
theorem ok_q4z (n : Nat) : Contract Tryd.prog 60 F_q4z (q4z n) :=
  Contract.of_ev (c := C_q4z) (N := 32) Tryd.func60 (by kernel_rfl) (by kernel_rfl) (by kernel_rfl) (by kernel_rfl) (O_q4z_ok n) dorcNil_ok (.of (l := [(0, (lbody 1000 C_q4z 0))]) (by kernel_rfl) ⟨.head (loopL_sound (O_q4z_ok n) dorcNil_ok (.of (l := []) (by kernel_rfl) trivial) (s_q4z_s0 n)), trivial⟩) (e_q4z n)

noncomputable def C_q36z : Code := bodyOf Tryd.f38
noncomputable def M_q36z : List (Nat × ArgM) := [(60, ⟨[], [], [], true⟩)]
instance : DfOk M_q36z := .none rfl
noncomputable def O_q36z {ρ : Type} (n : Nat) : Orc ρ := orcCons 60 F_q4z (q4z n) (orcNil)
omit [UDef] [UTabs] in
theorem O_q36z_ok {ρ : Type} (n : Nat) : (O_q36z n : Orc ρ).ok Tryd.prog := orcCons_ok (by kernel_rfl) (ok_q4z n) (orcNil_ok)
noncomputable def L_q36z {ρ : Type} (n : Nat) : LOrc ρ := lorcNil
omit [Tabs] [QuietD Tryd.prog] [UDef] [UTabs] in
theorem e_q36z (n : Nat) (x) : evF Tryd.prog 8 TT M_q36z F_q36z (O_q36z n) (L_q36z n) dorcNil ⟨[], [], []⟩ [.tmp 4] C_q36z x = q36z n x := by kernel_rfl
omit [UDef] [UTabs] in
theorem ok_q36z (n : Nat) : Contract Tryd.prog 38 F_q36z (q36z n) :=
  Contract.of_ev (c := C_q36z) (N := 8) Tryd.func38 (by kernel_rfl) (by kernel_rfl) (by kernel_rfl) (by kernel_rfl) (O_q36z_ok n) dorcNil_ok (.of (l := []) (by kernel_rfl) trivial) (e_q36z n)

noncomputable def C_q41z : Code := bodyOf Tryd.f12
noncomputable def M_q41z : List (Nat × ArgM) := [(37, ⟨[], [], [], true⟩), (38, ⟨[], [], [], true⟩)]
instance : DfOk M_q41z := .none rfl
noncomputable def O_q41z {ρ : Type} (n : Nat) : Orc ρ := orcCons 37 F_q13z (q13z n) (orcCons 38 F_q36z (q36z n) (orcNil))
omit [UDef] [UTabs] in
theorem O_q41z_ok {ρ : Type} (n : Nat) : (O_q41z n : Orc ρ).ok Tryd.prog := orcCons_ok (by kernel_rfl) (ok_q13z n) (orcCons_ok (by kernel_rfl) (ok_q36z n) (orcNil_ok))
noncomputable def L_q41z {ρ : Type} (n : Nat) : LOrc ρ := lorcNil
omit [Tabs] [QuietD Tryd.prog] [UDef] [UTabs] in
theorem e_q41z (n : Nat) (x) : evF Tryd.prog 24 TT M_q41z F_q41z (O_q41z n) (L_q41z n) dorcNil ⟨[], [], []⟩ [.tmp 4] C_q41z x = q41z n x := by kernel_rfl
omit [UDef] [UTabs] in
theorem ok_q41z (n : Nat) : Contract Tryd.prog 12 F_q41z (q41z n) :=
  Contract.of_ev (c := C_q41z) (N := 24) Tryd.func12 (by kernel_rfl) (by kernel_rfl) (by kernel_rfl) (by kernel_rfl) (O_q41z_ok n) dorcNil_ok (.of (l := []) (by kernel_rfl) trivial) (e_q41z n)

noncomputable def C_q17z : Code := bodyOf Tryd.f36
noncomputable def M_q17z : List (Nat × ArgM) := [(12, ⟨[], [], [], true⟩)]
instance : DfOk M_q17z := .none rfl
noncomputable def O_q17z {ρ : Type} (n : Nat) : Orc ρ := orcCons 12 F_q41z (q41z n) (orcNil)
omit [UDef] [UTabs] in
theorem O_q17z_ok {ρ : Type} (n : Nat) : (O_q17z n : Orc ρ).ok Tryd.prog := orcCons_ok (by kernel_rfl) (ok_q41z n) (orcNil_ok)
noncomputable def L_q17z {ρ : Type} (n : Nat) : LOrc ρ := lorcNil
omit [Tabs] [QuietD Tryd.prog] [UDef] [UTabs] in
theorem e_q17z (n : Nat) (x) : evF Tryd.prog 9 TT M_q17z F_q17z (O_q17z n) (L_q17z n) dorcNil ⟨[], [], []⟩ [.tmp 4] C_q17z x = q17z n x := by kernel_rfl
omit [UDef] [UTabs] in
theorem ok_q17z (n : Nat) : Contract Tryd.prog 36 F_q17z (q17z n) :=
  Contract.of_ev (c := C_q17z) (N := 9) Tryd.func36 (by kernel_rfl) (by kernel_rfl) (by kernel_rfl) (by kernel_rfl) (O_q17z_ok n) dorcNil_ok (.of (l := []) (by kernel_rfl) trivial) (e_q17z n)

noncomputable def C_q8z : Code := bodyOf Tryd.f59
noncomputable def M_q8z : List (Nat × ArgM) := [(36, ⟨[1, 2], [], [], false⟩)]
instance : DfOk M_q8z := .none rfl
noncomputable def O_q8z {ρ : Type} (n : Nat) : Orc ρ := orcCons 36 F_q17z (q17z n) (orcNil)
omit [UDef] [UTabs] in
theorem O_q8z_ok {ρ : Type} (n : Nat) : (O_q8z n : Orc ρ).ok Tryd.prog := orcCons_ok (by kernel_rfl) (ok_q17z n) (orcNil_ok)
noncomputable def T_q8z_s0 : Tm := ⟨[(1, .clo 36 [1000000, 1000001])], [(0, (.lst .node)), (7, .i64), (8, .i64)], [(1000000, .box [.ref (.fn 12)]), (1000001, .box [.d .node])], []⟩
noncomputable def X_q8z_s0 : Tm := ⟨[], [], [(1000000, .box [.ref (.fn 12)]), (1000001, .box [.d .node])], []⟩
noncomputable def R_q8z_s0 : Tm := ⟨[], [(4, .i64)], [(1000000, .box [.ref (.fn 12)]), (1000001, .box [.d .node])], []⟩
noncomputable def L_q8z_s0 {ρ : Type} (n : Nat) : LOrc ρ := lorcNil
omit [Tabs] [QuietD Tryd.prog] [UDef] [UTabs] in
theorem s_q8z_s0 {ρ : Type} (n : Nat) (rec : T_q8z_s0.den → Option ρ) kx kr s : dStep Tryd.prog 19 TT M_q8z (O_q8z n) (L_q8z_s0 n) dorcNil 0 (lbody 1000 C_q8z 0) T_q8z_s0 X_q8z_s0 R_q8z_s0 ⟨[], [], []⟩ rec kx kr s = q8z_s0 n rec kx kr s := by kernel_rfl
noncomputable def L_q8z {ρ : Type} (n : Nat) : LOrc ρ := lorcCons 0 (loopL 19 0 n T_q8z_s0 X_q8z_s0 R_q8z_s0 ⟨[], [], []⟩ (q8z_s0 n)) (lorcNil)
omit [Tabs] [QuietD Tryd.prog] [UDef] [UTabs] in
theorem e_q8z (n : Nat) (x) : evF Tryd.prog 19 TT M_q8z F_q8z (O_q8z n) (L_q8z n) dorcNil ⟨[], [], []⟩ [.tmp 4] C_q8z x = q8z n x := by kernel_rfl
omit [UDef] [UTabs] in
theorem ok_q8z (n : Nat) : Contract Tryd.prog 59 F_q8z (q8z n) :=
  Contract.of_ev (c := C_q8z) (N := 19) Tryd.func59 (by kernel_rfl) (by kernel_rfl) (by kernel_rfl) (by kernel_rfl) (O_q8z_ok n) dorcNil_ok (.of (l := [(0, (lbody 1000 C_q8z 0))]) (by kernel_rfl) ⟨.head (loopL_sound (O_q8z_ok n) dorcNil_ok (.of (l := []) (by kernel_rfl) trivial) (s_q8z_s0 n)), trivial⟩) (e_q8z n)

noncomputable def C_q6z : Code := bodyOf Tryd.f35
noncomputable def M_q6z : List (Nat × ArgM) := [(59, ⟨[1], [], [], false⟩)]
instance : DfOk M_q6z := .none rfl
noncomputable def O_q6z {ρ : Type} (n : Nat) : Orc ρ := orcCons 59 F_q8z (q8z n) (orcNil)
omit [UDef] [UTabs] in
theorem O_q6z_ok {ρ : Type} (n : Nat) : (O_q6z n : Orc ρ).ok Tryd.prog := orcCons_ok (by kernel_rfl) (ok_q8z n) (orcNil_ok)
noncomputable def L_q6z {ρ : Type} (n : Nat) : LOrc ρ := lorcNil
omit [Tabs] [QuietD Tryd.prog] [UDef] [UTabs] in
theorem e_q6z (n : Nat) (x) : evF Tryd.prog 9 TT M_q6z F_q6z (O_q6z n) (L_q6z n) dorcNil ⟨[], [], []⟩ [.tmp 4] C_q6z x = q6z n x := by kernel_rfl
omit [UDef] [UTabs] in
theorem ok_q6z (n : Nat) : Contract Tryd.prog 35 F_q6z (q6z n) :=
  Contract.of_ev (c := C_q6z) (N := 9) Tryd.func35 (by kernel_rfl) (by kernel_rfl) (by kernel_rfl) (by kernel_rfl) (O_q6z_ok n) dorcNil_ok (.of (l := []) (by kernel_rfl) trivial) (e_q6z n)

noncomputable def F_q38z : FnT := ⟨1, ⟨[], [(0, .node)], [], []⟩, [.v .node], []⟩
noncomputable def F_q12z : FnT := ⟨1, ⟨[], [(0, (.lst .str))], [], []⟩, [.v (.lst .str)], []⟩
noncomputable def C_q12z : Code := bodyOf Tryd.f39
noncomputable def M_q12z : List (Nat × ArgM) := []
instance : DfOk M_q12z := .none rfl
noncomputable def O_q12z {ρ : Type} : Orc ρ := orcNil
omit [QuietD Tryd.prog] [UDef] [UTabs] in
theorem O_q12z_ok {ρ : Type} : (O_q12z : Orc ρ).ok Tryd.prog := orcNil_ok
noncomputable def L_q12z {ρ : Type} : LOrc ρ := lorcNil
omit [Tabs] [QuietD Tryd.prog] [UDef] [UTabs] in
theorem e_q12z (x) : evF Tryd.prog 8 TT M_q12z F_q12z (O_q12z) (L_q12z) dorcNil ⟨[], [], []⟩ [.tmp 2] C_q12z x = q12z x := by kernel_rfl
omit [UDef] [UTabs] in
theorem ok_q12z : Contract Tryd.prog 39 F_q12z (q12z) :=
  Contract.of_ev (c := C_q12z) (N := 8) Tryd.func39 (by kernel_rfl) (by kernel_rfl) (by kernel_rfl) (by kernel_rfl) (O_q12z_ok) dorcNil_ok (.of (l := []) (by kernel_rfl) trivial) (e_q12z)

noncomputable def F_q35z : FnT := ⟨1, ⟨[], [(0, (.lst .prp))], [], []⟩, [.v (.lst .prp)], []⟩
noncomputable def F_q58z : FnT := ⟨1, ⟨[], [(0, .val)], [], []⟩, [.v .val], []⟩
noncomputable def C_q58z : Code := bodyOf Tryd.f63
noncomputable def M_q58z : List (Nat × ArgM) := []
instance : DfOk M_q58z := .none rfl
noncomputable def O_q58z {ρ : Type} (self_q58z : Ev.Val × Unit → Option (Ev.Val × Unit)) (n : Nat) : Orc ρ := orcCons 63 F_q58z (self_q58z) (orcNil)
omit [QuietD Tryd.prog] [UDef] [UTabs] in
theorem O_q58z_ok {ρ : Type} (self_q58z : Ev.Val × Unit → Option (Ev.Val × Unit)) (h_q58z : Contract Tryd.prog 63 F_q58z self_q58z) (n : Nat) : (O_q58z self_q58z n : Orc ρ).ok Tryd.prog := orcCons_ok (by kernel_rfl) (h_q58z) (orcNil_ok)
noncomputable def T_q58z_s0 : Tm := ⟨[(1, .ptr 1 0), (2, .ptr 2 0)], [(9, (.lst .val)), (10, .i64), (11, .i64)], [(1, .box [.d .i64, .d .i64, .d .str, .ref (.own 300043)]), (2, .box [.d .val]), (300043, .arr 55 .val)], []⟩
noncomputable def X_q58z_s0 : Tm := ⟨[(1, .ptr 1 0), (2, .ptr 2 0)], [], [(1, .box [.d .i64, .d .i64, .d .str, .ref (.own 300043)]), (2, .box [.d .val]), (300043, .arr 55 .val)], []⟩
noncomputable def R_q58z_s0 : Tm := ⟨[], [], [], []⟩
noncomputable def L_q58z_s0 {ρ : Type} (self_q58z : Ev.Val × Unit → Option (Ev.Val × Unit)) (n : Nat) : LOrc ρ := lorcNil
omit [Tabs] [QuietD Tryd.prog] [UDef] [UTabs] in
theorem s_q58z_s0 {ρ : Type} (self_q58z : Ev.Val × Unit → Option (Ev.Val × Unit)) (n : Nat) (rec : T_q58z_s0.den → Option ρ) kx kr s : dStep Tryd.prog 24 TT M_q58z (O_q58z self_q58z n) (L_q58z_s0 self_q58z n) (evDraw Tryd.prog 24 TT M_q58z (O_q58z self_q58z n)) 0 (lbody 1000 C_q58z 0) T_q58z_s0 X_q58z_s0 R_q58z_s0 ⟨[], [], [(1, 3, 300043, 55, 4)]⟩ rec kx kr s = q58z_s0 self_q58z n rec kx kr s := by kernel_rfl
noncomputable def L_q58z {ρ : Type} (self_q58z : Ev.Val × Unit → Option (Ev.Val × Unit)) (n : Nat) : LOrc ρ := lorcCons 0 (loopL 24 0 n T_q58z_s0 X_q58z_s0 R_q58z_s0 ⟨[], [], [(1, 3, 300043, 55, 4)]⟩ (q58z_s0 self_q58z n)) (lorcNil)
omit [Tabs] [QuietD Tryd.prog] [UDef] [UTabs] in
theorem e_q58z (self_q58z : Ev.Val × Unit → Option (Ev.Val × Unit)) (n : Nat) (x) : evF Tryd.prog 24 TT M_q58z F_q58z (O_q58z self_q58z n) (L_q58z self_q58z n) (evDraw Tryd.prog 24 TT M_q58z (O_q58z self_q58z n)) ⟨[], [], []⟩ [.cell 2 55] C_q58z x = q58z_b self_q58z n x := by kernel_rfl
omit [UDef] [UTabs] in
theorem okb_q58z (self_q58z : Ev.Val × Unit → Option (Ev.Val × Unit)) (h_q58z : Contract Tryd.prog 63 F_q58z self_q58z) (n : Nat) : Contract Tryd.prog 63 F_q58z (q58z_b self_q58z n) :=
  Contract.of_ev (c := C_q58z) (N := 24) Tryd.func63 (by kernel_rfl) (by kernel_rfl) (by kernel_rfl) (by kernel_rfl) (O_q58z_ok self_q58z h_q58z n) (evDraw_ok (O_q58z_ok self_q58z h_q58z n) (by kernel_rfl)) (.of (l := [(0, (lbody 1000 C_q58z 0))]) (by kernel_rfl) ⟨.head (loopL_sound (O_q58z_ok self_q58z h_q58z n) (evDraw_ok (O_q58z_ok self_q58z h_q58z n) (by kernel_rfl)) (.of (l := []) (by kernel_rfl) trivial) (s_q58z_s0 self_q58z n)), trivial⟩) (e_q58z self_q58z n)
omit [UDef] [UTabs] in
theorem ok_q58z : ∀ n, Contract Tryd.prog 63 F_q58z (q58z n)
  | 0 => fun _ _ h => by cases h
  | n + 1 => okb_q58z _ (ok_q58z n) n

noncomputable def C_q35z : Code := bodyOf Tryd.f40
noncomputable def M_q35z : List (Nat × ArgM) := []
instance : DfOk M_q35z := .none rfl
noncomputable def O_q35z {ρ : Type} (n : Nat) : Orc ρ := orcCons 63 F_q58z (q58z n) (orcNil)
omit [UDef] [UTabs] in
theorem O_q35z_ok {ρ : Type} (n : Nat) : (O_q35z n : Orc ρ).ok Tryd.prog := orcCons_ok (by kernel_rfl) (ok_q58z n) (orcNil_ok)
noncomputable def T_q35z_s0 : Tm := ⟨[(3, .own 3)], [(6, (.lst .prp)), (7, .i64), (8, .i64)], [(3, .arr 87 .prp)], []⟩
noncomputable def X_q35z_s0 : Tm := ⟨[(3, .own 3)], [], [(3, .arr 87 .prp)], []⟩
noncomputable def R_q35z_s0 : Tm := ⟨[], [], [], []⟩
noncomputable def L_q35z_s0 {ρ : Type} (n : Nat) : LOrc ρ := lorcNil
omit [Tabs] [QuietD Tryd.prog] [UDef] [UTabs] in
theorem s_q35z_s0 {ρ : Type} (n : Nat) (rec : T_q35z_s0.den → Option ρ) kx kr s : dStep Tryd.prog 22 TT M_q35z (O_q35z n) (L_q35z_s0 n) dorcNil 0 (lbody 1000 C_q35z 0) T_q35z_s0 X_q35z_s0 R_q35z_s0 ⟨[], [(3, 3, 87, 5)], []⟩ rec kx kr s = q35z_s0 n rec kx kr s := by kernel_rfl
noncomputable def L_q35z {ρ : Type} (n : Nat) : LOrc ρ := lorcCons 0 (loopL 22 0 n T_q35z_s0 X_q35z_s0 R_q35z_s0 ⟨[], [(3, 3, 87, 5)], []⟩ (q35z_s0 n)) (lorcNil)
omit [Tabs] [QuietD Tryd.prog] [UDef] [UTabs] in
theorem e_q35z (n : Nat) (x) : evF Tryd.prog 22 TT M_q35z F_q35z (O_q35z n) (L_q35z n) dorcNil ⟨[], [], []⟩ [.tmp 2] C_q35z x = q35z n x := by kernel_rfl
omit [UDef] [UTabs] in
theorem ok_q35z (n : Nat) : Contract Tryd.prog 40 F_q35z (q35z n) :=
  Contract.of_ev (c := C_q35z) (N := 22) Tryd.func40 (by kernel_rfl) (by kernel_rfl) (by kernel_rfl) (by kernel_rfl) (O_q35z_ok n) dorcNil_ok (.of (l := [(0, (lbody 1000 C_q35z 0))]) (by kernel_rfl) ⟨.head (loopL_sound (O_q35z_ok n) dorcNil_ok (.of (l := []) (by kernel_rfl) trivial) (s_q35z_s0 n)), trivial⟩) (e_q35z n)

noncomputable def C_q38z : Code := bodyOf Tryd.f13
noncomputable def M_q38z : List (Nat × ArgM) := []
instance : DfOk M_q38z := .none rfl
noncomputable def O_q38z {ρ : Type} (n : Nat) : Orc ρ := orcCons 39 F_q12z (q12z) (orcCons 40 F_q35z (q35z n) (orcNil))
omit [UDef] [UTabs] in
theorem O_q38z_ok {ρ : Type} (n : Nat) : (O_q38z n : Orc ρ).ok Tryd.prog := orcCons_ok (by kernel_rfl) (ok_q12z) (orcCons_ok (by kernel_rfl) (ok_q35z n) (orcNil_ok))
noncomputable def L_q38z {ρ : Type} (n : Nat) : LOrc ρ := lorcNil
omit [Tabs] [QuietD Tryd.prog] [UDef] [UTabs] in
theorem e_q38z (n : Nat) (x) : evF Tryd.prog 12 TT M_q38z F_q38z (O_q38z n) (L_q38z n) dorcNil ⟨[], [], []⟩ [.cell 2 44] C_q38z x = q38z n x := by kernel_rfl
omit [UDef] [UTabs] in
theorem ok_q38z (n : Nat) : Contract Tryd.prog 13 F_q38z (q38z n) :=
  Contract.of_ev (c := C_q38z) (N := 12) Tryd.func13 (by kernel_rfl) (by kernel_rfl) (by kernel_rfl) (by kernel_rfl) (O_q38z_ok n) dorcNil_ok (.of (l := []) (by kernel_rfl) trivial) (e_q38z n)

noncomputable def C_q11z : Code := bodyOf Tryd.f11
noncomputable def M_q11z : List (Nat × ArgM) := [(35, ⟨[1], [], [], false⟩)]
instance : DfOk M_q11z := .none rfl
noncomputable def O_q11z {ρ : Type} (n : Nat) : Orc ρ := orcCons 35 F_q6z (q6z n) (orcCons 13 F_q38z (q38z n) (orcNil))
omit [UDef] [UTabs] in
theorem O_q11z_ok {ρ : Type} (n : Nat) : (O_q11z n : Orc ρ).ok Tryd.prog := orcCons_ok (by kernel_rfl) (ok_q6z n) (orcCons_ok (by kernel_rfl) (ok_q38z n) (orcNil_ok))
noncomputable def T_q11z_s0 : Tm := ⟨[(3, .fn 13), (6, .ptr 6 0), (9, .own 9)], [(1, (.lst .node)), (12, (.lst .node)), (13, .i64), (14, .i64)], [(6, .box [.ref (.fn 12)]), (9, .arr 44 .node)], []⟩
noncomputable def X_q11z_s0 : Tm := ⟨[(9, .own 9)], [], [(9, .arr 44 .node)], []⟩
noncomputable def R_q11z_s0 : Tm := ⟨[], [], [], []⟩
noncomputable def L_q11z_s0 {ρ : Type} (n : Nat) : LOrc ρ := lorcNil
omit [Tabs] [QuietD Tryd.prog] [UDef] [UTabs] in
theorem s_q11z_s0 {ρ : Type} (n : Nat) (rec : T_q11z_s0.den → Option ρ) kx kr s : dStep Tryd.prog 30 TT M_q11z (O_q11z n) (L_q11z_s0 n) dorcNil 0 (lbody 1000 C_q11z 0) T_q11z_s0 X_q11z_s0 R_q11z_s0 ⟨[], [(9, 9, 44, 3)], []⟩ rec kx kr s = q11z_s0 n rec kx kr s := by kernel_rfl
noncomputable def L_q11z {ρ : Type} (n : Nat) : LOrc ρ := lorcCons 0 (loopL 30 0 n T_q11z_s0 X_q11z_s0 R_q11z_s0 ⟨[], [(9, 9, 44, 3)], []⟩ (q11z_s0 n)) (lorcNil)
omit [Tabs] [QuietD Tryd.prog] [UDef] [UTabs] in
theorem e_q11z (n : Nat) (x) : evF Tryd.prog 30 TT M_q11z F_q11z (O_q11z n) (L_q11z n) dorcNil ⟨[], [], []⟩ [.tmp 8] C_q11z x = q11z n x := by kernel_rfl
omit [UDef] [UTabs] in
theorem ok_q11z (n : Nat) : Contract Tryd.prog 11 F_q11z (q11z n) :=
  Contract.of_ev (c := C_q11z) (N := 30) Tryd.func11 (by kernel_rfl) (by kernel_rfl) (by kernel_rfl) (by kernel_rfl) (O_q11z_ok n) dorcNil_ok (.of (l := [(0, (lbody 1000 C_q11z 0))]) (by kernel_rfl) ⟨.head (loopL_sound (O_q11z_ok n) dorcNil_ok (.of (l := []) (by kernel_rfl) trivial) (s_q11z_s0 n)), trivial⟩) (e_q11z n)

noncomputable def F_q10z : FnT := ⟨4, ⟨[(2, .fn 15), (3, .fn 16)], [(0, (.lst .edg)), (1, (.lst .edg))], [], []⟩, [.v (.lst .edg)], []⟩
noncomputable def F_q5z : FnT := ⟨2, ⟨[(1, .clo 42 [1000000, 1000001])], [(0, (.lst .edg))], [(1000000, .box [.ref (.fn 15)]), (1000001, .box [.d .edg])], []⟩, [.v .bool], [(1000000, .box [.ref (.fn 15)]), (1000001, .box [.d .edg])]⟩
noncomputable def F_q7z : FnT := ⟨2, ⟨[(1, .clo 42 [1000000, 1000001])], [(0, (.lst .edg))], [(1000000, .box [.ref (.fn 15)]), (1000001, .box [.d .edg])], []⟩, [.v .i64], [(1000000, .box [.ref (.fn 15)]), (1000001, .box [.d .edg])]⟩
noncomputable def F_q16z : FnT := ⟨3, ⟨[(1, .ptr 1000000 0), (2, .ptr 1000016 0)], [(0, .edg)], [(1000000, .box [.ref (.fn 15)]), (1000016, .box [.d .edg])], []⟩, [.v .bool], [(1000000, .box [.ref (.fn 15)]), (1000016, .box [.d .edg])]⟩
noncomputable def F_q40z : FnT := ⟨2, ⟨[], [(0, .edg), (1, .edg)], [], []⟩, [.v .bool], []⟩
noncomputable def C_q40z : Code := bodyOf Tryd.f15
noncomputable def M_q40z : List (Nat × ArgM) := [(38, ⟨[], [], [], true⟩)]
instance : DfOk M_q40z := .none rfl
noncomputable def O_q40z {ρ : Type} (n : Nat) : Orc ρ := orcCons 38 F_q36z (q36z n) (orcNil)
omit [UDef] [UTabs] in
theorem O_q40z_ok {ρ : Type} (n : Nat) : (O_q40z n : Orc ρ).ok Tryd.prog := orcCons_ok (by kernel_rfl) (ok_q36z n) (orcNil_ok)
noncomputable def L_q40z {ρ : Type} (n : Nat) : LOrc ρ := lorcNil
omit [Tabs] [QuietD Tryd.prog] [UDef] [UTabs] in
theorem e_q40z (n : Nat) (x) : evF Tryd.prog 38 TT M_q40z F_q40z (O_q40z n) (L_q40z n) dorcNil ⟨[], [], []⟩ [.tmp 4] C_q40z x = q40z n x := by kernel_rfl
omit [UDef] [UTabs] in
theorem ok_q40z (n : Nat) : Contract Tryd.prog 15 F_q40z (q40z n) :=
  Contract.of_ev (c := C_q40z) (N := 38) Tryd.func15 (by kernel_rfl) (by kernel_rfl) (by kernel_rfl) (by kernel_rfl) (O_q40z_ok n) dorcNil_ok (.of (l := []) (by kernel_rfl) trivial) (e_q40z n)

noncomputable def C_q16z : Code := bodyOf Tryd.f42
noncomputable def M_q16z : List (Nat × ArgM) := [(15, ⟨[], [], [], true⟩)]
instance : DfOk M_q16z := .none rfl
noncomputable def O_q16z {ρ : Type} (n : Nat) : Orc ρ := orcCons 15 F_q40z (q40z n) (orcNil)
omit [UDef] [UTabs] in
theorem O_q16z_ok {ρ : Type} (n : Nat) : (O_q16z n : Orc ρ).ok Tryd.prog := orcCons_ok (by kernel_rfl) (ok_q40z n) (orcNil_ok)
noncomputable def L_q16z {ρ : Type} (n : Nat) : LOrc ρ := lorcNil
omit [Tabs] [QuietD Tryd.prog] [UDef] [UTabs] in
theorem e_q16z (n : Nat) (x) : evF Tryd.prog 9 TT M_q16z F_q16z (O_q16z n) (L_q16z n) dorcNil ⟨[], [], []⟩ [.tmp 4] C_q16z x = q16z n x := by kernel_rfl
omit [UDef] [UTabs] in
theorem ok_q16z (n : Nat) : Contract Tryd.prog 42 F_q16z (q16z n) :=
  Contract.of_ev (c := C_q16z) (N := 9) Tryd.func42 (by kernel_rfl) (by kernel_rfl) (by kernel_rfl) (by kernel_rfl) (O_q16z_ok n) dorcNil_ok (.of (l := []) (by kernel_rfl) trivial) (e_q16z n)

noncomputable def C_q7z : Code := bodyOf Tryd.f64
noncomputable def M_q7z : List (Nat × ArgM) := [(42, ⟨[1, 2], [], [], false⟩)]
instance : DfOk M_q7z := .none rfl
noncomputable def O_q7z {ρ : Type} (n : Nat) : Orc ρ := orcCons 42 F_q16z (q16z n) (orcNil)
omit [UDef] [UTabs] in
theorem O_q7z_ok {ρ : Type} (n : Nat) : (O_q7z n : Orc ρ).ok Tryd.prog := orcCons_ok (by kernel_rfl) (ok_q16z n) (orcNil_ok)
noncomputable def T_q7z_s0 : Tm := ⟨[(1, .clo 42 [1000000, 1000001])], [(0, (.lst .edg)), (7, .i64), (8, .i64)], [(1000000, .box [.ref (.fn 15)]), (1000001, .box [.d .edg])], []⟩
noncomputable def X_q7z_s0 : Tm := ⟨[], [], [(1000000, .box [.ref (.fn 15)]), (1000001, .box [.d .edg])], []⟩
noncomputable def R_q7z_s0 : Tm := ⟨[], [(4, .i64)], [(1000000, .box [.ref (.fn 15)]), (1000001, .box [.d .edg])], []⟩
noncomputable def L_q7z_s0 {ρ : Type} (n : Nat) : LOrc ρ := lorcNil
omit [Tabs] [QuietD Tryd.prog] [UDef] [UTabs] in
theorem s_q7z_s0 {ρ : Type} (n : Nat) (rec : T_q7z_s0.den → Option ρ) kx kr s : dStep Tryd.prog 19 TT M_q7z (O_q7z n) (L_q7z_s0 n) dorcNil 0 (lbody 1000 C_q7z 0) T_q7z_s0 X_q7z_s0 R_q7z_s0 ⟨[], [], []⟩ rec kx kr s = q7z_s0 n rec kx kr s := by kernel_rfl
noncomputable def L_q7z {ρ : Type} (n : Nat) : LOrc ρ := lorcCons 0 (loopL 19 0 n T_q7z_s0 X_q7z_s0 R_q7z_s0 ⟨[], [], []⟩ (q7z_s0 n)) (lorcNil)
omit [Tabs] [QuietD Tryd.prog] [UDef] [UTabs] in
theorem e_q7z (n : Nat) (x) : evF Tryd.prog 19 TT M_q7z F_q7z (O_q7z n) (L_q7z n) dorcNil ⟨[], [], []⟩ [.tmp 4] C_q7z x = q7z n x := by kernel_rfl
omit [UDef] [UTabs] in
theorem ok_q7z (n : Nat) : Contract Tryd.prog 64 F_q7z (q7z n) :=
  Contract.of_ev (c := C_q7z) (N := 19) Tryd.func64 (by kernel_rfl) (by kernel_rfl) (by kernel_rfl) (by kernel_rfl) (O_q7z_ok n) dorcNil_ok (.of (l := [(0, (lbody 1000 C_q7z 0))]) (by kernel_rfl) ⟨.head (loopL_sound (O_q7z_ok n) dorcNil_ok (.of (l := []) (by kernel_rfl) trivial) (s_q7z_s0 n)), trivial⟩) (e_q7z n)

noncomputable def C_q5z : Code := bodyOf Tryd.f41
noncomputable def M_q5z : List (Nat × ArgM) := [(64, ⟨[1], [], [], false⟩)]
instance : DfOk M_q5z := .none rfl
noncomputable def O_q5z {ρ : Type} (n : Nat) : Orc ρ := orcCons 64 F_q7z (q7z n) (orcNil)
omit [UDef] [UTabs] in
theorem O_q5z_ok {ρ : Type} (n : Nat) : (O_q5z n : Orc ρ).ok Tryd.prog := orcCons_ok (by kernel_rfl) (ok_q7z n) (orcNil_ok)
noncomputable def L_q5z {ρ : Type} (n : Nat) : LOrc ρ := lorcNil
omit [Tabs] [QuietD Tryd.prog] [UDef] [UTabs] in
theorem e_q5z (n : Nat) (x) : evF Tryd.prog 9 TT M_q5z F_q5z (O_q5z n) (L_q5z n) dorcNil ⟨[], [], []⟩ [.tmp 4] C_q5z x = q5z n x := by kernel_rfl
omit [UDef] [UTabs] in
theorem ok_q5z (n : Nat) : Contract Tryd.prog 41 F_q5z (q5z n) :=
  Contract.of_ev (c := C_q5z) (N := 9) Tryd.func41 (by kernel_rfl) (by kernel_rfl) (by kernel_rfl) (by kernel_rfl) (O_q5z_ok n) dorcNil_ok (.of (l := []) (by kernel_rfl) trivial) (e_q5z n)

noncomputable def F_q37z : FnT := ⟨1, ⟨[], [(0, .edg)], [], []⟩, [.v .edg], []⟩
noncomputable def C_q37z : Code := bodyOf Tryd.f16
noncomputable def M_q37z : List (Nat × ArgM) := []
instance : DfOk M_q37z := .none rfl
noncomputable def O_q37z {ρ : Type} (n : Nat) : Orc ρ := orcCons 40 F_q35z (q35z n) (orcNil)
omit [UDef] [UTabs] in
theorem O_q37z_ok {ρ : Type} (n : Nat) : (O_q37z n : Orc ρ).ok Tryd.prog := orcCons_ok (by kernel_rfl) (ok_q35z n) (orcNil_ok)
noncomputable def L_q37z {ρ : Type} (n : Nat) : LOrc ρ := lorcNil
omit [Tabs] [QuietD Tryd.prog] [UDef] [UTabs] in
theorem e_q37z (n : Nat) (x) : evF Tryd.prog 8 TT M_q37z F_q37z (O_q37z n) (L_q37z n) dorcNil ⟨[], [], []⟩ [.cell 2 49] C_q37z x = q37z n x := by kernel_rfl
omit [UDef] [UTabs] in
theorem ok_q37z (n : Nat) : Contract Tryd.prog 16 F_q37z (q37z n) :=
  Contract.of_ev (c := C_q37z) (N := 8) Tryd.func16 (by kernel_rfl) (by kernel_rfl) (by kernel_rfl) (by kernel_rfl) (O_q37z_ok n) dorcNil_ok (.of (l := []) (by kernel_rfl) trivial) (e_q37z n)

noncomputable def C_q10z : Code := bodyOf Tryd.f14
noncomputable def M_q10z : List (Nat × ArgM) := [(41, ⟨[1], [], [], false⟩)]
instance : DfOk M_q10z := .none rfl
noncomputable def O_q10z {ρ : Type} (n : Nat) : Orc ρ := orcCons 41 F_q5z (q5z n) (orcCons 16 F_q37z (q37z n) (orcNil))
omit [UDef] [UTabs] in
theorem O_q10z_ok {ρ : Type} (n : Nat) : (O_q10z n : Orc ρ).ok Tryd.prog := orcCons_ok (by kernel_rfl) (ok_q5z n) (orcCons_ok (by kernel_rfl) (ok_q37z n) (orcNil_ok))
noncomputable def T_q10z_s0 : Tm := ⟨[(3, .fn 16), (6, .ptr 6 0), (9, .own 9)], [(1, (.lst .edg)), (12, (.lst .edg)), (13, .i64), (14, .i64)], [(6, .box [.ref (.fn 15)]), (9, .arr 49 .edg)], []⟩
noncomputable def X_q10z_s0 : Tm := ⟨[(9, .own 9)], [], [(9, .arr 49 .edg)], []⟩
noncomputable def R_q10z_s0 : Tm := ⟨[], [], [], []⟩
noncomputable def L_q10z_s0 {ρ : Type} (n : Nat) : LOrc ρ := lorcNil
omit [Tabs] [QuietD Tryd.prog] [UDef] [UTabs] in
theorem s_q10z_s0 {ρ : Type} (n : Nat) (rec : T_q10z_s0.den → Option ρ) kx kr s : dStep Tryd.prog 30 TT M_q10z (O_q10z n) (L_q10z_s0 n) dorcNil 0 (lbody 1000 C_q10z 0) T_q10z_s0 X_q10z_s0 R_q10z_s0 ⟨[], [(9, 9, 49, 5)], []⟩ rec kx kr s = q10z_s0 n rec kx kr s := by kernel_rfl
noncomputable def L_q10z {ρ : Type} (n : Nat) : LOrc ρ := lorcCons 0 (loopL 30 0 n T_q10z_s0 X_q10z_s0 R_q10z_s0 ⟨[], [(9, 9, 49, 5)], []⟩ (q10z_s0 n)) (lorcNil)
omit [Tabs] [QuietD Tryd.prog] [UDef] [UTabs] in
theorem e_q10z (n : Nat) (x) : evF Tryd.prog 30 TT M_q10z F_q10z (O_q10z n) (L_q10z n) dorcNil ⟨[], [], []⟩ [.tmp 8] C_q10z x = q10z n x := by kernel_rfl
omit [UDef] [UTabs] in
theorem ok_q10z (n : Nat) : Contract Tryd.prog 14 F_q10z (q10z n) :=
  Contract.of_ev (c := C_q10z) (N := 30) Tryd.func14 (by kernel_rfl) (by kernel_rfl) (by kernel_rfl) (by kernel_rfl) (O_q10z_ok n) dorcNil_ok (.of (l := [(0, (lbody 1000 C_q10z 0))]) (by kernel_rfl) ⟨.head (loopL_sound (O_q10z_ok n) dorcNil_ok (.of (l := []) (by kernel_rfl) trivial) (s_q10z_s0 n)), trivial⟩) (e_q10z n)

noncomputable def C_q49z : Code := bodyOf Tryd.f4
noncomputable def M_q49z : List (Nat × ArgM) := [(10, ⟨[], [], [], true⟩)]
instance : DfOk M_q49z := .none rfl
noncomputable def O_q49z {ρ : Type} (n : Nat) : Orc ρ := orcCons 10 F_q47z (q47z n) (orcCons 11 F_q11z (q11z n) (orcCons 14 F_q10z (q10z n) (orcNil)))
omit [UDef] in
theorem O_q49z_ok {ρ : Type} (n : Nat) : (O_q49z n : Orc ρ).ok Tryd.prog := orcCons_ok (by kernel_rfl) (ok_q47z n) (orcCons_ok (by kernel_rfl) (ok_q11z n) (orcCons_ok (by kernel_rfl) (ok_q10z n) (orcNil_ok)))
noncomputable def T_q49z_s0 : Tm := ⟨[(2, .ptr 2 0), (3, .ptr 3 0), (4, .ptr 4 0)], [(12, (.two .graph)), (13, .i64)], [(2, .box [.d .graph]), (3, .box [.d .graph]), (4, .box [.d .delta])], []⟩
noncomputable def X_q49z_s0 : Tm := ⟨[(2, .ptr 2 0), (3, .ptr 3 0), (4, .ptr 4 0)], [], [(2, .box [.d .graph]), (3, .box [.d .graph]), (4, .box [.d .delta])], []⟩
noncomputable def R_q49z_s0 : Tm := ⟨[(4, .ptr 4 0)], [(5, .i64)], [(4, .box [.d .delta])], []⟩
noncomputable def L_q49z_s0 {ρ : Type} (n : Nat) : LOrc ρ := lorcNil
omit [Tabs] [QuietD Tryd.prog] [UDef] [UTabs] in
theorem s_q49z_s0 {ρ : Type} (n : Nat) (rec : T_q49z_s0.den → Option ρ) kx kr s : dStep Tryd.prog 53 TT M_q49z (O_q49z n) (L_q49z_s0 n) dorcNil 0 (lbody 1000 C_q49z 0) T_q49z_s0 X_q49z_s0 R_q49z_s0 ⟨[], [], []⟩ rec kx kr s = q49z_s0 n rec kx kr s := by kernel_rfl
noncomputable def L_q49z {ρ : Type} (n : Nat) : LOrc ρ := lorcCons 0 (loopL 53 0 n T_q49z_s0 X_q49z_s0 R_q49z_s0 ⟨[], [], []⟩ (q49z_s0 n)) (lorcNil)
omit [Tabs] [QuietD Tryd.prog] [UDef] [UTabs] in
theorem e_q49z (n : Nat) (x) : evF Tryd.prog 53 TT M_q49z F_q49z (O_q49z n) (L_q49z n) dorcNil ⟨[], [], []⟩ [.cell 4 27, .tmp 5] C_q49z x = q49z n x := by kernel_rfl
omit [UDef] in
theorem ok_q49z (n : Nat) : Contract Tryd.prog 4 F_q49z (q49z n) :=
  Contract.of_ev (c := C_q49z) (N := 53) Tryd.func4 (by kernel_rfl) (by kernel_rfl) (by kernel_rfl) (by kernel_rfl) (O_q49z_ok n) dorcNil_ok (.of (l := [(0, (lbody 1000 C_q49z 0))]) (by kernel_rfl) ⟨.head (loopL_sound (O_q49z_ok n) dorcNil_ok (.of (l := []) (by kernel_rfl) trivial) (s_q49z_s0 n)), trivial⟩) (e_q49z n)

noncomputable def F_q25z : FnT := ⟨0, ⟨[], [], [], []⟩, [.v .bool], []⟩
noncomputable def F_q28z : FnT := ⟨0, ⟨[], [], [], []⟩, [.v .graph], []⟩
noncomputable def F_q34z : FnT := ⟨1, ⟨[], [(0, .i64)], [], []⟩, [.v .val], []⟩
noncomputable def C_q34z : Code := bodyOf Tryd.f43
noncomputable def M_q34z : List (Nat × ArgM) := []
instance : DfOk M_q34z := .none rfl
noncomputable def O_q34z {ρ : Type} : Orc ρ := orcNil
omit [QuietD Tryd.prog] [UDef] [UTabs] in
theorem O_q34z_ok {ρ : Type} : (O_q34z : Orc ρ).ok Tryd.prog := orcNil_ok
noncomputable def L_q34z {ρ : Type} : LOrc ρ := lorcNil
omit [Tabs] [QuietD Tryd.prog] [UDef] [UTabs] in
theorem e_q34z (x) : evF Tryd.prog 5 TT M_q34z F_q34z (O_q34z) (L_q34z) dorcNil ⟨[], [], []⟩ [.cell 2 55] C_q34z x = q34z x := by kernel_rfl
omit [UDef] [UTabs] in
theorem ok_q34z : Contract Tryd.prog 43 F_q34z (q34z) :=
  Contract.of_ev (c := C_q34z) (N := 5) Tryd.func43 (by kernel_rfl) (by kernel_rfl) (by kernel_rfl) (by kernel_rfl) (O_q34z_ok) dorcNil_ok (.of (l := []) (by kernel_rfl) trivial) (e_q34z)

noncomputable def C_q28z : Code := bodyOf Tryd.f17
noncomputable def M_q28z : List (Nat × ArgM) := []
instance : DfOk M_q28z := .none rfl
noncomputable def O_q28z {ρ : Type} : Orc ρ := orcCons 43 F_q34z (q34z) (orcNil)
omit [UDef] [UTabs] in
theorem O_q28z_ok {ρ : Type} : (O_q28z : Orc ρ).ok Tryd.prog := orcCons_ok (by kernel_rfl) (ok_q34z) (orcNil_ok)
noncomputable def L_q28z {ρ : Type} : LOrc ρ := lorcNil
omit [Tabs] [QuietD Tryd.prog] [UDef] [UTabs] in
theorem e_q28z (x) : evF Tryd.prog 11 TT M_q28z F_q28z (O_q28z) (L_q28z) dorcNil ⟨[], [], []⟩ [.cell 0 25] C_q28z x = q28z x := by kernel_rfl
omit [UDef] [UTabs] in
theorem ok_q28z : Contract Tryd.prog 17 F_q28z (q28z) :=
  Contract.of_ev (c := C_q28z) (N := 11) Tryd.func17 (by kernel_rfl) (by kernel_rfl) (by kernel_rfl) (by kernel_rfl) (O_q28z_ok) dorcNil_ok (.of (l := []) (by kernel_rfl) trivial) (e_q28z)

noncomputable def F_txn_Apply : FnT := ⟨2, ⟨[], [(0, .graph), (1, (.lst .opn))], [], []⟩, [.v .graph, .v (.lst .i64), .v .i64, .v .i64], []⟩
noncomputable def F_q39z : FnT := ⟨1, ⟨[], [(0, .graph)], [], []⟩, [.mix [.ref (.own 300120), .ref (.own 300121), .d .i64]], [(300120, .arr 44 .node), (300121, .arr 49 .edg)]⟩
noncomputable def C_q39z : Code := bodyOf Tryd.f19
noncomputable def M_q39z : List (Nat × ArgM) := []
instance : DfOk M_q39z := .none rfl
noncomputable def O_q39z {ρ : Type} (n : Nat) : Orc ρ := orcCons 13 F_q38z (q38z n) (orcCons 16 F_q37z (q37z n) (orcNil))
omit [UDef] [UTabs] in
theorem O_q39z_ok {ρ : Type} (n : Nat) : (O_q39z n : Orc ρ).ok Tryd.prog := orcCons_ok (by kernel_rfl) (ok_q38z n) (orcCons_ok (by kernel_rfl) (ok_q37z n) (orcNil_ok))
noncomputable def T_q39z_s0 : Tm := ⟨[(1, .ptr 1 0), (2, .ptr 2 0), (3, .ptr 3 0)], [(12, (.lst .node)), (13, .i64), (14, .i64)], [(1, .box [.d .graph]), (2, .box [.d .graph]), (3, .box [.ref (.own 300120), .ref (.nils), .d .i64]), (300120, .arr 44 .node)], []⟩
noncomputable def X_q39z_s0 : Tm := ⟨[(1, .ptr 1 0), (2, .ptr 2 0), (3, .ptr 3 0)], [], [(1, .box [.d .graph]), (2, .box [.d .graph]), (3, .box [.ref (.own 300120), .ref (.nils), .d .i64]), (300120, .arr 44 .node)], []⟩
noncomputable def R_q39z_s0 : Tm := ⟨[], [], [], []⟩
noncomputable def L_q39z_s0 {ρ : Type} (n : Nat) : LOrc ρ := lorcNil
omit [Tabs] [QuietD Tryd.prog] [UDef] [UTabs] in
theorem s_q39z_s0 {ρ : Type} (n : Nat) (rec : T_q39z_s0.den → Option ρ) kx kr s : dStep Tryd.prog 42 TT M_q39z (O_q39z n) (L_q39z_s0 n) (evDraw Tryd.prog 42 TT M_q39z (O_q39z n)) 0 (lbody 1000 C_q39z 0) T_q39z_s0 X_q39z_s0 R_q39z_s0 ⟨[], [], [(3, 0, 300120, 44, 3)]⟩ rec kx kr s = q39z_s0 n rec kx kr s := by kernel_rfl
noncomputable def T_q39z_s2 : Tm := ⟨[(2, .ptr 2 0), (3, .ptr 3 0)], [(27, (.lst .edg)), (28, .i64), (29, .i64)], [(2, .box [.d .graph]), (3, .box [.ref (.own 300120), .ref (.own 300121), .d .i64]), (300120, .arr 44 .node), (300121, .arr 49 .edg)], []⟩
noncomputable def X_q39z_s2 : Tm := ⟨[(2, .ptr 2 0), (3, .ptr 3 0)], [], [(2, .box [.d .graph]), (3, .box [.ref (.own 300120), .ref (.own 300121), .d .i64]), (300120, .arr 44 .node), (300121, .arr 49 .edg)], []⟩
noncomputable def R_q39z_s2 : Tm := ⟨[], [], [], []⟩
noncomputable def L_q39z_s2 {ρ : Type} (n : Nat) : LOrc ρ := lorcNil
omit [Tabs] [QuietD Tryd.prog] [UDef] [UTabs] in
theorem s_q39z_s2 {ρ : Type} (n : Nat) (rec : T_q39z_s2.den → Option ρ) kx kr s : dStep Tryd.prog 42 TT M_q39z (O_q39z n) (L_q39z_s2 n) (evDraw Tryd.prog 42 TT M_q39z (O_q39z n)) 2 (lbody 1000 C_q39z 1) T_q39z_s2 X_q39z_s2 R_q39z_s2 ⟨[], [], [(3, 1, 300121, 49, 5)]⟩ rec kx kr s = q39z_s2 n rec kx kr s := by kernel_rfl
noncomputable def L_q39z {ρ : Type} (n : Nat) : LOrc ρ := lorcCons 0 (loopL 42 0 n T_q39z_s0 X_q39z_s0 R_q39z_s0 ⟨[], [], [(3, 0, 300120, 44, 3)]⟩ (q39z_s0 n)) (lorcCons 2 (loopL 42 2 n T_q39z_s2 X_q39z_s2 R_q39z_s2 ⟨[], [], [(3, 1, 300121, 49, 5)]⟩ (q39z_s2 n)) (lorcNil))
omit [Tabs] [QuietD Tryd.prog] [UDef] [UTabs] in
theorem e_q39z (n : Nat) (x) : evF Tryd.prog 42 TT M_q39z F_q39z (O_q39z n) (L_q39z n) (evDraw Tryd.prog 42 TT M_q39z (O_q39z n)) ⟨[], [], []⟩ [.cell 2 25] C_q39z x = q39z n x := by kernel_rfl
omit [UDef] [UTabs] in
theorem ok_q39z (n : Nat) : Contract Tryd.prog 19 F_q39z (q39z n) :=
  Contract.of_ev (c := C_q39z) (N := 42) Tryd.func19 (by kernel_rfl) (by kernel_rfl) (by kernel_rfl) (by kernel_rfl) (O_q39z_ok n) (evDraw_ok (O_q39z_ok n) (by kernel_rfl)) (.of (l := [(0, (lbody 1000 C_q39z 0)), (2, (lbody 1000 C_q39z 1))]) (by kernel_rfl) ⟨.head (loopL_sound (O_q39z_ok n) (evDraw_ok (O_q39z_ok n) (by kernel_rfl)) (.of (l := []) (by kernel_rfl) trivial) (s_q39z_s0 n)), ⟨.tail rfl (.head (loopL_sound (O_q39z_ok n) (evDraw_ok (O_q39z_ok n) (by kernel_rfl)) (.of (l := []) (by kernel_rfl) trivial) (s_q39z_s2 n))), trivial⟩⟩) (e_q39z n)

noncomputable def F_q50z : FnT := ⟨2, ⟨[(0, .ptr 1000000 0)], [(1, .opn)], [(1000000, .box [.ref (.own 1000001), .ref (.own 1000002), .d .i64, .ref (.own 1000003)]), (1000001, .arr 44 .node), (1000002, .arr 49 .edg), (1000003, .arr 3 .i64)], []⟩, [.v .i64], [(1000000, .box [.ref (.own 1000001), .ref (.own 1000002), .d .i64, .ref (.own 1000003)]), (1000001, .arr 44 .node), (1000002, .arr 49 .edg), (1000003, .arr 3 .i64)]⟩
noncomputable def F_q42z : FnT := ⟨2, ⟨[], [(1, .i64)], [], [(1000000, [.rp [.graph, (.lst .i64)]])]⟩, [.v .i64], []⟩
noncomputable def C_q42z : Code := bodyOf Tryd.f45
noncomputable def M_q42z : List (Nat × ArgM) := []
instance : DfOk M_q42z := .none rfl
noncomputable def O_q42z {ρ : Type} : Orc ρ := orcNil
omit [QuietD Tryd.prog] [UDef] [UTabs] in
theorem O_q42z_ok {ρ : Type} : (O_q42z : Orc ρ).ok Tryd.prog := orcNil_ok
noncomputable def L_q42z {ρ : Type} : LOrc ρ := lorcNil
omit [Tabs] [QuietD Tryd.prog] [UDef] [UTabs] in
theorem e_q42z (x) : evF Tryd.prog 27 TT M_q42z F_q42z (O_q42z) (L_q42z) dorcNil ⟨[], [], []⟩ [.tmp 4] C_q42z x = q42z x := by kernel_rfl
omit [UDef] [UTabs] in
theorem ok_q42z : Contract Tryd.prog 45 F_q42z (q42z) :=
  Contract.of_ev (c := C_q42z) (N := 27) Tryd.func45 (by kernel_rfl) (by kernel_rfl) (by kernel_rfl) (by kernel_rfl) (O_q42z_ok) dorcNil_ok (.of (l := []) (by kernel_rfl) trivial) (e_q42z)

noncomputable def F_q30z : FnT := ⟨1, ⟨[(0, .ptr 1000000 0)], [], [(1000000, .box [.ref (.own 1000001), .ref (.own 1000002), .d .i64, .ref (.own 1000003)]), (1000001, .arr 44 .node), (1000002, .arr 49 .edg), (1000003, .arr 3 .i64)], []⟩, [.v .i64, .v .i64], [(1000000, .box [.ref (.own 1000001), .ref (.own 1000002), .d .i64, .ref (.own 1000003)]), (1000001, .arr 44 .node), (1000002, .arr 49 .edg), (1000003, .arr 3 .i64)]⟩
noncomputable def C_q30z : Code := bodyOf Tryd.f44
noncomputable def M_q30z : List (Nat × ArgM) := []
instance : DfOk M_q30z := .none rfl
noncomputable def O_q30z {ρ : Type} : Orc ρ := orcNil
omit [QuietD Tryd.prog] [UDef] [UTabs] in
theorem O_q30z_ok {ρ : Type} : (O_q30z : Orc ρ).ok Tryd.prog := orcNil_ok
noncomputable def L_q30z {ρ : Type} : LOrc ρ := lorcNil
omit [Tabs] [QuietD Tryd.prog] [UDef] [UTabs] in
theorem e_q30z (x) : evF Tryd.prog 36 TT M_q30z F_q30z (O_q30z) (L_q30z) dorcNil ⟨[], [], []⟩ [.tmp 2, .tmp 3] C_q30z x = q30z x := by kernel_rfl
omit [UDef] [UTabs] in
theorem ok_q30z : Contract Tryd.prog 44 F_q30z (q30z) :=
  Contract.of_ev (c := C_q30z) (N := 36) Tryd.func44 (by kernel_rfl) (by kernel_rfl) (by kernel_rfl) (by kernel_rfl) (O_q30z_ok) dorcNil_ok (.of (l := []) (by kernel_rfl) trivial) (e_q30z)

noncomputable def C_q50z : Code := bodyOf Tryd.f21
noncomputable def M_q50z : List (Nat × ArgM) := [(999999999, ⟨[1], [], [], false⟩), (44, ⟨[0], [], [], false⟩), (45, ⟨[], [], [], true⟩), (33, ⟨[], [], [], true⟩), (34, ⟨[], [], [], true⟩), (32, ⟨[], [], [], true⟩)]
instance : DfOk M_q50z := .none rfl
noncomputable def O_q50z {ρ : Type} (n : Nat) : Orc ρ := orcCons 45 F_q42z (q42z) (orcCons 33 F_q56z (q56z n) (orcCons 34 F_q57z (q57z n) (orcCons 32 F_q48z (q48z n) (orcCons 44 F_q30z (q30z) (orcCons 16 F_q37z (q37z n) (orcNil))))))
omit [UDef] in
theorem O_q50z_ok {ρ : Type} (n : Nat) : (O_q50z n : Orc ρ).ok Tryd.prog := orcCons_ok (by kernel_rfl) (ok_q42z) (orcCons_ok (by kernel_rfl) (ok_q56z n) (orcCons_ok (by kernel_rfl) (ok_q57z n) (orcCons_ok (by kernel_rfl) (ok_q48z n) (orcCons_ok (by kernel_rfl) (ok_q30z) (orcCons_ok (by kernel_rfl) (ok_q37z n) (orcNil_ok))))))
noncomputable def L_q50z {ρ : Type} (n : Nat) : LOrc ρ := lorcNil
omit [Tabs] [QuietD Tryd.prog] [UDef] [UTabs] in
theorem e_q50z (n : Nat) (x) : evF Tryd.prog 77 TT M_q50z F_q50z (O_q50z n) (L_q50z n) (evDraw Tryd.prog 77 TT M_q50z (O_q50z n)) ⟨[], [], []⟩ [.tmp 4] C_q50z x = q50z n x := by kernel_rfl
omit [UDef] in
theorem ok_q50z (n : Nat) : Contract Tryd.prog 21 F_q50z (q50z n) :=
  Contract.of_ev (c := C_q50z) (N := 77) Tryd.func21 (by kernel_rfl) (by kernel_rfl) (by kernel_rfl) (by kernel_rfl) (O_q50z_ok n) (evDraw_ok (O_q50z_ok n) (by kernel_rfl)) (.of (l := []) (by kernel_rfl) trivial) (e_q50z n)

noncomputable def F_q51z : FnT := ⟨2, ⟨[(0, .ptr 1000000 0)], [(1, .opn)], [(1000000, .box [.ref (.own 1000001), .ref (.own 1000002), .d .i64, .ref (.own 1000003)]), (1000001, .arr 44 .node), (1000002, .arr 49 .edg), (1000003, .arr 3 .i64)], []⟩, [.v .i64], [(1000000, .box [.ref (.own 1000001), .ref (.own 1000002), .d .i64, .ref (.own 1000003)]), (1000001, .arr 44 .node), (1000002, .arr 49 .edg), (1000003, .arr 3 .i64)]⟩
noncomputable def C_q51z : Code := bodyOf Tryd.f20
noncomputable def M_q51z : List (Nat × ArgM) := [(999999999, ⟨[1], [], [], false⟩), (44, ⟨[0], [], [], false⟩), (31, ⟨[], [], [], true⟩), (32, ⟨[], [], [], true⟩)]
instance : DfOk M_q51z := .none rfl
noncomputable def O_q51z {ρ : Type} (n : Nat) : Orc ρ := orcCons 31 F_q46z (q46z n) (orcCons 32 F_q48z (q48z n) (orcCons 44 F_q30z (q30z) (orcCons 13 F_q38z (q38z n) (orcNil))))
omit [UDef] in
theorem O_q51z_ok {ρ : Type} (n : Nat) : (O_q51z n : Orc ρ).ok Tryd.prog := orcCons_ok (by kernel_rfl) (ok_q46z n) (orcCons_ok (by kernel_rfl) (ok_q48z n) (orcCons_ok (by kernel_rfl) (ok_q30z) (orcCons_ok (by kernel_rfl) (ok_q38z n) (orcNil_ok))))
noncomputable def L_q51z {ρ : Type} (n : Nat) : LOrc ρ := lorcNil
omit [Tabs] [QuietD Tryd.prog] [UDef] [UTabs] in
theorem e_q51z (n : Nat) (x) : evF Tryd.prog 52 TT M_q51z F_q51z (O_q51z n) (L_q51z n) (evDraw Tryd.prog 52 TT M_q51z (O_q51z n)) ⟨[], [], []⟩ [.tmp 4] C_q51z x = q51z n x := by kernel_rfl
omit [UDef] in
theorem ok_q51z (n : Nat) : Contract Tryd.prog 20 F_q51z (q51z n) :=
  Contract.of_ev (c := C_q51z) (N := 52) Tryd.func20 (by kernel_rfl) (by kernel_rfl) (by kernel_rfl) (by kernel_rfl) (O_q51z_ok n) (evDraw_ok (O_q51z_ok n) (by kernel_rfl)) (.of (l := []) (by kernel_rfl) trivial) (e_q51z n)

noncomputable def C_txn_Apply : Code := bodyOf Tryd.f6
noncomputable def M_txn_Apply : List (Nat × ArgM) := [(999999994, ⟨[50], [], [], false⟩), (1600000013, ⟨[12, 0, 1, 2], [], [], false⟩), (21, ⟨[0], [], [], false⟩), (20, ⟨[0], [], [], false⟩), (10, ⟨[], [], [], true⟩), (19, ⟨[], [], [300120, 300121], false⟩)]
instance : DfOk M_txn_Apply := .none rfl
noncomputable def O_txn_Apply {ρ : Type} (n : Nat) : Orc ρ := orcCons 10 F_q47z (q47z n) (orcCons 19 F_q39z (q39z n) (orcCons 21 F_q50z (q50z n) (orcCons 20 F_q51z (q51z n) (orcNil))))
omit [UDef] in
theorem O_txn_Apply_ok {ρ : Type} (n : Nat) : (O_txn_Apply n : Orc ρ).ok Tryd.prog := orcCons_ok (by kernel_rfl) (ok_q47z n) (orcCons_ok (by kernel_rfl) (ok_q39z n) (orcCons_ok (by kernel_rfl) (ok_q50z n) (orcCons_ok (by kernel_rfl) (ok_q51z n) (orcNil_ok))))
noncomputable def T_txn_Apply_s0 : Tm := ⟨[(4, .ptr 4 0), (9, .ptr 27 0), (10, .ptr 10 0)], [(29, (.lst .opn)), (30, .i64), (31, .i64)], [(4, .box [.d .graph]), (10, .box [.ref (.nilf), .ref (.fn 20), .ref (.fn 21), .ref (.fn 22), .ref (.fn 23), .ref (.fn 24), .ref (.fn 25), .ref (.fn 25)]), (25, .arr 44 .node), (27, .box [.ref (.own 25), .ref (.own 2025), .d .i64, .ref (.own 301083)]), (2025, .arr 49 .edg), (301083, .arr 3 .i64)], []⟩
noncomputable def X_txn_Apply_s0 : Tm := ⟨[(4, .ptr 4 0), (9, .ptr 27 0)], [], [(4, .box [.d .graph]), (25, .arr 44 .node), (27, .box [.ref (.own 25), .ref (.own 2025), .d .i64, .ref (.own 301083)]), (2025, .arr 49 .edg), (301083, .arr 3 .i64)], []⟩
noncomputable def R_txn_Apply_s0 : Tm := ⟨[(4, .ptr 4 0)], [(5, (.lst .i64)), (6, .i64), (7, .i64)], [(4, .box [.d .graph])], []⟩
noncomputable def L_txn_Apply_s0 {ρ : Type} (n : Nat) : LOrc ρ := lorcNil
omit [Tabs] [QuietD Tryd.prog] [UDef] [UTabs] in
theorem s_txn_Apply_s0 {ρ : Type} (n : Nat) (rec : T_txn_Apply_s0.den → Option ρ) kx kr s : dStep Tryd.prog 65 TT M_txn_Apply (O_txn_Apply n) (L_txn_Apply_s0 n) (evDraw Tryd.prog 65 TT M_txn_Apply (O_txn_Apply n)) 0 (lbody 1000 C_txn_Apply 0) T_txn_Apply_s0 X_txn_Apply_s0 R_txn_Apply_s0 ⟨[], [], [(27, 3, 301083, 3, 1)]⟩ rec kx kr s = txn_Apply_s0 n rec kx kr s := by kernel_rfl
noncomputable def L_txn_Apply {ρ : Type} (n : Nat) : LOrc ρ := lorcCons 0 (loopL 65 0 n T_txn_Apply_s0 X_txn_Apply_s0 R_txn_Apply_s0 ⟨[], [], [(27, 3, 301083, 3, 1)]⟩ (txn_Apply_s0 n)) (lorcNil)
omit [Tabs] [QuietD Tryd.prog] [UDef] [UTabs] in
theorem e_txn_Apply (n : Nat) (x) : evF Tryd.prog 65 TT M_txn_Apply F_txn_Apply (O_txn_Apply n) (L_txn_Apply n) (evDraw Tryd.prog 65 TT M_txn_Apply (O_txn_Apply n)) ⟨[], [], []⟩ [.cell 4 25, .tmp 5, .tmp 6, .tmp 7] C_txn_Apply x = txn_Apply n x := by kernel_rfl
omit [UDef] in
theorem ok_txn_Apply (n : Nat) : Contract Tryd.prog 6 F_txn_Apply (txn_Apply n) :=
  Contract.of_ev (c := C_txn_Apply) (N := 65) Tryd.func6 (by kernel_rfl) (by kernel_rfl) (by kernel_rfl) (by kernel_rfl) (O_txn_Apply_ok n) (evDraw_ok (O_txn_Apply_ok n) (by kernel_rfl)) (.of (l := [(0, (lbody 1000 C_txn_Apply 0))]) (by kernel_rfl) ⟨.head (loopL_sound (O_txn_Apply_ok n) (evDraw_ok (O_txn_Apply_ok n) (by kernel_rfl)) (.of (l := []) (by kernel_rfl) trivial) (s_txn_Apply_s0 n)), trivial⟩) (e_txn_Apply n)

noncomputable def F_q24z : FnT := ⟨2, ⟨[], [(0, (.lst .i64)), (1, (.lst .i64))], [], []⟩, [.v .bool], []⟩
noncomputable def C_q24z : Code := bodyOf Tryd.f18
noncomputable def M_q24z : List (Nat × ArgM) := []
instance : DfOk M_q24z := .none rfl
noncomputable def O_q24z {ρ : Type} (n : Nat) : Orc ρ := orcNil
omit [QuietD Tryd.prog] [UDef] [UTabs] in
theorem O_q24z_ok {ρ : Type} (n : Nat) : (O_q24z n : Orc ρ).ok Tryd.prog := orcNil_ok
noncomputable def T_q24z_s0 : Tm := ⟨[], [(0, (.lst .i64)), (1, (.lst .i64)), (12, .i64), (13, .i64)], [], []⟩
noncomputable def X_q24z_s0 : Tm := ⟨[], [], [], []⟩
noncomputable def R_q24z_s0 : Tm := ⟨[], [(4, .bool)], [], []⟩
noncomputable def L_q24z_s0 {ρ : Type} (n : Nat) : LOrc ρ := lorcNil
omit [Tabs] [QuietD Tryd.prog] [UDef] [UTabs] in
theorem s_q24z_s0 {ρ : Type} (n : Nat) (rec : T_q24z_s0.den → Option ρ) kx kr s : dStep Tryd.prog 26 TT M_q24z (O_q24z n) (L_q24z_s0 n) (evDraw Tryd.prog 26 TT M_q24z (O_q24z n)) 0 (lbody 1000 C_q24z 0) T_q24z_s0 X_q24z_s0 R_q24z_s0 ⟨[], [], []⟩ rec kx kr s = q24z_s0 n rec kx kr s := by kernel_rfl
noncomputable def L_q24z {ρ : Type} (n : Nat) : LOrc ρ := lorcCons 0 (loopL 26 0 n T_q24z_s0 X_q24z_s0 R_q24z_s0 ⟨[], [], []⟩ (q24z_s0 n)) (lorcNil)
omit [Tabs] [QuietD Tryd.prog] [UDef] [UTabs] in
theorem e_q24z (n : Nat) (x) : evF Tryd.prog 26 TT M_q24z F_q24z (O_q24z n) (L_q24z n) (evDraw Tryd.prog 26 TT M_q24z (O_q24z n)) ⟨[], [], []⟩ [.tmp 4] C_q24z x = q24z n x := by kernel_rfl
omit [UDef] [UTabs] in
theorem ok_q24z (n : Nat) : Contract Tryd.prog 18 F_q24z (q24z n) :=
  Contract.of_ev (c := C_q24z) (N := 26) Tryd.func18 (by kernel_rfl) (by kernel_rfl) (by kernel_rfl) (by kernel_rfl) (O_q24z_ok n) (evDraw_ok (O_q24z_ok n) (by kernel_rfl)) (.of (l := [(0, (lbody 1000 C_q24z 0))]) (by kernel_rfl) ⟨.head (loopL_sound (O_q24z_ok n) (evDraw_ok (O_q24z_ok n) (by kernel_rfl)) (.of (l := []) (by kernel_rfl) trivial) (s_q24z_s0 n)), trivial⟩) (e_q24z n)

noncomputable def C_q25z : Code := bodyOf Tryd.f5
noncomputable def M_q25z : List (Nat × ArgM) := [(18, ⟨[], [], [], true⟩)]
instance : DfOk M_q25z := .none rfl
noncomputable def O_q25z {ρ : Type} (n : Nat) : Orc ρ := orcCons 17 F_q28z (q28z) (orcCons 6 F_txn_Apply (txn_Apply n) (orcCons 18 F_q24z (q24z n) (orcNil)))
omit [UDef] in
theorem O_q25z_ok {ρ : Type} (n : Nat) : (O_q25z n : Orc ρ).ok Tryd.prog := orcCons_ok (by kernel_rfl) (ok_q28z) (orcCons_ok (by kernel_rfl) (ok_txn_Apply n) (orcCons_ok (by kernel_rfl) (ok_q24z n) (orcNil_ok)))
noncomputable def L_q25z {ρ : Type} (n : Nat) : LOrc ρ := lorcNil
omit [Tabs] [QuietD Tryd.prog] [UDef] [UTabs] in
theorem e_q25z (n : Nat) (x) : evF Tryd.prog 46 TT M_q25z F_q25z (O_q25z n) (L_q25z n) dorcNil ⟨[], [], []⟩ [.tmp 0] C_q25z x = q25z n x := by kernel_rfl
omit [UDef] in
theorem ok_q25z (n : Nat) : Contract Tryd.prog 5 F_q25z (q25z n) :=
  Contract.of_ev (c := C_q25z) (N := 46) Tryd.func5 (by kernel_rfl) (by kernel_rfl) (by kernel_rfl) (by kernel_rfl) (O_q25z_ok n) dorcNil_ok (.of (l := []) (by kernel_rfl) trivial) (e_q25z n)

noncomputable def F_q19z : FnT := ⟨2, ⟨[], [(0, .graph), (1, .graph)], [], []⟩, [.v .bool], []⟩
noncomputable def F_q2z : FnT := ⟨3, ⟨[(2, .fn 27)], [(0, (.lst .node)), (1, (.lst .node))], [], []⟩, [.v .bool], []⟩
noncomputable def F_q23z : FnT := ⟨2, ⟨[], [(0, .node), (1, .node)], [], []⟩, [.v .bool], []⟩
noncomputable def F_q20z : FnT := ⟨2, ⟨[], [(0, (.lst .prp)), (1, (.lst .prp))], [], []⟩, [.v .bool], []⟩
noncomputable def F_q0z : FnT := ⟨3, ⟨[(2, .fn 76)], [(0, (.lst .prp)), (1, (.lst .prp))], [], []⟩, [.v .bool], []⟩
noncomputable def F_q14z : FnT := ⟨2, ⟨[], [(0, .prp), (1, .prp)], [], []⟩, [.v .bool], []⟩
noncomputable def F_q21z : FnT := ⟨2, ⟨[], [(0, .val), (1, .val)], [], []⟩, [.v .bool], []⟩
noncomputable def F_q26z : FnT := ⟨2, ⟨[], [(0, .val), (1, .val)], [], []⟩, [.v .i64], []⟩
noncomputable def F_q43z : FnT := ⟨2, ⟨[], [(0, (.lst .u8)), (1, (.lst .u8))], [], []⟩, [.v .i64], []⟩
noncomputable def C_q43z : Code := bodyOf Tryd.f91
noncomputable def M_q43z : List (Nat × ArgM) := []
instance : DfOk M_q43z := .none rfl
noncomputable def O_q43z {ρ : Type} : Orc ρ := orcCons 93 T_cmpB (cmpN) (orcNil)
omit [QuietD Tryd.prog] [UDef] [UTabs] in
theorem O_q43z_ok {ρ : Type} : (O_q43z : Orc ρ).ok Tryd.prog := orcExt_ok (by kernel_rfl) (cmp_ok) (orcNil_ok)
noncomputable def L_q43z {ρ : Type} : LOrc ρ := lorcNil
omit [Tabs] [QuietD Tryd.prog] [UDef] [UTabs] in
theorem e_q43z (x) : evF Tryd.prog 8 TT M_q43z F_q43z (O_q43z) (L_q43z) dorcNil ⟨[], [], []⟩ [.tmp 4] C_q43z x = q43z x := by kernel_rfl
omit [UDef] [UTabs] in
theorem ok_q43z : Contract Tryd.prog 91 F_q43z (q43z) :=
  Contract.of_ev (c := C_q43z) (N := 8) Tryd.func91 (by kernel_rfl) (by kernel_rfl) (by kernel_rfl) (by kernel_rfl) (O_q43z_ok) dorcNil_ok (.of (l := []) (by kernel_rfl) trivial) (e_q43z)

noncomputable def C_q26z : Code := bodyOf Tryd.f87
noncomputable def M_q26z : List (Nat × ArgM) := [(91, ⟨[], [], [], true⟩), (87, ⟨[], [], [], true⟩)]
instance : DfOk M_q26z := .none rfl
noncomputable def O_q26z {ρ : Type} (self_q26z : Ev.Val × Ev.Val × Unit → Option (Int × Unit)) (n : Nat) : Orc ρ := orcCons 91 F_q43z (q43z) (orcCons 87 F_q26z (self_q26z) (orcNil))
omit [UDef] [UTabs] in
theorem O_q26z_ok {ρ : Type} (self_q26z : Ev.Val × Ev.Val × Unit → Option (Int × Unit)) (h_q26z : Contract Tryd.prog 87 F_q26z self_q26z) (n : Nat) : (O_q26z self_q26z n : Orc ρ).ok Tryd.prog := orcCons_ok (by kernel_rfl) (ok_q43z) (orcCons_ok (by kernel_rfl) (h_q26z) (orcNil_ok))
noncomputable def T_q26z_s1 : Tm := ⟨[(2, .ptr 2 0), (3, .ptr 3 0)], [(5, .i64)], [(2, .box [.d .val]), (3, .box [.d .val])], []⟩
noncomputable def X_q26z_s1 : Tm := ⟨[(2, .ptr 2 0), (3, .ptr 3 0)], [], [(2, .box [.d .val]), (3, .box [.d .val])], []⟩
noncomputable def R_q26z_s1 : Tm := ⟨[], [(4, .i64)], [], []⟩
noncomputable def L_q26z_s1 {ρ : Type} (self_q26z : Ev.Val × Ev.Val × Unit → Option (Int × Unit)) (n : Nat) : LOrc ρ := lorcNil
omit [Tabs] [QuietD Tryd.prog] [UDef] [UTabs] in
theorem s_q26z_s1 {ρ : Type} (self_q26z : Ev.Val × Ev.Val × Unit → Option (Int × Unit)) (n : Nat) (rec : T_q26z_s1.den → Option ρ) kx kr s : dStep Tryd.prog 88 TT M_q26z (O_q26z self_q26z n) (L_q26z_s1 self_q26z n) (evDraw Tryd.prog 88 TT M_q26z (O_q26z self_q26z n)) 1 (lbody 1000 C_q26z 0) T_q26z_s1 X_q26z_s1 R_q26z_s1 ⟨[], [], []⟩ rec kx kr s = q26z_s1 self_q26z n rec kx kr s := by kernel_rfl
noncomputable def L_q26z {ρ : Type} (self_q26z : Ev.Val × Ev.Val × Unit → Option (Int × Unit)) (n : Nat) : LOrc ρ := lorcCons 1 (loopL 88 1 n T_q26z_s1 X_q26z_s1 R_q26z_s1 ⟨[], [], []⟩ (q26z_s1 self_q26z n)) (lorcNil)
omit [Tabs] [QuietD Tryd.prog] [UDef] [UTabs] in
theorem e_q26z (self_q26z : Ev.Val × Ev.Val × Unit → Option (Int × Unit)) (n : Nat) (x) : evF Tryd.prog 88 TT M_q26z F_q26z (O_q26z self_q26z n) (L_q26z self_q26z n) (evDraw Tryd.prog 88 TT M_q26z (O_q26z self_q26z n)) ⟨[], [], []⟩ [.tmp 4] C_q26z x = q26z_b self_q26z n x := by kernel_rfl
omit [UDef] [UTabs] in
theorem okb_q26z (self_q26z : Ev.Val × Ev.Val × Unit → Option (Int × Unit)) (h_q26z : Contract Tryd.prog 87 F_q26z self_q26z) (n : Nat) : Contract Tryd.prog 87 F_q26z (q26z_b self_q26z n) :=
  Contract.of_ev (c := C_q26z) (N := 88) Tryd.func87 (by kernel_rfl) (by kernel_rfl) (by kernel_rfl) (by kernel_rfl) (O_q26z_ok self_q26z h_q26z n) (evDraw_ok (O_q26z_ok self_q26z h_q26z n) (by kernel_rfl)) (.of (l := [(1, (lbody 1000 C_q26z 0))]) (by kernel_rfl) ⟨.head (loopL_sound (O_q26z_ok self_q26z h_q26z n) (evDraw_ok (O_q26z_ok self_q26z h_q26z n) (by kernel_rfl)) (.of (l := []) (by kernel_rfl) trivial) (s_q26z_s1 self_q26z n)), trivial⟩) (e_q26z self_q26z n)
omit [UDef] [UTabs] in
theorem ok_q26z : ∀ n, Contract Tryd.prog 87 F_q26z (q26z n)
  | 0 => fun _ _ h => by cases h
  | n + 1 => okb_q26z _ (ok_q26z n) n

noncomputable def C_q21z : Code := bodyOf Tryd.f77
noncomputable def M_q21z : List (Nat × ArgM) := [(87, ⟨[], [], [], true⟩)]
instance : DfOk M_q21z := .none rfl
noncomputable def O_q21z {ρ : Type} (n : Nat) : Orc ρ := orcCons 87 F_q26z (q26z n) (orcNil)
omit [UDef] [UTabs] in
theorem O_q21z_ok {ρ : Type} (n : Nat) : (O_q21z n : Orc ρ).ok Tryd.prog := orcCons_ok (by kernel_rfl) (ok_q26z n) (orcNil_ok)
noncomputable def L_q21z {ρ : Type} (n : Nat) : LOrc ρ := lorcNil
omit [Tabs] [QuietD Tryd.prog] [UDef] [UTabs] in
theorem e_q21z (n : Nat) (x) : evF Tryd.prog 9 TT M_q21z F_q21z (O_q21z n) (L_q21z n) dorcNil ⟨[], [], []⟩ [.tmp 4] C_q21z x = q21z n x := by kernel_rfl
omit [UDef] [UTabs] in
theorem ok_q21z (n : Nat) : Contract Tryd.prog 77 F_q21z (q21z n) :=
  Contract.of_ev (c := C_q21z) (N := 9) Tryd.func77 (by kernel_rfl) (by kernel_rfl) (by kernel_rfl) (by kernel_rfl) (O_q21z_ok n) dorcNil_ok (.of (l := []) (by kernel_rfl) trivial) (e_q21z n)

noncomputable def C_q14z : Code := bodyOf Tryd.f76
noncomputable def M_q14z : List (Nat × ArgM) := [(77, ⟨[], [], [], true⟩)]
instance : DfOk M_q14z := .none rfl
noncomputable def O_q14z {ρ : Type} (n : Nat) : Orc ρ := orcCons 77 F_q21z (q21z n) (orcNil)
omit [UDef] [UTabs] in
theorem O_q14z_ok {ρ : Type} (n : Nat) : (O_q14z n : Orc ρ).ok Tryd.prog := orcCons_ok (by kernel_rfl) (ok_q21z n) (orcNil_ok)
noncomputable def L_q14z {ρ : Type} (n : Nat) : LOrc ρ := lorcNil
omit [Tabs] [QuietD Tryd.prog] [UDef] [UTabs] in
theorem e_q14z (n : Nat) (x) : evF Tryd.prog 17 TT M_q14z F_q14z (O_q14z n) (L_q14z n) dorcNil ⟨[], [], []⟩ [.tmp 4] C_q14z x = q14z n x := by kernel_rfl
omit [UDef] [UTabs] in
theorem ok_q14z (n : Nat) : Contract Tryd.prog 76 F_q14z (q14z n) :=
  Contract.of_ev (c := C_q14z) (N := 17) Tryd.func76 (by kernel_rfl) (by kernel_rfl) (by kernel_rfl) (by kernel_rfl) (O_q14z_ok n) dorcNil_ok (.of (l := []) (by kernel_rfl) trivial) (e_q14z n)

noncomputable def C_q0z : Code := bodyOf Tryd.f60
noncomputable def M_q0z : List (Nat × ArgM) := [(76, ⟨[], [], [], true⟩)]
instance : DfOk M_q0z := .none rfl
noncomputable def O_q0z {ρ : Type} (n : Nat) : Orc ρ := orcCons 76 F_q14z (q14z n) (orcNil)
omit [UDef] [UTabs] in
theorem O_q0z_ok {ρ : Type} (n : Nat) : (O_q0z n : Orc ρ).ok Tryd.prog := orcCons_ok (by kernel_rfl) (ok_q14z n) (orcNil_ok)
noncomputable def T_q0z_s0 : Tm := ⟨[(2, .fn 76)], [(1, (.lst .prp)), (15, (.lst .prp)), (16, .i64), (17, .i64)], [], []⟩
noncomputable def X_q0z_s0 : Tm := ⟨[], [], [], []⟩
noncomputable def R_q0z_s0 : Tm := ⟨[], [(6, .bool)], [], []⟩
noncomputable def L_q0z_s0 {ρ : Type} (n : Nat) : LOrc ρ := lorcNil
omit [Tabs] [QuietD Tryd.prog] [UDef] [UTabs] in
theorem s_q0z_s0 {ρ : Type} (n : Nat) (rec : T_q0z_s0.den → Option ρ) kx kr s : dStep Tryd.prog 32 TT M_q0z (O_q0z n) (L_q0z_s0 n) dorcNil 0 (lbody 1000 C_q0z 0) T_q0z_s0 X_q0z_s0 R_q0z_s0 ⟨[], [], []⟩ rec kx kr s = q0z_s0 n rec kx kr s := by kernel_rfl
noncomputable def L_q0z {ρ : Type} (n : Nat) : LOrc ρ := lorcCons 0 (loopL 32 0 n T_q0z_s0 X_q0z_s0 R_q0z_s0 ⟨[], [], []⟩ (q0z_s0 n)) (lorcNil)
omit [Tabs] [QuietD Tryd.prog] [UDef] [UTabs] in
theorem e_q0z (n : Nat) (x) : evF Tryd.prog 32 TT M_q0z F_q0z (O_q0z n) (L_q0z n) dorcNil ⟨[], [], []⟩ [.tmp 6] C_q0z x = q0z n x := by kernel_rfl
omit [UDef] [UTabs] in
theorem ok_q0z (n : Nat) : Contract Tryd.prog 60 F_q0z (q0z n) :=
  Contract.of_ev (c := C_q0z) (N := 32) Tryd.func60 (by kernel_rfl) (by kernel_rfl) (by kernel_rfl) (by kernel_rfl) (O_q0z_ok n) dorcNil_ok (.of (l := [(0, (lbody 1000 C_q0z 0))]) (by kernel_rfl) ⟨.head (loopL_sound (O_q0z_ok n) dorcNil_ok (.of (l := []) (by kernel_rfl) trivial) (s_q0z_s0 n)), trivial⟩) (e_q0z n)

noncomputable def C_q20z : Code := bodyOf Tryd.f55
noncomputable def M_q20z : List (Nat × ArgM) := [(60, ⟨[], [], [], true⟩)]
instance : DfOk M_q20z := .none rfl
noncomputable def O_q20z {ρ : Type} (n : Nat) : Orc ρ := orcCons 60 F_q0z (q0z n) (orcNil)
omit [UDef] [UTabs] in
theorem O_q20z_ok {ρ : Type} (n : Nat) : (O_q20z n : Orc ρ).ok Tryd.prog := orcCons_ok (by kernel_rfl) (ok_q0z n) (orcNil_ok)
noncomputable def L_q20z {ρ : Type} (n : Nat) : LOrc ρ := lorcNil
omit [Tabs] [QuietD Tryd.prog] [UDef] [UTabs] in
theorem e_q20z (n : Nat) (x) : evF Tryd.prog 8 TT M_q20z F_q20z (O_q20z n) (L_q20z n) dorcNil ⟨[], [], []⟩ [.tmp 4] C_q20z x = q20z n x := by kernel_rfl
omit [UDef] [UTabs] in
theorem ok_q20z (n : Nat) : Contract Tryd.prog 55 F_q20z (q20z n) :=
  Contract.of_ev (c := C_q20z) (N := 8) Tryd.func55 (by kernel_rfl) (by kernel_rfl) (by kernel_rfl) (by kernel_rfl) (O_q20z_ok n) dorcNil_ok (.of (l := []) (by kernel_rfl) trivial) (e_q20z n)

noncomputable def C_q23z : Code := bodyOf Tryd.f27
noncomputable def M_q23z : List (Nat × ArgM) := [(37, ⟨[], [], [], true⟩), (55, ⟨[], [], [], true⟩)]
instance : DfOk M_q23z := .none rfl
noncomputable def O_q23z {ρ : Type} (n : Nat) : Orc ρ := orcCons 37 F_q13z (q13z n) (orcCons 55 F_q20z (q20z n) (orcNil))
omit [UDef] [UTabs] in
theorem O_q23z_ok {ρ : Type} (n : Nat) : (O_q23z n : Orc ρ).ok Tryd.prog := orcCons_ok (by kernel_rfl) (ok_q13z n) (orcCons_ok (by kernel_rfl) (ok_q20z n) (orcNil_ok))
noncomputable def L_q23z {ρ : Type} (n : Nat) : LOrc ρ := lorcNil
omit [Tabs] [QuietD Tryd.prog] [UDef] [UTabs] in
theorem e_q23z (n : Nat) (x) : evF Tryd.prog 24 TT M_q23z F_q23z (O_q23z n) (L_q23z n) dorcNil ⟨[], [], []⟩ [.tmp 4] C_q23z x = q23z n x := by kernel_rfl
omit [UDef] [UTabs] in
theorem ok_q23z (n : Nat) : Contract Tryd.prog 27 F_q23z (q23z n) :=
  Contract.of_ev (c := C_q23z) (N := 24) Tryd.func27 (by kernel_rfl) (by kernel_rfl) (by kernel_rfl) (by kernel_rfl) (O_q23z_ok n) dorcNil_ok (.of (l := []) (by kernel_rfl) trivial) (e_q23z n)

noncomputable def C_q2z : Code := bodyOf Tryd.f26
noncomputable def M_q2z : List (Nat × ArgM) := [(27, ⟨[], [], [], true⟩)]
instance : DfOk M_q2z := .none rfl
noncomputable def O_q2z {ρ : Type} (n : Nat) : Orc ρ := orcCons 27 F_q23z (q23z n) (orcNil)
omit [UDef] [UTabs] in
theorem O_q2z_ok {ρ : Type} (n : Nat) : (O_q2z n : Orc ρ).ok Tryd.prog := orcCons_ok (by kernel_rfl) (ok_q23z n) (orcNil_ok)
noncomputable def T_q2z_s0 : Tm := ⟨[(2, .fn 27)], [(1, (.lst .node)), (15, (.lst .node)), (16, .i64), (17, .i64)], [], []⟩
noncomputable def X_q2z_s0 : Tm := ⟨[], [], [], []⟩
noncomputable def R_q2z_s0 : Tm := ⟨[], [(6, .bool)], [], []⟩
noncomputable def L_q2z_s0 {ρ : Type} (n : Nat) : LOrc ρ := lorcNil
omit [Tabs] [QuietD Tryd.prog] [UDef] [UTabs] in
theorem s_q2z_s0 {ρ : Type} (n : Nat) (rec : T_q2z_s0.den → Option ρ) kx kr s : dStep Tryd.prog 32 TT M_q2z (O_q2z n) (L_q2z_s0 n) dorcNil 0 (lbody 1000 C_q2z 0) T_q2z_s0 X_q2z_s0 R_q2z_s0 ⟨[], [], []⟩ rec kx kr s = q2z_s0 n rec kx kr s := by kernel_rfl
noncomputable def L_q2z {ρ : Type} (n : Nat) : LOrc ρ := lorcCons 0 (loopL 32 0 n T_q2z_s0 X_q2z_s0 R_q2z_s0 ⟨[], [], []⟩ (q2z_s0 n)) (lorcNil)
omit [Tabs] [QuietD Tryd.prog] [UDef] [UTabs] in
theorem e_q2z (n : Nat) (x) : evF Tryd.prog 32 TT M_q2z F_q2z (O_q2z n) (L_q2z n) dorcNil ⟨[], [], []⟩ [.tmp 6] C_q2z x = q2z n x := by kernel_rfl
omit [UDef] [UTabs] in
theorem ok_q2z (n : Nat) : Contract Tryd.prog 26 F_q2z (q2z n) :=
  Contract.of_ev (c := C_q2z) (N := 32) Tryd.func26 (by kernel_rfl) (by kernel_rfl) (by kernel_rfl) (by kernel_rfl) (O_q2z_ok n) dorcNil_ok (.of (l := [(0, (lbody 1000 C_q2z 0))]) (by kernel_rfl) ⟨.head (loopL_sound (O_q2z_ok n) dorcNil_ok (.of (l := []) (by kernel_rfl) trivial) (s_q2z_s0 n)), trivial⟩) (e_q2z n)

noncomputable def F_q1z : FnT := ⟨3, ⟨[(2, .fn 29)], [(0, (.lst .edg)), (1, (.lst .edg))], [], []⟩, [.v .bool], []⟩
noncomputable def F_q22z : FnT := ⟨2, ⟨[], [(0, .edg), (1, .edg)], [], []⟩, [.v .bool], []⟩
noncomputable def C_q22z : Code := bodyOf Tryd.f29
noncomputable def M_q22z : List (Nat × ArgM) := [(55, ⟨[], [], [], true⟩)]
instance : DfOk M_q22z := .none rfl
noncomputable def O_q22z {ρ : Type} (n : Nat) : Orc ρ := orcCons 55 F_q20z (q20z n) (orcNil)
omit [UDef] [UTabs] in
theorem O_q22z_ok {ρ : Type} (n : Nat) : (O_q22z n : Orc ρ).ok Tryd.prog := orcCons_ok (by kernel_rfl) (ok_q20z n) (orcNil_ok)
noncomputable def L_q22z {ρ : Type} (n : Nat) : LOrc ρ := lorcNil
omit [Tabs] [QuietD Tryd.prog] [UDef] [UTabs] in
theorem e_q22z (n : Nat) (x) : evF Tryd.prog 38 TT M_q22z F_q22z (O_q22z n) (L_q22z n) dorcNil ⟨[], [], []⟩ [.tmp 4] C_q22z x = q22z n x := by kernel_rfl
omit [UDef] [UTabs] in
theorem ok_q22z (n : Nat) : Contract Tryd.prog 29 F_q22z (q22z n) :=
  Contract.of_ev (c := C_q22z) (N := 38) Tryd.func29 (by kernel_rfl) (by kernel_rfl) (by kernel_rfl) (by kernel_rfl) (O_q22z_ok n) dorcNil_ok (.of (l := []) (by kernel_rfl) trivial) (e_q22z n)

noncomputable def C_q1z : Code := bodyOf Tryd.f28
noncomputable def M_q1z : List (Nat × ArgM) := [(29, ⟨[], [], [], true⟩)]
instance : DfOk M_q1z := .none rfl
noncomputable def O_q1z {ρ : Type} (n : Nat) : Orc ρ := orcCons 29 F_q22z (q22z n) (orcNil)
omit [UDef] [UTabs] in
theorem O_q1z_ok {ρ : Type} (n : Nat) : (O_q1z n : Orc ρ).ok Tryd.prog := orcCons_ok (by kernel_rfl) (ok_q22z n) (orcNil_ok)
noncomputable def T_q1z_s0 : Tm := ⟨[(2, .fn 29)], [(1, (.lst .edg)), (15, (.lst .edg)), (16, .i64), (17, .i64)], [], []⟩
noncomputable def X_q1z_s0 : Tm := ⟨[], [], [], []⟩
noncomputable def R_q1z_s0 : Tm := ⟨[], [(6, .bool)], [], []⟩
noncomputable def L_q1z_s0 {ρ : Type} (n : Nat) : LOrc ρ := lorcNil
omit [Tabs] [QuietD Tryd.prog] [UDef] [UTabs] in
theorem s_q1z_s0 {ρ : Type} (n : Nat) (rec : T_q1z_s0.den → Option ρ) kx kr s : dStep Tryd.prog 32 TT M_q1z (O_q1z n) (L_q1z_s0 n) dorcNil 0 (lbody 1000 C_q1z 0) T_q1z_s0 X_q1z_s0 R_q1z_s0 ⟨[], [], []⟩ rec kx kr s = q1z_s0 n rec kx kr s := by kernel_rfl
noncomputable def L_q1z {ρ : Type} (n : Nat) : LOrc ρ := lorcCons 0 (loopL 32 0 n T_q1z_s0 X_q1z_s0 R_q1z_s0 ⟨[], [], []⟩ (q1z_s0 n)) (lorcNil)
omit [Tabs] [QuietD Tryd.prog] [UDef] [UTabs] in
theorem e_q1z (n : Nat) (x) : evF Tryd.prog 32 TT M_q1z F_q1z (O_q1z n) (L_q1z n) dorcNil ⟨[], [], []⟩ [.tmp 6] C_q1z x = q1z n x := by kernel_rfl
omit [UDef] [UTabs] in
theorem ok_q1z (n : Nat) : Contract Tryd.prog 28 F_q1z (q1z n) :=
  Contract.of_ev (c := C_q1z) (N := 32) Tryd.func28 (by kernel_rfl) (by kernel_rfl) (by kernel_rfl) (by kernel_rfl) (O_q1z_ok n) dorcNil_ok (.of (l := [(0, (lbody 1000 C_q1z 0))]) (by kernel_rfl) ⟨.head (loopL_sound (O_q1z_ok n) dorcNil_ok (.of (l := []) (by kernel_rfl) trivial) (s_q1z_s0 n)), trivial⟩) (e_q1z n)

noncomputable def C_q19z : Code := bodyOf Tryd.f7
noncomputable def M_q19z : List (Nat × ArgM) := [(26, ⟨[], [], [], true⟩), (28, ⟨[], [], [], true⟩)]
instance : DfOk M_q19z := .none rfl
noncomputable def O_q19z {ρ : Type} (n : Nat) : Orc ρ := orcCons 26 F_q2z (q2z n) (orcCons 28 F_q1z (q1z n) (orcNil))
omit [UDef] [UTabs] in
theorem O_q19z_ok {ρ : Type} (n : Nat) : (O_q19z n : Orc ρ).ok Tryd.prog := orcCons_ok (by kernel_rfl) (ok_q2z n) (orcCons_ok (by kernel_rfl) (ok_q1z n) (orcNil_ok))
noncomputable def L_q19z {ρ : Type} (n : Nat) : LOrc ρ := lorcNil
omit [Tabs] [QuietD Tryd.prog] [UDef] [UTabs] in
theorem e_q19z (n : Nat) (x) : evF Tryd.prog 24 TT M_q19z F_q19z (O_q19z n) (L_q19z n) dorcNil ⟨[], [], []⟩ [.tmp 4] C_q19z x = q19z n x := by kernel_rfl
omit [UDef] [UTabs] in
theorem ok_q19z (n : Nat) : Contract Tryd.prog 7 F_q19z (q19z n) :=
  Contract.of_ev (c := C_q19z) (N := 24) Tryd.func7 (by kernel_rfl) (by kernel_rfl) (by kernel_rfl) (by kernel_rfl) (O_q19z_ok n) dorcNil_ok (.of (l := []) (by kernel_rfl) trivial) (e_q19z n)

noncomputable def F_txn_Back : FnT := ⟨1, ⟨[], [(0, .delta)], [], []⟩, [.v .delta], []⟩
noncomputable def C_txn_Back : Code := bodyOf Tryd.f9
noncomputable def M_txn_Back : List (Nat × ArgM) := []
instance : DfOk M_txn_Back := .none rfl
noncomputable def O_txn_Back {ρ : Type} (n : Nat) : Orc ρ := orcCons 13 F_q38z (q38z n) (orcCons 16 F_q37z (q37z n) (orcNil))
omit [UDef] [UTabs] in
theorem O_txn_Back_ok {ρ : Type} (n : Nat) : (O_txn_Back n : Orc ρ).ok Tryd.prog := orcCons_ok (by kernel_rfl) (ok_q38z n) (orcCons_ok (by kernel_rfl) (ok_q37z n) (orcNil_ok))
noncomputable def T_txn_Back_s2 : Tm := ⟨[(1, .ptr 1 0), (2, .ptr 2 0), (3, .ptr 3 0), (5, .ptr 5 0)], [(26, .i64), (30, (.lst .node)), (31, .i64), (32, .i64)], [(1, .box [.d .delta]), (2, .box [.d .delta]), (3, .box [.ref (.nils), .ref (.own 300121), .ref (.nils), .ref (.nils), .d .i64, .d .i64]), (5, .box [.d (.lst .node), .ref (.ptr 3 1)]), (300121, .arr 44 .node)], [(25, [.d (.lst .node), .ref (.ptr 3 1), .d (.lst .node), .ref (.ptr 3 0)])]⟩
noncomputable def X_txn_Back_s2 : Tm := ⟨[(1, .ptr 1 0), (2, .ptr 2 0), (3, .ptr 3 0)], [(26, .i64)], [(1, .box [.d .delta]), (2, .box [.d .delta]), (3, .box [.ref (.nils), .ref (.own 300121), .ref (.nils), .ref (.nils), .d .i64, .d .i64]), (300121, .arr 44 .node)], [(25, [.d (.lst .node), .ref (.ptr 3 1), .d (.lst .node), .ref (.ptr 3 0)])]⟩
noncomputable def R_txn_Back_s2 : Tm := ⟨[], [], [], []⟩
noncomputable def L_txn_Back_s2 {ρ : Type} (n : Nat) : LOrc ρ := lorcNil
omit [Tabs] [QuietD Tryd.prog] [UDef] [UTabs] in
theorem s_txn_Back_s2 {ρ : Type} (n : Nat) (rec : T_txn_Back_s2.den → Option ρ) kx kr s : dStep Tryd.prog 80 TT M_txn_Back (O_txn_Back n) (L_txn_Back_s2 n) (evDraw Tryd.prog 80 TT M_txn_Back (O_txn_Back n)) 2 (lbody 0 (lbody 1000 C_txn_Back 0) 0) T_txn_Back_s2 X_txn_Back_s2 R_txn_Back_s2 ⟨[], [], [(3, 1, 300121, 44, 3)]⟩ rec kx kr s = txn_Back_s2 n rec kx kr s := by kernel_rfl
noncomputable def T_txn_Back_s2v0 : Tm := ⟨[(1, .ptr 1 0), (2, .ptr 2 0), (3, .ptr 3 0), (5, .ptr 5 0)], [(26, .i64), (30, (.lst .node)), (31, .i64), (32, .i64)], [(1, .box [.d .delta]), (2, .box [.d .delta]), (3, .box [.ref (.own 300120), .ref (.own 300121), .ref (.nils), .ref (.nils), .d .i64, .d .i64]), (5, .box [.d (.lst .node), .ref (.ptr 3 0)]), (300120, .arr 44 .node), (300121, .arr 44 .node)], [(25, [.d (.lst .node), .ref (.ptr 3 1), .d (.lst .node), .ref (.ptr 3 0)])]⟩
noncomputable def X_txn_Back_s2v0 : Tm := ⟨[(1, .ptr 1 0), (2, .ptr 2 0), (3, .ptr 3 0)], [(26, .i64)], [(1, .box [.d .delta]), (2, .box [.d .delta]), (3, .box [.ref (.own 300120), .ref (.own 300121), .ref (.nils), .ref (.nils), .d .i64, .d .i64]), (300120, .arr 44 .node), (300121, .arr 44 .node)], [(25, [.d (.lst .node), .ref (.ptr 3 1), .d (.lst .node), .ref (.ptr 3 0)])]⟩
noncomputable def R_txn_Back_s2v0 : Tm := ⟨[], [], [], []⟩
noncomputable def L_txn_Back_s2v0 {ρ : Type} (n : Nat) : LOrc ρ := lorcNil
omit [Tabs] [QuietD Tryd.prog] [UDef] [UTabs] in
theorem s_txn_Back_s2v0 {ρ : Type} (n : Nat) (rec : T_txn_Back_s2v0.den → Option ρ) kx kr s : dStep Tryd.prog 80 TT M_txn_Back (O_txn_Back n) (L_txn_Back_s2v0 n) (evDraw Tryd.prog 80 TT M_txn_Back (O_txn_Back n)) 2 (lbody 0 (lbody 1000 C_txn_Back 0) 0) T_txn_Back_s2v0 X_txn_Back_s2v0 R_txn_Back_s2v0 ⟨[], [], [(3, 0, 300120, 44, 3)]⟩ rec kx kr s = txn_Back_s2v0 n rec kx kr s := by kernel_rfl
noncomputable def T_txn_Back_s2v1 : Tm := ⟨[(1, .ptr 1 0), (2, .ptr 2 0), (3, .ptr 3 0), (5, .ptr 5 0)], [(26, .i64), (30, (.lst .node)), (31, .i64), (32, .i64)], [(1, .box [.d .delta]), (2, .box [.d .delta]), (3, .box [.ref (.own 300120), .ref (.own 300121), .ref (.nils), .ref (.nils), .d .i64, .d .i64]), (5, .box [.d (.lst .node), .ref (.ptr 3 1)]), (300120, .arr 44 .node), (300121, .arr 44 .node)], [(25, [.d (.lst .node), .ref (.ptr 3 1), .d (.lst .node), .ref (.ptr 3 0)])]⟩
noncomputable def X_txn_Back_s2v1 : Tm := ⟨[(1, .ptr 1 0), (2, .ptr 2 0), (3, .ptr 3 0)], [(26, .i64)], [(1, .box [.d .delta]), (2, .box [.d .delta]), (3, .box [.ref (.own 300120), .ref (.own 300121), .ref (.nils), .ref (.nils), .d .i64, .d .i64]), (300120, .arr 44 .node), (300121, .arr 44 .node)], [(25, [.d (.lst .node), .ref (.ptr 3 1), .d (.lst .node), .ref (.ptr 3 0)])]⟩
noncomputable def R_txn_Back_s2v1 : Tm := ⟨[], [], [], []⟩
noncomputable def L_txn_Back_s2v1 {ρ : Type} (n : Nat) : LOrc ρ := lorcNil
omit [Tabs] [QuietD Tryd.prog] [UDef] [UTabs] in
theorem s_txn_Back_s2v1 {ρ : Type} (n : Nat) (rec : T_txn_Back_s2v1.den → Option ρ) kx kr s : dStep Tryd.prog 80 TT M_txn_Back (O_txn_Back n) (L_txn_Back_s2v1 n) (evDraw Tryd.prog 80 TT M_txn_Back (O_txn_Back n)) 2 (lbody 0 (lbody 1000 C_txn_Back 0) 0) T_txn_Back_s2v1 X_txn_Back_s2v1 R_txn_Back_s2v1 ⟨[], [], [(3, 1, 300121, 44, 3)]⟩ rec kx kr s = txn_Back_s2v1 n rec kx kr s := by kernel_rfl
noncomputable def T_txn_Back_s4 : Tm := ⟨[(1, .ptr 1 0), (2, .ptr 2 0), (3, .ptr 3 0)], [(50, (.lst .edg)), (51, .i64), (52, .i64)], [(1, .box [.d .delta]), (2, .box [.d .delta]), (3, .box [.ref (.own 300120), .ref (.own 300121), .ref (.nils), .ref (.own 300123), .d .i64, .d .i64]), (300120, .arr 44 .node), (300121, .arr 44 .node), (300123, .arr 49 .edg)], []⟩
noncomputable def X_txn_Back_s4 : Tm := ⟨[(1, .ptr 1 0), (2, .ptr 2 0), (3, .ptr 3 0)], [], [(1, .box [.d .delta]), (2, .box [.d .delta]), (3, .box [.ref (.own 300120), .ref (.own 300121), .ref (.nils), .ref (.own 300123), .d .i64, .d .i64]), (300120, .arr 44 .node), (300121, .arr 44 .node), (300123, .arr 49 .edg)], []⟩
noncomputable def R_txn_Back_s4 : Tm := ⟨[], [], [], []⟩
noncomputable def L_txn_Back_s4 {ρ : Type} (n : Nat) : LOrc ρ := lorcNil
omit [Tabs] [QuietD Tryd.prog] [UDef] [UTabs] in
theorem s_txn_Back_s4 {ρ : Type} (n : Nat) (rec : T_txn_Back_s4.den → Option ρ) kx kr s : dStep Tryd.prog 80 TT M_txn_Back (O_txn_Back n) (L_txn_Back_s4 n) (evDraw Tryd.prog 80 TT M_txn_Back (O_txn_Back n)) 4 (lbody 1000 C_txn_Back 1) T_txn_Back_s4 X_txn_Back_s4 R_txn_Back_s4 ⟨[], [], [(3, 3, 300123, 49, 5)]⟩ rec kx kr s = txn_Back_s4 n rec kx kr s := by kernel_rfl
noncomputable def T_txn_Back_s6 : Tm := ⟨[(2, .ptr 2 0), (3, .ptr 3 0)], [(65, (.lst .edg)), (66, .i64), (67, .i64)], [(2, .box [.d .delta]), (3, .box [.ref (.own 300120), .ref (.own 300121), .ref (.own 300122), .ref (.own 300123), .d .i64, .d .i64]), (300120, .arr 44 .node), (300121, .arr 44 .node), (300122, .arr 49 .edg), (300123, .arr 49 .edg)], []⟩
noncomputable def X_txn_Back_s6 : Tm := ⟨[(2, .ptr 2 0), (3, .ptr 3 0)], [], [(2, .box [.d .delta]), (3, .box [.ref (.own 300120), .ref (.own 300121), .ref (.own 300122), .ref (.own 300123), .d .i64, .d .i64]), (300120, .arr 44 .node), (300121, .arr 44 .node), (300122, .arr 49 .edg), (300123, .arr 49 .edg)], []⟩
noncomputable def R_txn_Back_s6 : Tm := ⟨[], [], [], []⟩
noncomputable def L_txn_Back_s6 {ρ : Type} (n : Nat) : LOrc ρ := lorcNil
omit [Tabs] [QuietD Tryd.prog] [UDef] [UTabs] in
theorem s_txn_Back_s6 {ρ : Type} (n : Nat) (rec : T_txn_Back_s6.den → Option ρ) kx kr s : dStep Tryd.prog 80 TT M_txn_Back (O_txn_Back n) (L_txn_Back_s6 n) (evDraw Tryd.prog 80 TT M_txn_Back (O_txn_Back n)) 6 (lbody 1000 C_txn_Back 2) T_txn_Back_s6 X_txn_Back_s6 R_txn_Back_s6 ⟨[], [], [(3, 2, 300122, 49, 5)]⟩ rec kx kr s = txn_Back_s6 n rec kx kr s := by kernel_rfl
noncomputable def T_txn_Back_s4v0 : Tm := ⟨[(1, .ptr 1 0), (2, .ptr 2 0), (3, .ptr 3 0)], [(50, (.lst .edg)), (51, .i64), (52, .i64)], [(1, .box [.d .delta]), (2, .box [.d .delta]), (3, .box [.ref (.nils), .ref (.own 300121), .ref (.nils), .ref (.own 300123), .d .i64, .d .i64]), (300121, .arr 44 .node), (300123, .arr 49 .edg)], []⟩
noncomputable def X_txn_Back_s4v0 : Tm := ⟨[(1, .ptr 1 0), (2, .ptr 2 0), (3, .ptr 3 0)], [], [(1, .box [.d .delta]), (2, .box [.d .delta]), (3, .box [.ref (.nils), .ref (.own 300121), .ref (.nils), .ref (.own 300123), .d .i64, .d .i64]), (300121, .arr 44 .node), (300123, .arr 49 .edg)], []⟩
noncomputable def R_txn_Back_s4v0 : Tm := ⟨[], [], [], []⟩
noncomputable def L_txn_Back_s4v0 {ρ : Type} (n : Nat) : LOrc ρ := lorcNil
omit [Tabs] [QuietD Tryd.prog] [UDef] [UTabs] in
theorem s_txn_Back_s4v0 {ρ : Type} (n : Nat) (rec : T_txn_Back_s4v0.den → Option ρ) kx kr s : dStep Tryd.prog 80 TT M_txn_Back (O_txn_Back n) (L_txn_Back_s4v0 n) (evDraw Tryd.prog 80 TT M_txn_Back (O_txn_Back n)) 4 (lbody 1000 C_txn_Back 1) T_txn_Back_s4v0 X_txn_Back_s4v0 R_txn_Back_s4v0 ⟨[], [], [(3, 3, 300123, 49, 5)]⟩ rec kx kr s = txn_Back_s4v0 n rec kx kr s := by kernel_rfl
noncomputable def T_txn_Back_s6v0 : Tm := ⟨[(2, .ptr 2 0), (3, .ptr 3 0)], [(65, (.lst .edg)), (66, .i64), (67, .i64)], [(2, .box [.d .delta]), (3, .box [.ref (.nils), .ref (.own 300121), .ref (.own 300122), .ref (.own 300123), .d .i64, .d .i64]), (300121, .arr 44 .node), (300122, .arr 49 .edg), (300123, .arr 49 .edg)], []⟩
noncomputable def X_txn_Back_s6v0 : Tm := ⟨[(2, .ptr 2 0), (3, .ptr 3 0)], [], [(2, .box [.d .delta]), (3, .box [.ref (.nils), .ref (.own 300121), .ref (.own 300122), .ref (.own 300123), .d .i64, .d .i64]), (300121, .arr 44 .node), (300122, .arr 49 .edg), (300123, .arr 49 .edg)], []⟩
noncomputable def R_txn_Back_s6v0 : Tm := ⟨[], [], [], []⟩
noncomputable def L_txn_Back_s6v0 {ρ : Type} (n : Nat) : LOrc ρ := lorcNil
omit [Tabs] [QuietD Tryd.prog] [UDef] [UTabs] in
theorem s_txn_Back_s6v0 {ρ : Type} (n : Nat) (rec : T_txn_Back_s6v0.den → Option ρ) kx kr s : dStep Tryd.prog 80 TT M_txn_Back (O_txn_Back n) (L_txn_Back_s6v0 n) (evDraw Tryd.prog 80 TT M_txn_Back (O_txn_Back n)) 6 (lbody 1000 C_txn_Back 2) T_txn_Back_s6v0 X_txn_Back_s6v0 R_txn_Back_s6v0 ⟨[], [], [(3, 2, 300122, 49, 5)]⟩ rec kx kr s = txn_Back_s6v0 n rec kx kr s := by kernel_rfl
noncomputable def L_txn_Back_s0 {ρ : Type} (n : Nat) : LOrc ρ := lorcCons 2 (altL 80 T_txn_Back_s2 ⟨[], [], [(3, 1, 300121, 44, 3)]⟩ (loopL 80 2 n T_txn_Back_s2 X_txn_Back_s2 R_txn_Back_s2 ⟨[], [], [(3, 1, 300121, 44, 3)]⟩ (txn_Back_s2 n)) (altL 80 T_txn_Back_s2v0 ⟨[], [], [(3, 0, 300120, 44, 3)]⟩ (loopL 80 2 n T_txn_Back_s2v0 X_txn_Back_s2v0 R_txn_Back_s2v0 ⟨[], [], [(3, 0, 300120, 44, 3)]⟩ (txn_Back_s2v0 n)) (loopL 80 2 n T_txn_Back_s2v1 X_txn_Back_s2v1 R_txn_Back_s2v1 ⟨[], [], [(3, 1, 300121, 44, 3)]⟩ (txn_Back_s2v1 n)))) (lorcNil)
noncomputable def L_txn_Back {ρ : Type} (n : Nat) : LOrc ρ := lorcCons 0 (unrollL Tryd.prog 80 TT M_txn_Back (O_txn_Back n) (L_txn_Back_s0 n) (evDraw Tryd.prog 80 TT M_txn_Back (O_txn_Back n)) 0 (lbody 1000 C_txn_Back 0) 3) (lorcCons 4 (altL 80 T_txn_Back_s4 ⟨[], [], [(3, 3, 300123, 49, 5)]⟩ (loopL 80 4 n T_txn_Back_s4 X_txn_Back_s4 R_txn_Back_s4 ⟨[], [], [(3, 3, 300123, 49, 5)]⟩ (txn_Back_s4 n)) (loopL 80 4 n T_txn_Back_s4v0 X_txn_Back_s4v0 R_txn_Back_s4v0 ⟨[], [], [(3, 3, 300123, 49, 5)]⟩ (txn_Back_s4v0 n))) (lorcCons 6 (altL 80 T_txn_Back_s6 ⟨[], [], [(3, 2, 300122, 49, 5)]⟩ (loopL 80 6 n T_txn_Back_s6 X_txn_Back_s6 R_txn_Back_s6 ⟨[], [], [(3, 2, 300122, 49, 5)]⟩ (txn_Back_s6 n)) (loopL 80 6 n T_txn_Back_s6v0 X_txn_Back_s6v0 R_txn_Back_s6v0 ⟨[], [], [(3, 2, 300122, 49, 5)]⟩ (txn_Back_s6v0 n))) (lorcNil)))
omit [Tabs] [QuietD Tryd.prog] [UDef] [UTabs] in
theorem e_txn_Back (n : Nat) (x) : evF Tryd.prog 80 TT M_txn_Back F_txn_Back (O_txn_Back n) (L_txn_Back n) (evDraw Tryd.prog 80 TT M_txn_Back (O_txn_Back n)) ⟨[], [], []⟩ [.cell 2 27] C_txn_Back x = txn_Back n x := by kernel_rfl
omit [UDef] [UTabs] in
theorem ok_txn_Back (n : Nat) : Contract Tryd.prog 9 F_txn_Back (txn_Back n) :=
  Contract.of_ev (c := C_txn_Back) (N := 80) Tryd.func9 (by kernel_rfl) (by kernel_rfl) (by kernel_rfl) (by kernel_rfl) (O_txn_Back_ok n) (evDraw_ok (O_txn_Back_ok n) (by kernel_rfl)) (.of (l := [(0, (lbody 1000 C_txn_Back 0)), (4, (lbody 1000 C_txn_Back 1)), (6, (lbody 1000 C_txn_Back 2))]) (by kernel_rfl) ⟨.head (unrollL_sound (O_txn_Back_ok n) (evDraw_ok (O_txn_Back_ok n) (by kernel_rfl)) (.of (l := [(2, (lbody 0 (lbody 1000 C_txn_Back 0) 0))]) (by kernel_rfl) ⟨.head (altL_sound (loopL_sound (O_txn_Back_ok n) (evDraw_ok (O_txn_Back_ok n) (by kernel_rfl)) (.of (l := []) (by kernel_rfl) trivial) (s_txn_Back_s2 n)) (altL_sound (loopL_sound (O_txn_Back_ok n) (evDraw_ok (O_txn_Back_ok n) (by kernel_rfl)) (.of (l := []) (by kernel_rfl) trivial) (s_txn_Back_s2v0 n)) (loopL_sound (O_txn_Back_ok n) (evDraw_ok (O_txn_Back_ok n) (by kernel_rfl)) (.of (l := []) (by kernel_rfl) trivial) (s_txn_Back_s2v1 n)))), trivial⟩)), ⟨.tail rfl (.head (altL_sound (loopL_sound (O_txn_Back_ok n) (evDraw_ok (O_txn_Back_ok n) (by kernel_rfl)) (.of (l := []) (by kernel_rfl) trivial) (s_txn_Back_s4 n)) (loopL_sound (O_txn_Back_ok n) (evDraw_ok (O_txn_Back_ok n) (by kernel_rfl)) (.of (l := []) (by kernel_rfl) trivial) (s_txn_Back_s4v0 n)))), ⟨.tail rfl (.tail rfl (.head (altL_sound (loopL_sound (O_txn_Back_ok n) (evDraw_ok (O_txn_Back_ok n) (by kernel_rfl)) (.of (l := []) (by kernel_rfl) trivial) (s_txn_Back_s6 n)) (loopL_sound (O_txn_Back_ok n) (evDraw_ok (O_txn_Back_ok n) (by kernel_rfl)) (.of (l := []) (by kernel_rfl) trivial) (s_txn_Back_s6v0 n))))), trivial⟩⟩⟩) (e_txn_Back n)

noncomputable def F_q18z : FnT := ⟨2, ⟨[], [(0, .delta), (1, .delta)], [], []⟩, [.v .bool], []⟩
noncomputable def C_q18z : Code := bodyOf Tryd.f8
noncomputable def M_q18z : List (Nat × ArgM) := [(26, ⟨[], [], [], true⟩), (28, ⟨[], [], [], true⟩)]
instance : DfOk M_q18z := .none rfl
noncomputable def O_q18z {ρ : Type} (n : Nat) : Orc ρ := orcCons 26 F_q2z (q2z n) (orcCons 28 F_q1z (q1z n) (orcNil))
omit [UDef] [UTabs] in
theorem O_q18z_ok {ρ : Type} (n : Nat) : (O_q18z n : Orc ρ).ok Tryd.prog := orcCons_ok (by kernel_rfl) (ok_q2z n) (orcCons_ok (by kernel_rfl) (ok_q1z n) (orcNil_ok))
noncomputable def L_q18z {ρ : Type} (n : Nat) : LOrc ρ := lorcNil
omit [Tabs] [QuietD Tryd.prog] [UDef] [UTabs] in
theorem e_q18z (n : Nat) (x) : evF Tryd.prog 45 TT M_q18z F_q18z (O_q18z n) (L_q18z n) dorcNil ⟨[], [], []⟩ [.tmp 4] C_q18z x = q18z n x := by kernel_rfl
omit [UDef] [UTabs] in
theorem ok_q18z (n : Nat) : Contract Tryd.prog 8 F_q18z (q18z n) :=
  Contract.of_ev (c := C_q18z) (N := 45) Tryd.func8 (by kernel_rfl) (by kernel_rfl) (by kernel_rfl) (by kernel_rfl) (O_q18z_ok n) dorcNil_ok (.of (l := []) (by kernel_rfl) trivial) (e_q18z n)

noncomputable def C_q15z : Code := bodyOf Tryd.f3
noncomputable def M_q15z : List (Nat × ArgM) := [(5, ⟨[], [], [], true⟩), (7, ⟨[], [], [], true⟩), (8, ⟨[], [], [], true⟩)]
instance : DfOk M_q15z := .none rfl
noncomputable def O_q15z {ρ : Type} (n : Nat) : Orc ρ := orcCons 4 F_q49z (q49z n) (orcCons 5 F_q25z (q25z n) (orcCons 6 F_txn_Apply (txn_Apply n) (orcCons 7 F_q19z (q19z n) (orcCons 9 F_txn_Back (txn_Back n) (orcCons 8 F_q18z (q18z n) (orcNil))))))
omit [UDef] in
theorem O_q15z_ok {ρ : Type} (n : Nat) : (O_q15z n : Orc ρ).ok Tryd.prog := orcCons_ok (by kernel_rfl) (ok_q49z n) (orcCons_ok (by kernel_rfl) (ok_q25z n) (orcCons_ok (by kernel_rfl) (ok_txn_Apply n) (orcCons_ok (by kernel_rfl) (ok_q19z n) (orcCons_ok (by kernel_rfl) (ok_txn_Back n) (orcCons_ok (by kernel_rfl) (ok_q18z n) (orcNil_ok))))))
noncomputable def L_q15z {ρ : Type} (n : Nat) : LOrc ρ := lorcNil
omit [Tabs] [QuietD Tryd.prog] [UDef] [UTabs] in
theorem e_q15z (n : Nat) (x) : evF Tryd.prog 77 TT M_q15z F_q15z (O_q15z n) (L_q15z n) (evDraw Tryd.prog 77 TT M_q15z (O_q15z n)) ⟨[], [], []⟩ [.tmp 4] C_q15z x = q15z n x := by kernel_rfl
omit [UDef] in
theorem ok_q15z (n : Nat) : Contract Tryd.prog 3 F_q15z (q15z n) :=
  Contract.of_ev (c := C_q15z) (N := 77) Tryd.func3 (by kernel_rfl) (by kernel_rfl) (by kernel_rfl) (by kernel_rfl) (O_q15z_ok n) (evDraw_ok (O_q15z_ok n) (by kernel_rfl)) (.of (l := []) (by kernel_rfl) trivial) (e_q15z n)

end Go.Proofs.YtnhbmojhcpcjaaaDoor

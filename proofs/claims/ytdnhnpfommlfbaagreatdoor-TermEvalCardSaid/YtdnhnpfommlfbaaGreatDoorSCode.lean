/- Each of these functions computes what its plain function computes (written by gen.py). -/
import Derived.Test.YtdnhnpfommlfbaaGreatDoorSBase
import Derived.KernelRfl
import Derived.Test.YtdnhnpfommlfbaaGreatDoorEvDraw
import Derived.Test.YtdnhnpfommlfbaaGreatDoorPCode
namespace Go.Proofs.YtdnhnpfommlfbaaGreatDoor
open Go Esp Ev Pure
set_option linter.unusedSimpArgs false
set_option linter.unusedVariables false
set_option maxRecDepth 100000
set_option maxHeartbeats 1000000
def okds : List FuncId := []
theorem quiets : ∀ g ∈ okds, ∀ (args : Array Value) (w : World), (callFunc g args).run Tryz.prog w = .ok (.enter g args) w ∧ CallsD Tryz.prog g args .returning w fun e u w' => u = .returning ∧ (∃ v, e = .returned v) ∧ w' = w := by
  intro g hg args w
  cases hg
variable [Tabs]
class UDef : Prop where
  ok : ∀ g ∈ ([] : List Nat), g ∈ Tabs.okd
variable [QuietD Tryz.prog] [UDef] [UTabs]
def TT : List (TypeId × Ty) := [(2, .i64), (3, .i64), (4, .bool), (5, .u8), (6, .u8), (9, .str), (10, .str), (11, .str), (12, .u64), (21, .i32), (22, (.lst .node)), (23, (.lst .edg)), (25, .graph), (26, (.lst .str)), (27, (.lst .i64)), (28, (.lst .val)), (30, .val), (31, (.lst .term)), (33, .term), (34, .i64), (38, (.map .str .i64)), (53, (.map .str .bool)), (58, .envr), (60, (.lst .prp)), (62, .node), (66, .edg), (96, .prp), (99, (.lst .u8)), (102, (.lst .u32)), (111, .u64), (112, (.lst .i64)), (117, (.lst .i32)), (136, .u64), (140, .i64), (147, .u32), (162, .u64), (186, .u8), (187, .u8), (190, .i32), (191, .i32)]
noncomputable def F_q19z : FnT := ⟨4, ⟨[], [(0, .graph), (1, (.lst .str)), (2, (.lst .i64)), (3, .term)], []⟩, [.v .bool], []⟩
noncomputable def F_term_Eval : FnT := ⟨4, ⟨[], [(0, .graph), (1, (.lst .str)), (2, (.lst .i64)), (3, .term)], []⟩, [.v .val, .v .i64], []⟩
noncomputable def F_q66z : FnT := ⟨1, ⟨[], [(0, .graph)], []⟩, [.v .i64], []⟩
noncomputable def F_q64z : FnT := ⟨1, ⟨[], [(0, (.lst .str))], []⟩, [.v .i64], []⟩
noncomputable def F_q77z : FnT := ⟨1, ⟨[], [(0, .str)], []⟩, [.v .bool], []⟩
noncomputable def C_q77z : Code := bodyOf Tryz.f42
noncomputable def M_q77z : List (Nat × ArgM) := []
instance : DfOk M_q77z := .none rfl
noncomputable def O_q77z {ρ : Type} (n : Nat) : Orc ρ := orcNil
omit [QuietD Tryz.prog] [UDef] [UTabs] in
theorem O_q77z_ok {ρ : Type} (n : Nat) : (O_q77z n : Orc ρ).ok Tryz.prog := orcNil_ok
noncomputable def T_q77z_s0 : Tm := ⟨[], [(0, .str), (14, .i64), (15, .i64)], []⟩
noncomputable def X_q77z_s0 : Tm := ⟨[], [], []⟩
noncomputable def R_q77z_s0 : Tm := ⟨[], [(2, .bool)], []⟩
noncomputable def L_q77z_s0 {ρ : Type} (n : Nat) : LOrc ρ := lorcNil
omit [Tabs] [QuietD Tryz.prog] [UDef] [UTabs] in
theorem s_q77z_s0 {ρ : Type} (n : Nat) (rec : T_q77z_s0.den → Option ρ) kx kr s : dStep Tryz.prog 54 TT M_q77z (O_q77z n) (L_q77z_s0 n) dorcNil 0 (lbody 1000 C_q77z 0) T_q77z_s0 X_q77z_s0 R_q77z_s0 ⟨[], [], []⟩ rec kx kr s = q77z_s0 n rec kx kr s := by kernel_rfl
noncomputable def L_q77z {ρ : Type} (n : Nat) : LOrc ρ := lorcCons 0 (loopL 54 0 n T_q77z_s0 X_q77z_s0 R_q77z_s0 ⟨[], [], []⟩ (q77z_s0 n)) (lorcNil)
omit [Tabs] [QuietD Tryz.prog] [UDef] [UTabs] in
theorem e_q77z (n : Nat) (x) : evF Tryz.prog 54 TT M_q77z F_q77z (O_q77z n) (L_q77z n) dorcNil ⟨[], [], []⟩ [.tmp 2] C_q77z x = q77z n x := by kernel_rfl
omit [UDef] [UTabs] in
theorem ok_q77z (n : Nat) : Contract Tryz.prog 42 F_q77z (q77z n) :=
  Contract.of_ev (c := C_q77z) (N := 54) Tryz.func42 (by kernel_rfl) (by kernel_rfl) (by kernel_rfl) (by kernel_rfl) (O_q77z_ok n) dorcNil_ok (.of (l := [(0, (lbody 1000 C_q77z 0))]) (by kernel_rfl) ⟨.head (loopL_sound (O_q77z_ok n) dorcNil_ok (.of (l := []) (by kernel_rfl) trivial) (s_q77z_s0 n)), trivial⟩) (e_q77z n)
noncomputable def C_q64z : Code := bodyOf Tryz.f49
noncomputable def M_q64z : List (Nat × ArgM) := [(42, ⟨[], [], [], true⟩)]
instance : DfOk M_q64z := .none rfl
noncomputable def O_q64z {ρ : Type} (n : Nat) : Orc ρ := orcCons 42 F_q77z (q77z n) (orcNil)
omit [UDef] [UTabs] in
theorem O_q64z_ok {ρ : Type} (n : Nat) : (O_q64z n : Orc ρ).ok Tryz.prog := orcCons_ok (by kernel_rfl) (ok_q77z n) (orcNil_ok)
noncomputable def T_q64z_s0 : Tm := ⟨[], [(0, (.lst .str)), (8, (.lst .str)), (9, .i64), (10, .i64)], []⟩
noncomputable def X_q64z_s0 : Tm := ⟨[], [], []⟩
noncomputable def R_q64z_s0 : Tm := ⟨[], [(2, .i64)], []⟩
noncomputable def L_q64z_s0 {ρ : Type} (n : Nat) : LOrc ρ := lorcNil
omit [Tabs] [QuietD Tryz.prog] [UDef] [UTabs] in
theorem s_q64z_s0 {ρ : Type} (n : Nat) (rec : T_q64z_s0.den → Option ρ) kx kr s : dStep Tryz.prog 32 TT M_q64z (O_q64z n) (L_q64z_s0 n) dorcNil 0 (lbody 1000 C_q64z 0) T_q64z_s0 X_q64z_s0 R_q64z_s0 ⟨[], [], []⟩ rec kx kr s = q64z_s0 n rec kx kr s := by kernel_rfl
noncomputable def L_q64z {ρ : Type} (n : Nat) : LOrc ρ := lorcCons 0 (loopL 32 0 n T_q64z_s0 X_q64z_s0 R_q64z_s0 ⟨[], [], []⟩ (q64z_s0 n)) (lorcNil)
omit [Tabs] [QuietD Tryz.prog] [UDef] [UTabs] in
theorem e_q64z (n : Nat) (x) : evF Tryz.prog 32 TT M_q64z F_q64z (O_q64z n) (L_q64z n) dorcNil ⟨[], [], []⟩ [.tmp 2] C_q64z x = q64z n x := by kernel_rfl
omit [UDef] [UTabs] in
theorem ok_q64z (n : Nat) : Contract Tryz.prog 49 F_q64z (q64z n) :=
  Contract.of_ev (c := C_q64z) (N := 32) Tryz.func49 (by kernel_rfl) (by kernel_rfl) (by kernel_rfl) (by kernel_rfl) (O_q64z_ok n) dorcNil_ok (.of (l := [(0, (lbody 1000 C_q64z 0))]) (by kernel_rfl) ⟨.head (loopL_sound (O_q64z_ok n) dorcNil_ok (.of (l := []) (by kernel_rfl) trivial) (s_q64z_s0 n)), trivial⟩) (e_q64z n)
noncomputable def F_q67z : FnT := ⟨1, ⟨[], [(0, (.lst .prp))], []⟩, [.v .i64], []⟩
noncomputable def F_q70z : FnT := ⟨1, ⟨[], [(0, .val)], []⟩, [.v .i64], []⟩
noncomputable def F_q72z : FnT := ⟨2, ⟨[], [(0, .val), (1, .i64)], []⟩, [.v .i64], []⟩
noncomputable def C_q72z : Code := bodyOf Tryz.f114
noncomputable def M_q72z : List (Nat × ArgM) := [(61, ⟨[], [], [], true⟩), (114, ⟨[], [], [], true⟩)]
instance : DfOk M_q72z := .none rfl
noncomputable def O_q72z {ρ : Type} (self_q72z : Ev.Val × Int × Unit → Option (Int × Unit)) (n : Nat) : Orc ρ := orcCons 61 F_valid (validN) (orcCons 114 F_q72z (self_q72z) (orcNil))
omit [QuietD Tryz.prog] [UDef] in
theorem O_q72z_ok {ρ : Type} (self_q72z : Ev.Val × Int × Unit → Option (Int × Unit)) (h_q72z : Contract Tryz.prog 114 F_q72z self_q72z) (n : Nat) : (O_q72z self_q72z n : Orc ρ).ok Tryz.prog := orcCons_ok (by kernel_rfl) (validN_ok) (orcCons_ok (by kernel_rfl) (h_q72z) (orcNil_ok))
noncomputable def T_q72z_s1 : Tm := ⟨[(2, .ptr 2 0)], [(1, .i64), (90, (.lst .val)), (91, .i64), (92, .i64)], [(2, .box [.d .val])]⟩
noncomputable def X_q72z_s1 : Tm := ⟨[(2, .ptr 2 0)], [], [(2, .box [.d .val])]⟩
noncomputable def R_q72z_s1 : Tm := ⟨[], [(4, .i64)], []⟩
noncomputable def L_q72z_s1 {ρ : Type} (self_q72z : Ev.Val × Int × Unit → Option (Int × Unit)) (n : Nat) : LOrc ρ := lorcNil
omit [Tabs] [QuietD Tryz.prog] [UDef] [UTabs] in
theorem s_q72z_s1 {ρ : Type} (self_q72z : Ev.Val × Int × Unit → Option (Int × Unit)) (n : Nat) (rec : T_q72z_s1.den → Option ρ) kx kr s : dStep Tryz.prog 114 TT M_q72z (O_q72z self_q72z n) (L_q72z_s1 self_q72z n) dorcNil 1 (lbody 1000 C_q72z 0) T_q72z_s1 X_q72z_s1 R_q72z_s1 ⟨[], [], []⟩ rec kx kr s = q72z_s1 self_q72z n rec kx kr s := by kernel_rfl
noncomputable def L_q72z {ρ : Type} (self_q72z : Ev.Val × Int × Unit → Option (Int × Unit)) (n : Nat) : LOrc ρ := lorcCons 1 (loopL 114 1 n T_q72z_s1 X_q72z_s1 R_q72z_s1 ⟨[], [], []⟩ (q72z_s1 self_q72z n)) (lorcNil)
omit [Tabs] [QuietD Tryz.prog] [UDef] [UTabs] in
theorem e_q72z (self_q72z : Ev.Val × Int × Unit → Option (Int × Unit)) (n : Nat) (x) : evF Tryz.prog 114 TT M_q72z F_q72z (O_q72z self_q72z n) (L_q72z self_q72z n) dorcNil ⟨[], [], []⟩ [.tmp 4] C_q72z x = q72z_b self_q72z n x := by kernel_rfl
omit [UDef] in
theorem okb_q72z (self_q72z : Ev.Val × Int × Unit → Option (Int × Unit)) (h_q72z : Contract Tryz.prog 114 F_q72z self_q72z) (n : Nat) : Contract Tryz.prog 114 F_q72z (q72z_b self_q72z n) :=
  Contract.of_ev (c := C_q72z) (N := 114) Tryz.func114 (by kernel_rfl) (by kernel_rfl) (by kernel_rfl) (by kernel_rfl) (O_q72z_ok self_q72z h_q72z n) dorcNil_ok (.of (l := [(1, (lbody 1000 C_q72z 0))]) (by kernel_rfl) ⟨.head (loopL_sound (O_q72z_ok self_q72z h_q72z n) dorcNil_ok (.of (l := []) (by kernel_rfl) trivial) (s_q72z_s1 self_q72z n)), trivial⟩) (e_q72z self_q72z n)
omit [UDef] in
theorem ok_q72z : ∀ n, Contract Tryz.prog 114 F_q72z (q72z n)
  | 0 => fun _ _ h => by cases h
  | n + 1 => okb_q72z _ (ok_q72z n) n
noncomputable def C_q70z : Code := bodyOf Tryz.f75
noncomputable def M_q70z : List (Nat × ArgM) := [(114, ⟨[], [], [], true⟩)]
instance : DfOk M_q70z := .none rfl
noncomputable def O_q70z {ρ : Type} (n : Nat) : Orc ρ := orcCons 114 F_q72z (q72z n) (orcNil)
omit [UDef] in
theorem O_q70z_ok {ρ : Type} (n : Nat) : (O_q70z n : Orc ρ).ok Tryz.prog := orcCons_ok (by kernel_rfl) (ok_q72z n) (orcNil_ok)
noncomputable def L_q70z {ρ : Type} (n : Nat) : LOrc ρ := lorcNil
omit [Tabs] [QuietD Tryz.prog] [UDef] [UTabs] in
theorem e_q70z (n : Nat) (x) : evF Tryz.prog 5 TT M_q70z F_q70z (O_q70z n) (L_q70z n) dorcNil ⟨[], [], []⟩ [.tmp 2] C_q70z x = q70z n x := by kernel_rfl
omit [UDef] in
theorem ok_q70z (n : Nat) : Contract Tryz.prog 75 F_q70z (q70z n) :=
  Contract.of_ev (c := C_q70z) (N := 5) Tryz.func75 (by kernel_rfl) (by kernel_rfl) (by kernel_rfl) (by kernel_rfl) (O_q70z_ok n) dorcNil_ok (.of (l := []) (by kernel_rfl) trivial) (e_q70z n)
noncomputable def C_q67z : Code := bodyOf Tryz.f50
noncomputable def M_q67z : List (Nat × ArgM) := [(42, ⟨[], [], [], true⟩), (75, ⟨[], [], [], true⟩)]
instance : DfOk M_q67z := .none rfl
noncomputable def O_q67z {ρ : Type} (n : Nat) : Orc ρ := orcCons 42 F_q77z (q77z n) (orcCons 75 F_q70z (q70z n) (orcNil))
omit [UDef] in
theorem O_q67z_ok {ρ : Type} (n : Nat) : (O_q67z n : Orc ρ).ok Tryz.prog := orcCons_ok (by kernel_rfl) (ok_q77z n) (orcCons_ok (by kernel_rfl) (ok_q70z n) (orcNil_ok))
noncomputable def T_q67z_s0 : Tm := ⟨[], [(0, (.lst .prp)), (9, (.lst .prp)), (10, .i64), (11, .i64)], []⟩
noncomputable def X_q67z_s0 : Tm := ⟨[], [], []⟩
noncomputable def R_q67z_s0 : Tm := ⟨[], [(2, .i64)], []⟩
noncomputable def L_q67z_s0 {ρ : Type} (n : Nat) : LOrc ρ := lorcNil
omit [Tabs] [QuietD Tryz.prog] [UDef] [UTabs] in
theorem s_q67z_s0 {ρ : Type} (n : Nat) (rec : T_q67z_s0.den → Option ρ) kx kr s : dStep Tryz.prog 48 TT M_q67z (O_q67z n) (L_q67z_s0 n) (evDraw Tryz.prog 48 TT M_q67z (O_q67z n)) 0 (lbody 1000 C_q67z 0) T_q67z_s0 X_q67z_s0 R_q67z_s0 ⟨[], [], []⟩ rec kx kr s = q67z_s0 n rec kx kr s := by kernel_rfl
noncomputable def L_q67z {ρ : Type} (n : Nat) : LOrc ρ := lorcCons 0 (loopL 48 0 n T_q67z_s0 X_q67z_s0 R_q67z_s0 ⟨[], [], []⟩ (q67z_s0 n)) (lorcNil)
omit [Tabs] [QuietD Tryz.prog] [UDef] [UTabs] in
theorem e_q67z (n : Nat) (x) : evF Tryz.prog 48 TT M_q67z F_q67z (O_q67z n) (L_q67z n) (evDraw Tryz.prog 48 TT M_q67z (O_q67z n)) ⟨[], [], []⟩ [.tmp 2] C_q67z x = q67z n x := by kernel_rfl
omit [UDef] in
theorem ok_q67z (n : Nat) : Contract Tryz.prog 50 F_q67z (q67z n) :=
  Contract.of_ev (c := C_q67z) (N := 48) Tryz.func50 (by kernel_rfl) (by kernel_rfl) (by kernel_rfl) (by kernel_rfl) (O_q67z_ok n) (evDraw_ok (O_q67z_ok n) (by kernel_rfl)) (.of (l := [(0, (lbody 1000 C_q67z 0))]) (by kernel_rfl) ⟨.head (loopL_sound (O_q67z_ok n) (evDraw_ok (O_q67z_ok n) (by kernel_rfl)) (.of (l := []) (by kernel_rfl) trivial) (s_q67z_s0 n)), trivial⟩) (e_q67z n)
noncomputable def F_q41z : FnT := ⟨1, ⟨[], [(0, (.lst .i64))], []⟩, [.v .i64], []⟩
noncomputable def C_q41z : Code := bodyOf Tryz.f48
noncomputable def M_q41z : List (Nat × ArgM) := []
instance : DfOk M_q41z := .none rfl
noncomputable def O_q41z {ρ : Type} (n : Nat) : Orc ρ := orcNil
omit [QuietD Tryz.prog] [UDef] [UTabs] in
theorem O_q41z_ok {ρ : Type} (n : Nat) : (O_q41z n : Orc ρ).ok Tryz.prog := orcNil_ok
noncomputable def T_q41z_s0 : Tm := ⟨[], [(3, .i64), (6, (.lst .i64)), (7, .i64), (8, .i64)], []⟩
noncomputable def X_q41z_s0 : Tm := ⟨[], [(3, .i64)], []⟩
noncomputable def R_q41z_s0 : Tm := ⟨[], [(2, .i64)], []⟩
noncomputable def L_q41z_s0 {ρ : Type} (n : Nat) : LOrc ρ := lorcNil
omit [Tabs] [QuietD Tryz.prog] [UDef] [UTabs] in
theorem s_q41z_s0 {ρ : Type} (n : Nat) (rec : T_q41z_s0.den → Option ρ) kx kr s : dStep Tryz.prog 18 TT M_q41z (O_q41z n) (L_q41z_s0 n) dorcNil 0 (lbody 1000 C_q41z 0) T_q41z_s0 X_q41z_s0 R_q41z_s0 ⟨[], [], []⟩ rec kx kr s = q41z_s0 n rec kx kr s := by kernel_rfl
noncomputable def L_q41z {ρ : Type} (n : Nat) : LOrc ρ := lorcCons 0 (loopL 18 0 n T_q41z_s0 X_q41z_s0 R_q41z_s0 ⟨[], [], []⟩ (q41z_s0 n)) (lorcNil)
omit [Tabs] [QuietD Tryz.prog] [UDef] [UTabs] in
theorem e_q41z (n : Nat) (x) : evF Tryz.prog 18 TT M_q41z F_q41z (O_q41z n) (L_q41z n) dorcNil ⟨[], [], []⟩ [.tmp 2] C_q41z x = q41z n x := by kernel_rfl
omit [UDef] [UTabs] in
theorem ok_q41z (n : Nat) : Contract Tryz.prog 48 F_q41z (q41z n) :=
  Contract.of_ev (c := C_q41z) (N := 18) Tryz.func48 (by kernel_rfl) (by kernel_rfl) (by kernel_rfl) (by kernel_rfl) (O_q41z_ok n) dorcNil_ok (.of (l := [(0, (lbody 1000 C_q41z 0))]) (by kernel_rfl) ⟨.head (loopL_sound (O_q41z_ok n) dorcNil_ok (.of (l := []) (by kernel_rfl) trivial) (s_q41z_s0 n)), trivial⟩) (e_q41z n)
noncomputable def F_q76z : FnT := ⟨2, ⟨[], [(0, .graph), (1, .i64)], []⟩, [.v .i64], []⟩
noncomputable def F_q2z : FnT := ⟨3, ⟨[(2, .fn 52)], [(0, (.lst .node)), (1, .i64)], []⟩, [.v .i64, .v .bool], []⟩
noncomputable def F_q63z : FnT := ⟨2, ⟨[], [(0, .node), (1, .i64)], []⟩, [.v .i64], []⟩
noncomputable def F_q46z : FnT := ⟨2, ⟨[], [(0, .i64), (1, .i64)], []⟩, [.v .i64], []⟩
noncomputable def F_q60z : FnT := ⟨1, ⟨[], [(0, .i64)], []⟩, [.v .bool], []⟩
noncomputable def C_q60z : Code := bodyOf Tryz.f76
noncomputable def M_q60z : List (Nat × ArgM) := []
instance : DfOk M_q60z := .none rfl
noncomputable def O_q60z {ρ : Type} : Orc ρ := orcNil
omit [QuietD Tryz.prog] [UDef] [UTabs] in
theorem O_q60z_ok {ρ : Type} : (O_q60z : Orc ρ).ok Tryz.prog := orcNil_ok
noncomputable def L_q60z {ρ : Type} : LOrc ρ := lorcNil
omit [Tabs] [QuietD Tryz.prog] [UDef] [UTabs] in
theorem e_q60z (x) : evF Tryz.prog 6 TT M_q60z F_q60z (O_q60z) (L_q60z) dorcNil ⟨[], [], []⟩ [.tmp 2] C_q60z x = q60z x := by kernel_rfl
omit [UDef] [UTabs] in
theorem ok_q60z : Contract Tryz.prog 76 F_q60z (q60z) :=
  Contract.of_ev (c := C_q60z) (N := 6) Tryz.func76 (by kernel_rfl) (by kernel_rfl) (by kernel_rfl) (by kernel_rfl) (O_q60z_ok) dorcNil_ok (.of (l := []) (by kernel_rfl) trivial) (e_q60z)
noncomputable def C_q46z : Code := bodyOf Tryz.f53
noncomputable def M_q46z : List (Nat × ArgM) := [(76, ⟨[], [], [], true⟩)]
instance : DfOk M_q46z := .none rfl
noncomputable def O_q46z {ρ : Type} : Orc ρ := orcCons 76 F_q60z (q60z) (orcNil)
omit [UDef] [UTabs] in
theorem O_q46z_ok {ρ : Type} : (O_q46z : Orc ρ).ok Tryz.prog := orcCons_ok (by kernel_rfl) (ok_q60z) (orcNil_ok)
noncomputable def L_q46z {ρ : Type} : LOrc ρ := lorcNil
omit [Tabs] [QuietD Tryz.prog] [UDef] [UTabs] in
theorem e_q46z (x) : evF Tryz.prog 20 TT M_q46z F_q46z (O_q46z) (L_q46z) dorcNil ⟨[], [], []⟩ [.tmp 4] C_q46z x = q46z x := by kernel_rfl
omit [UDef] [UTabs] in
theorem ok_q46z : Contract Tryz.prog 53 F_q46z (q46z) :=
  Contract.of_ev (c := C_q46z) (N := 20) Tryz.func53 (by kernel_rfl) (by kernel_rfl) (by kernel_rfl) (by kernel_rfl) (O_q46z_ok) dorcNil_ok (.of (l := []) (by kernel_rfl) trivial) (e_q46z)
noncomputable def C_q63z : Code := bodyOf Tryz.f52
noncomputable def M_q63z : List (Nat × ArgM) := [(53, ⟨[], [], [], true⟩)]
instance : DfOk M_q63z := .none rfl
noncomputable def O_q63z {ρ : Type} : Orc ρ := orcCons 53 F_q46z (q46z) (orcNil)
omit [UDef] [UTabs] in
theorem O_q63z_ok {ρ : Type} : (O_q63z : Orc ρ).ok Tryz.prog := orcCons_ok (by kernel_rfl) (ok_q46z) (orcNil_ok)
noncomputable def L_q63z {ρ : Type} : LOrc ρ := lorcNil
omit [Tabs] [QuietD Tryz.prog] [UDef] [UTabs] in
theorem e_q63z (x) : evF Tryz.prog 9 TT M_q63z F_q63z (O_q63z) (L_q63z) dorcNil ⟨[], [], []⟩ [.tmp 4] C_q63z x = q63z x := by kernel_rfl
omit [UDef] [UTabs] in
theorem ok_q63z : Contract Tryz.prog 52 F_q63z (q63z) :=
  Contract.of_ev (c := C_q63z) (N := 9) Tryz.func52 (by kernel_rfl) (by kernel_rfl) (by kernel_rfl) (by kernel_rfl) (O_q63z_ok) dorcNil_ok (.of (l := []) (by kernel_rfl) trivial) (e_q63z)
noncomputable def C_q2z : Code := bodyOf Tryz.f51
noncomputable def M_q2z : List (Nat × ArgM) := [(52, ⟨[], [], [], true⟩)]
instance : DfOk M_q2z := .none rfl
noncomputable def O_q2z {ρ : Type} (n : Nat) : Orc ρ := orcCons 52 F_q63z (q63z) (orcNil)
omit [UDef] [UTabs] in
theorem O_q2z_ok {ρ : Type} (n : Nat) : (O_q2z n : Orc ρ).ok Tryz.prog := orcCons_ok (by kernel_rfl) (ok_q63z) (orcNil_ok)
noncomputable def T_q2z_s0 : Tm := ⟨[(2, .fn 52)], [(0, (.lst .node)), (1, .i64), (8, .i64), (9, .i64), (10, .i64)], []⟩
noncomputable def X_q2z_s0 : Tm := ⟨[(2, .fn 52)], [(0, (.lst .node)), (1, .i64), (8, .i64), (9, .i64)], []⟩
noncomputable def R_q2z_s0 : Tm := ⟨[], [], []⟩
noncomputable def L_q2z_s0 {ρ : Type} (n : Nat) : LOrc ρ := lorcNil
omit [Tabs] [QuietD Tryz.prog] [UDef] [UTabs] in
theorem s_q2z_s0 {ρ : Type} (n : Nat) (rec : T_q2z_s0.den → Option ρ) kx kr s : dStep Tryz.prog 49 TT M_q2z (O_q2z n) (L_q2z_s0 n) dorcNil 0 (lbody 1000 C_q2z 0) T_q2z_s0 X_q2z_s0 R_q2z_s0 ⟨[], [], []⟩ rec kx kr s = q2z_s0 n rec kx kr s := by kernel_rfl
noncomputable def L_q2z {ρ : Type} (n : Nat) : LOrc ρ := lorcCons 0 (loopL 49 0 n T_q2z_s0 X_q2z_s0 R_q2z_s0 ⟨[], [], []⟩ (q2z_s0 n)) (lorcNil)
omit [Tabs] [QuietD Tryz.prog] [UDef] [UTabs] in
theorem e_q2z (n : Nat) (x) : evF Tryz.prog 49 TT M_q2z F_q2z (O_q2z n) (L_q2z n) dorcNil ⟨[], [], []⟩ [.tmp 6, .tmp 7] C_q2z x = q2z n x := by kernel_rfl
omit [UDef] [UTabs] in
theorem ok_q2z (n : Nat) : Contract Tryz.prog 51 F_q2z (q2z n) :=
  Contract.of_ev (c := C_q2z) (N := 49) Tryz.func51 (by kernel_rfl) (by kernel_rfl) (by kernel_rfl) (by kernel_rfl) (O_q2z_ok n) dorcNil_ok (.of (l := [(0, (lbody 1000 C_q2z 0))]) (by kernel_rfl) ⟨.head (loopL_sound (O_q2z_ok n) dorcNil_ok (.of (l := []) (by kernel_rfl) trivial) (s_q2z_s0 n)), trivial⟩) (e_q2z n)
noncomputable def C_q76z : Code := bodyOf Tryz.f22
noncomputable def M_q76z : List (Nat × ArgM) := [(51, ⟨[], [], [], true⟩)]
instance : DfOk M_q76z := .none rfl
noncomputable def O_q76z {ρ : Type} (n : Nat) : Orc ρ := orcCons 51 F_q2z (q2z n) (orcNil)
omit [UDef] [UTabs] in
theorem O_q76z_ok {ρ : Type} (n : Nat) : (O_q76z n : Orc ρ).ok Tryz.prog := orcCons_ok (by kernel_rfl) (ok_q2z n) (orcNil_ok)
noncomputable def L_q76z {ρ : Type} (n : Nat) : LOrc ρ := lorcNil
omit [Tabs] [QuietD Tryz.prog] [UDef] [UTabs] in
theorem e_q76z (n : Nat) (x) : evF Tryz.prog 17 TT M_q76z F_q76z (O_q76z n) (L_q76z n) dorcNil ⟨[], [], []⟩ [.tmp 4] C_q76z x = q76z n x := by kernel_rfl
omit [UDef] [UTabs] in
theorem ok_q76z (n : Nat) : Contract Tryz.prog 22 F_q76z (q76z n) :=
  Contract.of_ev (c := C_q76z) (N := 17) Tryz.func22 (by kernel_rfl) (by kernel_rfl) (by kernel_rfl) (by kernel_rfl) (O_q76z_ok n) dorcNil_ok (.of (l := []) (by kernel_rfl) trivial) (e_q76z n)
noncomputable def C_q66z : Code := bodyOf Tryz.f21
noncomputable def M_q66z : List (Nat × ArgM) := [(49, ⟨[], [], [], true⟩), (50, ⟨[], [], [], true⟩), (48, ⟨[], [], [], true⟩), (22, ⟨[], [], [], true⟩), (42, ⟨[], [], [], true⟩)]
instance : DfOk M_q66z := .none rfl
noncomputable def O_q66z {ρ : Type} (n : Nat) : Orc ρ := orcCons 49 F_q64z (q64z n) (orcCons 50 F_q67z (q67z n) (orcCons 48 F_q41z (q41z n) (orcCons 22 F_q76z (q76z n) (orcCons 42 F_q77z (q77z n) (orcNil)))))
omit [UDef] in
theorem O_q66z_ok {ρ : Type} (n : Nat) : (O_q66z n : Orc ρ).ok Tryz.prog := orcCons_ok (by kernel_rfl) (ok_q64z n) (orcCons_ok (by kernel_rfl) (ok_q67z n) (orcCons_ok (by kernel_rfl) (ok_q41z n) (orcCons_ok (by kernel_rfl) (ok_q76z n) (orcCons_ok (by kernel_rfl) (ok_q77z n) (orcNil_ok)))))
noncomputable def T_q66z_s0 : Tm := ⟨[(1, .ptr 1 0)], [(3, .i64), (22, (.lst .node)), (23, .i64), (24, .i64)], [(1, .box [.d .graph])]⟩
noncomputable def X_q66z_s0 : Tm := ⟨[(1, .ptr 1 0)], [(3, .i64)], [(1, .box [.d .graph])]⟩
noncomputable def R_q66z_s0 : Tm := ⟨[], [(2, .i64)], []⟩
noncomputable def L_q66z_s0 {ρ : Type} (n : Nat) : LOrc ρ := lorcNil
omit [Tabs] [QuietD Tryz.prog] [UDef] [UTabs] in
theorem s_q66z_s0 {ρ : Type} (n : Nat) (rec : T_q66z_s0.den → Option ρ) kx kr s : dStep Tryz.prog 103 TT M_q66z (O_q66z n) (L_q66z_s0 n) (evDraw Tryz.prog 103 TT M_q66z (O_q66z n)) 0 (lbody 1000 C_q66z 0) T_q66z_s0 X_q66z_s0 R_q66z_s0 ⟨[], [], []⟩ rec kx kr s = q66z_s0 n rec kx kr s := by kernel_rfl
noncomputable def T_q66z_s2 : Tm := ⟨[(1, .ptr 1 0)], [(3, .i64), (7, .i64), (48, (.lst .edg)), (49, .i64), (50, .i64)], [(1, .box [.d .graph])]⟩
noncomputable def X_q66z_s2 : Tm := ⟨[(1, .ptr 1 0)], [(3, .i64), (7, .i64)], [(1, .box [.d .graph])]⟩
noncomputable def R_q66z_s2 : Tm := ⟨[], [(2, .i64)], []⟩
noncomputable def L_q66z_s2 {ρ : Type} (n : Nat) : LOrc ρ := lorcNil
omit [Tabs] [QuietD Tryz.prog] [UDef] [UTabs] in
theorem s_q66z_s2 {ρ : Type} (n : Nat) (rec : T_q66z_s2.den → Option ρ) kx kr s : dStep Tryz.prog 103 TT M_q66z (O_q66z n) (L_q66z_s2 n) (evDraw Tryz.prog 103 TT M_q66z (O_q66z n)) 2 (lbody 1000 C_q66z 1) T_q66z_s2 X_q66z_s2 R_q66z_s2 ⟨[], [], []⟩ rec kx kr s = q66z_s2 n rec kx kr s := by kernel_rfl
noncomputable def L_q66z {ρ : Type} (n : Nat) : LOrc ρ := lorcCons 0 (loopL 103 0 n T_q66z_s0 X_q66z_s0 R_q66z_s0 ⟨[], [], []⟩ (q66z_s0 n)) (lorcCons 2 (loopL 103 2 n T_q66z_s2 X_q66z_s2 R_q66z_s2 ⟨[], [], []⟩ (q66z_s2 n)) (lorcNil))
omit [Tabs] [QuietD Tryz.prog] [UDef] [UTabs] in
theorem e_q66z (n : Nat) (x) : evF Tryz.prog 103 TT M_q66z F_q66z (O_q66z n) (L_q66z n) (evDraw Tryz.prog 103 TT M_q66z (O_q66z n)) ⟨[], [], []⟩ [.tmp 2] C_q66z x = q66z n x := by kernel_rfl
omit [UDef] in
theorem ok_q66z (n : Nat) : Contract Tryz.prog 21 F_q66z (q66z n) :=
  Contract.of_ev (c := C_q66z) (N := 103) Tryz.func21 (by kernel_rfl) (by kernel_rfl) (by kernel_rfl) (by kernel_rfl) (O_q66z_ok n) (evDraw_ok (O_q66z_ok n) (by kernel_rfl)) (.of (l := [(0, (lbody 1000 C_q66z 0)), (2, (lbody 1000 C_q66z 1))]) (by kernel_rfl) ⟨.head (loopL_sound (O_q66z_ok n) (evDraw_ok (O_q66z_ok n) (by kernel_rfl)) (.of (l := []) (by kernel_rfl) trivial) (s_q66z_s0 n)), ⟨.tail rfl (.head (loopL_sound (O_q66z_ok n) (evDraw_ok (O_q66z_ok n) (by kernel_rfl)) (.of (l := []) (by kernel_rfl) trivial) (s_q66z_s2 n))), trivial⟩⟩) (e_q66z n)
noncomputable def F_q55z : FnT := ⟨2, ⟨[], [(0, .graph), (1, .i64)], []⟩, [.v .i64], []⟩
noncomputable def F_q1z : FnT := ⟨3, ⟨[(2, .fn 55)], [(0, (.lst .edg)), (1, .i64)], []⟩, [.v .i64, .v .bool], []⟩
noncomputable def F_q45z : FnT := ⟨2, ⟨[], [(0, .edg), (1, .i64)], []⟩, [.v .i64], []⟩
noncomputable def C_q45z : Code := bodyOf Tryz.f55
noncomputable def M_q45z : List (Nat × ArgM) := [(53, ⟨[], [], [], true⟩)]
instance : DfOk M_q45z := .none rfl
noncomputable def O_q45z {ρ : Type} : Orc ρ := orcCons 53 F_q46z (q46z) (orcNil)
omit [UDef] [UTabs] in
theorem O_q45z_ok {ρ : Type} : (O_q45z : Orc ρ).ok Tryz.prog := orcCons_ok (by kernel_rfl) (ok_q46z) (orcNil_ok)
noncomputable def L_q45z {ρ : Type} : LOrc ρ := lorcNil
omit [Tabs] [QuietD Tryz.prog] [UDef] [UTabs] in
theorem e_q45z (x) : evF Tryz.prog 9 TT M_q45z F_q45z (O_q45z) (L_q45z) dorcNil ⟨[], [], []⟩ [.tmp 4] C_q45z x = q45z x := by kernel_rfl
omit [UDef] [UTabs] in
theorem ok_q45z : Contract Tryz.prog 55 F_q45z (q45z) :=
  Contract.of_ev (c := C_q45z) (N := 9) Tryz.func55 (by kernel_rfl) (by kernel_rfl) (by kernel_rfl) (by kernel_rfl) (O_q45z_ok) dorcNil_ok (.of (l := []) (by kernel_rfl) trivial) (e_q45z)
noncomputable def C_q1z : Code := bodyOf Tryz.f54
noncomputable def M_q1z : List (Nat × ArgM) := [(55, ⟨[], [], [], true⟩)]
instance : DfOk M_q1z := .none rfl
noncomputable def O_q1z {ρ : Type} (n : Nat) : Orc ρ := orcCons 55 F_q45z (q45z) (orcNil)
omit [UDef] [UTabs] in
theorem O_q1z_ok {ρ : Type} (n : Nat) : (O_q1z n : Orc ρ).ok Tryz.prog := orcCons_ok (by kernel_rfl) (ok_q45z) (orcNil_ok)
noncomputable def T_q1z_s0 : Tm := ⟨[(2, .fn 55)], [(0, (.lst .edg)), (1, .i64), (8, .i64), (9, .i64), (10, .i64)], []⟩
noncomputable def X_q1z_s0 : Tm := ⟨[(2, .fn 55)], [(0, (.lst .edg)), (1, .i64), (8, .i64), (9, .i64)], []⟩
noncomputable def R_q1z_s0 : Tm := ⟨[], [], []⟩
noncomputable def L_q1z_s0 {ρ : Type} (n : Nat) : LOrc ρ := lorcNil
omit [Tabs] [QuietD Tryz.prog] [UDef] [UTabs] in
theorem s_q1z_s0 {ρ : Type} (n : Nat) (rec : T_q1z_s0.den → Option ρ) kx kr s : dStep Tryz.prog 49 TT M_q1z (O_q1z n) (L_q1z_s0 n) dorcNil 0 (lbody 1000 C_q1z 0) T_q1z_s0 X_q1z_s0 R_q1z_s0 ⟨[], [], []⟩ rec kx kr s = q1z_s0 n rec kx kr s := by kernel_rfl
noncomputable def L_q1z {ρ : Type} (n : Nat) : LOrc ρ := lorcCons 0 (loopL 49 0 n T_q1z_s0 X_q1z_s0 R_q1z_s0 ⟨[], [], []⟩ (q1z_s0 n)) (lorcNil)
omit [Tabs] [QuietD Tryz.prog] [UDef] [UTabs] in
theorem e_q1z (n : Nat) (x) : evF Tryz.prog 49 TT M_q1z F_q1z (O_q1z n) (L_q1z n) dorcNil ⟨[], [], []⟩ [.tmp 6, .tmp 7] C_q1z x = q1z n x := by kernel_rfl
omit [UDef] [UTabs] in
theorem ok_q1z (n : Nat) : Contract Tryz.prog 54 F_q1z (q1z n) :=
  Contract.of_ev (c := C_q1z) (N := 49) Tryz.func54 (by kernel_rfl) (by kernel_rfl) (by kernel_rfl) (by kernel_rfl) (O_q1z_ok n) dorcNil_ok (.of (l := [(0, (lbody 1000 C_q1z 0))]) (by kernel_rfl) ⟨.head (loopL_sound (O_q1z_ok n) dorcNil_ok (.of (l := []) (by kernel_rfl) trivial) (s_q1z_s0 n)), trivial⟩) (e_q1z n)
noncomputable def C_q55z : Code := bodyOf Tryz.f23
noncomputable def M_q55z : List (Nat × ArgM) := [(54, ⟨[], [], [], true⟩)]
instance : DfOk M_q55z := .none rfl
noncomputable def O_q55z {ρ : Type} (n : Nat) : Orc ρ := orcCons 54 F_q1z (q1z n) (orcNil)
omit [UDef] [UTabs] in
theorem O_q55z_ok {ρ : Type} (n : Nat) : (O_q55z n : Orc ρ).ok Tryz.prog := orcCons_ok (by kernel_rfl) (ok_q1z n) (orcNil_ok)
noncomputable def L_q55z {ρ : Type} (n : Nat) : LOrc ρ := lorcNil
omit [Tabs] [QuietD Tryz.prog] [UDef] [UTabs] in
theorem e_q55z (n : Nat) (x) : evF Tryz.prog 17 TT M_q55z F_q55z (O_q55z n) (L_q55z n) dorcNil ⟨[], [], []⟩ [.tmp 4] C_q55z x = q55z n x := by kernel_rfl
omit [UDef] [UTabs] in
theorem ok_q55z (n : Nat) : Contract Tryz.prog 23 F_q55z (q55z n) :=
  Contract.of_ev (c := C_q55z) (N := 17) Tryz.func23 (by kernel_rfl) (by kernel_rfl) (by kernel_rfl) (by kernel_rfl) (O_q55z_ok n) dorcNil_ok (.of (l := []) (by kernel_rfl) trivial) (e_q55z n)
noncomputable def F_q78z : FnT := ⟨2, ⟨[], [(0, .term), (1, (.map .str .bool))], []⟩, [.v .i64], []⟩
noncomputable def F_q80z : FnT := ⟨3, ⟨[], [(0, .term), (1, (.map .str .bool)), (2, .i64)], []⟩, [.v .i64], []⟩
noncomputable def F_term_Name : FnT := ⟨1, ⟨[], [(0, .str)], []⟩, [.v .bool], []⟩
noncomputable def F_q62z : FnT := ⟨1, ⟨[], [(0, .str)], []⟩, [.v .bool], []⟩
noncomputable def F_q4z : FnT := ⟨2, ⟨[], [(0, (.lst .str)), (1, .str)], []⟩, [.v .bool], []⟩
noncomputable def F_q5z : FnT := ⟨2, ⟨[], [(0, (.lst .str)), (1, .str)], []⟩, [.v .i64], []⟩
noncomputable def C_q5z : Code := bodyOf Tryz.f69
noncomputable def M_q5z : List (Nat × ArgM) := []
instance : DfOk M_q5z := .none rfl
noncomputable def O_q5z {ρ : Type} (n : Nat) : Orc ρ := orcNil
omit [QuietD Tryz.prog] [UDef] [UTabs] in
theorem O_q5z_ok {ρ : Type} (n : Nat) : (O_q5z n : Orc ρ).ok Tryz.prog := orcNil_ok
noncomputable def T_q5z_s0 : Tm := ⟨[], [(0, (.lst .str)), (1, .str), (7, .i64), (8, .i64)], []⟩
noncomputable def X_q5z_s0 : Tm := ⟨[], [], []⟩
noncomputable def R_q5z_s0 : Tm := ⟨[], [(4, .i64)], []⟩
noncomputable def L_q5z_s0 {ρ : Type} (n : Nat) : LOrc ρ := lorcNil
omit [Tabs] [QuietD Tryz.prog] [UDef] [UTabs] in
theorem s_q5z_s0 {ρ : Type} (n : Nat) (rec : T_q5z_s0.den → Option ρ) kx kr s : dStep Tryz.prog 19 TT M_q5z (O_q5z n) (L_q5z_s0 n) dorcNil 0 (lbody 1000 C_q5z 0) T_q5z_s0 X_q5z_s0 R_q5z_s0 ⟨[], [], []⟩ rec kx kr s = q5z_s0 n rec kx kr s := by kernel_rfl
noncomputable def L_q5z {ρ : Type} (n : Nat) : LOrc ρ := lorcCons 0 (loopL 19 0 n T_q5z_s0 X_q5z_s0 R_q5z_s0 ⟨[], [], []⟩ (q5z_s0 n)) (lorcNil)
omit [Tabs] [QuietD Tryz.prog] [UDef] [UTabs] in
theorem e_q5z (n : Nat) (x) : evF Tryz.prog 19 TT M_q5z F_q5z (O_q5z n) (L_q5z n) dorcNil ⟨[], [], []⟩ [.tmp 4] C_q5z x = q5z n x := by kernel_rfl
omit [UDef] [UTabs] in
theorem ok_q5z (n : Nat) : Contract Tryz.prog 69 F_q5z (q5z n) :=
  Contract.of_ev (c := C_q5z) (N := 19) Tryz.func69 (by kernel_rfl) (by kernel_rfl) (by kernel_rfl) (by kernel_rfl) (O_q5z_ok n) dorcNil_ok (.of (l := [(0, (lbody 1000 C_q5z 0))]) (by kernel_rfl) ⟨.head (loopL_sound (O_q5z_ok n) dorcNil_ok (.of (l := []) (by kernel_rfl) trivial) (s_q5z_s0 n)), trivial⟩) (e_q5z n)
noncomputable def C_q4z : Code := bodyOf Tryz.f40
noncomputable def M_q4z : List (Nat × ArgM) := [(69, ⟨[], [], [], true⟩)]
instance : DfOk M_q4z := .none rfl
noncomputable def O_q4z {ρ : Type} (n : Nat) : Orc ρ := orcCons 69 F_q5z (q5z n) (orcNil)
omit [UDef] [UTabs] in
theorem O_q4z_ok {ρ : Type} (n : Nat) : (O_q4z n : Orc ρ).ok Tryz.prog := orcCons_ok (by kernel_rfl) (ok_q5z n) (orcNil_ok)
noncomputable def L_q4z {ρ : Type} (n : Nat) : LOrc ρ := lorcNil
omit [Tabs] [QuietD Tryz.prog] [UDef] [UTabs] in
theorem e_q4z (n : Nat) (x) : evF Tryz.prog 9 TT M_q4z F_q4z (O_q4z n) (L_q4z n) dorcNil ⟨[], [], []⟩ [.tmp 4] C_q4z x = q4z n x := by kernel_rfl
omit [UDef] [UTabs] in
theorem ok_q4z (n : Nat) : Contract Tryz.prog 40 F_q4z (q4z n) :=
  Contract.of_ev (c := C_q4z) (N := 9) Tryz.func40 (by kernel_rfl) (by kernel_rfl) (by kernel_rfl) (by kernel_rfl) (O_q4z_ok n) dorcNil_ok (.of (l := []) (by kernel_rfl) trivial) (e_q4z n)
noncomputable def C_q62z : Code := bodyOf Tryz.f14
noncomputable def M_q62z : List (Nat × ArgM) := [(40, ⟨[], [], [], true⟩)]
instance : DfOk M_q62z := .none rfl
noncomputable def O_q62z {ρ : Type} (n : Nat) : Orc ρ := orcCons 40 F_q4z (q4z n) (orcNil)
omit [UDef] [UTabs] in
theorem O_q62z_ok {ρ : Type} (n : Nat) : (O_q62z n : Orc ρ).ok Tryz.prog := orcCons_ok (by kernel_rfl) (ok_q4z n) (orcNil_ok)
noncomputable def L_q62z {ρ : Type} (n : Nat) : LOrc ρ := lorcNil
omit [Tabs] [QuietD Tryz.prog] [UDef] [UTabs] in
theorem e_q62z (n : Nat) (x) : evF Tryz.prog 6 TT M_q62z F_q62z (O_q62z n) (L_q62z n) dorcNil ⟨[], [], []⟩ [.tmp 2] C_q62z x = q62z n x := by kernel_rfl
omit [UDef] [UTabs] in
theorem ok_q62z (n : Nat) : Contract Tryz.prog 14 F_q62z (q62z n) :=
  Contract.of_ev (c := C_q62z) (N := 6) Tryz.func14 (by kernel_rfl) (by kernel_rfl) (by kernel_rfl) (by kernel_rfl) (O_q62z_ok n) dorcNil_ok (.of (l := []) (by kernel_rfl) trivial) (e_q62z n)
noncomputable def C_term_Name : Code := bodyOf Tryz.f16
noncomputable def M_term_Name : List (Nat × ArgM) := [(42, ⟨[], [], [], true⟩), (14, ⟨[], [], [], true⟩)]
instance : DfOk M_term_Name := .none rfl
noncomputable def O_term_Name {ρ : Type} (n : Nat) : Orc ρ := orcCons 42 F_q77z (q77z n) (orcCons 14 F_q62z (q62z n) (orcNil))
omit [UDef] [UTabs] in
theorem O_term_Name_ok {ρ : Type} (n : Nat) : (O_term_Name n : Orc ρ).ok Tryz.prog := orcCons_ok (by kernel_rfl) (ok_q77z n) (orcCons_ok (by kernel_rfl) (ok_q62z n) (orcNil_ok))
noncomputable def L_term_Name {ρ : Type} (n : Nat) : LOrc ρ := lorcNil
omit [Tabs] [QuietD Tryz.prog] [UDef] [UTabs] in
theorem e_term_Name (n : Nat) (x) : evF Tryz.prog 10 TT M_term_Name F_term_Name (O_term_Name n) (L_term_Name n) dorcNil ⟨[], [], []⟩ [.tmp 2] C_term_Name x = term_Name n x := by kernel_rfl
omit [UDef] [UTabs] in
theorem ok_term_Name (n : Nat) : Contract Tryz.prog 16 F_term_Name (term_Name n) :=
  Contract.of_ev (c := C_term_Name) (N := 10) Tryz.func16 (by kernel_rfl) (by kernel_rfl) (by kernel_rfl) (by kernel_rfl) (O_term_Name_ok n) dorcNil_ok (.of (l := []) (by kernel_rfl) trivial) (e_term_Name n)
noncomputable def F_q79z : FnT := ⟨1, ⟨[], [(0, .str)], []⟩, [.v .i64, .v .bool], []⟩
noncomputable def C_q79z : Code := bodyOf Tryz.f77
noncomputable def M_q79z : List (Nat × ArgM) := []
instance : DfOk M_q79z := .none rfl
noncomputable def O_q79z {ρ : Type} : Orc ρ := orcNil
omit [QuietD Tryz.prog] [UDef] [UTabs] in
theorem O_q79z_ok {ρ : Type} : (O_q79z : Orc ρ).ok Tryz.prog := orcNil_ok
noncomputable def L_q79z {ρ : Type} : LOrc ρ := lorcNil
omit [Tabs] [QuietD Tryz.prog] [UDef] [UTabs] in
theorem e_q79z (x) : evF Tryz.prog 25 TT M_q79z F_q79z (O_q79z) (L_q79z) dorcNil ⟨[], [], []⟩ [.tmp 2, .tmp 3] C_q79z x = q79z x := by kernel_rfl
omit [UDef] [UTabs] in
theorem ok_q79z : Contract Tryz.prog 77 F_q79z (q79z) :=
  Contract.of_ev (c := C_q79z) (N := 25) Tryz.func77 (by kernel_rfl) (by kernel_rfl) (by kernel_rfl) (by kernel_rfl) (O_q79z_ok) dorcNil_ok (.of (l := []) (by kernel_rfl) trivial) (e_q79z)
noncomputable def C_q80z : Code := bodyOf Tryz.f56
noncomputable def M_q80z : List (Nat × ArgM) := [(75, ⟨[], [], [], true⟩), (16, ⟨[], [], [], true⟩), (42, ⟨[], [], [], true⟩), (56, ⟨[], [], [], true⟩), (77, ⟨[], [], [], true⟩)]
instance : DfOk M_q80z := .none rfl
noncomputable def O_q80z {ρ : Type} (self_q80z : Ev.Term × (List (ByteArray × Bool)) × Int × Unit → Option (Int × Unit)) (n : Nat) : Orc ρ := orcCons 75 F_q70z (q70z n) (orcCons 16 F_term_Name (term_Name n) (orcCons 42 F_q77z (q77z n) (orcCons 56 F_q80z (self_q80z) (orcCons 77 F_q79z (q79z) (orcNil)))))
omit [UDef] in
theorem O_q80z_ok {ρ : Type} (self_q80z : Ev.Term × (List (ByteArray × Bool)) × Int × Unit → Option (Int × Unit)) (h_q80z : Contract Tryz.prog 56 F_q80z self_q80z) (n : Nat) : (O_q80z self_q80z n : Orc ρ).ok Tryz.prog := orcCons_ok (by kernel_rfl) (ok_q70z n) (orcCons_ok (by kernel_rfl) (ok_term_Name n) (orcCons_ok (by kernel_rfl) (ok_q77z n) (orcCons_ok (by kernel_rfl) (h_q80z) (orcCons_ok (by kernel_rfl) (ok_q79z) (orcNil_ok)))))
noncomputable def T_q80z_s1 : Tm := ⟨[(3, .ptr 3 0)], [(1, (.map .str .bool)), (2, .i64), (147, (.lst .term)), (148, .i64), (149, .i64)], [(3, .box [.d .term])]⟩
noncomputable def X_q80z_s1 : Tm := ⟨[(3, .ptr 3 0)], [(1, (.map .str .bool))], [(3, .box [.d .term])]⟩
noncomputable def R_q80z_s1 : Tm := ⟨[], [(6, .i64)], []⟩
noncomputable def L_q80z_s1 {ρ : Type} (self_q80z : Ev.Term × (List (ByteArray × Bool)) × Int × Unit → Option (Int × Unit)) (n : Nat) : LOrc ρ := lorcNil
omit [Tabs] [QuietD Tryz.prog] [UDef] [UTabs] in
theorem s_q80z_s1 {ρ : Type} (self_q80z : Ev.Term × (List (ByteArray × Bool)) × Int × Unit → Option (Int × Unit)) (n : Nat) (rec : T_q80z_s1.den → Option ρ) kx kr s : dStep Tryz.prog 196 TT M_q80z (O_q80z self_q80z n) (L_q80z_s1 self_q80z n) dorcNil 1 (lbody 1000 C_q80z 0) T_q80z_s1 X_q80z_s1 R_q80z_s1 ⟨[], [], []⟩ rec kx kr s = q80z_s1 self_q80z n rec kx kr s := by kernel_rfl
noncomputable def L_q80z {ρ : Type} (self_q80z : Ev.Term × (List (ByteArray × Bool)) × Int × Unit → Option (Int × Unit)) (n : Nat) : LOrc ρ := lorcCons 1 (loopL 196 1 n T_q80z_s1 X_q80z_s1 R_q80z_s1 ⟨[], [], []⟩ (q80z_s1 self_q80z n)) (lorcNil)
omit [Tabs] [QuietD Tryz.prog] [UDef] [UTabs] in
theorem e_q80z (self_q80z : Ev.Term × (List (ByteArray × Bool)) × Int × Unit → Option (Int × Unit)) (n : Nat) (x) : evF Tryz.prog 196 TT M_q80z F_q80z (O_q80z self_q80z n) (L_q80z self_q80z n) dorcNil ⟨[], [], []⟩ [.tmp 6] C_q80z x = q80z_b self_q80z n x := by kernel_rfl
omit [UDef] in
theorem okb_q80z (self_q80z : Ev.Term × (List (ByteArray × Bool)) × Int × Unit → Option (Int × Unit)) (h_q80z : Contract Tryz.prog 56 F_q80z self_q80z) (n : Nat) : Contract Tryz.prog 56 F_q80z (q80z_b self_q80z n) :=
  Contract.of_ev (c := C_q80z) (N := 196) Tryz.func56 (by kernel_rfl) (by kernel_rfl) (by kernel_rfl) (by kernel_rfl) (O_q80z_ok self_q80z h_q80z n) dorcNil_ok (.of (l := [(1, (lbody 1000 C_q80z 0))]) (by kernel_rfl) ⟨.head (loopL_sound (O_q80z_ok self_q80z h_q80z n) dorcNil_ok (.of (l := []) (by kernel_rfl) trivial) (s_q80z_s1 self_q80z n)), trivial⟩) (e_q80z self_q80z n)
omit [UDef] in
theorem ok_q80z : ∀ n, Contract Tryz.prog 56 F_q80z (q80z n)
  | 0 => fun _ _ h => by cases h
  | n + 1 => okb_q80z _ (ok_q80z n) n
noncomputable def C_q78z : Code := bodyOf Tryz.f24
noncomputable def M_q78z : List (Nat × ArgM) := [(56, ⟨[], [], [], true⟩)]
instance : DfOk M_q78z := .none rfl
noncomputable def O_q78z {ρ : Type} (n : Nat) : Orc ρ := orcCons 56 F_q80z (q80z n) (orcNil)
omit [UDef] in
theorem O_q78z_ok {ρ : Type} (n : Nat) : (O_q78z n : Orc ρ).ok Tryz.prog := orcCons_ok (by kernel_rfl) (ok_q80z n) (orcNil_ok)
noncomputable def L_q78z {ρ : Type} (n : Nat) : LOrc ρ := lorcNil
omit [Tabs] [QuietD Tryz.prog] [UDef] [UTabs] in
theorem e_q78z (n : Nat) (x) : evF Tryz.prog 8 TT M_q78z F_q78z (O_q78z n) (L_q78z n) dorcNil ⟨[], [], []⟩ [.tmp 4] C_q78z x = q78z n x := by kernel_rfl
omit [UDef] in
theorem ok_q78z (n : Nat) : Contract Tryz.prog 24 F_q78z (q78z n) :=
  Contract.of_ev (c := C_q78z) (N := 8) Tryz.func24 (by kernel_rfl) (by kernel_rfl) (by kernel_rfl) (by kernel_rfl) (O_q78z_ok n) dorcNil_ok (.of (l := []) (by kernel_rfl) trivial) (e_q78z n)
noncomputable def F_q56z : FnT := ⟨2, ⟨[], [(0, .envr), (1, .term)], []⟩, [.v .val], []⟩
noncomputable def F_q83z : FnT := ⟨1, ⟨[], [(0, .val)], []⟩, [.v .val], []⟩
noncomputable def C_q83z : Code := bodyOf Tryz.f57
noncomputable def M_q83z : List (Nat × ArgM) := []
instance : DfOk M_q83z := .none rfl
noncomputable def O_q83z {ρ : Type} (self_q83z : Ev.Val × Unit → Option (Ev.Val × Unit)) (n : Nat) : Orc ρ := orcCons 57 F_q83z (self_q83z) (orcNil)
omit [QuietD Tryz.prog] [UDef] [UTabs] in
theorem O_q83z_ok {ρ : Type} (self_q83z : Ev.Val × Unit → Option (Ev.Val × Unit)) (h_q83z : Contract Tryz.prog 57 F_q83z self_q83z) (n : Nat) : (O_q83z self_q83z n : Orc ρ).ok Tryz.prog := orcCons_ok (by kernel_rfl) (h_q83z) (orcNil_ok)
noncomputable def T_q83z_s0 : Tm := ⟨[(1, .ptr 1 0), (2, .ptr 2 0)], [(9, (.lst .val)), (10, .i64), (11, .i64)], [(1, .box [.d .i64, .d .i64, .d .str, .ref (.own 300043)]), (2, .box [.d .val]), (300043, .arr 30 .val)]⟩
noncomputable def X_q83z_s0 : Tm := ⟨[(1, .ptr 1 0), (2, .ptr 2 0)], [], [(1, .box [.d .i64, .d .i64, .d .str, .ref (.own 300043)]), (2, .box [.d .val]), (300043, .arr 30 .val)]⟩
noncomputable def R_q83z_s0 : Tm := ⟨[], [], []⟩
noncomputable def L_q83z_s0 {ρ : Type} (self_q83z : Ev.Val × Unit → Option (Ev.Val × Unit)) (n : Nat) : LOrc ρ := lorcNil
omit [Tabs] [QuietD Tryz.prog] [UDef] [UTabs] in
theorem s_q83z_s0 {ρ : Type} (self_q83z : Ev.Val × Unit → Option (Ev.Val × Unit)) (n : Nat) (rec : T_q83z_s0.den → Option ρ) kx kr s : dStep Tryz.prog 24 TT M_q83z (O_q83z self_q83z n) (L_q83z_s0 self_q83z n) (evDraw Tryz.prog 24 TT M_q83z (O_q83z self_q83z n)) 0 (lbody 1000 C_q83z 0) T_q83z_s0 X_q83z_s0 R_q83z_s0 ⟨[], [], [(1, 3, 300043, 30, 4)]⟩ rec kx kr s = q83z_s0 self_q83z n rec kx kr s := by kernel_rfl
noncomputable def L_q83z {ρ : Type} (self_q83z : Ev.Val × Unit → Option (Ev.Val × Unit)) (n : Nat) : LOrc ρ := lorcCons 0 (loopL 24 0 n T_q83z_s0 X_q83z_s0 R_q83z_s0 ⟨[], [], [(1, 3, 300043, 30, 4)]⟩ (q83z_s0 self_q83z n)) (lorcNil)
omit [Tabs] [QuietD Tryz.prog] [UDef] [UTabs] in
theorem e_q83z (self_q83z : Ev.Val × Unit → Option (Ev.Val × Unit)) (n : Nat) (x) : evF Tryz.prog 24 TT M_q83z F_q83z (O_q83z self_q83z n) (L_q83z self_q83z n) (evDraw Tryz.prog 24 TT M_q83z (O_q83z self_q83z n)) ⟨[], [], []⟩ [.cell 2 30] C_q83z x = q83z_b self_q83z n x := by kernel_rfl
omit [UDef] [UTabs] in
theorem okb_q83z (self_q83z : Ev.Val × Unit → Option (Ev.Val × Unit)) (h_q83z : Contract Tryz.prog 57 F_q83z self_q83z) (n : Nat) : Contract Tryz.prog 57 F_q83z (q83z_b self_q83z n) :=
  Contract.of_ev (c := C_q83z) (N := 24) Tryz.func57 (by kernel_rfl) (by kernel_rfl) (by kernel_rfl) (by kernel_rfl) (O_q83z_ok self_q83z h_q83z n) (evDraw_ok (O_q83z_ok self_q83z h_q83z n) (by kernel_rfl)) (.of (l := [(0, (lbody 1000 C_q83z 0))]) (by kernel_rfl) ⟨.head (loopL_sound (O_q83z_ok self_q83z h_q83z n) (evDraw_ok (O_q83z_ok self_q83z h_q83z n) (by kernel_rfl)) (.of (l := []) (by kernel_rfl) trivial) (s_q83z_s0 self_q83z n)), trivial⟩) (e_q83z self_q83z n)
omit [UDef] [UTabs] in
theorem ok_q83z : ∀ n, Contract Tryz.prog 57 F_q83z (q83z n)
  | 0 => fun _ _ h => by cases h
  | n + 1 => okb_q83z _ (ok_q83z n) n
noncomputable def F_q57z : FnT := ⟨3, ⟨[], [(0, .envr), (1, .i64), (2, .str)], []⟩, [.v .val], []⟩
noncomputable def F_graph_Get : FnT := ⟨2, ⟨[], [(0, (.lst .prp)), (1, .str)], []⟩, [.v .val], []⟩
noncomputable def C_graph_Get : Code := bodyOf Tryz.f78
noncomputable def M_graph_Get : List (Nat × ArgM) := []
instance : DfOk M_graph_Get := .none rfl
noncomputable def O_graph_Get {ρ : Type} (n : Nat) : Orc ρ := orcCons 57 F_q83z (q83z n) (orcNil)
omit [UDef] [UTabs] in
theorem O_graph_Get_ok {ρ : Type} (n : Nat) : (O_graph_Get n : Orc ρ).ok Tryz.prog := orcCons_ok (by kernel_rfl) (ok_q83z n) (orcNil_ok)
noncomputable def T_graph_Get_s0 : Tm := ⟨[(4, .ptr 4 0)], [(1, .str), (7, (.lst .prp)), (8, .i64), (9, .i64)], [(4, .box [.d .val])]⟩
noncomputable def X_graph_Get_s0 : Tm := ⟨[(4, .ptr 4 0)], [], [(4, .box [.d .val])]⟩
noncomputable def R_graph_Get_s0 : Tm := ⟨[(4, .ptr 4 0)], [], [(4, .box [.d .val])]⟩
noncomputable def L_graph_Get_s0 {ρ : Type} (n : Nat) : LOrc ρ := lorcNil
omit [Tabs] [QuietD Tryz.prog] [UDef] [UTabs] in
theorem s_graph_Get_s0 {ρ : Type} (n : Nat) (rec : T_graph_Get_s0.den → Option ρ) kx kr s : dStep Tryz.prog 22 TT M_graph_Get (O_graph_Get n) (L_graph_Get_s0 n) dorcNil 0 (lbody 1000 C_graph_Get 0) T_graph_Get_s0 X_graph_Get_s0 R_graph_Get_s0 ⟨[], [], []⟩ rec kx kr s = graph_Get_s0 n rec kx kr s := by kernel_rfl
noncomputable def L_graph_Get {ρ : Type} (n : Nat) : LOrc ρ := lorcCons 0 (loopL 22 0 n T_graph_Get_s0 X_graph_Get_s0 R_graph_Get_s0 ⟨[], [], []⟩ (graph_Get_s0 n)) (lorcNil)
omit [Tabs] [QuietD Tryz.prog] [UDef] [UTabs] in
theorem e_graph_Get (n : Nat) (x) : evF Tryz.prog 22 TT M_graph_Get F_graph_Get (O_graph_Get n) (L_graph_Get n) dorcNil ⟨[], [], []⟩ [.cell 4 30] C_graph_Get x = graph_Get n x := by kernel_rfl
omit [UDef] [UTabs] in
theorem ok_graph_Get (n : Nat) : Contract Tryz.prog 78 F_graph_Get (graph_Get n) :=
  Contract.of_ev (c := C_graph_Get) (N := 22) Tryz.func78 (by kernel_rfl) (by kernel_rfl) (by kernel_rfl) (by kernel_rfl) (O_graph_Get_ok n) dorcNil_ok (.of (l := [(0, (lbody 1000 C_graph_Get 0))]) (by kernel_rfl) ⟨.head (loopL_sound (O_graph_Get_ok n) dorcNil_ok (.of (l := []) (by kernel_rfl) trivial) (s_graph_Get_s0 n)), trivial⟩) (e_graph_Get n)
noncomputable def C_q57z : Code := bodyOf Tryz.f58
noncomputable def M_q57z : List (Nat × ArgM) := [(22, ⟨[], [], [], true⟩), (23, ⟨[], [], [], true⟩)]
instance : DfOk M_q57z := .none rfl
noncomputable def O_q57z {ρ : Type} (n : Nat) : Orc ρ := orcCons 22 F_q76z (q76z n) (orcCons 78 F_graph_Get (graph_Get n) (orcCons 23 F_q55z (q55z n) (orcNil)))
omit [UDef] [UTabs] in
theorem O_q57z_ok {ρ : Type} (n : Nat) : (O_q57z n : Orc ρ).ok Tryz.prog := orcCons_ok (by kernel_rfl) (ok_q76z n) (orcCons_ok (by kernel_rfl) (ok_graph_Get n) (orcCons_ok (by kernel_rfl) (ok_q55z n) (orcNil_ok)))
noncomputable def L_q57z {ρ : Type} (n : Nat) : LOrc ρ := lorcNil
omit [Tabs] [QuietD Tryz.prog] [UDef] [UTabs] in
theorem e_q57z (n : Nat) (x) : evF Tryz.prog 40 TT M_q57z F_q57z (O_q57z n) (L_q57z n) dorcNil ⟨[], [], []⟩ [.cell 6 30] C_q57z x = q57z n x := by kernel_rfl
omit [UDef] [UTabs] in
theorem ok_q57z (n : Nat) : Contract Tryz.prog 58 F_q57z (q57z n) :=
  Contract.of_ev (c := C_q57z) (N := 40) Tryz.func58 (by kernel_rfl) (by kernel_rfl) (by kernel_rfl) (by kernel_rfl) (O_q57z_ok n) dorcNil_ok (.of (l := []) (by kernel_rfl) trivial) (e_q57z n)
noncomputable def F_q61z : FnT := ⟨3, ⟨[], [(0, .envr), (1, .term), (2, (.lst .val))], []⟩, [.v .val], []⟩
noncomputable def F_q65z : FnT := ⟨3, ⟨[], [(0, .str), (1, .val), (2, .val)], []⟩, [.v .val, .v .i64], []⟩
noncomputable def F_value_add : FnT := ⟨2, ⟨[], [(0, .i64), (1, .i64)], []⟩, [.v .i64, .v .bool], []⟩
noncomputable def C_value_add : Code := bodyOf Tryz.f115
noncomputable def M_value_add : List (Nat × ArgM) := []
instance : DfOk M_value_add := .none rfl
noncomputable def O_value_add {ρ : Type} : Orc ρ := orcNil
omit [QuietD Tryz.prog] [UDef] [UTabs] in
theorem O_value_add_ok {ρ : Type} : (O_value_add : Orc ρ).ok Tryz.prog := orcNil_ok
noncomputable def L_value_add {ρ : Type} : LOrc ρ := lorcNil
omit [Tabs] [QuietD Tryz.prog] [UDef] [UTabs] in
theorem e_value_add (x) : evF Tryz.prog 17 TT M_value_add F_value_add (O_value_add) (L_value_add) dorcNil ⟨[], [], []⟩ [.tmp 4, .tmp 5] C_value_add x = value_add x := by kernel_rfl
omit [UDef] [UTabs] in
theorem ok_value_add : Contract Tryz.prog 115 F_value_add (value_add) :=
  Contract.of_ev (c := C_value_add) (N := 17) Tryz.func115 (by kernel_rfl) (by kernel_rfl) (by kernel_rfl) (by kernel_rfl) (O_value_add_ok) dorcNil_ok (.of (l := []) (by kernel_rfl) trivial) (e_value_add)
noncomputable def F_q58z : FnT := ⟨1, ⟨[], [(0, .val)], []⟩, [.mix [.d .i64, .d .i64, .d .str, .ref (.own 300043)]], [(300043, .arr 30 .val)]⟩
noncomputable def C_q58z : Code := bodyOf Tryz.f57
noncomputable def M_q58z : List (Nat × ArgM) := []
instance : DfOk M_q58z := .none rfl
noncomputable def O_q58z {ρ : Type} (n : Nat) : Orc ρ := orcCons 57 F_q83z (q83z n) (orcNil)
omit [UDef] [UTabs] in
theorem O_q58z_ok {ρ : Type} (n : Nat) : (O_q58z n : Orc ρ).ok Tryz.prog := orcCons_ok (by kernel_rfl) (ok_q83z n) (orcNil_ok)
noncomputable def T_q58z_s0 : Tm := ⟨[(1, .ptr 1 0), (2, .ptr 2 0)], [(9, (.lst .val)), (10, .i64), (11, .i64)], [(1, .box [.d .i64, .d .i64, .d .str, .ref (.own 300043)]), (2, .box [.d .val]), (300043, .arr 30 .val)]⟩
noncomputable def X_q58z_s0 : Tm := ⟨[(1, .ptr 1 0), (2, .ptr 2 0)], [], [(1, .box [.d .i64, .d .i64, .d .str, .ref (.own 300043)]), (2, .box [.d .val]), (300043, .arr 30 .val)]⟩
noncomputable def R_q58z_s0 : Tm := ⟨[], [], []⟩
noncomputable def L_q58z_s0 {ρ : Type} (n : Nat) : LOrc ρ := lorcNil
omit [Tabs] [QuietD Tryz.prog] [UDef] [UTabs] in
theorem s_q58z_s0 {ρ : Type} (n : Nat) (rec : T_q58z_s0.den → Option ρ) kx kr s : dStep Tryz.prog 24 TT M_q58z (O_q58z n) (L_q58z_s0 n) (evDraw Tryz.prog 24 TT M_q58z (O_q58z n)) 0 (lbody 1000 C_q58z 0) T_q58z_s0 X_q58z_s0 R_q58z_s0 ⟨[], [], [(1, 3, 300043, 30, 4)]⟩ rec kx kr s = q58z_s0 n rec kx kr s := by kernel_rfl
noncomputable def L_q58z {ρ : Type} (n : Nat) : LOrc ρ := lorcCons 0 (loopL 24 0 n T_q58z_s0 X_q58z_s0 R_q58z_s0 ⟨[], [], [(1, 3, 300043, 30, 4)]⟩ (q58z_s0 n)) (lorcNil)
omit [Tabs] [QuietD Tryz.prog] [UDef] [UTabs] in
theorem e_q58z (n : Nat) (x) : evF Tryz.prog 24 TT M_q58z F_q58z (O_q58z n) (L_q58z n) (evDraw Tryz.prog 24 TT M_q58z (O_q58z n)) ⟨[], [], []⟩ [.cell 2 30] C_q58z x = q58z n x := by kernel_rfl
omit [UDef] [UTabs] in
theorem ok_q58z (n : Nat) : Contract Tryz.prog 57 F_q58z (q58z n) :=
  Contract.of_ev (c := C_q58z) (N := 24) Tryz.func57 (by kernel_rfl) (by kernel_rfl) (by kernel_rfl) (by kernel_rfl) (O_q58z_ok n) (evDraw_ok (O_q58z_ok n) (by kernel_rfl)) (.of (l := [(0, (lbody 1000 C_q58z 0))]) (by kernel_rfl) ⟨.head (loopL_sound (O_q58z_ok n) (evDraw_ok (O_q58z_ok n) (by kernel_rfl)) (.of (l := []) (by kernel_rfl) trivial) (s_q58z_s0 n)), trivial⟩) (e_q58z n)
noncomputable def F_value_sub : FnT := ⟨2, ⟨[], [(0, .i64), (1, .i64)], []⟩, [.v .i64, .v .bool], []⟩
noncomputable def C_value_sub : Code := bodyOf Tryz.f116
noncomputable def M_value_sub : List (Nat × ArgM) := []
instance : DfOk M_value_sub := .none rfl
noncomputable def O_value_sub {ρ : Type} : Orc ρ := orcNil
omit [QuietD Tryz.prog] [UDef] [UTabs] in
theorem O_value_sub_ok {ρ : Type} : (O_value_sub : Orc ρ).ok Tryz.prog := orcNil_ok
noncomputable def L_value_sub {ρ : Type} : LOrc ρ := lorcNil
omit [Tabs] [QuietD Tryz.prog] [UDef] [UTabs] in
theorem e_value_sub (x) : evF Tryz.prog 17 TT M_value_sub F_value_sub (O_value_sub) (L_value_sub) dorcNil ⟨[], [], []⟩ [.tmp 4, .tmp 5] C_value_sub x = value_sub x := by kernel_rfl
omit [UDef] [UTabs] in
theorem ok_value_sub : Contract Tryz.prog 116 F_value_sub (value_sub) :=
  Contract.of_ev (c := C_value_sub) (N := 17) Tryz.func116 (by kernel_rfl) (by kernel_rfl) (by kernel_rfl) (by kernel_rfl) (O_value_sub_ok) dorcNil_ok (.of (l := []) (by kernel_rfl) trivial) (e_value_sub)
noncomputable def F_value_mul : FnT := ⟨2, ⟨[], [(0, .i64), (1, .i64)], []⟩, [.v .i64, .v .bool], []⟩
noncomputable def F_q73z : FnT := ⟨1, ⟨[], [(0, .i64)], []⟩, [.v .u64], []⟩
noncomputable def C_q73z : Code := bodyOf Tryz.f141
noncomputable def M_q73z : List (Nat × ArgM) := []
instance : DfOk M_q73z := .none rfl
noncomputable def O_q73z {ρ : Type} : Orc ρ := orcNil
omit [QuietD Tryz.prog] [UDef] [UTabs] in
theorem O_q73z_ok {ρ : Type} : (O_q73z : Orc ρ).ok Tryz.prog := orcNil_ok
noncomputable def L_q73z {ρ : Type} : LOrc ρ := lorcNil
omit [Tabs] [QuietD Tryz.prog] [UDef] [UTabs] in
theorem e_q73z (x) : evF Tryz.prog 10 TT M_q73z F_q73z (O_q73z) (L_q73z) dorcNil ⟨[], [], []⟩ [.tmp 2] C_q73z x = q73z x := by kernel_rfl
omit [UDef] [UTabs] in
theorem ok_q73z : Contract Tryz.prog 141 F_q73z (q73z) :=
  Contract.of_ev (c := C_q73z) (N := 10) Tryz.func141 (by kernel_rfl) (by kernel_rfl) (by kernel_rfl) (by kernel_rfl) (O_q73z_ok) dorcNil_ok (.of (l := []) (by kernel_rfl) trivial) (e_q73z)
noncomputable def F_q54z : FnT := ⟨2, ⟨[], [(0, .u64), (1, .u64)], []⟩, [.v .u64, .v .u64], []⟩
noncomputable def C_q54z : Code := bodyOf Tryz.f142
noncomputable def M_q54z : List (Nat × ArgM) := []
instance : DfOk M_q54z := .none rfl
noncomputable def O_q54z {ρ : Type} : Orc ρ := orcNil
omit [QuietD Tryz.prog] [UDef] [UTabs] in
theorem O_q54z_ok {ρ : Type} : (O_q54z : Orc ρ).ok Tryz.prog := orcNil_ok
noncomputable def L_q54z {ρ : Type} : LOrc ρ := lorcNil
omit [Tabs] [QuietD Tryz.prog] [UDef] [UTabs] in
theorem e_q54z (x) : evF Tryz.prog 51 TT M_q54z F_q54z (O_q54z) (L_q54z) dorcNil ⟨[], [], []⟩ [.tmp 4, .tmp 5] C_q54z x = q54z x := by kernel_rfl
omit [UDef] [UTabs] in
theorem ok_q54z : Contract Tryz.prog 142 F_q54z (q54z) :=
  Contract.of_ev (c := C_q54z) (N := 51) Tryz.func142 (by kernel_rfl) (by kernel_rfl) (by kernel_rfl) (by kernel_rfl) (O_q54z_ok) dorcNil_ok (.of (l := []) (by kernel_rfl) trivial) (e_q54z)
noncomputable def C_value_mul : Code := bodyOf Tryz.f117
noncomputable def M_value_mul : List (Nat × ArgM) := [(141, ⟨[], [], [], true⟩), (142, ⟨[], [], [], true⟩)]
instance : DfOk M_value_mul := .none rfl
noncomputable def O_value_mul {ρ : Type} : Orc ρ := orcCons 141 F_q73z (q73z) (orcCons 142 F_q54z (q54z) (orcNil))
omit [UDef] [UTabs] in
theorem O_value_mul_ok {ρ : Type} : (O_value_mul : Orc ρ).ok Tryz.prog := orcCons_ok (by kernel_rfl) (ok_q73z) (orcCons_ok (by kernel_rfl) (ok_q54z) (orcNil_ok))
noncomputable def L_value_mul {ρ : Type} : LOrc ρ := lorcNil
omit [Tabs] [QuietD Tryz.prog] [UDef] [UTabs] in
theorem e_value_mul (x) : evF Tryz.prog 45 TT M_value_mul F_value_mul (O_value_mul) (L_value_mul) dorcNil ⟨[], [], []⟩ [.tmp 4, .tmp 5] C_value_mul x = value_mul x := by kernel_rfl
omit [UDef] [UTabs] in
theorem ok_value_mul : Contract Tryz.prog 117 F_value_mul (value_mul) :=
  Contract.of_ev (c := C_value_mul) (N := 45) Tryz.func117 (by kernel_rfl) (by kernel_rfl) (by kernel_rfl) (by kernel_rfl) (O_value_mul_ok) dorcNil_ok (.of (l := []) (by kernel_rfl) trivial) (e_value_mul)
noncomputable def C_q65z : Code := bodyOf Tryz.f79
noncomputable def M_q65z : List (Nat × ArgM) := [(1500000057, ⟨[4, 3], [], [], false⟩), (999999999, ⟨[1], [], [], false⟩), (115, ⟨[], [], [], true⟩), (57, ⟨[], [], [300043], false⟩), (116, ⟨[], [], [], true⟩), (117, ⟨[], [], [], true⟩)]
instance : DfOk M_q65z := .none rfl
noncomputable def O_q65z {ρ : Type} (n : Nat) : Orc ρ := orcCons 115 F_value_add (value_add) (orcCons 57 F_q58z (q58z n) (orcCons 116 F_value_sub (value_sub) (orcCons 117 F_value_mul (value_mul) (orcNil))))
omit [UDef] [UTabs] in
theorem O_q65z_ok {ρ : Type} (n : Nat) : (O_q65z n : Orc ρ).ok Tryz.prog := orcCons_ok (by kernel_rfl) (ok_value_add) (orcCons_ok (by kernel_rfl) (ok_q58z n) (orcCons_ok (by kernel_rfl) (ok_value_sub) (orcCons_ok (by kernel_rfl) (ok_value_mul) (orcNil_ok))))
noncomputable def L_q65z {ρ : Type} (n : Nat) : LOrc ρ := lorcNil
omit [Tabs] [QuietD Tryz.prog] [UDef] [UTabs] in
theorem e_q65z (n : Nat) (x) : evF Tryz.prog 111 TT M_q65z F_q65z (O_q65z n) (L_q65z n) (evDraw Tryz.prog 111 TT M_q65z (O_q65z n)) ⟨[], [], []⟩ [.cell 6 30, .tmp 7] C_q65z x = q65z n x := by kernel_rfl
omit [UDef] [UTabs] in
theorem ok_q65z (n : Nat) : Contract Tryz.prog 79 F_q65z (q65z n) :=
  Contract.of_ev (c := C_q65z) (N := 111) Tryz.func79 (by kernel_rfl) (by kernel_rfl) (by kernel_rfl) (by kernel_rfl) (O_q65z_ok n) (evDraw_ok (O_q65z_ok n) (by kernel_rfl)) (.of (l := []) (by kernel_rfl) trivial) (e_q65z n)
noncomputable def F_q85z : FnT := ⟨2, ⟨[], [(0, .val), (1, .val)], []⟩, [.v .val], []⟩
noncomputable def F_q71z : FnT := ⟨2, ⟨[], [(0, .val), (1, .val)], []⟩, [.v .i64], []⟩
noncomputable def F_q25z : FnT := ⟨2, ⟨[], [(0, .str), (1, .str)], []⟩, [.v .i64], []⟩
noncomputable def F_q42z : FnT := ⟨1, ⟨[], [(0, .str)], []⟩, [.v .bool], []⟩
noncomputable def C_q42z : Code := bodyOf Tryz.f140
noncomputable def M_q42z : List (Nat × ArgM) := []
instance : DfOk M_q42z := .none rfl
noncomputable def O_q42z {ρ : Type} : Orc ρ := orcNil
omit [QuietD Tryz.prog] [UDef] [UTabs] in
theorem O_q42z_ok {ρ : Type} : (O_q42z : Orc ρ).ok Tryz.prog := orcNil_ok
noncomputable def L_q42z {ρ : Type} : LOrc ρ := lorcNil
omit [Tabs] [QuietD Tryz.prog] [UDef] [UTabs] in
theorem e_q42z (x) : evF Tryz.prog 6 TT M_q42z F_q42z (O_q42z) (L_q42z) dorcNil ⟨[], [], []⟩ [.tmp 2] C_q42z x = q42z x := by kernel_rfl
omit [UDef] [UTabs] in
theorem ok_q42z : Contract Tryz.prog 140 F_q42z (q42z) :=
  Contract.of_ev (c := C_q42z) (N := 6) Tryz.func140 (by kernel_rfl) (by kernel_rfl) (by kernel_rfl) (by kernel_rfl) (O_q42z_ok) dorcNil_ok (.of (l := []) (by kernel_rfl) trivial) (e_q42z)
noncomputable def C_q25z : Code := bodyOf Tryz.f144
noncomputable def M_q25z : List (Nat × ArgM) := [(140, ⟨[], [], [], true⟩)]
instance : DfOk M_q25z := .none rfl
noncomputable def O_q25z {ρ : Type} : Orc ρ := orcCons 140 F_q42z (q42z) (orcNil)
omit [UDef] [UTabs] in
theorem O_q25z_ok {ρ : Type} : (O_q25z : Orc ρ).ok Tryz.prog := orcCons_ok (by kernel_rfl) (ok_q42z) (orcNil_ok)
noncomputable def L_q25z {ρ : Type} : LOrc ρ := lorcNil
omit [Tabs] [QuietD Tryz.prog] [UDef] [UTabs] in
theorem e_q25z (x) : evF Tryz.prog 20 TT M_q25z F_q25z (O_q25z) (L_q25z) dorcNil ⟨[], [], []⟩ [.tmp 4] C_q25z x = q25z x := by kernel_rfl
omit [UDef] [UTabs] in
theorem ok_q25z : Contract Tryz.prog 144 F_q25z (q25z) :=
  Contract.of_ev (c := C_q25z) (N := 20) Tryz.func144 (by kernel_rfl) (by kernel_rfl) (by kernel_rfl) (by kernel_rfl) (O_q25z_ok) dorcNil_ok (.of (l := []) (by kernel_rfl) trivial) (e_q25z)
noncomputable def F_q0z : FnT := ⟨3, ⟨[(2, .fn 119)], [(0, (.lst .val)), (1, (.lst .val))], []⟩, [.v .i64], []⟩
noncomputable def C_q0z : Code := bodyOf Tryz.f145
noncomputable def M_q0z : List (Nat × ArgM) := [(119, ⟨[], [], [], true⟩)]
instance : DfOk M_q0z := .none rfl
noncomputable def O_q0z {ρ : Type} (self_q71z : Ev.Val × Ev.Val × Unit → Option (Int × Unit)) (n : Nat) : Orc ρ := orcCons 119 F_q71z (self_q71z) (orcNil)
omit [QuietD Tryz.prog] [UDef] [UTabs] in
theorem O_q0z_ok {ρ : Type} (self_q71z : Ev.Val × Ev.Val × Unit → Option (Int × Unit)) (h_q71z : Contract Tryz.prog 119 F_q71z self_q71z) (n : Nat) : (O_q0z self_q71z n : Orc ρ).ok Tryz.prog := orcCons_ok (by kernel_rfl) (h_q71z) (orcNil_ok)
noncomputable def T_q0z_s0 : Tm := ⟨[(2, .fn 119)], [(0, (.lst .val)), (1, (.lst .val)), (11, (.lst .val)), (12, .i64), (13, .i64)], []⟩
noncomputable def X_q0z_s0 : Tm := ⟨[], [(0, (.lst .val)), (1, (.lst .val))], []⟩
noncomputable def R_q0z_s0 : Tm := ⟨[], [(6, .i64)], []⟩
noncomputable def L_q0z_s0 {ρ : Type} (self_q71z : Ev.Val × Ev.Val × Unit → Option (Int × Unit)) (n : Nat) : LOrc ρ := lorcNil
omit [Tabs] [QuietD Tryz.prog] [UDef] [UTabs] in
theorem s_q0z_s0 {ρ : Type} (self_q71z : Ev.Val × Ev.Val × Unit → Option (Int × Unit)) (n : Nat) (rec : T_q0z_s0.den → Option ρ) kx kr s : dStep Tryz.prog 39 TT M_q0z (O_q0z self_q71z n) (L_q0z_s0 self_q71z n) dorcNil 0 (lbody 1000 C_q0z 0) T_q0z_s0 X_q0z_s0 R_q0z_s0 ⟨[], [], []⟩ rec kx kr s = q0z_s0 self_q71z n rec kx kr s := by kernel_rfl
noncomputable def L_q0z {ρ : Type} (self_q71z : Ev.Val × Ev.Val × Unit → Option (Int × Unit)) (n : Nat) : LOrc ρ := lorcCons 0 (loopL 39 0 n T_q0z_s0 X_q0z_s0 R_q0z_s0 ⟨[], [], []⟩ (q0z_s0 self_q71z n)) (lorcNil)
omit [Tabs] [QuietD Tryz.prog] [UDef] [UTabs] in
theorem e_q0z (self_q71z : Ev.Val × Ev.Val × Unit → Option (Int × Unit)) (n : Nat) (x) : evF Tryz.prog 39 TT M_q0z F_q0z (O_q0z self_q71z n) (L_q0z self_q71z n) dorcNil ⟨[], [], []⟩ [.tmp 6] C_q0z x = q0z self_q71z n x := by kernel_rfl
omit [UDef] [UTabs] in
theorem ok_q0z (self_q71z : Ev.Val × Ev.Val × Unit → Option (Int × Unit)) (h_q71z : Contract Tryz.prog 119 F_q71z self_q71z) (n : Nat) : Contract Tryz.prog 145 F_q0z (q0z self_q71z n) :=
  Contract.of_ev (c := C_q0z) (N := 39) Tryz.func145 (by kernel_rfl) (by kernel_rfl) (by kernel_rfl) (by kernel_rfl) (O_q0z_ok self_q71z h_q71z n) dorcNil_ok (.of (l := [(0, (lbody 1000 C_q0z 0))]) (by kernel_rfl) ⟨.head (loopL_sound (O_q0z_ok self_q71z h_q71z n) dorcNil_ok (.of (l := []) (by kernel_rfl) trivial) (s_q0z_s0 self_q71z n)), trivial⟩) (e_q0z self_q71z n)
noncomputable def F_q75z : FnT := ⟨1, ⟨[], [(0, (.lst .i64))], []⟩, [.v .i64], []⟩
noncomputable def C_q75z : Code := bodyOf Tryz.f143
noncomputable def M_q75z : List (Nat × ArgM) := []
instance : DfOk M_q75z := .none rfl
noncomputable def O_q75z {ρ : Type} (n : Nat) : Orc ρ := orcNil
omit [QuietD Tryz.prog] [UDef] [UTabs] in
theorem O_q75z_ok {ρ : Type} (n : Nat) : (O_q75z n : Orc ρ).ok Tryz.prog := orcNil_ok
noncomputable def T_q75z_s0 : Tm := ⟨[], [(3, .i64), (6, (.lst .i64)), (7, .i64), (8, .i64)], []⟩
noncomputable def X_q75z_s0 : Tm := ⟨[], [(3, .i64)], []⟩
noncomputable def R_q75z_s0 : Tm := ⟨[], [(2, .i64)], []⟩
noncomputable def L_q75z_s0 {ρ : Type} (n : Nat) : LOrc ρ := lorcNil
omit [Tabs] [QuietD Tryz.prog] [UDef] [UTabs] in
theorem s_q75z_s0 {ρ : Type} (n : Nat) (rec : T_q75z_s0.den → Option ρ) kx kr s : dStep Tryz.prog 18 TT M_q75z (O_q75z n) (L_q75z_s0 n) dorcNil 0 (lbody 1000 C_q75z 0) T_q75z_s0 X_q75z_s0 R_q75z_s0 ⟨[], [], []⟩ rec kx kr s = q75z_s0 n rec kx kr s := by kernel_rfl
noncomputable def L_q75z {ρ : Type} (n : Nat) : LOrc ρ := lorcCons 0 (loopL 18 0 n T_q75z_s0 X_q75z_s0 R_q75z_s0 ⟨[], [], []⟩ (q75z_s0 n)) (lorcNil)
omit [Tabs] [QuietD Tryz.prog] [UDef] [UTabs] in
theorem e_q75z (n : Nat) (x) : evF Tryz.prog 18 TT M_q75z F_q75z (O_q75z n) (L_q75z n) dorcNil ⟨[], [], []⟩ [.tmp 2] C_q75z x = q75z n x := by kernel_rfl
omit [UDef] [UTabs] in
theorem ok_q75z (n : Nat) : Contract Tryz.prog 143 F_q75z (q75z n) :=
  Contract.of_ev (c := C_q75z) (N := 18) Tryz.func143 (by kernel_rfl) (by kernel_rfl) (by kernel_rfl) (by kernel_rfl) (O_q75z_ok n) dorcNil_ok (.of (l := [(0, (lbody 1000 C_q75z 0))]) (by kernel_rfl) ⟨.head (loopL_sound (O_q75z_ok n) dorcNil_ok (.of (l := []) (by kernel_rfl) trivial) (s_q75z_s0 n)), trivial⟩) (e_q75z n)
noncomputable def C_q71z : Code := bodyOf Tryz.f119
noncomputable def M_q71z : List (Nat × ArgM) := [(53, ⟨[], [], [], true⟩), (144, ⟨[], [], [], true⟩), (145, ⟨[], [], [], true⟩), (143, ⟨[], [], [], true⟩)]
instance : DfOk M_q71z := .none rfl
noncomputable def O_q71z {ρ : Type} (self_q71z : Ev.Val × Ev.Val × Unit → Option (Int × Unit)) (n : Nat) : Orc ρ := orcCons 53 F_q46z (q46z) (orcCons 144 F_q25z (q25z) (orcCons 145 F_q0z (q0z self_q71z n) (orcCons 143 F_q75z (q75z n) (orcNil))))
omit [UDef] [UTabs] in
theorem O_q71z_ok {ρ : Type} (self_q71z : Ev.Val × Ev.Val × Unit → Option (Int × Unit)) (h_q71z : Contract Tryz.prog 119 F_q71z self_q71z) (n : Nat) : (O_q71z self_q71z n : Orc ρ).ok Tryz.prog := orcCons_ok (by kernel_rfl) (ok_q46z) (orcCons_ok (by kernel_rfl) (ok_q25z) (orcCons_ok (by kernel_rfl) (ok_q0z _ h_q71z n) (orcCons_ok (by kernel_rfl) (ok_q75z n) (orcNil_ok))))
noncomputable def L_q71z {ρ : Type} (self_q71z : Ev.Val × Ev.Val × Unit → Option (Int × Unit)) (n : Nat) : LOrc ρ := lorcNil
omit [Tabs] [QuietD Tryz.prog] [UDef] [UTabs] in
theorem e_q71z (self_q71z : Ev.Val × Ev.Val × Unit → Option (Int × Unit)) (n : Nat) (x) : evF Tryz.prog 31 TT M_q71z F_q71z (O_q71z self_q71z n) (L_q71z self_q71z n) (evDraw Tryz.prog 31 TT M_q71z (O_q71z self_q71z n)) ⟨[], [], []⟩ [.tmp 4] C_q71z x = q71z_b self_q71z n x := by kernel_rfl
omit [UDef] [UTabs] in
theorem okb_q71z (self_q71z : Ev.Val × Ev.Val × Unit → Option (Int × Unit)) (h_q71z : Contract Tryz.prog 119 F_q71z self_q71z) (n : Nat) : Contract Tryz.prog 119 F_q71z (q71z_b self_q71z n) :=
  Contract.of_ev (c := C_q71z) (N := 31) Tryz.func119 (by kernel_rfl) (by kernel_rfl) (by kernel_rfl) (by kernel_rfl) (O_q71z_ok self_q71z h_q71z n) (evDraw_ok (O_q71z_ok self_q71z h_q71z n) (by kernel_rfl)) (.of (l := []) (by kernel_rfl) trivial) (e_q71z self_q71z n)
omit [UDef] [UTabs] in
theorem ok_q71z : ∀ n, Contract Tryz.prog 119 F_q71z (q71z n)
  | 0 => fun _ _ h => by cases h
  | n + 1 => okb_q71z _ (ok_q71z n) n
noncomputable def F_q74z : FnT := ⟨1, ⟨[], [(0, .bool)], []⟩, [.v .val], []⟩
noncomputable def C_q74z : Code := bodyOf Tryz.f118
noncomputable def M_q74z : List (Nat × ArgM) := []
instance : DfOk M_q74z := .none rfl
noncomputable def O_q74z {ρ : Type} : Orc ρ := orcNil
omit [QuietD Tryz.prog] [UDef] [UTabs] in
theorem O_q74z_ok {ρ : Type} : (O_q74z : Orc ρ).ok Tryz.prog := orcNil_ok
noncomputable def L_q74z {ρ : Type} : LOrc ρ := lorcNil
omit [Tabs] [QuietD Tryz.prog] [UDef] [UTabs] in
theorem e_q74z (x) : evF Tryz.prog 8 TT M_q74z F_q74z (O_q74z) (L_q74z) dorcNil ⟨[], [], []⟩ [.cell 2 30] C_q74z x = q74z x := by kernel_rfl
omit [UDef] [UTabs] in
theorem ok_q74z : Contract Tryz.prog 118 F_q74z (q74z) :=
  Contract.of_ev (c := C_q74z) (N := 8) Tryz.func118 (by kernel_rfl) (by kernel_rfl) (by kernel_rfl) (by kernel_rfl) (O_q74z_ok) dorcNil_ok (.of (l := []) (by kernel_rfl) trivial) (e_q74z)
noncomputable def C_q85z : Code := bodyOf Tryz.f80
noncomputable def M_q85z : List (Nat × ArgM) := [(119, ⟨[], [], [], true⟩)]
instance : DfOk M_q85z := .none rfl
noncomputable def O_q85z {ρ : Type} (self_q85z : Ev.Val × Ev.Val × Unit → Option (Ev.Val × Unit)) (n : Nat) : Orc ρ := orcCons 119 F_q71z (q71z n) (orcCons 118 F_q74z (q74z) (orcCons 80 F_q85z (self_q85z) (orcNil)))
omit [UDef] [UTabs] in
theorem O_q85z_ok {ρ : Type} (self_q85z : Ev.Val × Ev.Val × Unit → Option (Ev.Val × Unit)) (h_q85z : Contract Tryz.prog 80 F_q85z self_q85z) (n : Nat) : (O_q85z self_q85z n : Orc ρ).ok Tryz.prog := orcCons_ok (by kernel_rfl) (ok_q71z n) (orcCons_ok (by kernel_rfl) (ok_q74z) (orcCons_ok (by kernel_rfl) (h_q85z) (orcNil_ok)))
noncomputable def T_q85z_s0 : Tm := ⟨[(2, .ptr 2 0), (3, .ptr 3 0), (4, .ptr 4 0), (5, .ptr 5 0)], [(41, .i64), (42, .i64)], [(2, .box [.d .val]), (3, .box [.d .val]), (4, .box [.d .val]), (5, .box [.d .val])]⟩
noncomputable def X_q85z_s0 : Tm := ⟨[(4, .ptr 4 0), (5, .ptr 5 0)], [], [(4, .box [.d .val]), (5, .box [.d .val])]⟩
noncomputable def R_q85z_s0 : Tm := ⟨[(4, .ptr 4 0)], [], [(4, .box [.d .val])]⟩
noncomputable def L_q85z_s0 {ρ : Type} (self_q85z : Ev.Val × Ev.Val × Unit → Option (Ev.Val × Unit)) (n : Nat) : LOrc ρ := lorcNil
omit [Tabs] [QuietD Tryz.prog] [UDef] [UTabs] in
theorem s_q85z_s0 {ρ : Type} (self_q85z : Ev.Val × Ev.Val × Unit → Option (Ev.Val × Unit)) (n : Nat) (rec : T_q85z_s0.den → Option ρ) kx kr s : dStep Tryz.prog 68 TT M_q85z (O_q85z self_q85z n) (L_q85z_s0 self_q85z n) (evDraw Tryz.prog 68 TT M_q85z (O_q85z self_q85z n)) 0 (lbody 1000 C_q85z 0) T_q85z_s0 X_q85z_s0 R_q85z_s0 ⟨[], [], []⟩ rec kx kr s = q85z_s0 self_q85z n rec kx kr s := by kernel_rfl
noncomputable def L_q85z {ρ : Type} (self_q85z : Ev.Val × Ev.Val × Unit → Option (Ev.Val × Unit)) (n : Nat) : LOrc ρ := lorcCons 0 (loopL 68 0 n T_q85z_s0 X_q85z_s0 R_q85z_s0 ⟨[], [], []⟩ (q85z_s0 self_q85z n)) (lorcNil)
omit [Tabs] [QuietD Tryz.prog] [UDef] [UTabs] in
theorem e_q85z (self_q85z : Ev.Val × Ev.Val × Unit → Option (Ev.Val × Unit)) (n : Nat) (x) : evF Tryz.prog 68 TT M_q85z F_q85z (O_q85z self_q85z n) (L_q85z self_q85z n) (evDraw Tryz.prog 68 TT M_q85z (O_q85z self_q85z n)) ⟨[], [], []⟩ [.cell 4 30] C_q85z x = q85z_b self_q85z n x := by kernel_rfl
omit [UDef] [UTabs] in
theorem okb_q85z (self_q85z : Ev.Val × Ev.Val × Unit → Option (Ev.Val × Unit)) (h_q85z : Contract Tryz.prog 80 F_q85z self_q85z) (n : Nat) : Contract Tryz.prog 80 F_q85z (q85z_b self_q85z n) :=
  Contract.of_ev (c := C_q85z) (N := 68) Tryz.func80 (by kernel_rfl) (by kernel_rfl) (by kernel_rfl) (by kernel_rfl) (O_q85z_ok self_q85z h_q85z n) (evDraw_ok (O_q85z_ok self_q85z h_q85z n) (by kernel_rfl)) (.of (l := [(0, (lbody 1000 C_q85z 0))]) (by kernel_rfl) ⟨.head (loopL_sound (O_q85z_ok self_q85z h_q85z n) (evDraw_ok (O_q85z_ok self_q85z h_q85z n) (by kernel_rfl)) (.of (l := []) (by kernel_rfl) trivial) (s_q85z_s0 self_q85z n)), trivial⟩) (e_q85z self_q85z n)
omit [UDef] [UTabs] in
theorem ok_q85z : ∀ n, Contract Tryz.prog 80 F_q85z (q85z n)
  | 0 => fun _ _ h => by cases h
  | n + 1 => okb_q85z _ (ok_q85z n) n
noncomputable def F_q84z : FnT := ⟨2, ⟨[], [(0, .val), (1, .val)], []⟩, [.v .val], []⟩
noncomputable def C_q84z : Code := bodyOf Tryz.f81
noncomputable def M_q84z : List (Nat × ArgM) := [(119, ⟨[], [], [], true⟩)]
instance : DfOk M_q84z := .none rfl
noncomputable def O_q84z {ρ : Type} (n : Nat) : Orc ρ := orcCons 119 F_q71z (q71z n) (orcCons 118 F_q74z (q74z) (orcNil))
omit [UDef] [UTabs] in
theorem O_q84z_ok {ρ : Type} (n : Nat) : (O_q84z n : Orc ρ).ok Tryz.prog := orcCons_ok (by kernel_rfl) (ok_q71z n) (orcCons_ok (by kernel_rfl) (ok_q74z) (orcNil_ok))
noncomputable def L_q84z {ρ : Type} (n : Nat) : LOrc ρ := lorcNil
omit [Tabs] [QuietD Tryz.prog] [UDef] [UTabs] in
theorem e_q84z (n : Nat) (x) : evF Tryz.prog 26 TT M_q84z F_q84z (O_q84z n) (L_q84z n) dorcNil ⟨[], [], []⟩ [.cell 4 30] C_q84z x = q84z n x := by kernel_rfl
omit [UDef] [UTabs] in
theorem ok_q84z (n : Nat) : Contract Tryz.prog 81 F_q84z (q84z n) :=
  Contract.of_ev (c := C_q84z) (N := 26) Tryz.func81 (by kernel_rfl) (by kernel_rfl) (by kernel_rfl) (by kernel_rfl) (O_q84z_ok n) dorcNil_ok (.of (l := []) (by kernel_rfl) trivial) (e_q84z n)
noncomputable def F_q69z : FnT := ⟨1, ⟨[], [(0, .val)], []⟩, [.v .val], []⟩
noncomputable def F_q81z : FnT := ⟨1, ⟨[], [(0, .val)], []⟩, [.v .bool, .v .bool], []⟩
noncomputable def C_q81z : Code := bodyOf Tryz.f120
noncomputable def M_q81z : List (Nat × ArgM) := []
instance : DfOk M_q81z := .none rfl
noncomputable def O_q81z {ρ : Type} : Orc ρ := orcNil
omit [QuietD Tryz.prog] [UDef] [UTabs] in
theorem O_q81z_ok {ρ : Type} : (O_q81z : Orc ρ).ok Tryz.prog := orcNil_ok
noncomputable def L_q81z {ρ : Type} : LOrc ρ := lorcNil
omit [Tabs] [QuietD Tryz.prog] [UDef] [UTabs] in
theorem e_q81z (x) : evF Tryz.prog 10 TT M_q81z F_q81z (O_q81z) (L_q81z) (evDraw Tryz.prog 10 TT M_q81z (O_q81z)) ⟨[], [], []⟩ [.tmp 2, .tmp 3] C_q81z x = q81z x := by kernel_rfl
omit [UDef] [UTabs] in
theorem ok_q81z : Contract Tryz.prog 120 F_q81z (q81z) :=
  Contract.of_ev (c := C_q81z) (N := 10) Tryz.func120 (by kernel_rfl) (by kernel_rfl) (by kernel_rfl) (by kernel_rfl) (O_q81z_ok) (evDraw_ok (O_q81z_ok) (by kernel_rfl)) (.of (l := []) (by kernel_rfl) trivial) (e_q81z)
noncomputable def F_q82z : FnT := ⟨1, ⟨[], [(0, .bool)], []⟩, [.v .val], []⟩
noncomputable def C_q82z : Code := bodyOf Tryz.f84
noncomputable def M_q82z : List (Nat × ArgM) := []
instance : DfOk M_q82z := .none rfl
noncomputable def O_q82z {ρ : Type} : Orc ρ := orcNil
omit [QuietD Tryz.prog] [UDef] [UTabs] in
theorem O_q82z_ok {ρ : Type} : (O_q82z : Orc ρ).ok Tryz.prog := orcNil_ok
noncomputable def L_q82z {ρ : Type} : LOrc ρ := lorcNil
omit [Tabs] [QuietD Tryz.prog] [UDef] [UTabs] in
theorem e_q82z (x) : evF Tryz.prog 6 TT M_q82z F_q82z (O_q82z) (L_q82z) dorcNil ⟨[], [], []⟩ [.cell 2 30] C_q82z x = q82z x := by kernel_rfl
omit [UDef] [UTabs] in
theorem ok_q82z : Contract Tryz.prog 84 F_q82z (q82z) :=
  Contract.of_ev (c := C_q82z) (N := 6) Tryz.func84 (by kernel_rfl) (by kernel_rfl) (by kernel_rfl) (by kernel_rfl) (O_q82z_ok) dorcNil_ok (.of (l := []) (by kernel_rfl) trivial) (e_q82z)
noncomputable def C_q69z : Code := bodyOf Tryz.f82
noncomputable def M_q69z : List (Nat × ArgM) := [(120, ⟨[], [], [], true⟩)]
instance : DfOk M_q69z := .none rfl
noncomputable def O_q69z {ρ : Type} : Orc ρ := orcCons 120 F_q81z (q81z) (orcCons 84 F_q82z (q82z) (orcNil))
omit [UDef] [UTabs] in
theorem O_q69z_ok {ρ : Type} : (O_q69z : Orc ρ).ok Tryz.prog := orcCons_ok (by kernel_rfl) (ok_q81z) (orcCons_ok (by kernel_rfl) (ok_q82z) (orcNil_ok))
noncomputable def L_q69z {ρ : Type} : LOrc ρ := lorcNil
omit [Tabs] [QuietD Tryz.prog] [UDef] [UTabs] in
theorem e_q69z (x) : evF Tryz.prog 15 TT M_q69z F_q69z (O_q69z) (L_q69z) dorcNil ⟨[], [], []⟩ [.cell 2 30] C_q69z x = q69z x := by kernel_rfl
omit [UDef] [UTabs] in
theorem ok_q69z : Contract Tryz.prog 82 F_q69z (q69z) :=
  Contract.of_ev (c := C_q69z) (N := 15) Tryz.func82 (by kernel_rfl) (by kernel_rfl) (by kernel_rfl) (by kernel_rfl) (O_q69z_ok) dorcNil_ok (.of (l := []) (by kernel_rfl) trivial) (e_q69z)
noncomputable def F_q68z : FnT := ⟨2, ⟨[], [(0, .val), (1, .val)], []⟩, [.v .val], []⟩
noncomputable def C_q68z : Code := bodyOf Tryz.f83
noncomputable def M_q68z : List (Nat × ArgM) := [(120, ⟨[], [], [], true⟩)]
instance : DfOk M_q68z := .none rfl
noncomputable def O_q68z {ρ : Type} : Orc ρ := orcCons 120 F_q81z (q81z) (orcCons 84 F_q82z (q82z) (orcNil))
omit [UDef] [UTabs] in
theorem O_q68z_ok {ρ : Type} : (O_q68z : Orc ρ).ok Tryz.prog := orcCons_ok (by kernel_rfl) (ok_q81z) (orcCons_ok (by kernel_rfl) (ok_q82z) (orcNil_ok))
noncomputable def L_q68z {ρ : Type} : LOrc ρ := lorcNil
omit [Tabs] [QuietD Tryz.prog] [UDef] [UTabs] in
theorem e_q68z (x) : evF Tryz.prog 38 TT M_q68z F_q68z (O_q68z) (L_q68z) dorcNil ⟨[], [], []⟩ [.cell 4 30] C_q68z x = q68z x := by kernel_rfl
omit [UDef] [UTabs] in
theorem ok_q68z : Contract Tryz.prog 83 F_q68z (q68z) :=
  Contract.of_ev (c := C_q68z) (N := 38) Tryz.func83 (by kernel_rfl) (by kernel_rfl) (by kernel_rfl) (by kernel_rfl) (O_q68z_ok) dorcNil_ok (.of (l := []) (by kernel_rfl) trivial) (e_q68z)
noncomputable def C_q61z : Code := bodyOf Tryz.f59
noncomputable def M_q61z : List (Nat × ArgM) := [(75, ⟨[], [], [], true⟩), (23, ⟨[], [], [], true⟩)]
instance : DfOk M_q61z := .none rfl
noncomputable def O_q61z {ρ : Type} (n : Nat) : Orc ρ := orcCons 79 F_q65z (q65z n) (orcCons 75 F_q70z (q70z n) (orcCons 80 F_q85z (q85z n) (orcCons 81 F_q84z (q84z n) (orcCons 82 F_q69z (q69z) (orcCons 83 F_q68z (q68z) (orcCons 84 F_q82z (q82z) (orcCons 23 F_q55z (q55z n) (orcNil))))))))
omit [UDef] in
theorem O_q61z_ok {ρ : Type} (n : Nat) : (O_q61z n : Orc ρ).ok Tryz.prog := orcCons_ok (by kernel_rfl) (ok_q65z n) (orcCons_ok (by kernel_rfl) (ok_q70z n) (orcCons_ok (by kernel_rfl) (ok_q85z n) (orcCons_ok (by kernel_rfl) (ok_q84z n) (orcCons_ok (by kernel_rfl) (ok_q69z) (orcCons_ok (by kernel_rfl) (ok_q68z) (orcCons_ok (by kernel_rfl) (ok_q82z) (orcCons_ok (by kernel_rfl) (ok_q55z n) (orcNil_ok))))))))
noncomputable def T_q61z_s1 : Tm := ⟨[(6, .ptr 6 0), (9, .ptr 9 0)], [(2, (.lst .val)), (114, (.lst .val)), (115, .i64), (116, .i64)], [(6, .box [.d .val]), (9, .box [.d .val])]⟩
noncomputable def X_q61z_s1 : Tm := ⟨[(6, .ptr 6 0), (9, .ptr 9 0)], [], [(6, .box [.d .val]), (9, .box [.d .val])]⟩
noncomputable def R_q61z_s1 : Tm := ⟨[], [], []⟩
noncomputable def L_q61z_s1 {ρ : Type} (n : Nat) : LOrc ρ := lorcNil
omit [Tabs] [QuietD Tryz.prog] [UDef] [UTabs] in
theorem s_q61z_s1 {ρ : Type} (n : Nat) (rec : T_q61z_s1.den → Option ρ) kx kr s : dStep Tryz.prog 219 TT M_q61z (O_q61z n) (L_q61z_s1 n) (evDraw Tryz.prog 219 TT M_q61z (O_q61z n)) 1 (lbody 1000 C_q61z 0) T_q61z_s1 X_q61z_s1 R_q61z_s1 ⟨[], [], []⟩ rec kx kr s = q61z_s1 n rec kx kr s := by kernel_rfl
noncomputable def T_q61z_s4 : Tm := ⟨[(6, .ptr 6 0)], [(175, (.lst .val)), (176, .i64), (177, .i64)], [(6, .box [.d .val])]⟩
noncomputable def X_q61z_s4 : Tm := ⟨[(6, .ptr 6 0)], [], [(6, .box [.d .val])]⟩
noncomputable def R_q61z_s4 : Tm := ⟨[(6, .ptr 6 0)], [], [(6, .box [.d .val])]⟩
noncomputable def L_q61z_s4 {ρ : Type} (n : Nat) : LOrc ρ := lorcNil
omit [Tabs] [QuietD Tryz.prog] [UDef] [UTabs] in
theorem s_q61z_s4 {ρ : Type} (n : Nat) (rec : T_q61z_s4.den → Option ρ) kx kr s : dStep Tryz.prog 219 TT M_q61z (O_q61z n) (L_q61z_s4 n) (evDraw Tryz.prog 219 TT M_q61z (O_q61z n)) 4 (lbody 1000 C_q61z 1) T_q61z_s4 X_q61z_s4 R_q61z_s4 ⟨[], [], []⟩ rec kx kr s = q61z_s4 n rec kx kr s := by kernel_rfl
noncomputable def L_q61z {ρ : Type} (n : Nat) : LOrc ρ := lorcCons 1 (loopL 219 1 n T_q61z_s1 X_q61z_s1 R_q61z_s1 ⟨[], [], []⟩ (q61z_s1 n)) (lorcCons 4 (loopL 219 4 n T_q61z_s4 X_q61z_s4 R_q61z_s4 ⟨[], [], []⟩ (q61z_s4 n)) (lorcNil))
omit [Tabs] [QuietD Tryz.prog] [UDef] [UTabs] in
theorem e_q61z (n : Nat) (x) : evF Tryz.prog 219 TT M_q61z F_q61z (O_q61z n) (L_q61z n) (evDraw Tryz.prog 219 TT M_q61z (O_q61z n)) ⟨[], [], []⟩ [.cell 6 30] C_q61z x = q61z n x := by kernel_rfl
omit [UDef] in
theorem ok_q61z (n : Nat) : Contract Tryz.prog 59 F_q61z (q61z n) :=
  Contract.of_ev (c := C_q61z) (N := 219) Tryz.func59 (by kernel_rfl) (by kernel_rfl) (by kernel_rfl) (by kernel_rfl) (O_q61z_ok n) (evDraw_ok (O_q61z_ok n) (by kernel_rfl)) (.of (l := [(1, (lbody 1000 C_q61z 0)), (4, (lbody 1000 C_q61z 1))]) (by kernel_rfl) ⟨.head (loopL_sound (O_q61z_ok n) (evDraw_ok (O_q61z_ok n) (by kernel_rfl)) (.of (l := []) (by kernel_rfl) trivial) (s_q61z_s1 n)), ⟨.tail rfl (.head (loopL_sound (O_q61z_ok n) (evDraw_ok (O_q61z_ok n) (by kernel_rfl)) (.of (l := []) (by kernel_rfl) trivial) (s_q61z_s4 n))), trivial⟩⟩) (e_q61z n)
noncomputable def C_q56z : Code := bodyOf Tryz.f25
noncomputable def M_q56z : List (Nat × ArgM) := []
instance : DfOk M_q56z := .none rfl
noncomputable def O_q56z {ρ : Type} (self_q56z : Ev.Envr × Ev.Term × Unit → Option (Ev.Val × Unit)) (n : Nat) : Orc ρ := orcCons 57 F_q83z (q83z n) (orcCons 58 F_q57z (q57z n) (orcCons 25 F_q56z (self_q56z) (orcCons 59 F_q61z (q61z n) (orcNil))))
omit [UDef] in
theorem O_q56z_ok {ρ : Type} (self_q56z : Ev.Envr × Ev.Term × Unit → Option (Ev.Val × Unit)) (h_q56z : Contract Tryz.prog 25 F_q56z self_q56z) (n : Nat) : (O_q56z self_q56z n : Orc ρ).ok Tryz.prog := orcCons_ok (by kernel_rfl) (ok_q83z n) (orcCons_ok (by kernel_rfl) (ok_q57z n) (orcCons_ok (by kernel_rfl) (h_q56z) (orcCons_ok (by kernel_rfl) (ok_q61z n) (orcNil_ok))))
noncomputable def T_q56z_s1 : Tm := ⟨[(2, .ptr 2 0), (3, .ptr 3 0), (4, .ptr 4 0), (5, .own 5)], [(38, (.lst .term)), (39, .i64), (40, .i64)], [(2, .box [.d .envr]), (3, .box [.d .term]), (4, .box [.d .val]), (5, .arr 30 .val)]⟩
noncomputable def X_q56z_s1 : Tm := ⟨[(2, .ptr 2 0), (3, .ptr 3 0), (4, .ptr 4 0), (5, .own 5)], [], [(2, .box [.d .envr]), (3, .box [.d .term]), (4, .box [.d .val]), (5, .arr 30 .val)]⟩
noncomputable def R_q56z_s1 : Tm := ⟨[], [], []⟩
noncomputable def L_q56z_s1 {ρ : Type} (self_q56z : Ev.Envr × Ev.Term × Unit → Option (Ev.Val × Unit)) (n : Nat) : LOrc ρ := lorcNil
omit [Tabs] [QuietD Tryz.prog] [UDef] [UTabs] in
theorem s_q56z_s1 {ρ : Type} (self_q56z : Ev.Envr × Ev.Term × Unit → Option (Ev.Val × Unit)) (n : Nat) (rec : T_q56z_s1.den → Option ρ) kx kr s : dStep Tryz.prog 55 TT M_q56z (O_q56z self_q56z n) (L_q56z_s1 self_q56z n) (evDraw Tryz.prog 55 TT M_q56z (O_q56z self_q56z n)) 1 (lbody 1000 C_q56z 0) T_q56z_s1 X_q56z_s1 R_q56z_s1 ⟨[], [(5, 5, 30, 4)], []⟩ rec kx kr s = q56z_s1 self_q56z n rec kx kr s := by kernel_rfl
noncomputable def L_q56z {ρ : Type} (self_q56z : Ev.Envr × Ev.Term × Unit → Option (Ev.Val × Unit)) (n : Nat) : LOrc ρ := lorcCons 1 (loopL 55 1 n T_q56z_s1 X_q56z_s1 R_q56z_s1 ⟨[], [(5, 5, 30, 4)], []⟩ (q56z_s1 self_q56z n)) (lorcNil)
omit [Tabs] [QuietD Tryz.prog] [UDef] [UTabs] in
theorem e_q56z (self_q56z : Ev.Envr × Ev.Term × Unit → Option (Ev.Val × Unit)) (n : Nat) (x) : evF Tryz.prog 55 TT M_q56z F_q56z (O_q56z self_q56z n) (L_q56z self_q56z n) (evDraw Tryz.prog 55 TT M_q56z (O_q56z self_q56z n)) ⟨[], [], []⟩ [.cell 4 30] C_q56z x = q56z_b self_q56z n x := by kernel_rfl
omit [UDef] in
theorem okb_q56z (self_q56z : Ev.Envr × Ev.Term × Unit → Option (Ev.Val × Unit)) (h_q56z : Contract Tryz.prog 25 F_q56z self_q56z) (n : Nat) : Contract Tryz.prog 25 F_q56z (q56z_b self_q56z n) :=
  Contract.of_ev (c := C_q56z) (N := 55) Tryz.func25 (by kernel_rfl) (by kernel_rfl) (by kernel_rfl) (by kernel_rfl) (O_q56z_ok self_q56z h_q56z n) (evDraw_ok (O_q56z_ok self_q56z h_q56z n) (by kernel_rfl)) (.of (l := [(1, (lbody 1000 C_q56z 0))]) (by kernel_rfl) ⟨.head (loopL_sound (O_q56z_ok self_q56z h_q56z n) (evDraw_ok (O_q56z_ok self_q56z h_q56z n) (by kernel_rfl)) (.of (l := []) (by kernel_rfl) trivial) (s_q56z_s1 self_q56z n)), trivial⟩) (e_q56z self_q56z n)
omit [UDef] in
theorem ok_q56z : ∀ n, Contract Tryz.prog 25 F_q56z (q56z n)
  | 0 => fun _ _ h => by cases h
  | n + 1 => okb_q56z _ (ok_q56z n) n
noncomputable def C_term_Eval : Code := bodyOf Tryz.f5
noncomputable def M_term_Eval : List (Nat × ArgM) := [(21, ⟨[], [], [], true⟩), (22, ⟨[], [], [], true⟩), (23, ⟨[], [], [], true⟩), (24, ⟨[], [], [], true⟩)]
instance : DfOk M_term_Eval := .none rfl
noncomputable def O_term_Eval {ρ : Type} (n : Nat) : Orc ρ := orcCons 21 F_q66z (q66z n) (orcCons 22 F_q76z (q76z n) (orcCons 23 F_q55z (q55z n) (orcCons 24 F_q78z (q78z n) (orcCons 25 F_q56z (q56z n) (orcNil)))))
omit [UDef] in
theorem O_term_Eval_ok {ρ : Type} (n : Nat) : (O_term_Eval n : Orc ρ).ok Tryz.prog := orcCons_ok (by kernel_rfl) (ok_q66z n) (orcCons_ok (by kernel_rfl) (ok_q76z n) (orcCons_ok (by kernel_rfl) (ok_q55z n) (orcCons_ok (by kernel_rfl) (ok_q78z n) (orcCons_ok (by kernel_rfl) (ok_q56z n) (orcNil_ok)))))
noncomputable def T_term_Eval_s0 : Tm := ⟨[(4, .ptr 4 0), (7, .ptr 7 0), (8, .ptr 8 0), (11, .mpr 37), (12, .mpr 38)], [(2, (.lst .i64)), (39, (.lst .str)), (40, .i64), (41, .i64)], [(4, .box [.d .graph]), (7, .box [.d .term]), (8, .box [.d .val]), (37, .mp 53 .str .bool true), (38, .mp 38 .str .i64 true)]⟩
noncomputable def X_term_Eval_s0 : Tm := ⟨[(4, .ptr 4 0), (7, .ptr 7 0), (8, .ptr 8 0), (11, .mpr 37), (12, .mpr 38)], [], [(4, .box [.d .graph]), (7, .box [.d .term]), (8, .box [.d .val]), (37, .mp 53 .str .bool true), (38, .mp 38 .str .i64 true)]⟩
noncomputable def R_term_Eval_s0 : Tm := ⟨[(8, .ptr 8 0)], [(9, .i64)], [(8, .box [.d .val])]⟩
noncomputable def L_term_Eval_s0 {ρ : Type} (n : Nat) : LOrc ρ := lorcNil
omit [Tabs] [QuietD Tryz.prog] [UDef] [UTabs] in
theorem s_term_Eval_s0 {ρ : Type} (n : Nat) (rec : T_term_Eval_s0.den → Option ρ) kx kr s : dStep Tryz.prog 98 TT M_term_Eval (O_term_Eval n) (L_term_Eval_s0 n) (evDraw Tryz.prog 98 TT M_term_Eval (O_term_Eval n)) 0 (lbody 1000 C_term_Eval 0) T_term_Eval_s0 X_term_Eval_s0 R_term_Eval_s0 ⟨[], [], []⟩ rec kx kr s = term_Eval_s0 n rec kx kr s := by kernel_rfl
noncomputable def L_term_Eval {ρ : Type} (n : Nat) : LOrc ρ := lorcCons 0 (loopL 98 0 n T_term_Eval_s0 X_term_Eval_s0 R_term_Eval_s0 ⟨[], [], []⟩ (term_Eval_s0 n)) (lorcNil)
omit [Tabs] [QuietD Tryz.prog] [UDef] [UTabs] in
theorem e_term_Eval (n : Nat) (x) : evF Tryz.prog 98 TT M_term_Eval F_term_Eval (O_term_Eval n) (L_term_Eval n) (evDraw Tryz.prog 98 TT M_term_Eval (O_term_Eval n)) ⟨[], [], []⟩ [.cell 8 30, .tmp 9] C_term_Eval x = term_Eval n x := by kernel_rfl
omit [UDef] in
theorem ok_term_Eval (n : Nat) : Contract Tryz.prog 5 F_term_Eval (term_Eval n) :=
  Contract.of_ev (c := C_term_Eval) (N := 98) Tryz.func5 (by kernel_rfl) (by kernel_rfl) (by kernel_rfl) (by kernel_rfl) (O_term_Eval_ok n) (evDraw_ok (O_term_Eval_ok n) (by kernel_rfl)) (.of (l := [(0, (lbody 1000 C_term_Eval 0))]) (by kernel_rfl) ⟨.head (loopL_sound (O_term_Eval_ok n) (evDraw_ok (O_term_Eval_ok n) (by kernel_rfl)) (.of (l := []) (by kernel_rfl) trivial) (s_term_Eval_s0 n)), trivial⟩) (e_term_Eval n)
noncomputable def F_q10z : FnT := ⟨1, ⟨[], [(0, .graph)], []⟩, [.v .i64], []⟩
noncomputable def F_q8z : FnT := ⟨1, ⟨[], [(0, (.lst .str))], []⟩, [.v .i64], []⟩
noncomputable def F_q31z : FnT := ⟨1, ⟨[], [(0, .str)], []⟩, [.v .bool], []⟩
noncomputable def C_q31z : Code := bodyOf Tryz.f28
noncomputable def M_q31z : List (Nat × ArgM) := [(60, ⟨[], [], [], true⟩)]
instance : DfOk M_q31z := .none rfl
noncomputable def O_q31z {ρ : Type} : Orc ρ := orcCons 60 F_trim (trimN) (orcNil)
omit [QuietD Tryz.prog] [UDef] [UTabs] in
theorem O_q31z_ok {ρ : Type} : (O_q31z : Orc ρ).ok Tryz.prog := orcCons_ok (by kernel_rfl) (trimN_ok) (orcNil_ok)
noncomputable def L_q31z {ρ : Type} : LOrc ρ := lorcNil
omit [Tabs] [QuietD Tryz.prog] [UDef] [UTabs] in
theorem e_q31z (x) : evF Tryz.prog 23 TT M_q31z F_q31z (O_q31z) (L_q31z) dorcNil ⟨[], [], []⟩ [.tmp 2] C_q31z x = q31z x := by kernel_rfl
omit [UDef] [UTabs] in
theorem ok_q31z : Contract Tryz.prog 28 F_q31z (q31z) :=
  Contract.of_ev (c := C_q31z) (N := 23) Tryz.func28 (by kernel_rfl) (by kernel_rfl) (by kernel_rfl) (by kernel_rfl) (O_q31z_ok) dorcNil_ok (.of (l := []) (by kernel_rfl) trivial) (e_q31z)
noncomputable def C_q8z : Code := bodyOf Tryz.f26
noncomputable def M_q8z : List (Nat × ArgM) := [(28, ⟨[], [], [], true⟩)]
instance : DfOk M_q8z := .none rfl
noncomputable def O_q8z {ρ : Type} (n : Nat) : Orc ρ := orcCons 28 F_q31z (q31z) (orcNil)
omit [UDef] [UTabs] in
theorem O_q8z_ok {ρ : Type} (n : Nat) : (O_q8z n : Orc ρ).ok Tryz.prog := orcCons_ok (by kernel_rfl) (ok_q31z) (orcNil_ok)
noncomputable def T_q8z_s0 : Tm := ⟨[], [(3, .str), (9, (.lst .str)), (10, .i64), (11, .i64)], []⟩
noncomputable def X_q8z_s0 : Tm := ⟨[], [], []⟩
noncomputable def R_q8z_s0 : Tm := ⟨[], [(2, .i64)], []⟩
noncomputable def L_q8z_s0 {ρ : Type} (n : Nat) : LOrc ρ := lorcNil
omit [Tabs] [QuietD Tryz.prog] [UDef] [UTabs] in
theorem s_q8z_s0 {ρ : Type} (n : Nat) (rec : T_q8z_s0.den → Option ρ) kx kr s : dStep Tryz.prog 25 TT M_q8z (O_q8z n) (L_q8z_s0 n) dorcNil 0 (lbody 1000 C_q8z 0) T_q8z_s0 X_q8z_s0 R_q8z_s0 ⟨[], [], []⟩ rec kx kr s = q8z_s0 n rec kx kr s := by kernel_rfl
noncomputable def L_q8z {ρ : Type} (n : Nat) : LOrc ρ := lorcCons 0 (loopL 25 0 n T_q8z_s0 X_q8z_s0 R_q8z_s0 ⟨[], [], []⟩ (q8z_s0 n)) (lorcNil)
omit [Tabs] [QuietD Tryz.prog] [UDef] [UTabs] in
theorem e_q8z (n : Nat) (x) : evF Tryz.prog 25 TT M_q8z F_q8z (O_q8z n) (L_q8z n) dorcNil ⟨[], [], []⟩ [.tmp 2] C_q8z x = q8z n x := by kernel_rfl
omit [UDef] [UTabs] in
theorem ok_q8z (n : Nat) : Contract Tryz.prog 26 F_q8z (q8z n) :=
  Contract.of_ev (c := C_q8z) (N := 25) Tryz.func26 (by kernel_rfl) (by kernel_rfl) (by kernel_rfl) (by kernel_rfl) (O_q8z_ok n) dorcNil_ok (.of (l := [(0, (lbody 1000 C_q8z 0))]) (by kernel_rfl) ⟨.head (loopL_sound (O_q8z_ok n) dorcNil_ok (.of (l := []) (by kernel_rfl) trivial) (s_q8z_s0 n)), trivial⟩) (e_q8z n)
noncomputable def F_q11z : FnT := ⟨1, ⟨[], [(0, (.lst .prp))], []⟩, [.v .i64], []⟩
noncomputable def F_q12z : FnT := ⟨2, ⟨[], [(0, .val), (1, .i64)], []⟩, [.v .i64], []⟩
noncomputable def C_q12z : Code := bodyOf Tryz.f29
noncomputable def M_q12z : List (Nat × ArgM) := [(29, ⟨[], [], [], true⟩), (61, ⟨[], [], [], true⟩)]
instance : DfOk M_q12z := .none rfl
noncomputable def O_q12z {ρ : Type} (self_q12z : Ev.Val × Int × Unit → Option (Int × Unit)) (n : Nat) : Orc ρ := orcCons 29 F_q12z (self_q12z) (orcCons 61 F_valid (validN) (orcNil))
omit [QuietD Tryz.prog] [UDef] in
theorem O_q12z_ok {ρ : Type} (self_q12z : Ev.Val × Int × Unit → Option (Int × Unit)) (h_q12z : Contract Tryz.prog 29 F_q12z self_q12z) (n : Nat) : (O_q12z self_q12z n : Orc ρ).ok Tryz.prog := orcCons_ok (by kernel_rfl) (h_q12z) (orcCons_ok (by kernel_rfl) (validN_ok) (orcNil_ok))
noncomputable def T_q12z_s1 : Tm := ⟨[], [(1, .i64), (5, .bool), (6, .bool), (34, (.lst .val)), (35, .i64), (36, .i64)], []⟩
noncomputable def X_q12z_s1 : Tm := ⟨[], [(5, .bool), (6, .bool)], []⟩
noncomputable def R_q12z_s1 : Tm := ⟨[], [(4, .i64)], []⟩
noncomputable def L_q12z_s1 {ρ : Type} (self_q12z : Ev.Val × Int × Unit → Option (Int × Unit)) (n : Nat) : LOrc ρ := lorcNil
omit [Tabs] [QuietD Tryz.prog] [UDef] [UTabs] in
theorem s_q12z_s1 {ρ : Type} (self_q12z : Ev.Val × Int × Unit → Option (Int × Unit)) (n : Nat) (rec : T_q12z_s1.den → Option ρ) kx kr s : dStep Tryz.prog 96 TT M_q12z (O_q12z self_q12z n) (L_q12z_s1 self_q12z n) (evDraw Tryz.prog 96 TT M_q12z (O_q12z self_q12z n)) 1 (lbody 1000 C_q12z 0) T_q12z_s1 X_q12z_s1 R_q12z_s1 ⟨[], [], []⟩ rec kx kr s = q12z_s1 self_q12z n rec kx kr s := by kernel_rfl
noncomputable def L_q12z {ρ : Type} (self_q12z : Ev.Val × Int × Unit → Option (Int × Unit)) (n : Nat) : LOrc ρ := lorcCons 1 (loopL 96 1 n T_q12z_s1 X_q12z_s1 R_q12z_s1 ⟨[], [], []⟩ (q12z_s1 self_q12z n)) (lorcNil)
omit [Tabs] [QuietD Tryz.prog] [UDef] [UTabs] in
theorem e_q12z (self_q12z : Ev.Val × Int × Unit → Option (Int × Unit)) (n : Nat) (x) : evF Tryz.prog 96 TT M_q12z F_q12z (O_q12z self_q12z n) (L_q12z self_q12z n) (evDraw Tryz.prog 96 TT M_q12z (O_q12z self_q12z n)) ⟨[], [], []⟩ [.tmp 4] C_q12z x = q12z_b self_q12z n x := by kernel_rfl
omit [UDef] in
theorem okb_q12z (self_q12z : Ev.Val × Int × Unit → Option (Int × Unit)) (h_q12z : Contract Tryz.prog 29 F_q12z self_q12z) (n : Nat) : Contract Tryz.prog 29 F_q12z (q12z_b self_q12z n) :=
  Contract.of_ev (c := C_q12z) (N := 96) Tryz.func29 (by kernel_rfl) (by kernel_rfl) (by kernel_rfl) (by kernel_rfl) (O_q12z_ok self_q12z h_q12z n) (evDraw_ok (O_q12z_ok self_q12z h_q12z n) (by kernel_rfl)) (.of (l := [(1, (lbody 1000 C_q12z 0))]) (by kernel_rfl) ⟨.head (loopL_sound (O_q12z_ok self_q12z h_q12z n) (evDraw_ok (O_q12z_ok self_q12z h_q12z n) (by kernel_rfl)) (.of (l := []) (by kernel_rfl) trivial) (s_q12z_s1 self_q12z n)), trivial⟩) (e_q12z self_q12z n)
omit [UDef] in
theorem ok_q12z : ∀ n, Contract Tryz.prog 29 F_q12z (q12z n)
  | 0 => fun _ _ h => by cases h
  | n + 1 => okb_q12z _ (ok_q12z n) n
noncomputable def C_q11z : Code := bodyOf Tryz.f27
noncomputable def M_q11z : List (Nat × ArgM) := [(28, ⟨[], [], [], true⟩), (29, ⟨[], [], [], true⟩)]
instance : DfOk M_q11z := .none rfl
noncomputable def O_q11z {ρ : Type} (n : Nat) : Orc ρ := orcCons 28 F_q31z (q31z) (orcCons 29 F_q12z (q12z n) (orcNil))
omit [UDef] in
theorem O_q11z_ok {ρ : Type} (n : Nat) : (O_q11z n : Orc ρ).ok Tryz.prog := orcCons_ok (by kernel_rfl) (ok_q31z) (orcCons_ok (by kernel_rfl) (ok_q12z n) (orcNil_ok))
noncomputable def T_q11z_s0 : Tm := ⟨[], [(3, .str), (10, (.lst .prp)), (11, .i64), (12, .i64)], []⟩
noncomputable def X_q11z_s0 : Tm := ⟨[], [], []⟩
noncomputable def R_q11z_s0 : Tm := ⟨[], [(2, .i64)], []⟩
noncomputable def L_q11z_s0 {ρ : Type} (n : Nat) : LOrc ρ := lorcNil
omit [Tabs] [QuietD Tryz.prog] [UDef] [UTabs] in
theorem s_q11z_s0 {ρ : Type} (n : Nat) (rec : T_q11z_s0.den → Option ρ) kx kr s : dStep Tryz.prog 41 TT M_q11z (O_q11z n) (L_q11z_s0 n) dorcNil 0 (lbody 1000 C_q11z 0) T_q11z_s0 X_q11z_s0 R_q11z_s0 ⟨[], [], []⟩ rec kx kr s = q11z_s0 n rec kx kr s := by kernel_rfl
noncomputable def L_q11z {ρ : Type} (n : Nat) : LOrc ρ := lorcCons 0 (loopL 41 0 n T_q11z_s0 X_q11z_s0 R_q11z_s0 ⟨[], [], []⟩ (q11z_s0 n)) (lorcNil)
omit [Tabs] [QuietD Tryz.prog] [UDef] [UTabs] in
theorem e_q11z (n : Nat) (x) : evF Tryz.prog 41 TT M_q11z F_q11z (O_q11z n) (L_q11z n) dorcNil ⟨[], [], []⟩ [.tmp 2] C_q11z x = q11z n x := by kernel_rfl
omit [UDef] in
theorem ok_q11z (n : Nat) : Contract Tryz.prog 27 F_q11z (q11z n) :=
  Contract.of_ev (c := C_q11z) (N := 41) Tryz.func27 (by kernel_rfl) (by kernel_rfl) (by kernel_rfl) (by kernel_rfl) (O_q11z_ok n) dorcNil_ok (.of (l := [(0, (lbody 1000 C_q11z 0))]) (by kernel_rfl) ⟨.head (loopL_sound (O_q11z_ok n) dorcNil_ok (.of (l := []) (by kernel_rfl) trivial) (s_q11z_s0 n)), trivial⟩) (e_q11z n)
noncomputable def F_q33z : FnT := ⟨2, ⟨[], [(0, .graph), (1, .i64)], []⟩, [.opt .node], []⟩
noncomputable def C_q33z : Code := bodyOf Tryz.f7
noncomputable def M_q33z : List (Nat × ArgM) := []
instance : DfOk M_q33z := .none rfl
noncomputable def O_q33z {ρ : Type} (n : Nat) : Orc ρ := orcNil
omit [QuietD Tryz.prog] [UDef] [UTabs] in
theorem O_q33z_ok {ρ : Type} (n : Nat) : (O_q33z n : Orc ρ).ok Tryz.prog := orcNil_ok
noncomputable def T_q33z_s0 : Tm := ⟨[(2, .ptr 2 0)], [(1, .i64), (8, .i64), (9, .i64)], [(2, .box [.d .graph])]⟩
noncomputable def X_q33z_s0 : Tm := ⟨[], [], []⟩
noncomputable def R_q33z_s0 : Tm := ⟨[], [(4, (.ptr .node))], []⟩
noncomputable def L_q33z_s0 {ρ : Type} (n : Nat) : LOrc ρ := lorcNil
omit [Tabs] [QuietD Tryz.prog] [UDef] [UTabs] in
theorem s_q33z_s0 {ρ : Type} (n : Nat) (rec : T_q33z_s0.den → Option ρ) kx kr s : dStep Tryz.prog 25 TT M_q33z (O_q33z n) (L_q33z_s0 n) dorcNil 0 (lbody 1000 C_q33z 0) T_q33z_s0 X_q33z_s0 R_q33z_s0 ⟨[], [], []⟩ rec kx kr s = q33z_s0 n rec kx kr s := by kernel_rfl
noncomputable def L_q33z {ρ : Type} (n : Nat) : LOrc ρ := lorcCons 0 (loopL 25 0 n T_q33z_s0 X_q33z_s0 R_q33z_s0 ⟨[], [], []⟩ (q33z_s0 n)) (lorcNil)
omit [Tabs] [QuietD Tryz.prog] [UDef] [UTabs] in
theorem e_q33z (n : Nat) (x) : evF Tryz.prog 25 TT M_q33z F_q33z (O_q33z n) (L_q33z n) dorcNil ⟨[], [], []⟩ [.tmp 4] C_q33z x = q33z n x := by kernel_rfl
omit [UDef] [UTabs] in
theorem ok_q33z (n : Nat) : Contract Tryz.prog 7 F_q33z (q33z n) :=
  Contract.of_ev (c := C_q33z) (N := 25) Tryz.func7 (by kernel_rfl) (by kernel_rfl) (by kernel_rfl) (by kernel_rfl) (O_q33z_ok n) dorcNil_ok (.of (l := [(0, (lbody 1000 C_q33z 0))]) (by kernel_rfl) ⟨.head (loopL_sound (O_q33z_ok n) dorcNil_ok (.of (l := []) (by kernel_rfl) trivial) (s_q33z_s0 n)), trivial⟩) (e_q33z n)
noncomputable def C_q10z : Code := bodyOf Tryz.f6
noncomputable def M_q10z : List (Nat × ArgM) := [(26, ⟨[], [], [], true⟩), (27, ⟨[], [], [], true⟩), (28, ⟨[], [], [], true⟩)]
instance : DfOk M_q10z := .none rfl
noncomputable def O_q10z {ρ : Type} (n : Nat) : Orc ρ := orcCons 26 F_q8z (q8z n) (orcCons 27 F_q11z (q11z n) (orcCons 7 F_q33z (q33z n) (orcCons 28 F_q31z (q31z) (orcNil))))
omit [UDef] in
theorem O_q10z_ok {ρ : Type} (n : Nat) : (O_q10z n : Orc ρ).ok Tryz.prog := orcCons_ok (by kernel_rfl) (ok_q8z n) (orcCons_ok (by kernel_rfl) (ok_q11z n) (orcCons_ok (by kernel_rfl) (ok_q33z n) (orcCons_ok (by kernel_rfl) (ok_q31z) (orcNil_ok))))
noncomputable def T_q10z_s0 : Tm := ⟨[(1, .ptr 1 0)], [(3, .i64), (4, .i64), (23, (.lst .node)), (24, .i64), (25, .i64)], [(1, .box [.d .graph])]⟩
noncomputable def X_q10z_s0 : Tm := ⟨[(1, .ptr 1 0)], [(3, .i64)], [(1, .box [.d .graph])]⟩
noncomputable def R_q10z_s0 : Tm := ⟨[], [(2, .i64)], []⟩
noncomputable def L_q10z_s0 {ρ : Type} (n : Nat) : LOrc ρ := lorcNil
omit [Tabs] [QuietD Tryz.prog] [UDef] [UTabs] in
theorem s_q10z_s0 {ρ : Type} (n : Nat) (rec : T_q10z_s0.den → Option ρ) kx kr s : dStep Tryz.prog 108 TT M_q10z (O_q10z n) (L_q10z_s0 n) (evDraw Tryz.prog 108 TT M_q10z (O_q10z n)) 0 (lbody 1000 C_q10z 0) T_q10z_s0 X_q10z_s0 R_q10z_s0 ⟨[], [], []⟩ rec kx kr s = q10z_s0 n rec kx kr s := by kernel_rfl
noncomputable def T_q10z_s2 : Tm := ⟨[(1, .ptr 1 0)], [(3, .i64), (4, .i64), (51, (.lst .edg)), (52, .i64), (53, .i64)], [(1, .box [.d .graph])]⟩
noncomputable def X_q10z_s2 : Tm := ⟨[(1, .ptr 1 0)], [(3, .i64)], [(1, .box [.d .graph])]⟩
noncomputable def R_q10z_s2 : Tm := ⟨[], [(2, .i64)], []⟩
noncomputable def L_q10z_s2 {ρ : Type} (n : Nat) : LOrc ρ := lorcNil
omit [Tabs] [QuietD Tryz.prog] [UDef] [UTabs] in
theorem s_q10z_s2 {ρ : Type} (n : Nat) (rec : T_q10z_s2.den → Option ρ) kx kr s : dStep Tryz.prog 108 TT M_q10z (O_q10z n) (L_q10z_s2 n) (evDraw Tryz.prog 108 TT M_q10z (O_q10z n)) 2 (lbody 1000 C_q10z 1) T_q10z_s2 X_q10z_s2 R_q10z_s2 ⟨[], [], []⟩ rec kx kr s = q10z_s2 n rec kx kr s := by kernel_rfl
noncomputable def L_q10z {ρ : Type} (n : Nat) : LOrc ρ := lorcCons 0 (loopL 108 0 n T_q10z_s0 X_q10z_s0 R_q10z_s0 ⟨[], [], []⟩ (q10z_s0 n)) (lorcCons 2 (loopL 108 2 n T_q10z_s2 X_q10z_s2 R_q10z_s2 ⟨[], [], []⟩ (q10z_s2 n)) (lorcNil))
omit [Tabs] [QuietD Tryz.prog] [UDef] [UTabs] in
theorem e_q10z (n : Nat) (x) : evF Tryz.prog 108 TT M_q10z F_q10z (O_q10z n) (L_q10z n) (evDraw Tryz.prog 108 TT M_q10z (O_q10z n)) ⟨[], [], []⟩ [.tmp 2] C_q10z x = q10z n x := by kernel_rfl
omit [UDef] in
theorem ok_q10z (n : Nat) : Contract Tryz.prog 6 F_q10z (q10z n) :=
  Contract.of_ev (c := C_q10z) (N := 108) Tryz.func6 (by kernel_rfl) (by kernel_rfl) (by kernel_rfl) (by kernel_rfl) (O_q10z_ok n) (evDraw_ok (O_q10z_ok n) (by kernel_rfl)) (.of (l := [(0, (lbody 1000 C_q10z 0)), (2, (lbody 1000 C_q10z 1))]) (by kernel_rfl) ⟨.head (loopL_sound (O_q10z_ok n) (evDraw_ok (O_q10z_ok n) (by kernel_rfl)) (.of (l := []) (by kernel_rfl) trivial) (s_q10z_s0 n)), ⟨.tail rfl (.head (loopL_sound (O_q10z_ok n) (evDraw_ok (O_q10z_ok n) (by kernel_rfl)) (.of (l := []) (by kernel_rfl) trivial) (s_q10z_s2 n))), trivial⟩⟩) (e_q10z n)
noncomputable def F_q29z : FnT := ⟨2, ⟨[], [(0, .graph), (1, .i64)], []⟩, [.opt .edg], []⟩
noncomputable def C_q29z : Code := bodyOf Tryz.f8
noncomputable def M_q29z : List (Nat × ArgM) := []
instance : DfOk M_q29z := .none rfl
noncomputable def O_q29z {ρ : Type} (n : Nat) : Orc ρ := orcNil
omit [QuietD Tryz.prog] [UDef] [UTabs] in
theorem O_q29z_ok {ρ : Type} (n : Nat) : (O_q29z n : Orc ρ).ok Tryz.prog := orcNil_ok
noncomputable def T_q29z_s0 : Tm := ⟨[(2, .ptr 2 0)], [(1, .i64), (8, .i64), (9, .i64)], [(2, .box [.d .graph])]⟩
noncomputable def X_q29z_s0 : Tm := ⟨[], [], []⟩
noncomputable def R_q29z_s0 : Tm := ⟨[], [(4, (.ptr .edg))], []⟩
noncomputable def L_q29z_s0 {ρ : Type} (n : Nat) : LOrc ρ := lorcNil
omit [Tabs] [QuietD Tryz.prog] [UDef] [UTabs] in
theorem s_q29z_s0 {ρ : Type} (n : Nat) (rec : T_q29z_s0.den → Option ρ) kx kr s : dStep Tryz.prog 25 TT M_q29z (O_q29z n) (L_q29z_s0 n) dorcNil 0 (lbody 1000 C_q29z 0) T_q29z_s0 X_q29z_s0 R_q29z_s0 ⟨[], [], []⟩ rec kx kr s = q29z_s0 n rec kx kr s := by kernel_rfl
noncomputable def L_q29z {ρ : Type} (n : Nat) : LOrc ρ := lorcCons 0 (loopL 25 0 n T_q29z_s0 X_q29z_s0 R_q29z_s0 ⟨[], [], []⟩ (q29z_s0 n)) (lorcNil)
omit [Tabs] [QuietD Tryz.prog] [UDef] [UTabs] in
theorem e_q29z (n : Nat) (x) : evF Tryz.prog 25 TT M_q29z F_q29z (O_q29z n) (L_q29z n) dorcNil ⟨[], [], []⟩ [.tmp 4] C_q29z x = q29z n x := by kernel_rfl
omit [UDef] [UTabs] in
theorem ok_q29z (n : Nat) : Contract Tryz.prog 8 F_q29z (q29z n) :=
  Contract.of_ev (c := C_q29z) (N := 25) Tryz.func8 (by kernel_rfl) (by kernel_rfl) (by kernel_rfl) (by kernel_rfl) (O_q29z_ok n) dorcNil_ok (.of (l := [(0, (lbody 1000 C_q29z 0))]) (by kernel_rfl) ⟨.head (loopL_sound (O_q29z_ok n) dorcNil_ok (.of (l := []) (by kernel_rfl) trivial) (s_q29z_s0 n)), trivial⟩) (e_q29z n)
noncomputable def F_q15z : FnT := ⟨3, ⟨[], [(0, .term), (1, (.map .str .i64)), (2, .i64)], []⟩, [.v .i64], []⟩
noncomputable def F_q16z : FnT := ⟨2, ⟨[], [(0, .val), (1, .val)], []⟩, [.v .bool], []⟩
noncomputable def F_q24z : FnT := ⟨2, ⟨[], [(0, .val), (1, .val)], []⟩, [.v .i64], []⟩
noncomputable def F_q59z : FnT := ⟨2, ⟨[], [(0, (.lst .u8)), (1, (.lst .u8))], []⟩, [.v .i64], []⟩
noncomputable def C_q59z : Code := bodyOf Tryz.f62
noncomputable def M_q59z : List (Nat × ArgM) := []
instance : DfOk M_q59z := .none rfl
noncomputable def O_q59z {ρ : Type} : Orc ρ := orcCons 93 T_cmpB (cmpN) (orcNil)
omit [QuietD Tryz.prog] [UDef] [UTabs] in
theorem O_q59z_ok {ρ : Type} : (O_q59z : Orc ρ).ok Tryz.prog := orcExt_ok (by kernel_rfl) (cmp_ok) (orcNil_ok)
noncomputable def L_q59z {ρ : Type} : LOrc ρ := lorcNil
omit [Tabs] [QuietD Tryz.prog] [UDef] [UTabs] in
theorem e_q59z (x) : evF Tryz.prog 8 TT M_q59z F_q59z (O_q59z) (L_q59z) dorcNil ⟨[], [], []⟩ [.tmp 4] C_q59z x = q59z x := by kernel_rfl
omit [UDef] [UTabs] in
theorem ok_q59z : Contract Tryz.prog 62 F_q59z (q59z) :=
  Contract.of_ev (c := C_q59z) (N := 8) Tryz.func62 (by kernel_rfl) (by kernel_rfl) (by kernel_rfl) (by kernel_rfl) (O_q59z_ok) dorcNil_ok (.of (l := []) (by kernel_rfl) trivial) (e_q59z)
noncomputable def C_q24z : Code := bodyOf Tryz.f33
noncomputable def M_q24z : List (Nat × ArgM) := [(62, ⟨[], [], [], true⟩), (33, ⟨[], [], [], true⟩)]
instance : DfOk M_q24z := .none rfl
noncomputable def O_q24z {ρ : Type} (self_q24z : Ev.Val × Ev.Val × Unit → Option (Int × Unit)) (n : Nat) : Orc ρ := orcCons 62 F_q59z (q59z) (orcCons 33 F_q24z (self_q24z) (orcNil))
omit [UDef] [UTabs] in
theorem O_q24z_ok {ρ : Type} (self_q24z : Ev.Val × Ev.Val × Unit → Option (Int × Unit)) (h_q24z : Contract Tryz.prog 33 F_q24z self_q24z) (n : Nat) : (O_q24z self_q24z n : Orc ρ).ok Tryz.prog := orcCons_ok (by kernel_rfl) (ok_q59z) (orcCons_ok (by kernel_rfl) (h_q24z) (orcNil_ok))
noncomputable def T_q24z_s1 : Tm := ⟨[(2, .ptr 2 0), (3, .ptr 3 0)], [(5, .i64)], [(2, .box [.d .val]), (3, .box [.d .val])]⟩
noncomputable def X_q24z_s1 : Tm := ⟨[(2, .ptr 2 0), (3, .ptr 3 0)], [], [(2, .box [.d .val]), (3, .box [.d .val])]⟩
noncomputable def R_q24z_s1 : Tm := ⟨[], [(4, .i64)], []⟩
noncomputable def L_q24z_s1 {ρ : Type} (self_q24z : Ev.Val × Ev.Val × Unit → Option (Int × Unit)) (n : Nat) : LOrc ρ := lorcNil
omit [Tabs] [QuietD Tryz.prog] [UDef] [UTabs] in
theorem s_q24z_s1 {ρ : Type} (self_q24z : Ev.Val × Ev.Val × Unit → Option (Int × Unit)) (n : Nat) (rec : T_q24z_s1.den → Option ρ) kx kr s : dStep Tryz.prog 88 TT M_q24z (O_q24z self_q24z n) (L_q24z_s1 self_q24z n) (evDraw Tryz.prog 88 TT M_q24z (O_q24z self_q24z n)) 1 (lbody 1000 C_q24z 0) T_q24z_s1 X_q24z_s1 R_q24z_s1 ⟨[], [], []⟩ rec kx kr s = q24z_s1 self_q24z n rec kx kr s := by kernel_rfl
noncomputable def L_q24z {ρ : Type} (self_q24z : Ev.Val × Ev.Val × Unit → Option (Int × Unit)) (n : Nat) : LOrc ρ := lorcCons 1 (loopL 88 1 n T_q24z_s1 X_q24z_s1 R_q24z_s1 ⟨[], [], []⟩ (q24z_s1 self_q24z n)) (lorcNil)
omit [Tabs] [QuietD Tryz.prog] [UDef] [UTabs] in
theorem e_q24z (self_q24z : Ev.Val × Ev.Val × Unit → Option (Int × Unit)) (n : Nat) (x) : evF Tryz.prog 88 TT M_q24z F_q24z (O_q24z self_q24z n) (L_q24z self_q24z n) (evDraw Tryz.prog 88 TT M_q24z (O_q24z self_q24z n)) ⟨[], [], []⟩ [.tmp 4] C_q24z x = q24z_b self_q24z n x := by kernel_rfl
omit [UDef] [UTabs] in
theorem okb_q24z (self_q24z : Ev.Val × Ev.Val × Unit → Option (Int × Unit)) (h_q24z : Contract Tryz.prog 33 F_q24z self_q24z) (n : Nat) : Contract Tryz.prog 33 F_q24z (q24z_b self_q24z n) :=
  Contract.of_ev (c := C_q24z) (N := 88) Tryz.func33 (by kernel_rfl) (by kernel_rfl) (by kernel_rfl) (by kernel_rfl) (O_q24z_ok self_q24z h_q24z n) (evDraw_ok (O_q24z_ok self_q24z h_q24z n) (by kernel_rfl)) (.of (l := [(1, (lbody 1000 C_q24z 0))]) (by kernel_rfl) ⟨.head (loopL_sound (O_q24z_ok self_q24z h_q24z n) (evDraw_ok (O_q24z_ok self_q24z h_q24z n) (by kernel_rfl)) (.of (l := []) (by kernel_rfl) trivial) (s_q24z_s1 self_q24z n)), trivial⟩) (e_q24z self_q24z n)
omit [UDef] [UTabs] in
theorem ok_q24z : ∀ n, Contract Tryz.prog 33 F_q24z (q24z n)
  | 0 => fun _ _ h => by cases h
  | n + 1 => okb_q24z _ (ok_q24z n) n
noncomputable def C_q16z : Code := bodyOf Tryz.f12
noncomputable def M_q16z : List (Nat × ArgM) := [(33, ⟨[], [], [], true⟩)]
instance : DfOk M_q16z := .none rfl
noncomputable def O_q16z {ρ : Type} (n : Nat) : Orc ρ := orcCons 33 F_q24z (q24z n) (orcNil)
omit [UDef] [UTabs] in
theorem O_q16z_ok {ρ : Type} (n : Nat) : (O_q16z n : Orc ρ).ok Tryz.prog := orcCons_ok (by kernel_rfl) (ok_q24z n) (orcNil_ok)
noncomputable def L_q16z {ρ : Type} (n : Nat) : LOrc ρ := lorcNil
omit [Tabs] [QuietD Tryz.prog] [UDef] [UTabs] in
theorem e_q16z (n : Nat) (x) : evF Tryz.prog 9 TT M_q16z F_q16z (O_q16z n) (L_q16z n) dorcNil ⟨[], [], []⟩ [.tmp 4] C_q16z x = q16z n x := by kernel_rfl
omit [UDef] [UTabs] in
theorem ok_q16z (n : Nat) : Contract Tryz.prog 12 F_q16z (q16z n) :=
  Contract.of_ev (c := C_q16z) (N := 9) Tryz.func12 (by kernel_rfl) (by kernel_rfl) (by kernel_rfl) (by kernel_rfl) (O_q16z_ok n) dorcNil_ok (.of (l := []) (by kernel_rfl) trivial) (e_q16z n)
noncomputable def F_q30z : FnT := ⟨1, ⟨[], [(0, .str)], []⟩, [.v .bool], []⟩
noncomputable def F_q13z : FnT := ⟨1, ⟨[], [(0, .str)], []⟩, [.v .bool], []⟩
noncomputable def C_q13z : Code := bodyOf Tryz.f15
noncomputable def M_q13z : List (Nat × ArgM) := [(41, ⟨[], [], [], true⟩)]
instance : DfOk M_q13z := .none rfl
noncomputable def O_q13z {ρ : Type} : Orc ρ := orcCons 41 F_contains (containsN) (orcNil)
omit [QuietD Tryz.prog] [UDef] in
theorem O_q13z_ok {ρ : Type} : (O_q13z : Orc ρ).ok Tryz.prog := orcCons_ok (by kernel_rfl) (containsN_ok) (orcNil_ok)
noncomputable def L_q13z {ρ : Type} : LOrc ρ := lorcNil
omit [Tabs] [QuietD Tryz.prog] [UDef] [UTabs] in
theorem e_q13z (x) : evF Tryz.prog 16 TT M_q13z F_q13z (O_q13z) (L_q13z) dorcNil ⟨[], [], []⟩ [.tmp 2] C_q13z x = q13z x := by kernel_rfl
omit [UDef] in
theorem ok_q13z : Contract Tryz.prog 15 F_q13z (q13z) :=
  Contract.of_ev (c := C_q13z) (N := 16) Tryz.func15 (by kernel_rfl) (by kernel_rfl) (by kernel_rfl) (by kernel_rfl) (O_q13z_ok) dorcNil_ok (.of (l := []) (by kernel_rfl) trivial) (e_q13z)
noncomputable def C_q30z : Code := bodyOf Tryz.f17
noncomputable def M_q30z : List (Nat × ArgM) := [(28, ⟨[], [], [], true⟩), (15, ⟨[], [], [], true⟩)]
instance : DfOk M_q30z := .none rfl
noncomputable def O_q30z {ρ : Type} : Orc ρ := orcCons 28 F_q31z (q31z) (orcCons 15 F_q13z (q13z) (orcNil))
omit [UDef] in
theorem O_q30z_ok {ρ : Type} : (O_q30z : Orc ρ).ok Tryz.prog := orcCons_ok (by kernel_rfl) (ok_q31z) (orcCons_ok (by kernel_rfl) (ok_q13z) (orcNil_ok))
noncomputable def L_q30z {ρ : Type} : LOrc ρ := lorcNil
omit [Tabs] [QuietD Tryz.prog] [UDef] [UTabs] in
theorem e_q30z (x) : evF Tryz.prog 10 TT M_q30z F_q30z (O_q30z) (L_q30z) dorcNil ⟨[], [], []⟩ [.tmp 2] C_q30z x = q30z x := by kernel_rfl
omit [UDef] in
theorem ok_q30z : Contract Tryz.prog 17 F_q30z (q30z) :=
  Contract.of_ev (c := C_q30z) (N := 10) Tryz.func17 (by kernel_rfl) (by kernel_rfl) (by kernel_rfl) (by kernel_rfl) (O_q30z_ok) dorcNil_ok (.of (l := []) (by kernel_rfl) trivial) (e_q30z)
noncomputable def C_q15z : Code := bodyOf Tryz.f9
noncomputable def M_q15z : List (Nat × ArgM) := [(12, ⟨[], [], [], true⟩), (29, ⟨[], [], [], true⟩), (17, ⟨[], [], [], true⟩), (28, ⟨[], [], [], true⟩), (9, ⟨[], [], [], true⟩)]
instance : DfOk M_q15z := .none rfl
noncomputable def O_q15z {ρ : Type} (self_q15z : Ev.Term × (List (ByteArray × Int)) × Int × Unit → Option (Int × Unit)) (n : Nat) : Orc ρ := orcCons 12 F_q16z (q16z n) (orcCons 29 F_q12z (q12z n) (orcCons 17 F_q30z (q30z) (orcCons 28 F_q31z (q31z) (orcCons 9 F_q15z (self_q15z) (orcNil)))))
omit [UDef] in
theorem O_q15z_ok {ρ : Type} (self_q15z : Ev.Term × (List (ByteArray × Int)) × Int × Unit → Option (Int × Unit)) (h_q15z : Contract Tryz.prog 9 F_q15z self_q15z) (n : Nat) : (O_q15z self_q15z n : Orc ρ).ok Tryz.prog := orcCons_ok (by kernel_rfl) (ok_q16z n) (orcCons_ok (by kernel_rfl) (ok_q12z n) (orcCons_ok (by kernel_rfl) (ok_q30z) (orcCons_ok (by kernel_rfl) (ok_q31z) (orcCons_ok (by kernel_rfl) (h_q15z) (orcNil_ok)))))
noncomputable def T_q15z_s1 : Tm := ⟨[(3, .ptr 3 0)], [(1, (.map .str .i64)), (2, .i64), (124, (.lst .term)), (125, .i64), (126, .i64)], [(3, .box [.d .term])]⟩
noncomputable def X_q15z_s1 : Tm := ⟨[(3, .ptr 3 0)], [(1, (.map .str .i64))], [(3, .box [.d .term])]⟩
noncomputable def R_q15z_s1 : Tm := ⟨[], [(6, .i64)], []⟩
noncomputable def L_q15z_s1 {ρ : Type} (self_q15z : Ev.Term × (List (ByteArray × Int)) × Int × Unit → Option (Int × Unit)) (n : Nat) : LOrc ρ := lorcNil
omit [Tabs] [QuietD Tryz.prog] [UDef] [UTabs] in
theorem s_q15z_s1 {ρ : Type} (self_q15z : Ev.Term × (List (ByteArray × Int)) × Int × Unit → Option (Int × Unit)) (n : Nat) (rec : T_q15z_s1.den → Option ρ) kx kr s : dStep Tryz.prog 173 TT M_q15z (O_q15z self_q15z n) (L_q15z_s1 self_q15z n) dorcNil 1 (lbody 1000 C_q15z 0) T_q15z_s1 X_q15z_s1 R_q15z_s1 ⟨[], [], []⟩ rec kx kr s = q15z_s1 self_q15z n rec kx kr s := by kernel_rfl
noncomputable def L_q15z {ρ : Type} (self_q15z : Ev.Term × (List (ByteArray × Int)) × Int × Unit → Option (Int × Unit)) (n : Nat) : LOrc ρ := lorcCons 1 (loopL 173 1 n T_q15z_s1 X_q15z_s1 R_q15z_s1 ⟨[], [], []⟩ (q15z_s1 self_q15z n)) (lorcNil)
omit [Tabs] [QuietD Tryz.prog] [UDef] [UTabs] in
theorem e_q15z (self_q15z : Ev.Term × (List (ByteArray × Int)) × Int × Unit → Option (Int × Unit)) (n : Nat) (x) : evF Tryz.prog 173 TT M_q15z F_q15z (O_q15z self_q15z n) (L_q15z self_q15z n) dorcNil ⟨[], [], []⟩ [.tmp 6] C_q15z x = q15z_b self_q15z n x := by kernel_rfl
omit [UDef] in
theorem okb_q15z (self_q15z : Ev.Term × (List (ByteArray × Int)) × Int × Unit → Option (Int × Unit)) (h_q15z : Contract Tryz.prog 9 F_q15z self_q15z) (n : Nat) : Contract Tryz.prog 9 F_q15z (q15z_b self_q15z n) :=
  Contract.of_ev (c := C_q15z) (N := 173) Tryz.func9 (by kernel_rfl) (by kernel_rfl) (by kernel_rfl) (by kernel_rfl) (O_q15z_ok self_q15z h_q15z n) dorcNil_ok (.of (l := [(1, (lbody 1000 C_q15z 0))]) (by kernel_rfl) ⟨.head (loopL_sound (O_q15z_ok self_q15z h_q15z n) dorcNil_ok (.of (l := []) (by kernel_rfl) trivial) (s_q15z_s1 self_q15z n)), trivial⟩) (e_q15z self_q15z n)
omit [UDef] in
theorem ok_q15z : ∀ n, Contract Tryz.prog 9 F_q15z (q15z n)
  | 0 => fun _ _ h => by cases h
  | n + 1 => okb_q15z _ (ok_q15z n) n
noncomputable def F_q28z : FnT := ⟨0, ⟨[], [], []⟩, [.v .bool], []⟩
noncomputable def F_q39z : FnT := ⟨1, ⟨[], [(0, .i64)], []⟩, [.v .val], []⟩
noncomputable def C_q39z : Code := bodyOf Tryz.f30
noncomputable def M_q39z : List (Nat × ArgM) := []
instance : DfOk M_q39z := .none rfl
noncomputable def O_q39z {ρ : Type} : Orc ρ := orcNil
omit [QuietD Tryz.prog] [UDef] [UTabs] in
theorem O_q39z_ok {ρ : Type} : (O_q39z : Orc ρ).ok Tryz.prog := orcNil_ok
noncomputable def L_q39z {ρ : Type} : LOrc ρ := lorcNil
omit [Tabs] [QuietD Tryz.prog] [UDef] [UTabs] in
theorem e_q39z (x) : evF Tryz.prog 8 TT M_q39z F_q39z (O_q39z) (L_q39z) dorcNil ⟨[], [], []⟩ [.cell 2 30] C_q39z x = q39z x := by kernel_rfl
omit [UDef] [UTabs] in
theorem ok_q39z : Contract Tryz.prog 30 F_q39z (q39z) :=
  Contract.of_ev (c := C_q39z) (N := 8) Tryz.func30 (by kernel_rfl) (by kernel_rfl) (by kernel_rfl) (by kernel_rfl) (O_q39z_ok) dorcNil_ok (.of (l := []) (by kernel_rfl) trivial) (e_q39z)
noncomputable def F_q37z : FnT := ⟨0, ⟨[], [], []⟩, [.v .graph], []⟩
noncomputable def F_q53z : FnT := ⟨1, ⟨[], [(0, .i64)], []⟩, [.v .val], []⟩
noncomputable def C_q53z : Code := bodyOf Tryz.f32
noncomputable def M_q53z : List (Nat × ArgM) := []
instance : DfOk M_q53z := .none rfl
noncomputable def O_q53z {ρ : Type} : Orc ρ := orcNil
omit [QuietD Tryz.prog] [UDef] [UTabs] in
theorem O_q53z_ok {ρ : Type} : (O_q53z : Orc ρ).ok Tryz.prog := orcNil_ok
noncomputable def L_q53z {ρ : Type} : LOrc ρ := lorcNil
omit [Tabs] [QuietD Tryz.prog] [UDef] [UTabs] in
theorem e_q53z (x) : evF Tryz.prog 5 TT M_q53z F_q53z (O_q53z) (L_q53z) dorcNil ⟨[], [], []⟩ [.cell 2 30] C_q53z x = q53z x := by kernel_rfl
omit [UDef] [UTabs] in
theorem ok_q53z : Contract Tryz.prog 32 F_q53z (q53z) :=
  Contract.of_ev (c := C_q53z) (N := 5) Tryz.func32 (by kernel_rfl) (by kernel_rfl) (by kernel_rfl) (by kernel_rfl) (O_q53z_ok) dorcNil_ok (.of (l := []) (by kernel_rfl) trivial) (e_q53z)
noncomputable def C_q37z : Code := bodyOf Tryz.f31
noncomputable def M_q37z : List (Nat × ArgM) := []
instance : DfOk M_q37z := .none rfl
noncomputable def O_q37z {ρ : Type} : Orc ρ := orcCons 32 F_q53z (q53z) (orcNil)
omit [UDef] [UTabs] in
theorem O_q37z_ok {ρ : Type} : (O_q37z : Orc ρ).ok Tryz.prog := orcCons_ok (by kernel_rfl) (ok_q53z) (orcNil_ok)
noncomputable def L_q37z {ρ : Type} : LOrc ρ := lorcNil
omit [Tabs] [QuietD Tryz.prog] [UDef] [UTabs] in
theorem e_q37z (x) : evF Tryz.prog 11 TT M_q37z F_q37z (O_q37z) (L_q37z) dorcNil ⟨[], [], []⟩ [.cell 0 25] C_q37z x = q37z x := by kernel_rfl
omit [UDef] [UTabs] in
theorem ok_q37z : Contract Tryz.prog 31 F_q37z (q37z) :=
  Contract.of_ev (c := C_q37z) (N := 11) Tryz.func31 (by kernel_rfl) (by kernel_rfl) (by kernel_rfl) (by kernel_rfl) (O_q37z_ok) dorcNil_ok (.of (l := []) (by kernel_rfl) trivial) (e_q37z)
noncomputable def C_q28z : Code := bodyOf Tryz.f10
noncomputable def M_q28z : List (Nat × ArgM) := [(12, ⟨[], [], [], true⟩), (14, ⟨[], [], [], true⟩), (16, ⟨[], [], [], true⟩)]
instance : DfOk M_q28z := .none rfl
noncomputable def O_q28z {ρ : Type} (n : Nat) : Orc ρ := orcCons 30 F_q39z (q39z) (orcCons 31 F_q37z (q37z) (orcCons 5 F_term_Eval (term_Eval n) (orcCons 32 F_q53z (q53z) (orcCons 12 F_q16z (q16z n) (orcCons 14 F_q62z (q62z n) (orcCons 16 F_term_Name (term_Name n) (orcNil)))))))
omit [UDef] in
theorem O_q28z_ok {ρ : Type} (n : Nat) : (O_q28z n : Orc ρ).ok Tryz.prog := orcCons_ok (by kernel_rfl) (ok_q39z) (orcCons_ok (by kernel_rfl) (ok_q37z) (orcCons_ok (by kernel_rfl) (ok_term_Eval n) (orcCons_ok (by kernel_rfl) (ok_q53z) (orcCons_ok (by kernel_rfl) (ok_q16z n) (orcCons_ok (by kernel_rfl) (ok_q62z n) (orcCons_ok (by kernel_rfl) (ok_term_Name n) (orcNil_ok)))))))
noncomputable def L_q28z {ρ : Type} (n : Nat) : LOrc ρ := lorcNil
omit [Tabs] [QuietD Tryz.prog] [UDef] [UTabs] in
theorem e_q28z (n : Nat) (x) : evF Tryz.prog 50 TT M_q28z F_q28z (O_q28z n) (L_q28z n) (evDraw Tryz.prog 50 TT M_q28z (O_q28z n)) ⟨[], [], []⟩ [.tmp 0] C_q28z x = q28z n x := by kernel_rfl
omit [UDef] in
theorem ok_q28z (n : Nat) : Contract Tryz.prog 10 F_q28z (q28z n) :=
  Contract.of_ev (c := C_q28z) (N := 50) Tryz.func10 (by kernel_rfl) (by kernel_rfl) (by kernel_rfl) (by kernel_rfl) (O_q28z_ok n) (evDraw_ok (O_q28z_ok n) (by kernel_rfl)) (.of (l := []) (by kernel_rfl) trivial) (e_q28z n)
noncomputable def F_q44z : FnT := ⟨1, ⟨[], [(0, .val)], []⟩, [.v .bool], []⟩
noncomputable def C_q44z : Code := bodyOf Tryz.f11
noncomputable def M_q44z : List (Nat × ArgM) := [(12, ⟨[], [], [], true⟩)]
instance : DfOk M_q44z := .none rfl
noncomputable def O_q44z {ρ : Type} (n : Nat) : Orc ρ := orcCons 12 F_q16z (q16z n) (orcNil)
omit [UDef] [UTabs] in
theorem O_q44z_ok {ρ : Type} (n : Nat) : (O_q44z n : Orc ρ).ok Tryz.prog := orcCons_ok (by kernel_rfl) (ok_q16z n) (orcNil_ok)
noncomputable def L_q44z {ρ : Type} (n : Nat) : LOrc ρ := lorcNil
omit [Tabs] [QuietD Tryz.prog] [UDef] [UTabs] in
theorem e_q44z (n : Nat) (x) : evF Tryz.prog 6 TT M_q44z F_q44z (O_q44z n) (L_q44z n) dorcNil ⟨[], [], []⟩ [.tmp 2] C_q44z x = q44z n x := by kernel_rfl
omit [UDef] [UTabs] in
theorem ok_q44z (n : Nat) : Contract Tryz.prog 11 F_q44z (q44z n) :=
  Contract.of_ev (c := C_q44z) (N := 6) Tryz.func11 (by kernel_rfl) (by kernel_rfl) (by kernel_rfl) (by kernel_rfl) (O_q44z_ok n) dorcNil_ok (.of (l := []) (by kernel_rfl) trivial) (e_q44z n)
noncomputable def F_q17z : FnT := ⟨3, ⟨[], [(0, .graph), (1, (.map .str .i64)), (2, .term)], []⟩, [.v .val], []⟩
noncomputable def F_q34z : FnT := ⟨2, ⟨[], [(0, (.lst .prp)), (1, .str)], []⟩, [.v .val], []⟩
noncomputable def C_q34z : Code := bodyOf Tryz.f34
noncomputable def M_q34z : List (Nat × ArgM) := []
instance : DfOk M_q34z := .none rfl
noncomputable def O_q34z {ρ : Type} (n : Nat) : Orc ρ := orcNil
omit [QuietD Tryz.prog] [UDef] [UTabs] in
theorem O_q34z_ok {ρ : Type} (n : Nat) : (O_q34z n : Orc ρ).ok Tryz.prog := orcNil_ok
noncomputable def T_q34z_s0 : Tm := ⟨[(4, .ptr 4 0)], [(1, .str), (7, (.lst .prp)), (8, .i64), (9, .i64)], [(4, .box [.d .val])]⟩
noncomputable def X_q34z_s0 : Tm := ⟨[(4, .ptr 4 0)], [], [(4, .box [.d .val])]⟩
noncomputable def R_q34z_s0 : Tm := ⟨[(4, .ptr 4 0)], [], [(4, .box [.d .val])]⟩
noncomputable def L_q34z_s0 {ρ : Type} (n : Nat) : LOrc ρ := lorcNil
omit [Tabs] [QuietD Tryz.prog] [UDef] [UTabs] in
theorem s_q34z_s0 {ρ : Type} (n : Nat) (rec : T_q34z_s0.den → Option ρ) kx kr s : dStep Tryz.prog 21 TT M_q34z (O_q34z n) (L_q34z_s0 n) dorcNil 0 (lbody 1000 C_q34z 0) T_q34z_s0 X_q34z_s0 R_q34z_s0 ⟨[], [], []⟩ rec kx kr s = q34z_s0 n rec kx kr s := by kernel_rfl
noncomputable def L_q34z {ρ : Type} (n : Nat) : LOrc ρ := lorcCons 0 (loopL 21 0 n T_q34z_s0 X_q34z_s0 R_q34z_s0 ⟨[], [], []⟩ (q34z_s0 n)) (lorcNil)
omit [Tabs] [QuietD Tryz.prog] [UDef] [UTabs] in
theorem e_q34z (n : Nat) (x) : evF Tryz.prog 21 TT M_q34z F_q34z (O_q34z n) (L_q34z n) dorcNil ⟨[], [], []⟩ [.cell 4 30] C_q34z x = q34z n x := by kernel_rfl
omit [UDef] [UTabs] in
theorem ok_q34z (n : Nat) : Contract Tryz.prog 34 F_q34z (q34z n) :=
  Contract.of_ev (c := C_q34z) (N := 21) Tryz.func34 (by kernel_rfl) (by kernel_rfl) (by kernel_rfl) (by kernel_rfl) (O_q34z_ok n) dorcNil_ok (.of (l := [(0, (lbody 1000 C_q34z 0))]) (by kernel_rfl) ⟨.head (loopL_sound (O_q34z_ok n) dorcNil_ok (.of (l := []) (by kernel_rfl) trivial) (s_q34z_s0 n)), trivial⟩) (e_q34z n)
noncomputable def F_q20z : FnT := ⟨3, ⟨[], [(0, .str), (1, .val), (2, .val)], []⟩, [.v .val, .v .i64], []⟩
noncomputable def F_q6z : FnT := ⟨2, ⟨[(0, .ptr 1000000 0)], [(1, .i64)], [(1000000, .box [.d .bool, .d (.lst .u32)])]⟩, [.ref (.ptr 1000000 0)], [(1000000, .box [.d .bool, .d (.lst .u32)])]⟩
noncomputable def F_q36z : FnT := ⟨1, ⟨[], [(0, .u64)], []⟩, [.v (.lst .u32)], []⟩
noncomputable def F_q43z : FnT := ⟨1, ⟨[], [(0, (.lst .u32))], []⟩, [.v (.lst .u32)], []⟩
noncomputable def C_q43z : Code := bodyOf Tryz.f129
noncomputable def M_q43z : List (Nat × ArgM) := []
instance : DfOk M_q43z := .none rfl
noncomputable def O_q43z {ρ : Type} (n : Nat) : Orc ρ := orcNil
omit [QuietD Tryz.prog] [UDef] [UTabs] in
theorem O_q43z_ok {ρ : Type} (n : Nat) : (O_q43z n : Orc ρ).ok Tryz.prog := orcNil_ok
noncomputable def T_q43z_s0 : Tm := ⟨[], [(0, (.lst .u32)), (3, .i64)], []⟩
noncomputable def X_q43z_s0 : Tm := ⟨[], [(0, (.lst .u32)), (3, .i64)], []⟩
noncomputable def R_q43z_s0 : Tm := ⟨[], [], []⟩
noncomputable def L_q43z_s0 {ρ : Type} (n : Nat) : LOrc ρ := lorcNil
omit [Tabs] [QuietD Tryz.prog] [UDef] [UTabs] in
theorem s_q43z_s0 {ρ : Type} (n : Nat) (rec : T_q43z_s0.den → Option ρ) kx kr s : dStep Tryz.prog 21 TT M_q43z (O_q43z n) (L_q43z_s0 n) dorcNil 0 (lbody 1000 C_q43z 0) T_q43z_s0 X_q43z_s0 R_q43z_s0 ⟨[], [], []⟩ rec kx kr s = q43z_s0 n rec kx kr s := by kernel_rfl
noncomputable def L_q43z {ρ : Type} (n : Nat) : LOrc ρ := lorcCons 0 (loopL 21 0 n T_q43z_s0 X_q43z_s0 R_q43z_s0 ⟨[], [], []⟩ (q43z_s0 n)) (lorcNil)
omit [Tabs] [QuietD Tryz.prog] [UDef] [UTabs] in
theorem e_q43z (n : Nat) (x) : evF Tryz.prog 21 TT M_q43z F_q43z (O_q43z n) (L_q43z n) dorcNil ⟨[], [], []⟩ [.tmp 2] C_q43z x = q43z n x := by kernel_rfl
omit [UDef] [UTabs] in
theorem ok_q43z (n : Nat) : Contract Tryz.prog 129 F_q43z (q43z n) :=
  Contract.of_ev (c := C_q43z) (N := 21) Tryz.func129 (by kernel_rfl) (by kernel_rfl) (by kernel_rfl) (by kernel_rfl) (O_q43z_ok n) dorcNil_ok (.of (l := [(0, (lbody 1000 C_q43z 0))]) (by kernel_rfl) ⟨.head (loopL_sound (O_q43z_ok n) dorcNil_ok (.of (l := []) (by kernel_rfl) trivial) (s_q43z_s0 n)), trivial⟩) (e_q43z n)
noncomputable def C_q36z : Code := bodyOf Tryz.f125
noncomputable def M_q36z : List (Nat × ArgM) := []
instance : DfOk M_q36z := .none rfl
noncomputable def O_q36z {ρ : Type} (n : Nat) : Orc ρ := orcCons 129 F_q43z (q43z n) (orcNil)
omit [UDef] [UTabs] in
theorem O_q36z_ok {ρ : Type} (n : Nat) : (O_q36z n : Orc ρ).ok Tryz.prog := orcCons_ok (by kernel_rfl) (ok_q43z n) (orcNil_ok)
noncomputable def L_q36z {ρ : Type} (n : Nat) : LOrc ρ := lorcNil
omit [Tabs] [QuietD Tryz.prog] [UDef] [UTabs] in
theorem e_q36z (n : Nat) (x) : evF Tryz.prog 10 TT M_q36z F_q36z (O_q36z n) (L_q36z n) dorcNil ⟨[], [], []⟩ [.tmp 2] C_q36z x = q36z n x := by kernel_rfl
omit [UDef] [UTabs] in
theorem ok_q36z (n : Nat) : Contract Tryz.prog 125 F_q36z (q36z n) :=
  Contract.of_ev (c := C_q36z) (N := 10) Tryz.func125 (by kernel_rfl) (by kernel_rfl) (by kernel_rfl) (by kernel_rfl) (O_q36z_ok n) dorcNil_ok (.of (l := []) (by kernel_rfl) trivial) (e_q36z n)
noncomputable def F_q18z : FnT := ⟨3, ⟨[(0, .ptr 1000000 0)], [(1, .bool), (2, (.lst .u32))], [(1000000, .box [.d .bool, .d (.lst .u32)])]⟩, [.ref (.ptr 1000000 0)], [(1000000, .box [.d .bool, .d (.lst .u32)])]⟩
noncomputable def C_q18z : Code := bodyOf Tryz.f95
noncomputable def M_q18z : List (Nat × ArgM) := [(999999999, ⟨[1], [], [], false⟩)]
instance : DfOk M_q18z := .none rfl
noncomputable def O_q18z {ρ : Type} : Orc ρ := orcNil
omit [QuietD Tryz.prog] [UDef] [UTabs] in
theorem O_q18z_ok {ρ : Type} : (O_q18z : Orc ρ).ok Tryz.prog := orcNil_ok
noncomputable def L_q18z {ρ : Type} : LOrc ρ := lorcNil
omit [Tabs] [QuietD Tryz.prog] [UDef] [UTabs] in
theorem e_q18z (x) : evF Tryz.prog 21 TT M_q18z F_q18z (O_q18z) (L_q18z) dorcNil ⟨[], [], []⟩ [.tmp 6] C_q18z x = q18z x := by kernel_rfl
omit [UDef] [UTabs] in
theorem ok_q18z : Contract Tryz.prog 95 F_q18z (q18z) :=
  Contract.of_ev (c := C_q18z) (N := 21) Tryz.func95 (by kernel_rfl) (by kernel_rfl) (by kernel_rfl) (by kernel_rfl) (O_q18z_ok) dorcNil_ok (.of (l := []) (by kernel_rfl) trivial) (e_q18z)
noncomputable def C_q6z : Code := bodyOf Tryz.f94
noncomputable def M_q6z : List (Nat × ArgM) := [(999999999, ⟨[1], [], [], false⟩), (95, ⟨[0], [], [], false⟩)]
instance : DfOk M_q6z := .none rfl
noncomputable def O_q6z {ρ : Type} (n : Nat) : Orc ρ := orcCons 125 F_q36z (q36z n) (orcCons 95 F_q18z (q18z) (orcNil))
omit [UDef] [UTabs] in
theorem O_q6z_ok {ρ : Type} (n : Nat) : (O_q6z n : Orc ρ).ok Tryz.prog := orcCons_ok (by kernel_rfl) (ok_q36z n) (orcCons_ok (by kernel_rfl) (ok_q18z) (orcNil_ok))
noncomputable def L_q6z {ρ : Type} (n : Nat) : LOrc ρ := lorcNil
omit [Tabs] [QuietD Tryz.prog] [UDef] [UTabs] in
theorem e_q6z (n : Nat) (x) : evF Tryz.prog 18 TT M_q6z F_q6z (O_q6z n) (L_q6z n) dorcNil ⟨[], [], []⟩ [.tmp 4] C_q6z x = q6z n x := by kernel_rfl
omit [UDef] [UTabs] in
theorem ok_q6z (n : Nat) : Contract Tryz.prog 94 F_q6z (q6z n) :=
  Contract.of_ev (c := C_q6z) (N := 18) Tryz.func94 (by kernel_rfl) (by kernel_rfl) (by kernel_rfl) (by kernel_rfl) (O_q6z_ok n) dorcNil_ok (.of (l := []) (by kernel_rfl) trivial) (e_q6z n)
noncomputable def F_q26z : FnT := ⟨1, ⟨[], [(0, .i64)], []⟩, [.ref (.ptr 3 0)], [(3, .box [.d .bool, .d (.lst .u32)])]⟩
noncomputable def C_q26z : Code := bodyOf Tryz.f63
noncomputable def M_q26z : List (Nat × ArgM) := [(999999999, ⟨[1], [], [], false⟩), (94, ⟨[0], [], [], false⟩)]
instance : DfOk M_q26z := .none rfl
noncomputable def O_q26z {ρ : Type} (n : Nat) : Orc ρ := orcCons 94 F_q6z (q6z n) (orcNil)
omit [UDef] [UTabs] in
theorem O_q26z_ok {ρ : Type} (n : Nat) : (O_q26z n : Orc ρ).ok Tryz.prog := orcCons_ok (by kernel_rfl) (ok_q6z n) (orcNil_ok)
noncomputable def L_q26z {ρ : Type} (n : Nat) : LOrc ρ := lorcNil
omit [Tabs] [QuietD Tryz.prog] [UDef] [UTabs] in
theorem e_q26z (n : Nat) (x) : evF Tryz.prog 6 TT M_q26z F_q26z (O_q26z n) (L_q26z n) dorcNil ⟨[], [], []⟩ [.tmp 2] C_q26z x = q26z n x := by kernel_rfl
omit [UDef] [UTabs] in
theorem ok_q26z (n : Nat) : Contract Tryz.prog 63 F_q26z (q26z n) :=
  Contract.of_ev (c := C_q26z) (N := 6) Tryz.func63 (by kernel_rfl) (by kernel_rfl) (by kernel_rfl) (by kernel_rfl) (O_q26z_ok n) dorcNil_ok (.of (l := []) (by kernel_rfl) trivial) (e_q26z n)
noncomputable def F_q21z : FnT := ⟨3, ⟨[(0, .ptr 1000000 0), (1, .ptr 1000016 0), (2, .ptr 1000032 0)], [], [(1000000, .box [.d .bool, .d (.lst .u32)]), (1000016, .box [.d .bool, .d (.lst .u32)]), (1000032, .box [.d .bool, .d (.lst .u32)])]⟩, [.ref (.ptr 1000000 0)], [(1000000, .box [.d .bool, .d (.lst .u32)]), (1000016, .box [.d .bool, .d (.lst .u32)]), (1000032, .box [.d .bool, .d (.lst .u32)])]⟩
noncomputable def F_q52z : FnT := ⟨4, ⟨[], [(0, .bool), (1, (.lst .u32)), (2, .bool), (3, (.lst .u32))], []⟩, [.v .bool, .v (.lst .u32)], []⟩
noncomputable def F_q47z : FnT := ⟨2, ⟨[], [(0, (.lst .u32)), (1, (.lst .u32))], []⟩, [.v (.lst .u32)], []⟩
noncomputable def C_q47z : Code := bodyOf Tryz.f126
noncomputable def M_q47z : List (Nat × ArgM) := [(999999999, ⟨[1], [], [], false⟩)]
instance : DfOk M_q47z := .none rfl
noncomputable def O_q47z {ρ : Type} (n : Nat) : Orc ρ := orcCons 129 F_q43z (q43z n) (orcNil)
omit [UDef] [UTabs] in
theorem O_q47z_ok {ρ : Type} (n : Nat) : (O_q47z n : Orc ρ).ok Tryz.prog := orcCons_ok (by kernel_rfl) (ok_q43z n) (orcNil_ok)
noncomputable def T_q47z_s0 : Tm := ⟨[(5, .own 18)], [(0, (.lst .u32)), (1, (.lst .u32)), (6, .u64), (7, .i64)], [(18, .arr 147 .u32)]⟩
noncomputable def X_q47z_s0 : Tm := ⟨[(5, .own 18)], [(0, (.lst .u32)), (6, .u64)], [(18, .arr 147 .u32)]⟩
noncomputable def R_q47z_s0 : Tm := ⟨[], [], []⟩
noncomputable def L_q47z_s0 {ρ : Type} (n : Nat) : LOrc ρ := lorcNil
omit [Tabs] [QuietD Tryz.prog] [UDef] [UTabs] in
theorem s_q47z_s0 {ρ : Type} (n : Nat) (rec : T_q47z_s0.den → Option ρ) kx kr s : dStep Tryz.prog 58 TT M_q47z (O_q47z n) (L_q47z_s0 n) dorcNil 0 (lbody 1000 C_q47z 0) T_q47z_s0 X_q47z_s0 R_q47z_s0 ⟨[], [], []⟩ rec kx kr s = q47z_s0 n rec kx kr s := by kernel_rfl
noncomputable def L_q47z {ρ : Type} (n : Nat) : LOrc ρ := lorcCons 0 (loopL 58 0 n T_q47z_s0 X_q47z_s0 R_q47z_s0 ⟨[], [], []⟩ (q47z_s0 n)) (lorcNil)
omit [Tabs] [QuietD Tryz.prog] [UDef] [UTabs] in
theorem e_q47z (n : Nat) (x) : evF Tryz.prog 58 TT M_q47z F_q47z (O_q47z n) (L_q47z n) dorcNil ⟨[], [], []⟩ [.tmp 4] C_q47z x = q47z n x := by kernel_rfl
omit [UDef] [UTabs] in
theorem ok_q47z (n : Nat) : Contract Tryz.prog 126 F_q47z (q47z n) :=
  Contract.of_ev (c := C_q47z) (N := 58) Tryz.func126 (by kernel_rfl) (by kernel_rfl) (by kernel_rfl) (by kernel_rfl) (O_q47z_ok n) dorcNil_ok (.of (l := [(0, (lbody 1000 C_q47z 0))]) (by kernel_rfl) ⟨.head (loopL_sound (O_q47z_ok n) dorcNil_ok (.of (l := []) (by kernel_rfl) trivial) (s_q47z_s0 n)), trivial⟩) (e_q47z n)
noncomputable def F_q49z : FnT := ⟨2, ⟨[], [(0, (.lst .u32)), (1, (.lst .u32))], []⟩, [.v .i64], []⟩
noncomputable def C_q49z : Code := bodyOf Tryz.f127
noncomputable def M_q49z : List (Nat × ArgM) := []
instance : DfOk M_q49z := .none rfl
noncomputable def O_q49z {ρ : Type} (n : Nat) : Orc ρ := orcNil
omit [QuietD Tryz.prog] [UDef] [UTabs] in
theorem O_q49z_ok {ρ : Type} (n : Nat) : (O_q49z n : Orc ρ).ok Tryz.prog := orcNil_ok
noncomputable def T_q49z_s0 : Tm := ⟨[], [(0, (.lst .u32)), (1, (.lst .u32)), (5, .i64)], []⟩
noncomputable def X_q49z_s0 : Tm := ⟨[], [], []⟩
noncomputable def R_q49z_s0 : Tm := ⟨[], [(4, .i64)], []⟩
noncomputable def L_q49z_s0 {ρ : Type} (n : Nat) : LOrc ρ := lorcNil
omit [Tabs] [QuietD Tryz.prog] [UDef] [UTabs] in
theorem s_q49z_s0 {ρ : Type} (n : Nat) (rec : T_q49z_s0.den → Option ρ) kx kr s : dStep Tryz.prog 41 TT M_q49z (O_q49z n) (L_q49z_s0 n) (evDraw Tryz.prog 41 TT M_q49z (O_q49z n)) 0 (lbody 1000 C_q49z 0) T_q49z_s0 X_q49z_s0 R_q49z_s0 ⟨[], [], []⟩ rec kx kr s = q49z_s0 n rec kx kr s := by kernel_rfl
noncomputable def L_q49z {ρ : Type} (n : Nat) : LOrc ρ := lorcCons 0 (loopL 41 0 n T_q49z_s0 X_q49z_s0 R_q49z_s0 ⟨[], [], []⟩ (q49z_s0 n)) (lorcNil)
omit [Tabs] [QuietD Tryz.prog] [UDef] [UTabs] in
theorem e_q49z (n : Nat) (x) : evF Tryz.prog 41 TT M_q49z F_q49z (O_q49z n) (L_q49z n) (evDraw Tryz.prog 41 TT M_q49z (O_q49z n)) ⟨[], [], []⟩ [.tmp 4] C_q49z x = q49z n x := by kernel_rfl
omit [UDef] [UTabs] in
theorem ok_q49z (n : Nat) : Contract Tryz.prog 127 F_q49z (q49z n) :=
  Contract.of_ev (c := C_q49z) (N := 41) Tryz.func127 (by kernel_rfl) (by kernel_rfl) (by kernel_rfl) (by kernel_rfl) (O_q49z_ok n) (evDraw_ok (O_q49z_ok n) (by kernel_rfl)) (.of (l := [(0, (lbody 1000 C_q49z 0))]) (by kernel_rfl) ⟨.head (loopL_sound (O_q49z_ok n) (evDraw_ok (O_q49z_ok n) (by kernel_rfl)) (.of (l := []) (by kernel_rfl) trivial) (s_q49z_s0 n)), trivial⟩) (e_q49z n)
noncomputable def F_q51z : FnT := ⟨2, ⟨[], [(0, (.lst .u32)), (1, (.lst .u32))], []⟩, [.v (.lst .u32)], []⟩
noncomputable def C_q51z : Code := bodyOf Tryz.f128
noncomputable def M_q51z : List (Nat × ArgM) := [(999999999, ⟨[1], [], [], false⟩)]
instance : DfOk M_q51z := .none rfl
noncomputable def O_q51z {ρ : Type} (n : Nat) : Orc ρ := orcCons 129 F_q43z (q43z n) (orcNil)
omit [UDef] [UTabs] in
theorem O_q51z_ok {ρ : Type} (n : Nat) : (O_q51z n : Orc ρ).ok Tryz.prog := orcCons_ok (by kernel_rfl) (ok_q43z n) (orcNil_ok)
noncomputable def T_q51z_s0 : Tm := ⟨[(5, .own 11)], [(0, (.lst .u32)), (1, (.lst .u32)), (6, .u64), (7, .i64)], [(11, .arr 147 .u32)]⟩
noncomputable def X_q51z_s0 : Tm := ⟨[(5, .own 11)], [], [(11, .arr 147 .u32)]⟩
noncomputable def R_q51z_s0 : Tm := ⟨[], [], []⟩
noncomputable def L_q51z_s0 {ρ : Type} (n : Nat) : LOrc ρ := lorcNil
omit [Tabs] [QuietD Tryz.prog] [UDef] [UTabs] in
theorem s_q51z_s0 {ρ : Type} (n : Nat) (rec : T_q51z_s0.den → Option ρ) kx kr s : dStep Tryz.prog 45 TT M_q51z (O_q51z n) (L_q51z_s0 n) dorcNil 0 (lbody 1000 C_q51z 0) T_q51z_s0 X_q51z_s0 R_q51z_s0 ⟨[], [], []⟩ rec kx kr s = q51z_s0 n rec kx kr s := by kernel_rfl
noncomputable def L_q51z {ρ : Type} (n : Nat) : LOrc ρ := lorcCons 0 (loopL 45 0 n T_q51z_s0 X_q51z_s0 R_q51z_s0 ⟨[], [], []⟩ (q51z_s0 n)) (lorcNil)
omit [Tabs] [QuietD Tryz.prog] [UDef] [UTabs] in
theorem e_q51z (n : Nat) (x) : evF Tryz.prog 45 TT M_q51z F_q51z (O_q51z n) (L_q51z n) dorcNil ⟨[], [], []⟩ [.tmp 4] C_q51z x = q51z n x := by kernel_rfl
omit [UDef] [UTabs] in
theorem ok_q51z (n : Nat) : Contract Tryz.prog 128 F_q51z (q51z n) :=
  Contract.of_ev (c := C_q51z) (N := 45) Tryz.func128 (by kernel_rfl) (by kernel_rfl) (by kernel_rfl) (by kernel_rfl) (O_q51z_ok n) dorcNil_ok (.of (l := [(0, (lbody 1000 C_q51z 0))]) (by kernel_rfl) ⟨.head (loopL_sound (O_q51z_ok n) dorcNil_ok (.of (l := []) (by kernel_rfl) trivial) (s_q51z_s0 n)), trivial⟩) (e_q51z n)
noncomputable def C_q52z : Code := bodyOf Tryz.f96
noncomputable def M_q52z : List (Nat × ArgM) := [(127, ⟨[], [], [], true⟩)]
instance : DfOk M_q52z := .none rfl
noncomputable def O_q52z {ρ : Type} (n : Nat) : Orc ρ := orcCons 126 F_q47z (q47z n) (orcCons 127 F_q49z (q49z n) (orcCons 128 F_q51z (q51z n) (orcNil)))
omit [UDef] [UTabs] in
theorem O_q52z_ok {ρ : Type} (n : Nat) : (O_q52z n : Orc ρ).ok Tryz.prog := orcCons_ok (by kernel_rfl) (ok_q47z n) (orcCons_ok (by kernel_rfl) (ok_q49z n) (orcCons_ok (by kernel_rfl) (ok_q51z n) (orcNil_ok)))
noncomputable def L_q52z {ρ : Type} (n : Nat) : LOrc ρ := lorcNil
omit [Tabs] [QuietD Tryz.prog] [UDef] [UTabs] in
theorem e_q52z (n : Nat) (x) : evF Tryz.prog 29 TT M_q52z F_q52z (O_q52z n) (L_q52z n) dorcNil ⟨[], [], []⟩ [.tmp 8, .tmp 9] C_q52z x = q52z n x := by kernel_rfl
omit [UDef] [UTabs] in
theorem ok_q52z (n : Nat) : Contract Tryz.prog 96 F_q52z (q52z n) :=
  Contract.of_ev (c := C_q52z) (N := 29) Tryz.func96 (by kernel_rfl) (by kernel_rfl) (by kernel_rfl) (by kernel_rfl) (O_q52z_ok n) dorcNil_ok (.of (l := []) (by kernel_rfl) trivial) (e_q52z n)
noncomputable def C_q21z : Code := bodyOf Tryz.f64
noncomputable def M_q21z : List (Nat × ArgM) := [(999999999, ⟨[1], [], [], false⟩), (95, ⟨[0], [], [], false⟩)]
instance : DfOk M_q21z := .none rfl
noncomputable def O_q21z {ρ : Type} (n : Nat) : Orc ρ := orcCons 96 F_q52z (q52z n) (orcCons 95 F_q18z (q18z) (orcNil))
omit [UDef] [UTabs] in
theorem O_q21z_ok {ρ : Type} (n : Nat) : (O_q21z n : Orc ρ).ok Tryz.prog := orcCons_ok (by kernel_rfl) (ok_q52z n) (orcCons_ok (by kernel_rfl) (ok_q18z) (orcNil_ok))
noncomputable def L_q21z {ρ : Type} (n : Nat) : LOrc ρ := lorcNil
omit [Tabs] [QuietD Tryz.prog] [UDef] [UTabs] in
theorem e_q21z (n : Nat) (x) : evF Tryz.prog 28 TT M_q21z F_q21z (O_q21z n) (L_q21z n) (evDraw Tryz.prog 28 TT M_q21z (O_q21z n)) ⟨[], [], []⟩ [.tmp 6] C_q21z x = q21z n x := by kernel_rfl
omit [UDef] [UTabs] in
theorem ok_q21z (n : Nat) : Contract Tryz.prog 64 F_q21z (q21z n) :=
  Contract.of_ev (c := C_q21z) (N := 28) Tryz.func64 (by kernel_rfl) (by kernel_rfl) (by kernel_rfl) (by kernel_rfl) (O_q21z_ok n) (evDraw_ok (O_q21z_ok n) (by kernel_rfl)) (.of (l := []) (by kernel_rfl) trivial) (e_q21z n)
noncomputable def F_q7z : FnT := ⟨1, ⟨[(0, .ptr 1000000 0)], [], [(1000000, .box [.d .bool, .d (.lst .u32)])]⟩, [.v .bool], [(1000000, .box [.d .bool, .d (.lst .u32)])]⟩
noncomputable def F_q27z : FnT := ⟨1, ⟨[], [(0, (.lst .u32))], []⟩, [.v .i64], []⟩
noncomputable def C_q27z : Code := bodyOf Tryz.f98
noncomputable def M_q27z : List (Nat × ArgM) := []
instance : DfOk M_q27z := .none rfl
noncomputable def O_q27z {ρ : Type} (n : Nat) : Orc ρ := orcNil
omit [QuietD Tryz.prog] [UDef] [UTabs] in
theorem O_q27z_ok {ρ : Type} (n : Nat) : (O_q27z n : Orc ρ).ok Tryz.prog := orcNil_ok
noncomputable def T_q27z_s0 : Tm := ⟨[], [(0, (.lst .u32)), (3, .i64), (4, .u32)], []⟩
noncomputable def X_q27z_s0 : Tm := ⟨[], [(0, (.lst .u32)), (3, .i64)], []⟩
noncomputable def R_q27z_s0 : Tm := ⟨[], [], []⟩
noncomputable def L_q27z_s0 {ρ : Type} (n : Nat) : LOrc ρ := lorcNil
omit [Tabs] [QuietD Tryz.prog] [UDef] [UTabs] in
theorem s_q27z_s0 {ρ : Type} (n : Nat) (rec : T_q27z_s0.den → Option ρ) kx kr s : dStep Tryz.prog 26 TT M_q27z (O_q27z n) (L_q27z_s0 n) dorcNil 0 (lbody 1000 C_q27z 0) T_q27z_s0 X_q27z_s0 R_q27z_s0 ⟨[], [], []⟩ rec kx kr s = q27z_s0 n rec kx kr s := by kernel_rfl
noncomputable def L_q27z {ρ : Type} (n : Nat) : LOrc ρ := lorcCons 0 (loopL 26 0 n T_q27z_s0 X_q27z_s0 R_q27z_s0 ⟨[], [], []⟩ (q27z_s0 n)) (lorcNil)
omit [Tabs] [QuietD Tryz.prog] [UDef] [UTabs] in
theorem e_q27z (n : Nat) (x) : evF Tryz.prog 26 TT M_q27z F_q27z (O_q27z n) (L_q27z n) dorcNil ⟨[], [], []⟩ [.tmp 2] C_q27z x = q27z n x := by kernel_rfl
omit [UDef] [UTabs] in
theorem ok_q27z (n : Nat) : Contract Tryz.prog 98 F_q27z (q27z n) :=
  Contract.of_ev (c := C_q27z) (N := 26) Tryz.func98 (by kernel_rfl) (by kernel_rfl) (by kernel_rfl) (by kernel_rfl) (O_q27z_ok n) dorcNil_ok (.of (l := [(0, (lbody 1000 C_q27z 0))]) (by kernel_rfl) ⟨.head (loopL_sound (O_q27z_ok n) dorcNil_ok (.of (l := []) (by kernel_rfl) trivial) (s_q27z_s0 n)), trivial⟩) (e_q27z n)
noncomputable def F_q3z : FnT := ⟨1, ⟨[(0, .ptr 1000000 0)], [], [(1000000, .box [.d .bool, .d (.lst .u32)])]⟩, [.v .u64], [(1000000, .box [.d .bool, .d (.lst .u32)])]⟩
noncomputable def F_q48z : FnT := ⟨2, ⟨[], [(0, (.lst .u32)), (1, .i64)], []⟩, [.v .u64], []⟩
noncomputable def C_q48z : Code := bodyOf Tryz.f130
noncomputable def M_q48z : List (Nat × ArgM) := []
instance : DfOk M_q48z := .none rfl
noncomputable def O_q48z {ρ : Type} : Orc ρ := orcNil
omit [QuietD Tryz.prog] [UDef] [UTabs] in
theorem O_q48z_ok {ρ : Type} : (O_q48z : Orc ρ).ok Tryz.prog := orcNil_ok
noncomputable def L_q48z {ρ : Type} : LOrc ρ := lorcNil
omit [Tabs] [QuietD Tryz.prog] [UDef] [UTabs] in
theorem e_q48z (x) : evF Tryz.prog 25 TT M_q48z F_q48z (O_q48z) (L_q48z) dorcNil ⟨[], [], []⟩ [.tmp 4] C_q48z x = q48z x := by kernel_rfl
omit [UDef] [UTabs] in
theorem ok_q48z : Contract Tryz.prog 130 F_q48z (q48z) :=
  Contract.of_ev (c := C_q48z) (N := 25) Tryz.func130 (by kernel_rfl) (by kernel_rfl) (by kernel_rfl) (by kernel_rfl) (O_q48z_ok) dorcNil_ok (.of (l := []) (by kernel_rfl) trivial) (e_q48z)
noncomputable def C_q3z : Code := bodyOf Tryz.f99
noncomputable def M_q3z : List (Nat × ArgM) := [(130, ⟨[], [], [], true⟩)]
instance : DfOk M_q3z := .none rfl
noncomputable def O_q3z {ρ : Type} (n : Nat) : Orc ρ := orcCons 130 F_q48z (q48z) (orcNil)
omit [UDef] [UTabs] in
theorem O_q3z_ok {ρ : Type} (n : Nat) : (O_q3z n : Orc ρ).ok Tryz.prog := orcCons_ok (by kernel_rfl) (ok_q48z) (orcNil_ok)
noncomputable def T_q3z_s0 : Tm := ⟨[(0, .ptr 1000000 0)], [(3, .u64)], [(1000000, .box [.d .bool, .d (.lst .u32)])]⟩
noncomputable def X_q3z_s0 : Tm := ⟨[], [(3, .u64)], [(1000000, .box [.d .bool, .d (.lst .u32)])]⟩
noncomputable def R_q3z_s0 : Tm := ⟨[], [], []⟩
noncomputable def L_q3z_s0 {ρ : Type} (n : Nat) : LOrc ρ := lorcNil
omit [Tabs] [QuietD Tryz.prog] [UDef] [UTabs] in
theorem s_q3z_s0 {ρ : Type} (n : Nat) (rec : T_q3z_s0.den → Option ρ) kx kr s : dStep Tryz.prog 21 TT M_q3z (O_q3z n) (L_q3z_s0 n) dorcNil 0 (lbody 1000 C_q3z 0) T_q3z_s0 X_q3z_s0 R_q3z_s0 ⟨[], [], []⟩ rec kx kr s = q3z_s0 n rec kx kr s := by kernel_rfl
noncomputable def L_q3z {ρ : Type} (n : Nat) : LOrc ρ := lorcCons 0 (loopL 21 0 n T_q3z_s0 X_q3z_s0 R_q3z_s0 ⟨[], [], []⟩ (q3z_s0 n)) (lorcNil)
omit [Tabs] [QuietD Tryz.prog] [UDef] [UTabs] in
theorem e_q3z (n : Nat) (x) : evF Tryz.prog 21 TT M_q3z F_q3z (O_q3z n) (L_q3z n) dorcNil ⟨[], [], []⟩ [.tmp 2] C_q3z x = q3z n x := by kernel_rfl
omit [UDef] [UTabs] in
theorem ok_q3z (n : Nat) : Contract Tryz.prog 99 F_q3z (q3z n) :=
  Contract.of_ev (c := C_q3z) (N := 21) Tryz.func99 (by kernel_rfl) (by kernel_rfl) (by kernel_rfl) (by kernel_rfl) (O_q3z_ok n) dorcNil_ok (.of (l := [(0, (lbody 1000 C_q3z 0))]) (by kernel_rfl) ⟨.head (loopL_sound (O_q3z_ok n) dorcNil_ok (.of (l := []) (by kernel_rfl) trivial) (s_q3z_s0 n)), trivial⟩) (e_q3z n)
noncomputable def C_q7z : Code := bodyOf Tryz.f67
noncomputable def M_q7z : List (Nat × ArgM) := [(99, ⟨[0], [], [], false⟩), (98, ⟨[], [], [], true⟩)]
instance : DfOk M_q7z := .none rfl
noncomputable def O_q7z {ρ : Type} (n : Nat) : Orc ρ := orcCons 98 F_q27z (q27z n) (orcCons 99 F_q3z (q3z n) (orcNil))
omit [UDef] [UTabs] in
theorem O_q7z_ok {ρ : Type} (n : Nat) : (O_q7z n : Orc ρ).ok Tryz.prog := orcCons_ok (by kernel_rfl) (ok_q27z n) (orcCons_ok (by kernel_rfl) (ok_q3z n) (orcNil_ok))
noncomputable def L_q7z {ρ : Type} (n : Nat) : LOrc ρ := lorcNil
omit [Tabs] [QuietD Tryz.prog] [UDef] [UTabs] in
theorem e_q7z (n : Nat) (x) : evF Tryz.prog 26 TT M_q7z F_q7z (O_q7z n) (L_q7z n) dorcNil ⟨[], [], []⟩ [.tmp 2] C_q7z x = q7z n x := by kernel_rfl
omit [UDef] [UTabs] in
theorem ok_q7z (n : Nat) : Contract Tryz.prog 67 F_q7z (q7z n) :=
  Contract.of_ev (c := C_q7z) (N := 26) Tryz.func67 (by kernel_rfl) (by kernel_rfl) (by kernel_rfl) (by kernel_rfl) (O_q7z_ok n) dorcNil_ok (.of (l := []) (by kernel_rfl) trivial) (e_q7z n)
noncomputable def F_q14z : FnT := ⟨1, ⟨[(0, .ptr 1000000 0)], [], [(1000000, .box [.d .bool, .d (.lst .u32)])]⟩, [.v .i64], [(1000000, .box [.d .bool, .d (.lst .u32)])]⟩
noncomputable def F_q9z : FnT := ⟨1, ⟨[(0, .ptr 1000000 0)], [], [(1000000, .box [.d .bool, .d (.lst .u32)])]⟩, [.v .u64], [(1000000, .box [.d .bool, .d (.lst .u32)])]⟩
noncomputable def C_q9z : Code := bodyOf Tryz.f100
noncomputable def M_q9z : List (Nat × ArgM) := []
instance : DfOk M_q9z := .none rfl
noncomputable def O_q9z {ρ : Type} : Orc ρ := orcNil
omit [QuietD Tryz.prog] [UDef] [UTabs] in
theorem O_q9z_ok {ρ : Type} : (O_q9z : Orc ρ).ok Tryz.prog := orcNil_ok
noncomputable def L_q9z {ρ : Type} : LOrc ρ := lorcNil
omit [Tabs] [QuietD Tryz.prog] [UDef] [UTabs] in
theorem e_q9z (x) : evF Tryz.prog 34 TT M_q9z F_q9z (O_q9z) (L_q9z) dorcNil ⟨[], [], []⟩ [.tmp 2] C_q9z x = q9z x := by kernel_rfl
omit [UDef] [UTabs] in
theorem ok_q9z : Contract Tryz.prog 100 F_q9z (q9z) :=
  Contract.of_ev (c := C_q9z) (N := 34) Tryz.func100 (by kernel_rfl) (by kernel_rfl) (by kernel_rfl) (by kernel_rfl) (O_q9z_ok) dorcNil_ok (.of (l := []) (by kernel_rfl) trivial) (e_q9z)
noncomputable def C_q14z : Code := bodyOf Tryz.f68
noncomputable def M_q14z : List (Nat × ArgM) := [(100, ⟨[0], [], [], false⟩)]
instance : DfOk M_q14z := .none rfl
noncomputable def O_q14z {ρ : Type} : Orc ρ := orcCons 100 F_q9z (q9z) (orcNil)
omit [UDef] [UTabs] in
theorem O_q14z_ok {ρ : Type} : (O_q14z : Orc ρ).ok Tryz.prog := orcCons_ok (by kernel_rfl) (ok_q9z) (orcNil_ok)
noncomputable def L_q14z {ρ : Type} : LOrc ρ := lorcNil
omit [Tabs] [QuietD Tryz.prog] [UDef] [UTabs] in
theorem e_q14z (x) : evF Tryz.prog 14 TT M_q14z F_q14z (O_q14z) (L_q14z) dorcNil ⟨[], [], []⟩ [.tmp 2] C_q14z x = q14z x := by kernel_rfl
omit [UDef] [UTabs] in
theorem ok_q14z : Contract Tryz.prog 68 F_q14z (q14z) :=
  Contract.of_ev (c := C_q14z) (N := 14) Tryz.func68 (by kernel_rfl) (by kernel_rfl) (by kernel_rfl) (by kernel_rfl) (O_q14z_ok) dorcNil_ok (.of (l := []) (by kernel_rfl) trivial) (e_q14z)
noncomputable def F_q23z : FnT := ⟨3, ⟨[(0, .ptr 1000000 0), (1, .ptr 1000016 0), (2, .ptr 1000032 0)], [], [(1000000, .box [.d .bool, .d (.lst .u32)]), (1000016, .box [.d .bool, .d (.lst .u32)]), (1000032, .box [.d .bool, .d (.lst .u32)])]⟩, [.ref (.ptr 1000000 0)], [(1000000, .box [.d .bool, .d (.lst .u32)]), (1000016, .box [.d .bool, .d (.lst .u32)]), (1000032, .box [.d .bool, .d (.lst .u32)])]⟩
noncomputable def C_q23z : Code := bodyOf Tryz.f65
noncomputable def M_q23z : List (Nat × ArgM) := [(999999999, ⟨[1], [], [], false⟩), (95, ⟨[0], [], [], false⟩)]
instance : DfOk M_q23z := .none rfl
noncomputable def O_q23z {ρ : Type} (n : Nat) : Orc ρ := orcCons 96 F_q52z (q52z n) (orcCons 95 F_q18z (q18z) (orcNil))
omit [UDef] [UTabs] in
theorem O_q23z_ok {ρ : Type} (n : Nat) : (O_q23z n : Orc ρ).ok Tryz.prog := orcCons_ok (by kernel_rfl) (ok_q52z n) (orcCons_ok (by kernel_rfl) (ok_q18z) (orcNil_ok))
noncomputable def L_q23z {ρ : Type} (n : Nat) : LOrc ρ := lorcNil
omit [Tabs] [QuietD Tryz.prog] [UDef] [UTabs] in
theorem e_q23z (n : Nat) (x) : evF Tryz.prog 29 TT M_q23z F_q23z (O_q23z n) (L_q23z n) (evDraw Tryz.prog 29 TT M_q23z (O_q23z n)) ⟨[], [], []⟩ [.tmp 6] C_q23z x = q23z n x := by kernel_rfl
omit [UDef] [UTabs] in
theorem ok_q23z (n : Nat) : Contract Tryz.prog 65 F_q23z (q23z n) :=
  Contract.of_ev (c := C_q23z) (N := 29) Tryz.func65 (by kernel_rfl) (by kernel_rfl) (by kernel_rfl) (by kernel_rfl) (O_q23z_ok n) (evDraw_ok (O_q23z_ok n) (by kernel_rfl)) (.of (l := []) (by kernel_rfl) trivial) (e_q23z n)
noncomputable def F_q22z : FnT := ⟨3, ⟨[(0, .ptr 1000000 0), (1, .ptr 1000016 0), (2, .ptr 1000032 0)], [], [(1000000, .box [.d .bool, .d (.lst .u32)]), (1000016, .box [.d .bool, .d (.lst .u32)]), (1000032, .box [.d .bool, .d (.lst .u32)])]⟩, [.ref (.ptr 1000000 0)], [(1000000, .box [.d .bool, .d (.lst .u32)]), (1000016, .box [.d .bool, .d (.lst .u32)]), (1000032, .box [.d .bool, .d (.lst .u32)])]⟩
noncomputable def F_q50z : FnT := ⟨2, ⟨[], [(0, (.lst .u32)), (1, (.lst .u32))], []⟩, [.v (.lst .u32)], []⟩
noncomputable def C_q50z : Code := bodyOf Tryz.f97
noncomputable def M_q50z : List (Nat × ArgM) := [(999999999, ⟨[1], [], [], false⟩)]
instance : DfOk M_q50z := .none rfl
noncomputable def O_q50z {ρ : Type} (n : Nat) : Orc ρ := orcCons 129 F_q43z (q43z n) (orcNil)
omit [UDef] [UTabs] in
theorem O_q50z_ok {ρ : Type} (n : Nat) : (O_q50z n : Orc ρ).ok Tryz.prog := orcCons_ok (by kernel_rfl) (ok_q43z n) (orcNil_ok)
noncomputable def T_q50z_s2 : Tm := ⟨[(5, .own 22)], [(0, (.lst .u32)), (1, (.lst .u32)), (6, .i64), (7, .u64), (8, .i64)], [(22, .arr 147 .u32)]⟩
noncomputable def X_q50z_s2 : Tm := ⟨[(5, .own 22)], [(0, (.lst .u32)), (1, (.lst .u32)), (6, .i64), (7, .u64)], [(22, .arr 147 .u32)]⟩
noncomputable def R_q50z_s2 : Tm := ⟨[], [], []⟩
noncomputable def L_q50z_s2 {ρ : Type} (n : Nat) : LOrc ρ := lorcNil
omit [Tabs] [QuietD Tryz.prog] [UDef] [UTabs] in
theorem s_q50z_s2 {ρ : Type} (n : Nat) (rec : T_q50z_s2.den → Option ρ) kx kr s : dStep Tryz.prog 75 TT M_q50z (O_q50z n) (L_q50z_s2 n) (evDraw Tryz.prog 75 TT M_q50z (O_q50z n)) 2 (lbody 0 (lbody 1000 C_q50z 0) 0) T_q50z_s2 X_q50z_s2 R_q50z_s2 ⟨[], [], []⟩ rec kx kr s = q50z_s2 n rec kx kr s := by kernel_rfl
noncomputable def T_q50z_s0 : Tm := ⟨[(5, .own 22)], [(0, (.lst .u32)), (1, (.lst .u32)), (6, .i64)], [(22, .arr 147 .u32)]⟩
noncomputable def X_q50z_s0 : Tm := ⟨[(5, .own 22)], [], [(22, .arr 147 .u32)]⟩
noncomputable def R_q50z_s0 : Tm := ⟨[], [], []⟩
noncomputable def L_q50z_s0 {ρ : Type} (n : Nat) : LOrc ρ := lorcCons 2 (loopL 75 2 n T_q50z_s2 X_q50z_s2 R_q50z_s2 ⟨[], [], []⟩ (q50z_s2 n)) (lorcNil)
omit [Tabs] [QuietD Tryz.prog] [UDef] [UTabs] in
theorem s_q50z_s0 {ρ : Type} (n : Nat) (rec : T_q50z_s0.den → Option ρ) kx kr s : dStep Tryz.prog 75 TT M_q50z (O_q50z n) (L_q50z_s0 n) (evDraw Tryz.prog 75 TT M_q50z (O_q50z n)) 0 (lbody 1000 C_q50z 0) T_q50z_s0 X_q50z_s0 R_q50z_s0 ⟨[], [], []⟩ rec kx kr s = q50z_s0 n rec kx kr s := by kernel_rfl
noncomputable def L_q50z {ρ : Type} (n : Nat) : LOrc ρ := lorcCons 0 (loopL 75 0 n T_q50z_s0 X_q50z_s0 R_q50z_s0 ⟨[], [], []⟩ (q50z_s0 n)) (lorcNil)
omit [Tabs] [QuietD Tryz.prog] [UDef] [UTabs] in
theorem e_q50z (n : Nat) (x) : evF Tryz.prog 75 TT M_q50z F_q50z (O_q50z n) (L_q50z n) (evDraw Tryz.prog 75 TT M_q50z (O_q50z n)) ⟨[], [], []⟩ [.tmp 4] C_q50z x = q50z n x := by kernel_rfl
omit [UDef] [UTabs] in
theorem ok_q50z (n : Nat) : Contract Tryz.prog 97 F_q50z (q50z n) :=
  Contract.of_ev (c := C_q50z) (N := 75) Tryz.func97 (by kernel_rfl) (by kernel_rfl) (by kernel_rfl) (by kernel_rfl) (O_q50z_ok n) (evDraw_ok (O_q50z_ok n) (by kernel_rfl)) (.of (l := [(0, (lbody 1000 C_q50z 0))]) (by kernel_rfl) ⟨.head (loopL_sound (O_q50z_ok n) (evDraw_ok (O_q50z_ok n) (by kernel_rfl)) (.of (l := [(2, (lbody 0 (lbody 1000 C_q50z 0) 0))]) (by kernel_rfl) ⟨.head (loopL_sound (O_q50z_ok n) (evDraw_ok (O_q50z_ok n) (by kernel_rfl)) (.of (l := []) (by kernel_rfl) trivial) (s_q50z_s2 n)), trivial⟩) (s_q50z_s0 n)), trivial⟩) (e_q50z n)
noncomputable def C_q22z : Code := bodyOf Tryz.f66
noncomputable def M_q22z : List (Nat × ArgM) := [(999999999, ⟨[1], [], [], false⟩), (95, ⟨[0], [], [], false⟩)]
instance : DfOk M_q22z := .none rfl
noncomputable def O_q22z {ρ : Type} (n : Nat) : Orc ρ := orcCons 97 F_q50z (q50z n) (orcCons 95 F_q18z (q18z) (orcNil))
omit [UDef] [UTabs] in
theorem O_q22z_ok {ρ : Type} (n : Nat) : (O_q22z n : Orc ρ).ok Tryz.prog := orcCons_ok (by kernel_rfl) (ok_q50z n) (orcCons_ok (by kernel_rfl) (ok_q18z) (orcNil_ok))
noncomputable def L_q22z {ρ : Type} (n : Nat) : LOrc ρ := lorcNil
omit [Tabs] [QuietD Tryz.prog] [UDef] [UTabs] in
theorem e_q22z (n : Nat) (x) : evF Tryz.prog 27 TT M_q22z F_q22z (O_q22z n) (L_q22z n) (evDraw Tryz.prog 27 TT M_q22z (O_q22z n)) ⟨[], [], []⟩ [.tmp 6] C_q22z x = q22z n x := by kernel_rfl
omit [UDef] [UTabs] in
theorem ok_q22z (n : Nat) : Contract Tryz.prog 66 F_q22z (q22z n) :=
  Contract.of_ev (c := C_q22z) (N := 27) Tryz.func66 (by kernel_rfl) (by kernel_rfl) (by kernel_rfl) (by kernel_rfl) (O_q22z_ok n) (evDraw_ok (O_q22z_ok n) (by kernel_rfl)) (.of (l := []) (by kernel_rfl) trivial) (e_q22z n)
noncomputable def C_q20z : Code := bodyOf Tryz.f35
noncomputable def M_q20z : List (Nat × ArgM) := [(64, ⟨[0, 1, 2], [], [], false⟩), (65, ⟨[0, 1, 2], [], [], false⟩), (66, ⟨[0, 1, 2], [], [], false⟩), (67, ⟨[0], [], [], false⟩), (68, ⟨[0], [], [], false⟩), (63, ⟨[], [], [3], false⟩)]
instance : DfOk M_q20z := .none rfl
noncomputable def O_q20z {ρ : Type} (n : Nat) : Orc ρ := orcCons 63 F_q26z (q26z n) (orcCons 64 F_q21z (q21z n) (orcCons 67 F_q7z (q7z n) (orcCons 68 F_q14z (q14z) (orcCons 65 F_q23z (q23z n) (orcCons 66 F_q22z (q22z n) (orcNil))))))
omit [UDef] [UTabs] in
theorem O_q20z_ok {ρ : Type} (n : Nat) : (O_q20z n : Orc ρ).ok Tryz.prog := orcCons_ok (by kernel_rfl) (ok_q26z n) (orcCons_ok (by kernel_rfl) (ok_q21z n) (orcCons_ok (by kernel_rfl) (ok_q7z n) (orcCons_ok (by kernel_rfl) (ok_q14z) (orcCons_ok (by kernel_rfl) (ok_q23z n) (orcCons_ok (by kernel_rfl) (ok_q22z n) (orcNil_ok))))))
noncomputable def L_q20z {ρ : Type} (n : Nat) : LOrc ρ := lorcNil
omit [Tabs] [QuietD Tryz.prog] [UDef] [UTabs] in
theorem e_q20z (n : Nat) (x) : evF Tryz.prog 124 TT M_q20z F_q20z (O_q20z n) (L_q20z n) (evDraw Tryz.prog 124 TT M_q20z (O_q20z n)) ⟨[], [], []⟩ [.cell 6 30, .tmp 7] C_q20z x = q20z n x := by kernel_rfl
omit [UDef] [UTabs] in
theorem ok_q20z (n : Nat) : Contract Tryz.prog 35 F_q20z (q20z n) :=
  Contract.of_ev (c := C_q20z) (N := 124) Tryz.func35 (by kernel_rfl) (by kernel_rfl) (by kernel_rfl) (by kernel_rfl) (O_q20z_ok n) (evDraw_ok (O_q20z_ok n) (by kernel_rfl)) (.of (l := []) (by kernel_rfl) trivial) (e_q20z n)
noncomputable def F_q38z : FnT := ⟨1, ⟨[], [(0, .val)], []⟩, [.v .bool], []⟩
noncomputable def C_q38z : Code := bodyOf Tryz.f36
noncomputable def M_q38z : List (Nat × ArgM) := [(29, ⟨[], [], [], true⟩)]
instance : DfOk M_q38z := .none rfl
noncomputable def O_q38z {ρ : Type} (n : Nat) : Orc ρ := orcCons 29 F_q12z (q12z n) (orcNil)
omit [UDef] in
theorem O_q38z_ok {ρ : Type} (n : Nat) : (O_q38z n : Orc ρ).ok Tryz.prog := orcCons_ok (by kernel_rfl) (ok_q12z n) (orcNil_ok)
noncomputable def L_q38z {ρ : Type} (n : Nat) : LOrc ρ := lorcNil
omit [Tabs] [QuietD Tryz.prog] [UDef] [UTabs] in
theorem e_q38z (n : Nat) (x) : evF Tryz.prog 6 TT M_q38z F_q38z (O_q38z n) (L_q38z n) dorcNil ⟨[], [], []⟩ [.tmp 2] C_q38z x = q38z n x := by kernel_rfl
omit [UDef] in
theorem ok_q38z (n : Nat) : Contract Tryz.prog 36 F_q38z (q38z n) :=
  Contract.of_ev (c := C_q38z) (N := 6) Tryz.func36 (by kernel_rfl) (by kernel_rfl) (by kernel_rfl) (by kernel_rfl) (O_q38z_ok n) dorcNil_ok (.of (l := []) (by kernel_rfl) trivial) (e_q38z n)
noncomputable def F_q35z : FnT := ⟨2, ⟨[], [(0, .val), (1, .val)], []⟩, [.v .val], []⟩
noncomputable def C_q35z : Code := bodyOf Tryz.f37
noncomputable def M_q35z : List (Nat × ArgM) := [(12, ⟨[], [], [], true⟩)]
instance : DfOk M_q35z := .none rfl
noncomputable def O_q35z {ρ : Type} (self_q35z : Ev.Val × Ev.Val × Unit → Option (Ev.Val × Unit)) (n : Nat) : Orc ρ := orcCons 30 F_q39z (q39z) (orcCons 37 F_q35z (self_q35z) (orcCons 12 F_q16z (q16z n) (orcNil)))
omit [UDef] [UTabs] in
theorem O_q35z_ok {ρ : Type} (self_q35z : Ev.Val × Ev.Val × Unit → Option (Ev.Val × Unit)) (h_q35z : Contract Tryz.prog 37 F_q35z self_q35z) (n : Nat) : (O_q35z self_q35z n : Orc ρ).ok Tryz.prog := orcCons_ok (by kernel_rfl) (ok_q39z) (orcCons_ok (by kernel_rfl) (h_q35z) (orcCons_ok (by kernel_rfl) (ok_q16z n) (orcNil_ok)))
noncomputable def T_q35z_s0 : Tm := ⟨[(2, .ptr 2 0), (3, .ptr 3 0), (4, .ptr 4 0)], [(5, .bool), (35, .i64), (36, .i64)], [(2, .box [.d .val]), (3, .box [.d .val]), (4, .box [.d .val])]⟩
noncomputable def X_q35z_s0 : Tm := ⟨[(4, .ptr 4 0)], [(5, .bool)], [(4, .box [.d .val])]⟩
noncomputable def R_q35z_s0 : Tm := ⟨[(4, .ptr 4 0)], [], [(4, .box [.d .val])]⟩
noncomputable def L_q35z_s0 {ρ : Type} (self_q35z : Ev.Val × Ev.Val × Unit → Option (Ev.Val × Unit)) (n : Nat) : LOrc ρ := lorcNil
omit [Tabs] [QuietD Tryz.prog] [UDef] [UTabs] in
theorem s_q35z_s0 {ρ : Type} (self_q35z : Ev.Val × Ev.Val × Unit → Option (Ev.Val × Unit)) (n : Nat) (rec : T_q35z_s0.den → Option ρ) kx kr s : dStep Tryz.prog 68 TT M_q35z (O_q35z self_q35z n) (L_q35z_s0 self_q35z n) (evDraw Tryz.prog 68 TT M_q35z (O_q35z self_q35z n)) 0 (lbody 1000 C_q35z 0) T_q35z_s0 X_q35z_s0 R_q35z_s0 ⟨[], [], []⟩ rec kx kr s = q35z_s0 self_q35z n rec kx kr s := by kernel_rfl
noncomputable def L_q35z {ρ : Type} (self_q35z : Ev.Val × Ev.Val × Unit → Option (Ev.Val × Unit)) (n : Nat) : LOrc ρ := lorcCons 0 (loopL 68 0 n T_q35z_s0 X_q35z_s0 R_q35z_s0 ⟨[], [], []⟩ (q35z_s0 self_q35z n)) (lorcNil)
omit [Tabs] [QuietD Tryz.prog] [UDef] [UTabs] in
theorem e_q35z (self_q35z : Ev.Val × Ev.Val × Unit → Option (Ev.Val × Unit)) (n : Nat) (x) : evF Tryz.prog 68 TT M_q35z F_q35z (O_q35z self_q35z n) (L_q35z self_q35z n) (evDraw Tryz.prog 68 TT M_q35z (O_q35z self_q35z n)) ⟨[], [], []⟩ [.cell 4 30] C_q35z x = q35z_b self_q35z n x := by kernel_rfl
omit [UDef] [UTabs] in
theorem okb_q35z (self_q35z : Ev.Val × Ev.Val × Unit → Option (Ev.Val × Unit)) (h_q35z : Contract Tryz.prog 37 F_q35z self_q35z) (n : Nat) : Contract Tryz.prog 37 F_q35z (q35z_b self_q35z n) :=
  Contract.of_ev (c := C_q35z) (N := 68) Tryz.func37 (by kernel_rfl) (by kernel_rfl) (by kernel_rfl) (by kernel_rfl) (O_q35z_ok self_q35z h_q35z n) (evDraw_ok (O_q35z_ok self_q35z h_q35z n) (by kernel_rfl)) (.of (l := [(0, (lbody 1000 C_q35z 0))]) (by kernel_rfl) ⟨.head (loopL_sound (O_q35z_ok self_q35z h_q35z n) (evDraw_ok (O_q35z_ok self_q35z h_q35z n) (by kernel_rfl)) (.of (l := []) (by kernel_rfl) trivial) (s_q35z_s0 self_q35z n)), trivial⟩) (e_q35z self_q35z n)
omit [UDef] [UTabs] in
theorem ok_q35z : ∀ n, Contract Tryz.prog 37 F_q35z (q35z n)
  | 0 => fun _ _ h => by cases h
  | n + 1 => okb_q35z _ (ok_q35z n) n
noncomputable def F_q32z : FnT := ⟨2, ⟨[], [(0, .val), (1, .val)], []⟩, [.v .val], []⟩
noncomputable def C_q32z : Code := bodyOf Tryz.f38
noncomputable def M_q32z : List (Nat × ArgM) := [(33, ⟨[], [], [], true⟩)]
instance : DfOk M_q32z := .none rfl
noncomputable def O_q32z {ρ : Type} (n : Nat) : Orc ρ := orcCons 30 F_q39z (q39z) (orcCons 33 F_q24z (q24z n) (orcNil))
omit [UDef] [UTabs] in
theorem O_q32z_ok {ρ : Type} (n : Nat) : (O_q32z n : Orc ρ).ok Tryz.prog := orcCons_ok (by kernel_rfl) (ok_q39z) (orcCons_ok (by kernel_rfl) (ok_q24z n) (orcNil_ok))
noncomputable def L_q32z {ρ : Type} (n : Nat) : LOrc ρ := lorcNil
omit [Tabs] [QuietD Tryz.prog] [UDef] [UTabs] in
theorem e_q32z (n : Nat) (x) : evF Tryz.prog 27 TT M_q32z F_q32z (O_q32z n) (L_q32z n) dorcNil ⟨[], [], []⟩ [.cell 4 30] C_q32z x = q32z n x := by kernel_rfl
omit [UDef] [UTabs] in
theorem ok_q32z (n : Nat) : Contract Tryz.prog 38 F_q32z (q32z n) :=
  Contract.of_ev (c := C_q32z) (N := 27) Tryz.func38 (by kernel_rfl) (by kernel_rfl) (by kernel_rfl) (by kernel_rfl) (O_q32z_ok n) dorcNil_ok (.of (l := []) (by kernel_rfl) trivial) (e_q32z n)
noncomputable def F_q40z : FnT := ⟨1, ⟨[], [(0, .val)], []⟩, [.v .i64], []⟩
noncomputable def C_q40z : Code := bodyOf Tryz.f39
noncomputable def M_q40z : List (Nat × ArgM) := []
instance : DfOk M_q40z := .none rfl
noncomputable def O_q40z {ρ : Type} : Orc ρ := orcNil
omit [QuietD Tryz.prog] [UDef] [UTabs] in
theorem O_q40z_ok {ρ : Type} : (O_q40z : Orc ρ).ok Tryz.prog := orcNil_ok
noncomputable def L_q40z {ρ : Type} : LOrc ρ := lorcNil
omit [Tabs] [QuietD Tryz.prog] [UDef] [UTabs] in
theorem e_q40z (x) : evF Tryz.prog 8 TT M_q40z F_q40z (O_q40z) (L_q40z) dorcNil ⟨[], [], []⟩ [.tmp 2] C_q40z x = q40z x := by kernel_rfl
omit [UDef] [UTabs] in
theorem ok_q40z : Contract Tryz.prog 39 F_q40z (q40z) :=
  Contract.of_ev (c := C_q40z) (N := 8) Tryz.func39 (by kernel_rfl) (by kernel_rfl) (by kernel_rfl) (by kernel_rfl) (O_q40z_ok) dorcNil_ok (.of (l := []) (by kernel_rfl) trivial) (e_q40z)
noncomputable def C_q17z : Code := bodyOf Tryz.f13
noncomputable def M_q17z : List (Nat × ArgM) := [(36, ⟨[], [], [], true⟩), (39, ⟨[], [], [], true⟩)]
instance : DfOk M_q17z := .none rfl
noncomputable def O_q17z {ρ : Type} (self_q17z : Ev.Graph × (List (ByteArray × Int)) × Ev.Term × Unit → Option (Ev.Val × Unit)) (n : Nat) : Orc ρ := orcCons 7 F_q33z (q33z n) (orcCons 8 F_q29z (q29z n) (orcCons 34 F_q34z (q34z n) (orcCons 13 F_q17z (self_q17z) (orcCons 35 F_q20z (q20z n) (orcCons 36 F_q38z (q38z n) (orcCons 37 F_q35z (q35z n) (orcCons 38 F_q32z (q32z n) (orcCons 39 F_q40z (q40z) (orcCons 30 F_q39z (q39z) (orcNil))))))))))
omit [UDef] in
theorem O_q17z_ok {ρ : Type} (self_q17z : Ev.Graph × (List (ByteArray × Int)) × Ev.Term × Unit → Option (Ev.Val × Unit)) (h_q17z : Contract Tryz.prog 13 F_q17z self_q17z) (n : Nat) : (O_q17z self_q17z n : Orc ρ).ok Tryz.prog := orcCons_ok (by kernel_rfl) (ok_q33z n) (orcCons_ok (by kernel_rfl) (ok_q29z n) (orcCons_ok (by kernel_rfl) (ok_q34z n) (orcCons_ok (by kernel_rfl) (h_q17z) (orcCons_ok (by kernel_rfl) (ok_q20z n) (orcCons_ok (by kernel_rfl) (ok_q38z n) (orcCons_ok (by kernel_rfl) (ok_q35z n) (orcCons_ok (by kernel_rfl) (ok_q32z n) (orcCons_ok (by kernel_rfl) (ok_q40z) (orcCons_ok (by kernel_rfl) (ok_q39z) (orcNil_ok))))))))))
noncomputable def T_q17z_s0 : Tm := ⟨[(3, .ptr 3 0), (5, .ptr 5 0), (6, .ptr 6 0), (10, .own 10)], [(1, (.map .str .i64)), (73, (.lst .term)), (74, .i64), (75, .i64)], [(3, .box [.d .graph]), (5, .box [.d .term]), (6, .box [.d .val]), (10, .arr 30 .val)]⟩
noncomputable def X_q17z_s0 : Tm := ⟨[(3, .ptr 3 0), (5, .ptr 5 0), (6, .ptr 6 0), (10, .own 10)], [], [(3, .box [.d .graph]), (5, .box [.d .term]), (6, .box [.d .val]), (10, .arr 30 .val)]⟩
noncomputable def R_q17z_s0 : Tm := ⟨[], [], []⟩
noncomputable def L_q17z_s0 {ρ : Type} (self_q17z : Ev.Graph × (List (ByteArray × Int)) × Ev.Term × Unit → Option (Ev.Val × Unit)) (n : Nat) : LOrc ρ := lorcNil
omit [Tabs] [QuietD Tryz.prog] [UDef] [UTabs] in
theorem s_q17z_s0 {ρ : Type} (self_q17z : Ev.Graph × (List (ByteArray × Int)) × Ev.Term × Unit → Option (Ev.Val × Unit)) (n : Nat) (rec : T_q17z_s0.den → Option ρ) kx kr s : dStep Tryz.prog 324 TT M_q17z (O_q17z self_q17z n) (L_q17z_s0 self_q17z n) (evDraw Tryz.prog 324 TT M_q17z (O_q17z self_q17z n)) 0 (lbody 1000 C_q17z 0) T_q17z_s0 X_q17z_s0 R_q17z_s0 ⟨[], [(10, 10, 30, 4)], []⟩ rec kx kr s = q17z_s0 self_q17z n rec kx kr s := by kernel_rfl
noncomputable def T_q17z_s3 : Tm := ⟨[(6, .ptr 6 0)], [(10, (.lst .val)), (13, (.lst .i64)), (14, (.lst .i64)), (17, .i64), (220, (.lst .val)), (221, .i64), (222, .i64)], [(6, .box [.d .val])]⟩
noncomputable def X_q17z_s3 : Tm := ⟨[(6, .ptr 6 0)], [(14, (.lst .i64)), (17, .i64)], [(6, .box [.d .val])]⟩
noncomputable def R_q17z_s3 : Tm := ⟨[], [], []⟩
noncomputable def L_q17z_s3 {ρ : Type} (self_q17z : Ev.Graph × (List (ByteArray × Int)) × Ev.Term × Unit → Option (Ev.Val × Unit)) (n : Nat) : LOrc ρ := lorcNil
omit [Tabs] [QuietD Tryz.prog] [UDef] [UTabs] in
theorem s_q17z_s3 {ρ : Type} (self_q17z : Ev.Graph × (List (ByteArray × Int)) × Ev.Term × Unit → Option (Ev.Val × Unit)) (n : Nat) (rec : T_q17z_s3.den → Option ρ) kx kr s : dStep Tryz.prog 324 TT M_q17z (O_q17z self_q17z n) (L_q17z_s3 self_q17z n) (evDraw Tryz.prog 324 TT M_q17z (O_q17z self_q17z n)) 3 (lbody 1000 C_q17z 1) T_q17z_s3 X_q17z_s3 R_q17z_s3 ⟨[87, 88], [], []⟩ rec kx kr s = q17z_s3 self_q17z n rec kx kr s := by kernel_rfl
noncomputable def T_q17z_s5 : Tm := ⟨[(6, .ptr 6 0), (254, .ptr 254 0)], [(20, .i64)], [(6, .box [.d .val]), (254, .it)]⟩
noncomputable def X_q17z_s5 : Tm := ⟨[(6, .ptr 6 0)], [(20, .i64)], [(6, .box [.d .val])]⟩
noncomputable def R_q17z_s5 : Tm := ⟨[], [], []⟩
noncomputable def L_q17z_s5 {ρ : Type} (self_q17z : Ev.Graph × (List (ByteArray × Int)) × Ev.Term × Unit → Option (Ev.Val × Unit)) (n : Nat) : LOrc ρ := lorcNil
omit [Tabs] [QuietD Tryz.prog] [UDef] [UTabs] in
theorem s_q17z_s5 {ρ : Type} (self_q17z : Ev.Graph × (List (ByteArray × Int)) × Ev.Term × Unit → Option (Ev.Val × Unit)) (n : Nat) (rec : T_q17z_s5.den → Option ρ) kx kr s : dStep Tryz.prog 324 TT M_q17z (O_q17z self_q17z n) (L_q17z_s5 self_q17z n) (evDraw Tryz.prog 324 TT M_q17z (O_q17z self_q17z n)) 5 (lbody 1000 C_q17z 2) T_q17z_s5 X_q17z_s5 R_q17z_s5 ⟨[], [], []⟩ rec kx kr s = q17z_s5 self_q17z n rec kx kr s := by kernel_rfl
noncomputable def T_q17z_s7 : Tm := ⟨[(6, .ptr 6 0)], [(288, (.lst .val)), (289, .i64), (290, .i64)], [(6, .box [.d .val])]⟩
noncomputable def X_q17z_s7 : Tm := ⟨[(6, .ptr 6 0)], [], [(6, .box [.d .val])]⟩
noncomputable def R_q17z_s7 : Tm := ⟨[(6, .ptr 6 0)], [], [(6, .box [.d .val])]⟩
noncomputable def L_q17z_s7 {ρ : Type} (self_q17z : Ev.Graph × (List (ByteArray × Int)) × Ev.Term × Unit → Option (Ev.Val × Unit)) (n : Nat) : LOrc ρ := lorcNil
omit [Tabs] [QuietD Tryz.prog] [UDef] [UTabs] in
theorem s_q17z_s7 {ρ : Type} (self_q17z : Ev.Graph × (List (ByteArray × Int)) × Ev.Term × Unit → Option (Ev.Val × Unit)) (n : Nat) (rec : T_q17z_s7.den → Option ρ) kx kr s : dStep Tryz.prog 324 TT M_q17z (O_q17z self_q17z n) (L_q17z_s7 self_q17z n) (evDraw Tryz.prog 324 TT M_q17z (O_q17z self_q17z n)) 7 (lbody 1000 C_q17z 3) T_q17z_s7 X_q17z_s7 R_q17z_s7 ⟨[10], [], []⟩ rec kx kr s = q17z_s7 self_q17z n rec kx kr s := by kernel_rfl
noncomputable def L_q17z {ρ : Type} (self_q17z : Ev.Graph × (List (ByteArray × Int)) × Ev.Term × Unit → Option (Ev.Val × Unit)) (n : Nat) : LOrc ρ := lorcCons 0 (loopL 324 0 n T_q17z_s0 X_q17z_s0 R_q17z_s0 ⟨[], [(10, 10, 30, 4)], []⟩ (q17z_s0 self_q17z n)) (lorcCons 3 (loopL 324 3 n T_q17z_s3 X_q17z_s3 R_q17z_s3 ⟨[87, 88], [], []⟩ (q17z_s3 self_q17z n)) (lorcCons 5 (loopL 324 5 n T_q17z_s5 X_q17z_s5 R_q17z_s5 ⟨[], [], []⟩ (q17z_s5 self_q17z n)) (lorcCons 7 (loopL 324 7 n T_q17z_s7 X_q17z_s7 R_q17z_s7 ⟨[10], [], []⟩ (q17z_s7 self_q17z n)) (lorcNil))))
omit [Tabs] [QuietD Tryz.prog] [UDef] [UTabs] in
theorem e_q17z (self_q17z : Ev.Graph × (List (ByteArray × Int)) × Ev.Term × Unit → Option (Ev.Val × Unit)) (n : Nat) (x) : evF Tryz.prog 324 TT M_q17z F_q17z (O_q17z self_q17z n) (L_q17z self_q17z n) (evDraw Tryz.prog 324 TT M_q17z (O_q17z self_q17z n)) ⟨[], [], []⟩ [.cell 6 30] C_q17z x = q17z_b self_q17z n x := by kernel_rfl
omit [UDef] in
theorem okb_q17z (self_q17z : Ev.Graph × (List (ByteArray × Int)) × Ev.Term × Unit → Option (Ev.Val × Unit)) (h_q17z : Contract Tryz.prog 13 F_q17z self_q17z) (n : Nat) : Contract Tryz.prog 13 F_q17z (q17z_b self_q17z n) :=
  Contract.of_ev (c := C_q17z) (N := 324) Tryz.func13 (by kernel_rfl) (by kernel_rfl) (by kernel_rfl) (by kernel_rfl) (O_q17z_ok self_q17z h_q17z n) (evDraw_ok (O_q17z_ok self_q17z h_q17z n) (by kernel_rfl)) (.of (l := [(0, (lbody 1000 C_q17z 0)), (3, (lbody 1000 C_q17z 1)), (5, (lbody 1000 C_q17z 2)), (7, (lbody 1000 C_q17z 3))]) (by kernel_rfl) ⟨.head (loopL_sound (O_q17z_ok self_q17z h_q17z n) (evDraw_ok (O_q17z_ok self_q17z h_q17z n) (by kernel_rfl)) (.of (l := []) (by kernel_rfl) trivial) (s_q17z_s0 self_q17z n)), ⟨.tail rfl (.head (loopL_sound (O_q17z_ok self_q17z h_q17z n) (evDraw_ok (O_q17z_ok self_q17z h_q17z n) (by kernel_rfl)) (.of (l := []) (by kernel_rfl) trivial) (s_q17z_s3 self_q17z n))), ⟨.tail rfl (.tail rfl (.head (loopL_sound (O_q17z_ok self_q17z h_q17z n) (evDraw_ok (O_q17z_ok self_q17z h_q17z n) (by kernel_rfl)) (.of (l := []) (by kernel_rfl) trivial) (s_q17z_s5 self_q17z n)))), ⟨.tail rfl (.tail rfl (.tail rfl (.head (loopL_sound (O_q17z_ok self_q17z h_q17z n) (evDraw_ok (O_q17z_ok self_q17z h_q17z n) (by kernel_rfl)) (.of (l := []) (by kernel_rfl) trivial) (s_q17z_s7 self_q17z n))))), trivial⟩⟩⟩⟩) (e_q17z self_q17z n)
omit [UDef] in
theorem ok_q17z : ∀ n, Contract Tryz.prog 13 F_q17z (q17z n)
  | 0 => fun _ _ h => by cases h
  | n + 1 => okb_q17z _ (ok_q17z n) n
noncomputable def C_q19z : Code := bodyOf Tryz.f3
noncomputable def M_q19z : List (Nat × ArgM) := [(6, ⟨[], [], [], true⟩), (9, ⟨[], [], [], true⟩), (10, ⟨[], [], [], true⟩), (11, ⟨[], [], [], true⟩), (12, ⟨[], [], [], true⟩)]
instance : DfOk M_q19z := .none rfl
noncomputable def O_q19z {ρ : Type} (n : Nat) : Orc ρ := orcCons 5 F_term_Eval (term_Eval n) (orcCons 6 F_q10z (q10z n) (orcCons 7 F_q33z (q33z n) (orcCons 8 F_q29z (q29z n) (orcCons 9 F_q15z (q15z n) (orcCons 10 F_q28z (q28z n) (orcCons 11 F_q44z (q44z n) (orcCons 13 F_q17z (q17z n) (orcCons 12 F_q16z (q16z n) (orcNil)))))))))
omit [UDef] in
theorem O_q19z_ok {ρ : Type} (n : Nat) : (O_q19z n : Orc ρ).ok Tryz.prog := orcCons_ok (by kernel_rfl) (ok_term_Eval n) (orcCons_ok (by kernel_rfl) (ok_q10z n) (orcCons_ok (by kernel_rfl) (ok_q33z n) (orcCons_ok (by kernel_rfl) (ok_q29z n) (orcCons_ok (by kernel_rfl) (ok_q15z n) (orcCons_ok (by kernel_rfl) (ok_q28z n) (orcCons_ok (by kernel_rfl) (ok_q44z n) (orcCons_ok (by kernel_rfl) (ok_q17z n) (orcCons_ok (by kernel_rfl) (ok_q16z n) (orcNil_ok)))))))))
noncomputable def T_q19z_s0 : Tm := ⟨[(4, .ptr 4 0), (7, .ptr 7 0), (9, .ptr 9 0), (12, .mpr 40), (13, .mpr 41)], [(1, (.lst .str)), (2, (.lst .i64)), (10, .i64), (11, .i64), (14, .i64)], [(4, .box [.d .graph]), (7, .box [.d .term]), (9, .box [.d .val]), (40, .mp 38 .str .i64 true), (41, .mp 38 .str .i64 true)]⟩
noncomputable def X_q19z_s0 : Tm := ⟨[(4, .ptr 4 0), (7, .ptr 7 0), (9, .ptr 9 0), (12, .mpr 40), (13, .mpr 41)], [(10, .i64), (11, .i64)], [(4, .box [.d .graph]), (7, .box [.d .term]), (9, .box [.d .val]), (40, .mp 38 .str .i64 true), (41, .mp 38 .str .i64 true)]⟩
noncomputable def R_q19z_s0 : Tm := ⟨[], [], []⟩
noncomputable def L_q19z_s0 {ρ : Type} (n : Nat) : LOrc ρ := lorcNil
omit [Tabs] [QuietD Tryz.prog] [UDef] [UTabs] in
theorem s_q19z_s0 {ρ : Type} (n : Nat) (rec : T_q19z_s0.den → Option ρ) kx kr s : dStep Tryz.prog 127 TT M_q19z (O_q19z n) (L_q19z_s0 n) (evDraw Tryz.prog 127 TT M_q19z (O_q19z n)) 0 (lbody 1000 C_q19z 0) T_q19z_s0 X_q19z_s0 R_q19z_s0 ⟨[], [], []⟩ rec kx kr s = q19z_s0 n rec kx kr s := by kernel_rfl
noncomputable def L_q19z {ρ : Type} (n : Nat) : LOrc ρ := lorcCons 0 (loopL 127 0 n T_q19z_s0 X_q19z_s0 R_q19z_s0 ⟨[], [], []⟩ (q19z_s0 n)) (lorcNil)
omit [Tabs] [QuietD Tryz.prog] [UDef] [UTabs] in
theorem e_q19z (n : Nat) (x) : evF Tryz.prog 127 TT M_q19z F_q19z (O_q19z n) (L_q19z n) (evDraw Tryz.prog 127 TT M_q19z (O_q19z n)) ⟨[], [], []⟩ [.tmp 8] C_q19z x = q19z n x := by kernel_rfl
omit [UDef] in
theorem ok_q19z (n : Nat) : Contract Tryz.prog 3 F_q19z (q19z n) :=
  Contract.of_ev (c := C_q19z) (N := 127) Tryz.func3 (by kernel_rfl) (by kernel_rfl) (by kernel_rfl) (by kernel_rfl) (O_q19z_ok n) (evDraw_ok (O_q19z_ok n) (by kernel_rfl)) (.of (l := [(0, (lbody 1000 C_q19z 0))]) (by kernel_rfl) ⟨.head (loopL_sound (O_q19z_ok n) (evDraw_ok (O_q19z_ok n) (by kernel_rfl)) (.of (l := []) (by kernel_rfl) trivial) (s_q19z_s0 n)), trivial⟩) (e_q19z n)
end Go.Proofs.YtdnhnpfommlfbaaGreatDoor

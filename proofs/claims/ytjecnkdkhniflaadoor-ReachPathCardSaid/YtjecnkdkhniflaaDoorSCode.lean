/- Each of these functions computes what its plain function computes (written by gen.py). -/
import Derived.Test.YtjecnkdkhniflaaDoorSBase
import Derived.KernelRfl
import Derived.Test.YtjecnkdkhniflaaDoorEvDraw
import Derived.Test.YtjecnkdkhniflaaDoorPCode
namespace Go.Proofs.YtjecnkdkhniflaaDoor
open Go Esp Ev Pure
set_option linter.unusedSimpArgs false
set_option linter.unusedVariables false
set_option maxRecDepth 100000
set_option maxHeartbeats 1000000
def okds : List FuncId := []
theorem quiets : ∀ g ∈ okds, ∀ (args : Array Value) (w : World), (callFunc g args).run Tryd.prog w = .ok (.enter g args) w ∧ CallsD Tryd.prog g args .returning w fun e u w' => u = .returning ∧ (∃ v, e = .returned v) ∧ w' = w := by
  intro g hg args w
  cases hg
variable [Tabs]
class UDef : Prop where
  ok : ∀ g ∈ ([] : List Nat), g ∈ Tabs.okd
variable [QuietD Tryd.prog] [UDef] [UTabs]
def TT : List (TypeId × Ty) := [(2, .i64), (3, .i64), (4, .bool), (5, .u8), (6, .u8), (9, .str), (10, .str), (11, .str), (12, .u64), (21, .i32), (22, (.lst .node)), (23, (.lst .edg)), (25, .graph), (26, (.lst .pair)), (27, .i64), (34, .pair), (36, (.lst .i64)), (42, (.map .pair .bool)), (44, (.lst (.lst .i64))), (45, (.map .i64 .bool)), (46, (.lst .prp)), (48, .edg), (56, (.two .graph)), (57, (.map .pair .bool)), (59, .pair), (62, (.lst .pair)), (64, (.map .i64 (.lst .i64))), (73, (.map .i64 .i64)), (75, (.lst .str)), (77, .node), (83, .u64), (90, (.lst .val)), (92, .val), (94, .prp), (98, .i64), (105, .u32), (107, .u64), (109, (.lst .i64)), (123, .u64), (156, .u8), (157, .u8), (160, .i32), (161, .i32)]

noncomputable def F_q7z : FnT := ⟨4, ⟨[], [(0, .graph), (1, .str), (2, .i64), (3, .i64)], [], []⟩, [.v .bool], []⟩
noncomputable def F_q28z : FnT := ⟨4, ⟨[], [(0, .graph), (1, .str), (2, .i64), (3, .i64)], [], []⟩, [.v (.lst .i64), .v .i64], []⟩
noncomputable def F_q21z : FnT := ⟨1, ⟨[], [(0, .graph)], [], []⟩, [.v .i64], []⟩
noncomputable def F_q19z : FnT := ⟨1, ⟨[], [(0, (.lst .str))], [], []⟩, [.v .i64], []⟩
noncomputable def F_q27z : FnT := ⟨1, ⟨[], [(0, .str)], [], []⟩, [.v .bool], []⟩
noncomputable def C_q27z : Code := bodyOf Tryd.f40
noncomputable def M_q27z : List (Nat × ArgM) := []
instance : DfOk M_q27z := .none rfl
noncomputable def O_q27z {ρ : Type} (n : Nat) : Orc ρ := orcNil
omit [QuietD Tryd.prog] [UDef] [UTabs] in
theorem O_q27z_ok {ρ : Type} (n : Nat) : (O_q27z n : Orc ρ).ok Tryd.prog := orcNil_ok
noncomputable def T_q27z_s0 : Tm := ⟨[], [(0, .str), (14, .i64), (15, .i64)], [], []⟩
noncomputable def X_q27z_s0 : Tm := ⟨[], [], [], []⟩
noncomputable def R_q27z_s0 : Tm := ⟨[], [(2, .bool)], [], []⟩
noncomputable def L_q27z_s0 {ρ : Type} (n : Nat) : LOrc ρ := lorcNil
omit [Tabs] [QuietD Tryd.prog] [UDef] [UTabs] in
theorem s_q27z_s0 {ρ : Type} (n : Nat) (rec : T_q27z_s0.den → Option ρ) kx kr s : dStep Tryd.prog 54 TT M_q27z (O_q27z n) (L_q27z_s0 n) dorcNil 0 (lbody 1000 C_q27z 0) T_q27z_s0 X_q27z_s0 R_q27z_s0 ⟨[], [], []⟩ rec kx kr s = q27z_s0 n rec kx kr s := by kernel_rfl
noncomputable def L_q27z {ρ : Type} (n : Nat) : LOrc ρ := lorcCons 0 (loopL 54 0 n T_q27z_s0 X_q27z_s0 R_q27z_s0 ⟨[], [], []⟩ (q27z_s0 n)) (lorcNil)
omit [Tabs] [QuietD Tryd.prog] [UDef] [UTabs] in
theorem e_q27z (n : Nat) (x) : evF Tryd.prog 54 TT M_q27z F_q27z (O_q27z n) (L_q27z n) dorcNil ⟨[], [], []⟩ [.tmp 2] C_q27z x = q27z n x := by kernel_rfl
omit [UDef] [UTabs] in
theorem ok_q27z (n : Nat) : Contract Tryd.prog 40 F_q27z (q27z n) :=
  Contract.of_ev (c := C_q27z) (N := 54) Tryd.func40 (by kernel_rfl) (by kernel_rfl) (by kernel_rfl) (by kernel_rfl) (O_q27z_ok n) dorcNil_ok (.of (l := [(0, (lbody 1000 C_q27z 0))]) (by kernel_rfl) ⟨.head (loopL_sound (O_q27z_ok n) dorcNil_ok (.of (l := []) (by kernel_rfl) trivial) (s_q27z_s0 n)), trivial⟩) (e_q27z n)

noncomputable def C_q19z : Code := bodyOf Tryd.f38
noncomputable def M_q19z : List (Nat × ArgM) := [(40, ⟨[], [], [], true⟩)]
instance : DfOk M_q19z := .none rfl
noncomputable def O_q19z {ρ : Type} (n : Nat) : Orc ρ := orcCons 40 F_q27z (q27z n) (orcNil)
omit [UDef] [UTabs] in
theorem O_q19z_ok {ρ : Type} (n : Nat) : (O_q19z n : Orc ρ).ok Tryd.prog := orcCons_ok (by kernel_rfl) (ok_q27z n) (orcNil_ok)
noncomputable def T_q19z_s0 : Tm := ⟨[], [(0, (.lst .str)), (8, (.lst .str)), (9, .i64), (10, .i64)], [], []⟩
noncomputable def X_q19z_s0 : Tm := ⟨[], [], [], []⟩
noncomputable def R_q19z_s0 : Tm := ⟨[], [(2, .i64)], [], []⟩
noncomputable def L_q19z_s0 {ρ : Type} (n : Nat) : LOrc ρ := lorcNil
omit [Tabs] [QuietD Tryd.prog] [UDef] [UTabs] in
theorem s_q19z_s0 {ρ : Type} (n : Nat) (rec : T_q19z_s0.den → Option ρ) kx kr s : dStep Tryd.prog 32 TT M_q19z (O_q19z n) (L_q19z_s0 n) dorcNil 0 (lbody 1000 C_q19z 0) T_q19z_s0 X_q19z_s0 R_q19z_s0 ⟨[], [], []⟩ rec kx kr s = q19z_s0 n rec kx kr s := by kernel_rfl
noncomputable def L_q19z {ρ : Type} (n : Nat) : LOrc ρ := lorcCons 0 (loopL 32 0 n T_q19z_s0 X_q19z_s0 R_q19z_s0 ⟨[], [], []⟩ (q19z_s0 n)) (lorcNil)
omit [Tabs] [QuietD Tryd.prog] [UDef] [UTabs] in
theorem e_q19z (n : Nat) (x) : evF Tryd.prog 32 TT M_q19z F_q19z (O_q19z n) (L_q19z n) dorcNil ⟨[], [], []⟩ [.tmp 2] C_q19z x = q19z n x := by kernel_rfl
omit [UDef] [UTabs] in
theorem ok_q19z (n : Nat) : Contract Tryd.prog 38 F_q19z (q19z n) :=
  Contract.of_ev (c := C_q19z) (N := 32) Tryd.func38 (by kernel_rfl) (by kernel_rfl) (by kernel_rfl) (by kernel_rfl) (O_q19z_ok n) dorcNil_ok (.of (l := [(0, (lbody 1000 C_q19z 0))]) (by kernel_rfl) ⟨.head (loopL_sound (O_q19z_ok n) dorcNil_ok (.of (l := []) (by kernel_rfl) trivial) (s_q19z_s0 n)), trivial⟩) (e_q19z n)

noncomputable def F_q22z : FnT := ⟨1, ⟨[], [(0, (.lst .prp))], [], []⟩, [.v .i64], []⟩
noncomputable def F_q24z : FnT := ⟨1, ⟨[], [(0, .val)], [], []⟩, [.v .i64], []⟩
noncomputable def F_q25z : FnT := ⟨2, ⟨[], [(0, .val), (1, .i64)], [], []⟩, [.v .i64], []⟩
noncomputable def C_q25z : Code := bodyOf Tryd.f80
noncomputable def M_q25z : List (Nat × ArgM) := [(67, ⟨[], [], [], true⟩), (80, ⟨[], [], [], true⟩)]
instance : DfOk M_q25z := .none rfl
noncomputable def O_q25z {ρ : Type} (self_q25z : Ev.Val × Int × Unit → Option (Int × Unit)) (n : Nat) : Orc ρ := orcCons 67 F_valid (validN) (orcCons 80 F_q25z (self_q25z) (orcNil))
omit [QuietD Tryd.prog] [UDef] in
theorem O_q25z_ok {ρ : Type} (self_q25z : Ev.Val × Int × Unit → Option (Int × Unit)) (h_q25z : Contract Tryd.prog 80 F_q25z self_q25z) (n : Nat) : (O_q25z self_q25z n : Orc ρ).ok Tryd.prog := orcCons_ok (by kernel_rfl) (validN_ok) (orcCons_ok (by kernel_rfl) (h_q25z) (orcNil_ok))
noncomputable def T_q25z_s1 : Tm := ⟨[(2, .ptr 2 0)], [(1, .i64), (90, (.lst .val)), (91, .i64), (92, .i64)], [(2, .box [.d .val])], []⟩
noncomputable def X_q25z_s1 : Tm := ⟨[(2, .ptr 2 0)], [], [(2, .box [.d .val])], []⟩
noncomputable def R_q25z_s1 : Tm := ⟨[], [(4, .i64)], [], []⟩
noncomputable def L_q25z_s1 {ρ : Type} (self_q25z : Ev.Val × Int × Unit → Option (Int × Unit)) (n : Nat) : LOrc ρ := lorcNil
omit [Tabs] [QuietD Tryd.prog] [UDef] [UTabs] in
theorem s_q25z_s1 {ρ : Type} (self_q25z : Ev.Val × Int × Unit → Option (Int × Unit)) (n : Nat) (rec : T_q25z_s1.den → Option ρ) kx kr s : dStep Tryd.prog 114 TT M_q25z (O_q25z self_q25z n) (L_q25z_s1 self_q25z n) dorcNil 1 (lbody 1000 C_q25z 0) T_q25z_s1 X_q25z_s1 R_q25z_s1 ⟨[], [], []⟩ rec kx kr s = q25z_s1 self_q25z n rec kx kr s := by kernel_rfl
noncomputable def L_q25z {ρ : Type} (self_q25z : Ev.Val × Int × Unit → Option (Int × Unit)) (n : Nat) : LOrc ρ := lorcCons 1 (loopL 114 1 n T_q25z_s1 X_q25z_s1 R_q25z_s1 ⟨[], [], []⟩ (q25z_s1 self_q25z n)) (lorcNil)
omit [Tabs] [QuietD Tryd.prog] [UDef] [UTabs] in
theorem e_q25z (self_q25z : Ev.Val × Int × Unit → Option (Int × Unit)) (n : Nat) (x) : evF Tryd.prog 114 TT M_q25z F_q25z (O_q25z self_q25z n) (L_q25z self_q25z n) dorcNil ⟨[], [], []⟩ [.tmp 4] C_q25z x = q25z_b self_q25z n x := by kernel_rfl
omit [UDef] in
theorem okb_q25z (self_q25z : Ev.Val × Int × Unit → Option (Int × Unit)) (h_q25z : Contract Tryd.prog 80 F_q25z self_q25z) (n : Nat) : Contract Tryd.prog 80 F_q25z (q25z_b self_q25z n) :=
  Contract.of_ev (c := C_q25z) (N := 114) Tryd.func80 (by kernel_rfl) (by kernel_rfl) (by kernel_rfl) (by kernel_rfl) (O_q25z_ok self_q25z h_q25z n) dorcNil_ok (.of (l := [(1, (lbody 1000 C_q25z 0))]) (by kernel_rfl) ⟨.head (loopL_sound (O_q25z_ok self_q25z h_q25z n) dorcNil_ok (.of (l := []) (by kernel_rfl) trivial) (s_q25z_s1 self_q25z n)), trivial⟩) (e_q25z self_q25z n)
omit [UDef] in
theorem ok_q25z : ∀ n, Contract Tryd.prog 80 F_q25z (q25z n)
  | 0 => fun _ _ h => by cases h
  | n + 1 => okb_q25z _ (ok_q25z n) n

noncomputable def C_q24z : Code := bodyOf Tryd.f58
noncomputable def M_q24z : List (Nat × ArgM) := [(80, ⟨[], [], [], true⟩)]
instance : DfOk M_q24z := .none rfl
noncomputable def O_q24z {ρ : Type} (n : Nat) : Orc ρ := orcCons 80 F_q25z (q25z n) (orcNil)
omit [UDef] in
theorem O_q24z_ok {ρ : Type} (n : Nat) : (O_q24z n : Orc ρ).ok Tryd.prog := orcCons_ok (by kernel_rfl) (ok_q25z n) (orcNil_ok)
noncomputable def L_q24z {ρ : Type} (n : Nat) : LOrc ρ := lorcNil
omit [Tabs] [QuietD Tryd.prog] [UDef] [UTabs] in
theorem e_q24z (n : Nat) (x) : evF Tryd.prog 5 TT M_q24z F_q24z (O_q24z n) (L_q24z n) dorcNil ⟨[], [], []⟩ [.tmp 2] C_q24z x = q24z n x := by kernel_rfl
omit [UDef] in
theorem ok_q24z (n : Nat) : Contract Tryd.prog 58 F_q24z (q24z n) :=
  Contract.of_ev (c := C_q24z) (N := 5) Tryd.func58 (by kernel_rfl) (by kernel_rfl) (by kernel_rfl) (by kernel_rfl) (O_q24z_ok n) dorcNil_ok (.of (l := []) (by kernel_rfl) trivial) (e_q24z n)

noncomputable def C_q22z : Code := bodyOf Tryd.f39
noncomputable def M_q22z : List (Nat × ArgM) := [(40, ⟨[], [], [], true⟩), (58, ⟨[], [], [], true⟩)]
instance : DfOk M_q22z := .none rfl
noncomputable def O_q22z {ρ : Type} (n : Nat) : Orc ρ := orcCons 40 F_q27z (q27z n) (orcCons 58 F_q24z (q24z n) (orcNil))
omit [UDef] in
theorem O_q22z_ok {ρ : Type} (n : Nat) : (O_q22z n : Orc ρ).ok Tryd.prog := orcCons_ok (by kernel_rfl) (ok_q27z n) (orcCons_ok (by kernel_rfl) (ok_q24z n) (orcNil_ok))
noncomputable def T_q22z_s0 : Tm := ⟨[], [(0, (.lst .prp)), (9, (.lst .prp)), (10, .i64), (11, .i64)], [], []⟩
noncomputable def X_q22z_s0 : Tm := ⟨[], [], [], []⟩
noncomputable def R_q22z_s0 : Tm := ⟨[], [(2, .i64)], [], []⟩
noncomputable def L_q22z_s0 {ρ : Type} (n : Nat) : LOrc ρ := lorcNil
omit [Tabs] [QuietD Tryd.prog] [UDef] [UTabs] in
theorem s_q22z_s0 {ρ : Type} (n : Nat) (rec : T_q22z_s0.den → Option ρ) kx kr s : dStep Tryd.prog 48 TT M_q22z (O_q22z n) (L_q22z_s0 n) (evDraw Tryd.prog 48 TT M_q22z (O_q22z n)) 0 (lbody 1000 C_q22z 0) T_q22z_s0 X_q22z_s0 R_q22z_s0 ⟨[], [], []⟩ rec kx kr s = q22z_s0 n rec kx kr s := by kernel_rfl
noncomputable def L_q22z {ρ : Type} (n : Nat) : LOrc ρ := lorcCons 0 (loopL 48 0 n T_q22z_s0 X_q22z_s0 R_q22z_s0 ⟨[], [], []⟩ (q22z_s0 n)) (lorcNil)
omit [Tabs] [QuietD Tryd.prog] [UDef] [UTabs] in
theorem e_q22z (n : Nat) (x) : evF Tryd.prog 48 TT M_q22z F_q22z (O_q22z n) (L_q22z n) (evDraw Tryd.prog 48 TT M_q22z (O_q22z n)) ⟨[], [], []⟩ [.tmp 2] C_q22z x = q22z n x := by kernel_rfl
omit [UDef] in
theorem ok_q22z (n : Nat) : Contract Tryd.prog 39 F_q22z (q22z n) :=
  Contract.of_ev (c := C_q22z) (N := 48) Tryd.func39 (by kernel_rfl) (by kernel_rfl) (by kernel_rfl) (by kernel_rfl) (O_q22z_ok n) (evDraw_ok (O_q22z_ok n) (by kernel_rfl)) (.of (l := [(0, (lbody 1000 C_q22z 0))]) (by kernel_rfl) ⟨.head (loopL_sound (O_q22z_ok n) (evDraw_ok (O_q22z_ok n) (by kernel_rfl)) (.of (l := []) (by kernel_rfl) trivial) (s_q22z_s0 n)), trivial⟩) (e_q22z n)

noncomputable def F_q15z : FnT := ⟨1, ⟨[], [(0, (.lst .i64))], [], []⟩, [.v .i64], []⟩
noncomputable def C_q15z : Code := bodyOf Tryd.f37
noncomputable def M_q15z : List (Nat × ArgM) := []
instance : DfOk M_q15z := .none rfl
noncomputable def O_q15z {ρ : Type} (n : Nat) : Orc ρ := orcNil
omit [QuietD Tryd.prog] [UDef] [UTabs] in
theorem O_q15z_ok {ρ : Type} (n : Nat) : (O_q15z n : Orc ρ).ok Tryd.prog := orcNil_ok
noncomputable def T_q15z_s0 : Tm := ⟨[], [(3, .i64), (6, (.lst .i64)), (7, .i64), (8, .i64)], [], []⟩
noncomputable def X_q15z_s0 : Tm := ⟨[], [(3, .i64)], [], []⟩
noncomputable def R_q15z_s0 : Tm := ⟨[], [(2, .i64)], [], []⟩
noncomputable def L_q15z_s0 {ρ : Type} (n : Nat) : LOrc ρ := lorcNil
omit [Tabs] [QuietD Tryd.prog] [UDef] [UTabs] in
theorem s_q15z_s0 {ρ : Type} (n : Nat) (rec : T_q15z_s0.den → Option ρ) kx kr s : dStep Tryd.prog 18 TT M_q15z (O_q15z n) (L_q15z_s0 n) dorcNil 0 (lbody 1000 C_q15z 0) T_q15z_s0 X_q15z_s0 R_q15z_s0 ⟨[], [], []⟩ rec kx kr s = q15z_s0 n rec kx kr s := by kernel_rfl
noncomputable def L_q15z {ρ : Type} (n : Nat) : LOrc ρ := lorcCons 0 (loopL 18 0 n T_q15z_s0 X_q15z_s0 R_q15z_s0 ⟨[], [], []⟩ (q15z_s0 n)) (lorcNil)
omit [Tabs] [QuietD Tryd.prog] [UDef] [UTabs] in
theorem e_q15z (n : Nat) (x) : evF Tryd.prog 18 TT M_q15z F_q15z (O_q15z n) (L_q15z n) dorcNil ⟨[], [], []⟩ [.tmp 2] C_q15z x = q15z n x := by kernel_rfl
omit [UDef] [UTabs] in
theorem ok_q15z (n : Nat) : Contract Tryd.prog 37 F_q15z (q15z n) :=
  Contract.of_ev (c := C_q15z) (N := 18) Tryd.func37 (by kernel_rfl) (by kernel_rfl) (by kernel_rfl) (by kernel_rfl) (O_q15z_ok n) dorcNil_ok (.of (l := [(0, (lbody 1000 C_q15z 0))]) (by kernel_rfl) ⟨.head (loopL_sound (O_q15z_ok n) dorcNil_ok (.of (l := []) (by kernel_rfl) trivial) (s_q15z_s0 n)), trivial⟩) (e_q15z n)

noncomputable def F_q26z : FnT := ⟨2, ⟨[], [(0, .graph), (1, .i64)], [], []⟩, [.v .i64], []⟩
noncomputable def F_q0z : FnT := ⟨3, ⟨[(2, .fn 44)], [(0, (.lst .node)), (1, .i64)], [], []⟩, [.v .i64, .v .bool], []⟩
noncomputable def F_q18z : FnT := ⟨2, ⟨[], [(0, .node), (1, .i64)], [], []⟩, [.v .i64], []⟩
noncomputable def F_q16z : FnT := ⟨2, ⟨[], [(0, .i64), (1, .i64)], [], []⟩, [.v .i64], []⟩
noncomputable def F_q17z : FnT := ⟨1, ⟨[], [(0, .i64)], [], []⟩, [.v .bool], []⟩
noncomputable def C_q17z : Code := bodyOf Tryd.f57
noncomputable def M_q17z : List (Nat × ArgM) := []
instance : DfOk M_q17z := .none rfl
noncomputable def O_q17z {ρ : Type} : Orc ρ := orcNil
omit [QuietD Tryd.prog] [UDef] [UTabs] in
theorem O_q17z_ok {ρ : Type} : (O_q17z : Orc ρ).ok Tryd.prog := orcNil_ok
noncomputable def L_q17z {ρ : Type} : LOrc ρ := lorcNil
omit [Tabs] [QuietD Tryd.prog] [UDef] [UTabs] in
theorem e_q17z (x) : evF Tryd.prog 6 TT M_q17z F_q17z (O_q17z) (L_q17z) dorcNil ⟨[], [], []⟩ [.tmp 2] C_q17z x = q17z x := by kernel_rfl
omit [UDef] [UTabs] in
theorem ok_q17z : Contract Tryd.prog 57 F_q17z (q17z) :=
  Contract.of_ev (c := C_q17z) (N := 6) Tryd.func57 (by kernel_rfl) (by kernel_rfl) (by kernel_rfl) (by kernel_rfl) (O_q17z_ok) dorcNil_ok (.of (l := []) (by kernel_rfl) trivial) (e_q17z)

noncomputable def C_q16z : Code := bodyOf Tryd.f36
noncomputable def M_q16z : List (Nat × ArgM) := [(57, ⟨[], [], [], true⟩)]
instance : DfOk M_q16z := .none rfl
noncomputable def O_q16z {ρ : Type} : Orc ρ := orcCons 57 F_q17z (q17z) (orcNil)
omit [UDef] [UTabs] in
theorem O_q16z_ok {ρ : Type} : (O_q16z : Orc ρ).ok Tryd.prog := orcCons_ok (by kernel_rfl) (ok_q17z) (orcNil_ok)
noncomputable def L_q16z {ρ : Type} : LOrc ρ := lorcNil
omit [Tabs] [QuietD Tryd.prog] [UDef] [UTabs] in
theorem e_q16z (x) : evF Tryd.prog 20 TT M_q16z F_q16z (O_q16z) (L_q16z) dorcNil ⟨[], [], []⟩ [.tmp 4] C_q16z x = q16z x := by kernel_rfl
omit [UDef] [UTabs] in
theorem ok_q16z : Contract Tryd.prog 36 F_q16z (q16z) :=
  Contract.of_ev (c := C_q16z) (N := 20) Tryd.func36 (by kernel_rfl) (by kernel_rfl) (by kernel_rfl) (by kernel_rfl) (O_q16z_ok) dorcNil_ok (.of (l := []) (by kernel_rfl) trivial) (e_q16z)

noncomputable def C_q18z : Code := bodyOf Tryd.f44
noncomputable def M_q18z : List (Nat × ArgM) := [(36, ⟨[], [], [], true⟩)]
instance : DfOk M_q18z := .none rfl
noncomputable def O_q18z {ρ : Type} : Orc ρ := orcCons 36 F_q16z (q16z) (orcNil)
omit [UDef] [UTabs] in
theorem O_q18z_ok {ρ : Type} : (O_q18z : Orc ρ).ok Tryd.prog := orcCons_ok (by kernel_rfl) (ok_q16z) (orcNil_ok)
noncomputable def L_q18z {ρ : Type} : LOrc ρ := lorcNil
omit [Tabs] [QuietD Tryd.prog] [UDef] [UTabs] in
theorem e_q18z (x) : evF Tryd.prog 9 TT M_q18z F_q18z (O_q18z) (L_q18z) dorcNil ⟨[], [], []⟩ [.tmp 4] C_q18z x = q18z x := by kernel_rfl
omit [UDef] [UTabs] in
theorem ok_q18z : Contract Tryd.prog 44 F_q18z (q18z) :=
  Contract.of_ev (c := C_q18z) (N := 9) Tryd.func44 (by kernel_rfl) (by kernel_rfl) (by kernel_rfl) (by kernel_rfl) (O_q18z_ok) dorcNil_ok (.of (l := []) (by kernel_rfl) trivial) (e_q18z)

noncomputable def C_q0z : Code := bodyOf Tryd.f43
noncomputable def M_q0z : List (Nat × ArgM) := [(44, ⟨[], [], [], true⟩)]
instance : DfOk M_q0z := .none rfl
noncomputable def O_q0z {ρ : Type} (n : Nat) : Orc ρ := orcCons 44 F_q18z (q18z) (orcNil)
omit [UDef] [UTabs] in
theorem O_q0z_ok {ρ : Type} (n : Nat) : (O_q0z n : Orc ρ).ok Tryd.prog := orcCons_ok (by kernel_rfl) (ok_q18z) (orcNil_ok)
noncomputable def T_q0z_s0 : Tm := ⟨[(2, .fn 44)], [(0, (.lst .node)), (1, .i64), (8, .i64), (9, .i64), (10, .i64)], [], []⟩
noncomputable def X_q0z_s0 : Tm := ⟨[(2, .fn 44)], [(0, (.lst .node)), (1, .i64), (8, .i64), (9, .i64)], [], []⟩
noncomputable def R_q0z_s0 : Tm := ⟨[], [], [], []⟩
noncomputable def L_q0z_s0 {ρ : Type} (n : Nat) : LOrc ρ := lorcNil
omit [Tabs] [QuietD Tryd.prog] [UDef] [UTabs] in
theorem s_q0z_s0 {ρ : Type} (n : Nat) (rec : T_q0z_s0.den → Option ρ) kx kr s : dStep Tryd.prog 49 TT M_q0z (O_q0z n) (L_q0z_s0 n) dorcNil 0 (lbody 1000 C_q0z 0) T_q0z_s0 X_q0z_s0 R_q0z_s0 ⟨[], [], []⟩ rec kx kr s = q0z_s0 n rec kx kr s := by kernel_rfl
noncomputable def L_q0z {ρ : Type} (n : Nat) : LOrc ρ := lorcCons 0 (loopL 49 0 n T_q0z_s0 X_q0z_s0 R_q0z_s0 ⟨[], [], []⟩ (q0z_s0 n)) (lorcNil)
omit [Tabs] [QuietD Tryd.prog] [UDef] [UTabs] in
theorem e_q0z (n : Nat) (x) : evF Tryd.prog 49 TT M_q0z F_q0z (O_q0z n) (L_q0z n) dorcNil ⟨[], [], []⟩ [.tmp 6, .tmp 7] C_q0z x = q0z n x := by kernel_rfl
omit [UDef] [UTabs] in
theorem ok_q0z (n : Nat) : Contract Tryd.prog 43 F_q0z (q0z n) :=
  Contract.of_ev (c := C_q0z) (N := 49) Tryd.func43 (by kernel_rfl) (by kernel_rfl) (by kernel_rfl) (by kernel_rfl) (O_q0z_ok n) dorcNil_ok (.of (l := [(0, (lbody 1000 C_q0z 0))]) (by kernel_rfl) ⟨.head (loopL_sound (O_q0z_ok n) dorcNil_ok (.of (l := []) (by kernel_rfl) trivial) (s_q0z_s0 n)), trivial⟩) (e_q0z n)

noncomputable def C_q26z : Code := bodyOf Tryd.f30
noncomputable def M_q26z : List (Nat × ArgM) := [(43, ⟨[], [], [], true⟩)]
instance : DfOk M_q26z := .none rfl
noncomputable def O_q26z {ρ : Type} (n : Nat) : Orc ρ := orcCons 43 F_q0z (q0z n) (orcNil)
omit [UDef] [UTabs] in
theorem O_q26z_ok {ρ : Type} (n : Nat) : (O_q26z n : Orc ρ).ok Tryd.prog := orcCons_ok (by kernel_rfl) (ok_q0z n) (orcNil_ok)
noncomputable def L_q26z {ρ : Type} (n : Nat) : LOrc ρ := lorcNil
omit [Tabs] [QuietD Tryd.prog] [UDef] [UTabs] in
theorem e_q26z (n : Nat) (x) : evF Tryd.prog 17 TT M_q26z F_q26z (O_q26z n) (L_q26z n) dorcNil ⟨[], [], []⟩ [.tmp 4] C_q26z x = q26z n x := by kernel_rfl
omit [UDef] [UTabs] in
theorem ok_q26z (n : Nat) : Contract Tryd.prog 30 F_q26z (q26z n) :=
  Contract.of_ev (c := C_q26z) (N := 17) Tryd.func30 (by kernel_rfl) (by kernel_rfl) (by kernel_rfl) (by kernel_rfl) (O_q26z_ok n) dorcNil_ok (.of (l := []) (by kernel_rfl) trivial) (e_q26z n)

noncomputable def C_q21z : Code := bodyOf Tryd.f18
noncomputable def M_q21z : List (Nat × ArgM) := [(38, ⟨[], [], [], true⟩), (39, ⟨[], [], [], true⟩), (37, ⟨[], [], [], true⟩), (30, ⟨[], [], [], true⟩), (40, ⟨[], [], [], true⟩)]
instance : DfOk M_q21z := .none rfl
noncomputable def O_q21z {ρ : Type} (n : Nat) : Orc ρ := orcCons 38 F_q19z (q19z n) (orcCons 39 F_q22z (q22z n) (orcCons 37 F_q15z (q15z n) (orcCons 30 F_q26z (q26z n) (orcCons 40 F_q27z (q27z n) (orcNil)))))
omit [UDef] in
theorem O_q21z_ok {ρ : Type} (n : Nat) : (O_q21z n : Orc ρ).ok Tryd.prog := orcCons_ok (by kernel_rfl) (ok_q19z n) (orcCons_ok (by kernel_rfl) (ok_q22z n) (orcCons_ok (by kernel_rfl) (ok_q15z n) (orcCons_ok (by kernel_rfl) (ok_q26z n) (orcCons_ok (by kernel_rfl) (ok_q27z n) (orcNil_ok)))))
noncomputable def T_q21z_s0 : Tm := ⟨[(1, .ptr 1 0)], [(3, .i64), (22, (.lst .node)), (23, .i64), (24, .i64)], [(1, .box [.d .graph])], []⟩
noncomputable def X_q21z_s0 : Tm := ⟨[(1, .ptr 1 0)], [(3, .i64)], [(1, .box [.d .graph])], []⟩
noncomputable def R_q21z_s0 : Tm := ⟨[], [(2, .i64)], [], []⟩
noncomputable def L_q21z_s0 {ρ : Type} (n : Nat) : LOrc ρ := lorcNil
omit [Tabs] [QuietD Tryd.prog] [UDef] [UTabs] in
theorem s_q21z_s0 {ρ : Type} (n : Nat) (rec : T_q21z_s0.den → Option ρ) kx kr s : dStep Tryd.prog 103 TT M_q21z (O_q21z n) (L_q21z_s0 n) (evDraw Tryd.prog 103 TT M_q21z (O_q21z n)) 0 (lbody 1000 C_q21z 0) T_q21z_s0 X_q21z_s0 R_q21z_s0 ⟨[], [], []⟩ rec kx kr s = q21z_s0 n rec kx kr s := by kernel_rfl
noncomputable def T_q21z_s2 : Tm := ⟨[(1, .ptr 1 0)], [(3, .i64), (7, .i64), (48, (.lst .edg)), (49, .i64), (50, .i64)], [(1, .box [.d .graph])], []⟩
noncomputable def X_q21z_s2 : Tm := ⟨[(1, .ptr 1 0)], [(3, .i64), (7, .i64)], [(1, .box [.d .graph])], []⟩
noncomputable def R_q21z_s2 : Tm := ⟨[], [(2, .i64)], [], []⟩
noncomputable def L_q21z_s2 {ρ : Type} (n : Nat) : LOrc ρ := lorcNil
omit [Tabs] [QuietD Tryd.prog] [UDef] [UTabs] in
theorem s_q21z_s2 {ρ : Type} (n : Nat) (rec : T_q21z_s2.den → Option ρ) kx kr s : dStep Tryd.prog 103 TT M_q21z (O_q21z n) (L_q21z_s2 n) (evDraw Tryd.prog 103 TT M_q21z (O_q21z n)) 2 (lbody 1000 C_q21z 1) T_q21z_s2 X_q21z_s2 R_q21z_s2 ⟨[], [], []⟩ rec kx kr s = q21z_s2 n rec kx kr s := by kernel_rfl
noncomputable def L_q21z {ρ : Type} (n : Nat) : LOrc ρ := lorcCons 0 (loopL 103 0 n T_q21z_s0 X_q21z_s0 R_q21z_s0 ⟨[], [], []⟩ (q21z_s0 n)) (lorcCons 2 (loopL 103 2 n T_q21z_s2 X_q21z_s2 R_q21z_s2 ⟨[], [], []⟩ (q21z_s2 n)) (lorcNil))
omit [Tabs] [QuietD Tryd.prog] [UDef] [UTabs] in
theorem e_q21z (n : Nat) (x) : evF Tryd.prog 103 TT M_q21z F_q21z (O_q21z n) (L_q21z n) (evDraw Tryd.prog 103 TT M_q21z (O_q21z n)) ⟨[], [], []⟩ [.tmp 2] C_q21z x = q21z n x := by kernel_rfl
omit [UDef] in
theorem ok_q21z (n : Nat) : Contract Tryd.prog 18 F_q21z (q21z n) :=
  Contract.of_ev (c := C_q21z) (N := 103) Tryd.func18 (by kernel_rfl) (by kernel_rfl) (by kernel_rfl) (by kernel_rfl) (O_q21z_ok n) (evDraw_ok (O_q21z_ok n) (by kernel_rfl)) (.of (l := [(0, (lbody 1000 C_q21z 0)), (2, (lbody 1000 C_q21z 1))]) (by kernel_rfl) ⟨.head (loopL_sound (O_q21z_ok n) (evDraw_ok (O_q21z_ok n) (by kernel_rfl)) (.of (l := []) (by kernel_rfl) trivial) (s_q21z_s0 n)), ⟨.tail rfl (.head (loopL_sound (O_q21z_ok n) (evDraw_ok (O_q21z_ok n) (by kernel_rfl)) (.of (l := []) (by kernel_rfl) trivial) (s_q21z_s2 n))), trivial⟩⟩) (e_q21z n)

noncomputable def C_q28z : Code := bodyOf Tryd.f9
noncomputable def M_q28z : List (Nat × ArgM) := [(18, ⟨[], [], [], true⟩), (30, ⟨[], [], [], true⟩)]
instance : DfOk M_q28z := .none rfl
noncomputable def O_q28z {ρ : Type} (n : Nat) : Orc ρ := orcCons 18 F_q21z (q21z n) (orcCons 30 F_q26z (q26z n) (orcNil))
omit [UDef] in
theorem O_q28z_ok {ρ : Type} (n : Nat) : (O_q28z n : Orc ρ).ok Tryd.prog := orcCons_ok (by kernel_rfl) (ok_q21z n) (orcCons_ok (by kernel_rfl) (ok_q26z n) (orcNil_ok))
noncomputable def T_q28z_s2 : Tm := ⟨[(4, .ptr 4 0), (11, .mpr 42)], [(1, .str), (2, .i64), (3, .i64), (12, .i64), (13, .bool), (49, (.lst .edg)), (50, .i64), (51, .i64)], [(4, .box [.d .graph]), (42, .mp 73 .i64 .i64 false)], []⟩
noncomputable def X_q28z_s2 : Tm := ⟨[(4, .ptr 4 0), (11, .mpr 42)], [(1, .str), (2, .i64), (3, .i64), (12, .i64), (13, .bool)], [(4, .box [.d .graph]), (42, .mp 73 .i64 .i64 false)], []⟩
noncomputable def R_q28z_s2 : Tm := ⟨[], [], [], []⟩
noncomputable def L_q28z_s2 {ρ : Type} (n : Nat) : LOrc ρ := lorcNil
omit [Tabs] [QuietD Tryd.prog] [UDef] [UTabs] in
theorem s_q28z_s2 {ρ : Type} (n : Nat) (rec : T_q28z_s2.den → Option ρ) kx kr s : dStep Tryd.prog 168 TT M_q28z (O_q28z n) (L_q28z_s2 n) dorcNil 2 (lbody 0 (lbody 1000 C_q28z 0) 0) T_q28z_s2 X_q28z_s2 R_q28z_s2 ⟨[], [], []⟩ rec kx kr s = q28z_s2 n rec kx kr s := by kernel_rfl
noncomputable def T_q28z_s0 : Tm := ⟨[(4, .ptr 4 0), (11, .mpr 42)], [(1, .str), (2, .i64), (3, .i64), (12, .i64), (13, .bool)], [(4, .box [.d .graph]), (42, .mp 73 .i64 .i64 false)], []⟩
noncomputable def X_q28z_s0 : Tm := ⟨[(4, .ptr 4 0), (11, .mpr 42)], [(1, .str), (2, .i64), (3, .i64)], [(4, .box [.d .graph]), (42, .mp 73 .i64 .i64 false)], []⟩
noncomputable def R_q28z_s0 : Tm := ⟨[], [], [], []⟩
noncomputable def L_q28z_s0 {ρ : Type} (n : Nat) : LOrc ρ := lorcCons 2 (loopL 168 2 n T_q28z_s2 X_q28z_s2 R_q28z_s2 ⟨[], [], []⟩ (q28z_s2 n)) (lorcNil)
omit [Tabs] [QuietD Tryd.prog] [UDef] [UTabs] in
theorem s_q28z_s0 {ρ : Type} (n : Nat) (rec : T_q28z_s0.den → Option ρ) kx kr s : dStep Tryd.prog 168 TT M_q28z (O_q28z n) (L_q28z_s0 n) dorcNil 0 (lbody 1000 C_q28z 0) T_q28z_s0 X_q28z_s0 R_q28z_s0 ⟨[], [], []⟩ rec kx kr s = q28z_s0 n rec kx kr s := by kernel_rfl
noncomputable def T_q28z_s6 : Tm := ⟨[(4, .ptr 4 0), (11, .mpr 42), (20, .own 20)], [(1, .str), (3, .i64), (21, .i64), (22, .i64), (101, (.lst .edg)), (102, .i64), (103, .i64)], [(4, .box [.d .graph]), (20, .arr 3 .i64), (42, .mp 73 .i64 .i64 false)], []⟩
noncomputable def X_q28z_s6 : Tm := ⟨[(4, .ptr 4 0), (11, .mpr 42), (20, .own 20)], [(1, .str), (3, .i64), (22, .i64)], [(4, .box [.d .graph]), (20, .arr 3 .i64), (42, .mp 73 .i64 .i64 false)], []⟩
noncomputable def R_q28z_s6 : Tm := ⟨[], [], [], []⟩
noncomputable def L_q28z_s6 {ρ : Type} (n : Nat) : LOrc ρ := lorcNil
omit [Tabs] [QuietD Tryd.prog] [UDef] [UTabs] in
theorem s_q28z_s6 {ρ : Type} (n : Nat) (rec : T_q28z_s6.den → Option ρ) kx kr s : dStep Tryd.prog 168 TT M_q28z (O_q28z n) (L_q28z_s6 n) dorcNil 6 (lbody 4 (lbody 1000 C_q28z 1) 0) T_q28z_s6 X_q28z_s6 R_q28z_s6 ⟨[], [], []⟩ rec kx kr s = q28z_s6 n rec kx kr s := by kernel_rfl
noncomputable def T_q28z_s4 : Tm := ⟨[(4, .ptr 4 0), (11, .mpr 42), (20, .own 20)], [(1, .str), (3, .i64), (21, .i64)], [(4, .box [.d .graph]), (20, .arr 3 .i64), (42, .mp 73 .i64 .i64 false)], []⟩
noncomputable def X_q28z_s4 : Tm := ⟨[(20, .own 20)], [], [(20, .arr 3 .i64)], []⟩
noncomputable def R_q28z_s4 : Tm := ⟨[], [(8, (.lst .i64)), (9, .i64)], [], []⟩
noncomputable def L_q28z_s4 {ρ : Type} (n : Nat) : LOrc ρ := lorcCons 6 (loopL 168 6 n T_q28z_s6 X_q28z_s6 R_q28z_s6 ⟨[], [], []⟩ (q28z_s6 n)) (lorcNil)
omit [Tabs] [QuietD Tryd.prog] [UDef] [UTabs] in
theorem s_q28z_s4 {ρ : Type} (n : Nat) (rec : T_q28z_s4.den → Option ρ) kx kr s : dStep Tryd.prog 168 TT M_q28z (O_q28z n) (L_q28z_s4 n) dorcNil 4 (lbody 1000 C_q28z 1) T_q28z_s4 X_q28z_s4 R_q28z_s4 ⟨[], [(20, 20, 3, 1)], []⟩ rec kx kr s = q28z_s4 n rec kx kr s := by kernel_rfl
noncomputable def L_q28z {ρ : Type} (n : Nat) : LOrc ρ := lorcCons 0 (loopL 168 0 n T_q28z_s0 X_q28z_s0 R_q28z_s0 ⟨[], [], []⟩ (q28z_s0 n)) (lorcCons 4 (loopL 168 4 n T_q28z_s4 X_q28z_s4 R_q28z_s4 ⟨[], [(20, 20, 3, 1)], []⟩ (q28z_s4 n)) (lorcNil))
omit [Tabs] [QuietD Tryd.prog] [UDef] [UTabs] in
theorem e_q28z (n : Nat) (x) : evF Tryd.prog 168 TT M_q28z F_q28z (O_q28z n) (L_q28z n) dorcNil ⟨[], [], []⟩ [.tmp 8, .tmp 9] C_q28z x = q28z n x := by kernel_rfl
omit [UDef] in
theorem ok_q28z (n : Nat) : Contract Tryd.prog 9 F_q28z (q28z n) :=
  Contract.of_ev (c := C_q28z) (N := 168) Tryd.func9 (by kernel_rfl) (by kernel_rfl) (by kernel_rfl) (by kernel_rfl) (O_q28z_ok n) dorcNil_ok (.of (l := [(0, (lbody 1000 C_q28z 0)), (4, (lbody 1000 C_q28z 1))]) (by kernel_rfl) ⟨.head (loopL_sound (O_q28z_ok n) dorcNil_ok (.of (l := [(2, (lbody 0 (lbody 1000 C_q28z 0) 0))]) (by kernel_rfl) ⟨.head (loopL_sound (O_q28z_ok n) dorcNil_ok (.of (l := []) (by kernel_rfl) trivial) (s_q28z_s2 n)), trivial⟩) (s_q28z_s0 n)), ⟨.tail rfl (.head (loopL_sound (O_q28z_ok n) dorcNil_ok (.of (l := [(6, (lbody 4 (lbody 1000 C_q28z 1) 0))]) (by kernel_rfl) ⟨.head (loopL_sound (O_q28z_ok n) dorcNil_ok (.of (l := []) (by kernel_rfl) trivial) (s_q28z_s6 n)), trivial⟩) (s_q28z_s4 n))), trivial⟩⟩) (e_q28z n)

noncomputable def F_q4z : FnT := ⟨1, ⟨[], [(0, .graph)], [], []⟩, [.v .i64], []⟩
noncomputable def F_q3z : FnT := ⟨1, ⟨[], [(0, (.lst .str))], [], []⟩, [.v .i64], []⟩
noncomputable def F_q12z : FnT := ⟨1, ⟨[], [(0, .str)], [], []⟩, [.v .bool], []⟩
noncomputable def C_q12z : Code := bodyOf Tryd.f33
noncomputable def M_q12z : List (Nat × ArgM) := [(46, ⟨[], [], [], true⟩)]
instance : DfOk M_q12z := .none rfl
noncomputable def O_q12z {ρ : Type} : Orc ρ := orcCons 46 F_trim (trimN) (orcNil)
omit [QuietD Tryd.prog] [UDef] [UTabs] in
theorem O_q12z_ok {ρ : Type} : (O_q12z : Orc ρ).ok Tryd.prog := orcCons_ok (by kernel_rfl) (trimN_ok) (orcNil_ok)
noncomputable def L_q12z {ρ : Type} : LOrc ρ := lorcNil
omit [Tabs] [QuietD Tryd.prog] [UDef] [UTabs] in
theorem e_q12z (x) : evF Tryd.prog 23 TT M_q12z F_q12z (O_q12z) (L_q12z) dorcNil ⟨[], [], []⟩ [.tmp 2] C_q12z x = q12z x := by kernel_rfl
omit [UDef] [UTabs] in
theorem ok_q12z : Contract Tryd.prog 33 F_q12z (q12z) :=
  Contract.of_ev (c := C_q12z) (N := 23) Tryd.func33 (by kernel_rfl) (by kernel_rfl) (by kernel_rfl) (by kernel_rfl) (O_q12z_ok) dorcNil_ok (.of (l := []) (by kernel_rfl) trivial) (e_q12z)

noncomputable def C_q3z : Code := bodyOf Tryd.f31
noncomputable def M_q3z : List (Nat × ArgM) := [(33, ⟨[], [], [], true⟩)]
instance : DfOk M_q3z := .none rfl
noncomputable def O_q3z {ρ : Type} (n : Nat) : Orc ρ := orcCons 33 F_q12z (q12z) (orcNil)
omit [UDef] [UTabs] in
theorem O_q3z_ok {ρ : Type} (n : Nat) : (O_q3z n : Orc ρ).ok Tryd.prog := orcCons_ok (by kernel_rfl) (ok_q12z) (orcNil_ok)
noncomputable def T_q3z_s0 : Tm := ⟨[], [(3, .str), (9, (.lst .str)), (10, .i64), (11, .i64)], [], []⟩
noncomputable def X_q3z_s0 : Tm := ⟨[], [], [], []⟩
noncomputable def R_q3z_s0 : Tm := ⟨[], [(2, .i64)], [], []⟩
noncomputable def L_q3z_s0 {ρ : Type} (n : Nat) : LOrc ρ := lorcNil
omit [Tabs] [QuietD Tryd.prog] [UDef] [UTabs] in
theorem s_q3z_s0 {ρ : Type} (n : Nat) (rec : T_q3z_s0.den → Option ρ) kx kr s : dStep Tryd.prog 25 TT M_q3z (O_q3z n) (L_q3z_s0 n) dorcNil 0 (lbody 1000 C_q3z 0) T_q3z_s0 X_q3z_s0 R_q3z_s0 ⟨[], [], []⟩ rec kx kr s = q3z_s0 n rec kx kr s := by kernel_rfl
noncomputable def L_q3z {ρ : Type} (n : Nat) : LOrc ρ := lorcCons 0 (loopL 25 0 n T_q3z_s0 X_q3z_s0 R_q3z_s0 ⟨[], [], []⟩ (q3z_s0 n)) (lorcNil)
omit [Tabs] [QuietD Tryd.prog] [UDef] [UTabs] in
theorem e_q3z (n : Nat) (x) : evF Tryd.prog 25 TT M_q3z F_q3z (O_q3z n) (L_q3z n) dorcNil ⟨[], [], []⟩ [.tmp 2] C_q3z x = q3z n x := by kernel_rfl
omit [UDef] [UTabs] in
theorem ok_q3z (n : Nat) : Contract Tryd.prog 31 F_q3z (q3z n) :=
  Contract.of_ev (c := C_q3z) (N := 25) Tryd.func31 (by kernel_rfl) (by kernel_rfl) (by kernel_rfl) (by kernel_rfl) (O_q3z_ok n) dorcNil_ok (.of (l := [(0, (lbody 1000 C_q3z 0))]) (by kernel_rfl) ⟨.head (loopL_sound (O_q3z_ok n) dorcNil_ok (.of (l := []) (by kernel_rfl) trivial) (s_q3z_s0 n)), trivial⟩) (e_q3z n)

noncomputable def F_q5z : FnT := ⟨1, ⟨[], [(0, (.lst .prp))], [], []⟩, [.v .i64], []⟩
noncomputable def F_q6z : FnT := ⟨2, ⟨[], [(0, .val), (1, .i64)], [], []⟩, [.v .i64], []⟩
noncomputable def C_q6z : Code := bodyOf Tryd.f45
noncomputable def M_q6z : List (Nat × ArgM) := [(45, ⟨[], [], [], true⟩), (67, ⟨[], [], [], true⟩)]
instance : DfOk M_q6z := .none rfl
noncomputable def O_q6z {ρ : Type} (self_q6z : Ev.Val × Int × Unit → Option (Int × Unit)) (n : Nat) : Orc ρ := orcCons 45 F_q6z (self_q6z) (orcCons 67 F_valid (validN) (orcNil))
omit [QuietD Tryd.prog] [UDef] in
theorem O_q6z_ok {ρ : Type} (self_q6z : Ev.Val × Int × Unit → Option (Int × Unit)) (h_q6z : Contract Tryd.prog 45 F_q6z self_q6z) (n : Nat) : (O_q6z self_q6z n : Orc ρ).ok Tryd.prog := orcCons_ok (by kernel_rfl) (h_q6z) (orcCons_ok (by kernel_rfl) (validN_ok) (orcNil_ok))
noncomputable def T_q6z_s1 : Tm := ⟨[], [(1, .i64), (5, .bool), (6, .bool), (34, (.lst .val)), (35, .i64), (36, .i64)], [], []⟩
noncomputable def X_q6z_s1 : Tm := ⟨[], [(5, .bool), (6, .bool)], [], []⟩
noncomputable def R_q6z_s1 : Tm := ⟨[], [(4, .i64)], [], []⟩
noncomputable def L_q6z_s1 {ρ : Type} (self_q6z : Ev.Val × Int × Unit → Option (Int × Unit)) (n : Nat) : LOrc ρ := lorcNil
omit [Tabs] [QuietD Tryd.prog] [UDef] [UTabs] in
theorem s_q6z_s1 {ρ : Type} (self_q6z : Ev.Val × Int × Unit → Option (Int × Unit)) (n : Nat) (rec : T_q6z_s1.den → Option ρ) kx kr s : dStep Tryd.prog 96 TT M_q6z (O_q6z self_q6z n) (L_q6z_s1 self_q6z n) (evDraw Tryd.prog 96 TT M_q6z (O_q6z self_q6z n)) 1 (lbody 1000 C_q6z 0) T_q6z_s1 X_q6z_s1 R_q6z_s1 ⟨[], [], []⟩ rec kx kr s = q6z_s1 self_q6z n rec kx kr s := by kernel_rfl
noncomputable def L_q6z {ρ : Type} (self_q6z : Ev.Val × Int × Unit → Option (Int × Unit)) (n : Nat) : LOrc ρ := lorcCons 1 (loopL 96 1 n T_q6z_s1 X_q6z_s1 R_q6z_s1 ⟨[], [], []⟩ (q6z_s1 self_q6z n)) (lorcNil)
omit [Tabs] [QuietD Tryd.prog] [UDef] [UTabs] in
theorem e_q6z (self_q6z : Ev.Val × Int × Unit → Option (Int × Unit)) (n : Nat) (x) : evF Tryd.prog 96 TT M_q6z F_q6z (O_q6z self_q6z n) (L_q6z self_q6z n) (evDraw Tryd.prog 96 TT M_q6z (O_q6z self_q6z n)) ⟨[], [], []⟩ [.tmp 4] C_q6z x = q6z_b self_q6z n x := by kernel_rfl
omit [UDef] in
theorem okb_q6z (self_q6z : Ev.Val × Int × Unit → Option (Int × Unit)) (h_q6z : Contract Tryd.prog 45 F_q6z self_q6z) (n : Nat) : Contract Tryd.prog 45 F_q6z (q6z_b self_q6z n) :=
  Contract.of_ev (c := C_q6z) (N := 96) Tryd.func45 (by kernel_rfl) (by kernel_rfl) (by kernel_rfl) (by kernel_rfl) (O_q6z_ok self_q6z h_q6z n) (evDraw_ok (O_q6z_ok self_q6z h_q6z n) (by kernel_rfl)) (.of (l := [(1, (lbody 1000 C_q6z 0))]) (by kernel_rfl) ⟨.head (loopL_sound (O_q6z_ok self_q6z h_q6z n) (evDraw_ok (O_q6z_ok self_q6z h_q6z n) (by kernel_rfl)) (.of (l := []) (by kernel_rfl) trivial) (s_q6z_s1 self_q6z n)), trivial⟩) (e_q6z self_q6z n)
omit [UDef] in
theorem ok_q6z : ∀ n, Contract Tryd.prog 45 F_q6z (q6z n)
  | 0 => fun _ _ h => by cases h
  | n + 1 => okb_q6z _ (ok_q6z n) n

noncomputable def C_q5z : Code := bodyOf Tryd.f32
noncomputable def M_q5z : List (Nat × ArgM) := [(33, ⟨[], [], [], true⟩), (45, ⟨[], [], [], true⟩)]
instance : DfOk M_q5z := .none rfl
noncomputable def O_q5z {ρ : Type} (n : Nat) : Orc ρ := orcCons 33 F_q12z (q12z) (orcCons 45 F_q6z (q6z n) (orcNil))
omit [UDef] in
theorem O_q5z_ok {ρ : Type} (n : Nat) : (O_q5z n : Orc ρ).ok Tryd.prog := orcCons_ok (by kernel_rfl) (ok_q12z) (orcCons_ok (by kernel_rfl) (ok_q6z n) (orcNil_ok))
noncomputable def T_q5z_s0 : Tm := ⟨[], [(3, .str), (10, (.lst .prp)), (11, .i64), (12, .i64)], [], []⟩
noncomputable def X_q5z_s0 : Tm := ⟨[], [], [], []⟩
noncomputable def R_q5z_s0 : Tm := ⟨[], [(2, .i64)], [], []⟩
noncomputable def L_q5z_s0 {ρ : Type} (n : Nat) : LOrc ρ := lorcNil
omit [Tabs] [QuietD Tryd.prog] [UDef] [UTabs] in
theorem s_q5z_s0 {ρ : Type} (n : Nat) (rec : T_q5z_s0.den → Option ρ) kx kr s : dStep Tryd.prog 41 TT M_q5z (O_q5z n) (L_q5z_s0 n) dorcNil 0 (lbody 1000 C_q5z 0) T_q5z_s0 X_q5z_s0 R_q5z_s0 ⟨[], [], []⟩ rec kx kr s = q5z_s0 n rec kx kr s := by kernel_rfl
noncomputable def L_q5z {ρ : Type} (n : Nat) : LOrc ρ := lorcCons 0 (loopL 41 0 n T_q5z_s0 X_q5z_s0 R_q5z_s0 ⟨[], [], []⟩ (q5z_s0 n)) (lorcNil)
omit [Tabs] [QuietD Tryd.prog] [UDef] [UTabs] in
theorem e_q5z (n : Nat) (x) : evF Tryd.prog 41 TT M_q5z F_q5z (O_q5z n) (L_q5z n) dorcNil ⟨[], [], []⟩ [.tmp 2] C_q5z x = q5z n x := by kernel_rfl
omit [UDef] in
theorem ok_q5z (n : Nat) : Contract Tryd.prog 32 F_q5z (q5z n) :=
  Contract.of_ev (c := C_q5z) (N := 41) Tryd.func32 (by kernel_rfl) (by kernel_rfl) (by kernel_rfl) (by kernel_rfl) (O_q5z_ok n) dorcNil_ok (.of (l := [(0, (lbody 1000 C_q5z 0))]) (by kernel_rfl) ⟨.head (loopL_sound (O_q5z_ok n) dorcNil_ok (.of (l := []) (by kernel_rfl) trivial) (s_q5z_s0 n)), trivial⟩) (e_q5z n)

noncomputable def F_q13z : FnT := ⟨2, ⟨[], [(0, .graph), (1, .i64)], [], []⟩, [.opt .node], []⟩
noncomputable def C_q13z : Code := bodyOf Tryd.f11
noncomputable def M_q13z : List (Nat × ArgM) := []
instance : DfOk M_q13z := .none rfl
noncomputable def O_q13z {ρ : Type} (n : Nat) : Orc ρ := orcNil
omit [QuietD Tryd.prog] [UDef] [UTabs] in
theorem O_q13z_ok {ρ : Type} (n : Nat) : (O_q13z n : Orc ρ).ok Tryd.prog := orcNil_ok
noncomputable def T_q13z_s0 : Tm := ⟨[(2, .ptr 2 0)], [(1, .i64), (8, .i64), (9, .i64)], [(2, .box [.d .graph])], []⟩
noncomputable def X_q13z_s0 : Tm := ⟨[], [], [], []⟩
noncomputable def R_q13z_s0 : Tm := ⟨[], [(4, (.ptr .node))], [], []⟩
noncomputable def L_q13z_s0 {ρ : Type} (n : Nat) : LOrc ρ := lorcNil
omit [Tabs] [QuietD Tryd.prog] [UDef] [UTabs] in
theorem s_q13z_s0 {ρ : Type} (n : Nat) (rec : T_q13z_s0.den → Option ρ) kx kr s : dStep Tryd.prog 25 TT M_q13z (O_q13z n) (L_q13z_s0 n) dorcNil 0 (lbody 1000 C_q13z 0) T_q13z_s0 X_q13z_s0 R_q13z_s0 ⟨[], [], []⟩ rec kx kr s = q13z_s0 n rec kx kr s := by kernel_rfl
noncomputable def L_q13z {ρ : Type} (n : Nat) : LOrc ρ := lorcCons 0 (loopL 25 0 n T_q13z_s0 X_q13z_s0 R_q13z_s0 ⟨[], [], []⟩ (q13z_s0 n)) (lorcNil)
omit [Tabs] [QuietD Tryd.prog] [UDef] [UTabs] in
theorem e_q13z (n : Nat) (x) : evF Tryd.prog 25 TT M_q13z F_q13z (O_q13z n) (L_q13z n) dorcNil ⟨[], [], []⟩ [.tmp 4] C_q13z x = q13z n x := by kernel_rfl
omit [UDef] [UTabs] in
theorem ok_q13z (n : Nat) : Contract Tryd.prog 11 F_q13z (q13z n) :=
  Contract.of_ev (c := C_q13z) (N := 25) Tryd.func11 (by kernel_rfl) (by kernel_rfl) (by kernel_rfl) (by kernel_rfl) (O_q13z_ok n) dorcNil_ok (.of (l := [(0, (lbody 1000 C_q13z 0))]) (by kernel_rfl) ⟨.head (loopL_sound (O_q13z_ok n) dorcNil_ok (.of (l := []) (by kernel_rfl) trivial) (s_q13z_s0 n)), trivial⟩) (e_q13z n)

noncomputable def C_q4z : Code := bodyOf Tryd.f10
noncomputable def M_q4z : List (Nat × ArgM) := [(31, ⟨[], [], [], true⟩), (32, ⟨[], [], [], true⟩), (33, ⟨[], [], [], true⟩)]
instance : DfOk M_q4z := .none rfl
noncomputable def O_q4z {ρ : Type} (n : Nat) : Orc ρ := orcCons 31 F_q3z (q3z n) (orcCons 32 F_q5z (q5z n) (orcCons 11 F_q13z (q13z n) (orcCons 33 F_q12z (q12z) (orcNil))))
omit [UDef] in
theorem O_q4z_ok {ρ : Type} (n : Nat) : (O_q4z n : Orc ρ).ok Tryd.prog := orcCons_ok (by kernel_rfl) (ok_q3z n) (orcCons_ok (by kernel_rfl) (ok_q5z n) (orcCons_ok (by kernel_rfl) (ok_q13z n) (orcCons_ok (by kernel_rfl) (ok_q12z) (orcNil_ok))))
noncomputable def T_q4z_s0 : Tm := ⟨[(1, .ptr 1 0)], [(3, .i64), (4, .i64), (23, (.lst .node)), (24, .i64), (25, .i64)], [(1, .box [.d .graph])], []⟩
noncomputable def X_q4z_s0 : Tm := ⟨[(1, .ptr 1 0)], [(3, .i64)], [(1, .box [.d .graph])], []⟩
noncomputable def R_q4z_s0 : Tm := ⟨[], [(2, .i64)], [], []⟩
noncomputable def L_q4z_s0 {ρ : Type} (n : Nat) : LOrc ρ := lorcNil
omit [Tabs] [QuietD Tryd.prog] [UDef] [UTabs] in
theorem s_q4z_s0 {ρ : Type} (n : Nat) (rec : T_q4z_s0.den → Option ρ) kx kr s : dStep Tryd.prog 108 TT M_q4z (O_q4z n) (L_q4z_s0 n) (evDraw Tryd.prog 108 TT M_q4z (O_q4z n)) 0 (lbody 1000 C_q4z 0) T_q4z_s0 X_q4z_s0 R_q4z_s0 ⟨[], [], []⟩ rec kx kr s = q4z_s0 n rec kx kr s := by kernel_rfl
noncomputable def T_q4z_s2 : Tm := ⟨[(1, .ptr 1 0)], [(3, .i64), (4, .i64), (51, (.lst .edg)), (52, .i64), (53, .i64)], [(1, .box [.d .graph])], []⟩
noncomputable def X_q4z_s2 : Tm := ⟨[(1, .ptr 1 0)], [(3, .i64)], [(1, .box [.d .graph])], []⟩
noncomputable def R_q4z_s2 : Tm := ⟨[], [(2, .i64)], [], []⟩
noncomputable def L_q4z_s2 {ρ : Type} (n : Nat) : LOrc ρ := lorcNil
omit [Tabs] [QuietD Tryd.prog] [UDef] [UTabs] in
theorem s_q4z_s2 {ρ : Type} (n : Nat) (rec : T_q4z_s2.den → Option ρ) kx kr s : dStep Tryd.prog 108 TT M_q4z (O_q4z n) (L_q4z_s2 n) (evDraw Tryd.prog 108 TT M_q4z (O_q4z n)) 2 (lbody 1000 C_q4z 1) T_q4z_s2 X_q4z_s2 R_q4z_s2 ⟨[], [], []⟩ rec kx kr s = q4z_s2 n rec kx kr s := by kernel_rfl
noncomputable def L_q4z {ρ : Type} (n : Nat) : LOrc ρ := lorcCons 0 (loopL 108 0 n T_q4z_s0 X_q4z_s0 R_q4z_s0 ⟨[], [], []⟩ (q4z_s0 n)) (lorcCons 2 (loopL 108 2 n T_q4z_s2 X_q4z_s2 R_q4z_s2 ⟨[], [], []⟩ (q4z_s2 n)) (lorcNil))
omit [Tabs] [QuietD Tryd.prog] [UDef] [UTabs] in
theorem e_q4z (n : Nat) (x) : evF Tryd.prog 108 TT M_q4z F_q4z (O_q4z n) (L_q4z n) (evDraw Tryd.prog 108 TT M_q4z (O_q4z n)) ⟨[], [], []⟩ [.tmp 2] C_q4z x = q4z n x := by kernel_rfl
omit [UDef] in
theorem ok_q4z (n : Nat) : Contract Tryd.prog 10 F_q4z (q4z n) :=
  Contract.of_ev (c := C_q4z) (N := 108) Tryd.func10 (by kernel_rfl) (by kernel_rfl) (by kernel_rfl) (by kernel_rfl) (O_q4z_ok n) (evDraw_ok (O_q4z_ok n) (by kernel_rfl)) (.of (l := [(0, (lbody 1000 C_q4z 0)), (2, (lbody 1000 C_q4z 1))]) (by kernel_rfl) ⟨.head (loopL_sound (O_q4z_ok n) (evDraw_ok (O_q4z_ok n) (by kernel_rfl)) (.of (l := []) (by kernel_rfl) trivial) (s_q4z_s0 n)), ⟨.tail rfl (.head (loopL_sound (O_q4z_ok n) (evDraw_ok (O_q4z_ok n) (by kernel_rfl)) (.of (l := []) (by kernel_rfl) trivial) (s_q4z_s2 n))), trivial⟩⟩) (e_q4z n)

noncomputable def F_q9z : FnT := ⟨0, ⟨[], [], [], []⟩, [.v .bool], []⟩
noncomputable def F_q14z : FnT := ⟨0, ⟨[], [], [], []⟩, [.v .graph], []⟩
noncomputable def C_q14z : Code := bodyOf Tryd.f29
noncomputable def M_q14z : List (Nat × ArgM) := []
instance : DfOk M_q14z := .none rfl
noncomputable def O_q14z {ρ : Type} : Orc ρ := orcNil
omit [QuietD Tryd.prog] [UDef] [UTabs] in
theorem O_q14z_ok {ρ : Type} : (O_q14z : Orc ρ).ok Tryd.prog := orcNil_ok
noncomputable def L_q14z {ρ : Type} : LOrc ρ := lorcNil
omit [Tabs] [QuietD Tryd.prog] [UDef] [UTabs] in
theorem e_q14z (x) : evF Tryd.prog 10 TT M_q14z F_q14z (O_q14z) (L_q14z) dorcNil ⟨[], [], []⟩ [.cell 0 25] C_q14z x = q14z x := by kernel_rfl
omit [UDef] [UTabs] in
theorem ok_q14z : Contract Tryd.prog 29 F_q14z (q14z) :=
  Contract.of_ev (c := C_q14z) (N := 10) Tryd.func29 (by kernel_rfl) (by kernel_rfl) (by kernel_rfl) (by kernel_rfl) (O_q14z_ok) dorcNil_ok (.of (l := []) (by kernel_rfl) trivial) (e_q14z)

noncomputable def F_reach_All : FnT := ⟨2, ⟨[], [(0, .graph), (1, .str)], [], []⟩, [.v (.lst .pair), .v .i64], []⟩
noncomputable def F_reach_Set : FnT := ⟨2, ⟨[], [(0, .graph), (1, .str)], [], []⟩, [.v (.map .pair .bool)], []⟩
noncomputable def F_q1z : FnT := ⟨1, ⟨[], [(0, (.lst .i64))], [], []⟩, [.ref (.own 5)], [(5, .arr 3 .i64)]⟩
noncomputable def C_q1z : Code := bodyOf Tryd.f14
noncomputable def M_q1z : List (Nat × ArgM) := []
instance : DfOk M_q1z := .none rfl
noncomputable def O_q1z {ρ : Type} : Orc ρ := orcNil
omit [QuietD Tryd.prog] [UDef] [UTabs] in
theorem O_q1z_ok {ρ : Type} : (O_q1z : Orc ρ).ok Tryd.prog := orcNil_ok
noncomputable def L_q1z {ρ : Type} : LOrc ρ := lorcNil
omit [Tabs] [QuietD Tryd.prog] [UDef] [UTabs] in
theorem e_q1z (x) : evF Tryd.prog 8 TT M_q1z F_q1z (O_q1z) (L_q1z) dorcNil ⟨[], [(2, 5, 3, 1)], []⟩ [.tmp 2] C_q1z x = q1z x := by kernel_rfl
omit [UDef] [UTabs] in
theorem ok_q1z : Contract Tryd.prog 14 F_q1z (q1z) :=
  Contract.of_ev (c := C_q1z) (N := 8) Tryd.func14 (by kernel_rfl) (by kernel_rfl) (by kernel_rfl) (by kernel_rfl) (O_q1z_ok) dorcNil_ok (.of (l := []) (by kernel_rfl) trivial) (e_q1z)

noncomputable def C_reach_Set : Code := bodyOf Tryd.f19
noncomputable def M_reach_Set : List (Nat × ArgM) := [(999999999, ⟨[1], [], [], false⟩), (14, ⟨[], [], [5], false⟩)]
instance : DfOk M_reach_Set := .none rfl
noncomputable def O_reach_Set {ρ : Type} (n : Nat) : Orc ρ := orcCons 23 F_next (nextN) (orcCons 14 F_q1z (q1z) (orcNil))
omit [UDef] [UTabs] in
theorem O_reach_Set_ok {ρ : Type} (n : Nat) : (O_reach_Set n : Orc ρ).ok Tryd.prog := orcCons_ok (by kernel_rfl) (nextN_ok) (orcCons_ok (by kernel_rfl) (ok_q1z) (orcNil_ok))
noncomputable def T_reach_Set_s2 : Tm := ⟨[(6, .mpr 15), (8, .ptr 8 0), (9, .own 27)], [(5, (.map .i64 (.lst .i64))), (17, (.lst .node)), (18, .i64), (19, .i64)], [(8, .box [.d .node]), (15, .mp 57 .pair .bool false), (27, .arr 3 .i64)], []⟩
noncomputable def X_reach_Set_s2 : Tm := ⟨[(6, .mpr 15)], [(5, (.map .i64 (.lst .i64))), (17, (.lst .node)), (18, .i64), (19, .i64)], [(15, .mp 57 .pair .bool false)], []⟩
noncomputable def R_reach_Set_s2 : Tm := ⟨[], [], [], []⟩
noncomputable def L_reach_Set_s2 {ρ : Type} (n : Nat) : LOrc ρ := lorcNil
omit [Tabs] [QuietD Tryd.prog] [UDef] [UTabs] in
theorem s_reach_Set_s2 {ρ : Type} (n : Nat) (rec : T_reach_Set_s2.den → Option ρ) kx kr s : dStep Tryd.prog 59 TT M_reach_Set (O_reach_Set n) (L_reach_Set_s2 n) dorcNil 2 (lbody 0 (lbody 1000 C_reach_Set 0) 0) T_reach_Set_s2 X_reach_Set_s2 R_reach_Set_s2 ⟨[], [(9, 9, 3, 1)], []⟩ rec kx kr s = reach_Set_s2 n rec kx kr s := by kernel_rfl
noncomputable def T_reach_Set_s0 : Tm := ⟨[(6, .mpr 15)], [(5, (.map .i64 (.lst .i64))), (17, (.lst .node)), (18, .i64), (19, .i64)], [(15, .mp 57 .pair .bool false)], []⟩
noncomputable def X_reach_Set_s0 : Tm := ⟨[(6, .mpr 15)], [], [(15, .mp 57 .pair .bool false)], []⟩
noncomputable def R_reach_Set_s0 : Tm := ⟨[], [], [], []⟩
noncomputable def L_reach_Set_s0 {ρ : Type} (n : Nat) : LOrc ρ := lorcCons 2 (loopL 59 2 n T_reach_Set_s2 X_reach_Set_s2 R_reach_Set_s2 ⟨[], [(9, 9, 3, 1)], []⟩ (reach_Set_s2 n)) (lorcNil)
omit [Tabs] [QuietD Tryd.prog] [UDef] [UTabs] in
theorem s_reach_Set_s0 {ρ : Type} (n : Nat) (rec : T_reach_Set_s0.den → Option ρ) kx kr s : dStep Tryd.prog 59 TT M_reach_Set (O_reach_Set n) (L_reach_Set_s0 n) dorcNil 0 (lbody 1000 C_reach_Set 0) T_reach_Set_s0 X_reach_Set_s0 R_reach_Set_s0 ⟨[], [], []⟩ rec kx kr s = reach_Set_s0 n rec kx kr s := by kernel_rfl
noncomputable def L_reach_Set {ρ : Type} (n : Nat) : LOrc ρ := lorcCons 0 (loopL 59 0 n T_reach_Set_s0 X_reach_Set_s0 R_reach_Set_s0 ⟨[], [], []⟩ (reach_Set_s0 n)) (lorcNil)
omit [Tabs] [QuietD Tryd.prog] [UDef] [UTabs] in
theorem e_reach_Set (n : Nat) (x) : evF Tryd.prog 59 TT M_reach_Set F_reach_Set (O_reach_Set n) (L_reach_Set n) dorcNil ⟨[], [], []⟩ [.tmp 4] C_reach_Set x = reach_Set n x := by kernel_rfl
omit [UDef] [UTabs] in
theorem ok_reach_Set (n : Nat) : Contract Tryd.prog 19 F_reach_Set (reach_Set n) :=
  Contract.of_ev (c := C_reach_Set) (N := 59) Tryd.func19 (by kernel_rfl) (by kernel_rfl) (by kernel_rfl) (by kernel_rfl) (O_reach_Set_ok n) dorcNil_ok (.of (l := [(0, (lbody 1000 C_reach_Set 0))]) (by kernel_rfl) ⟨.head (loopL_sound (O_reach_Set_ok n) dorcNil_ok (.of (l := [(2, (lbody 0 (lbody 1000 C_reach_Set 0) 0))]) (by kernel_rfl) ⟨.head (loopL_sound (O_reach_Set_ok n) dorcNil_ok (.of (l := []) (by kernel_rfl) trivial) (s_reach_Set_s2 n)), trivial⟩) (s_reach_Set_s0 n)), trivial⟩) (e_reach_Set n)

noncomputable def F_q20z : FnT := ⟨1, ⟨[], [(0, (.map .pair .bool))], [], []⟩, [.v (.lst .pair)], []⟩
noncomputable def C_q20z : Code := bodyOf Tryd.f24
noncomputable def M_q20z : List (Nat × ArgM) := [(26, ⟨[1000], [], [], false⟩)]
instance : DfOk M_q20z := .none rfl
noncomputable def O_q20z {ρ : Type} (n : Nat) : Orc ρ := orcCons 26 F_sfPair (sfPair) (orcNil)
omit [QuietD Tryd.prog] [UDef] [UTabs] in
theorem O_q20z_ok {ρ : Type} (n : Nat) : (O_q20z n : Orc ρ).ok Tryd.prog := orcCons_ok (by kernel_rfl) (sfPair_ok) (orcNil_ok)
noncomputable def T_q20z_s0 : Tm := ⟨[(3, .own 3), (6, .ptr 6 0)], [], [(3, .arr 59 .pair), (6, .mi .pair .bool)], []⟩
noncomputable def X_q20z_s0 : Tm := ⟨[(3, .own 3)], [], [(3, .arr 59 .pair)], []⟩
noncomputable def R_q20z_s0 : Tm := ⟨[], [], [], []⟩
noncomputable def L_q20z_s0 {ρ : Type} (n : Nat) : LOrc ρ := lorcNil
omit [Tabs] [QuietD Tryd.prog] [UDef] [UTabs] in
theorem s_q20z_s0 {ρ : Type} (n : Nat) (rec : T_q20z_s0.den → Option ρ) kx kr s : dStep Tryd.prog 18 TT M_q20z (O_q20z n) (L_q20z_s0 n) dorcNil 0 (lbody 1000 C_q20z 0) T_q20z_s0 X_q20z_s0 R_q20z_s0 ⟨[], [(3, 3, 59, 2)], []⟩ rec kx kr s = q20z_s0 n rec kx kr s := by kernel_rfl
noncomputable def L_q20z {ρ : Type} (n : Nat) : LOrc ρ := lorcCons 0 (loopL 18 0 n T_q20z_s0 X_q20z_s0 R_q20z_s0 ⟨[], [(3, 3, 59, 2)], []⟩ (q20z_s0 n)) (lorcNil)
omit [Tabs] [QuietD Tryd.prog] [UDef] [UTabs] in
theorem e_q20z (n : Nat) (x) : evF Tryd.prog 18 TT M_q20z F_q20z (O_q20z n) (L_q20z n) dorcNil ⟨[], [], []⟩ [.tmp 2] C_q20z x = q20z n x := by kernel_rfl
omit [UDef] [UTabs] in
theorem ok_q20z (n : Nat) : Contract Tryd.prog 24 F_q20z (q20z n) :=
  Contract.of_ev (c := C_q20z) (N := 18) Tryd.func24 (by kernel_rfl) (by kernel_rfl) (by kernel_rfl) (by kernel_rfl) (O_q20z_ok n) dorcNil_ok (.of (l := [(0, (lbody 1000 C_q20z 0))]) (by kernel_rfl) ⟨.head (loopL_sound (O_q20z_ok n) dorcNil_ok (.of (l := []) (by kernel_rfl) trivial) (s_q20z_s0 n)), trivial⟩) (e_q20z n)

noncomputable def F_q23z : FnT := ⟨1, ⟨[], [(0, (.lst .pair))], [], []⟩, [.v (.lst .pair)], []⟩
noncomputable def C_q23z : Code := bodyOf Tryd.f28
noncomputable def M_q23z : List (Nat × ArgM) := []
instance : DfOk M_q23z := .none rfl
noncomputable def O_q23z {ρ : Type} (n : Nat) : Orc ρ := orcNil
omit [QuietD Tryd.prog] [UDef] [UTabs] in
theorem O_q23z_ok {ρ : Type} (n : Nat) : (O_q23z n : Orc ρ).ok Tryd.prog := orcNil_ok
noncomputable def T_q23z_s0 : Tm := ⟨[(3, .own 3)], [(6, (.lst .pair)), (7, .i64), (8, .i64)], [(3, .arr 34 .pair)], []⟩
noncomputable def X_q23z_s0 : Tm := ⟨[(3, .own 3)], [], [(3, .arr 34 .pair)], []⟩
noncomputable def R_q23z_s0 : Tm := ⟨[], [], [], []⟩
noncomputable def L_q23z_s0 {ρ : Type} (n : Nat) : LOrc ρ := lorcNil
omit [Tabs] [QuietD Tryd.prog] [UDef] [UTabs] in
theorem s_q23z_s0 {ρ : Type} (n : Nat) (rec : T_q23z_s0.den → Option ρ) kx kr s : dStep Tryd.prog 18 TT M_q23z (O_q23z n) (L_q23z_s0 n) dorcNil 0 (lbody 1000 C_q23z 0) T_q23z_s0 X_q23z_s0 R_q23z_s0 ⟨[], [(3, 3, 34, 2)], []⟩ rec kx kr s = q23z_s0 n rec kx kr s := by kernel_rfl
noncomputable def L_q23z {ρ : Type} (n : Nat) : LOrc ρ := lorcCons 0 (loopL 18 0 n T_q23z_s0 X_q23z_s0 R_q23z_s0 ⟨[], [(3, 3, 34, 2)], []⟩ (q23z_s0 n)) (lorcNil)
omit [Tabs] [QuietD Tryd.prog] [UDef] [UTabs] in
theorem e_q23z (n : Nat) (x) : evF Tryd.prog 18 TT M_q23z F_q23z (O_q23z n) (L_q23z n) dorcNil ⟨[], [], []⟩ [.tmp 2] C_q23z x = q23z n x := by kernel_rfl
omit [UDef] [UTabs] in
theorem ok_q23z (n : Nat) : Contract Tryd.prog 28 F_q23z (q23z n) :=
  Contract.of_ev (c := C_q23z) (N := 18) Tryd.func28 (by kernel_rfl) (by kernel_rfl) (by kernel_rfl) (by kernel_rfl) (O_q23z_ok n) dorcNil_ok (.of (l := [(0, (lbody 1000 C_q23z 0))]) (by kernel_rfl) ⟨.head (loopL_sound (O_q23z_ok n) dorcNil_ok (.of (l := []) (by kernel_rfl) trivial) (s_q23z_s0 n)), trivial⟩) (e_q23z n)

noncomputable def C_reach_All : Code := bodyOf Tryd.f7
noncomputable def M_reach_All : List (Nat × ArgM) := [(18, ⟨[], [], [], true⟩)]
instance : DfOk M_reach_All := .none rfl
noncomputable def O_reach_All {ρ : Type} (n : Nat) : Orc ρ := orcCons 18 F_q21z (q21z n) (orcCons 19 F_reach_Set (reach_Set n) (orcCons 24 F_q20z (q20z n) (orcCons 28 F_q23z (q23z n) (orcNil))))
omit [UDef] in
theorem O_reach_All_ok {ρ : Type} (n : Nat) : (O_reach_All n : Orc ρ).ok Tryd.prog := orcCons_ok (by kernel_rfl) (ok_q21z n) (orcCons_ok (by kernel_rfl) (ok_reach_Set n) (orcCons_ok (by kernel_rfl) (ok_q20z n) (orcCons_ok (by kernel_rfl) (ok_q23z n) (orcNil_ok))))
noncomputable def L_reach_All {ρ : Type} (n : Nat) : LOrc ρ := lorcNil
omit [Tabs] [QuietD Tryd.prog] [UDef] [UTabs] in
theorem e_reach_All (n : Nat) (x) : evF Tryd.prog 17 TT M_reach_All F_reach_All (O_reach_All n) (L_reach_All n) dorcNil ⟨[], [], []⟩ [.tmp 4, .tmp 5] C_reach_All x = reach_All n x := by kernel_rfl
omit [UDef] in
theorem ok_reach_All (n : Nat) : Contract Tryd.prog 7 F_reach_All (reach_All n) :=
  Contract.of_ev (c := C_reach_All) (N := 17) Tryd.func7 (by kernel_rfl) (by kernel_rfl) (by kernel_rfl) (by kernel_rfl) (O_reach_All_ok n) dorcNil_ok (.of (l := []) (by kernel_rfl) trivial) (e_reach_All n)

noncomputable def F_q2z : FnT := ⟨2, ⟨[], [(0, (.lst .pair)), (1, (.lst .pair))], [], []⟩, [.v .bool], []⟩
noncomputable def C_q2z : Code := bodyOf Tryd.f8
noncomputable def M_q2z : List (Nat × ArgM) := []
instance : DfOk M_q2z := .none rfl
noncomputable def O_q2z {ρ : Type} (n : Nat) : Orc ρ := orcNil
omit [QuietD Tryd.prog] [UDef] [UTabs] in
theorem O_q2z_ok {ρ : Type} (n : Nat) : (O_q2z n : Orc ρ).ok Tryd.prog := orcNil_ok
noncomputable def T_q2z_s0 : Tm := ⟨[], [(0, (.lst .pair)), (1, (.lst .pair)), (12, .i64), (13, .i64)], [], []⟩
noncomputable def X_q2z_s0 : Tm := ⟨[], [], [], []⟩
noncomputable def R_q2z_s0 : Tm := ⟨[], [(4, .bool)], [], []⟩
noncomputable def L_q2z_s0 {ρ : Type} (n : Nat) : LOrc ρ := lorcNil
omit [Tabs] [QuietD Tryd.prog] [UDef] [UTabs] in
theorem s_q2z_s0 {ρ : Type} (n : Nat) (rec : T_q2z_s0.den → Option ρ) kx kr s : dStep Tryd.prog 26 TT M_q2z (O_q2z n) (L_q2z_s0 n) (evDraw Tryd.prog 26 TT M_q2z (O_q2z n)) 0 (lbody 1000 C_q2z 0) T_q2z_s0 X_q2z_s0 R_q2z_s0 ⟨[], [], []⟩ rec kx kr s = q2z_s0 n rec kx kr s := by kernel_rfl
noncomputable def L_q2z {ρ : Type} (n : Nat) : LOrc ρ := lorcCons 0 (loopL 26 0 n T_q2z_s0 X_q2z_s0 R_q2z_s0 ⟨[], [], []⟩ (q2z_s0 n)) (lorcNil)
omit [Tabs] [QuietD Tryd.prog] [UDef] [UTabs] in
theorem e_q2z (n : Nat) (x) : evF Tryd.prog 26 TT M_q2z F_q2z (O_q2z n) (L_q2z n) (evDraw Tryd.prog 26 TT M_q2z (O_q2z n)) ⟨[], [], []⟩ [.tmp 4] C_q2z x = q2z n x := by kernel_rfl
omit [UDef] [UTabs] in
theorem ok_q2z (n : Nat) : Contract Tryd.prog 8 F_q2z (q2z n) :=
  Contract.of_ev (c := C_q2z) (N := 26) Tryd.func8 (by kernel_rfl) (by kernel_rfl) (by kernel_rfl) (by kernel_rfl) (O_q2z_ok n) (evDraw_ok (O_q2z_ok n) (by kernel_rfl)) (.of (l := [(0, (lbody 1000 C_q2z 0))]) (by kernel_rfl) ⟨.head (loopL_sound (O_q2z_ok n) (evDraw_ok (O_q2z_ok n) (by kernel_rfl)) (.of (l := []) (by kernel_rfl) trivial) (s_q2z_s0 n)), trivial⟩) (e_q2z n)

noncomputable def F_q8z : FnT := ⟨2, ⟨[], [(0, (.lst .i64)), (1, (.lst .i64))], [], []⟩, [.v .bool], []⟩
noncomputable def C_q8z : Code := bodyOf Tryd.f17
noncomputable def M_q8z : List (Nat × ArgM) := []
instance : DfOk M_q8z := .none rfl
noncomputable def O_q8z {ρ : Type} (n : Nat) : Orc ρ := orcNil
omit [QuietD Tryd.prog] [UDef] [UTabs] in
theorem O_q8z_ok {ρ : Type} (n : Nat) : (O_q8z n : Orc ρ).ok Tryd.prog := orcNil_ok
noncomputable def T_q8z_s0 : Tm := ⟨[], [(0, (.lst .i64)), (1, (.lst .i64)), (12, .i64), (13, .i64)], [], []⟩
noncomputable def X_q8z_s0 : Tm := ⟨[], [], [], []⟩
noncomputable def R_q8z_s0 : Tm := ⟨[], [(4, .bool)], [], []⟩
noncomputable def L_q8z_s0 {ρ : Type} (n : Nat) : LOrc ρ := lorcNil
omit [Tabs] [QuietD Tryd.prog] [UDef] [UTabs] in
theorem s_q8z_s0 {ρ : Type} (n : Nat) (rec : T_q8z_s0.den → Option ρ) kx kr s : dStep Tryd.prog 26 TT M_q8z (O_q8z n) (L_q8z_s0 n) (evDraw Tryd.prog 26 TT M_q8z (O_q8z n)) 0 (lbody 1000 C_q8z 0) T_q8z_s0 X_q8z_s0 R_q8z_s0 ⟨[], [], []⟩ rec kx kr s = q8z_s0 n rec kx kr s := by kernel_rfl
noncomputable def L_q8z {ρ : Type} (n : Nat) : LOrc ρ := lorcCons 0 (loopL 26 0 n T_q8z_s0 X_q8z_s0 R_q8z_s0 ⟨[], [], []⟩ (q8z_s0 n)) (lorcNil)
omit [Tabs] [QuietD Tryd.prog] [UDef] [UTabs] in
theorem e_q8z (n : Nat) (x) : evF Tryd.prog 26 TT M_q8z F_q8z (O_q8z n) (L_q8z n) (evDraw Tryd.prog 26 TT M_q8z (O_q8z n)) ⟨[], [], []⟩ [.tmp 4] C_q8z x = q8z n x := by kernel_rfl
omit [UDef] [UTabs] in
theorem ok_q8z (n : Nat) : Contract Tryd.prog 17 F_q8z (q8z n) :=
  Contract.of_ev (c := C_q8z) (N := 26) Tryd.func17 (by kernel_rfl) (by kernel_rfl) (by kernel_rfl) (by kernel_rfl) (O_q8z_ok n) (evDraw_ok (O_q8z_ok n) (by kernel_rfl)) (.of (l := [(0, (lbody 1000 C_q8z 0))]) (by kernel_rfl) ⟨.head (loopL_sound (O_q8z_ok n) (evDraw_ok (O_q8z_ok n) (by kernel_rfl)) (.of (l := []) (by kernel_rfl) trivial) (s_q8z_s0 n)), trivial⟩) (e_q8z n)

noncomputable def C_q9z : Code := bodyOf Tryd.f6
noncomputable def M_q9z : List (Nat × ArgM) := [(8, ⟨[], [], [], true⟩), (17, ⟨[], [], [], true⟩)]
instance : DfOk M_q9z := .none rfl
noncomputable def O_q9z {ρ : Type} (n : Nat) : Orc ρ := orcCons 29 F_q14z (q14z) (orcCons 7 F_reach_All (reach_All n) (orcCons 9 F_q28z (q28z n) (orcCons 8 F_q2z (q2z n) (orcCons 17 F_q8z (q8z n) (orcNil)))))
omit [UDef] in
theorem O_q9z_ok {ρ : Type} (n : Nat) : (O_q9z n : Orc ρ).ok Tryd.prog := orcCons_ok (by kernel_rfl) (ok_q14z) (orcCons_ok (by kernel_rfl) (ok_reach_All n) (orcCons_ok (by kernel_rfl) (ok_q28z n) (orcCons_ok (by kernel_rfl) (ok_q2z n) (orcCons_ok (by kernel_rfl) (ok_q8z n) (orcNil_ok)))))
noncomputable def L_q9z {ρ : Type} (n : Nat) : LOrc ρ := lorcNil
omit [Tabs] [QuietD Tryd.prog] [UDef] [UTabs] in
theorem e_q9z (n : Nat) (x) : evF Tryd.prog 34 TT M_q9z F_q9z (O_q9z n) (L_q9z n) dorcNil ⟨[], [], []⟩ [.tmp 0] C_q9z x = q9z n x := by kernel_rfl
omit [UDef] in
theorem ok_q9z (n : Nat) : Contract Tryd.prog 6 F_q9z (q9z n) :=
  Contract.of_ev (c := C_q9z) (N := 34) Tryd.func6 (by kernel_rfl) (by kernel_rfl) (by kernel_rfl) (by kernel_rfl) (O_q9z_ok n) dorcNil_ok (.of (l := []) (by kernel_rfl) trivial) (e_q9z n)

noncomputable def F_q10z : FnT := ⟨2, ⟨[], [(0, .graph), (1, .str)], [], []⟩, [.v (.map .pair .bool)], []⟩
noncomputable def C_q10z : Code := bodyOf Tryd.f12
noncomputable def M_q10z : List (Nat × ArgM) := []
instance : DfOk M_q10z := .none rfl
noncomputable def O_q10z {ρ : Type} (n : Nat) : Orc ρ := orcNil
omit [QuietD Tryd.prog] [UDef] [UTabs] in
theorem O_q10z_ok {ρ : Type} (n : Nat) : (O_q10z n : Orc ρ).ok Tryd.prog := orcNil_ok
noncomputable def T_q10z_s0 : Tm := ⟨[(2, .ptr 2 0), (5, .mpr 14)], [(1, .str), (16, (.lst .edg)), (17, .i64), (18, .i64)], [(2, .box [.d .graph]), (14, .mp 42 .pair .bool false)], []⟩
noncomputable def X_q10z_s0 : Tm := ⟨[(2, .ptr 2 0), (5, .mpr 14)], [], [(2, .box [.d .graph]), (14, .mp 42 .pair .bool false)], []⟩
noncomputable def R_q10z_s0 : Tm := ⟨[], [], [], []⟩
noncomputable def L_q10z_s0 {ρ : Type} (n : Nat) : LOrc ρ := lorcNil
omit [Tabs] [QuietD Tryd.prog] [UDef] [UTabs] in
theorem s_q10z_s0 {ρ : Type} (n : Nat) (rec : T_q10z_s0.den → Option ρ) kx kr s : dStep Tryd.prog 83 TT M_q10z (O_q10z n) (L_q10z_s0 n) dorcNil 0 (lbody 1000 C_q10z 0) T_q10z_s0 X_q10z_s0 R_q10z_s0 ⟨[], [], []⟩ rec kx kr s = q10z_s0 n rec kx kr s := by kernel_rfl
noncomputable def T_q10z_s6 : Tm := ⟨[(2, .ptr 2 0), (5, .mpr 14), (9, .ptr 9 0), (11, .ptr 11 0)], [(38, (.lst .node)), (39, .i64), (40, .i64), (45, (.lst .node)), (46, .i64), (47, .i64), (60, (.lst .node)), (61, .i64), (62, .i64)], [(2, .box [.d .graph]), (9, .box [.d .node]), (11, .box [.d .node]), (14, .mp 42 .pair .bool false)], []⟩
noncomputable def X_q10z_s6 : Tm := ⟨[(2, .ptr 2 0), (5, .mpr 14), (9, .ptr 9 0)], [(38, (.lst .node)), (39, .i64), (40, .i64), (45, (.lst .node)), (46, .i64), (47, .i64)], [(2, .box [.d .graph]), (9, .box [.d .node]), (14, .mp 42 .pair .bool false)], []⟩
noncomputable def R_q10z_s6 : Tm := ⟨[], [], [], []⟩
noncomputable def L_q10z_s6 {ρ : Type} (n : Nat) : LOrc ρ := lorcNil
omit [Tabs] [QuietD Tryd.prog] [UDef] [UTabs] in
theorem s_q10z_s6 {ρ : Type} (n : Nat) (rec : T_q10z_s6.den → Option ρ) kx kr s : dStep Tryd.prog 83 TT M_q10z (O_q10z n) (L_q10z_s6 n) dorcNil 6 (lbody 4 (lbody 2 (lbody 1000 C_q10z 1) 0) 0) T_q10z_s6 X_q10z_s6 R_q10z_s6 ⟨[], [], []⟩ rec kx kr s = q10z_s6 n rec kx kr s := by kernel_rfl
noncomputable def T_q10z_s4 : Tm := ⟨[(2, .ptr 2 0), (5, .mpr 14), (9, .ptr 9 0)], [(38, (.lst .node)), (39, .i64), (40, .i64), (45, (.lst .node)), (46, .i64), (47, .i64)], [(2, .box [.d .graph]), (9, .box [.d .node]), (14, .mp 42 .pair .bool false)], []⟩
noncomputable def X_q10z_s4 : Tm := ⟨[(2, .ptr 2 0), (5, .mpr 14)], [(38, (.lst .node)), (39, .i64), (40, .i64)], [(2, .box [.d .graph]), (14, .mp 42 .pair .bool false)], []⟩
noncomputable def R_q10z_s4 : Tm := ⟨[], [], [], []⟩
noncomputable def L_q10z_s4 {ρ : Type} (n : Nat) : LOrc ρ := lorcCons 6 (loopL 83 6 n T_q10z_s6 X_q10z_s6 R_q10z_s6 ⟨[], [], []⟩ (q10z_s6 n)) (lorcNil)
omit [Tabs] [QuietD Tryd.prog] [UDef] [UTabs] in
theorem s_q10z_s4 {ρ : Type} (n : Nat) (rec : T_q10z_s4.den → Option ρ) kx kr s : dStep Tryd.prog 83 TT M_q10z (O_q10z n) (L_q10z_s4 n) dorcNil 4 (lbody 2 (lbody 1000 C_q10z 1) 0) T_q10z_s4 X_q10z_s4 R_q10z_s4 ⟨[], [], []⟩ rec kx kr s = q10z_s4 n rec kx kr s := by kernel_rfl
noncomputable def T_q10z_s2 : Tm := ⟨[(2, .ptr 2 0), (5, .mpr 14)], [(38, (.lst .node)), (39, .i64), (40, .i64)], [(2, .box [.d .graph]), (14, .mp 42 .pair .bool false)], []⟩
noncomputable def X_q10z_s2 : Tm := ⟨[(5, .mpr 14)], [], [(14, .mp 42 .pair .bool false)], []⟩
noncomputable def R_q10z_s2 : Tm := ⟨[], [], [], []⟩
noncomputable def L_q10z_s2 {ρ : Type} (n : Nat) : LOrc ρ := lorcCons 4 (loopL 83 4 n T_q10z_s4 X_q10z_s4 R_q10z_s4 ⟨[], [], []⟩ (q10z_s4 n)) (lorcNil)
omit [Tabs] [QuietD Tryd.prog] [UDef] [UTabs] in
theorem s_q10z_s2 {ρ : Type} (n : Nat) (rec : T_q10z_s2.den → Option ρ) kx kr s : dStep Tryd.prog 83 TT M_q10z (O_q10z n) (L_q10z_s2 n) dorcNil 2 (lbody 1000 C_q10z 1) T_q10z_s2 X_q10z_s2 R_q10z_s2 ⟨[], [], []⟩ rec kx kr s = q10z_s2 n rec kx kr s := by kernel_rfl
noncomputable def L_q10z {ρ : Type} (n : Nat) : LOrc ρ := lorcCons 0 (loopL 83 0 n T_q10z_s0 X_q10z_s0 R_q10z_s0 ⟨[], [], []⟩ (q10z_s0 n)) (lorcCons 2 (loopL 83 2 n T_q10z_s2 X_q10z_s2 R_q10z_s2 ⟨[], [], []⟩ (q10z_s2 n)) (lorcNil))
omit [Tabs] [QuietD Tryd.prog] [UDef] [UTabs] in
theorem e_q10z (n : Nat) (x) : evF Tryd.prog 83 TT M_q10z F_q10z (O_q10z n) (L_q10z n) dorcNil ⟨[], [], []⟩ [.tmp 4] C_q10z x = q10z n x := by kernel_rfl
omit [UDef] [UTabs] in
theorem ok_q10z (n : Nat) : Contract Tryd.prog 12 F_q10z (q10z n) :=
  Contract.of_ev (c := C_q10z) (N := 83) Tryd.func12 (by kernel_rfl) (by kernel_rfl) (by kernel_rfl) (by kernel_rfl) (O_q10z_ok n) dorcNil_ok (.of (l := [(0, (lbody 1000 C_q10z 0)), (2, (lbody 1000 C_q10z 1))]) (by kernel_rfl) ⟨.head (loopL_sound (O_q10z_ok n) dorcNil_ok (.of (l := []) (by kernel_rfl) trivial) (s_q10z_s0 n)), ⟨.tail rfl (.head (loopL_sound (O_q10z_ok n) dorcNil_ok (.of (l := [(4, (lbody 2 (lbody 1000 C_q10z 1) 0))]) (by kernel_rfl) ⟨.head (loopL_sound (O_q10z_ok n) dorcNil_ok (.of (l := [(6, (lbody 4 (lbody 2 (lbody 1000 C_q10z 1) 0) 0))]) (by kernel_rfl) ⟨.head (loopL_sound (O_q10z_ok n) dorcNil_ok (.of (l := []) (by kernel_rfl) trivial) (s_q10z_s6 n)), trivial⟩) (s_q10z_s4 n)), trivial⟩) (s_q10z_s2 n))), trivial⟩⟩) (e_q10z n)

noncomputable def F_q11z : FnT := ⟨2, ⟨[], [(0, .graph), (1, .i64)], [], []⟩, [.opt .edg], []⟩
noncomputable def C_q11z : Code := bodyOf Tryd.f13
noncomputable def M_q11z : List (Nat × ArgM) := []
instance : DfOk M_q11z := .none rfl
noncomputable def O_q11z {ρ : Type} (n : Nat) : Orc ρ := orcNil
omit [QuietD Tryd.prog] [UDef] [UTabs] in
theorem O_q11z_ok {ρ : Type} (n : Nat) : (O_q11z n : Orc ρ).ok Tryd.prog := orcNil_ok
noncomputable def T_q11z_s0 : Tm := ⟨[(2, .ptr 2 0)], [(1, .i64), (8, .i64), (9, .i64)], [(2, .box [.d .graph])], []⟩
noncomputable def X_q11z_s0 : Tm := ⟨[], [], [], []⟩
noncomputable def R_q11z_s0 : Tm := ⟨[], [(4, (.ptr .edg))], [], []⟩
noncomputable def L_q11z_s0 {ρ : Type} (n : Nat) : LOrc ρ := lorcNil
omit [Tabs] [QuietD Tryd.prog] [UDef] [UTabs] in
theorem s_q11z_s0 {ρ : Type} (n : Nat) (rec : T_q11z_s0.den → Option ρ) kx kr s : dStep Tryd.prog 25 TT M_q11z (O_q11z n) (L_q11z_s0 n) dorcNil 0 (lbody 1000 C_q11z 0) T_q11z_s0 X_q11z_s0 R_q11z_s0 ⟨[], [], []⟩ rec kx kr s = q11z_s0 n rec kx kr s := by kernel_rfl
noncomputable def L_q11z {ρ : Type} (n : Nat) : LOrc ρ := lorcCons 0 (loopL 25 0 n T_q11z_s0 X_q11z_s0 R_q11z_s0 ⟨[], [], []⟩ (q11z_s0 n)) (lorcNil)
omit [Tabs] [QuietD Tryd.prog] [UDef] [UTabs] in
theorem e_q11z (n : Nat) (x) : evF Tryd.prog 25 TT M_q11z F_q11z (O_q11z n) (L_q11z n) dorcNil ⟨[], [], []⟩ [.tmp 4] C_q11z x = q11z n x := by kernel_rfl
omit [UDef] [UTabs] in
theorem ok_q11z (n : Nat) : Contract Tryd.prog 13 F_q11z (q11z n) :=
  Contract.of_ev (c := C_q11z) (N := 25) Tryd.func13 (by kernel_rfl) (by kernel_rfl) (by kernel_rfl) (by kernel_rfl) (O_q11z_ok n) dorcNil_ok (.of (l := [(0, (lbody 1000 C_q11z 0))]) (by kernel_rfl) ⟨.head (loopL_sound (O_q11z_ok n) dorcNil_ok (.of (l := []) (by kernel_rfl) trivial) (s_q11z_s0 n)), trivial⟩) (e_q11z n)

noncomputable def C_q7z : Code := bodyOf Tryd.f4
noncomputable def M_q7z : List (Nat × ArgM) := [(15, ⟨[1000], [], [], false⟩), (10, ⟨[], [], [], true⟩), (6, ⟨[], [], [], true⟩), (14, ⟨[], [], [5], false⟩), (17, ⟨[], [], [], true⟩)]
instance : DfOk M_q7z := .none rfl
noncomputable def O_q7z {ρ : Type} (n : Nat) : Orc ρ := orcCons 9 F_q28z (q28z n) (orcCons 10 F_q4z (q4z n) (orcCons 6 F_q9z (q9z n) (orcCons 11 F_q13z (q13z n) (orcCons 12 F_q10z (q10z n) (orcCons 13 F_q11z (q11z n) (orcCons 14 F_q1z (q1z) (orcCons 15 F_sfLL (sfLL) (orcCons 17 F_q8z (q8z n) (orcNil)))))))))
omit [UDef] in
theorem O_q7z_ok {ρ : Type} (n : Nat) : (O_q7z n : Orc ρ).ok Tryd.prog := orcCons_ok (by kernel_rfl) (ok_q28z n) (orcCons_ok (by kernel_rfl) (ok_q4z n) (orcCons_ok (by kernel_rfl) (ok_q9z n) (orcCons_ok (by kernel_rfl) (ok_q13z n) (orcCons_ok (by kernel_rfl) (ok_q10z n) (orcCons_ok (by kernel_rfl) (ok_q11z n) (orcCons_ok (by kernel_rfl) (ok_q1z) (orcCons_ok (by kernel_rfl) (sfLLC_ok) (orcCons_ok (by kernel_rfl) (ok_q8z n) (orcNil_ok)))))))))
noncomputable def T_q7z_s4 : Tm := ⟨[(4, .ptr 4 0), (13, .own 13), (14, .mpr 77)], [(1, .str), (2, .i64), (3, .i64), (9, (.lst .i64)), (10, .i64), (16, (.lst .i64)), (17, .i64), (78, (.lst (.lst .i64))), (79, .i64), (80, .i64), (105, (.lst .edg)), (106, .i64), (107, .i64)], [(4, .box [.d .graph]), (13, .arr 36 (.lst .i64)), (77, .mp 45 .i64 .bool false)], []⟩
noncomputable def X_q7z_s4 : Tm := ⟨[(4, .ptr 4 0), (13, .own 13), (14, .mpr 77)], [(1, .str), (2, .i64), (3, .i64), (9, (.lst .i64)), (10, .i64), (78, (.lst (.lst .i64))), (79, .i64), (80, .i64)], [(4, .box [.d .graph]), (13, .arr 36 (.lst .i64)), (77, .mp 45 .i64 .bool false)], []⟩
noncomputable def R_q7z_s4 : Tm := ⟨[], [], [], []⟩
noncomputable def L_q7z_s4 {ρ : Type} (n : Nat) : LOrc ρ := lorcNil
omit [Tabs] [QuietD Tryd.prog] [UDef] [UTabs] in
theorem s_q7z_s4 {ρ : Type} (n : Nat) (rec : T_q7z_s4.den → Option ρ) kx kr s : dStep Tryd.prog 166 TT M_q7z (O_q7z n) (L_q7z_s4 n) (evDraw Tryd.prog 166 TT M_q7z (O_q7z n)) 4 (lbody 2 (lbody 0 (lbody 1000 C_q7z 0) 0) 0) T_q7z_s4 X_q7z_s4 R_q7z_s4 ⟨[], [(13, 13, 36, 1)], []⟩ rec kx kr s = q7z_s4 n rec kx kr s := by kernel_rfl
noncomputable def T_q7z_s2 : Tm := ⟨[(4, .ptr 4 0), (13, .own 13), (14, .mpr 77)], [(1, .str), (2, .i64), (3, .i64), (9, (.lst .i64)), (10, .i64), (78, (.lst (.lst .i64))), (79, .i64), (80, .i64)], [(4, .box [.d .graph]), (13, .arr 36 (.lst .i64)), (77, .mp 45 .i64 .bool false)], []⟩
noncomputable def X_q7z_s2 : Tm := ⟨[(4, .ptr 4 0), (13, .own 13)], [(1, .str), (2, .i64), (3, .i64), (9, (.lst .i64)), (10, .i64)], [(4, .box [.d .graph]), (13, .arr 36 (.lst .i64))], []⟩
noncomputable def R_q7z_s2 : Tm := ⟨[], [], [], []⟩
noncomputable def L_q7z_s2 {ρ : Type} (n : Nat) : LOrc ρ := lorcCons 4 (loopL 166 4 n T_q7z_s4 X_q7z_s4 R_q7z_s4 ⟨[], [(13, 13, 36, 1)], []⟩ (q7z_s4 n)) (lorcNil)
omit [Tabs] [QuietD Tryd.prog] [UDef] [UTabs] in
theorem s_q7z_s2 {ρ : Type} (n : Nat) (rec : T_q7z_s2.den → Option ρ) kx kr s : dStep Tryd.prog 166 TT M_q7z (O_q7z n) (L_q7z_s2 n) (evDraw Tryd.prog 166 TT M_q7z (O_q7z n)) 2 (lbody 0 (lbody 1000 C_q7z 0) 0) T_q7z_s2 X_q7z_s2 R_q7z_s2 ⟨[], [(13, 13, 36, 1)], []⟩ rec kx kr s = q7z_s2 n rec kx kr s := by kernel_rfl
noncomputable def T_q7z_s6 : Tm := ⟨[(4, .ptr 4 0)], [(1, .str), (2, .i64), (3, .i64), (9, (.lst .i64)), (10, .i64), (13, (.lst (.lst .i64))), (138, (.lst (.lst .i64))), (139, .i64), (140, .i64)], [(4, .box [.d .graph])], []⟩
noncomputable def X_q7z_s6 : Tm := ⟨[(4, .ptr 4 0)], [(1, .str), (2, .i64), (3, .i64), (9, (.lst .i64)), (10, .i64), (13, (.lst (.lst .i64)))], [(4, .box [.d .graph])], []⟩
noncomputable def R_q7z_s6 : Tm := ⟨[], [(8, .bool)], [], []⟩
noncomputable def L_q7z_s6 {ρ : Type} (n : Nat) : LOrc ρ := lorcNil
omit [Tabs] [QuietD Tryd.prog] [UDef] [UTabs] in
theorem s_q7z_s6 {ρ : Type} (n : Nat) (rec : T_q7z_s6.den → Option ρ) kx kr s : dStep Tryd.prog 166 TT M_q7z (O_q7z n) (L_q7z_s6 n) (evDraw Tryd.prog 166 TT M_q7z (O_q7z n)) 6 (lbody 0 (lbody 1000 C_q7z 0) 1) T_q7z_s6 X_q7z_s6 R_q7z_s6 ⟨[13], [], []⟩ rec kx kr s = q7z_s6 n rec kx kr s := by kernel_rfl
noncomputable def T_q7z_s0 : Tm := ⟨[(4, .ptr 4 0)], [(1, .str), (2, .i64), (3, .i64), (9, (.lst .i64)), (10, .i64), (12, (.lst (.lst .i64)))], [(4, .box [.d .graph])], []⟩
noncomputable def X_q7z_s0 : Tm := ⟨[], [], [], []⟩
noncomputable def R_q7z_s0 : Tm := ⟨[], [(8, .bool)], [], []⟩
noncomputable def L_q7z_s0 {ρ : Type} (n : Nat) : LOrc ρ := lorcCons 2 (loopL 166 2 n T_q7z_s2 X_q7z_s2 R_q7z_s2 ⟨[], [(13, 13, 36, 1)], []⟩ (q7z_s2 n)) (lorcCons 6 (loopL 166 6 n T_q7z_s6 X_q7z_s6 R_q7z_s6 ⟨[13], [], []⟩ (q7z_s6 n)) (lorcNil))
omit [Tabs] [QuietD Tryd.prog] [UDef] [UTabs] in
theorem s_q7z_s0 {ρ : Type} (n : Nat) (rec : T_q7z_s0.den → Option ρ) kx kr s : dStep Tryd.prog 166 TT M_q7z (O_q7z n) (L_q7z_s0 n) (evDraw Tryd.prog 166 TT M_q7z (O_q7z n)) 0 (lbody 1000 C_q7z 0) T_q7z_s0 X_q7z_s0 R_q7z_s0 ⟨[76], [], []⟩ rec kx kr s = q7z_s0 n rec kx kr s := by kernel_rfl
noncomputable def L_q7z {ρ : Type} (n : Nat) : LOrc ρ := lorcCons 0 (loopL 166 0 n T_q7z_s0 X_q7z_s0 R_q7z_s0 ⟨[76], [], []⟩ (q7z_s0 n)) (lorcNil)
omit [Tabs] [QuietD Tryd.prog] [UDef] [UTabs] in
theorem e_q7z (n : Nat) (x) : evF Tryd.prog 166 TT M_q7z F_q7z (O_q7z n) (L_q7z n) (evDraw Tryd.prog 166 TT M_q7z (O_q7z n)) ⟨[], [], []⟩ [.tmp 8] C_q7z x = q7z n x := by kernel_rfl
omit [UDef] in
theorem ok_q7z (n : Nat) : Contract Tryd.prog 4 F_q7z (q7z n) :=
  Contract.of_ev (c := C_q7z) (N := 166) Tryd.func4 (by kernel_rfl) (by kernel_rfl) (by kernel_rfl) (by kernel_rfl) (O_q7z_ok n) (evDraw_ok (O_q7z_ok n) (by kernel_rfl)) (.of (l := [(0, (lbody 1000 C_q7z 0))]) (by kernel_rfl) ⟨.head (loopL_sound (O_q7z_ok n) (evDraw_ok (O_q7z_ok n) (by kernel_rfl)) (.of (l := [(2, (lbody 0 (lbody 1000 C_q7z 0) 0)), (6, (lbody 0 (lbody 1000 C_q7z 0) 1))]) (by kernel_rfl) ⟨.head (loopL_sound (O_q7z_ok n) (evDraw_ok (O_q7z_ok n) (by kernel_rfl)) (.of (l := [(4, (lbody 2 (lbody 0 (lbody 1000 C_q7z 0) 0) 0))]) (by kernel_rfl) ⟨.head (loopL_sound (O_q7z_ok n) (evDraw_ok (O_q7z_ok n) (by kernel_rfl)) (.of (l := []) (by kernel_rfl) trivial) (s_q7z_s4 n)), trivial⟩) (s_q7z_s2 n)), ⟨.tail rfl (.head (loopL_sound (O_q7z_ok n) (evDraw_ok (O_q7z_ok n) (by kernel_rfl)) (.of (l := []) (by kernel_rfl) trivial) (s_q7z_s6 n))), trivial⟩⟩) (s_q7z_s0 n)), trivial⟩) (e_q7z n)

end Go.Proofs.YtjecnkdkhniflaaDoor

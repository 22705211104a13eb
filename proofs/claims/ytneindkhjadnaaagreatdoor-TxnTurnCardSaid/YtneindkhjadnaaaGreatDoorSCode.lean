/- Each of these functions computes what its plain function computes (written by gen.py). -/
import Derived.Test.YtneindkhjadnaaaGreatDoorSBase
import Derived.KernelRfl
import Derived.Test.YtneindkhjadnaaaGreatDoorEvDraw
import Derived.Test.YtneindkhjadnaaaGreatDoorPCode
namespace Go.Proofs.YtneindkhjadnaaaGreatDoor
open Go Esp Ev Pure
set_option linter.unusedSimpArgs false
set_option linter.unusedVariables false
set_option maxRecDepth 100000
set_option maxHeartbeats 1000000
def okds : List FuncId := []
theorem quiets : ∀ g ∈ okds, ∀ (args : Array Value) (w : World), (callFunc g args).run Tryz.prog w = .ok (.enter g args) w ∧ CallsD Tryz.prog g args .returning w fun e u w' => u = .returning ∧ (∃ v, e = .returned v) ∧ w' = w := by
  intro g hg args w
  cases hg
variable [Tabs]
class UDef : Prop where
  ok : ∀ g ∈ ([] : List Nat), g ∈ Tabs.okd
variable [QuietD Tryz.prog] [UDef] [UTabs]
def TT : List (TypeId × Ty) := [(2, .i64), (3, .i64), (4, .bool), (5, .u8), (6, .u8), (9, .str), (10, .str), (11, .str), (12, .u64), (21, .i32), (22, (.lst .node)), (23, (.lst .edg)), (25, .graph), (27, .delta), (28, .i64), (35, (.lst .str)), (36, (.lst .prp)), (38, .node), (41, .edg), (61, .pair), (72, (.lst .i64)), (76, (.lst .val)), (78, .val), (80, .opn), (81, (.lst .opn)), (87, .u64), (103, .prp), (117, .i64), (124, .u32), (126, .u64), (132, (.lst .i64)), (159, .u64), (187, (.lst .u8)), (207, .u8), (208, .u8), (211, .i32), (212, .i32)]

noncomputable def F_q35z : FnT := ⟨2, ⟨[], [(0, .graph), (1, .delta)], [], []⟩, [.v .bool], []⟩
noncomputable def F_txn_Turn : FnT := ⟨2, ⟨[], [(0, .graph), (1, .delta)], [], []⟩, [.v .graph, .v .i64], []⟩
noncomputable def F_q62z : FnT := ⟨1, ⟨[], [(0, .graph)], [], []⟩, [.v .i64], []⟩
noncomputable def F_q61z : FnT := ⟨1, ⟨[], [(0, (.lst .str))], [], []⟩, [.v .i64], []⟩
noncomputable def F_q72z : FnT := ⟨1, ⟨[], [(0, .str)], [], []⟩, [.v .bool], []⟩
noncomputable def C_q72z : Code := bodyOf Tryz.f51
noncomputable def M_q72z : List (Nat × ArgM) := []
instance : DfOk M_q72z := .none rfl
noncomputable def O_q72z {ρ : Type} (n : Nat) : Orc ρ := orcNil
omit [QuietD Tryz.prog] [UDef] [UTabs] in
theorem O_q72z_ok {ρ : Type} (n : Nat) : (O_q72z n : Orc ρ).ok Tryz.prog := orcNil_ok
noncomputable def T_q72z_s0 : Tm := ⟨[], [(0, .str), (14, .i64), (15, .i64)], [], []⟩
noncomputable def X_q72z_s0 : Tm := ⟨[], [], [], []⟩
noncomputable def R_q72z_s0 : Tm := ⟨[], [(2, .bool)], [], []⟩
noncomputable def L_q72z_s0 {ρ : Type} (n : Nat) : LOrc ρ := lorcNil
omit [Tabs] [QuietD Tryz.prog] [UDef] [UTabs] in
theorem s_q72z_s0 {ρ : Type} (n : Nat) (rec : T_q72z_s0.den → Option ρ) kx kr s : dStep Tryz.prog 54 TT M_q72z (O_q72z n) (L_q72z_s0 n) dorcNil 0 (lbody 1000 C_q72z 0) T_q72z_s0 X_q72z_s0 R_q72z_s0 ⟨[], [], []⟩ rec kx kr s = q72z_s0 n rec kx kr s := by kernel_rfl
noncomputable def L_q72z {ρ : Type} (n : Nat) : LOrc ρ := lorcCons 0 (loopL 54 0 n T_q72z_s0 X_q72z_s0 R_q72z_s0 ⟨[], [], []⟩ (q72z_s0 n)) (lorcNil)
omit [Tabs] [QuietD Tryz.prog] [UDef] [UTabs] in
theorem e_q72z (n : Nat) (x) : evF Tryz.prog 54 TT M_q72z F_q72z (O_q72z n) (L_q72z n) dorcNil ⟨[], [], []⟩ [.tmp 2] C_q72z x = q72z n x := by kernel_rfl
omit [UDef] [UTabs] in
theorem ok_q72z (n : Nat) : Contract Tryz.prog 51 F_q72z (q72z n) :=
  Contract.of_ev (c := C_q72z) (N := 54) Tryz.func51 (by kernel_rfl) (by kernel_rfl) (by kernel_rfl) (by kernel_rfl) (O_q72z_ok n) dorcNil_ok (.of (l := [(0, (lbody 1000 C_q72z 0))]) (by kernel_rfl) ⟨.head (loopL_sound (O_q72z_ok n) dorcNil_ok (.of (l := []) (by kernel_rfl) trivial) (s_q72z_s0 n)), trivial⟩) (e_q72z n)

noncomputable def C_q61z : Code := bodyOf Tryz.f48
noncomputable def M_q61z : List (Nat × ArgM) := [(51, ⟨[], [], [], true⟩)]
instance : DfOk M_q61z := .none rfl
noncomputable def O_q61z {ρ : Type} (n : Nat) : Orc ρ := orcCons 51 F_q72z (q72z n) (orcNil)
omit [UDef] [UTabs] in
theorem O_q61z_ok {ρ : Type} (n : Nat) : (O_q61z n : Orc ρ).ok Tryz.prog := orcCons_ok (by kernel_rfl) (ok_q72z n) (orcNil_ok)
noncomputable def T_q61z_s0 : Tm := ⟨[], [(0, (.lst .str)), (8, (.lst .str)), (9, .i64), (10, .i64)], [], []⟩
noncomputable def X_q61z_s0 : Tm := ⟨[], [], [], []⟩
noncomputable def R_q61z_s0 : Tm := ⟨[], [(2, .i64)], [], []⟩
noncomputable def L_q61z_s0 {ρ : Type} (n : Nat) : LOrc ρ := lorcNil
omit [Tabs] [QuietD Tryz.prog] [UDef] [UTabs] in
theorem s_q61z_s0 {ρ : Type} (n : Nat) (rec : T_q61z_s0.den → Option ρ) kx kr s : dStep Tryz.prog 32 TT M_q61z (O_q61z n) (L_q61z_s0 n) dorcNil 0 (lbody 1000 C_q61z 0) T_q61z_s0 X_q61z_s0 R_q61z_s0 ⟨[], [], []⟩ rec kx kr s = q61z_s0 n rec kx kr s := by kernel_rfl
noncomputable def L_q61z {ρ : Type} (n : Nat) : LOrc ρ := lorcCons 0 (loopL 32 0 n T_q61z_s0 X_q61z_s0 R_q61z_s0 ⟨[], [], []⟩ (q61z_s0 n)) (lorcNil)
omit [Tabs] [QuietD Tryz.prog] [UDef] [UTabs] in
theorem e_q61z (n : Nat) (x) : evF Tryz.prog 32 TT M_q61z F_q61z (O_q61z n) (L_q61z n) dorcNil ⟨[], [], []⟩ [.tmp 2] C_q61z x = q61z n x := by kernel_rfl
omit [UDef] [UTabs] in
theorem ok_q61z (n : Nat) : Contract Tryz.prog 48 F_q61z (q61z n) :=
  Contract.of_ev (c := C_q61z) (N := 32) Tryz.func48 (by kernel_rfl) (by kernel_rfl) (by kernel_rfl) (by kernel_rfl) (O_q61z_ok n) dorcNil_ok (.of (l := [(0, (lbody 1000 C_q61z 0))]) (by kernel_rfl) ⟨.head (loopL_sound (O_q61z_ok n) dorcNil_ok (.of (l := []) (by kernel_rfl) trivial) (s_q61z_s0 n)), trivial⟩) (e_q61z n)

noncomputable def F_q63z : FnT := ⟨1, ⟨[], [(0, (.lst .prp))], [], []⟩, [.v .i64], []⟩
noncomputable def F_q66z : FnT := ⟨1, ⟨[], [(0, .val)], [], []⟩, [.v .i64], []⟩
noncomputable def F_q68z : FnT := ⟨2, ⟨[], [(0, .val), (1, .i64)], [], []⟩, [.v .i64], []⟩
noncomputable def C_q68z : Code := bodyOf Tryz.f131
noncomputable def M_q68z : List (Nat × ArgM) := [(105, ⟨[], [], [], true⟩), (131, ⟨[], [], [], true⟩)]
instance : DfOk M_q68z := .none rfl
noncomputable def O_q68z {ρ : Type} (self_q68z : Ev.Val × Int × Unit → Option (Int × Unit)) (n : Nat) : Orc ρ := orcCons 105 F_valid (validN) (orcCons 131 F_q68z (self_q68z) (orcNil))
omit [QuietD Tryz.prog] [UDef] in
theorem O_q68z_ok {ρ : Type} (self_q68z : Ev.Val × Int × Unit → Option (Int × Unit)) (h_q68z : Contract Tryz.prog 131 F_q68z self_q68z) (n : Nat) : (O_q68z self_q68z n : Orc ρ).ok Tryz.prog := orcCons_ok (by kernel_rfl) (validN_ok) (orcCons_ok (by kernel_rfl) (h_q68z) (orcNil_ok))
noncomputable def T_q68z_s1 : Tm := ⟨[(2, .ptr 2 0)], [(1, .i64), (90, (.lst .val)), (91, .i64), (92, .i64)], [(2, .box [.d .val])], []⟩
noncomputable def X_q68z_s1 : Tm := ⟨[(2, .ptr 2 0)], [], [(2, .box [.d .val])], []⟩
noncomputable def R_q68z_s1 : Tm := ⟨[], [(4, .i64)], [], []⟩
noncomputable def L_q68z_s1 {ρ : Type} (self_q68z : Ev.Val × Int × Unit → Option (Int × Unit)) (n : Nat) : LOrc ρ := lorcNil
omit [Tabs] [QuietD Tryz.prog] [UDef] [UTabs] in
theorem s_q68z_s1 {ρ : Type} (self_q68z : Ev.Val × Int × Unit → Option (Int × Unit)) (n : Nat) (rec : T_q68z_s1.den → Option ρ) kx kr s : dStep Tryz.prog 114 TT M_q68z (O_q68z self_q68z n) (L_q68z_s1 self_q68z n) dorcNil 1 (lbody 1000 C_q68z 0) T_q68z_s1 X_q68z_s1 R_q68z_s1 ⟨[], [], []⟩ rec kx kr s = q68z_s1 self_q68z n rec kx kr s := by kernel_rfl
noncomputable def L_q68z {ρ : Type} (self_q68z : Ev.Val × Int × Unit → Option (Int × Unit)) (n : Nat) : LOrc ρ := lorcCons 1 (loopL 114 1 n T_q68z_s1 X_q68z_s1 R_q68z_s1 ⟨[], [], []⟩ (q68z_s1 self_q68z n)) (lorcNil)
omit [Tabs] [QuietD Tryz.prog] [UDef] [UTabs] in
theorem e_q68z (self_q68z : Ev.Val × Int × Unit → Option (Int × Unit)) (n : Nat) (x) : evF Tryz.prog 114 TT M_q68z F_q68z (O_q68z self_q68z n) (L_q68z self_q68z n) dorcNil ⟨[], [], []⟩ [.tmp 4] C_q68z x = q68z_b self_q68z n x := by kernel_rfl
omit [UDef] in
theorem okb_q68z (self_q68z : Ev.Val × Int × Unit → Option (Int × Unit)) (h_q68z : Contract Tryz.prog 131 F_q68z self_q68z) (n : Nat) : Contract Tryz.prog 131 F_q68z (q68z_b self_q68z n) :=
  Contract.of_ev (c := C_q68z) (N := 114) Tryz.func131 (by kernel_rfl) (by kernel_rfl) (by kernel_rfl) (by kernel_rfl) (O_q68z_ok self_q68z h_q68z n) dorcNil_ok (.of (l := [(1, (lbody 1000 C_q68z 0))]) (by kernel_rfl) ⟨.head (loopL_sound (O_q68z_ok self_q68z h_q68z n) dorcNil_ok (.of (l := []) (by kernel_rfl) trivial) (s_q68z_s1 self_q68z n)), trivial⟩) (e_q68z self_q68z n)
omit [UDef] in
theorem ok_q68z : ∀ n, Contract Tryz.prog 131 F_q68z (q68z n)
  | 0 => fun _ _ h => by cases h
  | n + 1 => okb_q68z _ (ok_q68z n) n

noncomputable def C_q66z : Code := bodyOf Tryz.f94
noncomputable def M_q66z : List (Nat × ArgM) := [(131, ⟨[], [], [], true⟩)]
instance : DfOk M_q66z := .none rfl
noncomputable def O_q66z {ρ : Type} (n : Nat) : Orc ρ := orcCons 131 F_q68z (q68z n) (orcNil)
omit [UDef] in
theorem O_q66z_ok {ρ : Type} (n : Nat) : (O_q66z n : Orc ρ).ok Tryz.prog := orcCons_ok (by kernel_rfl) (ok_q68z n) (orcNil_ok)
noncomputable def L_q66z {ρ : Type} (n : Nat) : LOrc ρ := lorcNil
omit [Tabs] [QuietD Tryz.prog] [UDef] [UTabs] in
theorem e_q66z (n : Nat) (x) : evF Tryz.prog 5 TT M_q66z F_q66z (O_q66z n) (L_q66z n) dorcNil ⟨[], [], []⟩ [.tmp 2] C_q66z x = q66z n x := by kernel_rfl
omit [UDef] in
theorem ok_q66z (n : Nat) : Contract Tryz.prog 94 F_q66z (q66z n) :=
  Contract.of_ev (c := C_q66z) (N := 5) Tryz.func94 (by kernel_rfl) (by kernel_rfl) (by kernel_rfl) (by kernel_rfl) (O_q66z_ok n) dorcNil_ok (.of (l := []) (by kernel_rfl) trivial) (e_q66z n)

noncomputable def C_q63z : Code := bodyOf Tryz.f49
noncomputable def M_q63z : List (Nat × ArgM) := [(51, ⟨[], [], [], true⟩), (94, ⟨[], [], [], true⟩)]
instance : DfOk M_q63z := .none rfl
noncomputable def O_q63z {ρ : Type} (n : Nat) : Orc ρ := orcCons 51 F_q72z (q72z n) (orcCons 94 F_q66z (q66z n) (orcNil))
omit [UDef] in
theorem O_q63z_ok {ρ : Type} (n : Nat) : (O_q63z n : Orc ρ).ok Tryz.prog := orcCons_ok (by kernel_rfl) (ok_q72z n) (orcCons_ok (by kernel_rfl) (ok_q66z n) (orcNil_ok))
noncomputable def T_q63z_s0 : Tm := ⟨[], [(0, (.lst .prp)), (9, (.lst .prp)), (10, .i64), (11, .i64)], [], []⟩
noncomputable def X_q63z_s0 : Tm := ⟨[], [], [], []⟩
noncomputable def R_q63z_s0 : Tm := ⟨[], [(2, .i64)], [], []⟩
noncomputable def L_q63z_s0 {ρ : Type} (n : Nat) : LOrc ρ := lorcNil
omit [Tabs] [QuietD Tryz.prog] [UDef] [UTabs] in
theorem s_q63z_s0 {ρ : Type} (n : Nat) (rec : T_q63z_s0.den → Option ρ) kx kr s : dStep Tryz.prog 48 TT M_q63z (O_q63z n) (L_q63z_s0 n) (evDraw Tryz.prog 48 TT M_q63z (O_q63z n)) 0 (lbody 1000 C_q63z 0) T_q63z_s0 X_q63z_s0 R_q63z_s0 ⟨[], [], []⟩ rec kx kr s = q63z_s0 n rec kx kr s := by kernel_rfl
noncomputable def L_q63z {ρ : Type} (n : Nat) : LOrc ρ := lorcCons 0 (loopL 48 0 n T_q63z_s0 X_q63z_s0 R_q63z_s0 ⟨[], [], []⟩ (q63z_s0 n)) (lorcNil)
omit [Tabs] [QuietD Tryz.prog] [UDef] [UTabs] in
theorem e_q63z (n : Nat) (x) : evF Tryz.prog 48 TT M_q63z F_q63z (O_q63z n) (L_q63z n) (evDraw Tryz.prog 48 TT M_q63z (O_q63z n)) ⟨[], [], []⟩ [.tmp 2] C_q63z x = q63z n x := by kernel_rfl
omit [UDef] in
theorem ok_q63z (n : Nat) : Contract Tryz.prog 49 F_q63z (q63z n) :=
  Contract.of_ev (c := C_q63z) (N := 48) Tryz.func49 (by kernel_rfl) (by kernel_rfl) (by kernel_rfl) (by kernel_rfl) (O_q63z_ok n) (evDraw_ok (O_q63z_ok n) (by kernel_rfl)) (.of (l := [(0, (lbody 1000 C_q63z 0))]) (by kernel_rfl) ⟨.head (loopL_sound (O_q63z_ok n) (evDraw_ok (O_q63z_ok n) (by kernel_rfl)) (.of (l := []) (by kernel_rfl) trivial) (s_q63z_s0 n)), trivial⟩) (e_q63z n)

noncomputable def F_q46z : FnT := ⟨1, ⟨[], [(0, (.lst .i64))], [], []⟩, [.v .i64], []⟩
noncomputable def C_q46z : Code := bodyOf Tryz.f47
noncomputable def M_q46z : List (Nat × ArgM) := []
instance : DfOk M_q46z := .none rfl
noncomputable def O_q46z {ρ : Type} (n : Nat) : Orc ρ := orcNil
omit [QuietD Tryz.prog] [UDef] [UTabs] in
theorem O_q46z_ok {ρ : Type} (n : Nat) : (O_q46z n : Orc ρ).ok Tryz.prog := orcNil_ok
noncomputable def T_q46z_s0 : Tm := ⟨[], [(3, .i64), (6, (.lst .i64)), (7, .i64), (8, .i64)], [], []⟩
noncomputable def X_q46z_s0 : Tm := ⟨[], [(3, .i64)], [], []⟩
noncomputable def R_q46z_s0 : Tm := ⟨[], [(2, .i64)], [], []⟩
noncomputable def L_q46z_s0 {ρ : Type} (n : Nat) : LOrc ρ := lorcNil
omit [Tabs] [QuietD Tryz.prog] [UDef] [UTabs] in
theorem s_q46z_s0 {ρ : Type} (n : Nat) (rec : T_q46z_s0.den → Option ρ) kx kr s : dStep Tryz.prog 18 TT M_q46z (O_q46z n) (L_q46z_s0 n) dorcNil 0 (lbody 1000 C_q46z 0) T_q46z_s0 X_q46z_s0 R_q46z_s0 ⟨[], [], []⟩ rec kx kr s = q46z_s0 n rec kx kr s := by kernel_rfl
noncomputable def L_q46z {ρ : Type} (n : Nat) : LOrc ρ := lorcCons 0 (loopL 18 0 n T_q46z_s0 X_q46z_s0 R_q46z_s0 ⟨[], [], []⟩ (q46z_s0 n)) (lorcNil)
omit [Tabs] [QuietD Tryz.prog] [UDef] [UTabs] in
theorem e_q46z (n : Nat) (x) : evF Tryz.prog 18 TT M_q46z F_q46z (O_q46z n) (L_q46z n) dorcNil ⟨[], [], []⟩ [.tmp 2] C_q46z x = q46z n x := by kernel_rfl
omit [UDef] [UTabs] in
theorem ok_q46z (n : Nat) : Contract Tryz.prog 47 F_q46z (q46z n) :=
  Contract.of_ev (c := C_q46z) (N := 18) Tryz.func47 (by kernel_rfl) (by kernel_rfl) (by kernel_rfl) (by kernel_rfl) (O_q46z_ok n) dorcNil_ok (.of (l := [(0, (lbody 1000 C_q46z 0))]) (by kernel_rfl) ⟨.head (loopL_sound (O_q46z_ok n) dorcNil_ok (.of (l := []) (by kernel_rfl) trivial) (s_q46z_s0 n)), trivial⟩) (e_q46z n)

noncomputable def F_q71z : FnT := ⟨2, ⟨[], [(0, .graph), (1, .i64)], [], []⟩, [.v .i64], []⟩
noncomputable def F_q11z : FnT := ⟨3, ⟨[(2, .fn 95)], [(0, (.lst .node)), (1, .i64)], [], []⟩, [.v .i64, .v .bool], []⟩
noncomputable def F_q60z : FnT := ⟨2, ⟨[], [(0, .node), (1, .i64)], [], []⟩, [.v .i64], []⟩
noncomputable def F_q48z : FnT := ⟨2, ⟨[], [(0, .i64), (1, .i64)], [], []⟩, [.v .i64], []⟩
noncomputable def F_q59z : FnT := ⟨1, ⟨[], [(0, .i64)], [], []⟩, [.v .bool], []⟩
noncomputable def C_q59z : Code := bodyOf Tryz.f96
noncomputable def M_q59z : List (Nat × ArgM) := []
instance : DfOk M_q59z := .none rfl
noncomputable def O_q59z {ρ : Type} : Orc ρ := orcNil
omit [QuietD Tryz.prog] [UDef] [UTabs] in
theorem O_q59z_ok {ρ : Type} : (O_q59z : Orc ρ).ok Tryz.prog := orcNil_ok
noncomputable def L_q59z {ρ : Type} : LOrc ρ := lorcNil
omit [Tabs] [QuietD Tryz.prog] [UDef] [UTabs] in
theorem e_q59z (x) : evF Tryz.prog 6 TT M_q59z F_q59z (O_q59z) (L_q59z) dorcNil ⟨[], [], []⟩ [.tmp 2] C_q59z x = q59z x := by kernel_rfl
omit [UDef] [UTabs] in
theorem ok_q59z : Contract Tryz.prog 96 F_q59z (q59z) :=
  Contract.of_ev (c := C_q59z) (N := 6) Tryz.func96 (by kernel_rfl) (by kernel_rfl) (by kernel_rfl) (by kernel_rfl) (O_q59z_ok) dorcNil_ok (.of (l := []) (by kernel_rfl) trivial) (e_q59z)

noncomputable def C_q48z : Code := bodyOf Tryz.f55
noncomputable def M_q48z : List (Nat × ArgM) := [(96, ⟨[], [], [], true⟩)]
instance : DfOk M_q48z := .none rfl
noncomputable def O_q48z {ρ : Type} : Orc ρ := orcCons 96 F_q59z (q59z) (orcNil)
omit [UDef] [UTabs] in
theorem O_q48z_ok {ρ : Type} : (O_q48z : Orc ρ).ok Tryz.prog := orcCons_ok (by kernel_rfl) (ok_q59z) (orcNil_ok)
noncomputable def L_q48z {ρ : Type} : LOrc ρ := lorcNil
omit [Tabs] [QuietD Tryz.prog] [UDef] [UTabs] in
theorem e_q48z (x) : evF Tryz.prog 20 TT M_q48z F_q48z (O_q48z) (L_q48z) dorcNil ⟨[], [], []⟩ [.tmp 4] C_q48z x = q48z x := by kernel_rfl
omit [UDef] [UTabs] in
theorem ok_q48z : Contract Tryz.prog 55 F_q48z (q48z) :=
  Contract.of_ev (c := C_q48z) (N := 20) Tryz.func55 (by kernel_rfl) (by kernel_rfl) (by kernel_rfl) (by kernel_rfl) (O_q48z_ok) dorcNil_ok (.of (l := []) (by kernel_rfl) trivial) (e_q48z)

noncomputable def C_q60z : Code := bodyOf Tryz.f95
noncomputable def M_q60z : List (Nat × ArgM) := [(55, ⟨[], [], [], true⟩)]
instance : DfOk M_q60z := .none rfl
noncomputable def O_q60z {ρ : Type} : Orc ρ := orcCons 55 F_q48z (q48z) (orcNil)
omit [UDef] [UTabs] in
theorem O_q60z_ok {ρ : Type} : (O_q60z : Orc ρ).ok Tryz.prog := orcCons_ok (by kernel_rfl) (ok_q48z) (orcNil_ok)
noncomputable def L_q60z {ρ : Type} : LOrc ρ := lorcNil
omit [Tabs] [QuietD Tryz.prog] [UDef] [UTabs] in
theorem e_q60z (x) : evF Tryz.prog 9 TT M_q60z F_q60z (O_q60z) (L_q60z) dorcNil ⟨[], [], []⟩ [.tmp 4] C_q60z x = q60z x := by kernel_rfl
omit [UDef] [UTabs] in
theorem ok_q60z : Contract Tryz.prog 95 F_q60z (q60z) :=
  Contract.of_ev (c := C_q60z) (N := 9) Tryz.func95 (by kernel_rfl) (by kernel_rfl) (by kernel_rfl) (by kernel_rfl) (O_q60z_ok) dorcNil_ok (.of (l := []) (by kernel_rfl) trivial) (e_q60z)

noncomputable def C_q11z : Code := bodyOf Tryz.f53
noncomputable def M_q11z : List (Nat × ArgM) := [(95, ⟨[], [], [], true⟩)]
instance : DfOk M_q11z := .none rfl
noncomputable def O_q11z {ρ : Type} (n : Nat) : Orc ρ := orcCons 95 F_q60z (q60z) (orcNil)
omit [UDef] [UTabs] in
theorem O_q11z_ok {ρ : Type} (n : Nat) : (O_q11z n : Orc ρ).ok Tryz.prog := orcCons_ok (by kernel_rfl) (ok_q60z) (orcNil_ok)
noncomputable def T_q11z_s0 : Tm := ⟨[(2, .fn 95)], [(0, (.lst .node)), (1, .i64), (8, .i64), (9, .i64), (10, .i64)], [], []⟩
noncomputable def X_q11z_s0 : Tm := ⟨[(2, .fn 95)], [(0, (.lst .node)), (1, .i64), (8, .i64), (9, .i64)], [], []⟩
noncomputable def R_q11z_s0 : Tm := ⟨[], [], [], []⟩
noncomputable def L_q11z_s0 {ρ : Type} (n : Nat) : LOrc ρ := lorcNil
omit [Tabs] [QuietD Tryz.prog] [UDef] [UTabs] in
theorem s_q11z_s0 {ρ : Type} (n : Nat) (rec : T_q11z_s0.den → Option ρ) kx kr s : dStep Tryz.prog 49 TT M_q11z (O_q11z n) (L_q11z_s0 n) dorcNil 0 (lbody 1000 C_q11z 0) T_q11z_s0 X_q11z_s0 R_q11z_s0 ⟨[], [], []⟩ rec kx kr s = q11z_s0 n rec kx kr s := by kernel_rfl
noncomputable def L_q11z {ρ : Type} (n : Nat) : LOrc ρ := lorcCons 0 (loopL 49 0 n T_q11z_s0 X_q11z_s0 R_q11z_s0 ⟨[], [], []⟩ (q11z_s0 n)) (lorcNil)
omit [Tabs] [QuietD Tryz.prog] [UDef] [UTabs] in
theorem e_q11z (n : Nat) (x) : evF Tryz.prog 49 TT M_q11z F_q11z (O_q11z n) (L_q11z n) dorcNil ⟨[], [], []⟩ [.tmp 6, .tmp 7] C_q11z x = q11z n x := by kernel_rfl
omit [UDef] [UTabs] in
theorem ok_q11z (n : Nat) : Contract Tryz.prog 53 F_q11z (q11z n) :=
  Contract.of_ev (c := C_q11z) (N := 49) Tryz.func53 (by kernel_rfl) (by kernel_rfl) (by kernel_rfl) (by kernel_rfl) (O_q11z_ok n) dorcNil_ok (.of (l := [(0, (lbody 1000 C_q11z 0))]) (by kernel_rfl) ⟨.head (loopL_sound (O_q11z_ok n) dorcNil_ok (.of (l := []) (by kernel_rfl) trivial) (s_q11z_s0 n)), trivial⟩) (e_q11z n)

noncomputable def C_q71z : Code := bodyOf Tryz.f50
noncomputable def M_q71z : List (Nat × ArgM) := [(53, ⟨[], [], [], true⟩)]
instance : DfOk M_q71z := .none rfl
noncomputable def O_q71z {ρ : Type} (n : Nat) : Orc ρ := orcCons 53 F_q11z (q11z n) (orcNil)
omit [UDef] [UTabs] in
theorem O_q71z_ok {ρ : Type} (n : Nat) : (O_q71z n : Orc ρ).ok Tryz.prog := orcCons_ok (by kernel_rfl) (ok_q11z n) (orcNil_ok)
noncomputable def L_q71z {ρ : Type} (n : Nat) : LOrc ρ := lorcNil
omit [Tabs] [QuietD Tryz.prog] [UDef] [UTabs] in
theorem e_q71z (n : Nat) (x) : evF Tryz.prog 17 TT M_q71z F_q71z (O_q71z n) (L_q71z n) dorcNil ⟨[], [], []⟩ [.tmp 4] C_q71z x = q71z n x := by kernel_rfl
omit [UDef] [UTabs] in
theorem ok_q71z (n : Nat) : Contract Tryz.prog 50 F_q71z (q71z n) :=
  Contract.of_ev (c := C_q71z) (N := 17) Tryz.func50 (by kernel_rfl) (by kernel_rfl) (by kernel_rfl) (by kernel_rfl) (O_q71z_ok n) dorcNil_ok (.of (l := []) (by kernel_rfl) trivial) (e_q71z n)

noncomputable def C_q62z : Code := bodyOf Tryz.f26
noncomputable def M_q62z : List (Nat × ArgM) := [(48, ⟨[], [], [], true⟩), (49, ⟨[], [], [], true⟩), (47, ⟨[], [], [], true⟩), (50, ⟨[], [], [], true⟩), (51, ⟨[], [], [], true⟩)]
instance : DfOk M_q62z := .none rfl
noncomputable def O_q62z {ρ : Type} (n : Nat) : Orc ρ := orcCons 48 F_q61z (q61z n) (orcCons 49 F_q63z (q63z n) (orcCons 47 F_q46z (q46z n) (orcCons 50 F_q71z (q71z n) (orcCons 51 F_q72z (q72z n) (orcNil)))))
omit [UDef] in
theorem O_q62z_ok {ρ : Type} (n : Nat) : (O_q62z n : Orc ρ).ok Tryz.prog := orcCons_ok (by kernel_rfl) (ok_q61z n) (orcCons_ok (by kernel_rfl) (ok_q63z n) (orcCons_ok (by kernel_rfl) (ok_q46z n) (orcCons_ok (by kernel_rfl) (ok_q71z n) (orcCons_ok (by kernel_rfl) (ok_q72z n) (orcNil_ok)))))
noncomputable def T_q62z_s0 : Tm := ⟨[(1, .ptr 1 0)], [(3, .i64), (22, (.lst .node)), (23, .i64), (24, .i64)], [(1, .box [.d .graph])], []⟩
noncomputable def X_q62z_s0 : Tm := ⟨[(1, .ptr 1 0)], [(3, .i64)], [(1, .box [.d .graph])], []⟩
noncomputable def R_q62z_s0 : Tm := ⟨[], [(2, .i64)], [], []⟩
noncomputable def L_q62z_s0 {ρ : Type} (n : Nat) : LOrc ρ := lorcNil
omit [Tabs] [QuietD Tryz.prog] [UDef] [UTabs] in
theorem s_q62z_s0 {ρ : Type} (n : Nat) (rec : T_q62z_s0.den → Option ρ) kx kr s : dStep Tryz.prog 103 TT M_q62z (O_q62z n) (L_q62z_s0 n) (evDraw Tryz.prog 103 TT M_q62z (O_q62z n)) 0 (lbody 1000 C_q62z 0) T_q62z_s0 X_q62z_s0 R_q62z_s0 ⟨[], [], []⟩ rec kx kr s = q62z_s0 n rec kx kr s := by kernel_rfl
noncomputable def T_q62z_s2 : Tm := ⟨[(1, .ptr 1 0)], [(3, .i64), (7, .i64), (48, (.lst .edg)), (49, .i64), (50, .i64)], [(1, .box [.d .graph])], []⟩
noncomputable def X_q62z_s2 : Tm := ⟨[(1, .ptr 1 0)], [(3, .i64), (7, .i64)], [(1, .box [.d .graph])], []⟩
noncomputable def R_q62z_s2 : Tm := ⟨[], [(2, .i64)], [], []⟩
noncomputable def L_q62z_s2 {ρ : Type} (n : Nat) : LOrc ρ := lorcNil
omit [Tabs] [QuietD Tryz.prog] [UDef] [UTabs] in
theorem s_q62z_s2 {ρ : Type} (n : Nat) (rec : T_q62z_s2.den → Option ρ) kx kr s : dStep Tryz.prog 103 TT M_q62z (O_q62z n) (L_q62z_s2 n) (evDraw Tryz.prog 103 TT M_q62z (O_q62z n)) 2 (lbody 1000 C_q62z 1) T_q62z_s2 X_q62z_s2 R_q62z_s2 ⟨[], [], []⟩ rec kx kr s = q62z_s2 n rec kx kr s := by kernel_rfl
noncomputable def L_q62z {ρ : Type} (n : Nat) : LOrc ρ := lorcCons 0 (loopL 103 0 n T_q62z_s0 X_q62z_s0 R_q62z_s0 ⟨[], [], []⟩ (q62z_s0 n)) (lorcCons 2 (loopL 103 2 n T_q62z_s2 X_q62z_s2 R_q62z_s2 ⟨[], [], []⟩ (q62z_s2 n)) (lorcNil))
omit [Tabs] [QuietD Tryz.prog] [UDef] [UTabs] in
theorem e_q62z (n : Nat) (x) : evF Tryz.prog 103 TT M_q62z F_q62z (O_q62z n) (L_q62z n) (evDraw Tryz.prog 103 TT M_q62z (O_q62z n)) ⟨[], [], []⟩ [.tmp 2] C_q62z x = q62z n x := by kernel_rfl
omit [UDef] in
theorem ok_q62z (n : Nat) : Contract Tryz.prog 26 F_q62z (q62z n) :=
  Contract.of_ev (c := C_q62z) (N := 103) Tryz.func26 (by kernel_rfl) (by kernel_rfl) (by kernel_rfl) (by kernel_rfl) (O_q62z_ok n) (evDraw_ok (O_q62z_ok n) (by kernel_rfl)) (.of (l := [(0, (lbody 1000 C_q62z 0)), (2, (lbody 1000 C_q62z 1))]) (by kernel_rfl) ⟨.head (loopL_sound (O_q62z_ok n) (evDraw_ok (O_q62z_ok n) (by kernel_rfl)) (.of (l := []) (by kernel_rfl) trivial) (s_q62z_s0 n)), ⟨.tail rfl (.head (loopL_sound (O_q62z_ok n) (evDraw_ok (O_q62z_ok n) (by kernel_rfl)) (.of (l := []) (by kernel_rfl) trivial) (s_q62z_s2 n))), trivial⟩⟩) (e_q62z n)

noncomputable def F_q13z : FnT := ⟨5, ⟨[(3, .fn 28), (4, .fn 29)], [(0, (.lst .node)), (1, (.lst .node)), (2, (.lst .node))], [], []⟩, [.v (.lst .node), .v .bool], []⟩
noncomputable def F_q15z : FnT := ⟨1, ⟨[], [(0, (.lst .node))], [], []⟩, [.ref (.own 5)], [(5, .arr 38 .node)]⟩
noncomputable def C_q15z : Code := bodyOf Tryz.f8
noncomputable def M_q15z : List (Nat × ArgM) := []
instance : DfOk M_q15z := .none rfl
noncomputable def O_q15z {ρ : Type} : Orc ρ := orcNil
omit [QuietD Tryz.prog] [UDef] [UTabs] in
theorem O_q15z_ok {ρ : Type} : (O_q15z : Orc ρ).ok Tryz.prog := orcNil_ok
noncomputable def L_q15z {ρ : Type} : LOrc ρ := lorcNil
omit [Tabs] [QuietD Tryz.prog] [UDef] [UTabs] in
theorem e_q15z (x) : evF Tryz.prog 8 TT M_q15z F_q15z (O_q15z) (L_q15z) dorcNil ⟨[], [(2, 5, 38, 3)], []⟩ [.tmp 2] C_q15z x = q15z x := by kernel_rfl
omit [UDef] [UTabs] in
theorem ok_q15z : Contract Tryz.prog 8 F_q15z (q15z) :=
  Contract.of_ev (c := C_q15z) (N := 8) Tryz.func8 (by kernel_rfl) (by kernel_rfl) (by kernel_rfl) (by kernel_rfl) (O_q15z_ok) dorcNil_ok (.of (l := []) (by kernel_rfl) trivial) (e_q15z)

noncomputable def F_q10z : FnT := ⟨2, ⟨[(0, .own 2000000), (1, .clo 52 [1000016, 1000017])], [], [(2000000, .arr 38 .node), (1000016, .box [.ref (.fn 29)]), (1000017, .box [.d .node])], []⟩, [.v .i64], [(2000000, .arr 38 .node), (1000016, .box [.ref (.fn 29)]), (1000017, .box [.d .node])]⟩
noncomputable def F_q30z : FnT := ⟨3, ⟨[(1, .ptr 1000000 0), (2, .ptr 1000016 0)], [(0, .node)], [(1000000, .box [.ref (.fn 29)]), (1000016, .box [.d .node])], []⟩, [.v .bool], [(1000000, .box [.ref (.fn 29)]), (1000016, .box [.d .node])]⟩
noncomputable def F_q56z : FnT := ⟨2, ⟨[], [(0, .node), (1, .node)], [], []⟩, [.v .bool], []⟩
noncomputable def F_q17z : FnT := ⟨2, ⟨[], [(0, (.lst .str)), (1, (.lst .str))], [], []⟩, [.v .bool], []⟩
noncomputable def C_q17z : Code := bodyOf Tryz.f40
noncomputable def M_q17z : List (Nat × ArgM) := []
instance : DfOk M_q17z := .none rfl
noncomputable def O_q17z {ρ : Type} (n : Nat) : Orc ρ := orcNil
omit [QuietD Tryz.prog] [UDef] [UTabs] in
theorem O_q17z_ok {ρ : Type} (n : Nat) : (O_q17z n : Orc ρ).ok Tryz.prog := orcNil_ok
noncomputable def T_q17z_s0 : Tm := ⟨[], [(0, (.lst .str)), (1, (.lst .str)), (12, .i64), (13, .i64)], [], []⟩
noncomputable def X_q17z_s0 : Tm := ⟨[], [], [], []⟩
noncomputable def R_q17z_s0 : Tm := ⟨[], [(4, .bool)], [], []⟩
noncomputable def L_q17z_s0 {ρ : Type} (n : Nat) : LOrc ρ := lorcNil
omit [Tabs] [QuietD Tryz.prog] [UDef] [UTabs] in
theorem s_q17z_s0 {ρ : Type} (n : Nat) (rec : T_q17z_s0.den → Option ρ) kx kr s : dStep Tryz.prog 26 TT M_q17z (O_q17z n) (L_q17z_s0 n) (evDraw Tryz.prog 26 TT M_q17z (O_q17z n)) 0 (lbody 1000 C_q17z 0) T_q17z_s0 X_q17z_s0 R_q17z_s0 ⟨[], [], []⟩ rec kx kr s = q17z_s0 n rec kx kr s := by kernel_rfl
noncomputable def L_q17z {ρ : Type} (n : Nat) : LOrc ρ := lorcCons 0 (loopL 26 0 n T_q17z_s0 X_q17z_s0 R_q17z_s0 ⟨[], [], []⟩ (q17z_s0 n)) (lorcNil)
omit [Tabs] [QuietD Tryz.prog] [UDef] [UTabs] in
theorem e_q17z (n : Nat) (x) : evF Tryz.prog 26 TT M_q17z F_q17z (O_q17z n) (L_q17z n) (evDraw Tryz.prog 26 TT M_q17z (O_q17z n)) ⟨[], [], []⟩ [.tmp 4] C_q17z x = q17z n x := by kernel_rfl
omit [UDef] [UTabs] in
theorem ok_q17z (n : Nat) : Contract Tryz.prog 40 F_q17z (q17z n) :=
  Contract.of_ev (c := C_q17z) (N := 26) Tryz.func40 (by kernel_rfl) (by kernel_rfl) (by kernel_rfl) (by kernel_rfl) (O_q17z_ok n) (evDraw_ok (O_q17z_ok n) (by kernel_rfl)) (.of (l := [(0, (lbody 1000 C_q17z 0))]) (by kernel_rfl) ⟨.head (loopL_sound (O_q17z_ok n) (evDraw_ok (O_q17z_ok n) (by kernel_rfl)) (.of (l := []) (by kernel_rfl) trivial) (s_q17z_s0 n)), trivial⟩) (e_q17z n)

noncomputable def F_q51z : FnT := ⟨2, ⟨[], [(0, (.lst .prp)), (1, (.lst .prp))], [], []⟩, [.v .bool], []⟩
noncomputable def F_q6z : FnT := ⟨3, ⟨[(2, .fn 99)], [(0, (.lst .prp)), (1, (.lst .prp))], [], []⟩, [.v .bool], []⟩
noncomputable def F_q44z : FnT := ⟨2, ⟨[], [(0, .prp), (1, .prp)], [], []⟩, [.v .bool], []⟩
noncomputable def F_q67z : FnT := ⟨2, ⟨[], [(0, .val), (1, .val)], [], []⟩, [.v .i64], []⟩
noncomputable def F_q39z : FnT := ⟨2, ⟨[], [(0, .str), (1, .str)], [], []⟩, [.v .i64], []⟩
noncomputable def F_q47z : FnT := ⟨1, ⟨[], [(0, .str)], [], []⟩, [.v .bool], []⟩
noncomputable def C_q47z : Code := bodyOf Tryz.f156
noncomputable def M_q47z : List (Nat × ArgM) := []
instance : DfOk M_q47z := .none rfl
noncomputable def O_q47z {ρ : Type} : Orc ρ := orcNil
omit [QuietD Tryz.prog] [UDef] [UTabs] in
theorem O_q47z_ok {ρ : Type} : (O_q47z : Orc ρ).ok Tryz.prog := orcNil_ok
noncomputable def L_q47z {ρ : Type} : LOrc ρ := lorcNil
omit [Tabs] [QuietD Tryz.prog] [UDef] [UTabs] in
theorem e_q47z (x) : evF Tryz.prog 6 TT M_q47z F_q47z (O_q47z) (L_q47z) dorcNil ⟨[], [], []⟩ [.tmp 2] C_q47z x = q47z x := by kernel_rfl
omit [UDef] [UTabs] in
theorem ok_q47z : Contract Tryz.prog 156 F_q47z (q47z) :=
  Contract.of_ev (c := C_q47z) (N := 6) Tryz.func156 (by kernel_rfl) (by kernel_rfl) (by kernel_rfl) (by kernel_rfl) (O_q47z_ok) dorcNil_ok (.of (l := []) (by kernel_rfl) trivial) (e_q47z)

noncomputable def C_q39z : Code := bodyOf Tryz.f134
noncomputable def M_q39z : List (Nat × ArgM) := [(156, ⟨[], [], [], true⟩)]
instance : DfOk M_q39z := .none rfl
noncomputable def O_q39z {ρ : Type} : Orc ρ := orcCons 156 F_q47z (q47z) (orcNil)
omit [UDef] [UTabs] in
theorem O_q39z_ok {ρ : Type} : (O_q39z : Orc ρ).ok Tryz.prog := orcCons_ok (by kernel_rfl) (ok_q47z) (orcNil_ok)
noncomputable def L_q39z {ρ : Type} : LOrc ρ := lorcNil
omit [Tabs] [QuietD Tryz.prog] [UDef] [UTabs] in
theorem e_q39z (x) : evF Tryz.prog 20 TT M_q39z F_q39z (O_q39z) (L_q39z) dorcNil ⟨[], [], []⟩ [.tmp 4] C_q39z x = q39z x := by kernel_rfl
omit [UDef] [UTabs] in
theorem ok_q39z : Contract Tryz.prog 134 F_q39z (q39z) :=
  Contract.of_ev (c := C_q39z) (N := 20) Tryz.func134 (by kernel_rfl) (by kernel_rfl) (by kernel_rfl) (by kernel_rfl) (O_q39z_ok) dorcNil_ok (.of (l := []) (by kernel_rfl) trivial) (e_q39z)

noncomputable def F_q5z : FnT := ⟨3, ⟨[(2, .fn 100)], [(0, (.lst .val)), (1, (.lst .val))], [], []⟩, [.v .i64], []⟩
noncomputable def C_q5z : Code := bodyOf Tryz.f135
noncomputable def M_q5z : List (Nat × ArgM) := [(100, ⟨[], [], [], true⟩)]
instance : DfOk M_q5z := .none rfl
noncomputable def O_q5z {ρ : Type} (self_q67z : Ev.Val × Ev.Val × Unit → Option (Int × Unit)) (n : Nat) : Orc ρ := orcCons 100 F_q67z (self_q67z) (orcNil)
omit [QuietD Tryz.prog] [UDef] [UTabs] in
theorem O_q5z_ok {ρ : Type} (self_q67z : Ev.Val × Ev.Val × Unit → Option (Int × Unit)) (h_q67z : Contract Tryz.prog 100 F_q67z self_q67z) (n : Nat) : (O_q5z self_q67z n : Orc ρ).ok Tryz.prog := orcCons_ok (by kernel_rfl) (h_q67z) (orcNil_ok)
noncomputable def T_q5z_s0 : Tm := ⟨[(2, .fn 100)], [(0, (.lst .val)), (1, (.lst .val)), (11, (.lst .val)), (12, .i64), (13, .i64)], [], []⟩
noncomputable def X_q5z_s0 : Tm := ⟨[], [(0, (.lst .val)), (1, (.lst .val))], [], []⟩
noncomputable def R_q5z_s0 : Tm := ⟨[], [(6, .i64)], [], []⟩
noncomputable def L_q5z_s0 {ρ : Type} (self_q67z : Ev.Val × Ev.Val × Unit → Option (Int × Unit)) (n : Nat) : LOrc ρ := lorcNil
omit [Tabs] [QuietD Tryz.prog] [UDef] [UTabs] in
theorem s_q5z_s0 {ρ : Type} (self_q67z : Ev.Val × Ev.Val × Unit → Option (Int × Unit)) (n : Nat) (rec : T_q5z_s0.den → Option ρ) kx kr s : dStep Tryz.prog 39 TT M_q5z (O_q5z self_q67z n) (L_q5z_s0 self_q67z n) dorcNil 0 (lbody 1000 C_q5z 0) T_q5z_s0 X_q5z_s0 R_q5z_s0 ⟨[], [], []⟩ rec kx kr s = q5z_s0 self_q67z n rec kx kr s := by kernel_rfl
noncomputable def L_q5z {ρ : Type} (self_q67z : Ev.Val × Ev.Val × Unit → Option (Int × Unit)) (n : Nat) : LOrc ρ := lorcCons 0 (loopL 39 0 n T_q5z_s0 X_q5z_s0 R_q5z_s0 ⟨[], [], []⟩ (q5z_s0 self_q67z n)) (lorcNil)
omit [Tabs] [QuietD Tryz.prog] [UDef] [UTabs] in
theorem e_q5z (self_q67z : Ev.Val × Ev.Val × Unit → Option (Int × Unit)) (n : Nat) (x) : evF Tryz.prog 39 TT M_q5z F_q5z (O_q5z self_q67z n) (L_q5z self_q67z n) dorcNil ⟨[], [], []⟩ [.tmp 6] C_q5z x = q5z self_q67z n x := by kernel_rfl
omit [UDef] [UTabs] in
theorem ok_q5z (self_q67z : Ev.Val × Ev.Val × Unit → Option (Int × Unit)) (h_q67z : Contract Tryz.prog 100 F_q67z self_q67z) (n : Nat) : Contract Tryz.prog 135 F_q5z (q5z self_q67z n) :=
  Contract.of_ev (c := C_q5z) (N := 39) Tryz.func135 (by kernel_rfl) (by kernel_rfl) (by kernel_rfl) (by kernel_rfl) (O_q5z_ok self_q67z h_q67z n) dorcNil_ok (.of (l := [(0, (lbody 1000 C_q5z 0))]) (by kernel_rfl) ⟨.head (loopL_sound (O_q5z_ok self_q67z h_q67z n) dorcNil_ok (.of (l := []) (by kernel_rfl) trivial) (s_q5z_s0 self_q67z n)), trivial⟩) (e_q5z self_q67z n)

noncomputable def F_q69z : FnT := ⟨1, ⟨[], [(0, (.lst .i64))], [], []⟩, [.v .i64], []⟩
noncomputable def C_q69z : Code := bodyOf Tryz.f133
noncomputable def M_q69z : List (Nat × ArgM) := []
instance : DfOk M_q69z := .none rfl
noncomputable def O_q69z {ρ : Type} (n : Nat) : Orc ρ := orcNil
omit [QuietD Tryz.prog] [UDef] [UTabs] in
theorem O_q69z_ok {ρ : Type} (n : Nat) : (O_q69z n : Orc ρ).ok Tryz.prog := orcNil_ok
noncomputable def T_q69z_s0 : Tm := ⟨[], [(3, .i64), (6, (.lst .i64)), (7, .i64), (8, .i64)], [], []⟩
noncomputable def X_q69z_s0 : Tm := ⟨[], [(3, .i64)], [], []⟩
noncomputable def R_q69z_s0 : Tm := ⟨[], [(2, .i64)], [], []⟩
noncomputable def L_q69z_s0 {ρ : Type} (n : Nat) : LOrc ρ := lorcNil
omit [Tabs] [QuietD Tryz.prog] [UDef] [UTabs] in
theorem s_q69z_s0 {ρ : Type} (n : Nat) (rec : T_q69z_s0.den → Option ρ) kx kr s : dStep Tryz.prog 18 TT M_q69z (O_q69z n) (L_q69z_s0 n) dorcNil 0 (lbody 1000 C_q69z 0) T_q69z_s0 X_q69z_s0 R_q69z_s0 ⟨[], [], []⟩ rec kx kr s = q69z_s0 n rec kx kr s := by kernel_rfl
noncomputable def L_q69z {ρ : Type} (n : Nat) : LOrc ρ := lorcCons 0 (loopL 18 0 n T_q69z_s0 X_q69z_s0 R_q69z_s0 ⟨[], [], []⟩ (q69z_s0 n)) (lorcNil)
omit [Tabs] [QuietD Tryz.prog] [UDef] [UTabs] in
theorem e_q69z (n : Nat) (x) : evF Tryz.prog 18 TT M_q69z F_q69z (O_q69z n) (L_q69z n) dorcNil ⟨[], [], []⟩ [.tmp 2] C_q69z x = q69z n x := by kernel_rfl
omit [UDef] [UTabs] in
theorem ok_q69z (n : Nat) : Contract Tryz.prog 133 F_q69z (q69z n) :=
  Contract.of_ev (c := C_q69z) (N := 18) Tryz.func133 (by kernel_rfl) (by kernel_rfl) (by kernel_rfl) (by kernel_rfl) (O_q69z_ok n) dorcNil_ok (.of (l := [(0, (lbody 1000 C_q69z 0))]) (by kernel_rfl) ⟨.head (loopL_sound (O_q69z_ok n) dorcNil_ok (.of (l := []) (by kernel_rfl) trivial) (s_q69z_s0 n)), trivial⟩) (e_q69z n)

noncomputable def C_q67z : Code := bodyOf Tryz.f100
noncomputable def M_q67z : List (Nat × ArgM) := [(55, ⟨[], [], [], true⟩), (134, ⟨[], [], [], true⟩), (135, ⟨[], [], [], true⟩), (133, ⟨[], [], [], true⟩)]
instance : DfOk M_q67z := .none rfl
noncomputable def O_q67z {ρ : Type} (self_q67z : Ev.Val × Ev.Val × Unit → Option (Int × Unit)) (n : Nat) : Orc ρ := orcCons 55 F_q48z (q48z) (orcCons 134 F_q39z (q39z) (orcCons 135 F_q5z (q5z self_q67z n) (orcCons 133 F_q69z (q69z n) (orcNil))))
omit [UDef] [UTabs] in
theorem O_q67z_ok {ρ : Type} (self_q67z : Ev.Val × Ev.Val × Unit → Option (Int × Unit)) (h_q67z : Contract Tryz.prog 100 F_q67z self_q67z) (n : Nat) : (O_q67z self_q67z n : Orc ρ).ok Tryz.prog := orcCons_ok (by kernel_rfl) (ok_q48z) (orcCons_ok (by kernel_rfl) (ok_q39z) (orcCons_ok (by kernel_rfl) (ok_q5z _ h_q67z n) (orcCons_ok (by kernel_rfl) (ok_q69z n) (orcNil_ok))))
noncomputable def L_q67z {ρ : Type} (self_q67z : Ev.Val × Ev.Val × Unit → Option (Int × Unit)) (n : Nat) : LOrc ρ := lorcNil
omit [Tabs] [QuietD Tryz.prog] [UDef] [UTabs] in
theorem e_q67z (self_q67z : Ev.Val × Ev.Val × Unit → Option (Int × Unit)) (n : Nat) (x) : evF Tryz.prog 31 TT M_q67z F_q67z (O_q67z self_q67z n) (L_q67z self_q67z n) (evDraw Tryz.prog 31 TT M_q67z (O_q67z self_q67z n)) ⟨[], [], []⟩ [.tmp 4] C_q67z x = q67z_b self_q67z n x := by kernel_rfl
omit [UDef] [UTabs] in
theorem okb_q67z (self_q67z : Ev.Val × Ev.Val × Unit → Option (Int × Unit)) (h_q67z : Contract Tryz.prog 100 F_q67z self_q67z) (n : Nat) : Contract Tryz.prog 100 F_q67z (q67z_b self_q67z n) :=
  Contract.of_ev (c := C_q67z) (N := 31) Tryz.func100 (by kernel_rfl) (by kernel_rfl) (by kernel_rfl) (by kernel_rfl) (O_q67z_ok self_q67z h_q67z n) (evDraw_ok (O_q67z_ok self_q67z h_q67z n) (by kernel_rfl)) (.of (l := []) (by kernel_rfl) trivial) (e_q67z self_q67z n)
omit [UDef] [UTabs] in
theorem ok_q67z : ∀ n, Contract Tryz.prog 100 F_q67z (q67z n)
  | 0 => fun _ _ h => by cases h
  | n + 1 => okb_q67z _ (ok_q67z n) n

noncomputable def C_q44z : Code := bodyOf Tryz.f99
noncomputable def M_q44z : List (Nat × ArgM) := [(100, ⟨[], [], [], true⟩)]
instance : DfOk M_q44z := .none rfl
noncomputable def O_q44z {ρ : Type} (n : Nat) : Orc ρ := orcCons 100 F_q67z (q67z n) (orcNil)
omit [UDef] [UTabs] in
theorem O_q44z_ok {ρ : Type} (n : Nat) : (O_q44z n : Orc ρ).ok Tryz.prog := orcCons_ok (by kernel_rfl) (ok_q67z n) (orcNil_ok)
noncomputable def L_q44z {ρ : Type} (n : Nat) : LOrc ρ := lorcNil
omit [Tabs] [QuietD Tryz.prog] [UDef] [UTabs] in
theorem e_q44z (n : Nat) (x) : evF Tryz.prog 18 TT M_q44z F_q44z (O_q44z n) (L_q44z n) dorcNil ⟨[], [], []⟩ [.tmp 4] C_q44z x = q44z n x := by kernel_rfl
omit [UDef] [UTabs] in
theorem ok_q44z (n : Nat) : Contract Tryz.prog 99 F_q44z (q44z n) :=
  Contract.of_ev (c := C_q44z) (N := 18) Tryz.func99 (by kernel_rfl) (by kernel_rfl) (by kernel_rfl) (by kernel_rfl) (O_q44z_ok n) dorcNil_ok (.of (l := []) (by kernel_rfl) trivial) (e_q44z n)

noncomputable def C_q6z : Code := bodyOf Tryz.f73
noncomputable def M_q6z : List (Nat × ArgM) := [(99, ⟨[], [], [], true⟩)]
instance : DfOk M_q6z := .none rfl
noncomputable def O_q6z {ρ : Type} (n : Nat) : Orc ρ := orcCons 99 F_q44z (q44z n) (orcNil)
omit [UDef] [UTabs] in
theorem O_q6z_ok {ρ : Type} (n : Nat) : (O_q6z n : Orc ρ).ok Tryz.prog := orcCons_ok (by kernel_rfl) (ok_q44z n) (orcNil_ok)
noncomputable def T_q6z_s0 : Tm := ⟨[(2, .fn 99)], [(1, (.lst .prp)), (15, (.lst .prp)), (16, .i64), (17, .i64)], [], []⟩
noncomputable def X_q6z_s0 : Tm := ⟨[], [], [], []⟩
noncomputable def R_q6z_s0 : Tm := ⟨[], [(6, .bool)], [], []⟩
noncomputable def L_q6z_s0 {ρ : Type} (n : Nat) : LOrc ρ := lorcNil
omit [Tabs] [QuietD Tryz.prog] [UDef] [UTabs] in
theorem s_q6z_s0 {ρ : Type} (n : Nat) (rec : T_q6z_s0.den → Option ρ) kx kr s : dStep Tryz.prog 32 TT M_q6z (O_q6z n) (L_q6z_s0 n) dorcNil 0 (lbody 1000 C_q6z 0) T_q6z_s0 X_q6z_s0 R_q6z_s0 ⟨[], [], []⟩ rec kx kr s = q6z_s0 n rec kx kr s := by kernel_rfl
noncomputable def L_q6z {ρ : Type} (n : Nat) : LOrc ρ := lorcCons 0 (loopL 32 0 n T_q6z_s0 X_q6z_s0 R_q6z_s0 ⟨[], [], []⟩ (q6z_s0 n)) (lorcNil)
omit [Tabs] [QuietD Tryz.prog] [UDef] [UTabs] in
theorem e_q6z (n : Nat) (x) : evF Tryz.prog 32 TT M_q6z F_q6z (O_q6z n) (L_q6z n) dorcNil ⟨[], [], []⟩ [.tmp 6] C_q6z x = q6z n x := by kernel_rfl
omit [UDef] [UTabs] in
theorem ok_q6z (n : Nat) : Contract Tryz.prog 73 F_q6z (q6z n) :=
  Contract.of_ev (c := C_q6z) (N := 32) Tryz.func73 (by kernel_rfl) (by kernel_rfl) (by kernel_rfl) (by kernel_rfl) (O_q6z_ok n) dorcNil_ok (.of (l := [(0, (lbody 1000 C_q6z 0))]) (by kernel_rfl) ⟨.head (loopL_sound (O_q6z_ok n) dorcNil_ok (.of (l := []) (by kernel_rfl) trivial) (s_q6z_s0 n)), trivial⟩) (e_q6z n)

noncomputable def C_q51z : Code := bodyOf Tryz.f57
noncomputable def M_q51z : List (Nat × ArgM) := [(73, ⟨[], [], [], true⟩)]
instance : DfOk M_q51z := .none rfl
noncomputable def O_q51z {ρ : Type} (n : Nat) : Orc ρ := orcCons 73 F_q6z (q6z n) (orcNil)
omit [UDef] [UTabs] in
theorem O_q51z_ok {ρ : Type} (n : Nat) : (O_q51z n : Orc ρ).ok Tryz.prog := orcCons_ok (by kernel_rfl) (ok_q6z n) (orcNil_ok)
noncomputable def L_q51z {ρ : Type} (n : Nat) : LOrc ρ := lorcNil
omit [Tabs] [QuietD Tryz.prog] [UDef] [UTabs] in
theorem e_q51z (n : Nat) (x) : evF Tryz.prog 8 TT M_q51z F_q51z (O_q51z n) (L_q51z n) dorcNil ⟨[], [], []⟩ [.tmp 4] C_q51z x = q51z n x := by kernel_rfl
omit [UDef] [UTabs] in
theorem ok_q51z (n : Nat) : Contract Tryz.prog 57 F_q51z (q51z n) :=
  Contract.of_ev (c := C_q51z) (N := 8) Tryz.func57 (by kernel_rfl) (by kernel_rfl) (by kernel_rfl) (by kernel_rfl) (O_q51z_ok n) dorcNil_ok (.of (l := []) (by kernel_rfl) trivial) (e_q51z n)

noncomputable def C_q56z : Code := bodyOf Tryz.f29
noncomputable def M_q56z : List (Nat × ArgM) := [(40, ⟨[], [], [], true⟩), (57, ⟨[], [], [], true⟩)]
instance : DfOk M_q56z := .none rfl
noncomputable def O_q56z {ρ : Type} (n : Nat) : Orc ρ := orcCons 40 F_q17z (q17z n) (orcCons 57 F_q51z (q51z n) (orcNil))
omit [UDef] [UTabs] in
theorem O_q56z_ok {ρ : Type} (n : Nat) : (O_q56z n : Orc ρ).ok Tryz.prog := orcCons_ok (by kernel_rfl) (ok_q17z n) (orcCons_ok (by kernel_rfl) (ok_q51z n) (orcNil_ok))
noncomputable def L_q56z {ρ : Type} (n : Nat) : LOrc ρ := lorcNil
omit [Tabs] [QuietD Tryz.prog] [UDef] [UTabs] in
theorem e_q56z (n : Nat) (x) : evF Tryz.prog 24 TT M_q56z F_q56z (O_q56z n) (L_q56z n) dorcNil ⟨[], [], []⟩ [.tmp 4] C_q56z x = q56z n x := by kernel_rfl
omit [UDef] [UTabs] in
theorem ok_q56z (n : Nat) : Contract Tryz.prog 29 F_q56z (q56z n) :=
  Contract.of_ev (c := C_q56z) (N := 24) Tryz.func29 (by kernel_rfl) (by kernel_rfl) (by kernel_rfl) (by kernel_rfl) (O_q56z_ok n) dorcNil_ok (.of (l := []) (by kernel_rfl) trivial) (e_q56z n)

noncomputable def C_q30z : Code := bodyOf Tryz.f52
noncomputable def M_q30z : List (Nat × ArgM) := [(29, ⟨[], [], [], true⟩)]
instance : DfOk M_q30z := .none rfl
noncomputable def O_q30z {ρ : Type} (n : Nat) : Orc ρ := orcCons 29 F_q56z (q56z n) (orcNil)
omit [UDef] [UTabs] in
theorem O_q30z_ok {ρ : Type} (n : Nat) : (O_q30z n : Orc ρ).ok Tryz.prog := orcCons_ok (by kernel_rfl) (ok_q56z n) (orcNil_ok)
noncomputable def L_q30z {ρ : Type} (n : Nat) : LOrc ρ := lorcNil
omit [Tabs] [QuietD Tryz.prog] [UDef] [UTabs] in
theorem e_q30z (n : Nat) (x) : evF Tryz.prog 9 TT M_q30z F_q30z (O_q30z n) (L_q30z n) dorcNil ⟨[], [], []⟩ [.tmp 4] C_q30z x = q30z n x := by kernel_rfl
omit [UDef] [UTabs] in
theorem ok_q30z (n : Nat) : Contract Tryz.prog 52 F_q30z (q30z n) :=
  Contract.of_ev (c := C_q30z) (N := 9) Tryz.func52 (by kernel_rfl) (by kernel_rfl) (by kernel_rfl) (by kernel_rfl) (O_q30z_ok n) dorcNil_ok (.of (l := []) (by kernel_rfl) trivial) (e_q30z n)

noncomputable def C_q10z : Code := bodyOf Tryz.f10
noncomputable def M_q10z : List (Nat × ArgM) := [(999999999, ⟨[1], [], [], false⟩), (52, ⟨[1, 2], [], [], false⟩)]
instance : DfOk M_q10z := .none rfl
noncomputable def O_q10z {ρ : Type} (n : Nat) : Orc ρ := orcCons 52 F_q30z (q30z n) (orcNil)
omit [UDef] [UTabs] in
theorem O_q10z_ok {ρ : Type} (n : Nat) : (O_q10z n : Orc ρ).ok Tryz.prog := orcCons_ok (by kernel_rfl) (ok_q30z n) (orcNil_ok)
noncomputable def T_q10z_s0 : Tm := ⟨[(0, .own 2000000), (1, .clo 52 [1000016, 1000017])], [(7, .i64), (8, .i64)], [(1000016, .box [.ref (.fn 29)]), (1000017, .box [.d .node]), (2000000, .arr 38 .node)], []⟩
noncomputable def X_q10z_s0 : Tm := ⟨[], [], [(1000016, .box [.ref (.fn 29)]), (1000017, .box [.d .node]), (2000000, .arr 38 .node)], []⟩
noncomputable def R_q10z_s0 : Tm := ⟨[], [(4, .i64)], [(1000016, .box [.ref (.fn 29)]), (1000017, .box [.d .node]), (2000000, .arr 38 .node)], []⟩
noncomputable def L_q10z_s0 {ρ : Type} (n : Nat) : LOrc ρ := lorcNil
omit [Tabs] [QuietD Tryz.prog] [UDef] [UTabs] in
theorem s_q10z_s0 {ρ : Type} (n : Nat) (rec : T_q10z_s0.den → Option ρ) kx kr s : dStep Tryz.prog 19 TT M_q10z (O_q10z n) (L_q10z_s0 n) dorcNil 0 (lbody 1000 C_q10z 0) T_q10z_s0 X_q10z_s0 R_q10z_s0 ⟨[], [], []⟩ rec kx kr s = q10z_s0 n rec kx kr s := by kernel_rfl
noncomputable def L_q10z {ρ : Type} (n : Nat) : LOrc ρ := lorcCons 0 (loopL 19 0 n T_q10z_s0 X_q10z_s0 R_q10z_s0 ⟨[], [], []⟩ (q10z_s0 n)) (lorcNil)
omit [Tabs] [QuietD Tryz.prog] [UDef] [UTabs] in
theorem e_q10z (n : Nat) (x) : evF Tryz.prog 19 TT M_q10z F_q10z (O_q10z n) (L_q10z n) dorcNil ⟨[], [], []⟩ [.tmp 4] C_q10z x = q10z n x := by kernel_rfl
omit [UDef] [UTabs] in
theorem ok_q10z (n : Nat) : Contract Tryz.prog 10 F_q10z (q10z n) :=
  Contract.of_ev (c := C_q10z) (N := 19) Tryz.func10 (by kernel_rfl) (by kernel_rfl) (by kernel_rfl) (by kernel_rfl) (O_q10z_ok n) dorcNil_ok (.of (l := [(0, (lbody 1000 C_q10z 0))]) (by kernel_rfl) ⟨.head (loopL_sound (O_q10z_ok n) dorcNil_ok (.of (l := []) (by kernel_rfl) trivial) (s_q10z_s0 n)), trivial⟩) (e_q10z n)

noncomputable def F_q73z : FnT := ⟨1, ⟨[], [(0, .node)], [], []⟩, [.v .i64], []⟩
noncomputable def C_q73z : Code := bodyOf Tryz.f28
noncomputable def M_q73z : List (Nat × ArgM) := []
instance : DfOk M_q73z := .none rfl
noncomputable def O_q73z {ρ : Type} : Orc ρ := orcNil
omit [QuietD Tryz.prog] [UDef] [UTabs] in
theorem O_q73z_ok {ρ : Type} : (O_q73z : Orc ρ).ok Tryz.prog := orcNil_ok
noncomputable def L_q73z {ρ : Type} : LOrc ρ := lorcNil
omit [Tabs] [QuietD Tryz.prog] [UDef] [UTabs] in
theorem e_q73z (x) : evF Tryz.prog 5 TT M_q73z F_q73z (O_q73z) (L_q73z) dorcNil ⟨[], [], []⟩ [.tmp 2] C_q73z x = q73z x := by kernel_rfl
omit [UDef] [UTabs] in
theorem ok_q73z : Contract Tryz.prog 28 F_q73z (q73z) :=
  Contract.of_ev (c := C_q73z) (N := 5) Tryz.func28 (by kernel_rfl) (by kernel_rfl) (by kernel_rfl) (by kernel_rfl) (O_q73z_ok) dorcNil_ok (.of (l := []) (by kernel_rfl) trivial) (e_q73z)

noncomputable def F_q4z : FnT := ⟨3, ⟨[(0, .own 2000000), (2, .clo 54 [1000016])], [(1, .i64)], [(2000000, .arr 38 .node), (1000016, .box [.ref (.fn 28)])], []⟩, [.v .i64, .v .bool], [(2000000, .arr 38 .node), (1000016, .box [.ref (.fn 28)])]⟩
noncomputable def F_q31z : FnT := ⟨3, ⟨[(2, .ptr 1000000 0)], [(0, .node), (1, .i64)], [(1000000, .box [.ref (.fn 28)])], []⟩, [.v .i64], [(1000000, .box [.ref (.fn 28)])]⟩
noncomputable def C_q31z : Code := bodyOf Tryz.f54
noncomputable def M_q31z : List (Nat × ArgM) := [(28, ⟨[], [], [], true⟩), (55, ⟨[], [], [], true⟩)]
instance : DfOk M_q31z := .none rfl
noncomputable def O_q31z {ρ : Type} : Orc ρ := orcCons 28 F_q73z (q73z) (orcCons 55 F_q48z (q48z) (orcNil))
omit [UDef] [UTabs] in
theorem O_q31z_ok {ρ : Type} : (O_q31z : Orc ρ).ok Tryz.prog := orcCons_ok (by kernel_rfl) (ok_q73z) (orcCons_ok (by kernel_rfl) (ok_q48z) (orcNil_ok))
noncomputable def L_q31z {ρ : Type} : LOrc ρ := lorcNil
omit [Tabs] [QuietD Tryz.prog] [UDef] [UTabs] in
theorem e_q31z (x) : evF Tryz.prog 11 TT M_q31z F_q31z (O_q31z) (L_q31z) dorcNil ⟨[], [], []⟩ [.tmp 5] C_q31z x = q31z x := by kernel_rfl
omit [UDef] [UTabs] in
theorem ok_q31z : Contract Tryz.prog 54 F_q31z (q31z) :=
  Contract.of_ev (c := C_q31z) (N := 11) Tryz.func54 (by kernel_rfl) (by kernel_rfl) (by kernel_rfl) (by kernel_rfl) (O_q31z_ok) dorcNil_ok (.of (l := []) (by kernel_rfl) trivial) (e_q31z)

noncomputable def C_q4z : Code := bodyOf Tryz.f53
noncomputable def M_q4z : List (Nat × ArgM) := [(999999999, ⟨[1], [], [], false⟩), (54, ⟨[2], [], [], false⟩)]
instance : DfOk M_q4z := .none rfl
noncomputable def O_q4z {ρ : Type} (n : Nat) : Orc ρ := orcCons 54 F_q31z (q31z) (orcNil)
omit [UDef] [UTabs] in
theorem O_q4z_ok {ρ : Type} (n : Nat) : (O_q4z n : Orc ρ).ok Tryz.prog := orcCons_ok (by kernel_rfl) (ok_q31z) (orcNil_ok)
noncomputable def T_q4z_s0 : Tm := ⟨[(0, .own 2000000), (2, .clo 54 [1000016])], [(1, .i64), (8, .i64), (9, .i64), (10, .i64)], [(1000016, .box [.ref (.fn 28)]), (2000000, .arr 38 .node)], []⟩
noncomputable def X_q4z_s0 : Tm := ⟨[(0, .own 2000000), (2, .clo 54 [1000016])], [(1, .i64), (8, .i64), (9, .i64)], [(1000016, .box [.ref (.fn 28)]), (2000000, .arr 38 .node)], []⟩
noncomputable def R_q4z_s0 : Tm := ⟨[], [], [], []⟩
noncomputable def L_q4z_s0 {ρ : Type} (n : Nat) : LOrc ρ := lorcNil
omit [Tabs] [QuietD Tryz.prog] [UDef] [UTabs] in
theorem s_q4z_s0 {ρ : Type} (n : Nat) (rec : T_q4z_s0.den → Option ρ) kx kr s : dStep Tryz.prog 49 TT M_q4z (O_q4z n) (L_q4z_s0 n) dorcNil 0 (lbody 1000 C_q4z 0) T_q4z_s0 X_q4z_s0 R_q4z_s0 ⟨[], [], []⟩ rec kx kr s = q4z_s0 n rec kx kr s := by kernel_rfl
noncomputable def L_q4z {ρ : Type} (n : Nat) : LOrc ρ := lorcCons 0 (loopL 49 0 n T_q4z_s0 X_q4z_s0 R_q4z_s0 ⟨[], [], []⟩ (q4z_s0 n)) (lorcNil)
omit [Tabs] [QuietD Tryz.prog] [UDef] [UTabs] in
theorem e_q4z (n : Nat) (x) : evF Tryz.prog 49 TT M_q4z F_q4z (O_q4z n) (L_q4z n) dorcNil ⟨[], [], []⟩ [.tmp 6, .tmp 7] C_q4z x = q4z n x := by kernel_rfl
omit [UDef] [UTabs] in
theorem ok_q4z (n : Nat) : Contract Tryz.prog 53 F_q4z (q4z n) :=
  Contract.of_ev (c := C_q4z) (N := 49) Tryz.func53 (by kernel_rfl) (by kernel_rfl) (by kernel_rfl) (by kernel_rfl) (O_q4z_ok n) dorcNil_ok (.of (l := [(0, (lbody 1000 C_q4z 0))]) (by kernel_rfl) ⟨.head (loopL_sound (O_q4z_ok n) dorcNil_ok (.of (l := []) (by kernel_rfl) trivial) (s_q4z_s0 n)), trivial⟩) (e_q4z n)

noncomputable def C_q13z : Code := bodyOf Tryz.f27
noncomputable def M_q13z : List (Nat × ArgM) := [(999999999, ⟨[1], [], [], false⟩), (10, ⟨[1000, 1], [], [], false⟩), (53, ⟨[1000, 2], [], [], false⟩), (56, ⟨[0, 1002], [⟨0, 1000000, 38, 3⟩], [], false⟩), (13, ⟨[0], [⟨0, 1000000, 38, 3⟩], [], false⟩), (8, ⟨[], [], [5], false⟩), (28, ⟨[], [], [], true⟩)]
instance : DfOk M_q13z := .none rfl
noncomputable def O_q13z {ρ : Type} (n : Nat) : Orc ρ := orcCons 8 F_q15z (q15z) (orcCons 10 F_q10z (q10z n) (orcCons 13 (F_del 38 .node) (delN) (orcCons 28 F_q73z (q73z) (orcCons 53 F_q4z (q4z n) (orcCons 56 (F_ins 38 .node) (insN) (orcNil))))))
omit [UDef] [UTabs] in
theorem O_q13z_ok {ρ : Type} (n : Nat) : (O_q13z n : Orc ρ).ok Tryz.prog := orcCons_ok (by kernel_rfl) (ok_q15z) (orcCons_ok (by kernel_rfl) (ok_q10z n) (orcCons_ok (by kernel_rfl) (delN13_ok) (orcCons_ok (by kernel_rfl) (ok_q73z) (orcCons_ok (by kernel_rfl) (ok_q4z n) (orcCons_ok (by kernel_rfl) (insN56_ok) (orcNil_ok))))))
noncomputable def T_q13z_s0 : Tm := ⟨[(8, .ptr 8 0), (9, .ptr 9 0), (12, .own 21)], [(2, (.lst .node)), (22, (.lst .node)), (23, .i64), (24, .i64)], [(8, .box [.ref (.fn 28)]), (9, .box [.ref (.fn 29)]), (21, .arr 38 .node)], []⟩
noncomputable def X_q13z_s0 : Tm := ⟨[(8, .ptr 8 0), (12, .own 21)], [(2, (.lst .node))], [(8, .box [.ref (.fn 28)]), (21, .arr 38 .node)], []⟩
noncomputable def R_q13z_s0 : Tm := ⟨[], [(10, (.lst .node)), (11, .bool)], [], []⟩
noncomputable def L_q13z_s0 {ρ : Type} (n : Nat) : LOrc ρ := lorcNil
omit [Tabs] [QuietD Tryz.prog] [UDef] [UTabs] in
theorem s_q13z_s0 {ρ : Type} (n : Nat) (rec : T_q13z_s0.den → Option ρ) kx kr s : dStep Tryz.prog 62 TT M_q13z (O_q13z n) (L_q13z_s0 n) dorcNil 0 (lbody 1000 C_q13z 0) T_q13z_s0 X_q13z_s0 R_q13z_s0 ⟨[], [], []⟩ rec kx kr s = q13z_s0 n rec kx kr s := by kernel_rfl
noncomputable def T_q13z_s2 : Tm := ⟨[(8, .ptr 8 0), (12, .own 21)], [(39, (.lst .node)), (40, .i64), (41, .i64)], [(8, .box [.ref (.fn 28)]), (21, .arr 38 .node)], []⟩
noncomputable def X_q13z_s2 : Tm := ⟨[(12, .own 21)], [], [(21, .arr 38 .node)], []⟩
noncomputable def R_q13z_s2 : Tm := ⟨[], [(10, (.lst .node)), (11, .bool)], [], []⟩
noncomputable def L_q13z_s2 {ρ : Type} (n : Nat) : LOrc ρ := lorcNil
omit [Tabs] [QuietD Tryz.prog] [UDef] [UTabs] in
theorem s_q13z_s2 {ρ : Type} (n : Nat) (rec : T_q13z_s2.den → Option ρ) kx kr s : dStep Tryz.prog 62 TT M_q13z (O_q13z n) (L_q13z_s2 n) dorcNil 2 (lbody 1000 C_q13z 1) T_q13z_s2 X_q13z_s2 R_q13z_s2 ⟨[], [], []⟩ rec kx kr s = q13z_s2 n rec kx kr s := by kernel_rfl
noncomputable def L_q13z {ρ : Type} (n : Nat) : LOrc ρ := lorcCons 0 (loopL 62 0 n T_q13z_s0 X_q13z_s0 R_q13z_s0 ⟨[], [], []⟩ (q13z_s0 n)) (lorcCons 2 (loopL 62 2 n T_q13z_s2 X_q13z_s2 R_q13z_s2 ⟨[], [], []⟩ (q13z_s2 n)) (lorcNil))
omit [Tabs] [QuietD Tryz.prog] [UDef] [UTabs] in
theorem e_q13z (n : Nat) (x) : evF Tryz.prog 62 TT M_q13z F_q13z (O_q13z n) (L_q13z n) dorcNil ⟨[], [], []⟩ [.tmp 10, .tmp 11] C_q13z x = q13z n x := by kernel_rfl
omit [UDef] [UTabs] in
theorem ok_q13z (n : Nat) : Contract Tryz.prog 27 F_q13z (q13z n) :=
  Contract.of_ev (c := C_q13z) (N := 62) Tryz.func27 (by kernel_rfl) (by kernel_rfl) (by kernel_rfl) (by kernel_rfl) (O_q13z_ok n) dorcNil_ok (.of (l := [(0, (lbody 1000 C_q13z 0)), (2, (lbody 1000 C_q13z 1))]) (by kernel_rfl) ⟨.head (loopL_sound (O_q13z_ok n) dorcNil_ok (.of (l := []) (by kernel_rfl) trivial) (s_q13z_s0 n)), ⟨.tail rfl (.head (loopL_sound (O_q13z_ok n) dorcNil_ok (.of (l := []) (by kernel_rfl) trivial) (s_q13z_s2 n))), trivial⟩⟩) (e_q13z n)

noncomputable def F_q12z : FnT := ⟨5, ⟨[(3, .fn 31), (4, .fn 32)], [(0, (.lst .edg)), (1, (.lst .edg)), (2, (.lst .edg))], [], []⟩, [.v (.lst .edg), .v .bool], []⟩
noncomputable def F_q14z : FnT := ⟨1, ⟨[], [(0, (.lst .edg))], [], []⟩, [.ref (.own 5)], [(5, .arr 41 .edg)]⟩
noncomputable def C_q14z : Code := bodyOf Tryz.f9
noncomputable def M_q14z : List (Nat × ArgM) := []
instance : DfOk M_q14z := .none rfl
noncomputable def O_q14z {ρ : Type} : Orc ρ := orcNil
omit [QuietD Tryz.prog] [UDef] [UTabs] in
theorem O_q14z_ok {ρ : Type} : (O_q14z : Orc ρ).ok Tryz.prog := orcNil_ok
noncomputable def L_q14z {ρ : Type} : LOrc ρ := lorcNil
omit [Tabs] [QuietD Tryz.prog] [UDef] [UTabs] in
theorem e_q14z (x) : evF Tryz.prog 8 TT M_q14z F_q14z (O_q14z) (L_q14z) dorcNil ⟨[], [(2, 5, 41, 5)], []⟩ [.tmp 2] C_q14z x = q14z x := by kernel_rfl
omit [UDef] [UTabs] in
theorem ok_q14z : Contract Tryz.prog 9 F_q14z (q14z) :=
  Contract.of_ev (c := C_q14z) (N := 8) Tryz.func9 (by kernel_rfl) (by kernel_rfl) (by kernel_rfl) (by kernel_rfl) (O_q14z_ok) dorcNil_ok (.of (l := []) (by kernel_rfl) trivial) (e_q14z)

noncomputable def F_q8z : FnT := ⟨2, ⟨[(0, .own 2000000), (1, .clo 58 [1000016, 1000017])], [], [(2000000, .arr 41 .edg), (1000016, .box [.ref (.fn 32)]), (1000017, .box [.d .edg])], []⟩, [.v .i64], [(2000000, .arr 41 .edg), (1000016, .box [.ref (.fn 32)]), (1000017, .box [.d .edg])]⟩
noncomputable def F_q28z : FnT := ⟨3, ⟨[(1, .ptr 1000000 0), (2, .ptr 1000016 0)], [(0, .edg)], [(1000000, .box [.ref (.fn 32)]), (1000016, .box [.d .edg])], []⟩, [.v .bool], [(1000000, .box [.ref (.fn 32)]), (1000016, .box [.d .edg])]⟩
noncomputable def F_q55z : FnT := ⟨2, ⟨[], [(0, .edg), (1, .edg)], [], []⟩, [.v .bool], []⟩
noncomputable def C_q55z : Code := bodyOf Tryz.f32
noncomputable def M_q55z : List (Nat × ArgM) := [(57, ⟨[], [], [], true⟩)]
instance : DfOk M_q55z := .none rfl
noncomputable def O_q55z {ρ : Type} (n : Nat) : Orc ρ := orcCons 57 F_q51z (q51z n) (orcNil)
omit [UDef] [UTabs] in
theorem O_q55z_ok {ρ : Type} (n : Nat) : (O_q55z n : Orc ρ).ok Tryz.prog := orcCons_ok (by kernel_rfl) (ok_q51z n) (orcNil_ok)
noncomputable def L_q55z {ρ : Type} (n : Nat) : LOrc ρ := lorcNil
omit [Tabs] [QuietD Tryz.prog] [UDef] [UTabs] in
theorem e_q55z (n : Nat) (x) : evF Tryz.prog 38 TT M_q55z F_q55z (O_q55z n) (L_q55z n) dorcNil ⟨[], [], []⟩ [.tmp 4] C_q55z x = q55z n x := by kernel_rfl
omit [UDef] [UTabs] in
theorem ok_q55z (n : Nat) : Contract Tryz.prog 32 F_q55z (q55z n) :=
  Contract.of_ev (c := C_q55z) (N := 38) Tryz.func32 (by kernel_rfl) (by kernel_rfl) (by kernel_rfl) (by kernel_rfl) (O_q55z_ok n) dorcNil_ok (.of (l := []) (by kernel_rfl) trivial) (e_q55z n)

noncomputable def C_q28z : Code := bodyOf Tryz.f58
noncomputable def M_q28z : List (Nat × ArgM) := [(32, ⟨[], [], [], true⟩)]
instance : DfOk M_q28z := .none rfl
noncomputable def O_q28z {ρ : Type} (n : Nat) : Orc ρ := orcCons 32 F_q55z (q55z n) (orcNil)
omit [UDef] [UTabs] in
theorem O_q28z_ok {ρ : Type} (n : Nat) : (O_q28z n : Orc ρ).ok Tryz.prog := orcCons_ok (by kernel_rfl) (ok_q55z n) (orcNil_ok)
noncomputable def L_q28z {ρ : Type} (n : Nat) : LOrc ρ := lorcNil
omit [Tabs] [QuietD Tryz.prog] [UDef] [UTabs] in
theorem e_q28z (n : Nat) (x) : evF Tryz.prog 9 TT M_q28z F_q28z (O_q28z n) (L_q28z n) dorcNil ⟨[], [], []⟩ [.tmp 4] C_q28z x = q28z n x := by kernel_rfl
omit [UDef] [UTabs] in
theorem ok_q28z (n : Nat) : Contract Tryz.prog 58 F_q28z (q28z n) :=
  Contract.of_ev (c := C_q28z) (N := 9) Tryz.func58 (by kernel_rfl) (by kernel_rfl) (by kernel_rfl) (by kernel_rfl) (O_q28z_ok n) dorcNil_ok (.of (l := []) (by kernel_rfl) trivial) (e_q28z n)

noncomputable def C_q8z : Code := bodyOf Tryz.f15
noncomputable def M_q8z : List (Nat × ArgM) := [(999999999, ⟨[1], [], [], false⟩), (58, ⟨[1, 2], [], [], false⟩)]
instance : DfOk M_q8z := .none rfl
noncomputable def O_q8z {ρ : Type} (n : Nat) : Orc ρ := orcCons 58 F_q28z (q28z n) (orcNil)
omit [UDef] [UTabs] in
theorem O_q8z_ok {ρ : Type} (n : Nat) : (O_q8z n : Orc ρ).ok Tryz.prog := orcCons_ok (by kernel_rfl) (ok_q28z n) (orcNil_ok)
noncomputable def T_q8z_s0 : Tm := ⟨[(0, .own 2000000), (1, .clo 58 [1000016, 1000017])], [(7, .i64), (8, .i64)], [(1000016, .box [.ref (.fn 32)]), (1000017, .box [.d .edg]), (2000000, .arr 41 .edg)], []⟩
noncomputable def X_q8z_s0 : Tm := ⟨[], [], [(1000016, .box [.ref (.fn 32)]), (1000017, .box [.d .edg]), (2000000, .arr 41 .edg)], []⟩
noncomputable def R_q8z_s0 : Tm := ⟨[], [(4, .i64)], [(1000016, .box [.ref (.fn 32)]), (1000017, .box [.d .edg]), (2000000, .arr 41 .edg)], []⟩
noncomputable def L_q8z_s0 {ρ : Type} (n : Nat) : LOrc ρ := lorcNil
omit [Tabs] [QuietD Tryz.prog] [UDef] [UTabs] in
theorem s_q8z_s0 {ρ : Type} (n : Nat) (rec : T_q8z_s0.den → Option ρ) kx kr s : dStep Tryz.prog 19 TT M_q8z (O_q8z n) (L_q8z_s0 n) dorcNil 0 (lbody 1000 C_q8z 0) T_q8z_s0 X_q8z_s0 R_q8z_s0 ⟨[], [], []⟩ rec kx kr s = q8z_s0 n rec kx kr s := by kernel_rfl
noncomputable def L_q8z {ρ : Type} (n : Nat) : LOrc ρ := lorcCons 0 (loopL 19 0 n T_q8z_s0 X_q8z_s0 R_q8z_s0 ⟨[], [], []⟩ (q8z_s0 n)) (lorcNil)
omit [Tabs] [QuietD Tryz.prog] [UDef] [UTabs] in
theorem e_q8z (n : Nat) (x) : evF Tryz.prog 19 TT M_q8z F_q8z (O_q8z n) (L_q8z n) dorcNil ⟨[], [], []⟩ [.tmp 4] C_q8z x = q8z n x := by kernel_rfl
omit [UDef] [UTabs] in
theorem ok_q8z (n : Nat) : Contract Tryz.prog 15 F_q8z (q8z n) :=
  Contract.of_ev (c := C_q8z) (N := 19) Tryz.func15 (by kernel_rfl) (by kernel_rfl) (by kernel_rfl) (by kernel_rfl) (O_q8z_ok n) dorcNil_ok (.of (l := [(0, (lbody 1000 C_q8z 0))]) (by kernel_rfl) ⟨.head (loopL_sound (O_q8z_ok n) dorcNil_ok (.of (l := []) (by kernel_rfl) trivial) (s_q8z_s0 n)), trivial⟩) (e_q8z n)

noncomputable def F_q74z : FnT := ⟨1, ⟨[], [(0, .edg)], [], []⟩, [.v .i64], []⟩
noncomputable def C_q74z : Code := bodyOf Tryz.f31
noncomputable def M_q74z : List (Nat × ArgM) := []
instance : DfOk M_q74z := .none rfl
noncomputable def O_q74z {ρ : Type} : Orc ρ := orcNil
omit [QuietD Tryz.prog] [UDef] [UTabs] in
theorem O_q74z_ok {ρ : Type} : (O_q74z : Orc ρ).ok Tryz.prog := orcNil_ok
noncomputable def L_q74z {ρ : Type} : LOrc ρ := lorcNil
omit [Tabs] [QuietD Tryz.prog] [UDef] [UTabs] in
theorem e_q74z (x) : evF Tryz.prog 5 TT M_q74z F_q74z (O_q74z) (L_q74z) dorcNil ⟨[], [], []⟩ [.tmp 2] C_q74z x = q74z x := by kernel_rfl
omit [UDef] [UTabs] in
theorem ok_q74z : Contract Tryz.prog 31 F_q74z (q74z) :=
  Contract.of_ev (c := C_q74z) (N := 5) Tryz.func31 (by kernel_rfl) (by kernel_rfl) (by kernel_rfl) (by kernel_rfl) (O_q74z_ok) dorcNil_ok (.of (l := []) (by kernel_rfl) trivial) (e_q74z)

noncomputable def F_q3z : FnT := ⟨3, ⟨[(0, .own 2000000), (2, .clo 60 [1000016])], [(1, .i64)], [(2000000, .arr 41 .edg), (1000016, .box [.ref (.fn 31)])], []⟩, [.v .i64, .v .bool], [(2000000, .arr 41 .edg), (1000016, .box [.ref (.fn 31)])]⟩
noncomputable def F_q29z : FnT := ⟨3, ⟨[(2, .ptr 1000000 0)], [(0, .edg), (1, .i64)], [(1000000, .box [.ref (.fn 31)])], []⟩, [.v .i64], [(1000000, .box [.ref (.fn 31)])]⟩
noncomputable def C_q29z : Code := bodyOf Tryz.f60
noncomputable def M_q29z : List (Nat × ArgM) := [(31, ⟨[], [], [], true⟩), (55, ⟨[], [], [], true⟩)]
instance : DfOk M_q29z := .none rfl
noncomputable def O_q29z {ρ : Type} : Orc ρ := orcCons 31 F_q74z (q74z) (orcCons 55 F_q48z (q48z) (orcNil))
omit [UDef] [UTabs] in
theorem O_q29z_ok {ρ : Type} : (O_q29z : Orc ρ).ok Tryz.prog := orcCons_ok (by kernel_rfl) (ok_q74z) (orcCons_ok (by kernel_rfl) (ok_q48z) (orcNil_ok))
noncomputable def L_q29z {ρ : Type} : LOrc ρ := lorcNil
omit [Tabs] [QuietD Tryz.prog] [UDef] [UTabs] in
theorem e_q29z (x) : evF Tryz.prog 11 TT M_q29z F_q29z (O_q29z) (L_q29z) dorcNil ⟨[], [], []⟩ [.tmp 5] C_q29z x = q29z x := by kernel_rfl
omit [UDef] [UTabs] in
theorem ok_q29z : Contract Tryz.prog 60 F_q29z (q29z) :=
  Contract.of_ev (c := C_q29z) (N := 11) Tryz.func60 (by kernel_rfl) (by kernel_rfl) (by kernel_rfl) (by kernel_rfl) (O_q29z_ok) dorcNil_ok (.of (l := []) (by kernel_rfl) trivial) (e_q29z)

noncomputable def C_q3z : Code := bodyOf Tryz.f59
noncomputable def M_q3z : List (Nat × ArgM) := [(999999999, ⟨[1], [], [], false⟩), (60, ⟨[2], [], [], false⟩)]
instance : DfOk M_q3z := .none rfl
noncomputable def O_q3z {ρ : Type} (n : Nat) : Orc ρ := orcCons 60 F_q29z (q29z) (orcNil)
omit [UDef] [UTabs] in
theorem O_q3z_ok {ρ : Type} (n : Nat) : (O_q3z n : Orc ρ).ok Tryz.prog := orcCons_ok (by kernel_rfl) (ok_q29z) (orcNil_ok)
noncomputable def T_q3z_s0 : Tm := ⟨[(0, .own 2000000), (2, .clo 60 [1000016])], [(1, .i64), (8, .i64), (9, .i64), (10, .i64)], [(1000016, .box [.ref (.fn 31)]), (2000000, .arr 41 .edg)], []⟩
noncomputable def X_q3z_s0 : Tm := ⟨[(0, .own 2000000), (2, .clo 60 [1000016])], [(1, .i64), (8, .i64), (9, .i64)], [(1000016, .box [.ref (.fn 31)]), (2000000, .arr 41 .edg)], []⟩
noncomputable def R_q3z_s0 : Tm := ⟨[], [], [], []⟩
noncomputable def L_q3z_s0 {ρ : Type} (n : Nat) : LOrc ρ := lorcNil
omit [Tabs] [QuietD Tryz.prog] [UDef] [UTabs] in
theorem s_q3z_s0 {ρ : Type} (n : Nat) (rec : T_q3z_s0.den → Option ρ) kx kr s : dStep Tryz.prog 49 TT M_q3z (O_q3z n) (L_q3z_s0 n) dorcNil 0 (lbody 1000 C_q3z 0) T_q3z_s0 X_q3z_s0 R_q3z_s0 ⟨[], [], []⟩ rec kx kr s = q3z_s0 n rec kx kr s := by kernel_rfl
noncomputable def L_q3z {ρ : Type} (n : Nat) : LOrc ρ := lorcCons 0 (loopL 49 0 n T_q3z_s0 X_q3z_s0 R_q3z_s0 ⟨[], [], []⟩ (q3z_s0 n)) (lorcNil)
omit [Tabs] [QuietD Tryz.prog] [UDef] [UTabs] in
theorem e_q3z (n : Nat) (x) : evF Tryz.prog 49 TT M_q3z F_q3z (O_q3z n) (L_q3z n) dorcNil ⟨[], [], []⟩ [.tmp 6, .tmp 7] C_q3z x = q3z n x := by kernel_rfl
omit [UDef] [UTabs] in
theorem ok_q3z (n : Nat) : Contract Tryz.prog 59 F_q3z (q3z n) :=
  Contract.of_ev (c := C_q3z) (N := 49) Tryz.func59 (by kernel_rfl) (by kernel_rfl) (by kernel_rfl) (by kernel_rfl) (O_q3z_ok n) dorcNil_ok (.of (l := [(0, (lbody 1000 C_q3z 0))]) (by kernel_rfl) ⟨.head (loopL_sound (O_q3z_ok n) dorcNil_ok (.of (l := []) (by kernel_rfl) trivial) (s_q3z_s0 n)), trivial⟩) (e_q3z n)

noncomputable def C_q12z : Code := bodyOf Tryz.f30
noncomputable def M_q12z : List (Nat × ArgM) := [(999999999, ⟨[1], [], [], false⟩), (15, ⟨[1000, 1], [], [], false⟩), (59, ⟨[1000, 2], [], [], false⟩), (61, ⟨[0, 1002], [⟨0, 1000000, 41, 5⟩], [], false⟩), (18, ⟨[0], [⟨0, 1000000, 41, 5⟩], [], false⟩), (9, ⟨[], [], [5], false⟩), (31, ⟨[], [], [], true⟩)]
instance : DfOk M_q12z := .none rfl
noncomputable def O_q12z {ρ : Type} (n : Nat) : Orc ρ := orcCons 9 F_q14z (q14z) (orcCons 15 F_q8z (q8z n) (orcCons 18 (F_del 41 .edg) (delN) (orcCons 31 F_q74z (q74z) (orcCons 59 F_q3z (q3z n) (orcCons 61 (F_ins 41 .edg) (insN) (orcNil))))))
omit [UDef] [UTabs] in
theorem O_q12z_ok {ρ : Type} (n : Nat) : (O_q12z n : Orc ρ).ok Tryz.prog := orcCons_ok (by kernel_rfl) (ok_q14z) (orcCons_ok (by kernel_rfl) (ok_q8z n) (orcCons_ok (by kernel_rfl) (delN18_ok) (orcCons_ok (by kernel_rfl) (ok_q74z) (orcCons_ok (by kernel_rfl) (ok_q3z n) (orcCons_ok (by kernel_rfl) (insN61_ok) (orcNil_ok))))))
noncomputable def T_q12z_s0 : Tm := ⟨[(8, .ptr 8 0), (9, .ptr 9 0), (12, .own 21)], [(2, (.lst .edg)), (22, (.lst .edg)), (23, .i64), (24, .i64)], [(8, .box [.ref (.fn 31)]), (9, .box [.ref (.fn 32)]), (21, .arr 41 .edg)], []⟩
noncomputable def X_q12z_s0 : Tm := ⟨[(8, .ptr 8 0), (12, .own 21)], [(2, (.lst .edg))], [(8, .box [.ref (.fn 31)]), (21, .arr 41 .edg)], []⟩
noncomputable def R_q12z_s0 : Tm := ⟨[], [(10, (.lst .edg)), (11, .bool)], [], []⟩
noncomputable def L_q12z_s0 {ρ : Type} (n : Nat) : LOrc ρ := lorcNil
omit [Tabs] [QuietD Tryz.prog] [UDef] [UTabs] in
theorem s_q12z_s0 {ρ : Type} (n : Nat) (rec : T_q12z_s0.den → Option ρ) kx kr s : dStep Tryz.prog 62 TT M_q12z (O_q12z n) (L_q12z_s0 n) dorcNil 0 (lbody 1000 C_q12z 0) T_q12z_s0 X_q12z_s0 R_q12z_s0 ⟨[], [], []⟩ rec kx kr s = q12z_s0 n rec kx kr s := by kernel_rfl
noncomputable def T_q12z_s2 : Tm := ⟨[(8, .ptr 8 0), (12, .own 21)], [(39, (.lst .edg)), (40, .i64), (41, .i64)], [(8, .box [.ref (.fn 31)]), (21, .arr 41 .edg)], []⟩
noncomputable def X_q12z_s2 : Tm := ⟨[(12, .own 21)], [], [(21, .arr 41 .edg)], []⟩
noncomputable def R_q12z_s2 : Tm := ⟨[], [(10, (.lst .edg)), (11, .bool)], [], []⟩
noncomputable def L_q12z_s2 {ρ : Type} (n : Nat) : LOrc ρ := lorcNil
omit [Tabs] [QuietD Tryz.prog] [UDef] [UTabs] in
theorem s_q12z_s2 {ρ : Type} (n : Nat) (rec : T_q12z_s2.den → Option ρ) kx kr s : dStep Tryz.prog 62 TT M_q12z (O_q12z n) (L_q12z_s2 n) dorcNil 2 (lbody 1000 C_q12z 1) T_q12z_s2 X_q12z_s2 R_q12z_s2 ⟨[], [], []⟩ rec kx kr s = q12z_s2 n rec kx kr s := by kernel_rfl
noncomputable def L_q12z {ρ : Type} (n : Nat) : LOrc ρ := lorcCons 0 (loopL 62 0 n T_q12z_s0 X_q12z_s0 R_q12z_s0 ⟨[], [], []⟩ (q12z_s0 n)) (lorcCons 2 (loopL 62 2 n T_q12z_s2 X_q12z_s2 R_q12z_s2 ⟨[], [], []⟩ (q12z_s2 n)) (lorcNil))
omit [Tabs] [QuietD Tryz.prog] [UDef] [UTabs] in
theorem e_q12z (n : Nat) (x) : evF Tryz.prog 62 TT M_q12z F_q12z (O_q12z n) (L_q12z n) dorcNil ⟨[], [], []⟩ [.tmp 10, .tmp 11] C_q12z x = q12z n x := by kernel_rfl
omit [UDef] [UTabs] in
theorem ok_q12z (n : Nat) : Contract Tryz.prog 30 F_q12z (q12z n) :=
  Contract.of_ev (c := C_q12z) (N := 62) Tryz.func30 (by kernel_rfl) (by kernel_rfl) (by kernel_rfl) (by kernel_rfl) (O_q12z_ok n) dorcNil_ok (.of (l := [(0, (lbody 1000 C_q12z 0)), (2, (lbody 1000 C_q12z 1))]) (by kernel_rfl) ⟨.head (loopL_sound (O_q12z_ok n) dorcNil_ok (.of (l := []) (by kernel_rfl) trivial) (s_q12z_s0 n)), ⟨.tail rfl (.head (loopL_sound (O_q12z_ok n) dorcNil_ok (.of (l := []) (by kernel_rfl) trivial) (s_q12z_s2 n))), trivial⟩⟩) (e_q12z n)

noncomputable def F_q70z : FnT := ⟨1, ⟨[], [(0, .graph)], [], []⟩, [.v .graph], []⟩
noncomputable def F_q53z : FnT := ⟨1, ⟨[], [(0, .node)], [], []⟩, [.v .node], []⟩
noncomputable def F_q16z : FnT := ⟨1, ⟨[], [(0, (.lst .str))], [], []⟩, [.v (.lst .str)], []⟩
noncomputable def C_q16z : Code := bodyOf Tryz.f103
noncomputable def M_q16z : List (Nat × ArgM) := []
instance : DfOk M_q16z := .none rfl
noncomputable def O_q16z {ρ : Type} : Orc ρ := orcNil
omit [QuietD Tryz.prog] [UDef] [UTabs] in
theorem O_q16z_ok {ρ : Type} : (O_q16z : Orc ρ).ok Tryz.prog := orcNil_ok
noncomputable def L_q16z {ρ : Type} : LOrc ρ := lorcNil
omit [Tabs] [QuietD Tryz.prog] [UDef] [UTabs] in
theorem e_q16z (x) : evF Tryz.prog 8 TT M_q16z F_q16z (O_q16z) (L_q16z) dorcNil ⟨[], [], []⟩ [.tmp 2] C_q16z x = q16z x := by kernel_rfl
omit [UDef] [UTabs] in
theorem ok_q16z : Contract Tryz.prog 103 F_q16z (q16z) :=
  Contract.of_ev (c := C_q16z) (N := 8) Tryz.func103 (by kernel_rfl) (by kernel_rfl) (by kernel_rfl) (by kernel_rfl) (O_q16z_ok) dorcNil_ok (.of (l := []) (by kernel_rfl) trivial) (e_q16z)

noncomputable def F_q50z : FnT := ⟨1, ⟨[], [(0, (.lst .prp))], [], []⟩, [.v (.lst .prp)], []⟩
noncomputable def F_q75z : FnT := ⟨1, ⟨[], [(0, .val)], [], []⟩, [.v .val], []⟩
noncomputable def C_q75z : Code := bodyOf Tryz.f137
noncomputable def M_q75z : List (Nat × ArgM) := []
instance : DfOk M_q75z := .none rfl
noncomputable def O_q75z {ρ : Type} (self_q75z : Ev.Val × Unit → Option (Ev.Val × Unit)) (n : Nat) : Orc ρ := orcCons 137 F_q75z (self_q75z) (orcNil)
omit [QuietD Tryz.prog] [UDef] [UTabs] in
theorem O_q75z_ok {ρ : Type} (self_q75z : Ev.Val × Unit → Option (Ev.Val × Unit)) (h_q75z : Contract Tryz.prog 137 F_q75z self_q75z) (n : Nat) : (O_q75z self_q75z n : Orc ρ).ok Tryz.prog := orcCons_ok (by kernel_rfl) (h_q75z) (orcNil_ok)
noncomputable def T_q75z_s0 : Tm := ⟨[(1, .ptr 1 0), (2, .ptr 2 0)], [(9, (.lst .val)), (10, .i64), (11, .i64)], [(1, .box [.d .i64, .d .i64, .d .str, .ref (.own 300043)]), (2, .box [.d .val]), (300043, .arr 78 .val)], []⟩
noncomputable def X_q75z_s0 : Tm := ⟨[(1, .ptr 1 0), (2, .ptr 2 0)], [], [(1, .box [.d .i64, .d .i64, .d .str, .ref (.own 300043)]), (2, .box [.d .val]), (300043, .arr 78 .val)], []⟩
noncomputable def R_q75z_s0 : Tm := ⟨[], [], [], []⟩
noncomputable def L_q75z_s0 {ρ : Type} (self_q75z : Ev.Val × Unit → Option (Ev.Val × Unit)) (n : Nat) : LOrc ρ := lorcNil
omit [Tabs] [QuietD Tryz.prog] [UDef] [UTabs] in
theorem s_q75z_s0 {ρ : Type} (self_q75z : Ev.Val × Unit → Option (Ev.Val × Unit)) (n : Nat) (rec : T_q75z_s0.den → Option ρ) kx kr s : dStep Tryz.prog 24 TT M_q75z (O_q75z self_q75z n) (L_q75z_s0 self_q75z n) (evDraw Tryz.prog 24 TT M_q75z (O_q75z self_q75z n)) 0 (lbody 1000 C_q75z 0) T_q75z_s0 X_q75z_s0 R_q75z_s0 ⟨[], [], [(1, 3, 300043, 78, 4)]⟩ rec kx kr s = q75z_s0 self_q75z n rec kx kr s := by kernel_rfl
noncomputable def L_q75z {ρ : Type} (self_q75z : Ev.Val × Unit → Option (Ev.Val × Unit)) (n : Nat) : LOrc ρ := lorcCons 0 (loopL 24 0 n T_q75z_s0 X_q75z_s0 R_q75z_s0 ⟨[], [], [(1, 3, 300043, 78, 4)]⟩ (q75z_s0 self_q75z n)) (lorcNil)
omit [Tabs] [QuietD Tryz.prog] [UDef] [UTabs] in
theorem e_q75z (self_q75z : Ev.Val × Unit → Option (Ev.Val × Unit)) (n : Nat) (x) : evF Tryz.prog 24 TT M_q75z F_q75z (O_q75z self_q75z n) (L_q75z self_q75z n) (evDraw Tryz.prog 24 TT M_q75z (O_q75z self_q75z n)) ⟨[], [], []⟩ [.cell 2 78] C_q75z x = q75z_b self_q75z n x := by kernel_rfl
omit [UDef] [UTabs] in
theorem okb_q75z (self_q75z : Ev.Val × Unit → Option (Ev.Val × Unit)) (h_q75z : Contract Tryz.prog 137 F_q75z self_q75z) (n : Nat) : Contract Tryz.prog 137 F_q75z (q75z_b self_q75z n) :=
  Contract.of_ev (c := C_q75z) (N := 24) Tryz.func137 (by kernel_rfl) (by kernel_rfl) (by kernel_rfl) (by kernel_rfl) (O_q75z_ok self_q75z h_q75z n) (evDraw_ok (O_q75z_ok self_q75z h_q75z n) (by kernel_rfl)) (.of (l := [(0, (lbody 1000 C_q75z 0))]) (by kernel_rfl) ⟨.head (loopL_sound (O_q75z_ok self_q75z h_q75z n) (evDraw_ok (O_q75z_ok self_q75z h_q75z n) (by kernel_rfl)) (.of (l := []) (by kernel_rfl) trivial) (s_q75z_s0 self_q75z n)), trivial⟩) (e_q75z self_q75z n)
omit [UDef] [UTabs] in
theorem ok_q75z : ∀ n, Contract Tryz.prog 137 F_q75z (q75z n)
  | 0 => fun _ _ h => by cases h
  | n + 1 => okb_q75z _ (ok_q75z n) n

noncomputable def C_q50z : Code := bodyOf Tryz.f104
noncomputable def M_q50z : List (Nat × ArgM) := []
instance : DfOk M_q50z := .none rfl
noncomputable def O_q50z {ρ : Type} (n : Nat) : Orc ρ := orcCons 137 F_q75z (q75z n) (orcNil)
omit [UDef] [UTabs] in
theorem O_q50z_ok {ρ : Type} (n : Nat) : (O_q50z n : Orc ρ).ok Tryz.prog := orcCons_ok (by kernel_rfl) (ok_q75z n) (orcNil_ok)
noncomputable def T_q50z_s0 : Tm := ⟨[(3, .own 3)], [(6, (.lst .prp)), (7, .i64), (8, .i64)], [(3, .arr 103 .prp)], []⟩
noncomputable def X_q50z_s0 : Tm := ⟨[(3, .own 3)], [], [(3, .arr 103 .prp)], []⟩
noncomputable def R_q50z_s0 : Tm := ⟨[], [], [], []⟩
noncomputable def L_q50z_s0 {ρ : Type} (n : Nat) : LOrc ρ := lorcNil
omit [Tabs] [QuietD Tryz.prog] [UDef] [UTabs] in
theorem s_q50z_s0 {ρ : Type} (n : Nat) (rec : T_q50z_s0.den → Option ρ) kx kr s : dStep Tryz.prog 22 TT M_q50z (O_q50z n) (L_q50z_s0 n) dorcNil 0 (lbody 1000 C_q50z 0) T_q50z_s0 X_q50z_s0 R_q50z_s0 ⟨[], [(3, 3, 103, 5)], []⟩ rec kx kr s = q50z_s0 n rec kx kr s := by kernel_rfl
noncomputable def L_q50z {ρ : Type} (n : Nat) : LOrc ρ := lorcCons 0 (loopL 22 0 n T_q50z_s0 X_q50z_s0 R_q50z_s0 ⟨[], [(3, 3, 103, 5)], []⟩ (q50z_s0 n)) (lorcNil)
omit [Tabs] [QuietD Tryz.prog] [UDef] [UTabs] in
theorem e_q50z (n : Nat) (x) : evF Tryz.prog 22 TT M_q50z F_q50z (O_q50z n) (L_q50z n) dorcNil ⟨[], [], []⟩ [.tmp 2] C_q50z x = q50z n x := by kernel_rfl
omit [UDef] [UTabs] in
theorem ok_q50z (n : Nat) : Contract Tryz.prog 104 F_q50z (q50z n) :=
  Contract.of_ev (c := C_q50z) (N := 22) Tryz.func104 (by kernel_rfl) (by kernel_rfl) (by kernel_rfl) (by kernel_rfl) (O_q50z_ok n) dorcNil_ok (.of (l := [(0, (lbody 1000 C_q50z 0))]) (by kernel_rfl) ⟨.head (loopL_sound (O_q50z_ok n) dorcNil_ok (.of (l := []) (by kernel_rfl) trivial) (s_q50z_s0 n)), trivial⟩) (e_q50z n)

noncomputable def C_q53z : Code := bodyOf Tryz.f62
noncomputable def M_q53z : List (Nat × ArgM) := []
instance : DfOk M_q53z := .none rfl
noncomputable def O_q53z {ρ : Type} (n : Nat) : Orc ρ := orcCons 103 F_q16z (q16z) (orcCons 104 F_q50z (q50z n) (orcNil))
omit [UDef] [UTabs] in
theorem O_q53z_ok {ρ : Type} (n : Nat) : (O_q53z n : Orc ρ).ok Tryz.prog := orcCons_ok (by kernel_rfl) (ok_q16z) (orcCons_ok (by kernel_rfl) (ok_q50z n) (orcNil_ok))
noncomputable def L_q53z {ρ : Type} (n : Nat) : LOrc ρ := lorcNil
omit [Tabs] [QuietD Tryz.prog] [UDef] [UTabs] in
theorem e_q53z (n : Nat) (x) : evF Tryz.prog 12 TT M_q53z F_q53z (O_q53z n) (L_q53z n) dorcNil ⟨[], [], []⟩ [.cell 2 38] C_q53z x = q53z n x := by kernel_rfl
omit [UDef] [UTabs] in
theorem ok_q53z (n : Nat) : Contract Tryz.prog 62 F_q53z (q53z n) :=
  Contract.of_ev (c := C_q53z) (N := 12) Tryz.func62 (by kernel_rfl) (by kernel_rfl) (by kernel_rfl) (by kernel_rfl) (O_q53z_ok n) dorcNil_ok (.of (l := []) (by kernel_rfl) trivial) (e_q53z n)

noncomputable def F_q52z : FnT := ⟨1, ⟨[], [(0, .edg)], [], []⟩, [.v .edg], []⟩
noncomputable def C_q52z : Code := bodyOf Tryz.f63
noncomputable def M_q52z : List (Nat × ArgM) := []
instance : DfOk M_q52z := .none rfl
noncomputable def O_q52z {ρ : Type} (n : Nat) : Orc ρ := orcCons 104 F_q50z (q50z n) (orcNil)
omit [UDef] [UTabs] in
theorem O_q52z_ok {ρ : Type} (n : Nat) : (O_q52z n : Orc ρ).ok Tryz.prog := orcCons_ok (by kernel_rfl) (ok_q50z n) (orcNil_ok)
noncomputable def L_q52z {ρ : Type} (n : Nat) : LOrc ρ := lorcNil
omit [Tabs] [QuietD Tryz.prog] [UDef] [UTabs] in
theorem e_q52z (n : Nat) (x) : evF Tryz.prog 8 TT M_q52z F_q52z (O_q52z n) (L_q52z n) dorcNil ⟨[], [], []⟩ [.cell 2 41] C_q52z x = q52z n x := by kernel_rfl
omit [UDef] [UTabs] in
theorem ok_q52z (n : Nat) : Contract Tryz.prog 63 F_q52z (q52z n) :=
  Contract.of_ev (c := C_q52z) (N := 8) Tryz.func63 (by kernel_rfl) (by kernel_rfl) (by kernel_rfl) (by kernel_rfl) (O_q52z_ok n) dorcNil_ok (.of (l := []) (by kernel_rfl) trivial) (e_q52z n)

noncomputable def C_q70z : Code := bodyOf Tryz.f33
noncomputable def M_q70z : List (Nat × ArgM) := []
instance : DfOk M_q70z := .none rfl
noncomputable def O_q70z {ρ : Type} (n : Nat) : Orc ρ := orcCons 62 F_q53z (q53z n) (orcCons 63 F_q52z (q52z n) (orcNil))
omit [UDef] [UTabs] in
theorem O_q70z_ok {ρ : Type} (n : Nat) : (O_q70z n : Orc ρ).ok Tryz.prog := orcCons_ok (by kernel_rfl) (ok_q53z n) (orcCons_ok (by kernel_rfl) (ok_q52z n) (orcNil_ok))
noncomputable def T_q70z_s0 : Tm := ⟨[(1, .ptr 1 0), (2, .ptr 2 0), (3, .ptr 3 0)], [(12, (.lst .node)), (13, .i64), (14, .i64)], [(1, .box [.d .graph]), (2, .box [.d .graph]), (3, .box [.ref (.own 300120), .ref (.nils), .d .i64]), (300120, .arr 38 .node)], []⟩
noncomputable def X_q70z_s0 : Tm := ⟨[(1, .ptr 1 0), (2, .ptr 2 0), (3, .ptr 3 0)], [], [(1, .box [.d .graph]), (2, .box [.d .graph]), (3, .box [.ref (.own 300120), .ref (.nils), .d .i64]), (300120, .arr 38 .node)], []⟩
noncomputable def R_q70z_s0 : Tm := ⟨[], [], [], []⟩
noncomputable def L_q70z_s0 {ρ : Type} (n : Nat) : LOrc ρ := lorcNil
omit [Tabs] [QuietD Tryz.prog] [UDef] [UTabs] in
theorem s_q70z_s0 {ρ : Type} (n : Nat) (rec : T_q70z_s0.den → Option ρ) kx kr s : dStep Tryz.prog 42 TT M_q70z (O_q70z n) (L_q70z_s0 n) (evDraw Tryz.prog 42 TT M_q70z (O_q70z n)) 0 (lbody 1000 C_q70z 0) T_q70z_s0 X_q70z_s0 R_q70z_s0 ⟨[], [], [(3, 0, 300120, 38, 3)]⟩ rec kx kr s = q70z_s0 n rec kx kr s := by kernel_rfl
noncomputable def T_q70z_s2 : Tm := ⟨[(2, .ptr 2 0), (3, .ptr 3 0)], [(27, (.lst .edg)), (28, .i64), (29, .i64)], [(2, .box [.d .graph]), (3, .box [.ref (.own 300120), .ref (.own 300121), .d .i64]), (300120, .arr 38 .node), (300121, .arr 41 .edg)], []⟩
noncomputable def X_q70z_s2 : Tm := ⟨[(2, .ptr 2 0), (3, .ptr 3 0)], [], [(2, .box [.d .graph]), (3, .box [.ref (.own 300120), .ref (.own 300121), .d .i64]), (300120, .arr 38 .node), (300121, .arr 41 .edg)], []⟩
noncomputable def R_q70z_s2 : Tm := ⟨[], [], [], []⟩
noncomputable def L_q70z_s2 {ρ : Type} (n : Nat) : LOrc ρ := lorcNil
omit [Tabs] [QuietD Tryz.prog] [UDef] [UTabs] in
theorem s_q70z_s2 {ρ : Type} (n : Nat) (rec : T_q70z_s2.den → Option ρ) kx kr s : dStep Tryz.prog 42 TT M_q70z (O_q70z n) (L_q70z_s2 n) (evDraw Tryz.prog 42 TT M_q70z (O_q70z n)) 2 (lbody 1000 C_q70z 1) T_q70z_s2 X_q70z_s2 R_q70z_s2 ⟨[], [], [(3, 1, 300121, 41, 5)]⟩ rec kx kr s = q70z_s2 n rec kx kr s := by kernel_rfl
noncomputable def L_q70z {ρ : Type} (n : Nat) : LOrc ρ := lorcCons 0 (loopL 42 0 n T_q70z_s0 X_q70z_s0 R_q70z_s0 ⟨[], [], [(3, 0, 300120, 38, 3)]⟩ (q70z_s0 n)) (lorcCons 2 (loopL 42 2 n T_q70z_s2 X_q70z_s2 R_q70z_s2 ⟨[], [], [(3, 1, 300121, 41, 5)]⟩ (q70z_s2 n)) (lorcNil))
omit [Tabs] [QuietD Tryz.prog] [UDef] [UTabs] in
theorem e_q70z (n : Nat) (x) : evF Tryz.prog 42 TT M_q70z F_q70z (O_q70z n) (L_q70z n) (evDraw Tryz.prog 42 TT M_q70z (O_q70z n)) ⟨[], [], []⟩ [.cell 2 25] C_q70z x = q70z n x := by kernel_rfl
omit [UDef] [UTabs] in
theorem ok_q70z (n : Nat) : Contract Tryz.prog 33 F_q70z (q70z n) :=
  Contract.of_ev (c := C_q70z) (N := 42) Tryz.func33 (by kernel_rfl) (by kernel_rfl) (by kernel_rfl) (by kernel_rfl) (O_q70z_ok n) (evDraw_ok (O_q70z_ok n) (by kernel_rfl)) (.of (l := [(0, (lbody 1000 C_q70z 0)), (2, (lbody 1000 C_q70z 1))]) (by kernel_rfl) ⟨.head (loopL_sound (O_q70z_ok n) (evDraw_ok (O_q70z_ok n) (by kernel_rfl)) (.of (l := []) (by kernel_rfl) trivial) (s_q70z_s0 n)), ⟨.tail rfl (.head (loopL_sound (O_q70z_ok n) (evDraw_ok (O_q70z_ok n) (by kernel_rfl)) (.of (l := []) (by kernel_rfl) trivial) (s_q70z_s2 n))), trivial⟩⟩) (e_q70z n)

noncomputable def C_txn_Turn : Code := bodyOf Tryz.f4
noncomputable def M_txn_Turn : List (Nat × ArgM) := [(26, ⟨[], [], [], true⟩)]
instance : DfOk M_txn_Turn := .none rfl
noncomputable def O_txn_Turn {ρ : Type} (n : Nat) : Orc ρ := orcCons 26 F_q62z (q62z n) (orcCons 27 F_q13z (q13z n) (orcCons 30 F_q12z (q12z n) (orcCons 33 F_q70z (q70z n) (orcNil))))
omit [UDef] in
theorem O_txn_Turn_ok {ρ : Type} (n : Nat) : (O_txn_Turn n : Orc ρ).ok Tryz.prog := orcCons_ok (by kernel_rfl) (ok_q62z n) (orcCons_ok (by kernel_rfl) (ok_q13z n) (orcCons_ok (by kernel_rfl) (ok_q12z n) (orcCons_ok (by kernel_rfl) (ok_q70z n) (orcNil_ok))))
noncomputable def T_txn_Turn_s0 : Tm := ⟨[(2, .ptr 2 0), (3, .ptr 3 0), (4, .ptr 4 0)], [(33, .pair), (34, .i64)], [(2, .box [.d .graph]), (3, .box [.d .delta]), (4, .box [.d .graph])], []⟩
noncomputable def X_txn_Turn_s0 : Tm := ⟨[(2, .ptr 2 0), (3, .ptr 3 0), (4, .ptr 4 0)], [], [(2, .box [.d .graph]), (3, .box [.d .delta]), (4, .box [.d .graph])], []⟩
noncomputable def R_txn_Turn_s0 : Tm := ⟨[(4, .ptr 4 0)], [(5, .i64)], [(4, .box [.d .graph])], []⟩
noncomputable def L_txn_Turn_s0 {ρ : Type} (n : Nat) : LOrc ρ := lorcNil
omit [Tabs] [QuietD Tryz.prog] [UDef] [UTabs] in
theorem s_txn_Turn_s0 {ρ : Type} (n : Nat) (rec : T_txn_Turn_s0.den → Option ρ) kx kr s : dStep Tryz.prog 81 TT M_txn_Turn (O_txn_Turn n) (L_txn_Turn_s0 n) dorcNil 0 (lbody 1000 C_txn_Turn 0) T_txn_Turn_s0 X_txn_Turn_s0 R_txn_Turn_s0 ⟨[], [], []⟩ rec kx kr s = txn_Turn_s0 n rec kx kr s := by kernel_rfl
noncomputable def L_txn_Turn {ρ : Type} (n : Nat) : LOrc ρ := lorcCons 0 (loopL 81 0 n T_txn_Turn_s0 X_txn_Turn_s0 R_txn_Turn_s0 ⟨[], [], []⟩ (txn_Turn_s0 n)) (lorcNil)
omit [Tabs] [QuietD Tryz.prog] [UDef] [UTabs] in
theorem e_txn_Turn (n : Nat) (x) : evF Tryz.prog 81 TT M_txn_Turn F_txn_Turn (O_txn_Turn n) (L_txn_Turn n) dorcNil ⟨[], [], []⟩ [.cell 4 25, .tmp 5] C_txn_Turn x = txn_Turn n x := by kernel_rfl
omit [UDef] in
theorem ok_txn_Turn (n : Nat) : Contract Tryz.prog 4 F_txn_Turn (txn_Turn n) :=
  Contract.of_ev (c := C_txn_Turn) (N := 81) Tryz.func4 (by kernel_rfl) (by kernel_rfl) (by kernel_rfl) (by kernel_rfl) (O_txn_Turn_ok n) dorcNil_ok (.of (l := [(0, (lbody 1000 C_txn_Turn 0))]) (by kernel_rfl) ⟨.head (loopL_sound (O_txn_Turn_ok n) dorcNil_ok (.of (l := []) (by kernel_rfl) trivial) (s_txn_Turn_s0 n)), trivial⟩) (e_txn_Turn n)

noncomputable def F_q20z : FnT := ⟨1, ⟨[], [(0, .graph)], [], []⟩, [.v .i64], []⟩
noncomputable def F_q18z : FnT := ⟨1, ⟨[], [(0, (.lst .str))], [], []⟩, [.v .i64], []⟩
noncomputable def F_q41z : FnT := ⟨1, ⟨[], [(0, .str)], [], []⟩, [.v .bool], []⟩
noncomputable def C_q41z : Code := bodyOf Tryz.f36
noncomputable def M_q41z : List (Nat × ArgM) := [(65, ⟨[], [], [], true⟩)]
instance : DfOk M_q41z := .none rfl
noncomputable def O_q41z {ρ : Type} : Orc ρ := orcCons 65 F_trim (trimN) (orcNil)
omit [QuietD Tryz.prog] [UDef] [UTabs] in
theorem O_q41z_ok {ρ : Type} : (O_q41z : Orc ρ).ok Tryz.prog := orcCons_ok (by kernel_rfl) (trimN_ok) (orcNil_ok)
noncomputable def L_q41z {ρ : Type} : LOrc ρ := lorcNil
omit [Tabs] [QuietD Tryz.prog] [UDef] [UTabs] in
theorem e_q41z (x) : evF Tryz.prog 23 TT M_q41z F_q41z (O_q41z) (L_q41z) dorcNil ⟨[], [], []⟩ [.tmp 2] C_q41z x = q41z x := by kernel_rfl
omit [UDef] [UTabs] in
theorem ok_q41z : Contract Tryz.prog 36 F_q41z (q41z) :=
  Contract.of_ev (c := C_q41z) (N := 23) Tryz.func36 (by kernel_rfl) (by kernel_rfl) (by kernel_rfl) (by kernel_rfl) (O_q41z_ok) dorcNil_ok (.of (l := []) (by kernel_rfl) trivial) (e_q41z)

noncomputable def C_q18z : Code := bodyOf Tryz.f34
noncomputable def M_q18z : List (Nat × ArgM) := [(36, ⟨[], [], [], true⟩)]
instance : DfOk M_q18z := .none rfl
noncomputable def O_q18z {ρ : Type} (n : Nat) : Orc ρ := orcCons 36 F_q41z (q41z) (orcNil)
omit [UDef] [UTabs] in
theorem O_q18z_ok {ρ : Type} (n : Nat) : (O_q18z n : Orc ρ).ok Tryz.prog := orcCons_ok (by kernel_rfl) (ok_q41z) (orcNil_ok)
noncomputable def T_q18z_s0 : Tm := ⟨[], [(3, .str), (9, (.lst .str)), (10, .i64), (11, .i64)], [], []⟩
noncomputable def X_q18z_s0 : Tm := ⟨[], [], [], []⟩
noncomputable def R_q18z_s0 : Tm := ⟨[], [(2, .i64)], [], []⟩
noncomputable def L_q18z_s0 {ρ : Type} (n : Nat) : LOrc ρ := lorcNil
omit [Tabs] [QuietD Tryz.prog] [UDef] [UTabs] in
theorem s_q18z_s0 {ρ : Type} (n : Nat) (rec : T_q18z_s0.den → Option ρ) kx kr s : dStep Tryz.prog 25 TT M_q18z (O_q18z n) (L_q18z_s0 n) dorcNil 0 (lbody 1000 C_q18z 0) T_q18z_s0 X_q18z_s0 R_q18z_s0 ⟨[], [], []⟩ rec kx kr s = q18z_s0 n rec kx kr s := by kernel_rfl
noncomputable def L_q18z {ρ : Type} (n : Nat) : LOrc ρ := lorcCons 0 (loopL 25 0 n T_q18z_s0 X_q18z_s0 R_q18z_s0 ⟨[], [], []⟩ (q18z_s0 n)) (lorcNil)
omit [Tabs] [QuietD Tryz.prog] [UDef] [UTabs] in
theorem e_q18z (n : Nat) (x) : evF Tryz.prog 25 TT M_q18z F_q18z (O_q18z n) (L_q18z n) dorcNil ⟨[], [], []⟩ [.tmp 2] C_q18z x = q18z n x := by kernel_rfl
omit [UDef] [UTabs] in
theorem ok_q18z (n : Nat) : Contract Tryz.prog 34 F_q18z (q18z n) :=
  Contract.of_ev (c := C_q18z) (N := 25) Tryz.func34 (by kernel_rfl) (by kernel_rfl) (by kernel_rfl) (by kernel_rfl) (O_q18z_ok n) dorcNil_ok (.of (l := [(0, (lbody 1000 C_q18z 0))]) (by kernel_rfl) ⟨.head (loopL_sound (O_q18z_ok n) dorcNil_ok (.of (l := []) (by kernel_rfl) trivial) (s_q18z_s0 n)), trivial⟩) (e_q18z n)

noncomputable def F_q21z : FnT := ⟨1, ⟨[], [(0, (.lst .prp))], [], []⟩, [.v .i64], []⟩
noncomputable def F_q22z : FnT := ⟨2, ⟨[], [(0, .val), (1, .i64)], [], []⟩, [.v .i64], []⟩
noncomputable def C_q22z : Code := bodyOf Tryz.f64
noncomputable def M_q22z : List (Nat × ArgM) := [(64, ⟨[], [], [], true⟩), (105, ⟨[], [], [], true⟩)]
instance : DfOk M_q22z := .none rfl
noncomputable def O_q22z {ρ : Type} (self_q22z : Ev.Val × Int × Unit → Option (Int × Unit)) (n : Nat) : Orc ρ := orcCons 64 F_q22z (self_q22z) (orcCons 105 F_valid (validN) (orcNil))
omit [QuietD Tryz.prog] [UDef] in
theorem O_q22z_ok {ρ : Type} (self_q22z : Ev.Val × Int × Unit → Option (Int × Unit)) (h_q22z : Contract Tryz.prog 64 F_q22z self_q22z) (n : Nat) : (O_q22z self_q22z n : Orc ρ).ok Tryz.prog := orcCons_ok (by kernel_rfl) (h_q22z) (orcCons_ok (by kernel_rfl) (validN_ok) (orcNil_ok))
noncomputable def T_q22z_s1 : Tm := ⟨[], [(1, .i64), (5, .bool), (6, .bool), (34, (.lst .val)), (35, .i64), (36, .i64)], [], []⟩
noncomputable def X_q22z_s1 : Tm := ⟨[], [(5, .bool), (6, .bool)], [], []⟩
noncomputable def R_q22z_s1 : Tm := ⟨[], [(4, .i64)], [], []⟩
noncomputable def L_q22z_s1 {ρ : Type} (self_q22z : Ev.Val × Int × Unit → Option (Int × Unit)) (n : Nat) : LOrc ρ := lorcNil
omit [Tabs] [QuietD Tryz.prog] [UDef] [UTabs] in
theorem s_q22z_s1 {ρ : Type} (self_q22z : Ev.Val × Int × Unit → Option (Int × Unit)) (n : Nat) (rec : T_q22z_s1.den → Option ρ) kx kr s : dStep Tryz.prog 96 TT M_q22z (O_q22z self_q22z n) (L_q22z_s1 self_q22z n) (evDraw Tryz.prog 96 TT M_q22z (O_q22z self_q22z n)) 1 (lbody 1000 C_q22z 0) T_q22z_s1 X_q22z_s1 R_q22z_s1 ⟨[], [], []⟩ rec kx kr s = q22z_s1 self_q22z n rec kx kr s := by kernel_rfl
noncomputable def L_q22z {ρ : Type} (self_q22z : Ev.Val × Int × Unit → Option (Int × Unit)) (n : Nat) : LOrc ρ := lorcCons 1 (loopL 96 1 n T_q22z_s1 X_q22z_s1 R_q22z_s1 ⟨[], [], []⟩ (q22z_s1 self_q22z n)) (lorcNil)
omit [Tabs] [QuietD Tryz.prog] [UDef] [UTabs] in
theorem e_q22z (self_q22z : Ev.Val × Int × Unit → Option (Int × Unit)) (n : Nat) (x) : evF Tryz.prog 96 TT M_q22z F_q22z (O_q22z self_q22z n) (L_q22z self_q22z n) (evDraw Tryz.prog 96 TT M_q22z (O_q22z self_q22z n)) ⟨[], [], []⟩ [.tmp 4] C_q22z x = q22z_b self_q22z n x := by kernel_rfl
omit [UDef] in
theorem okb_q22z (self_q22z : Ev.Val × Int × Unit → Option (Int × Unit)) (h_q22z : Contract Tryz.prog 64 F_q22z self_q22z) (n : Nat) : Contract Tryz.prog 64 F_q22z (q22z_b self_q22z n) :=
  Contract.of_ev (c := C_q22z) (N := 96) Tryz.func64 (by kernel_rfl) (by kernel_rfl) (by kernel_rfl) (by kernel_rfl) (O_q22z_ok self_q22z h_q22z n) (evDraw_ok (O_q22z_ok self_q22z h_q22z n) (by kernel_rfl)) (.of (l := [(1, (lbody 1000 C_q22z 0))]) (by kernel_rfl) ⟨.head (loopL_sound (O_q22z_ok self_q22z h_q22z n) (evDraw_ok (O_q22z_ok self_q22z h_q22z n) (by kernel_rfl)) (.of (l := []) (by kernel_rfl) trivial) (s_q22z_s1 self_q22z n)), trivial⟩) (e_q22z self_q22z n)
omit [UDef] in
theorem ok_q22z : ∀ n, Contract Tryz.prog 64 F_q22z (q22z n)
  | 0 => fun _ _ h => by cases h
  | n + 1 => okb_q22z _ (ok_q22z n) n

noncomputable def C_q21z : Code := bodyOf Tryz.f35
noncomputable def M_q21z : List (Nat × ArgM) := [(36, ⟨[], [], [], true⟩), (64, ⟨[], [], [], true⟩)]
instance : DfOk M_q21z := .none rfl
noncomputable def O_q21z {ρ : Type} (n : Nat) : Orc ρ := orcCons 36 F_q41z (q41z) (orcCons 64 F_q22z (q22z n) (orcNil))
omit [UDef] in
theorem O_q21z_ok {ρ : Type} (n : Nat) : (O_q21z n : Orc ρ).ok Tryz.prog := orcCons_ok (by kernel_rfl) (ok_q41z) (orcCons_ok (by kernel_rfl) (ok_q22z n) (orcNil_ok))
noncomputable def T_q21z_s0 : Tm := ⟨[], [(3, .str), (10, (.lst .prp)), (11, .i64), (12, .i64)], [], []⟩
noncomputable def X_q21z_s0 : Tm := ⟨[], [], [], []⟩
noncomputable def R_q21z_s0 : Tm := ⟨[], [(2, .i64)], [], []⟩
noncomputable def L_q21z_s0 {ρ : Type} (n : Nat) : LOrc ρ := lorcNil
omit [Tabs] [QuietD Tryz.prog] [UDef] [UTabs] in
theorem s_q21z_s0 {ρ : Type} (n : Nat) (rec : T_q21z_s0.den → Option ρ) kx kr s : dStep Tryz.prog 41 TT M_q21z (O_q21z n) (L_q21z_s0 n) dorcNil 0 (lbody 1000 C_q21z 0) T_q21z_s0 X_q21z_s0 R_q21z_s0 ⟨[], [], []⟩ rec kx kr s = q21z_s0 n rec kx kr s := by kernel_rfl
noncomputable def L_q21z {ρ : Type} (n : Nat) : LOrc ρ := lorcCons 0 (loopL 41 0 n T_q21z_s0 X_q21z_s0 R_q21z_s0 ⟨[], [], []⟩ (q21z_s0 n)) (lorcNil)
omit [Tabs] [QuietD Tryz.prog] [UDef] [UTabs] in
theorem e_q21z (n : Nat) (x) : evF Tryz.prog 41 TT M_q21z F_q21z (O_q21z n) (L_q21z n) dorcNil ⟨[], [], []⟩ [.tmp 2] C_q21z x = q21z n x := by kernel_rfl
omit [UDef] in
theorem ok_q21z (n : Nat) : Contract Tryz.prog 35 F_q21z (q21z n) :=
  Contract.of_ev (c := C_q21z) (N := 41) Tryz.func35 (by kernel_rfl) (by kernel_rfl) (by kernel_rfl) (by kernel_rfl) (O_q21z_ok n) dorcNil_ok (.of (l := [(0, (lbody 1000 C_q21z 0))]) (by kernel_rfl) ⟨.head (loopL_sound (O_q21z_ok n) dorcNil_ok (.of (l := []) (by kernel_rfl) trivial) (s_q21z_s0 n)), trivial⟩) (e_q21z n)

noncomputable def F_q42z : FnT := ⟨2, ⟨[], [(0, .graph), (1, .i64)], [], []⟩, [.opt .node], []⟩
noncomputable def C_q42z : Code := bodyOf Tryz.f14
noncomputable def M_q42z : List (Nat × ArgM) := []
instance : DfOk M_q42z := .none rfl
noncomputable def O_q42z {ρ : Type} (n : Nat) : Orc ρ := orcNil
omit [QuietD Tryz.prog] [UDef] [UTabs] in
theorem O_q42z_ok {ρ : Type} (n : Nat) : (O_q42z n : Orc ρ).ok Tryz.prog := orcNil_ok
noncomputable def T_q42z_s0 : Tm := ⟨[(2, .ptr 2 0)], [(1, .i64), (8, .i64), (9, .i64)], [(2, .box [.d .graph])], []⟩
noncomputable def X_q42z_s0 : Tm := ⟨[], [], [], []⟩
noncomputable def R_q42z_s0 : Tm := ⟨[], [(4, (.ptr .node))], [], []⟩
noncomputable def L_q42z_s0 {ρ : Type} (n : Nat) : LOrc ρ := lorcNil
omit [Tabs] [QuietD Tryz.prog] [UDef] [UTabs] in
theorem s_q42z_s0 {ρ : Type} (n : Nat) (rec : T_q42z_s0.den → Option ρ) kx kr s : dStep Tryz.prog 25 TT M_q42z (O_q42z n) (L_q42z_s0 n) dorcNil 0 (lbody 1000 C_q42z 0) T_q42z_s0 X_q42z_s0 R_q42z_s0 ⟨[], [], []⟩ rec kx kr s = q42z_s0 n rec kx kr s := by kernel_rfl
noncomputable def L_q42z {ρ : Type} (n : Nat) : LOrc ρ := lorcCons 0 (loopL 25 0 n T_q42z_s0 X_q42z_s0 R_q42z_s0 ⟨[], [], []⟩ (q42z_s0 n)) (lorcNil)
omit [Tabs] [QuietD Tryz.prog] [UDef] [UTabs] in
theorem e_q42z (n : Nat) (x) : evF Tryz.prog 25 TT M_q42z F_q42z (O_q42z n) (L_q42z n) dorcNil ⟨[], [], []⟩ [.tmp 4] C_q42z x = q42z n x := by kernel_rfl
omit [UDef] [UTabs] in
theorem ok_q42z (n : Nat) : Contract Tryz.prog 14 F_q42z (q42z n) :=
  Contract.of_ev (c := C_q42z) (N := 25) Tryz.func14 (by kernel_rfl) (by kernel_rfl) (by kernel_rfl) (by kernel_rfl) (O_q42z_ok n) dorcNil_ok (.of (l := [(0, (lbody 1000 C_q42z 0))]) (by kernel_rfl) ⟨.head (loopL_sound (O_q42z_ok n) dorcNil_ok (.of (l := []) (by kernel_rfl) trivial) (s_q42z_s0 n)), trivial⟩) (e_q42z n)

noncomputable def C_q20z : Code := bodyOf Tryz.f5
noncomputable def M_q20z : List (Nat × ArgM) := [(34, ⟨[], [], [], true⟩), (35, ⟨[], [], [], true⟩), (36, ⟨[], [], [], true⟩)]
instance : DfOk M_q20z := .none rfl
noncomputable def O_q20z {ρ : Type} (n : Nat) : Orc ρ := orcCons 34 F_q18z (q18z n) (orcCons 35 F_q21z (q21z n) (orcCons 14 F_q42z (q42z n) (orcCons 36 F_q41z (q41z) (orcNil))))
omit [UDef] in
theorem O_q20z_ok {ρ : Type} (n : Nat) : (O_q20z n : Orc ρ).ok Tryz.prog := orcCons_ok (by kernel_rfl) (ok_q18z n) (orcCons_ok (by kernel_rfl) (ok_q21z n) (orcCons_ok (by kernel_rfl) (ok_q42z n) (orcCons_ok (by kernel_rfl) (ok_q41z) (orcNil_ok))))
noncomputable def T_q20z_s0 : Tm := ⟨[(1, .ptr 1 0)], [(3, .i64), (4, .i64), (23, (.lst .node)), (24, .i64), (25, .i64)], [(1, .box [.d .graph])], []⟩
noncomputable def X_q20z_s0 : Tm := ⟨[(1, .ptr 1 0)], [(3, .i64)], [(1, .box [.d .graph])], []⟩
noncomputable def R_q20z_s0 : Tm := ⟨[], [(2, .i64)], [], []⟩
noncomputable def L_q20z_s0 {ρ : Type} (n : Nat) : LOrc ρ := lorcNil
omit [Tabs] [QuietD Tryz.prog] [UDef] [UTabs] in
theorem s_q20z_s0 {ρ : Type} (n : Nat) (rec : T_q20z_s0.den → Option ρ) kx kr s : dStep Tryz.prog 108 TT M_q20z (O_q20z n) (L_q20z_s0 n) (evDraw Tryz.prog 108 TT M_q20z (O_q20z n)) 0 (lbody 1000 C_q20z 0) T_q20z_s0 X_q20z_s0 R_q20z_s0 ⟨[], [], []⟩ rec kx kr s = q20z_s0 n rec kx kr s := by kernel_rfl
noncomputable def T_q20z_s2 : Tm := ⟨[(1, .ptr 1 0)], [(3, .i64), (4, .i64), (51, (.lst .edg)), (52, .i64), (53, .i64)], [(1, .box [.d .graph])], []⟩
noncomputable def X_q20z_s2 : Tm := ⟨[(1, .ptr 1 0)], [(3, .i64)], [(1, .box [.d .graph])], []⟩
noncomputable def R_q20z_s2 : Tm := ⟨[], [(2, .i64)], [], []⟩
noncomputable def L_q20z_s2 {ρ : Type} (n : Nat) : LOrc ρ := lorcNil
omit [Tabs] [QuietD Tryz.prog] [UDef] [UTabs] in
theorem s_q20z_s2 {ρ : Type} (n : Nat) (rec : T_q20z_s2.den → Option ρ) kx kr s : dStep Tryz.prog 108 TT M_q20z (O_q20z n) (L_q20z_s2 n) (evDraw Tryz.prog 108 TT M_q20z (O_q20z n)) 2 (lbody 1000 C_q20z 1) T_q20z_s2 X_q20z_s2 R_q20z_s2 ⟨[], [], []⟩ rec kx kr s = q20z_s2 n rec kx kr s := by kernel_rfl
noncomputable def L_q20z {ρ : Type} (n : Nat) : LOrc ρ := lorcCons 0 (loopL 108 0 n T_q20z_s0 X_q20z_s0 R_q20z_s0 ⟨[], [], []⟩ (q20z_s0 n)) (lorcCons 2 (loopL 108 2 n T_q20z_s2 X_q20z_s2 R_q20z_s2 ⟨[], [], []⟩ (q20z_s2 n)) (lorcNil))
omit [Tabs] [QuietD Tryz.prog] [UDef] [UTabs] in
theorem e_q20z (n : Nat) (x) : evF Tryz.prog 108 TT M_q20z F_q20z (O_q20z n) (L_q20z n) (evDraw Tryz.prog 108 TT M_q20z (O_q20z n)) ⟨[], [], []⟩ [.tmp 2] C_q20z x = q20z n x := by kernel_rfl
omit [UDef] in
theorem ok_q20z (n : Nat) : Contract Tryz.prog 5 F_q20z (q20z n) :=
  Contract.of_ev (c := C_q20z) (N := 108) Tryz.func5 (by kernel_rfl) (by kernel_rfl) (by kernel_rfl) (by kernel_rfl) (O_q20z_ok n) (evDraw_ok (O_q20z_ok n) (by kernel_rfl)) (.of (l := [(0, (lbody 1000 C_q20z 0)), (2, (lbody 1000 C_q20z 1))]) (by kernel_rfl) ⟨.head (loopL_sound (O_q20z_ok n) (evDraw_ok (O_q20z_ok n) (by kernel_rfl)) (.of (l := []) (by kernel_rfl) trivial) (s_q20z_s0 n)), ⟨.tail rfl (.head (loopL_sound (O_q20z_ok n) (evDraw_ok (O_q20z_ok n) (by kernel_rfl)) (.of (l := []) (by kernel_rfl) trivial) (s_q20z_s2 n))), trivial⟩⟩) (e_q20z n)

noncomputable def F_q36z : FnT := ⟨0, ⟨[], [], [], []⟩, [.v .bool], []⟩
noncomputable def F_q43z : FnT := ⟨0, ⟨[], [], [], []⟩, [.v .graph], []⟩
noncomputable def F_q49z : FnT := ⟨1, ⟨[], [(0, .i64)], [], []⟩, [.v .val], []⟩
noncomputable def C_q49z : Code := bodyOf Tryz.f72
noncomputable def M_q49z : List (Nat × ArgM) := []
instance : DfOk M_q49z := .none rfl
noncomputable def O_q49z {ρ : Type} : Orc ρ := orcNil
omit [QuietD Tryz.prog] [UDef] [UTabs] in
theorem O_q49z_ok {ρ : Type} : (O_q49z : Orc ρ).ok Tryz.prog := orcNil_ok
noncomputable def L_q49z {ρ : Type} : LOrc ρ := lorcNil
omit [Tabs] [QuietD Tryz.prog] [UDef] [UTabs] in
theorem e_q49z (x) : evF Tryz.prog 5 TT M_q49z F_q49z (O_q49z) (L_q49z) dorcNil ⟨[], [], []⟩ [.cell 2 78] C_q49z x = q49z x := by kernel_rfl
omit [UDef] [UTabs] in
theorem ok_q49z : Contract Tryz.prog 72 F_q49z (q49z) :=
  Contract.of_ev (c := C_q49z) (N := 5) Tryz.func72 (by kernel_rfl) (by kernel_rfl) (by kernel_rfl) (by kernel_rfl) (O_q49z_ok) dorcNil_ok (.of (l := []) (by kernel_rfl) trivial) (e_q49z)

noncomputable def C_q43z : Code := bodyOf Tryz.f38
noncomputable def M_q43z : List (Nat × ArgM) := []
instance : DfOk M_q43z := .none rfl
noncomputable def O_q43z {ρ : Type} : Orc ρ := orcCons 72 F_q49z (q49z) (orcNil)
omit [UDef] [UTabs] in
theorem O_q43z_ok {ρ : Type} : (O_q43z : Orc ρ).ok Tryz.prog := orcCons_ok (by kernel_rfl) (ok_q49z) (orcNil_ok)
noncomputable def L_q43z {ρ : Type} : LOrc ρ := lorcNil
omit [Tabs] [QuietD Tryz.prog] [UDef] [UTabs] in
theorem e_q43z (x) : evF Tryz.prog 11 TT M_q43z F_q43z (O_q43z) (L_q43z) dorcNil ⟨[], [], []⟩ [.cell 0 25] C_q43z x = q43z x := by kernel_rfl
omit [UDef] [UTabs] in
theorem ok_q43z : Contract Tryz.prog 38 F_q43z (q43z) :=
  Contract.of_ev (c := C_q43z) (N := 11) Tryz.func38 (by kernel_rfl) (by kernel_rfl) (by kernel_rfl) (by kernel_rfl) (O_q43z_ok) dorcNil_ok (.of (l := []) (by kernel_rfl) trivial) (e_q43z)

noncomputable def F_txn_Apply : FnT := ⟨2, ⟨[], [(0, .graph), (1, (.lst .opn))], [], []⟩, [.v .graph, .v (.lst .i64), .v .i64, .v .i64], []⟩
noncomputable def F_q54z : FnT := ⟨1, ⟨[], [(0, .graph)], [], []⟩, [.mix [.ref (.own 300120), .ref (.own 300121), .d .i64]], [(300120, .arr 38 .node), (300121, .arr 41 .edg)]⟩
noncomputable def C_q54z : Code := bodyOf Tryz.f33
noncomputable def M_q54z : List (Nat × ArgM) := []
instance : DfOk M_q54z := .none rfl
noncomputable def O_q54z {ρ : Type} (n : Nat) : Orc ρ := orcCons 62 F_q53z (q53z n) (orcCons 63 F_q52z (q52z n) (orcNil))
omit [UDef] [UTabs] in
theorem O_q54z_ok {ρ : Type} (n : Nat) : (O_q54z n : Orc ρ).ok Tryz.prog := orcCons_ok (by kernel_rfl) (ok_q53z n) (orcCons_ok (by kernel_rfl) (ok_q52z n) (orcNil_ok))
noncomputable def T_q54z_s0 : Tm := ⟨[(1, .ptr 1 0), (2, .ptr 2 0), (3, .ptr 3 0)], [(12, (.lst .node)), (13, .i64), (14, .i64)], [(1, .box [.d .graph]), (2, .box [.d .graph]), (3, .box [.ref (.own 300120), .ref (.nils), .d .i64]), (300120, .arr 38 .node)], []⟩
noncomputable def X_q54z_s0 : Tm := ⟨[(1, .ptr 1 0), (2, .ptr 2 0), (3, .ptr 3 0)], [], [(1, .box [.d .graph]), (2, .box [.d .graph]), (3, .box [.ref (.own 300120), .ref (.nils), .d .i64]), (300120, .arr 38 .node)], []⟩
noncomputable def R_q54z_s0 : Tm := ⟨[], [], [], []⟩
noncomputable def L_q54z_s0 {ρ : Type} (n : Nat) : LOrc ρ := lorcNil
omit [Tabs] [QuietD Tryz.prog] [UDef] [UTabs] in
theorem s_q54z_s0 {ρ : Type} (n : Nat) (rec : T_q54z_s0.den → Option ρ) kx kr s : dStep Tryz.prog 42 TT M_q54z (O_q54z n) (L_q54z_s0 n) (evDraw Tryz.prog 42 TT M_q54z (O_q54z n)) 0 (lbody 1000 C_q54z 0) T_q54z_s0 X_q54z_s0 R_q54z_s0 ⟨[], [], [(3, 0, 300120, 38, 3)]⟩ rec kx kr s = q54z_s0 n rec kx kr s := by kernel_rfl
noncomputable def T_q54z_s2 : Tm := ⟨[(2, .ptr 2 0), (3, .ptr 3 0)], [(27, (.lst .edg)), (28, .i64), (29, .i64)], [(2, .box [.d .graph]), (3, .box [.ref (.own 300120), .ref (.own 300121), .d .i64]), (300120, .arr 38 .node), (300121, .arr 41 .edg)], []⟩
noncomputable def X_q54z_s2 : Tm := ⟨[(2, .ptr 2 0), (3, .ptr 3 0)], [], [(2, .box [.d .graph]), (3, .box [.ref (.own 300120), .ref (.own 300121), .d .i64]), (300120, .arr 38 .node), (300121, .arr 41 .edg)], []⟩
noncomputable def R_q54z_s2 : Tm := ⟨[], [], [], []⟩
noncomputable def L_q54z_s2 {ρ : Type} (n : Nat) : LOrc ρ := lorcNil
omit [Tabs] [QuietD Tryz.prog] [UDef] [UTabs] in
theorem s_q54z_s2 {ρ : Type} (n : Nat) (rec : T_q54z_s2.den → Option ρ) kx kr s : dStep Tryz.prog 42 TT M_q54z (O_q54z n) (L_q54z_s2 n) (evDraw Tryz.prog 42 TT M_q54z (O_q54z n)) 2 (lbody 1000 C_q54z 1) T_q54z_s2 X_q54z_s2 R_q54z_s2 ⟨[], [], [(3, 1, 300121, 41, 5)]⟩ rec kx kr s = q54z_s2 n rec kx kr s := by kernel_rfl
noncomputable def L_q54z {ρ : Type} (n : Nat) : LOrc ρ := lorcCons 0 (loopL 42 0 n T_q54z_s0 X_q54z_s0 R_q54z_s0 ⟨[], [], [(3, 0, 300120, 38, 3)]⟩ (q54z_s0 n)) (lorcCons 2 (loopL 42 2 n T_q54z_s2 X_q54z_s2 R_q54z_s2 ⟨[], [], [(3, 1, 300121, 41, 5)]⟩ (q54z_s2 n)) (lorcNil))
omit [Tabs] [QuietD Tryz.prog] [UDef] [UTabs] in
theorem e_q54z (n : Nat) (x) : evF Tryz.prog 42 TT M_q54z F_q54z (O_q54z n) (L_q54z n) (evDraw Tryz.prog 42 TT M_q54z (O_q54z n)) ⟨[], [], []⟩ [.cell 2 25] C_q54z x = q54z n x := by kernel_rfl
omit [UDef] [UTabs] in
theorem ok_q54z (n : Nat) : Contract Tryz.prog 33 F_q54z (q54z n) :=
  Contract.of_ev (c := C_q54z) (N := 42) Tryz.func33 (by kernel_rfl) (by kernel_rfl) (by kernel_rfl) (by kernel_rfl) (O_q54z_ok n) (evDraw_ok (O_q54z_ok n) (by kernel_rfl)) (.of (l := [(0, (lbody 1000 C_q54z 0)), (2, (lbody 1000 C_q54z 1))]) (by kernel_rfl) ⟨.head (loopL_sound (O_q54z_ok n) (evDraw_ok (O_q54z_ok n) (by kernel_rfl)) (.of (l := []) (by kernel_rfl) trivial) (s_q54z_s0 n)), ⟨.tail rfl (.head (loopL_sound (O_q54z_ok n) (evDraw_ok (O_q54z_ok n) (by kernel_rfl)) (.of (l := []) (by kernel_rfl) trivial) (s_q54z_s2 n))), trivial⟩⟩) (e_q54z n)

noncomputable def F_q64z : FnT := ⟨2, ⟨[(0, .ptr 1000000 0)], [(1, .opn)], [(1000000, .box [.ref (.own 1000001), .ref (.own 1000002), .d .i64, .ref (.own 1000003)]), (1000001, .arr 38 .node), (1000002, .arr 41 .edg), (1000003, .arr 3 .i64)], []⟩, [.v .i64], [(1000000, .box [.ref (.own 1000001), .ref (.own 1000002), .d .i64, .ref (.own 1000003)]), (1000001, .arr 38 .node), (1000002, .arr 41 .edg), (1000003, .arr 3 .i64)]⟩
noncomputable def F_q57z : FnT := ⟨2, ⟨[], [(1, .i64)], [], [(1000000, [.rp [.graph, (.lst .i64)]])]⟩, [.v .i64], []⟩
noncomputable def C_q57z : Code := bodyOf Tryz.f114
noncomputable def M_q57z : List (Nat × ArgM) := []
instance : DfOk M_q57z := .none rfl
noncomputable def O_q57z {ρ : Type} : Orc ρ := orcNil
omit [QuietD Tryz.prog] [UDef] [UTabs] in
theorem O_q57z_ok {ρ : Type} : (O_q57z : Orc ρ).ok Tryz.prog := orcNil_ok
noncomputable def L_q57z {ρ : Type} : LOrc ρ := lorcNil
omit [Tabs] [QuietD Tryz.prog] [UDef] [UTabs] in
theorem e_q57z (x) : evF Tryz.prog 27 TT M_q57z F_q57z (O_q57z) (L_q57z) dorcNil ⟨[], [], []⟩ [.tmp 4] C_q57z x = q57z x := by kernel_rfl
omit [UDef] [UTabs] in
theorem ok_q57z : Contract Tryz.prog 114 F_q57z (q57z) :=
  Contract.of_ev (c := C_q57z) (N := 27) Tryz.func114 (by kernel_rfl) (by kernel_rfl) (by kernel_rfl) (by kernel_rfl) (O_q57z_ok) dorcNil_ok (.of (l := []) (by kernel_rfl) trivial) (e_q57z)

noncomputable def F_q45z : FnT := ⟨1, ⟨[(0, .ptr 1000000 0)], [], [(1000000, .box [.ref (.own 1000001), .ref (.own 1000002), .d .i64, .ref (.own 1000003)]), (1000001, .arr 38 .node), (1000002, .arr 41 .edg), (1000003, .arr 3 .i64)], []⟩, [.v .i64, .v .i64], [(1000000, .box [.ref (.own 1000001), .ref (.own 1000002), .d .i64, .ref (.own 1000003)]), (1000001, .arr 38 .node), (1000002, .arr 41 .edg), (1000003, .arr 3 .i64)]⟩
noncomputable def C_q45z : Code := bodyOf Tryz.f113
noncomputable def M_q45z : List (Nat × ArgM) := []
instance : DfOk M_q45z := .none rfl
noncomputable def O_q45z {ρ : Type} : Orc ρ := orcNil
omit [QuietD Tryz.prog] [UDef] [UTabs] in
theorem O_q45z_ok {ρ : Type} : (O_q45z : Orc ρ).ok Tryz.prog := orcNil_ok
noncomputable def L_q45z {ρ : Type} : LOrc ρ := lorcNil
omit [Tabs] [QuietD Tryz.prog] [UDef] [UTabs] in
theorem e_q45z (x) : evF Tryz.prog 36 TT M_q45z F_q45z (O_q45z) (L_q45z) dorcNil ⟨[], [], []⟩ [.tmp 2, .tmp 3] C_q45z x = q45z x := by kernel_rfl
omit [UDef] [UTabs] in
theorem ok_q45z : Contract Tryz.prog 113 F_q45z (q45z) :=
  Contract.of_ev (c := C_q45z) (N := 36) Tryz.func113 (by kernel_rfl) (by kernel_rfl) (by kernel_rfl) (by kernel_rfl) (O_q45z_ok) dorcNil_ok (.of (l := []) (by kernel_rfl) trivial) (e_q45z)

noncomputable def C_q64z : Code := bodyOf Tryz.f67
noncomputable def M_q64z : List (Nat × ArgM) := [(999999999, ⟨[1], [], [], false⟩), (113, ⟨[0], [], [], false⟩), (114, ⟨[], [], [], true⟩), (50, ⟨[], [], [], true⟩), (51, ⟨[], [], [], true⟩), (49, ⟨[], [], [], true⟩)]
instance : DfOk M_q64z := .none rfl
noncomputable def O_q64z {ρ : Type} (n : Nat) : Orc ρ := orcCons 114 F_q57z (q57z) (orcCons 50 F_q71z (q71z n) (orcCons 51 F_q72z (q72z n) (orcCons 49 F_q63z (q63z n) (orcCons 113 F_q45z (q45z) (orcCons 63 F_q52z (q52z n) (orcNil))))))
omit [UDef] in
theorem O_q64z_ok {ρ : Type} (n : Nat) : (O_q64z n : Orc ρ).ok Tryz.prog := orcCons_ok (by kernel_rfl) (ok_q57z) (orcCons_ok (by kernel_rfl) (ok_q71z n) (orcCons_ok (by kernel_rfl) (ok_q72z n) (orcCons_ok (by kernel_rfl) (ok_q63z n) (orcCons_ok (by kernel_rfl) (ok_q45z) (orcCons_ok (by kernel_rfl) (ok_q52z n) (orcNil_ok))))))
noncomputable def L_q64z {ρ : Type} (n : Nat) : LOrc ρ := lorcNil
omit [Tabs] [QuietD Tryz.prog] [UDef] [UTabs] in
theorem e_q64z (n : Nat) (x) : evF Tryz.prog 77 TT M_q64z F_q64z (O_q64z n) (L_q64z n) (evDraw Tryz.prog 77 TT M_q64z (O_q64z n)) ⟨[], [], []⟩ [.tmp 4] C_q64z x = q64z n x := by kernel_rfl
omit [UDef] in
theorem ok_q64z (n : Nat) : Contract Tryz.prog 67 F_q64z (q64z n) :=
  Contract.of_ev (c := C_q64z) (N := 77) Tryz.func67 (by kernel_rfl) (by kernel_rfl) (by kernel_rfl) (by kernel_rfl) (O_q64z_ok n) (evDraw_ok (O_q64z_ok n) (by kernel_rfl)) (.of (l := []) (by kernel_rfl) trivial) (e_q64z n)

noncomputable def F_q65z : FnT := ⟨2, ⟨[(0, .ptr 1000000 0)], [(1, .opn)], [(1000000, .box [.ref (.own 1000001), .ref (.own 1000002), .d .i64, .ref (.own 1000003)]), (1000001, .arr 38 .node), (1000002, .arr 41 .edg), (1000003, .arr 3 .i64)], []⟩, [.v .i64], [(1000000, .box [.ref (.own 1000001), .ref (.own 1000002), .d .i64, .ref (.own 1000003)]), (1000001, .arr 38 .node), (1000002, .arr 41 .edg), (1000003, .arr 3 .i64)]⟩
noncomputable def C_q65z : Code := bodyOf Tryz.f66
noncomputable def M_q65z : List (Nat × ArgM) := [(999999999, ⟨[1], [], [], false⟩), (113, ⟨[0], [], [], false⟩), (48, ⟨[], [], [], true⟩), (49, ⟨[], [], [], true⟩)]
instance : DfOk M_q65z := .none rfl
noncomputable def O_q65z {ρ : Type} (n : Nat) : Orc ρ := orcCons 48 F_q61z (q61z n) (orcCons 49 F_q63z (q63z n) (orcCons 113 F_q45z (q45z) (orcCons 62 F_q53z (q53z n) (orcNil))))
omit [UDef] in
theorem O_q65z_ok {ρ : Type} (n : Nat) : (O_q65z n : Orc ρ).ok Tryz.prog := orcCons_ok (by kernel_rfl) (ok_q61z n) (orcCons_ok (by kernel_rfl) (ok_q63z n) (orcCons_ok (by kernel_rfl) (ok_q45z) (orcCons_ok (by kernel_rfl) (ok_q53z n) (orcNil_ok))))
noncomputable def L_q65z {ρ : Type} (n : Nat) : LOrc ρ := lorcNil
omit [Tabs] [QuietD Tryz.prog] [UDef] [UTabs] in
theorem e_q65z (n : Nat) (x) : evF Tryz.prog 52 TT M_q65z F_q65z (O_q65z n) (L_q65z n) (evDraw Tryz.prog 52 TT M_q65z (O_q65z n)) ⟨[], [], []⟩ [.tmp 4] C_q65z x = q65z n x := by kernel_rfl
omit [UDef] in
theorem ok_q65z (n : Nat) : Contract Tryz.prog 66 F_q65z (q65z n) :=
  Contract.of_ev (c := C_q65z) (N := 52) Tryz.func66 (by kernel_rfl) (by kernel_rfl) (by kernel_rfl) (by kernel_rfl) (O_q65z_ok n) (evDraw_ok (O_q65z_ok n) (by kernel_rfl)) (.of (l := []) (by kernel_rfl) trivial) (e_q65z n)

noncomputable def C_txn_Apply : Code := bodyOf Tryz.f37
noncomputable def M_txn_Apply : List (Nat × ArgM) := [(999999994, ⟨[50], [], [], false⟩), (1600000013, ⟨[12, 0, 1, 2], [], [], false⟩), (67, ⟨[0], [], [], false⟩), (66, ⟨[0], [], [], false⟩), (26, ⟨[], [], [], true⟩), (33, ⟨[], [], [300120, 300121], false⟩)]
instance : DfOk M_txn_Apply := .none rfl
noncomputable def O_txn_Apply {ρ : Type} (n : Nat) : Orc ρ := orcCons 26 F_q62z (q62z n) (orcCons 33 F_q54z (q54z n) (orcCons 67 F_q64z (q64z n) (orcCons 66 F_q65z (q65z n) (orcNil))))
omit [UDef] in
theorem O_txn_Apply_ok {ρ : Type} (n : Nat) : (O_txn_Apply n : Orc ρ).ok Tryz.prog := orcCons_ok (by kernel_rfl) (ok_q62z n) (orcCons_ok (by kernel_rfl) (ok_q54z n) (orcCons_ok (by kernel_rfl) (ok_q64z n) (orcCons_ok (by kernel_rfl) (ok_q65z n) (orcNil_ok))))
noncomputable def T_txn_Apply_s0 : Tm := ⟨[(4, .ptr 4 0), (9, .ptr 27 0), (10, .ptr 10 0)], [(29, (.lst .opn)), (30, .i64), (31, .i64)], [(4, .box [.d .graph]), (10, .box [.ref (.nilf), .ref (.fn 66), .ref (.fn 67), .ref (.fn 68), .ref (.fn 69), .ref (.fn 70), .ref (.fn 71), .ref (.fn 71)]), (25, .arr 38 .node), (27, .box [.ref (.own 25), .ref (.own 2025), .d .i64, .ref (.own 301083)]), (2025, .arr 41 .edg), (301083, .arr 3 .i64)], []⟩
noncomputable def X_txn_Apply_s0 : Tm := ⟨[(4, .ptr 4 0), (9, .ptr 27 0)], [], [(4, .box [.d .graph]), (25, .arr 38 .node), (27, .box [.ref (.own 25), .ref (.own 2025), .d .i64, .ref (.own 301083)]), (2025, .arr 41 .edg), (301083, .arr 3 .i64)], []⟩
noncomputable def R_txn_Apply_s0 : Tm := ⟨[(4, .ptr 4 0)], [(5, (.lst .i64)), (6, .i64), (7, .i64)], [(4, .box [.d .graph])], []⟩
noncomputable def L_txn_Apply_s0 {ρ : Type} (n : Nat) : LOrc ρ := lorcNil
omit [Tabs] [QuietD Tryz.prog] [UDef] [UTabs] in
theorem s_txn_Apply_s0 {ρ : Type} (n : Nat) (rec : T_txn_Apply_s0.den → Option ρ) kx kr s : dStep Tryz.prog 65 TT M_txn_Apply (O_txn_Apply n) (L_txn_Apply_s0 n) (evDraw Tryz.prog 65 TT M_txn_Apply (O_txn_Apply n)) 0 (lbody 1000 C_txn_Apply 0) T_txn_Apply_s0 X_txn_Apply_s0 R_txn_Apply_s0 ⟨[], [], [(27, 3, 301083, 3, 1)]⟩ rec kx kr s = txn_Apply_s0 n rec kx kr s := by kernel_rfl
noncomputable def L_txn_Apply {ρ : Type} (n : Nat) : LOrc ρ := lorcCons 0 (loopL 65 0 n T_txn_Apply_s0 X_txn_Apply_s0 R_txn_Apply_s0 ⟨[], [], [(27, 3, 301083, 3, 1)]⟩ (txn_Apply_s0 n)) (lorcNil)
omit [Tabs] [QuietD Tryz.prog] [UDef] [UTabs] in
theorem e_txn_Apply (n : Nat) (x) : evF Tryz.prog 65 TT M_txn_Apply F_txn_Apply (O_txn_Apply n) (L_txn_Apply n) (evDraw Tryz.prog 65 TT M_txn_Apply (O_txn_Apply n)) ⟨[], [], []⟩ [.cell 4 25, .tmp 5, .tmp 6, .tmp 7] C_txn_Apply x = txn_Apply n x := by kernel_rfl
omit [UDef] in
theorem ok_txn_Apply (n : Nat) : Contract Tryz.prog 37 F_txn_Apply (txn_Apply n) :=
  Contract.of_ev (c := C_txn_Apply) (N := 65) Tryz.func37 (by kernel_rfl) (by kernel_rfl) (by kernel_rfl) (by kernel_rfl) (O_txn_Apply_ok n) (evDraw_ok (O_txn_Apply_ok n) (by kernel_rfl)) (.of (l := [(0, (lbody 1000 C_txn_Apply 0))]) (by kernel_rfl) ⟨.head (loopL_sound (O_txn_Apply_ok n) (evDraw_ok (O_txn_Apply_ok n) (by kernel_rfl)) (.of (l := []) (by kernel_rfl) trivial) (s_txn_Apply_s0 n)), trivial⟩) (e_txn_Apply n)

noncomputable def F_q34z : FnT := ⟨2, ⟨[], [(0, (.lst .i64)), (1, (.lst .i64))], [], []⟩, [.v .bool], []⟩
noncomputable def C_q34z : Code := bodyOf Tryz.f39
noncomputable def M_q34z : List (Nat × ArgM) := []
instance : DfOk M_q34z := .none rfl
noncomputable def O_q34z {ρ : Type} (n : Nat) : Orc ρ := orcNil
omit [QuietD Tryz.prog] [UDef] [UTabs] in
theorem O_q34z_ok {ρ : Type} (n : Nat) : (O_q34z n : Orc ρ).ok Tryz.prog := orcNil_ok
noncomputable def T_q34z_s0 : Tm := ⟨[], [(0, (.lst .i64)), (1, (.lst .i64)), (12, .i64), (13, .i64)], [], []⟩
noncomputable def X_q34z_s0 : Tm := ⟨[], [], [], []⟩
noncomputable def R_q34z_s0 : Tm := ⟨[], [(4, .bool)], [], []⟩
noncomputable def L_q34z_s0 {ρ : Type} (n : Nat) : LOrc ρ := lorcNil
omit [Tabs] [QuietD Tryz.prog] [UDef] [UTabs] in
theorem s_q34z_s0 {ρ : Type} (n : Nat) (rec : T_q34z_s0.den → Option ρ) kx kr s : dStep Tryz.prog 26 TT M_q34z (O_q34z n) (L_q34z_s0 n) (evDraw Tryz.prog 26 TT M_q34z (O_q34z n)) 0 (lbody 1000 C_q34z 0) T_q34z_s0 X_q34z_s0 R_q34z_s0 ⟨[], [], []⟩ rec kx kr s = q34z_s0 n rec kx kr s := by kernel_rfl
noncomputable def L_q34z {ρ : Type} (n : Nat) : LOrc ρ := lorcCons 0 (loopL 26 0 n T_q34z_s0 X_q34z_s0 R_q34z_s0 ⟨[], [], []⟩ (q34z_s0 n)) (lorcNil)
omit [Tabs] [QuietD Tryz.prog] [UDef] [UTabs] in
theorem e_q34z (n : Nat) (x) : evF Tryz.prog 26 TT M_q34z F_q34z (O_q34z n) (L_q34z n) (evDraw Tryz.prog 26 TT M_q34z (O_q34z n)) ⟨[], [], []⟩ [.tmp 4] C_q34z x = q34z n x := by kernel_rfl
omit [UDef] [UTabs] in
theorem ok_q34z (n : Nat) : Contract Tryz.prog 39 F_q34z (q34z n) :=
  Contract.of_ev (c := C_q34z) (N := 26) Tryz.func39 (by kernel_rfl) (by kernel_rfl) (by kernel_rfl) (by kernel_rfl) (O_q34z_ok n) (evDraw_ok (O_q34z_ok n) (by kernel_rfl)) (.of (l := [(0, (lbody 1000 C_q34z 0))]) (by kernel_rfl) ⟨.head (loopL_sound (O_q34z_ok n) (evDraw_ok (O_q34z_ok n) (by kernel_rfl)) (.of (l := []) (by kernel_rfl) trivial) (s_q34z_s0 n)), trivial⟩) (e_q34z n)

noncomputable def C_q36z : Code := bodyOf Tryz.f6
noncomputable def M_q36z : List (Nat × ArgM) := [(39, ⟨[], [], [], true⟩)]
instance : DfOk M_q36z := .none rfl
noncomputable def O_q36z {ρ : Type} (n : Nat) : Orc ρ := orcCons 38 F_q43z (q43z) (orcCons 37 F_txn_Apply (txn_Apply n) (orcCons 39 F_q34z (q34z n) (orcNil)))
omit [UDef] in
theorem O_q36z_ok {ρ : Type} (n : Nat) : (O_q36z n : Orc ρ).ok Tryz.prog := orcCons_ok (by kernel_rfl) (ok_q43z) (orcCons_ok (by kernel_rfl) (ok_txn_Apply n) (orcCons_ok (by kernel_rfl) (ok_q34z n) (orcNil_ok)))
noncomputable def L_q36z {ρ : Type} (n : Nat) : LOrc ρ := lorcNil
omit [Tabs] [QuietD Tryz.prog] [UDef] [UTabs] in
theorem e_q36z (n : Nat) (x) : evF Tryz.prog 46 TT M_q36z F_q36z (O_q36z n) (L_q36z n) dorcNil ⟨[], [], []⟩ [.tmp 0] C_q36z x = q36z n x := by kernel_rfl
omit [UDef] in
theorem ok_q36z (n : Nat) : Contract Tryz.prog 6 F_q36z (q36z n) :=
  Contract.of_ev (c := C_q36z) (N := 46) Tryz.func6 (by kernel_rfl) (by kernel_rfl) (by kernel_rfl) (by kernel_rfl) (O_q36z_ok n) dorcNil_ok (.of (l := []) (by kernel_rfl) trivial) (e_q36z n)

noncomputable def F_q37z : FnT := ⟨1, ⟨[], [(0, .graph)], [], []⟩, [.v .bool], []⟩
noncomputable def F_q25z : FnT := ⟨2, ⟨[], [(0, .graph), (1, .graph)], [], []⟩, [.v .bool], []⟩
noncomputable def F_q2z : FnT := ⟨3, ⟨[(2, .fn 12)], [(0, (.lst .node)), (1, (.lst .node))], [], []⟩, [.v .bool], []⟩
noncomputable def F_q33z : FnT := ⟨2, ⟨[], [(0, .node), (1, .node)], [], []⟩, [.v .bool], []⟩
noncomputable def F_q26z : FnT := ⟨2, ⟨[], [(0, (.lst .prp)), (1, (.lst .prp))], [], []⟩, [.v .bool], []⟩
noncomputable def F_q0z : FnT := ⟨3, ⟨[(2, .fn 74)], [(0, (.lst .prp)), (1, (.lst .prp))], [], []⟩, [.v .bool], []⟩
noncomputable def F_q19z : FnT := ⟨2, ⟨[], [(0, .prp), (1, .prp)], [], []⟩, [.v .bool], []⟩
noncomputable def F_q27z : FnT := ⟨2, ⟨[], [(0, .val), (1, .val)], [], []⟩, [.v .bool], []⟩
noncomputable def F_q38z : FnT := ⟨2, ⟨[], [(0, .val), (1, .val)], [], []⟩, [.v .i64], []⟩
noncomputable def F_q58z : FnT := ⟨2, ⟨[], [(0, (.lst .u8)), (1, (.lst .u8))], [], []⟩, [.v .i64], []⟩
noncomputable def C_q58z : Code := bodyOf Tryz.f152
noncomputable def M_q58z : List (Nat × ArgM) := []
instance : DfOk M_q58z := .none rfl
noncomputable def O_q58z {ρ : Type} : Orc ρ := orcCons 164 T_cmpB (cmpN) (orcNil)
omit [QuietD Tryz.prog] [UDef] [UTabs] in
theorem O_q58z_ok {ρ : Type} : (O_q58z : Orc ρ).ok Tryz.prog := orcExt_ok (by kernel_rfl) (cmp_ok) (orcNil_ok)
noncomputable def L_q58z {ρ : Type} : LOrc ρ := lorcNil
omit [Tabs] [QuietD Tryz.prog] [UDef] [UTabs] in
theorem e_q58z (x) : evF Tryz.prog 8 TT M_q58z F_q58z (O_q58z) (L_q58z) dorcNil ⟨[], [], []⟩ [.tmp 4] C_q58z x = q58z x := by kernel_rfl
omit [UDef] [UTabs] in
theorem ok_q58z : Contract Tryz.prog 152 F_q58z (q58z) :=
  Contract.of_ev (c := C_q58z) (N := 8) Tryz.func152 (by kernel_rfl) (by kernel_rfl) (by kernel_rfl) (by kernel_rfl) (O_q58z_ok) dorcNil_ok (.of (l := []) (by kernel_rfl) trivial) (e_q58z)

noncomputable def C_q38z : Code := bodyOf Tryz.f122
noncomputable def M_q38z : List (Nat × ArgM) := [(152, ⟨[], [], [], true⟩), (122, ⟨[], [], [], true⟩)]
instance : DfOk M_q38z := .none rfl
noncomputable def O_q38z {ρ : Type} (self_q38z : Ev.Val × Ev.Val × Unit → Option (Int × Unit)) (n : Nat) : Orc ρ := orcCons 152 F_q58z (q58z) (orcCons 122 F_q38z (self_q38z) (orcNil))
omit [UDef] [UTabs] in
theorem O_q38z_ok {ρ : Type} (self_q38z : Ev.Val × Ev.Val × Unit → Option (Int × Unit)) (h_q38z : Contract Tryz.prog 122 F_q38z self_q38z) (n : Nat) : (O_q38z self_q38z n : Orc ρ).ok Tryz.prog := orcCons_ok (by kernel_rfl) (ok_q58z) (orcCons_ok (by kernel_rfl) (h_q38z) (orcNil_ok))
noncomputable def T_q38z_s1 : Tm := ⟨[(2, .ptr 2 0), (3, .ptr 3 0)], [(5, .i64)], [(2, .box [.d .val]), (3, .box [.d .val])], []⟩
noncomputable def X_q38z_s1 : Tm := ⟨[(2, .ptr 2 0), (3, .ptr 3 0)], [], [(2, .box [.d .val]), (3, .box [.d .val])], []⟩
noncomputable def R_q38z_s1 : Tm := ⟨[], [(4, .i64)], [], []⟩
noncomputable def L_q38z_s1 {ρ : Type} (self_q38z : Ev.Val × Ev.Val × Unit → Option (Int × Unit)) (n : Nat) : LOrc ρ := lorcNil
omit [Tabs] [QuietD Tryz.prog] [UDef] [UTabs] in
theorem s_q38z_s1 {ρ : Type} (self_q38z : Ev.Val × Ev.Val × Unit → Option (Int × Unit)) (n : Nat) (rec : T_q38z_s1.den → Option ρ) kx kr s : dStep Tryz.prog 88 TT M_q38z (O_q38z self_q38z n) (L_q38z_s1 self_q38z n) (evDraw Tryz.prog 88 TT M_q38z (O_q38z self_q38z n)) 1 (lbody 1000 C_q38z 0) T_q38z_s1 X_q38z_s1 R_q38z_s1 ⟨[], [], []⟩ rec kx kr s = q38z_s1 self_q38z n rec kx kr s := by kernel_rfl
noncomputable def L_q38z {ρ : Type} (self_q38z : Ev.Val × Ev.Val × Unit → Option (Int × Unit)) (n : Nat) : LOrc ρ := lorcCons 1 (loopL 88 1 n T_q38z_s1 X_q38z_s1 R_q38z_s1 ⟨[], [], []⟩ (q38z_s1 self_q38z n)) (lorcNil)
omit [Tabs] [QuietD Tryz.prog] [UDef] [UTabs] in
theorem e_q38z (self_q38z : Ev.Val × Ev.Val × Unit → Option (Int × Unit)) (n : Nat) (x) : evF Tryz.prog 88 TT M_q38z F_q38z (O_q38z self_q38z n) (L_q38z self_q38z n) (evDraw Tryz.prog 88 TT M_q38z (O_q38z self_q38z n)) ⟨[], [], []⟩ [.tmp 4] C_q38z x = q38z_b self_q38z n x := by kernel_rfl
omit [UDef] [UTabs] in
theorem okb_q38z (self_q38z : Ev.Val × Ev.Val × Unit → Option (Int × Unit)) (h_q38z : Contract Tryz.prog 122 F_q38z self_q38z) (n : Nat) : Contract Tryz.prog 122 F_q38z (q38z_b self_q38z n) :=
  Contract.of_ev (c := C_q38z) (N := 88) Tryz.func122 (by kernel_rfl) (by kernel_rfl) (by kernel_rfl) (by kernel_rfl) (O_q38z_ok self_q38z h_q38z n) (evDraw_ok (O_q38z_ok self_q38z h_q38z n) (by kernel_rfl)) (.of (l := [(1, (lbody 1000 C_q38z 0))]) (by kernel_rfl) ⟨.head (loopL_sound (O_q38z_ok self_q38z h_q38z n) (evDraw_ok (O_q38z_ok self_q38z h_q38z n) (by kernel_rfl)) (.of (l := []) (by kernel_rfl) trivial) (s_q38z_s1 self_q38z n)), trivial⟩) (e_q38z self_q38z n)
omit [UDef] [UTabs] in
theorem ok_q38z : ∀ n, Contract Tryz.prog 122 F_q38z (q38z n)
  | 0 => fun _ _ h => by cases h
  | n + 1 => okb_q38z _ (ok_q38z n) n

noncomputable def C_q27z : Code := bodyOf Tryz.f75
noncomputable def M_q27z : List (Nat × ArgM) := [(122, ⟨[], [], [], true⟩)]
instance : DfOk M_q27z := .none rfl
noncomputable def O_q27z {ρ : Type} (n : Nat) : Orc ρ := orcCons 122 F_q38z (q38z n) (orcNil)
omit [UDef] [UTabs] in
theorem O_q27z_ok {ρ : Type} (n : Nat) : (O_q27z n : Orc ρ).ok Tryz.prog := orcCons_ok (by kernel_rfl) (ok_q38z n) (orcNil_ok)
noncomputable def L_q27z {ρ : Type} (n : Nat) : LOrc ρ := lorcNil
omit [Tabs] [QuietD Tryz.prog] [UDef] [UTabs] in
theorem e_q27z (n : Nat) (x) : evF Tryz.prog 9 TT M_q27z F_q27z (O_q27z n) (L_q27z n) dorcNil ⟨[], [], []⟩ [.tmp 4] C_q27z x = q27z n x := by kernel_rfl
omit [UDef] [UTabs] in
theorem ok_q27z (n : Nat) : Contract Tryz.prog 75 F_q27z (q27z n) :=
  Contract.of_ev (c := C_q27z) (N := 9) Tryz.func75 (by kernel_rfl) (by kernel_rfl) (by kernel_rfl) (by kernel_rfl) (O_q27z_ok n) dorcNil_ok (.of (l := []) (by kernel_rfl) trivial) (e_q27z n)

noncomputable def C_q19z : Code := bodyOf Tryz.f74
noncomputable def M_q19z : List (Nat × ArgM) := [(75, ⟨[], [], [], true⟩)]
instance : DfOk M_q19z := .none rfl
noncomputable def O_q19z {ρ : Type} (n : Nat) : Orc ρ := orcCons 75 F_q27z (q27z n) (orcNil)
omit [UDef] [UTabs] in
theorem O_q19z_ok {ρ : Type} (n : Nat) : (O_q19z n : Orc ρ).ok Tryz.prog := orcCons_ok (by kernel_rfl) (ok_q27z n) (orcNil_ok)
noncomputable def L_q19z {ρ : Type} (n : Nat) : LOrc ρ := lorcNil
omit [Tabs] [QuietD Tryz.prog] [UDef] [UTabs] in
theorem e_q19z (n : Nat) (x) : evF Tryz.prog 17 TT M_q19z F_q19z (O_q19z n) (L_q19z n) dorcNil ⟨[], [], []⟩ [.tmp 4] C_q19z x = q19z n x := by kernel_rfl
omit [UDef] [UTabs] in
theorem ok_q19z (n : Nat) : Contract Tryz.prog 74 F_q19z (q19z n) :=
  Contract.of_ev (c := C_q19z) (N := 17) Tryz.func74 (by kernel_rfl) (by kernel_rfl) (by kernel_rfl) (by kernel_rfl) (O_q19z_ok n) dorcNil_ok (.of (l := []) (by kernel_rfl) trivial) (e_q19z n)

noncomputable def C_q0z : Code := bodyOf Tryz.f73
noncomputable def M_q0z : List (Nat × ArgM) := [(74, ⟨[], [], [], true⟩)]
instance : DfOk M_q0z := .none rfl
noncomputable def O_q0z {ρ : Type} (n : Nat) : Orc ρ := orcCons 74 F_q19z (q19z n) (orcNil)
omit [UDef] [UTabs] in
theorem O_q0z_ok {ρ : Type} (n : Nat) : (O_q0z n : Orc ρ).ok Tryz.prog := orcCons_ok (by kernel_rfl) (ok_q19z n) (orcNil_ok)
noncomputable def T_q0z_s0 : Tm := ⟨[(2, .fn 74)], [(1, (.lst .prp)), (15, (.lst .prp)), (16, .i64), (17, .i64)], [], []⟩
noncomputable def X_q0z_s0 : Tm := ⟨[], [], [], []⟩
noncomputable def R_q0z_s0 : Tm := ⟨[], [(6, .bool)], [], []⟩
noncomputable def L_q0z_s0 {ρ : Type} (n : Nat) : LOrc ρ := lorcNil
omit [Tabs] [QuietD Tryz.prog] [UDef] [UTabs] in
theorem s_q0z_s0 {ρ : Type} (n : Nat) (rec : T_q0z_s0.den → Option ρ) kx kr s : dStep Tryz.prog 32 TT M_q0z (O_q0z n) (L_q0z_s0 n) dorcNil 0 (lbody 1000 C_q0z 0) T_q0z_s0 X_q0z_s0 R_q0z_s0 ⟨[], [], []⟩ rec kx kr s = q0z_s0 n rec kx kr s := by kernel_rfl
noncomputable def L_q0z {ρ : Type} (n : Nat) : LOrc ρ := lorcCons 0 (loopL 32 0 n T_q0z_s0 X_q0z_s0 R_q0z_s0 ⟨[], [], []⟩ (q0z_s0 n)) (lorcNil)
omit [Tabs] [QuietD Tryz.prog] [UDef] [UTabs] in
theorem e_q0z (n : Nat) (x) : evF Tryz.prog 32 TT M_q0z F_q0z (O_q0z n) (L_q0z n) dorcNil ⟨[], [], []⟩ [.tmp 6] C_q0z x = q0z n x := by kernel_rfl
omit [UDef] [UTabs] in
theorem ok_q0z (n : Nat) : Contract Tryz.prog 73 F_q0z (q0z n) :=
  Contract.of_ev (c := C_q0z) (N := 32) Tryz.func73 (by kernel_rfl) (by kernel_rfl) (by kernel_rfl) (by kernel_rfl) (O_q0z_ok n) dorcNil_ok (.of (l := [(0, (lbody 1000 C_q0z 0))]) (by kernel_rfl) ⟨.head (loopL_sound (O_q0z_ok n) dorcNil_ok (.of (l := []) (by kernel_rfl) trivial) (s_q0z_s0 n)), trivial⟩) (e_q0z n)

noncomputable def C_q26z : Code := bodyOf Tryz.f41
noncomputable def M_q26z : List (Nat × ArgM) := [(73, ⟨[], [], [], true⟩)]
instance : DfOk M_q26z := .none rfl
noncomputable def O_q26z {ρ : Type} (n : Nat) : Orc ρ := orcCons 73 F_q0z (q0z n) (orcNil)
omit [UDef] [UTabs] in
theorem O_q26z_ok {ρ : Type} (n : Nat) : (O_q26z n : Orc ρ).ok Tryz.prog := orcCons_ok (by kernel_rfl) (ok_q0z n) (orcNil_ok)
noncomputable def L_q26z {ρ : Type} (n : Nat) : LOrc ρ := lorcNil
omit [Tabs] [QuietD Tryz.prog] [UDef] [UTabs] in
theorem e_q26z (n : Nat) (x) : evF Tryz.prog 8 TT M_q26z F_q26z (O_q26z n) (L_q26z n) dorcNil ⟨[], [], []⟩ [.tmp 4] C_q26z x = q26z n x := by kernel_rfl
omit [UDef] [UTabs] in
theorem ok_q26z (n : Nat) : Contract Tryz.prog 41 F_q26z (q26z n) :=
  Contract.of_ev (c := C_q26z) (N := 8) Tryz.func41 (by kernel_rfl) (by kernel_rfl) (by kernel_rfl) (by kernel_rfl) (O_q26z_ok n) dorcNil_ok (.of (l := []) (by kernel_rfl) trivial) (e_q26z n)

noncomputable def C_q33z : Code := bodyOf Tryz.f12
noncomputable def M_q33z : List (Nat × ArgM) := [(40, ⟨[], [], [], true⟩), (41, ⟨[], [], [], true⟩)]
instance : DfOk M_q33z := .none rfl
noncomputable def O_q33z {ρ : Type} (n : Nat) : Orc ρ := orcCons 40 F_q17z (q17z n) (orcCons 41 F_q26z (q26z n) (orcNil))
omit [UDef] [UTabs] in
theorem O_q33z_ok {ρ : Type} (n : Nat) : (O_q33z n : Orc ρ).ok Tryz.prog := orcCons_ok (by kernel_rfl) (ok_q17z n) (orcCons_ok (by kernel_rfl) (ok_q26z n) (orcNil_ok))
noncomputable def L_q33z {ρ : Type} (n : Nat) : LOrc ρ := lorcNil
omit [Tabs] [QuietD Tryz.prog] [UDef] [UTabs] in
theorem e_q33z (n : Nat) (x) : evF Tryz.prog 24 TT M_q33z F_q33z (O_q33z n) (L_q33z n) dorcNil ⟨[], [], []⟩ [.tmp 4] C_q33z x = q33z n x := by kernel_rfl
omit [UDef] [UTabs] in
theorem ok_q33z (n : Nat) : Contract Tryz.prog 12 F_q33z (q33z n) :=
  Contract.of_ev (c := C_q33z) (N := 24) Tryz.func12 (by kernel_rfl) (by kernel_rfl) (by kernel_rfl) (by kernel_rfl) (O_q33z_ok n) dorcNil_ok (.of (l := []) (by kernel_rfl) trivial) (e_q33z n)

noncomputable def C_q2z : Code := bodyOf Tryz.f45
noncomputable def M_q2z : List (Nat × ArgM) := [(12, ⟨[], [], [], true⟩)]
instance : DfOk M_q2z := .none rfl
noncomputable def O_q2z {ρ : Type} (n : Nat) : Orc ρ := orcCons 12 F_q33z (q33z n) (orcNil)
omit [UDef] [UTabs] in
theorem O_q2z_ok {ρ : Type} (n : Nat) : (O_q2z n : Orc ρ).ok Tryz.prog := orcCons_ok (by kernel_rfl) (ok_q33z n) (orcNil_ok)
noncomputable def T_q2z_s0 : Tm := ⟨[(2, .fn 12)], [(1, (.lst .node)), (15, (.lst .node)), (16, .i64), (17, .i64)], [], []⟩
noncomputable def X_q2z_s0 : Tm := ⟨[], [], [], []⟩
noncomputable def R_q2z_s0 : Tm := ⟨[], [(6, .bool)], [], []⟩
noncomputable def L_q2z_s0 {ρ : Type} (n : Nat) : LOrc ρ := lorcNil
omit [Tabs] [QuietD Tryz.prog] [UDef] [UTabs] in
theorem s_q2z_s0 {ρ : Type} (n : Nat) (rec : T_q2z_s0.den → Option ρ) kx kr s : dStep Tryz.prog 32 TT M_q2z (O_q2z n) (L_q2z_s0 n) dorcNil 0 (lbody 1000 C_q2z 0) T_q2z_s0 X_q2z_s0 R_q2z_s0 ⟨[], [], []⟩ rec kx kr s = q2z_s0 n rec kx kr s := by kernel_rfl
noncomputable def L_q2z {ρ : Type} (n : Nat) : LOrc ρ := lorcCons 0 (loopL 32 0 n T_q2z_s0 X_q2z_s0 R_q2z_s0 ⟨[], [], []⟩ (q2z_s0 n)) (lorcNil)
omit [Tabs] [QuietD Tryz.prog] [UDef] [UTabs] in
theorem e_q2z (n : Nat) (x) : evF Tryz.prog 32 TT M_q2z F_q2z (O_q2z n) (L_q2z n) dorcNil ⟨[], [], []⟩ [.tmp 6] C_q2z x = q2z n x := by kernel_rfl
omit [UDef] [UTabs] in
theorem ok_q2z (n : Nat) : Contract Tryz.prog 45 F_q2z (q2z n) :=
  Contract.of_ev (c := C_q2z) (N := 32) Tryz.func45 (by kernel_rfl) (by kernel_rfl) (by kernel_rfl) (by kernel_rfl) (O_q2z_ok n) dorcNil_ok (.of (l := [(0, (lbody 1000 C_q2z 0))]) (by kernel_rfl) ⟨.head (loopL_sound (O_q2z_ok n) dorcNil_ok (.of (l := []) (by kernel_rfl) trivial) (s_q2z_s0 n)), trivial⟩) (e_q2z n)

noncomputable def F_q1z : FnT := ⟨3, ⟨[(2, .fn 17)], [(0, (.lst .edg)), (1, (.lst .edg))], [], []⟩, [.v .bool], []⟩
noncomputable def F_q32z : FnT := ⟨2, ⟨[], [(0, .edg), (1, .edg)], [], []⟩, [.v .bool], []⟩
noncomputable def C_q32z : Code := bodyOf Tryz.f17
noncomputable def M_q32z : List (Nat × ArgM) := [(41, ⟨[], [], [], true⟩)]
instance : DfOk M_q32z := .none rfl
noncomputable def O_q32z {ρ : Type} (n : Nat) : Orc ρ := orcCons 41 F_q26z (q26z n) (orcNil)
omit [UDef] [UTabs] in
theorem O_q32z_ok {ρ : Type} (n : Nat) : (O_q32z n : Orc ρ).ok Tryz.prog := orcCons_ok (by kernel_rfl) (ok_q26z n) (orcNil_ok)
noncomputable def L_q32z {ρ : Type} (n : Nat) : LOrc ρ := lorcNil
omit [Tabs] [QuietD Tryz.prog] [UDef] [UTabs] in
theorem e_q32z (n : Nat) (x) : evF Tryz.prog 38 TT M_q32z F_q32z (O_q32z n) (L_q32z n) dorcNil ⟨[], [], []⟩ [.tmp 4] C_q32z x = q32z n x := by kernel_rfl
omit [UDef] [UTabs] in
theorem ok_q32z (n : Nat) : Contract Tryz.prog 17 F_q32z (q32z n) :=
  Contract.of_ev (c := C_q32z) (N := 38) Tryz.func17 (by kernel_rfl) (by kernel_rfl) (by kernel_rfl) (by kernel_rfl) (O_q32z_ok n) dorcNil_ok (.of (l := []) (by kernel_rfl) trivial) (e_q32z n)

noncomputable def C_q1z : Code := bodyOf Tryz.f46
noncomputable def M_q1z : List (Nat × ArgM) := [(17, ⟨[], [], [], true⟩)]
instance : DfOk M_q1z := .none rfl
noncomputable def O_q1z {ρ : Type} (n : Nat) : Orc ρ := orcCons 17 F_q32z (q32z n) (orcNil)
omit [UDef] [UTabs] in
theorem O_q1z_ok {ρ : Type} (n : Nat) : (O_q1z n : Orc ρ).ok Tryz.prog := orcCons_ok (by kernel_rfl) (ok_q32z n) (orcNil_ok)
noncomputable def T_q1z_s0 : Tm := ⟨[(2, .fn 17)], [(1, (.lst .edg)), (15, (.lst .edg)), (16, .i64), (17, .i64)], [], []⟩
noncomputable def X_q1z_s0 : Tm := ⟨[], [], [], []⟩
noncomputable def R_q1z_s0 : Tm := ⟨[], [(6, .bool)], [], []⟩
noncomputable def L_q1z_s0 {ρ : Type} (n : Nat) : LOrc ρ := lorcNil
omit [Tabs] [QuietD Tryz.prog] [UDef] [UTabs] in
theorem s_q1z_s0 {ρ : Type} (n : Nat) (rec : T_q1z_s0.den → Option ρ) kx kr s : dStep Tryz.prog 32 TT M_q1z (O_q1z n) (L_q1z_s0 n) dorcNil 0 (lbody 1000 C_q1z 0) T_q1z_s0 X_q1z_s0 R_q1z_s0 ⟨[], [], []⟩ rec kx kr s = q1z_s0 n rec kx kr s := by kernel_rfl
noncomputable def L_q1z {ρ : Type} (n : Nat) : LOrc ρ := lorcCons 0 (loopL 32 0 n T_q1z_s0 X_q1z_s0 R_q1z_s0 ⟨[], [], []⟩ (q1z_s0 n)) (lorcNil)
omit [Tabs] [QuietD Tryz.prog] [UDef] [UTabs] in
theorem e_q1z (n : Nat) (x) : evF Tryz.prog 32 TT M_q1z F_q1z (O_q1z n) (L_q1z n) dorcNil ⟨[], [], []⟩ [.tmp 6] C_q1z x = q1z n x := by kernel_rfl
omit [UDef] [UTabs] in
theorem ok_q1z (n : Nat) : Contract Tryz.prog 46 F_q1z (q1z n) :=
  Contract.of_ev (c := C_q1z) (N := 32) Tryz.func46 (by kernel_rfl) (by kernel_rfl) (by kernel_rfl) (by kernel_rfl) (O_q1z_ok n) dorcNil_ok (.of (l := [(0, (lbody 1000 C_q1z 0))]) (by kernel_rfl) ⟨.head (loopL_sound (O_q1z_ok n) dorcNil_ok (.of (l := []) (by kernel_rfl) trivial) (s_q1z_s0 n)), trivial⟩) (e_q1z n)

noncomputable def C_q25z : Code := bodyOf Tryz.f25
noncomputable def M_q25z : List (Nat × ArgM) := [(45, ⟨[], [], [], true⟩), (46, ⟨[], [], [], true⟩)]
instance : DfOk M_q25z := .none rfl
noncomputable def O_q25z {ρ : Type} (n : Nat) : Orc ρ := orcCons 45 F_q2z (q2z n) (orcCons 46 F_q1z (q1z n) (orcNil))
omit [UDef] [UTabs] in
theorem O_q25z_ok {ρ : Type} (n : Nat) : (O_q25z n : Orc ρ).ok Tryz.prog := orcCons_ok (by kernel_rfl) (ok_q2z n) (orcCons_ok (by kernel_rfl) (ok_q1z n) (orcNil_ok))
noncomputable def L_q25z {ρ : Type} (n : Nat) : LOrc ρ := lorcNil
omit [Tabs] [QuietD Tryz.prog] [UDef] [UTabs] in
theorem e_q25z (n : Nat) (x) : evF Tryz.prog 24 TT M_q25z F_q25z (O_q25z n) (L_q25z n) dorcNil ⟨[], [], []⟩ [.tmp 4] C_q25z x = q25z n x := by kernel_rfl
omit [UDef] [UTabs] in
theorem ok_q25z (n : Nat) : Contract Tryz.prog 25 F_q25z (q25z n) :=
  Contract.of_ev (c := C_q25z) (N := 24) Tryz.func25 (by kernel_rfl) (by kernel_rfl) (by kernel_rfl) (by kernel_rfl) (O_q25z_ok n) dorcNil_ok (.of (l := []) (by kernel_rfl) trivial) (e_q25z n)

noncomputable def C_q37z : Code := bodyOf Tryz.f7
noncomputable def M_q37z : List (Nat × ArgM) := [(25, ⟨[], [], [], true⟩)]
instance : DfOk M_q37z := .none rfl
noncomputable def O_q37z {ρ : Type} (n : Nat) : Orc ρ := orcCons 25 F_q25z (q25z n) (orcNil)
omit [UDef] [UTabs] in
theorem O_q37z_ok {ρ : Type} (n : Nat) : (O_q37z n : Orc ρ).ok Tryz.prog := orcCons_ok (by kernel_rfl) (ok_q25z n) (orcNil_ok)
noncomputable def L_q37z {ρ : Type} (n : Nat) : LOrc ρ := lorcNil
omit [Tabs] [QuietD Tryz.prog] [UDef] [UTabs] in
theorem e_q37z (n : Nat) (x) : evF Tryz.prog 6 TT M_q37z F_q37z (O_q37z n) (L_q37z n) dorcNil ⟨[], [], []⟩ [.tmp 2] C_q37z x = q37z n x := by kernel_rfl
omit [UDef] [UTabs] in
theorem ok_q37z (n : Nat) : Contract Tryz.prog 7 F_q37z (q37z n) :=
  Contract.of_ev (c := C_q37z) (N := 6) Tryz.func7 (by kernel_rfl) (by kernel_rfl) (by kernel_rfl) (by kernel_rfl) (O_q37z_ok n) dorcNil_ok (.of (l := []) (by kernel_rfl) trivial) (e_q37z n)

noncomputable def F_q9z : FnT := ⟨2, ⟨[(0, .own 2000000), (1, .clo 11 [1000016])], [], [(2000000, .arr 38 .node), (1000016, .box [.d .node])], []⟩, [.v .i64], [(2000000, .arr 38 .node), (1000016, .box [.d .node])]⟩
noncomputable def F_q23z : FnT := ⟨2, ⟨[(1, .ptr 1000000 0)], [(0, .node)], [(1000000, .box [.d .node])], []⟩, [.v .bool], [(1000000, .box [.d .node])]⟩
noncomputable def C_q23z : Code := bodyOf Tryz.f11
noncomputable def M_q23z : List (Nat × ArgM) := [(12, ⟨[], [], [], true⟩)]
instance : DfOk M_q23z := .none rfl
noncomputable def O_q23z {ρ : Type} (n : Nat) : Orc ρ := orcCons 12 F_q33z (q33z n) (orcNil)
omit [UDef] [UTabs] in
theorem O_q23z_ok {ρ : Type} (n : Nat) : (O_q23z n : Orc ρ).ok Tryz.prog := orcCons_ok (by kernel_rfl) (ok_q33z n) (orcNil_ok)
noncomputable def L_q23z {ρ : Type} (n : Nat) : LOrc ρ := lorcNil
omit [Tabs] [QuietD Tryz.prog] [UDef] [UTabs] in
theorem e_q23z (n : Nat) (x) : evF Tryz.prog 7 TT M_q23z F_q23z (O_q23z n) (L_q23z n) dorcNil ⟨[], [], []⟩ [.tmp 3] C_q23z x = q23z n x := by kernel_rfl
omit [UDef] [UTabs] in
theorem ok_q23z (n : Nat) : Contract Tryz.prog 11 F_q23z (q23z n) :=
  Contract.of_ev (c := C_q23z) (N := 7) Tryz.func11 (by kernel_rfl) (by kernel_rfl) (by kernel_rfl) (by kernel_rfl) (O_q23z_ok n) dorcNil_ok (.of (l := []) (by kernel_rfl) trivial) (e_q23z n)

noncomputable def C_q9z : Code := bodyOf Tryz.f10
noncomputable def M_q9z : List (Nat × ArgM) := [(999999999, ⟨[1], [], [], false⟩), (11, ⟨[1], [], [], false⟩)]
instance : DfOk M_q9z := .none rfl
noncomputable def O_q9z {ρ : Type} (n : Nat) : Orc ρ := orcCons 11 F_q23z (q23z n) (orcNil)
omit [UDef] [UTabs] in
theorem O_q9z_ok {ρ : Type} (n : Nat) : (O_q9z n : Orc ρ).ok Tryz.prog := orcCons_ok (by kernel_rfl) (ok_q23z n) (orcNil_ok)
noncomputable def T_q9z_s0 : Tm := ⟨[(0, .own 2000000), (1, .clo 11 [1000016])], [(7, .i64), (8, .i64)], [(1000016, .box [.d .node]), (2000000, .arr 38 .node)], []⟩
noncomputable def X_q9z_s0 : Tm := ⟨[], [], [(1000016, .box [.d .node]), (2000000, .arr 38 .node)], []⟩
noncomputable def R_q9z_s0 : Tm := ⟨[], [(4, .i64)], [(1000016, .box [.d .node]), (2000000, .arr 38 .node)], []⟩
noncomputable def L_q9z_s0 {ρ : Type} (n : Nat) : LOrc ρ := lorcNil
omit [Tabs] [QuietD Tryz.prog] [UDef] [UTabs] in
theorem s_q9z_s0 {ρ : Type} (n : Nat) (rec : T_q9z_s0.den → Option ρ) kx kr s : dStep Tryz.prog 19 TT M_q9z (O_q9z n) (L_q9z_s0 n) dorcNil 0 (lbody 1000 C_q9z 0) T_q9z_s0 X_q9z_s0 R_q9z_s0 ⟨[], [], []⟩ rec kx kr s = q9z_s0 n rec kx kr s := by kernel_rfl
noncomputable def L_q9z {ρ : Type} (n : Nat) : LOrc ρ := lorcCons 0 (loopL 19 0 n T_q9z_s0 X_q9z_s0 R_q9z_s0 ⟨[], [], []⟩ (q9z_s0 n)) (lorcNil)
omit [Tabs] [QuietD Tryz.prog] [UDef] [UTabs] in
theorem e_q9z (n : Nat) (x) : evF Tryz.prog 19 TT M_q9z F_q9z (O_q9z n) (L_q9z n) dorcNil ⟨[], [], []⟩ [.tmp 4] C_q9z x = q9z n x := by kernel_rfl
omit [UDef] [UTabs] in
theorem ok_q9z (n : Nat) : Contract Tryz.prog 10 F_q9z (q9z n) :=
  Contract.of_ev (c := C_q9z) (N := 19) Tryz.func10 (by kernel_rfl) (by kernel_rfl) (by kernel_rfl) (by kernel_rfl) (O_q9z_ok n) dorcNil_ok (.of (l := [(0, (lbody 1000 C_q9z 0))]) (by kernel_rfl) ⟨.head (loopL_sound (O_q9z_ok n) dorcNil_ok (.of (l := []) (by kernel_rfl) trivial) (s_q9z_s0 n)), trivial⟩) (e_q9z n)

noncomputable def F_q7z : FnT := ⟨2, ⟨[(0, .own 2000000), (1, .clo 16 [1000016])], [], [(2000000, .arr 41 .edg), (1000016, .box [.d .edg])], []⟩, [.v .i64], [(2000000, .arr 41 .edg), (1000016, .box [.d .edg])]⟩
noncomputable def F_q24z : FnT := ⟨2, ⟨[(1, .ptr 1000000 0)], [(0, .edg)], [(1000000, .box [.d .edg])], []⟩, [.v .bool], [(1000000, .box [.d .edg])]⟩
noncomputable def C_q24z : Code := bodyOf Tryz.f16
noncomputable def M_q24z : List (Nat × ArgM) := [(17, ⟨[], [], [], true⟩)]
instance : DfOk M_q24z := .none rfl
noncomputable def O_q24z {ρ : Type} (n : Nat) : Orc ρ := orcCons 17 F_q32z (q32z n) (orcNil)
omit [UDef] [UTabs] in
theorem O_q24z_ok {ρ : Type} (n : Nat) : (O_q24z n : Orc ρ).ok Tryz.prog := orcCons_ok (by kernel_rfl) (ok_q32z n) (orcNil_ok)
noncomputable def L_q24z {ρ : Type} (n : Nat) : LOrc ρ := lorcNil
omit [Tabs] [QuietD Tryz.prog] [UDef] [UTabs] in
theorem e_q24z (n : Nat) (x) : evF Tryz.prog 7 TT M_q24z F_q24z (O_q24z n) (L_q24z n) dorcNil ⟨[], [], []⟩ [.tmp 3] C_q24z x = q24z n x := by kernel_rfl
omit [UDef] [UTabs] in
theorem ok_q24z (n : Nat) : Contract Tryz.prog 16 F_q24z (q24z n) :=
  Contract.of_ev (c := C_q24z) (N := 7) Tryz.func16 (by kernel_rfl) (by kernel_rfl) (by kernel_rfl) (by kernel_rfl) (O_q24z_ok n) dorcNil_ok (.of (l := []) (by kernel_rfl) trivial) (e_q24z n)

noncomputable def C_q7z : Code := bodyOf Tryz.f15
noncomputable def M_q7z : List (Nat × ArgM) := [(999999999, ⟨[1], [], [], false⟩), (16, ⟨[1], [], [], false⟩)]
instance : DfOk M_q7z := .none rfl
noncomputable def O_q7z {ρ : Type} (n : Nat) : Orc ρ := orcCons 16 F_q24z (q24z n) (orcNil)
omit [UDef] [UTabs] in
theorem O_q7z_ok {ρ : Type} (n : Nat) : (O_q7z n : Orc ρ).ok Tryz.prog := orcCons_ok (by kernel_rfl) (ok_q24z n) (orcNil_ok)
noncomputable def T_q7z_s0 : Tm := ⟨[(0, .own 2000000), (1, .clo 16 [1000016])], [(7, .i64), (8, .i64)], [(1000016, .box [.d .edg]), (2000000, .arr 41 .edg)], []⟩
noncomputable def X_q7z_s0 : Tm := ⟨[], [], [(1000016, .box [.d .edg]), (2000000, .arr 41 .edg)], []⟩
noncomputable def R_q7z_s0 : Tm := ⟨[], [(4, .i64)], [(1000016, .box [.d .edg]), (2000000, .arr 41 .edg)], []⟩
noncomputable def L_q7z_s0 {ρ : Type} (n : Nat) : LOrc ρ := lorcNil
omit [Tabs] [QuietD Tryz.prog] [UDef] [UTabs] in
theorem s_q7z_s0 {ρ : Type} (n : Nat) (rec : T_q7z_s0.den → Option ρ) kx kr s : dStep Tryz.prog 19 TT M_q7z (O_q7z n) (L_q7z_s0 n) dorcNil 0 (lbody 1000 C_q7z 0) T_q7z_s0 X_q7z_s0 R_q7z_s0 ⟨[], [], []⟩ rec kx kr s = q7z_s0 n rec kx kr s := by kernel_rfl
noncomputable def L_q7z {ρ : Type} (n : Nat) : LOrc ρ := lorcCons 0 (loopL 19 0 n T_q7z_s0 X_q7z_s0 R_q7z_s0 ⟨[], [], []⟩ (q7z_s0 n)) (lorcNil)
omit [Tabs] [QuietD Tryz.prog] [UDef] [UTabs] in
theorem e_q7z (n : Nat) (x) : evF Tryz.prog 19 TT M_q7z F_q7z (O_q7z n) (L_q7z n) dorcNil ⟨[], [], []⟩ [.tmp 4] C_q7z x = q7z n x := by kernel_rfl
omit [UDef] [UTabs] in
theorem ok_q7z (n : Nat) : Contract Tryz.prog 15 F_q7z (q7z n) :=
  Contract.of_ev (c := C_q7z) (N := 19) Tryz.func15 (by kernel_rfl) (by kernel_rfl) (by kernel_rfl) (by kernel_rfl) (O_q7z_ok n) dorcNil_ok (.of (l := [(0, (lbody 1000 C_q7z 0))]) (by kernel_rfl) ⟨.head (loopL_sound (O_q7z_ok n) dorcNil_ok (.of (l := []) (by kernel_rfl) trivial) (s_q7z_s0 n)), trivial⟩) (e_q7z n)

noncomputable def F_q40z : FnT := ⟨2, ⟨[], [(0, .graph), (1, .i64)], [], []⟩, [.opt .edg], []⟩
noncomputable def C_q40z : Code := bodyOf Tryz.f19
noncomputable def M_q40z : List (Nat × ArgM) := []
instance : DfOk M_q40z := .none rfl
noncomputable def O_q40z {ρ : Type} (n : Nat) : Orc ρ := orcNil
omit [QuietD Tryz.prog] [UDef] [UTabs] in
theorem O_q40z_ok {ρ : Type} (n : Nat) : (O_q40z n : Orc ρ).ok Tryz.prog := orcNil_ok
noncomputable def T_q40z_s0 : Tm := ⟨[(2, .ptr 2 0)], [(1, .i64), (8, .i64), (9, .i64)], [(2, .box [.d .graph])], []⟩
noncomputable def X_q40z_s0 : Tm := ⟨[], [], [], []⟩
noncomputable def R_q40z_s0 : Tm := ⟨[], [(4, (.ptr .edg))], [], []⟩
noncomputable def L_q40z_s0 {ρ : Type} (n : Nat) : LOrc ρ := lorcNil
omit [Tabs] [QuietD Tryz.prog] [UDef] [UTabs] in
theorem s_q40z_s0 {ρ : Type} (n : Nat) (rec : T_q40z_s0.den → Option ρ) kx kr s : dStep Tryz.prog 25 TT M_q40z (O_q40z n) (L_q40z_s0 n) dorcNil 0 (lbody 1000 C_q40z 0) T_q40z_s0 X_q40z_s0 R_q40z_s0 ⟨[], [], []⟩ rec kx kr s = q40z_s0 n rec kx kr s := by kernel_rfl
noncomputable def L_q40z {ρ : Type} (n : Nat) : LOrc ρ := lorcCons 0 (loopL 25 0 n T_q40z_s0 X_q40z_s0 R_q40z_s0 ⟨[], [], []⟩ (q40z_s0 n)) (lorcNil)
omit [Tabs] [QuietD Tryz.prog] [UDef] [UTabs] in
theorem e_q40z (n : Nat) (x) : evF Tryz.prog 25 TT M_q40z F_q40z (O_q40z n) (L_q40z n) dorcNil ⟨[], [], []⟩ [.tmp 4] C_q40z x = q40z n x := by kernel_rfl
omit [UDef] [UTabs] in
theorem ok_q40z (n : Nat) : Contract Tryz.prog 19 F_q40z (q40z n) :=
  Contract.of_ev (c := C_q40z) (N := 25) Tryz.func19 (by kernel_rfl) (by kernel_rfl) (by kernel_rfl) (by kernel_rfl) (O_q40z_ok n) dorcNil_ok (.of (l := [(0, (lbody 1000 C_q40z 0))]) (by kernel_rfl) ⟨.head (loopL_sound (O_q40z_ok n) dorcNil_ok (.of (l := []) (by kernel_rfl) trivial) (s_q40z_s0 n)), trivial⟩) (e_q40z n)

noncomputable def C_q35z : Code := bodyOf Tryz.f3
noncomputable def M_q35z : List (Nat × ArgM) := [(999999999, ⟨[1], [], [], false⟩), (10, ⟨[1000, 1], [], [], false⟩), (15, ⟨[1000, 1], [], [], false⟩), (13, ⟨[0], [⟨0, 1000000, 38, 3⟩], [], false⟩), (18, ⟨[0], [⟨0, 1000000, 41, 5⟩], [], false⟩), (20, ⟨[1000], [], [], false⟩), (23, ⟨[1000], [], [], false⟩), (5, ⟨[], [], [], true⟩), (6, ⟨[], [], [], true⟩), (7, ⟨[], [], [], true⟩), (8, ⟨[], [], [5], false⟩), (9, ⟨[], [], [5], false⟩), (14, ⟨[], [], [], true⟩), (19, ⟨[], [], [], true⟩), (25, ⟨[], [], [], true⟩)]
instance : DfOk M_q35z := .none rfl
noncomputable def O_q35z {ρ : Type} (n : Nat) : Orc ρ := orcCons 4 F_txn_Turn (txn_Turn n) (orcCons 5 F_q20z (q20z n) (orcCons 6 F_q36z (q36z n) (orcCons 7 F_q37z (q37z n) (orcCons 8 F_q15z (q15z) (orcCons 9 F_q14z (q14z) (orcCons 10 F_q9z (q9z n) (orcCons 13 (F_del 38 .node) (delN) (orcCons 14 F_q42z (q42z n) (orcCons 15 F_q7z (q7z n) (orcCons 18 (F_del 41 .edg) (delN) (orcCons 19 F_q40z (q40z n) (orcCons 20 F_sfNode (sfNode) (orcCons 23 F_sfEdge (sfEdge) (orcCons 25 F_q25z (q25z n) (orcNil)))))))))))))))
omit [UDef] in
theorem O_q35z_ok {ρ : Type} (n : Nat) : (O_q35z n : Orc ρ).ok Tryz.prog := orcCons_ok (by kernel_rfl) (ok_txn_Turn n) (orcCons_ok (by kernel_rfl) (ok_q20z n) (orcCons_ok (by kernel_rfl) (ok_q36z n) (orcCons_ok (by kernel_rfl) (ok_q37z n) (orcCons_ok (by kernel_rfl) (ok_q15z) (orcCons_ok (by kernel_rfl) (ok_q14z) (orcCons_ok (by kernel_rfl) (ok_q9z n) (orcCons_ok (by kernel_rfl) (delN13_ok) (orcCons_ok (by kernel_rfl) (ok_q42z n) (orcCons_ok (by kernel_rfl) (ok_q7z n) (orcCons_ok (by kernel_rfl) (delN18_ok) (orcCons_ok (by kernel_rfl) (ok_q40z n) (orcCons_ok (by kernel_rfl) (sfNode_ok) (orcCons_ok (by kernel_rfl) (sfEdge_ok) (orcCons_ok (by kernel_rfl) (ok_q25z n) (orcNil_ok)))))))))))))))
noncomputable def T_q35z_s1 : Tm := ⟨[(3, .ptr 3 0), (5, .ptr 5 0), (8, .ptr 8 0)], [(6, .i64), (74, (.lst .node)), (75, .i64), (76, .i64)], [(3, .box [.d .delta]), (5, .box [.d .graph]), (8, .box [.ref (.own 68), .ref (.own 71), .d .i64]), (68, .arr 38 .node), (71, .arr 41 .edg)], []⟩
noncomputable def X_q35z_s1 : Tm := ⟨[(3, .ptr 3 0), (5, .ptr 5 0), (8, .ptr 8 0)], [(6, .i64)], [(3, .box [.d .delta]), (5, .box [.d .graph]), (8, .box [.ref (.own 68), .ref (.own 71), .d .i64]), (68, .arr 38 .node), (71, .arr 41 .edg)], []⟩
noncomputable def R_q35z_s1 : Tm := ⟨[], [(4, .bool)], [], []⟩
noncomputable def L_q35z_s1 {ρ : Type} (n : Nat) : LOrc ρ := lorcNil
omit [Tabs] [QuietD Tryz.prog] [UDef] [UTabs] in
theorem s_q35z_s1 {ρ : Type} (n : Nat) (rec : T_q35z_s1.den → Option ρ) kx kr s : dStep Tryz.prog 201 TT M_q35z (O_q35z n) (L_q35z_s1 n) (evDraw Tryz.prog 201 TT M_q35z (O_q35z n)) 1 (lbody 1000 C_q35z 0) T_q35z_s1 X_q35z_s1 R_q35z_s1 ⟨[], [], []⟩ rec kx kr s = q35z_s1 n rec kx kr s := by kernel_rfl
noncomputable def T_q35z_s3 : Tm := ⟨[(3, .ptr 3 0), (5, .ptr 5 0), (8, .ptr 8 0)], [(6, .i64), (101, (.lst .node)), (102, .i64), (103, .i64)], [(3, .box [.d .delta]), (5, .box [.d .graph]), (8, .box [.ref (.own 68), .ref (.own 71), .d .i64]), (68, .arr 38 .node), (71, .arr 41 .edg)], []⟩
noncomputable def X_q35z_s3 : Tm := ⟨[(3, .ptr 3 0), (5, .ptr 5 0), (8, .ptr 8 0)], [(6, .i64)], [(3, .box [.d .delta]), (5, .box [.d .graph]), (8, .box [.ref (.own 68), .ref (.own 71), .d .i64]), (68, .arr 38 .node), (71, .arr 41 .edg)], []⟩
noncomputable def R_q35z_s3 : Tm := ⟨[], [(4, .bool)], [], []⟩
noncomputable def L_q35z_s3 {ρ : Type} (n : Nat) : LOrc ρ := lorcNil
omit [Tabs] [QuietD Tryz.prog] [UDef] [UTabs] in
theorem s_q35z_s3 {ρ : Type} (n : Nat) (rec : T_q35z_s3.den → Option ρ) kx kr s : dStep Tryz.prog 201 TT M_q35z (O_q35z n) (L_q35z_s3 n) (evDraw Tryz.prog 201 TT M_q35z (O_q35z n)) 3 (lbody 1000 C_q35z 1) T_q35z_s3 X_q35z_s3 R_q35z_s3 ⟨[], [], [(8, 0, 300320, 38, 3)]⟩ rec kx kr s = q35z_s3 n rec kx kr s := by kernel_rfl
noncomputable def T_q35z_s5 : Tm := ⟨[(3, .ptr 3 0), (5, .ptr 5 0), (8, .ptr 8 0)], [(6, .i64), (126, (.lst .edg)), (127, .i64), (128, .i64)], [(3, .box [.d .delta]), (5, .box [.d .graph]), (8, .box [.ref (.own 68), .ref (.own 71), .d .i64]), (68, .arr 38 .node), (71, .arr 41 .edg)], []⟩
noncomputable def X_q35z_s5 : Tm := ⟨[(3, .ptr 3 0), (5, .ptr 5 0), (8, .ptr 8 0)], [(6, .i64)], [(3, .box [.d .delta]), (5, .box [.d .graph]), (8, .box [.ref (.own 68), .ref (.own 71), .d .i64]), (68, .arr 38 .node), (71, .arr 41 .edg)], []⟩
noncomputable def R_q35z_s5 : Tm := ⟨[], [(4, .bool)], [], []⟩
noncomputable def L_q35z_s5 {ρ : Type} (n : Nat) : LOrc ρ := lorcNil
omit [Tabs] [QuietD Tryz.prog] [UDef] [UTabs] in
theorem s_q35z_s5 {ρ : Type} (n : Nat) (rec : T_q35z_s5.den → Option ρ) kx kr s : dStep Tryz.prog 201 TT M_q35z (O_q35z n) (L_q35z_s5 n) (evDraw Tryz.prog 201 TT M_q35z (O_q35z n)) 5 (lbody 1000 C_q35z 2) T_q35z_s5 X_q35z_s5 R_q35z_s5 ⟨[], [], []⟩ rec kx kr s = q35z_s5 n rec kx kr s := by kernel_rfl
noncomputable def T_q35z_s7 : Tm := ⟨[(5, .ptr 5 0), (8, .ptr 8 0)], [(6, .i64), (153, (.lst .edg)), (154, .i64), (155, .i64)], [(5, .box [.d .graph]), (8, .box [.ref (.own 68), .ref (.own 71), .d .i64]), (68, .arr 38 .node), (71, .arr 41 .edg)], []⟩
noncomputable def X_q35z_s7 : Tm := ⟨[(5, .ptr 5 0), (8, .ptr 8 0)], [(6, .i64)], [(5, .box [.d .graph]), (8, .box [.ref (.own 68), .ref (.own 71), .d .i64]), (68, .arr 38 .node), (71, .arr 41 .edg)], []⟩
noncomputable def R_q35z_s7 : Tm := ⟨[], [(4, .bool)], [], []⟩
noncomputable def L_q35z_s7 {ρ : Type} (n : Nat) : LOrc ρ := lorcNil
omit [Tabs] [QuietD Tryz.prog] [UDef] [UTabs] in
theorem s_q35z_s7 {ρ : Type} (n : Nat) (rec : T_q35z_s7.den → Option ρ) kx kr s : dStep Tryz.prog 201 TT M_q35z (O_q35z n) (L_q35z_s7 n) (evDraw Tryz.prog 201 TT M_q35z (O_q35z n)) 7 (lbody 1000 C_q35z 3) T_q35z_s7 X_q35z_s7 R_q35z_s7 ⟨[], [], [(8, 1, 300321, 41, 5)]⟩ rec kx kr s = q35z_s7 n rec kx kr s := by kernel_rfl
noncomputable def L_q35z {ρ : Type} (n : Nat) : LOrc ρ := lorcCons 1 (loopL 201 1 n T_q35z_s1 X_q35z_s1 R_q35z_s1 ⟨[], [], []⟩ (q35z_s1 n)) (lorcCons 3 (loopL 201 3 n T_q35z_s3 X_q35z_s3 R_q35z_s3 ⟨[], [], [(8, 0, 300320, 38, 3)]⟩ (q35z_s3 n)) (lorcCons 5 (loopL 201 5 n T_q35z_s5 X_q35z_s5 R_q35z_s5 ⟨[], [], []⟩ (q35z_s5 n)) (lorcCons 7 (loopL 201 7 n T_q35z_s7 X_q35z_s7 R_q35z_s7 ⟨[], [], [(8, 1, 300321, 41, 5)]⟩ (q35z_s7 n)) (lorcNil))))
omit [Tabs] [QuietD Tryz.prog] [UDef] [UTabs] in
theorem e_q35z (n : Nat) (x) : evF Tryz.prog 201 TT M_q35z F_q35z (O_q35z n) (L_q35z n) (evDraw Tryz.prog 201 TT M_q35z (O_q35z n)) ⟨[], [], []⟩ [.tmp 4] C_q35z x = q35z n x := by kernel_rfl
omit [UDef] in
theorem ok_q35z (n : Nat) : Contract Tryz.prog 3 F_q35z (q35z n) :=
  Contract.of_ev (c := C_q35z) (N := 201) Tryz.func3 (by kernel_rfl) (by kernel_rfl) (by kernel_rfl) (by kernel_rfl) (O_q35z_ok n) (evDraw_ok (O_q35z_ok n) (by kernel_rfl)) (.of (l := [(1, (lbody 1000 C_q35z 0)), (3, (lbody 1000 C_q35z 1)), (5, (lbody 1000 C_q35z 2)), (7, (lbody 1000 C_q35z 3))]) (by kernel_rfl) ⟨.head (loopL_sound (O_q35z_ok n) (evDraw_ok (O_q35z_ok n) (by kernel_rfl)) (.of (l := []) (by kernel_rfl) trivial) (s_q35z_s1 n)), ⟨.tail rfl (.head (loopL_sound (O_q35z_ok n) (evDraw_ok (O_q35z_ok n) (by kernel_rfl)) (.of (l := []) (by kernel_rfl) trivial) (s_q35z_s3 n))), ⟨.tail rfl (.tail rfl (.head (loopL_sound (O_q35z_ok n) (evDraw_ok (O_q35z_ok n) (by kernel_rfl)) (.of (l := []) (by kernel_rfl) trivial) (s_q35z_s5 n)))), ⟨.tail rfl (.tail rfl (.tail rfl (.head (loopL_sound (O_q35z_ok n) (evDraw_ok (O_q35z_ok n) (by kernel_rfl)) (.of (l := []) (by kernel_rfl) trivial) (s_q35z_s7 n))))), trivial⟩⟩⟩⟩) (e_q35z n)

end Go.Proofs.YtneindkhjadnaaaGreatDoor

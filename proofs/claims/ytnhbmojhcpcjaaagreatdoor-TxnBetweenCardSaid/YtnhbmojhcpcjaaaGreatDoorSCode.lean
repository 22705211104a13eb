/- Each of these functions computes what its plain function computes (written by gen.py). -/
import Derived.Test.YtnhbmojhcpcjaaaGreatDoorSBase
import Derived.KernelRfl
import Derived.Test.YtnhbmojhcpcjaaaGreatDoorEvDraw
import Derived.Test.YtnhbmojhcpcjaaaGreatDoorPCode
namespace Go.Proofs.YtnhbmojhcpcjaaaGreatDoor
open Go Esp Ev Pure
set_option linter.unusedSimpArgs false
set_option linter.unusedVariables false
set_option maxRecDepth 100000
set_option maxHeartbeats 1000000
def okds : List FuncId := []
theorem quiets : ∀ g ∈ okds, ∀ (args : Array Value) (w : World), (callFunc g args).run Tryz.prog w = .ok (.enter g args) w ∧ CallsD Tryz.prog g args .returning w fun e u w' => u = .returning ∧ (∃ v, e = .returned v) ∧ w' = w := by
  intro g hg args w
  cases hg
variable [Tabs]
class UDef : Prop where
  ok : ∀ g ∈ ([] : List Nat), g ∈ Tabs.okd
variable [QuietD Tryz.prog] [UDef] [UTabs]
def TT : List (TypeId × Ty) := [(2, .i64), (3, .i64), (4, .bool), (5, .u8), (6, .u8), (9, .str), (10, .str), (11, .str), (12, .u64), (21, .i32), (22, (.lst .node)), (23, (.lst .edg)), (25, .graph), (27, .delta), (28, .i64), (40, (.lst .str)), (41, (.lst .prp)), (43, .node), (47, .edg), (68, (.two .graph)), (73, (.lst .i64)), (77, (.lst .val)), (79, .val), (81, .opn), (82, (.lst .opn)), (84, .pair), (106, .u64), (120, .prp), (134, .i64), (141, .u32), (143, .u64), (149, (.lst .i64)), (174, .u64), (201, (.lst .u8)), (221, .u8), (222, .u8), (225, .i32), (226, .i32)]

noncomputable def F_q48z : FnT := ⟨2, ⟨[], [(0, .graph), (1, .graph)], [], []⟩, [.v .bool], []⟩
noncomputable def F_q78z : FnT := ⟨2, ⟨[], [(0, .graph), (1, .graph)], [], []⟩, [.v .delta, .v .i64], []⟩
noncomputable def F_q76z : FnT := ⟨1, ⟨[], [(0, .graph)], [], []⟩, [.v .i64], []⟩
noncomputable def F_q75z : FnT := ⟨1, ⟨[], [(0, (.lst .str))], [], []⟩, [.v .i64], []⟩
noncomputable def F_q87z : FnT := ⟨1, ⟨[], [(0, .str)], [], []⟩, [.v .bool], []⟩
noncomputable def C_q87z : Code := bodyOf Tryz.f68
noncomputable def M_q87z : List (Nat × ArgM) := []
instance : DfOk M_q87z := .none rfl
noncomputable def O_q87z {ρ : Type} (n : Nat) : Orc ρ := orcNil
omit [QuietD Tryz.prog] [UDef] [UTabs] in
theorem O_q87z_ok {ρ : Type} (n : Nat) : (O_q87z n : Orc ρ).ok Tryz.prog := orcNil_ok
noncomputable def T_q87z_s0 : Tm := ⟨[], [(0, .str), (14, .i64), (15, .i64)], [], []⟩
noncomputable def X_q87z_s0 : Tm := ⟨[], [], [], []⟩
noncomputable def R_q87z_s0 : Tm := ⟨[], [(2, .bool)], [], []⟩
noncomputable def L_q87z_s0 {ρ : Type} (n : Nat) : LOrc ρ := lorcNil
omit [Tabs] [QuietD Tryz.prog] [UDef] [UTabs] in
theorem s_q87z_s0 {ρ : Type} (n : Nat) (rec : T_q87z_s0.den → Option ρ) kx kr s : dStep Tryz.prog 54 TT M_q87z (O_q87z n) (L_q87z_s0 n) dorcNil 0 (lbody 1000 C_q87z 0) T_q87z_s0 X_q87z_s0 R_q87z_s0 ⟨[], [], []⟩ rec kx kr s = q87z_s0 n rec kx kr s := by kernel_rfl
noncomputable def L_q87z {ρ : Type} (n : Nat) : LOrc ρ := lorcCons 0 (loopL 54 0 n T_q87z_s0 X_q87z_s0 R_q87z_s0 ⟨[], [], []⟩ (q87z_s0 n)) (lorcNil)
omit [Tabs] [QuietD Tryz.prog] [UDef] [UTabs] in
theorem e_q87z (n : Nat) (x) : evF Tryz.prog 54 TT M_q87z F_q87z (O_q87z n) (L_q87z n) dorcNil ⟨[], [], []⟩ [.tmp 2] C_q87z x = q87z n x := by kernel_rfl
omit [UDef] [UTabs] in
theorem ok_q87z (n : Nat) : Contract Tryz.prog 68 F_q87z (q87z n) :=
  Contract.of_ev (c := C_q87z) (N := 54) Tryz.func68 (by kernel_rfl) (by kernel_rfl) (by kernel_rfl) (by kernel_rfl) (O_q87z_ok n) dorcNil_ok (.of (l := [(0, (lbody 1000 C_q87z 0))]) (by kernel_rfl) ⟨.head (loopL_sound (O_q87z_ok n) dorcNil_ok (.of (l := []) (by kernel_rfl) trivial) (s_q87z_s0 n)), trivial⟩) (e_q87z n)

noncomputable def C_q75z : Code := bodyOf Tryz.f65
noncomputable def M_q75z : List (Nat × ArgM) := [(68, ⟨[], [], [], true⟩)]
instance : DfOk M_q75z := .none rfl
noncomputable def O_q75z {ρ : Type} (n : Nat) : Orc ρ := orcCons 68 F_q87z (q87z n) (orcNil)
omit [UDef] [UTabs] in
theorem O_q75z_ok {ρ : Type} (n : Nat) : (O_q75z n : Orc ρ).ok Tryz.prog := orcCons_ok (by kernel_rfl) (ok_q87z n) (orcNil_ok)
noncomputable def T_q75z_s0 : Tm := ⟨[], [(0, (.lst .str)), (8, (.lst .str)), (9, .i64), (10, .i64)], [], []⟩
noncomputable def X_q75z_s0 : Tm := ⟨[], [], [], []⟩
noncomputable def R_q75z_s0 : Tm := ⟨[], [(2, .i64)], [], []⟩
noncomputable def L_q75z_s0 {ρ : Type} (n : Nat) : LOrc ρ := lorcNil
omit [Tabs] [QuietD Tryz.prog] [UDef] [UTabs] in
theorem s_q75z_s0 {ρ : Type} (n : Nat) (rec : T_q75z_s0.den → Option ρ) kx kr s : dStep Tryz.prog 32 TT M_q75z (O_q75z n) (L_q75z_s0 n) dorcNil 0 (lbody 1000 C_q75z 0) T_q75z_s0 X_q75z_s0 R_q75z_s0 ⟨[], [], []⟩ rec kx kr s = q75z_s0 n rec kx kr s := by kernel_rfl
noncomputable def L_q75z {ρ : Type} (n : Nat) : LOrc ρ := lorcCons 0 (loopL 32 0 n T_q75z_s0 X_q75z_s0 R_q75z_s0 ⟨[], [], []⟩ (q75z_s0 n)) (lorcNil)
omit [Tabs] [QuietD Tryz.prog] [UDef] [UTabs] in
theorem e_q75z (n : Nat) (x) : evF Tryz.prog 32 TT M_q75z F_q75z (O_q75z n) (L_q75z n) dorcNil ⟨[], [], []⟩ [.tmp 2] C_q75z x = q75z n x := by kernel_rfl
omit [UDef] [UTabs] in
theorem ok_q75z (n : Nat) : Contract Tryz.prog 65 F_q75z (q75z n) :=
  Contract.of_ev (c := C_q75z) (N := 32) Tryz.func65 (by kernel_rfl) (by kernel_rfl) (by kernel_rfl) (by kernel_rfl) (O_q75z_ok n) dorcNil_ok (.of (l := [(0, (lbody 1000 C_q75z 0))]) (by kernel_rfl) ⟨.head (loopL_sound (O_q75z_ok n) dorcNil_ok (.of (l := []) (by kernel_rfl) trivial) (s_q75z_s0 n)), trivial⟩) (e_q75z n)

noncomputable def F_q77z : FnT := ⟨1, ⟨[], [(0, (.lst .prp))], [], []⟩, [.v .i64], []⟩
noncomputable def F_q81z : FnT := ⟨1, ⟨[], [(0, .val)], [], []⟩, [.v .i64], []⟩
noncomputable def F_q83z : FnT := ⟨2, ⟨[], [(0, .val), (1, .i64)], [], []⟩, [.v .i64], []⟩
noncomputable def C_q83z : Code := bodyOf Tryz.f148
noncomputable def M_q83z : List (Nat × ArgM) := [(131, ⟨[], [], [], true⟩), (148, ⟨[], [], [], true⟩)]
instance : DfOk M_q83z := .none rfl
noncomputable def O_q83z {ρ : Type} (self_q83z : Ev.Val × Int × Unit → Option (Int × Unit)) (n : Nat) : Orc ρ := orcCons 131 F_valid (validN) (orcCons 148 F_q83z (self_q83z) (orcNil))
omit [QuietD Tryz.prog] [UDef] in
theorem O_q83z_ok {ρ : Type} (self_q83z : Ev.Val × Int × Unit → Option (Int × Unit)) (h_q83z : Contract Tryz.prog 148 F_q83z self_q83z) (n : Nat) : (O_q83z self_q83z n : Orc ρ).ok Tryz.prog := orcCons_ok (by kernel_rfl) (validN_ok) (orcCons_ok (by kernel_rfl) (h_q83z) (orcNil_ok))
noncomputable def T_q83z_s1 : Tm := ⟨[(2, .ptr 2 0)], [(1, .i64), (90, (.lst .val)), (91, .i64), (92, .i64)], [(2, .box [.d .val])], []⟩
noncomputable def X_q83z_s1 : Tm := ⟨[(2, .ptr 2 0)], [], [(2, .box [.d .val])], []⟩
noncomputable def R_q83z_s1 : Tm := ⟨[], [(4, .i64)], [], []⟩
noncomputable def L_q83z_s1 {ρ : Type} (self_q83z : Ev.Val × Int × Unit → Option (Int × Unit)) (n : Nat) : LOrc ρ := lorcNil
omit [Tabs] [QuietD Tryz.prog] [UDef] [UTabs] in
theorem s_q83z_s1 {ρ : Type} (self_q83z : Ev.Val × Int × Unit → Option (Int × Unit)) (n : Nat) (rec : T_q83z_s1.den → Option ρ) kx kr s : dStep Tryz.prog 114 TT M_q83z (O_q83z self_q83z n) (L_q83z_s1 self_q83z n) dorcNil 1 (lbody 1000 C_q83z 0) T_q83z_s1 X_q83z_s1 R_q83z_s1 ⟨[], [], []⟩ rec kx kr s = q83z_s1 self_q83z n rec kx kr s := by kernel_rfl
noncomputable def L_q83z {ρ : Type} (self_q83z : Ev.Val × Int × Unit → Option (Int × Unit)) (n : Nat) : LOrc ρ := lorcCons 1 (loopL 114 1 n T_q83z_s1 X_q83z_s1 R_q83z_s1 ⟨[], [], []⟩ (q83z_s1 self_q83z n)) (lorcNil)
omit [Tabs] [QuietD Tryz.prog] [UDef] [UTabs] in
theorem e_q83z (self_q83z : Ev.Val × Int × Unit → Option (Int × Unit)) (n : Nat) (x) : evF Tryz.prog 114 TT M_q83z F_q83z (O_q83z self_q83z n) (L_q83z self_q83z n) dorcNil ⟨[], [], []⟩ [.tmp 4] C_q83z x = q83z_b self_q83z n x := by kernel_rfl
omit [UDef] in
theorem okb_q83z (self_q83z : Ev.Val × Int × Unit → Option (Int × Unit)) (h_q83z : Contract Tryz.prog 148 F_q83z self_q83z) (n : Nat) : Contract Tryz.prog 148 F_q83z (q83z_b self_q83z n) :=
  Contract.of_ev (c := C_q83z) (N := 114) Tryz.func148 (by kernel_rfl) (by kernel_rfl) (by kernel_rfl) (by kernel_rfl) (O_q83z_ok self_q83z h_q83z n) dorcNil_ok (.of (l := [(1, (lbody 1000 C_q83z 0))]) (by kernel_rfl) ⟨.head (loopL_sound (O_q83z_ok self_q83z h_q83z n) dorcNil_ok (.of (l := []) (by kernel_rfl) trivial) (s_q83z_s1 self_q83z n)), trivial⟩) (e_q83z self_q83z n)
omit [UDef] in
theorem ok_q83z : ∀ n, Contract Tryz.prog 148 F_q83z (q83z n)
  | 0 => fun _ _ h => by cases h
  | n + 1 => okb_q83z _ (ok_q83z n) n

noncomputable def C_q81z : Code := bodyOf Tryz.f113
noncomputable def M_q81z : List (Nat × ArgM) := [(148, ⟨[], [], [], true⟩)]
instance : DfOk M_q81z := .none rfl
noncomputable def O_q81z {ρ : Type} (n : Nat) : Orc ρ := orcCons 148 F_q83z (q83z n) (orcNil)
omit [UDef] in
theorem O_q81z_ok {ρ : Type} (n : Nat) : (O_q81z n : Orc ρ).ok Tryz.prog := orcCons_ok (by kernel_rfl) (ok_q83z n) (orcNil_ok)
noncomputable def L_q81z {ρ : Type} (n : Nat) : LOrc ρ := lorcNil
omit [Tabs] [QuietD Tryz.prog] [UDef] [UTabs] in
theorem e_q81z (n : Nat) (x) : evF Tryz.prog 5 TT M_q81z F_q81z (O_q81z n) (L_q81z n) dorcNil ⟨[], [], []⟩ [.tmp 2] C_q81z x = q81z n x := by kernel_rfl
omit [UDef] in
theorem ok_q81z (n : Nat) : Contract Tryz.prog 113 F_q81z (q81z n) :=
  Contract.of_ev (c := C_q81z) (N := 5) Tryz.func113 (by kernel_rfl) (by kernel_rfl) (by kernel_rfl) (by kernel_rfl) (O_q81z_ok n) dorcNil_ok (.of (l := []) (by kernel_rfl) trivial) (e_q81z n)

noncomputable def C_q77z : Code := bodyOf Tryz.f66
noncomputable def M_q77z : List (Nat × ArgM) := [(68, ⟨[], [], [], true⟩), (113, ⟨[], [], [], true⟩)]
instance : DfOk M_q77z := .none rfl
noncomputable def O_q77z {ρ : Type} (n : Nat) : Orc ρ := orcCons 68 F_q87z (q87z n) (orcCons 113 F_q81z (q81z n) (orcNil))
omit [UDef] in
theorem O_q77z_ok {ρ : Type} (n : Nat) : (O_q77z n : Orc ρ).ok Tryz.prog := orcCons_ok (by kernel_rfl) (ok_q87z n) (orcCons_ok (by kernel_rfl) (ok_q81z n) (orcNil_ok))
noncomputable def T_q77z_s0 : Tm := ⟨[], [(0, (.lst .prp)), (9, (.lst .prp)), (10, .i64), (11, .i64)], [], []⟩
noncomputable def X_q77z_s0 : Tm := ⟨[], [], [], []⟩
noncomputable def R_q77z_s0 : Tm := ⟨[], [(2, .i64)], [], []⟩
noncomputable def L_q77z_s0 {ρ : Type} (n : Nat) : LOrc ρ := lorcNil
omit [Tabs] [QuietD Tryz.prog] [UDef] [UTabs] in
theorem s_q77z_s0 {ρ : Type} (n : Nat) (rec : T_q77z_s0.den → Option ρ) kx kr s : dStep Tryz.prog 48 TT M_q77z (O_q77z n) (L_q77z_s0 n) (evDraw Tryz.prog 48 TT M_q77z (O_q77z n)) 0 (lbody 1000 C_q77z 0) T_q77z_s0 X_q77z_s0 R_q77z_s0 ⟨[], [], []⟩ rec kx kr s = q77z_s0 n rec kx kr s := by kernel_rfl
noncomputable def L_q77z {ρ : Type} (n : Nat) : LOrc ρ := lorcCons 0 (loopL 48 0 n T_q77z_s0 X_q77z_s0 R_q77z_s0 ⟨[], [], []⟩ (q77z_s0 n)) (lorcNil)
omit [Tabs] [QuietD Tryz.prog] [UDef] [UTabs] in
theorem e_q77z (n : Nat) (x) : evF Tryz.prog 48 TT M_q77z F_q77z (O_q77z n) (L_q77z n) (evDraw Tryz.prog 48 TT M_q77z (O_q77z n)) ⟨[], [], []⟩ [.tmp 2] C_q77z x = q77z n x := by kernel_rfl
omit [UDef] in
theorem ok_q77z (n : Nat) : Contract Tryz.prog 66 F_q77z (q77z n) :=
  Contract.of_ev (c := C_q77z) (N := 48) Tryz.func66 (by kernel_rfl) (by kernel_rfl) (by kernel_rfl) (by kernel_rfl) (O_q77z_ok n) (evDraw_ok (O_q77z_ok n) (by kernel_rfl)) (.of (l := [(0, (lbody 1000 C_q77z 0))]) (by kernel_rfl) ⟨.head (loopL_sound (O_q77z_ok n) (evDraw_ok (O_q77z_ok n) (by kernel_rfl)) (.of (l := []) (by kernel_rfl) trivial) (s_q77z_s0 n)), trivial⟩) (e_q77z n)

noncomputable def F_q60z : FnT := ⟨1, ⟨[], [(0, (.lst .i64))], [], []⟩, [.v .i64], []⟩
noncomputable def C_q60z : Code := bodyOf Tryz.f64
noncomputable def M_q60z : List (Nat × ArgM) := []
instance : DfOk M_q60z := .none rfl
noncomputable def O_q60z {ρ : Type} (n : Nat) : Orc ρ := orcNil
omit [QuietD Tryz.prog] [UDef] [UTabs] in
theorem O_q60z_ok {ρ : Type} (n : Nat) : (O_q60z n : Orc ρ).ok Tryz.prog := orcNil_ok
noncomputable def T_q60z_s0 : Tm := ⟨[], [(3, .i64), (6, (.lst .i64)), (7, .i64), (8, .i64)], [], []⟩
noncomputable def X_q60z_s0 : Tm := ⟨[], [(3, .i64)], [], []⟩
noncomputable def R_q60z_s0 : Tm := ⟨[], [(2, .i64)], [], []⟩
noncomputable def L_q60z_s0 {ρ : Type} (n : Nat) : LOrc ρ := lorcNil
omit [Tabs] [QuietD Tryz.prog] [UDef] [UTabs] in
theorem s_q60z_s0 {ρ : Type} (n : Nat) (rec : T_q60z_s0.den → Option ρ) kx kr s : dStep Tryz.prog 18 TT M_q60z (O_q60z n) (L_q60z_s0 n) dorcNil 0 (lbody 1000 C_q60z 0) T_q60z_s0 X_q60z_s0 R_q60z_s0 ⟨[], [], []⟩ rec kx kr s = q60z_s0 n rec kx kr s := by kernel_rfl
noncomputable def L_q60z {ρ : Type} (n : Nat) : LOrc ρ := lorcCons 0 (loopL 18 0 n T_q60z_s0 X_q60z_s0 R_q60z_s0 ⟨[], [], []⟩ (q60z_s0 n)) (lorcNil)
omit [Tabs] [QuietD Tryz.prog] [UDef] [UTabs] in
theorem e_q60z (n : Nat) (x) : evF Tryz.prog 18 TT M_q60z F_q60z (O_q60z n) (L_q60z n) dorcNil ⟨[], [], []⟩ [.tmp 2] C_q60z x = q60z n x := by kernel_rfl
omit [UDef] [UTabs] in
theorem ok_q60z (n : Nat) : Contract Tryz.prog 64 F_q60z (q60z n) :=
  Contract.of_ev (c := C_q60z) (N := 18) Tryz.func64 (by kernel_rfl) (by kernel_rfl) (by kernel_rfl) (by kernel_rfl) (O_q60z_ok n) dorcNil_ok (.of (l := [(0, (lbody 1000 C_q60z 0))]) (by kernel_rfl) ⟨.head (loopL_sound (O_q60z_ok n) dorcNil_ok (.of (l := []) (by kernel_rfl) trivial) (s_q60z_s0 n)), trivial⟩) (e_q60z n)

noncomputable def F_q86z : FnT := ⟨2, ⟨[], [(0, .graph), (1, .i64)], [], []⟩, [.v .i64], []⟩
noncomputable def F_q17z : FnT := ⟨3, ⟨[(2, .fn 114)], [(0, (.lst .node)), (1, .i64)], [], []⟩, [.v .i64, .v .bool], []⟩
noncomputable def F_q74z : FnT := ⟨2, ⟨[], [(0, .node), (1, .i64)], [], []⟩, [.v .i64], []⟩
noncomputable def F_q62z : FnT := ⟨2, ⟨[], [(0, .i64), (1, .i64)], [], []⟩, [.v .i64], []⟩
noncomputable def F_q73z : FnT := ⟨1, ⟨[], [(0, .i64)], [], []⟩, [.v .bool], []⟩
noncomputable def C_q73z : Code := bodyOf Tryz.f126
noncomputable def M_q73z : List (Nat × ArgM) := []
instance : DfOk M_q73z := .none rfl
noncomputable def O_q73z {ρ : Type} : Orc ρ := orcNil
omit [QuietD Tryz.prog] [UDef] [UTabs] in
theorem O_q73z_ok {ρ : Type} : (O_q73z : Orc ρ).ok Tryz.prog := orcNil_ok
noncomputable def L_q73z {ρ : Type} : LOrc ρ := lorcNil
omit [Tabs] [QuietD Tryz.prog] [UDef] [UTabs] in
theorem e_q73z (x) : evF Tryz.prog 6 TT M_q73z F_q73z (O_q73z) (L_q73z) dorcNil ⟨[], [], []⟩ [.tmp 2] C_q73z x = q73z x := by kernel_rfl
omit [UDef] [UTabs] in
theorem ok_q73z : Contract Tryz.prog 126 F_q73z (q73z) :=
  Contract.of_ev (c := C_q73z) (N := 6) Tryz.func126 (by kernel_rfl) (by kernel_rfl) (by kernel_rfl) (by kernel_rfl) (O_q73z_ok) dorcNil_ok (.of (l := []) (by kernel_rfl) trivial) (e_q73z)

noncomputable def C_q62z : Code := bodyOf Tryz.f84
noncomputable def M_q62z : List (Nat × ArgM) := [(126, ⟨[], [], [], true⟩)]
instance : DfOk M_q62z := .none rfl
noncomputable def O_q62z {ρ : Type} : Orc ρ := orcCons 126 F_q73z (q73z) (orcNil)
omit [UDef] [UTabs] in
theorem O_q62z_ok {ρ : Type} : (O_q62z : Orc ρ).ok Tryz.prog := orcCons_ok (by kernel_rfl) (ok_q73z) (orcNil_ok)
noncomputable def L_q62z {ρ : Type} : LOrc ρ := lorcNil
omit [Tabs] [QuietD Tryz.prog] [UDef] [UTabs] in
theorem e_q62z (x) : evF Tryz.prog 20 TT M_q62z F_q62z (O_q62z) (L_q62z) dorcNil ⟨[], [], []⟩ [.tmp 4] C_q62z x = q62z x := by kernel_rfl
omit [UDef] [UTabs] in
theorem ok_q62z : Contract Tryz.prog 84 F_q62z (q62z) :=
  Contract.of_ev (c := C_q62z) (N := 20) Tryz.func84 (by kernel_rfl) (by kernel_rfl) (by kernel_rfl) (by kernel_rfl) (O_q62z_ok) dorcNil_ok (.of (l := []) (by kernel_rfl) trivial) (e_q62z)

noncomputable def C_q74z : Code := bodyOf Tryz.f114
noncomputable def M_q74z : List (Nat × ArgM) := [(84, ⟨[], [], [], true⟩)]
instance : DfOk M_q74z := .none rfl
noncomputable def O_q74z {ρ : Type} : Orc ρ := orcCons 84 F_q62z (q62z) (orcNil)
omit [UDef] [UTabs] in
theorem O_q74z_ok {ρ : Type} : (O_q74z : Orc ρ).ok Tryz.prog := orcCons_ok (by kernel_rfl) (ok_q62z) (orcNil_ok)
noncomputable def L_q74z {ρ : Type} : LOrc ρ := lorcNil
omit [Tabs] [QuietD Tryz.prog] [UDef] [UTabs] in
theorem e_q74z (x) : evF Tryz.prog 9 TT M_q74z F_q74z (O_q74z) (L_q74z) dorcNil ⟨[], [], []⟩ [.tmp 4] C_q74z x = q74z x := by kernel_rfl
omit [UDef] [UTabs] in
theorem ok_q74z : Contract Tryz.prog 114 F_q74z (q74z) :=
  Contract.of_ev (c := C_q74z) (N := 9) Tryz.func114 (by kernel_rfl) (by kernel_rfl) (by kernel_rfl) (by kernel_rfl) (O_q74z_ok) dorcNil_ok (.of (l := []) (by kernel_rfl) trivial) (e_q74z)

noncomputable def C_q17z : Code := bodyOf Tryz.f82
noncomputable def M_q17z : List (Nat × ArgM) := [(114, ⟨[], [], [], true⟩)]
instance : DfOk M_q17z := .none rfl
noncomputable def O_q17z {ρ : Type} (n : Nat) : Orc ρ := orcCons 114 F_q74z (q74z) (orcNil)
omit [UDef] [UTabs] in
theorem O_q17z_ok {ρ : Type} (n : Nat) : (O_q17z n : Orc ρ).ok Tryz.prog := orcCons_ok (by kernel_rfl) (ok_q74z) (orcNil_ok)
noncomputable def T_q17z_s0 : Tm := ⟨[(2, .fn 114)], [(0, (.lst .node)), (1, .i64), (8, .i64), (9, .i64), (10, .i64)], [], []⟩
noncomputable def X_q17z_s0 : Tm := ⟨[(2, .fn 114)], [(0, (.lst .node)), (1, .i64), (8, .i64), (9, .i64)], [], []⟩
noncomputable def R_q17z_s0 : Tm := ⟨[], [], [], []⟩
noncomputable def L_q17z_s0 {ρ : Type} (n : Nat) : LOrc ρ := lorcNil
omit [Tabs] [QuietD Tryz.prog] [UDef] [UTabs] in
theorem s_q17z_s0 {ρ : Type} (n : Nat) (rec : T_q17z_s0.den → Option ρ) kx kr s : dStep Tryz.prog 49 TT M_q17z (O_q17z n) (L_q17z_s0 n) dorcNil 0 (lbody 1000 C_q17z 0) T_q17z_s0 X_q17z_s0 R_q17z_s0 ⟨[], [], []⟩ rec kx kr s = q17z_s0 n rec kx kr s := by kernel_rfl
noncomputable def L_q17z {ρ : Type} (n : Nat) : LOrc ρ := lorcCons 0 (loopL 49 0 n T_q17z_s0 X_q17z_s0 R_q17z_s0 ⟨[], [], []⟩ (q17z_s0 n)) (lorcNil)
omit [Tabs] [QuietD Tryz.prog] [UDef] [UTabs] in
theorem e_q17z (n : Nat) (x) : evF Tryz.prog 49 TT M_q17z F_q17z (O_q17z n) (L_q17z n) dorcNil ⟨[], [], []⟩ [.tmp 6, .tmp 7] C_q17z x = q17z n x := by kernel_rfl
omit [UDef] [UTabs] in
theorem ok_q17z (n : Nat) : Contract Tryz.prog 82 F_q17z (q17z n) :=
  Contract.of_ev (c := C_q17z) (N := 49) Tryz.func82 (by kernel_rfl) (by kernel_rfl) (by kernel_rfl) (by kernel_rfl) (O_q17z_ok n) dorcNil_ok (.of (l := [(0, (lbody 1000 C_q17z 0))]) (by kernel_rfl) ⟨.head (loopL_sound (O_q17z_ok n) dorcNil_ok (.of (l := []) (by kernel_rfl) trivial) (s_q17z_s0 n)), trivial⟩) (e_q17z n)

noncomputable def C_q86z : Code := bodyOf Tryz.f67
noncomputable def M_q86z : List (Nat × ArgM) := [(82, ⟨[], [], [], true⟩)]
instance : DfOk M_q86z := .none rfl
noncomputable def O_q86z {ρ : Type} (n : Nat) : Orc ρ := orcCons 82 F_q17z (q17z n) (orcNil)
omit [UDef] [UTabs] in
theorem O_q86z_ok {ρ : Type} (n : Nat) : (O_q86z n : Orc ρ).ok Tryz.prog := orcCons_ok (by kernel_rfl) (ok_q17z n) (orcNil_ok)
noncomputable def L_q86z {ρ : Type} (n : Nat) : LOrc ρ := lorcNil
omit [Tabs] [QuietD Tryz.prog] [UDef] [UTabs] in
theorem e_q86z (n : Nat) (x) : evF Tryz.prog 17 TT M_q86z F_q86z (O_q86z n) (L_q86z n) dorcNil ⟨[], [], []⟩ [.tmp 4] C_q86z x = q86z n x := by kernel_rfl
omit [UDef] [UTabs] in
theorem ok_q86z (n : Nat) : Contract Tryz.prog 67 F_q86z (q86z n) :=
  Contract.of_ev (c := C_q86z) (N := 17) Tryz.func67 (by kernel_rfl) (by kernel_rfl) (by kernel_rfl) (by kernel_rfl) (O_q86z_ok n) dorcNil_ok (.of (l := []) (by kernel_rfl) trivial) (e_q86z n)

noncomputable def C_q76z : Code := bodyOf Tryz.f35
noncomputable def M_q76z : List (Nat × ArgM) := [(65, ⟨[], [], [], true⟩), (66, ⟨[], [], [], true⟩), (64, ⟨[], [], [], true⟩), (67, ⟨[], [], [], true⟩), (68, ⟨[], [], [], true⟩)]
instance : DfOk M_q76z := .none rfl
noncomputable def O_q76z {ρ : Type} (n : Nat) : Orc ρ := orcCons 65 F_q75z (q75z n) (orcCons 66 F_q77z (q77z n) (orcCons 64 F_q60z (q60z n) (orcCons 67 F_q86z (q86z n) (orcCons 68 F_q87z (q87z n) (orcNil)))))
omit [UDef] in
theorem O_q76z_ok {ρ : Type} (n : Nat) : (O_q76z n : Orc ρ).ok Tryz.prog := orcCons_ok (by kernel_rfl) (ok_q75z n) (orcCons_ok (by kernel_rfl) (ok_q77z n) (orcCons_ok (by kernel_rfl) (ok_q60z n) (orcCons_ok (by kernel_rfl) (ok_q86z n) (orcCons_ok (by kernel_rfl) (ok_q87z n) (orcNil_ok)))))
noncomputable def T_q76z_s0 : Tm := ⟨[(1, .ptr 1 0)], [(3, .i64), (22, (.lst .node)), (23, .i64), (24, .i64)], [(1, .box [.d .graph])], []⟩
noncomputable def X_q76z_s0 : Tm := ⟨[(1, .ptr 1 0)], [(3, .i64)], [(1, .box [.d .graph])], []⟩
noncomputable def R_q76z_s0 : Tm := ⟨[], [(2, .i64)], [], []⟩
noncomputable def L_q76z_s0 {ρ : Type} (n : Nat) : LOrc ρ := lorcNil
omit [Tabs] [QuietD Tryz.prog] [UDef] [UTabs] in
theorem s_q76z_s0 {ρ : Type} (n : Nat) (rec : T_q76z_s0.den → Option ρ) kx kr s : dStep Tryz.prog 103 TT M_q76z (O_q76z n) (L_q76z_s0 n) (evDraw Tryz.prog 103 TT M_q76z (O_q76z n)) 0 (lbody 1000 C_q76z 0) T_q76z_s0 X_q76z_s0 R_q76z_s0 ⟨[], [], []⟩ rec kx kr s = q76z_s0 n rec kx kr s := by kernel_rfl
noncomputable def T_q76z_s2 : Tm := ⟨[(1, .ptr 1 0)], [(3, .i64), (7, .i64), (48, (.lst .edg)), (49, .i64), (50, .i64)], [(1, .box [.d .graph])], []⟩
noncomputable def X_q76z_s2 : Tm := ⟨[(1, .ptr 1 0)], [(3, .i64), (7, .i64)], [(1, .box [.d .graph])], []⟩
noncomputable def R_q76z_s2 : Tm := ⟨[], [(2, .i64)], [], []⟩
noncomputable def L_q76z_s2 {ρ : Type} (n : Nat) : LOrc ρ := lorcNil
omit [Tabs] [QuietD Tryz.prog] [UDef] [UTabs] in
theorem s_q76z_s2 {ρ : Type} (n : Nat) (rec : T_q76z_s2.den → Option ρ) kx kr s : dStep Tryz.prog 103 TT M_q76z (O_q76z n) (L_q76z_s2 n) (evDraw Tryz.prog 103 TT M_q76z (O_q76z n)) 2 (lbody 1000 C_q76z 1) T_q76z_s2 X_q76z_s2 R_q76z_s2 ⟨[], [], []⟩ rec kx kr s = q76z_s2 n rec kx kr s := by kernel_rfl
noncomputable def L_q76z {ρ : Type} (n : Nat) : LOrc ρ := lorcCons 0 (loopL 103 0 n T_q76z_s0 X_q76z_s0 R_q76z_s0 ⟨[], [], []⟩ (q76z_s0 n)) (lorcCons 2 (loopL 103 2 n T_q76z_s2 X_q76z_s2 R_q76z_s2 ⟨[], [], []⟩ (q76z_s2 n)) (lorcNil))
omit [Tabs] [QuietD Tryz.prog] [UDef] [UTabs] in
theorem e_q76z (n : Nat) (x) : evF Tryz.prog 103 TT M_q76z F_q76z (O_q76z n) (L_q76z n) (evDraw Tryz.prog 103 TT M_q76z (O_q76z n)) ⟨[], [], []⟩ [.tmp 2] C_q76z x = q76z n x := by kernel_rfl
omit [UDef] in
theorem ok_q76z (n : Nat) : Contract Tryz.prog 35 F_q76z (q76z n) :=
  Contract.of_ev (c := C_q76z) (N := 103) Tryz.func35 (by kernel_rfl) (by kernel_rfl) (by kernel_rfl) (by kernel_rfl) (O_q76z_ok n) (evDraw_ok (O_q76z_ok n) (by kernel_rfl)) (.of (l := [(0, (lbody 1000 C_q76z 0)), (2, (lbody 1000 C_q76z 1))]) (by kernel_rfl) ⟨.head (loopL_sound (O_q76z_ok n) (evDraw_ok (O_q76z_ok n) (by kernel_rfl)) (.of (l := []) (by kernel_rfl) trivial) (s_q76z_s0 n)), ⟨.tail rfl (.head (loopL_sound (O_q76z_ok n) (evDraw_ok (O_q76z_ok n) (by kernel_rfl)) (.of (l := []) (by kernel_rfl) trivial) (s_q76z_s2 n))), trivial⟩⟩) (e_q76z n)

noncomputable def F_q19z : FnT := ⟨4, ⟨[(2, .fn 37), (3, .fn 38)], [(0, (.lst .node)), (1, (.lst .node))], [], []⟩, [.v (.lst .node)], []⟩
noncomputable def F_q12z : FnT := ⟨2, ⟨[(1, .clo 69 [1000000, 1000001])], [(0, (.lst .node))], [(1000000, .box [.ref (.fn 37)]), (1000001, .box [.d .node])], []⟩, [.v .bool], [(1000000, .box [.ref (.fn 37)]), (1000001, .box [.d .node])]⟩
noncomputable def F_q16z : FnT := ⟨2, ⟨[(1, .clo 69 [1000000, 1000001])], [(0, (.lst .node))], [(1000000, .box [.ref (.fn 37)]), (1000001, .box [.d .node])], []⟩, [.v .i64], [(1000000, .box [.ref (.fn 37)]), (1000001, .box [.d .node])]⟩
noncomputable def F_q39z : FnT := ⟨3, ⟨[(1, .ptr 1000000 0), (2, .ptr 1000016 0)], [(0, .node)], [(1000000, .box [.ref (.fn 37)]), (1000016, .box [.d .node])], []⟩, [.v .bool], [(1000000, .box [.ref (.fn 37)]), (1000016, .box [.d .node])]⟩
noncomputable def F_q70z : FnT := ⟨2, ⟨[], [(0, .node), (1, .node)], [], []⟩, [.v .bool], []⟩
noncomputable def F_q29z : FnT := ⟨2, ⟨[], [(0, (.lst .str)), (1, (.lst .str))], [], []⟩, [.v .bool], []⟩
noncomputable def C_q29z : Code := bodyOf Tryz.f57
noncomputable def M_q29z : List (Nat × ArgM) := []
instance : DfOk M_q29z := .none rfl
noncomputable def O_q29z {ρ : Type} (n : Nat) : Orc ρ := orcNil
omit [QuietD Tryz.prog] [UDef] [UTabs] in
theorem O_q29z_ok {ρ : Type} (n : Nat) : (O_q29z n : Orc ρ).ok Tryz.prog := orcNil_ok
noncomputable def T_q29z_s0 : Tm := ⟨[], [(0, (.lst .str)), (1, (.lst .str)), (12, .i64), (13, .i64)], [], []⟩
noncomputable def X_q29z_s0 : Tm := ⟨[], [], [], []⟩
noncomputable def R_q29z_s0 : Tm := ⟨[], [(4, .bool)], [], []⟩
noncomputable def L_q29z_s0 {ρ : Type} (n : Nat) : LOrc ρ := lorcNil
omit [Tabs] [QuietD Tryz.prog] [UDef] [UTabs] in
theorem s_q29z_s0 {ρ : Type} (n : Nat) (rec : T_q29z_s0.den → Option ρ) kx kr s : dStep Tryz.prog 26 TT M_q29z (O_q29z n) (L_q29z_s0 n) (evDraw Tryz.prog 26 TT M_q29z (O_q29z n)) 0 (lbody 1000 C_q29z 0) T_q29z_s0 X_q29z_s0 R_q29z_s0 ⟨[], [], []⟩ rec kx kr s = q29z_s0 n rec kx kr s := by kernel_rfl
noncomputable def L_q29z {ρ : Type} (n : Nat) : LOrc ρ := lorcCons 0 (loopL 26 0 n T_q29z_s0 X_q29z_s0 R_q29z_s0 ⟨[], [], []⟩ (q29z_s0 n)) (lorcNil)
omit [Tabs] [QuietD Tryz.prog] [UDef] [UTabs] in
theorem e_q29z (n : Nat) (x) : evF Tryz.prog 26 TT M_q29z F_q29z (O_q29z n) (L_q29z n) (evDraw Tryz.prog 26 TT M_q29z (O_q29z n)) ⟨[], [], []⟩ [.tmp 4] C_q29z x = q29z n x := by kernel_rfl
omit [UDef] [UTabs] in
theorem ok_q29z (n : Nat) : Contract Tryz.prog 57 F_q29z (q29z n) :=
  Contract.of_ev (c := C_q29z) (N := 26) Tryz.func57 (by kernel_rfl) (by kernel_rfl) (by kernel_rfl) (by kernel_rfl) (O_q29z_ok n) (evDraw_ok (O_q29z_ok n) (by kernel_rfl)) (.of (l := [(0, (lbody 1000 C_q29z 0))]) (by kernel_rfl) ⟨.head (loopL_sound (O_q29z_ok n) (evDraw_ok (O_q29z_ok n) (by kernel_rfl)) (.of (l := []) (by kernel_rfl) trivial) (s_q29z_s0 n)), trivial⟩) (e_q29z n)

noncomputable def F_q65z : FnT := ⟨2, ⟨[], [(0, (.lst .prp)), (1, (.lst .prp))], [], []⟩, [.v .bool], []⟩
noncomputable def F_q6z : FnT := ⟨3, ⟨[(2, .fn 115)], [(0, (.lst .prp)), (1, (.lst .prp))], [], []⟩, [.v .bool], []⟩
noncomputable def F_q58z : FnT := ⟨2, ⟨[], [(0, .prp), (1, .prp)], [], []⟩, [.v .bool], []⟩
noncomputable def F_q82z : FnT := ⟨2, ⟨[], [(0, .val), (1, .val)], [], []⟩, [.v .i64], []⟩
noncomputable def F_q54z : FnT := ⟨2, ⟨[], [(0, .str), (1, .str)], [], []⟩, [.v .i64], []⟩
noncomputable def F_q61z : FnT := ⟨1, ⟨[], [(0, .str)], [], []⟩, [.v .bool], []⟩
noncomputable def C_q61z : Code := bodyOf Tryz.f171
noncomputable def M_q61z : List (Nat × ArgM) := []
instance : DfOk M_q61z := .none rfl
noncomputable def O_q61z {ρ : Type} : Orc ρ := orcNil
omit [QuietD Tryz.prog] [UDef] [UTabs] in
theorem O_q61z_ok {ρ : Type} : (O_q61z : Orc ρ).ok Tryz.prog := orcNil_ok
noncomputable def L_q61z {ρ : Type} : LOrc ρ := lorcNil
omit [Tabs] [QuietD Tryz.prog] [UDef] [UTabs] in
theorem e_q61z (x) : evF Tryz.prog 6 TT M_q61z F_q61z (O_q61z) (L_q61z) dorcNil ⟨[], [], []⟩ [.tmp 2] C_q61z x = q61z x := by kernel_rfl
omit [UDef] [UTabs] in
theorem ok_q61z : Contract Tryz.prog 171 F_q61z (q61z) :=
  Contract.of_ev (c := C_q61z) (N := 6) Tryz.func171 (by kernel_rfl) (by kernel_rfl) (by kernel_rfl) (by kernel_rfl) (O_q61z_ok) dorcNil_ok (.of (l := []) (by kernel_rfl) trivial) (e_q61z)

noncomputable def C_q54z : Code := bodyOf Tryz.f150
noncomputable def M_q54z : List (Nat × ArgM) := [(171, ⟨[], [], [], true⟩)]
instance : DfOk M_q54z := .none rfl
noncomputable def O_q54z {ρ : Type} : Orc ρ := orcCons 171 F_q61z (q61z) (orcNil)
omit [UDef] [UTabs] in
theorem O_q54z_ok {ρ : Type} : (O_q54z : Orc ρ).ok Tryz.prog := orcCons_ok (by kernel_rfl) (ok_q61z) (orcNil_ok)
noncomputable def L_q54z {ρ : Type} : LOrc ρ := lorcNil
omit [Tabs] [QuietD Tryz.prog] [UDef] [UTabs] in
theorem e_q54z (x) : evF Tryz.prog 20 TT M_q54z F_q54z (O_q54z) (L_q54z) dorcNil ⟨[], [], []⟩ [.tmp 4] C_q54z x = q54z x := by kernel_rfl
omit [UDef] [UTabs] in
theorem ok_q54z : Contract Tryz.prog 150 F_q54z (q54z) :=
  Contract.of_ev (c := C_q54z) (N := 20) Tryz.func150 (by kernel_rfl) (by kernel_rfl) (by kernel_rfl) (by kernel_rfl) (O_q54z_ok) dorcNil_ok (.of (l := []) (by kernel_rfl) trivial) (e_q54z)

noncomputable def F_q5z : FnT := ⟨3, ⟨[(2, .fn 116)], [(0, (.lst .val)), (1, (.lst .val))], [], []⟩, [.v .i64], []⟩
noncomputable def C_q5z : Code := bodyOf Tryz.f151
noncomputable def M_q5z : List (Nat × ArgM) := [(116, ⟨[], [], [], true⟩)]
instance : DfOk M_q5z := .none rfl
noncomputable def O_q5z {ρ : Type} (self_q82z : Ev.Val × Ev.Val × Unit → Option (Int × Unit)) (n : Nat) : Orc ρ := orcCons 116 F_q82z (self_q82z) (orcNil)
omit [QuietD Tryz.prog] [UDef] [UTabs] in
theorem O_q5z_ok {ρ : Type} (self_q82z : Ev.Val × Ev.Val × Unit → Option (Int × Unit)) (h_q82z : Contract Tryz.prog 116 F_q82z self_q82z) (n : Nat) : (O_q5z self_q82z n : Orc ρ).ok Tryz.prog := orcCons_ok (by kernel_rfl) (h_q82z) (orcNil_ok)
noncomputable def T_q5z_s0 : Tm := ⟨[(2, .fn 116)], [(0, (.lst .val)), (1, (.lst .val)), (11, (.lst .val)), (12, .i64), (13, .i64)], [], []⟩
noncomputable def X_q5z_s0 : Tm := ⟨[], [(0, (.lst .val)), (1, (.lst .val))], [], []⟩
noncomputable def R_q5z_s0 : Tm := ⟨[], [(6, .i64)], [], []⟩
noncomputable def L_q5z_s0 {ρ : Type} (self_q82z : Ev.Val × Ev.Val × Unit → Option (Int × Unit)) (n : Nat) : LOrc ρ := lorcNil
omit [Tabs] [QuietD Tryz.prog] [UDef] [UTabs] in
theorem s_q5z_s0 {ρ : Type} (self_q82z : Ev.Val × Ev.Val × Unit → Option (Int × Unit)) (n : Nat) (rec : T_q5z_s0.den → Option ρ) kx kr s : dStep Tryz.prog 39 TT M_q5z (O_q5z self_q82z n) (L_q5z_s0 self_q82z n) dorcNil 0 (lbody 1000 C_q5z 0) T_q5z_s0 X_q5z_s0 R_q5z_s0 ⟨[], [], []⟩ rec kx kr s = q5z_s0 self_q82z n rec kx kr s := by kernel_rfl
noncomputable def L_q5z {ρ : Type} (self_q82z : Ev.Val × Ev.Val × Unit → Option (Int × Unit)) (n : Nat) : LOrc ρ := lorcCons 0 (loopL 39 0 n T_q5z_s0 X_q5z_s0 R_q5z_s0 ⟨[], [], []⟩ (q5z_s0 self_q82z n)) (lorcNil)
omit [Tabs] [QuietD Tryz.prog] [UDef] [UTabs] in
theorem e_q5z (self_q82z : Ev.Val × Ev.Val × Unit → Option (Int × Unit)) (n : Nat) (x) : evF Tryz.prog 39 TT M_q5z F_q5z (O_q5z self_q82z n) (L_q5z self_q82z n) dorcNil ⟨[], [], []⟩ [.tmp 6] C_q5z x = q5z self_q82z n x := by kernel_rfl
omit [UDef] [UTabs] in
theorem ok_q5z (self_q82z : Ev.Val × Ev.Val × Unit → Option (Int × Unit)) (h_q82z : Contract Tryz.prog 116 F_q82z self_q82z) (n : Nat) : Contract Tryz.prog 151 F_q5z (q5z self_q82z n) :=
  Contract.of_ev (c := C_q5z) (N := 39) Tryz.func151 (by kernel_rfl) (by kernel_rfl) (by kernel_rfl) (by kernel_rfl) (O_q5z_ok self_q82z h_q82z n) dorcNil_ok (.of (l := [(0, (lbody 1000 C_q5z 0))]) (by kernel_rfl) ⟨.head (loopL_sound (O_q5z_ok self_q82z h_q82z n) dorcNil_ok (.of (l := []) (by kernel_rfl) trivial) (s_q5z_s0 self_q82z n)), trivial⟩) (e_q5z self_q82z n)

noncomputable def F_q84z : FnT := ⟨1, ⟨[], [(0, (.lst .i64))], [], []⟩, [.v .i64], []⟩
noncomputable def C_q84z : Code := bodyOf Tryz.f149
noncomputable def M_q84z : List (Nat × ArgM) := []
instance : DfOk M_q84z := .none rfl
noncomputable def O_q84z {ρ : Type} (n : Nat) : Orc ρ := orcNil
omit [QuietD Tryz.prog] [UDef] [UTabs] in
theorem O_q84z_ok {ρ : Type} (n : Nat) : (O_q84z n : Orc ρ).ok Tryz.prog := orcNil_ok
noncomputable def T_q84z_s0 : Tm := ⟨[], [(3, .i64), (6, (.lst .i64)), (7, .i64), (8, .i64)], [], []⟩
noncomputable def X_q84z_s0 : Tm := ⟨[], [(3, .i64)], [], []⟩
noncomputable def R_q84z_s0 : Tm := ⟨[], [(2, .i64)], [], []⟩
noncomputable def L_q84z_s0 {ρ : Type} (n : Nat) : LOrc ρ := lorcNil
omit [Tabs] [QuietD Tryz.prog] [UDef] [UTabs] in
theorem s_q84z_s0 {ρ : Type} (n : Nat) (rec : T_q84z_s0.den → Option ρ) kx kr s : dStep Tryz.prog 18 TT M_q84z (O_q84z n) (L_q84z_s0 n) dorcNil 0 (lbody 1000 C_q84z 0) T_q84z_s0 X_q84z_s0 R_q84z_s0 ⟨[], [], []⟩ rec kx kr s = q84z_s0 n rec kx kr s := by kernel_rfl
noncomputable def L_q84z {ρ : Type} (n : Nat) : LOrc ρ := lorcCons 0 (loopL 18 0 n T_q84z_s0 X_q84z_s0 R_q84z_s0 ⟨[], [], []⟩ (q84z_s0 n)) (lorcNil)
omit [Tabs] [QuietD Tryz.prog] [UDef] [UTabs] in
theorem e_q84z (n : Nat) (x) : evF Tryz.prog 18 TT M_q84z F_q84z (O_q84z n) (L_q84z n) dorcNil ⟨[], [], []⟩ [.tmp 2] C_q84z x = q84z n x := by kernel_rfl
omit [UDef] [UTabs] in
theorem ok_q84z (n : Nat) : Contract Tryz.prog 149 F_q84z (q84z n) :=
  Contract.of_ev (c := C_q84z) (N := 18) Tryz.func149 (by kernel_rfl) (by kernel_rfl) (by kernel_rfl) (by kernel_rfl) (O_q84z_ok n) dorcNil_ok (.of (l := [(0, (lbody 1000 C_q84z 0))]) (by kernel_rfl) ⟨.head (loopL_sound (O_q84z_ok n) dorcNil_ok (.of (l := []) (by kernel_rfl) trivial) (s_q84z_s0 n)), trivial⟩) (e_q84z n)

noncomputable def C_q82z : Code := bodyOf Tryz.f116
noncomputable def M_q82z : List (Nat × ArgM) := [(84, ⟨[], [], [], true⟩), (150, ⟨[], [], [], true⟩), (151, ⟨[], [], [], true⟩), (149, ⟨[], [], [], true⟩)]
instance : DfOk M_q82z := .none rfl
noncomputable def O_q82z {ρ : Type} (self_q82z : Ev.Val × Ev.Val × Unit → Option (Int × Unit)) (n : Nat) : Orc ρ := orcCons 84 F_q62z (q62z) (orcCons 150 F_q54z (q54z) (orcCons 151 F_q5z (q5z self_q82z n) (orcCons 149 F_q84z (q84z n) (orcNil))))
omit [UDef] [UTabs] in
theorem O_q82z_ok {ρ : Type} (self_q82z : Ev.Val × Ev.Val × Unit → Option (Int × Unit)) (h_q82z : Contract Tryz.prog 116 F_q82z self_q82z) (n : Nat) : (O_q82z self_q82z n : Orc ρ).ok Tryz.prog := orcCons_ok (by kernel_rfl) (ok_q62z) (orcCons_ok (by kernel_rfl) (ok_q54z) (orcCons_ok (by kernel_rfl) (ok_q5z _ h_q82z n) (orcCons_ok (by kernel_rfl) (ok_q84z n) (orcNil_ok))))
noncomputable def L_q82z {ρ : Type} (self_q82z : Ev.Val × Ev.Val × Unit → Option (Int × Unit)) (n : Nat) : LOrc ρ := lorcNil
omit [Tabs] [QuietD Tryz.prog] [UDef] [UTabs] in
theorem e_q82z (self_q82z : Ev.Val × Ev.Val × Unit → Option (Int × Unit)) (n : Nat) (x) : evF Tryz.prog 31 TT M_q82z F_q82z (O_q82z self_q82z n) (L_q82z self_q82z n) (evDraw Tryz.prog 31 TT M_q82z (O_q82z self_q82z n)) ⟨[], [], []⟩ [.tmp 4] C_q82z x = q82z_b self_q82z n x := by kernel_rfl
omit [UDef] [UTabs] in
theorem okb_q82z (self_q82z : Ev.Val × Ev.Val × Unit → Option (Int × Unit)) (h_q82z : Contract Tryz.prog 116 F_q82z self_q82z) (n : Nat) : Contract Tryz.prog 116 F_q82z (q82z_b self_q82z n) :=
  Contract.of_ev (c := C_q82z) (N := 31) Tryz.func116 (by kernel_rfl) (by kernel_rfl) (by kernel_rfl) (by kernel_rfl) (O_q82z_ok self_q82z h_q82z n) (evDraw_ok (O_q82z_ok self_q82z h_q82z n) (by kernel_rfl)) (.of (l := []) (by kernel_rfl) trivial) (e_q82z self_q82z n)
omit [UDef] [UTabs] in
theorem ok_q82z : ∀ n, Contract Tryz.prog 116 F_q82z (q82z n)
  | 0 => fun _ _ h => by cases h
  | n + 1 => okb_q82z _ (ok_q82z n) n

noncomputable def C_q58z : Code := bodyOf Tryz.f115
noncomputable def M_q58z : List (Nat × ArgM) := [(116, ⟨[], [], [], true⟩)]
instance : DfOk M_q58z := .none rfl
noncomputable def O_q58z {ρ : Type} (n : Nat) : Orc ρ := orcCons 116 F_q82z (q82z n) (orcNil)
omit [UDef] [UTabs] in
theorem O_q58z_ok {ρ : Type} (n : Nat) : (O_q58z n : Orc ρ).ok Tryz.prog := orcCons_ok (by kernel_rfl) (ok_q82z n) (orcNil_ok)
noncomputable def L_q58z {ρ : Type} (n : Nat) : LOrc ρ := lorcNil
omit [Tabs] [QuietD Tryz.prog] [UDef] [UTabs] in
theorem e_q58z (n : Nat) (x) : evF Tryz.prog 18 TT M_q58z F_q58z (O_q58z n) (L_q58z n) dorcNil ⟨[], [], []⟩ [.tmp 4] C_q58z x = q58z n x := by kernel_rfl
omit [UDef] [UTabs] in
theorem ok_q58z (n : Nat) : Contract Tryz.prog 115 F_q58z (q58z n) :=
  Contract.of_ev (c := C_q58z) (N := 18) Tryz.func115 (by kernel_rfl) (by kernel_rfl) (by kernel_rfl) (by kernel_rfl) (O_q58z_ok n) dorcNil_ok (.of (l := []) (by kernel_rfl) trivial) (e_q58z n)

noncomputable def C_q6z : Code := bodyOf Tryz.f92
noncomputable def M_q6z : List (Nat × ArgM) := [(115, ⟨[], [], [], true⟩)]
instance : DfOk M_q6z := .none rfl
noncomputable def O_q6z {ρ : Type} (n : Nat) : Orc ρ := orcCons 115 F_q58z (q58z n) (orcNil)
omit [UDef] [UTabs] in
theorem O_q6z_ok {ρ : Type} (n : Nat) : (O_q6z n : Orc ρ).ok Tryz.prog := orcCons_ok (by kernel_rfl) (ok_q58z n) (orcNil_ok)
noncomputable def T_q6z_s0 : Tm := ⟨[(2, .fn 115)], [(1, (.lst .prp)), (15, (.lst .prp)), (16, .i64), (17, .i64)], [], []⟩
noncomputable def X_q6z_s0 : Tm := ⟨[], [], [], []⟩
noncomputable def R_q6z_s0 : Tm := ⟨[], [(6, .bool)], [], []⟩
noncomputable def L_q6z_s0 {ρ : Type} (n : Nat) : LOrc ρ := lorcNil
omit [Tabs] [QuietD Tryz.prog] [UDef] [UTabs] in
theorem s_q6z_s0 {ρ : Type} (n : Nat) (rec : T_q6z_s0.den → Option ρ) kx kr s : dStep Tryz.prog 32 TT M_q6z (O_q6z n) (L_q6z_s0 n) dorcNil 0 (lbody 1000 C_q6z 0) T_q6z_s0 X_q6z_s0 R_q6z_s0 ⟨[], [], []⟩ rec kx kr s = q6z_s0 n rec kx kr s := by kernel_rfl
noncomputable def L_q6z {ρ : Type} (n : Nat) : LOrc ρ := lorcCons 0 (loopL 32 0 n T_q6z_s0 X_q6z_s0 R_q6z_s0 ⟨[], [], []⟩ (q6z_s0 n)) (lorcNil)
omit [Tabs] [QuietD Tryz.prog] [UDef] [UTabs] in
theorem e_q6z (n : Nat) (x) : evF Tryz.prog 32 TT M_q6z F_q6z (O_q6z n) (L_q6z n) dorcNil ⟨[], [], []⟩ [.tmp 6] C_q6z x = q6z n x := by kernel_rfl
omit [UDef] [UTabs] in
theorem ok_q6z (n : Nat) : Contract Tryz.prog 92 F_q6z (q6z n) :=
  Contract.of_ev (c := C_q6z) (N := 32) Tryz.func92 (by kernel_rfl) (by kernel_rfl) (by kernel_rfl) (by kernel_rfl) (O_q6z_ok n) dorcNil_ok (.of (l := [(0, (lbody 1000 C_q6z 0))]) (by kernel_rfl) ⟨.head (loopL_sound (O_q6z_ok n) dorcNil_ok (.of (l := []) (by kernel_rfl) trivial) (s_q6z_s0 n)), trivial⟩) (e_q6z n)

noncomputable def C_q65z : Code := bodyOf Tryz.f70
noncomputable def M_q65z : List (Nat × ArgM) := [(92, ⟨[], [], [], true⟩)]
instance : DfOk M_q65z := .none rfl
noncomputable def O_q65z {ρ : Type} (n : Nat) : Orc ρ := orcCons 92 F_q6z (q6z n) (orcNil)
omit [UDef] [UTabs] in
theorem O_q65z_ok {ρ : Type} (n : Nat) : (O_q65z n : Orc ρ).ok Tryz.prog := orcCons_ok (by kernel_rfl) (ok_q6z n) (orcNil_ok)
noncomputable def L_q65z {ρ : Type} (n : Nat) : LOrc ρ := lorcNil
omit [Tabs] [QuietD Tryz.prog] [UDef] [UTabs] in
theorem e_q65z (n : Nat) (x) : evF Tryz.prog 8 TT M_q65z F_q65z (O_q65z n) (L_q65z n) dorcNil ⟨[], [], []⟩ [.tmp 4] C_q65z x = q65z n x := by kernel_rfl
omit [UDef] [UTabs] in
theorem ok_q65z (n : Nat) : Contract Tryz.prog 70 F_q65z (q65z n) :=
  Contract.of_ev (c := C_q65z) (N := 8) Tryz.func70 (by kernel_rfl) (by kernel_rfl) (by kernel_rfl) (by kernel_rfl) (O_q65z_ok n) dorcNil_ok (.of (l := []) (by kernel_rfl) trivial) (e_q65z n)

noncomputable def C_q70z : Code := bodyOf Tryz.f37
noncomputable def M_q70z : List (Nat × ArgM) := [(57, ⟨[], [], [], true⟩), (70, ⟨[], [], [], true⟩)]
instance : DfOk M_q70z := .none rfl
noncomputable def O_q70z {ρ : Type} (n : Nat) : Orc ρ := orcCons 57 F_q29z (q29z n) (orcCons 70 F_q65z (q65z n) (orcNil))
omit [UDef] [UTabs] in
theorem O_q70z_ok {ρ : Type} (n : Nat) : (O_q70z n : Orc ρ).ok Tryz.prog := orcCons_ok (by kernel_rfl) (ok_q29z n) (orcCons_ok (by kernel_rfl) (ok_q65z n) (orcNil_ok))
noncomputable def L_q70z {ρ : Type} (n : Nat) : LOrc ρ := lorcNil
omit [Tabs] [QuietD Tryz.prog] [UDef] [UTabs] in
theorem e_q70z (n : Nat) (x) : evF Tryz.prog 24 TT M_q70z F_q70z (O_q70z n) (L_q70z n) dorcNil ⟨[], [], []⟩ [.tmp 4] C_q70z x = q70z n x := by kernel_rfl
omit [UDef] [UTabs] in
theorem ok_q70z (n : Nat) : Contract Tryz.prog 37 F_q70z (q70z n) :=
  Contract.of_ev (c := C_q70z) (N := 24) Tryz.func37 (by kernel_rfl) (by kernel_rfl) (by kernel_rfl) (by kernel_rfl) (O_q70z_ok n) dorcNil_ok (.of (l := []) (by kernel_rfl) trivial) (e_q70z n)

noncomputable def C_q39z : Code := bodyOf Tryz.f69
noncomputable def M_q39z : List (Nat × ArgM) := [(37, ⟨[], [], [], true⟩)]
instance : DfOk M_q39z := .none rfl
noncomputable def O_q39z {ρ : Type} (n : Nat) : Orc ρ := orcCons 37 F_q70z (q70z n) (orcNil)
omit [UDef] [UTabs] in
theorem O_q39z_ok {ρ : Type} (n : Nat) : (O_q39z n : Orc ρ).ok Tryz.prog := orcCons_ok (by kernel_rfl) (ok_q70z n) (orcNil_ok)
noncomputable def L_q39z {ρ : Type} (n : Nat) : LOrc ρ := lorcNil
omit [Tabs] [QuietD Tryz.prog] [UDef] [UTabs] in
theorem e_q39z (n : Nat) (x) : evF Tryz.prog 9 TT M_q39z F_q39z (O_q39z n) (L_q39z n) dorcNil ⟨[], [], []⟩ [.tmp 4] C_q39z x = q39z n x := by kernel_rfl
omit [UDef] [UTabs] in
theorem ok_q39z (n : Nat) : Contract Tryz.prog 69 F_q39z (q39z n) :=
  Contract.of_ev (c := C_q39z) (N := 9) Tryz.func69 (by kernel_rfl) (by kernel_rfl) (by kernel_rfl) (by kernel_rfl) (O_q39z_ok n) dorcNil_ok (.of (l := []) (by kernel_rfl) trivial) (e_q39z n)

noncomputable def C_q16z : Code := bodyOf Tryz.f22
noncomputable def M_q16z : List (Nat × ArgM) := [(69, ⟨[1, 2], [], [], false⟩)]
instance : DfOk M_q16z := .none rfl
noncomputable def O_q16z {ρ : Type} (n : Nat) : Orc ρ := orcCons 69 F_q39z (q39z n) (orcNil)
omit [UDef] [UTabs] in
theorem O_q16z_ok {ρ : Type} (n : Nat) : (O_q16z n : Orc ρ).ok Tryz.prog := orcCons_ok (by kernel_rfl) (ok_q39z n) (orcNil_ok)
noncomputable def T_q16z_s0 : Tm := ⟨[(1, .clo 69 [1000000, 1000001])], [(0, (.lst .node)), (7, .i64), (8, .i64)], [(1000000, .box [.ref (.fn 37)]), (1000001, .box [.d .node])], []⟩
noncomputable def X_q16z_s0 : Tm := ⟨[], [], [(1000000, .box [.ref (.fn 37)]), (1000001, .box [.d .node])], []⟩
noncomputable def R_q16z_s0 : Tm := ⟨[], [(4, .i64)], [(1000000, .box [.ref (.fn 37)]), (1000001, .box [.d .node])], []⟩
noncomputable def L_q16z_s0 {ρ : Type} (n : Nat) : LOrc ρ := lorcNil
omit [Tabs] [QuietD Tryz.prog] [UDef] [UTabs] in
theorem s_q16z_s0 {ρ : Type} (n : Nat) (rec : T_q16z_s0.den → Option ρ) kx kr s : dStep Tryz.prog 19 TT M_q16z (O_q16z n) (L_q16z_s0 n) dorcNil 0 (lbody 1000 C_q16z 0) T_q16z_s0 X_q16z_s0 R_q16z_s0 ⟨[], [], []⟩ rec kx kr s = q16z_s0 n rec kx kr s := by kernel_rfl
noncomputable def L_q16z {ρ : Type} (n : Nat) : LOrc ρ := lorcCons 0 (loopL 19 0 n T_q16z_s0 X_q16z_s0 R_q16z_s0 ⟨[], [], []⟩ (q16z_s0 n)) (lorcNil)
omit [Tabs] [QuietD Tryz.prog] [UDef] [UTabs] in
theorem e_q16z (n : Nat) (x) : evF Tryz.prog 19 TT M_q16z F_q16z (O_q16z n) (L_q16z n) dorcNil ⟨[], [], []⟩ [.tmp 4] C_q16z x = q16z n x := by kernel_rfl
omit [UDef] [UTabs] in
theorem ok_q16z (n : Nat) : Contract Tryz.prog 22 F_q16z (q16z n) :=
  Contract.of_ev (c := C_q16z) (N := 19) Tryz.func22 (by kernel_rfl) (by kernel_rfl) (by kernel_rfl) (by kernel_rfl) (O_q16z_ok n) dorcNil_ok (.of (l := [(0, (lbody 1000 C_q16z 0))]) (by kernel_rfl) ⟨.head (loopL_sound (O_q16z_ok n) dorcNil_ok (.of (l := []) (by kernel_rfl) trivial) (s_q16z_s0 n)), trivial⟩) (e_q16z n)

noncomputable def C_q12z : Code := bodyOf Tryz.f55
noncomputable def M_q12z : List (Nat × ArgM) := [(22, ⟨[1], [], [], false⟩)]
instance : DfOk M_q12z := .none rfl
noncomputable def O_q12z {ρ : Type} (n : Nat) : Orc ρ := orcCons 22 F_q16z (q16z n) (orcNil)
omit [UDef] [UTabs] in
theorem O_q12z_ok {ρ : Type} (n : Nat) : (O_q12z n : Orc ρ).ok Tryz.prog := orcCons_ok (by kernel_rfl) (ok_q16z n) (orcNil_ok)
noncomputable def L_q12z {ρ : Type} (n : Nat) : LOrc ρ := lorcNil
omit [Tabs] [QuietD Tryz.prog] [UDef] [UTabs] in
theorem e_q12z (n : Nat) (x) : evF Tryz.prog 9 TT M_q12z F_q12z (O_q12z n) (L_q12z n) dorcNil ⟨[], [], []⟩ [.tmp 4] C_q12z x = q12z n x := by kernel_rfl
omit [UDef] [UTabs] in
theorem ok_q12z (n : Nat) : Contract Tryz.prog 55 F_q12z (q12z n) :=
  Contract.of_ev (c := C_q12z) (N := 9) Tryz.func55 (by kernel_rfl) (by kernel_rfl) (by kernel_rfl) (by kernel_rfl) (O_q12z_ok n) dorcNil_ok (.of (l := []) (by kernel_rfl) trivial) (e_q12z n)

noncomputable def F_q67z : FnT := ⟨1, ⟨[], [(0, .node)], [], []⟩, [.v .node], []⟩
noncomputable def F_q28z : FnT := ⟨1, ⟨[], [(0, (.lst .str))], [], []⟩, [.v (.lst .str)], []⟩
noncomputable def C_q28z : Code := bodyOf Tryz.f71
noncomputable def M_q28z : List (Nat × ArgM) := []
instance : DfOk M_q28z := .none rfl
noncomputable def O_q28z {ρ : Type} : Orc ρ := orcNil
omit [QuietD Tryz.prog] [UDef] [UTabs] in
theorem O_q28z_ok {ρ : Type} : (O_q28z : Orc ρ).ok Tryz.prog := orcNil_ok
noncomputable def L_q28z {ρ : Type} : LOrc ρ := lorcNil
omit [Tabs] [QuietD Tryz.prog] [UDef] [UTabs] in
theorem e_q28z (x) : evF Tryz.prog 8 TT M_q28z F_q28z (O_q28z) (L_q28z) dorcNil ⟨[], [], []⟩ [.tmp 2] C_q28z x = q28z x := by kernel_rfl
omit [UDef] [UTabs] in
theorem ok_q28z : Contract Tryz.prog 71 F_q28z (q28z) :=
  Contract.of_ev (c := C_q28z) (N := 8) Tryz.func71 (by kernel_rfl) (by kernel_rfl) (by kernel_rfl) (by kernel_rfl) (O_q28z_ok) dorcNil_ok (.of (l := []) (by kernel_rfl) trivial) (e_q28z)

noncomputable def F_q64z : FnT := ⟨1, ⟨[], [(0, (.lst .prp))], [], []⟩, [.v (.lst .prp)], []⟩
noncomputable def F_q90z : FnT := ⟨1, ⟨[], [(0, .val)], [], []⟩, [.v .val], []⟩
noncomputable def C_q90z : Code := bodyOf Tryz.f117
noncomputable def M_q90z : List (Nat × ArgM) := []
instance : DfOk M_q90z := .none rfl
noncomputable def O_q90z {ρ : Type} (self_q90z : Ev.Val × Unit → Option (Ev.Val × Unit)) (n : Nat) : Orc ρ := orcCons 117 F_q90z (self_q90z) (orcNil)
omit [QuietD Tryz.prog] [UDef] [UTabs] in
theorem O_q90z_ok {ρ : Type} (self_q90z : Ev.Val × Unit → Option (Ev.Val × Unit)) (h_q90z : Contract Tryz.prog 117 F_q90z self_q90z) (n : Nat) : (O_q90z self_q90z n : Orc ρ).ok Tryz.prog := orcCons_ok (by kernel_rfl) (h_q90z) (orcNil_ok)
noncomputable def T_q90z_s0 : Tm := ⟨[(1, .ptr 1 0), (2, .ptr 2 0)], [(9, (.lst .val)), (10, .i64), (11, .i64)], [(1, .box [.d .i64, .d .i64, .d .str, .ref (.own 300043)]), (2, .box [.d .val]), (300043, .arr 79 .val)], []⟩
noncomputable def X_q90z_s0 : Tm := ⟨[(1, .ptr 1 0), (2, .ptr 2 0)], [], [(1, .box [.d .i64, .d .i64, .d .str, .ref (.own 300043)]), (2, .box [.d .val]), (300043, .arr 79 .val)], []⟩
noncomputable def R_q90z_s0 : Tm := ⟨[], [], [], []⟩
noncomputable def L_q90z_s0 {ρ : Type} (self_q90z : Ev.Val × Unit → Option (Ev.Val × Unit)) (n : Nat) : LOrc ρ := lorcNil
omit [Tabs] [QuietD Tryz.prog] [UDef] [UTabs] in
theorem s_q90z_s0 {ρ : Type} (self_q90z : Ev.Val × Unit → Option (Ev.Val × Unit)) (n : Nat) (rec : T_q90z_s0.den → Option ρ) kx kr s : dStep Tryz.prog 24 TT M_q90z (O_q90z self_q90z n) (L_q90z_s0 self_q90z n) (evDraw Tryz.prog 24 TT M_q90z (O_q90z self_q90z n)) 0 (lbody 1000 C_q90z 0) T_q90z_s0 X_q90z_s0 R_q90z_s0 ⟨[], [], [(1, 3, 300043, 79, 4)]⟩ rec kx kr s = q90z_s0 self_q90z n rec kx kr s := by kernel_rfl
noncomputable def L_q90z {ρ : Type} (self_q90z : Ev.Val × Unit → Option (Ev.Val × Unit)) (n : Nat) : LOrc ρ := lorcCons 0 (loopL 24 0 n T_q90z_s0 X_q90z_s0 R_q90z_s0 ⟨[], [], [(1, 3, 300043, 79, 4)]⟩ (q90z_s0 self_q90z n)) (lorcNil)
omit [Tabs] [QuietD Tryz.prog] [UDef] [UTabs] in
theorem e_q90z (self_q90z : Ev.Val × Unit → Option (Ev.Val × Unit)) (n : Nat) (x) : evF Tryz.prog 24 TT M_q90z F_q90z (O_q90z self_q90z n) (L_q90z self_q90z n) (evDraw Tryz.prog 24 TT M_q90z (O_q90z self_q90z n)) ⟨[], [], []⟩ [.cell 2 79] C_q90z x = q90z_b self_q90z n x := by kernel_rfl
omit [UDef] [UTabs] in
theorem okb_q90z (self_q90z : Ev.Val × Unit → Option (Ev.Val × Unit)) (h_q90z : Contract Tryz.prog 117 F_q90z self_q90z) (n : Nat) : Contract Tryz.prog 117 F_q90z (q90z_b self_q90z n) :=
  Contract.of_ev (c := C_q90z) (N := 24) Tryz.func117 (by kernel_rfl) (by kernel_rfl) (by kernel_rfl) (by kernel_rfl) (O_q90z_ok self_q90z h_q90z n) (evDraw_ok (O_q90z_ok self_q90z h_q90z n) (by kernel_rfl)) (.of (l := [(0, (lbody 1000 C_q90z 0))]) (by kernel_rfl) ⟨.head (loopL_sound (O_q90z_ok self_q90z h_q90z n) (evDraw_ok (O_q90z_ok self_q90z h_q90z n) (by kernel_rfl)) (.of (l := []) (by kernel_rfl) trivial) (s_q90z_s0 self_q90z n)), trivial⟩) (e_q90z self_q90z n)
omit [UDef] [UTabs] in
theorem ok_q90z : ∀ n, Contract Tryz.prog 117 F_q90z (q90z n)
  | 0 => fun _ _ h => by cases h
  | n + 1 => okb_q90z _ (ok_q90z n) n

noncomputable def C_q64z : Code := bodyOf Tryz.f72
noncomputable def M_q64z : List (Nat × ArgM) := []
instance : DfOk M_q64z := .none rfl
noncomputable def O_q64z {ρ : Type} (n : Nat) : Orc ρ := orcCons 117 F_q90z (q90z n) (orcNil)
omit [UDef] [UTabs] in
theorem O_q64z_ok {ρ : Type} (n : Nat) : (O_q64z n : Orc ρ).ok Tryz.prog := orcCons_ok (by kernel_rfl) (ok_q90z n) (orcNil_ok)
noncomputable def T_q64z_s0 : Tm := ⟨[(3, .own 3)], [(6, (.lst .prp)), (7, .i64), (8, .i64)], [(3, .arr 120 .prp)], []⟩
noncomputable def X_q64z_s0 : Tm := ⟨[(3, .own 3)], [], [(3, .arr 120 .prp)], []⟩
noncomputable def R_q64z_s0 : Tm := ⟨[], [], [], []⟩
noncomputable def L_q64z_s0 {ρ : Type} (n : Nat) : LOrc ρ := lorcNil
omit [Tabs] [QuietD Tryz.prog] [UDef] [UTabs] in
theorem s_q64z_s0 {ρ : Type} (n : Nat) (rec : T_q64z_s0.den → Option ρ) kx kr s : dStep Tryz.prog 22 TT M_q64z (O_q64z n) (L_q64z_s0 n) dorcNil 0 (lbody 1000 C_q64z 0) T_q64z_s0 X_q64z_s0 R_q64z_s0 ⟨[], [(3, 3, 120, 5)], []⟩ rec kx kr s = q64z_s0 n rec kx kr s := by kernel_rfl
noncomputable def L_q64z {ρ : Type} (n : Nat) : LOrc ρ := lorcCons 0 (loopL 22 0 n T_q64z_s0 X_q64z_s0 R_q64z_s0 ⟨[], [(3, 3, 120, 5)], []⟩ (q64z_s0 n)) (lorcNil)
omit [Tabs] [QuietD Tryz.prog] [UDef] [UTabs] in
theorem e_q64z (n : Nat) (x) : evF Tryz.prog 22 TT M_q64z F_q64z (O_q64z n) (L_q64z n) dorcNil ⟨[], [], []⟩ [.tmp 2] C_q64z x = q64z n x := by kernel_rfl
omit [UDef] [UTabs] in
theorem ok_q64z (n : Nat) : Contract Tryz.prog 72 F_q64z (q64z n) :=
  Contract.of_ev (c := C_q64z) (N := 22) Tryz.func72 (by kernel_rfl) (by kernel_rfl) (by kernel_rfl) (by kernel_rfl) (O_q64z_ok n) dorcNil_ok (.of (l := [(0, (lbody 1000 C_q64z 0))]) (by kernel_rfl) ⟨.head (loopL_sound (O_q64z_ok n) dorcNil_ok (.of (l := []) (by kernel_rfl) trivial) (s_q64z_s0 n)), trivial⟩) (e_q64z n)

noncomputable def C_q67z : Code := bodyOf Tryz.f38
noncomputable def M_q67z : List (Nat × ArgM) := []
instance : DfOk M_q67z := .none rfl
noncomputable def O_q67z {ρ : Type} (n : Nat) : Orc ρ := orcCons 71 F_q28z (q28z) (orcCons 72 F_q64z (q64z n) (orcNil))
omit [UDef] [UTabs] in
theorem O_q67z_ok {ρ : Type} (n : Nat) : (O_q67z n : Orc ρ).ok Tryz.prog := orcCons_ok (by kernel_rfl) (ok_q28z) (orcCons_ok (by kernel_rfl) (ok_q64z n) (orcNil_ok))
noncomputable def L_q67z {ρ : Type} (n : Nat) : LOrc ρ := lorcNil
omit [Tabs] [QuietD Tryz.prog] [UDef] [UTabs] in
theorem e_q67z (n : Nat) (x) : evF Tryz.prog 12 TT M_q67z F_q67z (O_q67z n) (L_q67z n) dorcNil ⟨[], [], []⟩ [.cell 2 43] C_q67z x = q67z n x := by kernel_rfl
omit [UDef] [UTabs] in
theorem ok_q67z (n : Nat) : Contract Tryz.prog 38 F_q67z (q67z n) :=
  Contract.of_ev (c := C_q67z) (N := 12) Tryz.func38 (by kernel_rfl) (by kernel_rfl) (by kernel_rfl) (by kernel_rfl) (O_q67z_ok n) dorcNil_ok (.of (l := []) (by kernel_rfl) trivial) (e_q67z n)

noncomputable def C_q19z : Code := bodyOf Tryz.f36
noncomputable def M_q19z : List (Nat × ArgM) := [(55, ⟨[1], [], [], false⟩)]
instance : DfOk M_q19z := .none rfl
noncomputable def O_q19z {ρ : Type} (n : Nat) : Orc ρ := orcCons 55 F_q12z (q12z n) (orcCons 38 F_q67z (q67z n) (orcNil))
omit [UDef] [UTabs] in
theorem O_q19z_ok {ρ : Type} (n : Nat) : (O_q19z n : Orc ρ).ok Tryz.prog := orcCons_ok (by kernel_rfl) (ok_q12z n) (orcCons_ok (by kernel_rfl) (ok_q67z n) (orcNil_ok))
noncomputable def T_q19z_s0 : Tm := ⟨[(3, .fn 38), (6, .ptr 6 0), (9, .own 9)], [(1, (.lst .node)), (12, (.lst .node)), (13, .i64), (14, .i64)], [(6, .box [.ref (.fn 37)]), (9, .arr 43 .node)], []⟩
noncomputable def X_q19z_s0 : Tm := ⟨[(9, .own 9)], [], [(9, .arr 43 .node)], []⟩
noncomputable def R_q19z_s0 : Tm := ⟨[], [], [], []⟩
noncomputable def L_q19z_s0 {ρ : Type} (n : Nat) : LOrc ρ := lorcNil
omit [Tabs] [QuietD Tryz.prog] [UDef] [UTabs] in
theorem s_q19z_s0 {ρ : Type} (n : Nat) (rec : T_q19z_s0.den → Option ρ) kx kr s : dStep Tryz.prog 30 TT M_q19z (O_q19z n) (L_q19z_s0 n) dorcNil 0 (lbody 1000 C_q19z 0) T_q19z_s0 X_q19z_s0 R_q19z_s0 ⟨[], [(9, 9, 43, 3)], []⟩ rec kx kr s = q19z_s0 n rec kx kr s := by kernel_rfl
noncomputable def L_q19z {ρ : Type} (n : Nat) : LOrc ρ := lorcCons 0 (loopL 30 0 n T_q19z_s0 X_q19z_s0 R_q19z_s0 ⟨[], [(9, 9, 43, 3)], []⟩ (q19z_s0 n)) (lorcNil)
omit [Tabs] [QuietD Tryz.prog] [UDef] [UTabs] in
theorem e_q19z (n : Nat) (x) : evF Tryz.prog 30 TT M_q19z F_q19z (O_q19z n) (L_q19z n) dorcNil ⟨[], [], []⟩ [.tmp 8] C_q19z x = q19z n x := by kernel_rfl
omit [UDef] [UTabs] in
theorem ok_q19z (n : Nat) : Contract Tryz.prog 36 F_q19z (q19z n) :=
  Contract.of_ev (c := C_q19z) (N := 30) Tryz.func36 (by kernel_rfl) (by kernel_rfl) (by kernel_rfl) (by kernel_rfl) (O_q19z_ok n) dorcNil_ok (.of (l := [(0, (lbody 1000 C_q19z 0))]) (by kernel_rfl) ⟨.head (loopL_sound (O_q19z_ok n) dorcNil_ok (.of (l := []) (by kernel_rfl) trivial) (s_q19z_s0 n)), trivial⟩) (e_q19z n)

noncomputable def F_q18z : FnT := ⟨4, ⟨[(2, .fn 40), (3, .fn 41)], [(0, (.lst .edg)), (1, (.lst .edg))], [], []⟩, [.v (.lst .edg)], []⟩
noncomputable def F_q11z : FnT := ⟨2, ⟨[(1, .clo 73 [1000000, 1000001])], [(0, (.lst .edg))], [(1000000, .box [.ref (.fn 40)]), (1000001, .box [.d .edg])], []⟩, [.v .bool], [(1000000, .box [.ref (.fn 40)]), (1000001, .box [.d .edg])]⟩
noncomputable def F_q15z : FnT := ⟨2, ⟨[(1, .clo 73 [1000000, 1000001])], [(0, (.lst .edg))], [(1000000, .box [.ref (.fn 40)]), (1000001, .box [.d .edg])], []⟩, [.v .i64], [(1000000, .box [.ref (.fn 40)]), (1000001, .box [.d .edg])]⟩
noncomputable def F_q38z : FnT := ⟨3, ⟨[(1, .ptr 1000000 0), (2, .ptr 1000016 0)], [(0, .edg)], [(1000000, .box [.ref (.fn 40)]), (1000016, .box [.d .edg])], []⟩, [.v .bool], [(1000000, .box [.ref (.fn 40)]), (1000016, .box [.d .edg])]⟩
noncomputable def F_q69z : FnT := ⟨2, ⟨[], [(0, .edg), (1, .edg)], [], []⟩, [.v .bool], []⟩
noncomputable def C_q69z : Code := bodyOf Tryz.f40
noncomputable def M_q69z : List (Nat × ArgM) := [(70, ⟨[], [], [], true⟩)]
instance : DfOk M_q69z := .none rfl
noncomputable def O_q69z {ρ : Type} (n : Nat) : Orc ρ := orcCons 70 F_q65z (q65z n) (orcNil)
omit [UDef] [UTabs] in
theorem O_q69z_ok {ρ : Type} (n : Nat) : (O_q69z n : Orc ρ).ok Tryz.prog := orcCons_ok (by kernel_rfl) (ok_q65z n) (orcNil_ok)
noncomputable def L_q69z {ρ : Type} (n : Nat) : LOrc ρ := lorcNil
omit [Tabs] [QuietD Tryz.prog] [UDef] [UTabs] in
theorem e_q69z (n : Nat) (x) : evF Tryz.prog 38 TT M_q69z F_q69z (O_q69z n) (L_q69z n) dorcNil ⟨[], [], []⟩ [.tmp 4] C_q69z x = q69z n x := by kernel_rfl
omit [UDef] [UTabs] in
theorem ok_q69z (n : Nat) : Contract Tryz.prog 40 F_q69z (q69z n) :=
  Contract.of_ev (c := C_q69z) (N := 38) Tryz.func40 (by kernel_rfl) (by kernel_rfl) (by kernel_rfl) (by kernel_rfl) (O_q69z_ok n) dorcNil_ok (.of (l := []) (by kernel_rfl) trivial) (e_q69z n)

noncomputable def C_q38z : Code := bodyOf Tryz.f73
noncomputable def M_q38z : List (Nat × ArgM) := [(40, ⟨[], [], [], true⟩)]
instance : DfOk M_q38z := .none rfl
noncomputable def O_q38z {ρ : Type} (n : Nat) : Orc ρ := orcCons 40 F_q69z (q69z n) (orcNil)
omit [UDef] [UTabs] in
theorem O_q38z_ok {ρ : Type} (n : Nat) : (O_q38z n : Orc ρ).ok Tryz.prog := orcCons_ok (by kernel_rfl) (ok_q69z n) (orcNil_ok)
noncomputable def L_q38z {ρ : Type} (n : Nat) : LOrc ρ := lorcNil
omit [Tabs] [QuietD Tryz.prog] [UDef] [UTabs] in
theorem e_q38z (n : Nat) (x) : evF Tryz.prog 9 TT M_q38z F_q38z (O_q38z n) (L_q38z n) dorcNil ⟨[], [], []⟩ [.tmp 4] C_q38z x = q38z n x := by kernel_rfl
omit [UDef] [UTabs] in
theorem ok_q38z (n : Nat) : Contract Tryz.prog 73 F_q38z (q38z n) :=
  Contract.of_ev (c := C_q38z) (N := 9) Tryz.func73 (by kernel_rfl) (by kernel_rfl) (by kernel_rfl) (by kernel_rfl) (O_q38z_ok n) dorcNil_ok (.of (l := []) (by kernel_rfl) trivial) (e_q38z n)

noncomputable def C_q15z : Code := bodyOf Tryz.f26
noncomputable def M_q15z : List (Nat × ArgM) := [(73, ⟨[1, 2], [], [], false⟩)]
instance : DfOk M_q15z := .none rfl
noncomputable def O_q15z {ρ : Type} (n : Nat) : Orc ρ := orcCons 73 F_q38z (q38z n) (orcNil)
omit [UDef] [UTabs] in
theorem O_q15z_ok {ρ : Type} (n : Nat) : (O_q15z n : Orc ρ).ok Tryz.prog := orcCons_ok (by kernel_rfl) (ok_q38z n) (orcNil_ok)
noncomputable def T_q15z_s0 : Tm := ⟨[(1, .clo 73 [1000000, 1000001])], [(0, (.lst .edg)), (7, .i64), (8, .i64)], [(1000000, .box [.ref (.fn 40)]), (1000001, .box [.d .edg])], []⟩
noncomputable def X_q15z_s0 : Tm := ⟨[], [], [(1000000, .box [.ref (.fn 40)]), (1000001, .box [.d .edg])], []⟩
noncomputable def R_q15z_s0 : Tm := ⟨[], [(4, .i64)], [(1000000, .box [.ref (.fn 40)]), (1000001, .box [.d .edg])], []⟩
noncomputable def L_q15z_s0 {ρ : Type} (n : Nat) : LOrc ρ := lorcNil
omit [Tabs] [QuietD Tryz.prog] [UDef] [UTabs] in
theorem s_q15z_s0 {ρ : Type} (n : Nat) (rec : T_q15z_s0.den → Option ρ) kx kr s : dStep Tryz.prog 19 TT M_q15z (O_q15z n) (L_q15z_s0 n) dorcNil 0 (lbody 1000 C_q15z 0) T_q15z_s0 X_q15z_s0 R_q15z_s0 ⟨[], [], []⟩ rec kx kr s = q15z_s0 n rec kx kr s := by kernel_rfl
noncomputable def L_q15z {ρ : Type} (n : Nat) : LOrc ρ := lorcCons 0 (loopL 19 0 n T_q15z_s0 X_q15z_s0 R_q15z_s0 ⟨[], [], []⟩ (q15z_s0 n)) (lorcNil)
omit [Tabs] [QuietD Tryz.prog] [UDef] [UTabs] in
theorem e_q15z (n : Nat) (x) : evF Tryz.prog 19 TT M_q15z F_q15z (O_q15z n) (L_q15z n) dorcNil ⟨[], [], []⟩ [.tmp 4] C_q15z x = q15z n x := by kernel_rfl
omit [UDef] [UTabs] in
theorem ok_q15z (n : Nat) : Contract Tryz.prog 26 F_q15z (q15z n) :=
  Contract.of_ev (c := C_q15z) (N := 19) Tryz.func26 (by kernel_rfl) (by kernel_rfl) (by kernel_rfl) (by kernel_rfl) (O_q15z_ok n) dorcNil_ok (.of (l := [(0, (lbody 1000 C_q15z 0))]) (by kernel_rfl) ⟨.head (loopL_sound (O_q15z_ok n) dorcNil_ok (.of (l := []) (by kernel_rfl) trivial) (s_q15z_s0 n)), trivial⟩) (e_q15z n)

noncomputable def C_q11z : Code := bodyOf Tryz.f59
noncomputable def M_q11z : List (Nat × ArgM) := [(26, ⟨[1], [], [], false⟩)]
instance : DfOk M_q11z := .none rfl
noncomputable def O_q11z {ρ : Type} (n : Nat) : Orc ρ := orcCons 26 F_q15z (q15z n) (orcNil)
omit [UDef] [UTabs] in
theorem O_q11z_ok {ρ : Type} (n : Nat) : (O_q11z n : Orc ρ).ok Tryz.prog := orcCons_ok (by kernel_rfl) (ok_q15z n) (orcNil_ok)
noncomputable def L_q11z {ρ : Type} (n : Nat) : LOrc ρ := lorcNil
omit [Tabs] [QuietD Tryz.prog] [UDef] [UTabs] in
theorem e_q11z (n : Nat) (x) : evF Tryz.prog 9 TT M_q11z F_q11z (O_q11z n) (L_q11z n) dorcNil ⟨[], [], []⟩ [.tmp 4] C_q11z x = q11z n x := by kernel_rfl
omit [UDef] [UTabs] in
theorem ok_q11z (n : Nat) : Contract Tryz.prog 59 F_q11z (q11z n) :=
  Contract.of_ev (c := C_q11z) (N := 9) Tryz.func59 (by kernel_rfl) (by kernel_rfl) (by kernel_rfl) (by kernel_rfl) (O_q11z_ok n) dorcNil_ok (.of (l := []) (by kernel_rfl) trivial) (e_q11z n)

noncomputable def F_q66z : FnT := ⟨1, ⟨[], [(0, .edg)], [], []⟩, [.v .edg], []⟩
noncomputable def C_q66z : Code := bodyOf Tryz.f41
noncomputable def M_q66z : List (Nat × ArgM) := []
instance : DfOk M_q66z := .none rfl
noncomputable def O_q66z {ρ : Type} (n : Nat) : Orc ρ := orcCons 72 F_q64z (q64z n) (orcNil)
omit [UDef] [UTabs] in
theorem O_q66z_ok {ρ : Type} (n : Nat) : (O_q66z n : Orc ρ).ok Tryz.prog := orcCons_ok (by kernel_rfl) (ok_q64z n) (orcNil_ok)
noncomputable def L_q66z {ρ : Type} (n : Nat) : LOrc ρ := lorcNil
omit [Tabs] [QuietD Tryz.prog] [UDef] [UTabs] in
theorem e_q66z (n : Nat) (x) : evF Tryz.prog 8 TT M_q66z F_q66z (O_q66z n) (L_q66z n) dorcNil ⟨[], [], []⟩ [.cell 2 47] C_q66z x = q66z n x := by kernel_rfl
omit [UDef] [UTabs] in
theorem ok_q66z (n : Nat) : Contract Tryz.prog 41 F_q66z (q66z n) :=
  Contract.of_ev (c := C_q66z) (N := 8) Tryz.func41 (by kernel_rfl) (by kernel_rfl) (by kernel_rfl) (by kernel_rfl) (O_q66z_ok n) dorcNil_ok (.of (l := []) (by kernel_rfl) trivial) (e_q66z n)

noncomputable def C_q18z : Code := bodyOf Tryz.f39
noncomputable def M_q18z : List (Nat × ArgM) := [(59, ⟨[1], [], [], false⟩)]
instance : DfOk M_q18z := .none rfl
noncomputable def O_q18z {ρ : Type} (n : Nat) : Orc ρ := orcCons 59 F_q11z (q11z n) (orcCons 41 F_q66z (q66z n) (orcNil))
omit [UDef] [UTabs] in
theorem O_q18z_ok {ρ : Type} (n : Nat) : (O_q18z n : Orc ρ).ok Tryz.prog := orcCons_ok (by kernel_rfl) (ok_q11z n) (orcCons_ok (by kernel_rfl) (ok_q66z n) (orcNil_ok))
noncomputable def T_q18z_s0 : Tm := ⟨[(3, .fn 41), (6, .ptr 6 0), (9, .own 9)], [(1, (.lst .edg)), (12, (.lst .edg)), (13, .i64), (14, .i64)], [(6, .box [.ref (.fn 40)]), (9, .arr 47 .edg)], []⟩
noncomputable def X_q18z_s0 : Tm := ⟨[(9, .own 9)], [], [(9, .arr 47 .edg)], []⟩
noncomputable def R_q18z_s0 : Tm := ⟨[], [], [], []⟩
noncomputable def L_q18z_s0 {ρ : Type} (n : Nat) : LOrc ρ := lorcNil
omit [Tabs] [QuietD Tryz.prog] [UDef] [UTabs] in
theorem s_q18z_s0 {ρ : Type} (n : Nat) (rec : T_q18z_s0.den → Option ρ) kx kr s : dStep Tryz.prog 30 TT M_q18z (O_q18z n) (L_q18z_s0 n) dorcNil 0 (lbody 1000 C_q18z 0) T_q18z_s0 X_q18z_s0 R_q18z_s0 ⟨[], [(9, 9, 47, 5)], []⟩ rec kx kr s = q18z_s0 n rec kx kr s := by kernel_rfl
noncomputable def L_q18z {ρ : Type} (n : Nat) : LOrc ρ := lorcCons 0 (loopL 30 0 n T_q18z_s0 X_q18z_s0 R_q18z_s0 ⟨[], [(9, 9, 47, 5)], []⟩ (q18z_s0 n)) (lorcNil)
omit [Tabs] [QuietD Tryz.prog] [UDef] [UTabs] in
theorem e_q18z (n : Nat) (x) : evF Tryz.prog 30 TT M_q18z F_q18z (O_q18z n) (L_q18z n) dorcNil ⟨[], [], []⟩ [.tmp 8] C_q18z x = q18z n x := by kernel_rfl
omit [UDef] [UTabs] in
theorem ok_q18z (n : Nat) : Contract Tryz.prog 39 F_q18z (q18z n) :=
  Contract.of_ev (c := C_q18z) (N := 30) Tryz.func39 (by kernel_rfl) (by kernel_rfl) (by kernel_rfl) (by kernel_rfl) (O_q18z_ok n) dorcNil_ok (.of (l := [(0, (lbody 1000 C_q18z 0))]) (by kernel_rfl) ⟨.head (loopL_sound (O_q18z_ok n) dorcNil_ok (.of (l := []) (by kernel_rfl) trivial) (s_q18z_s0 n)), trivial⟩) (e_q18z n)

noncomputable def C_q78z : Code := bodyOf Tryz.f7
noncomputable def M_q78z : List (Nat × ArgM) := [(35, ⟨[], [], [], true⟩)]
instance : DfOk M_q78z := .none rfl
noncomputable def O_q78z {ρ : Type} (n : Nat) : Orc ρ := orcCons 35 F_q76z (q76z n) (orcCons 36 F_q19z (q19z n) (orcCons 39 F_q18z (q18z n) (orcNil)))
omit [UDef] in
theorem O_q78z_ok {ρ : Type} (n : Nat) : (O_q78z n : Orc ρ).ok Tryz.prog := orcCons_ok (by kernel_rfl) (ok_q76z n) (orcCons_ok (by kernel_rfl) (ok_q19z n) (orcCons_ok (by kernel_rfl) (ok_q18z n) (orcNil_ok)))
noncomputable def T_q78z_s0 : Tm := ⟨[(2, .ptr 2 0), (3, .ptr 3 0), (4, .ptr 4 0)], [(12, (.two .graph)), (13, .i64)], [(2, .box [.d .graph]), (3, .box [.d .graph]), (4, .box [.d .delta])], []⟩
noncomputable def X_q78z_s0 : Tm := ⟨[(2, .ptr 2 0), (3, .ptr 3 0), (4, .ptr 4 0)], [], [(2, .box [.d .graph]), (3, .box [.d .graph]), (4, .box [.d .delta])], []⟩
noncomputable def R_q78z_s0 : Tm := ⟨[(4, .ptr 4 0)], [(5, .i64)], [(4, .box [.d .delta])], []⟩
noncomputable def L_q78z_s0 {ρ : Type} (n : Nat) : LOrc ρ := lorcNil
omit [Tabs] [QuietD Tryz.prog] [UDef] [UTabs] in
theorem s_q78z_s0 {ρ : Type} (n : Nat) (rec : T_q78z_s0.den → Option ρ) kx kr s : dStep Tryz.prog 53 TT M_q78z (O_q78z n) (L_q78z_s0 n) dorcNil 0 (lbody 1000 C_q78z 0) T_q78z_s0 X_q78z_s0 R_q78z_s0 ⟨[], [], []⟩ rec kx kr s = q78z_s0 n rec kx kr s := by kernel_rfl
noncomputable def L_q78z {ρ : Type} (n : Nat) : LOrc ρ := lorcCons 0 (loopL 53 0 n T_q78z_s0 X_q78z_s0 R_q78z_s0 ⟨[], [], []⟩ (q78z_s0 n)) (lorcNil)
omit [Tabs] [QuietD Tryz.prog] [UDef] [UTabs] in
theorem e_q78z (n : Nat) (x) : evF Tryz.prog 53 TT M_q78z F_q78z (O_q78z n) (L_q78z n) dorcNil ⟨[], [], []⟩ [.cell 4 27, .tmp 5] C_q78z x = q78z n x := by kernel_rfl
omit [UDef] in
theorem ok_q78z (n : Nat) : Contract Tryz.prog 7 F_q78z (q78z n) :=
  Contract.of_ev (c := C_q78z) (N := 53) Tryz.func7 (by kernel_rfl) (by kernel_rfl) (by kernel_rfl) (by kernel_rfl) (O_q78z_ok n) dorcNil_ok (.of (l := [(0, (lbody 1000 C_q78z 0))]) (by kernel_rfl) ⟨.head (loopL_sound (O_q78z_ok n) dorcNil_ok (.of (l := []) (by kernel_rfl) trivial) (s_q78z_s0 n)), trivial⟩) (e_q78z n)

noncomputable def F_q52z : FnT := ⟨0, ⟨[], [], [], []⟩, [.v .bool], []⟩
noncomputable def F_q57z : FnT := ⟨0, ⟨[], [], [], []⟩, [.v .graph], []⟩
noncomputable def F_q63z : FnT := ⟨1, ⟨[], [(0, .i64)], [], []⟩, [.v .val], []⟩
noncomputable def C_q63z : Code := bodyOf Tryz.f80
noncomputable def M_q63z : List (Nat × ArgM) := []
instance : DfOk M_q63z := .none rfl
noncomputable def O_q63z {ρ : Type} : Orc ρ := orcNil
omit [QuietD Tryz.prog] [UDef] [UTabs] in
theorem O_q63z_ok {ρ : Type} : (O_q63z : Orc ρ).ok Tryz.prog := orcNil_ok
noncomputable def L_q63z {ρ : Type} : LOrc ρ := lorcNil
omit [Tabs] [QuietD Tryz.prog] [UDef] [UTabs] in
theorem e_q63z (x) : evF Tryz.prog 5 TT M_q63z F_q63z (O_q63z) (L_q63z) dorcNil ⟨[], [], []⟩ [.cell 2 79] C_q63z x = q63z x := by kernel_rfl
omit [UDef] [UTabs] in
theorem ok_q63z : Contract Tryz.prog 80 F_q63z (q63z) :=
  Contract.of_ev (c := C_q63z) (N := 5) Tryz.func80 (by kernel_rfl) (by kernel_rfl) (by kernel_rfl) (by kernel_rfl) (O_q63z_ok) dorcNil_ok (.of (l := []) (by kernel_rfl) trivial) (e_q63z)

noncomputable def C_q57z : Code := bodyOf Tryz.f43
noncomputable def M_q57z : List (Nat × ArgM) := []
instance : DfOk M_q57z := .none rfl
noncomputable def O_q57z {ρ : Type} : Orc ρ := orcCons 80 F_q63z (q63z) (orcNil)
omit [UDef] [UTabs] in
theorem O_q57z_ok {ρ : Type} : (O_q57z : Orc ρ).ok Tryz.prog := orcCons_ok (by kernel_rfl) (ok_q63z) (orcNil_ok)
noncomputable def L_q57z {ρ : Type} : LOrc ρ := lorcNil
omit [Tabs] [QuietD Tryz.prog] [UDef] [UTabs] in
theorem e_q57z (x) : evF Tryz.prog 11 TT M_q57z F_q57z (O_q57z) (L_q57z) dorcNil ⟨[], [], []⟩ [.cell 0 25] C_q57z x = q57z x := by kernel_rfl
omit [UDef] [UTabs] in
theorem ok_q57z : Contract Tryz.prog 43 F_q57z (q57z) :=
  Contract.of_ev (c := C_q57z) (N := 11) Tryz.func43 (by kernel_rfl) (by kernel_rfl) (by kernel_rfl) (by kernel_rfl) (O_q57z_ok) dorcNil_ok (.of (l := []) (by kernel_rfl) trivial) (e_q57z)

noncomputable def F_txn_Apply : FnT := ⟨2, ⟨[], [(0, .graph), (1, (.lst .opn))], [], []⟩, [.v .graph, .v (.lst .i64), .v .i64, .v .i64], []⟩
noncomputable def F_q68z : FnT := ⟨1, ⟨[], [(0, .graph)], [], []⟩, [.mix [.ref (.own 300120), .ref (.own 300121), .d .i64]], [(300120, .arr 43 .node), (300121, .arr 47 .edg)]⟩
noncomputable def C_q68z : Code := bodyOf Tryz.f49
noncomputable def M_q68z : List (Nat × ArgM) := []
instance : DfOk M_q68z := .none rfl
noncomputable def O_q68z {ρ : Type} (n : Nat) : Orc ρ := orcCons 38 F_q67z (q67z n) (orcCons 41 F_q66z (q66z n) (orcNil))
omit [UDef] [UTabs] in
theorem O_q68z_ok {ρ : Type} (n : Nat) : (O_q68z n : Orc ρ).ok Tryz.prog := orcCons_ok (by kernel_rfl) (ok_q67z n) (orcCons_ok (by kernel_rfl) (ok_q66z n) (orcNil_ok))
noncomputable def T_q68z_s0 : Tm := ⟨[(1, .ptr 1 0), (2, .ptr 2 0), (3, .ptr 3 0)], [(12, (.lst .node)), (13, .i64), (14, .i64)], [(1, .box [.d .graph]), (2, .box [.d .graph]), (3, .box [.ref (.own 300120), .ref (.nils), .d .i64]), (300120, .arr 43 .node)], []⟩
noncomputable def X_q68z_s0 : Tm := ⟨[(1, .ptr 1 0), (2, .ptr 2 0), (3, .ptr 3 0)], [], [(1, .box [.d .graph]), (2, .box [.d .graph]), (3, .box [.ref (.own 300120), .ref (.nils), .d .i64]), (300120, .arr 43 .node)], []⟩
noncomputable def R_q68z_s0 : Tm := ⟨[], [], [], []⟩
noncomputable def L_q68z_s0 {ρ : Type} (n : Nat) : LOrc ρ := lorcNil
omit [Tabs] [QuietD Tryz.prog] [UDef] [UTabs] in
theorem s_q68z_s0 {ρ : Type} (n : Nat) (rec : T_q68z_s0.den → Option ρ) kx kr s : dStep Tryz.prog 42 TT M_q68z (O_q68z n) (L_q68z_s0 n) (evDraw Tryz.prog 42 TT M_q68z (O_q68z n)) 0 (lbody 1000 C_q68z 0) T_q68z_s0 X_q68z_s0 R_q68z_s0 ⟨[], [], [(3, 0, 300120, 43, 3)]⟩ rec kx kr s = q68z_s0 n rec kx kr s := by kernel_rfl
noncomputable def T_q68z_s2 : Tm := ⟨[(2, .ptr 2 0), (3, .ptr 3 0)], [(27, (.lst .edg)), (28, .i64), (29, .i64)], [(2, .box [.d .graph]), (3, .box [.ref (.own 300120), .ref (.own 300121), .d .i64]), (300120, .arr 43 .node), (300121, .arr 47 .edg)], []⟩
noncomputable def X_q68z_s2 : Tm := ⟨[(2, .ptr 2 0), (3, .ptr 3 0)], [], [(2, .box [.d .graph]), (3, .box [.ref (.own 300120), .ref (.own 300121), .d .i64]), (300120, .arr 43 .node), (300121, .arr 47 .edg)], []⟩
noncomputable def R_q68z_s2 : Tm := ⟨[], [], [], []⟩
noncomputable def L_q68z_s2 {ρ : Type} (n : Nat) : LOrc ρ := lorcNil
omit [Tabs] [QuietD Tryz.prog] [UDef] [UTabs] in
theorem s_q68z_s2 {ρ : Type} (n : Nat) (rec : T_q68z_s2.den → Option ρ) kx kr s : dStep Tryz.prog 42 TT M_q68z (O_q68z n) (L_q68z_s2 n) (evDraw Tryz.prog 42 TT M_q68z (O_q68z n)) 2 (lbody 1000 C_q68z 1) T_q68z_s2 X_q68z_s2 R_q68z_s2 ⟨[], [], [(3, 1, 300121, 47, 5)]⟩ rec kx kr s = q68z_s2 n rec kx kr s := by kernel_rfl
noncomputable def L_q68z {ρ : Type} (n : Nat) : LOrc ρ := lorcCons 0 (loopL 42 0 n T_q68z_s0 X_q68z_s0 R_q68z_s0 ⟨[], [], [(3, 0, 300120, 43, 3)]⟩ (q68z_s0 n)) (lorcCons 2 (loopL 42 2 n T_q68z_s2 X_q68z_s2 R_q68z_s2 ⟨[], [], [(3, 1, 300121, 47, 5)]⟩ (q68z_s2 n)) (lorcNil))
omit [Tabs] [QuietD Tryz.prog] [UDef] [UTabs] in
theorem e_q68z (n : Nat) (x) : evF Tryz.prog 42 TT M_q68z F_q68z (O_q68z n) (L_q68z n) (evDraw Tryz.prog 42 TT M_q68z (O_q68z n)) ⟨[], [], []⟩ [.cell 2 25] C_q68z x = q68z n x := by kernel_rfl
omit [UDef] [UTabs] in
theorem ok_q68z (n : Nat) : Contract Tryz.prog 49 F_q68z (q68z n) :=
  Contract.of_ev (c := C_q68z) (N := 42) Tryz.func49 (by kernel_rfl) (by kernel_rfl) (by kernel_rfl) (by kernel_rfl) (O_q68z_ok n) (evDraw_ok (O_q68z_ok n) (by kernel_rfl)) (.of (l := [(0, (lbody 1000 C_q68z 0)), (2, (lbody 1000 C_q68z 1))]) (by kernel_rfl) ⟨.head (loopL_sound (O_q68z_ok n) (evDraw_ok (O_q68z_ok n) (by kernel_rfl)) (.of (l := []) (by kernel_rfl) trivial) (s_q68z_s0 n)), ⟨.tail rfl (.head (loopL_sound (O_q68z_ok n) (evDraw_ok (O_q68z_ok n) (by kernel_rfl)) (.of (l := []) (by kernel_rfl) trivial) (s_q68z_s2 n))), trivial⟩⟩) (e_q68z n)

noncomputable def F_q79z : FnT := ⟨2, ⟨[(0, .ptr 1000000 0)], [(1, .opn)], [(1000000, .box [.ref (.own 1000001), .ref (.own 1000002), .d .i64, .ref (.own 1000003)]), (1000001, .arr 43 .node), (1000002, .arr 47 .edg), (1000003, .arr 3 .i64)], []⟩, [.v .i64], [(1000000, .box [.ref (.own 1000001), .ref (.own 1000002), .d .i64, .ref (.own 1000003)]), (1000001, .arr 43 .node), (1000002, .arr 47 .edg), (1000003, .arr 3 .i64)]⟩
noncomputable def F_q71z : FnT := ⟨2, ⟨[], [(1, .i64)], [], [(1000000, [.rp [.graph, (.lst .i64)]])]⟩, [.v .i64], []⟩
noncomputable def C_q71z : Code := bodyOf Tryz.f119
noncomputable def M_q71z : List (Nat × ArgM) := []
instance : DfOk M_q71z := .none rfl
noncomputable def O_q71z {ρ : Type} : Orc ρ := orcNil
omit [QuietD Tryz.prog] [UDef] [UTabs] in
theorem O_q71z_ok {ρ : Type} : (O_q71z : Orc ρ).ok Tryz.prog := orcNil_ok
noncomputable def L_q71z {ρ : Type} : LOrc ρ := lorcNil
omit [Tabs] [QuietD Tryz.prog] [UDef] [UTabs] in
theorem e_q71z (x) : evF Tryz.prog 27 TT M_q71z F_q71z (O_q71z) (L_q71z) dorcNil ⟨[], [], []⟩ [.tmp 4] C_q71z x = q71z x := by kernel_rfl
omit [UDef] [UTabs] in
theorem ok_q71z : Contract Tryz.prog 119 F_q71z (q71z) :=
  Contract.of_ev (c := C_q71z) (N := 27) Tryz.func119 (by kernel_rfl) (by kernel_rfl) (by kernel_rfl) (by kernel_rfl) (O_q71z_ok) dorcNil_ok (.of (l := []) (by kernel_rfl) trivial) (e_q71z)

noncomputable def F_q59z : FnT := ⟨1, ⟨[(0, .ptr 1000000 0)], [], [(1000000, .box [.ref (.own 1000001), .ref (.own 1000002), .d .i64, .ref (.own 1000003)]), (1000001, .arr 43 .node), (1000002, .arr 47 .edg), (1000003, .arr 3 .i64)], []⟩, [.v .i64, .v .i64], [(1000000, .box [.ref (.own 1000001), .ref (.own 1000002), .d .i64, .ref (.own 1000003)]), (1000001, .arr 43 .node), (1000002, .arr 47 .edg), (1000003, .arr 3 .i64)]⟩
noncomputable def C_q59z : Code := bodyOf Tryz.f118
noncomputable def M_q59z : List (Nat × ArgM) := []
instance : DfOk M_q59z := .none rfl
noncomputable def O_q59z {ρ : Type} : Orc ρ := orcNil
omit [QuietD Tryz.prog] [UDef] [UTabs] in
theorem O_q59z_ok {ρ : Type} : (O_q59z : Orc ρ).ok Tryz.prog := orcNil_ok
noncomputable def L_q59z {ρ : Type} : LOrc ρ := lorcNil
omit [Tabs] [QuietD Tryz.prog] [UDef] [UTabs] in
theorem e_q59z (x) : evF Tryz.prog 36 TT M_q59z F_q59z (O_q59z) (L_q59z) dorcNil ⟨[], [], []⟩ [.tmp 2, .tmp 3] C_q59z x = q59z x := by kernel_rfl
omit [UDef] [UTabs] in
theorem ok_q59z : Contract Tryz.prog 118 F_q59z (q59z) :=
  Contract.of_ev (c := C_q59z) (N := 36) Tryz.func118 (by kernel_rfl) (by kernel_rfl) (by kernel_rfl) (by kernel_rfl) (O_q59z_ok) dorcNil_ok (.of (l := []) (by kernel_rfl) trivial) (e_q59z)

noncomputable def C_q79z : Code := bodyOf Tryz.f75
noncomputable def M_q79z : List (Nat × ArgM) := [(999999999, ⟨[1], [], [], false⟩), (118, ⟨[0], [], [], false⟩), (119, ⟨[], [], [], true⟩), (67, ⟨[], [], [], true⟩), (68, ⟨[], [], [], true⟩), (66, ⟨[], [], [], true⟩)]
instance : DfOk M_q79z := .none rfl
noncomputable def O_q79z {ρ : Type} (n : Nat) : Orc ρ := orcCons 119 F_q71z (q71z) (orcCons 67 F_q86z (q86z n) (orcCons 68 F_q87z (q87z n) (orcCons 66 F_q77z (q77z n) (orcCons 118 F_q59z (q59z) (orcCons 41 F_q66z (q66z n) (orcNil))))))
omit [UDef] in
theorem O_q79z_ok {ρ : Type} (n : Nat) : (O_q79z n : Orc ρ).ok Tryz.prog := orcCons_ok (by kernel_rfl) (ok_q71z) (orcCons_ok (by kernel_rfl) (ok_q86z n) (orcCons_ok (by kernel_rfl) (ok_q87z n) (orcCons_ok (by kernel_rfl) (ok_q77z n) (orcCons_ok (by kernel_rfl) (ok_q59z) (orcCons_ok (by kernel_rfl) (ok_q66z n) (orcNil_ok))))))
noncomputable def L_q79z {ρ : Type} (n : Nat) : LOrc ρ := lorcNil
omit [Tabs] [QuietD Tryz.prog] [UDef] [UTabs] in
theorem e_q79z (n : Nat) (x) : evF Tryz.prog 77 TT M_q79z F_q79z (O_q79z n) (L_q79z n) (evDraw Tryz.prog 77 TT M_q79z (O_q79z n)) ⟨[], [], []⟩ [.tmp 4] C_q79z x = q79z n x := by kernel_rfl
omit [UDef] in
theorem ok_q79z (n : Nat) : Contract Tryz.prog 75 F_q79z (q79z n) :=
  Contract.of_ev (c := C_q79z) (N := 77) Tryz.func75 (by kernel_rfl) (by kernel_rfl) (by kernel_rfl) (by kernel_rfl) (O_q79z_ok n) (evDraw_ok (O_q79z_ok n) (by kernel_rfl)) (.of (l := []) (by kernel_rfl) trivial) (e_q79z n)

noncomputable def F_q80z : FnT := ⟨2, ⟨[(0, .ptr 1000000 0)], [(1, .opn)], [(1000000, .box [.ref (.own 1000001), .ref (.own 1000002), .d .i64, .ref (.own 1000003)]), (1000001, .arr 43 .node), (1000002, .arr 47 .edg), (1000003, .arr 3 .i64)], []⟩, [.v .i64], [(1000000, .box [.ref (.own 1000001), .ref (.own 1000002), .d .i64, .ref (.own 1000003)]), (1000001, .arr 43 .node), (1000002, .arr 47 .edg), (1000003, .arr 3 .i64)]⟩
noncomputable def C_q80z : Code := bodyOf Tryz.f74
noncomputable def M_q80z : List (Nat × ArgM) := [(999999999, ⟨[1], [], [], false⟩), (118, ⟨[0], [], [], false⟩), (65, ⟨[], [], [], true⟩), (66, ⟨[], [], [], true⟩)]
instance : DfOk M_q80z := .none rfl
noncomputable def O_q80z {ρ : Type} (n : Nat) : Orc ρ := orcCons 65 F_q75z (q75z n) (orcCons 66 F_q77z (q77z n) (orcCons 118 F_q59z (q59z) (orcCons 38 F_q67z (q67z n) (orcNil))))
omit [UDef] in
theorem O_q80z_ok {ρ : Type} (n : Nat) : (O_q80z n : Orc ρ).ok Tryz.prog := orcCons_ok (by kernel_rfl) (ok_q75z n) (orcCons_ok (by kernel_rfl) (ok_q77z n) (orcCons_ok (by kernel_rfl) (ok_q59z) (orcCons_ok (by kernel_rfl) (ok_q67z n) (orcNil_ok))))
noncomputable def L_q80z {ρ : Type} (n : Nat) : LOrc ρ := lorcNil
omit [Tabs] [QuietD Tryz.prog] [UDef] [UTabs] in
theorem e_q80z (n : Nat) (x) : evF Tryz.prog 52 TT M_q80z F_q80z (O_q80z n) (L_q80z n) (evDraw Tryz.prog 52 TT M_q80z (O_q80z n)) ⟨[], [], []⟩ [.tmp 4] C_q80z x = q80z n x := by kernel_rfl
omit [UDef] in
theorem ok_q80z (n : Nat) : Contract Tryz.prog 74 F_q80z (q80z n) :=
  Contract.of_ev (c := C_q80z) (N := 52) Tryz.func74 (by kernel_rfl) (by kernel_rfl) (by kernel_rfl) (by kernel_rfl) (O_q80z_ok n) (evDraw_ok (O_q80z_ok n) (by kernel_rfl)) (.of (l := []) (by kernel_rfl) trivial) (e_q80z n)

noncomputable def C_txn_Apply : Code := bodyOf Tryz.f42
noncomputable def M_txn_Apply : List (Nat × ArgM) := [(999999994, ⟨[50], [], [], false⟩), (1600000013, ⟨[12, 0, 1, 2], [], [], false⟩), (75, ⟨[0], [], [], false⟩), (74, ⟨[0], [], [], false⟩), (35, ⟨[], [], [], true⟩), (49, ⟨[], [], [300120, 300121], false⟩)]
instance : DfOk M_txn_Apply := .none rfl
noncomputable def O_txn_Apply {ρ : Type} (n : Nat) : Orc ρ := orcCons 35 F_q76z (q76z n) (orcCons 49 F_q68z (q68z n) (orcCons 75 F_q79z (q79z n) (orcCons 74 F_q80z (q80z n) (orcNil))))
omit [UDef] in
theorem O_txn_Apply_ok {ρ : Type} (n : Nat) : (O_txn_Apply n : Orc ρ).ok Tryz.prog := orcCons_ok (by kernel_rfl) (ok_q76z n) (orcCons_ok (by kernel_rfl) (ok_q68z n) (orcCons_ok (by kernel_rfl) (ok_q79z n) (orcCons_ok (by kernel_rfl) (ok_q80z n) (orcNil_ok))))
noncomputable def T_txn_Apply_s0 : Tm := ⟨[(4, .ptr 4 0), (9, .ptr 27 0), (10, .ptr 10 0)], [(29, (.lst .opn)), (30, .i64), (31, .i64)], [(4, .box [.d .graph]), (10, .box [.ref (.nilf), .ref (.fn 74), .ref (.fn 75), .ref (.fn 76), .ref (.fn 77), .ref (.fn 78), .ref (.fn 79), .ref (.fn 79)]), (25, .arr 43 .node), (27, .box [.ref (.own 25), .ref (.own 2025), .d .i64, .ref (.own 301083)]), (2025, .arr 47 .edg), (301083, .arr 3 .i64)], []⟩
noncomputable def X_txn_Apply_s0 : Tm := ⟨[(4, .ptr 4 0), (9, .ptr 27 0)], [], [(4, .box [.d .graph]), (25, .arr 43 .node), (27, .box [.ref (.own 25), .ref (.own 2025), .d .i64, .ref (.own 301083)]), (2025, .arr 47 .edg), (301083, .arr 3 .i64)], []⟩
noncomputable def R_txn_Apply_s0 : Tm := ⟨[(4, .ptr 4 0)], [(5, (.lst .i64)), (6, .i64), (7, .i64)], [(4, .box [.d .graph])], []⟩
noncomputable def L_txn_Apply_s0 {ρ : Type} (n : Nat) : LOrc ρ := lorcNil
omit [Tabs] [QuietD Tryz.prog] [UDef] [UTabs] in
theorem s_txn_Apply_s0 {ρ : Type} (n : Nat) (rec : T_txn_Apply_s0.den → Option ρ) kx kr s : dStep Tryz.prog 65 TT M_txn_Apply (O_txn_Apply n) (L_txn_Apply_s0 n) (evDraw Tryz.prog 65 TT M_txn_Apply (O_txn_Apply n)) 0 (lbody 1000 C_txn_Apply 0) T_txn_Apply_s0 X_txn_Apply_s0 R_txn_Apply_s0 ⟨[], [], [(27, 3, 301083, 3, 1)]⟩ rec kx kr s = txn_Apply_s0 n rec kx kr s := by kernel_rfl
noncomputable def L_txn_Apply {ρ : Type} (n : Nat) : LOrc ρ := lorcCons 0 (loopL 65 0 n T_txn_Apply_s0 X_txn_Apply_s0 R_txn_Apply_s0 ⟨[], [], [(27, 3, 301083, 3, 1)]⟩ (txn_Apply_s0 n)) (lorcNil)
omit [Tabs] [QuietD Tryz.prog] [UDef] [UTabs] in
theorem e_txn_Apply (n : Nat) (x) : evF Tryz.prog 65 TT M_txn_Apply F_txn_Apply (O_txn_Apply n) (L_txn_Apply n) (evDraw Tryz.prog 65 TT M_txn_Apply (O_txn_Apply n)) ⟨[], [], []⟩ [.cell 4 25, .tmp 5, .tmp 6, .tmp 7] C_txn_Apply x = txn_Apply n x := by kernel_rfl
omit [UDef] in
theorem ok_txn_Apply (n : Nat) : Contract Tryz.prog 42 F_txn_Apply (txn_Apply n) :=
  Contract.of_ev (c := C_txn_Apply) (N := 65) Tryz.func42 (by kernel_rfl) (by kernel_rfl) (by kernel_rfl) (by kernel_rfl) (O_txn_Apply_ok n) (evDraw_ok (O_txn_Apply_ok n) (by kernel_rfl)) (.of (l := [(0, (lbody 1000 C_txn_Apply 0))]) (by kernel_rfl) ⟨.head (loopL_sound (O_txn_Apply_ok n) (evDraw_ok (O_txn_Apply_ok n) (by kernel_rfl)) (.of (l := []) (by kernel_rfl) trivial) (s_txn_Apply_s0 n)), trivial⟩) (e_txn_Apply n)

noncomputable def F_q51z : FnT := ⟨2, ⟨[], [(0, (.lst .i64)), (1, (.lst .i64))], [], []⟩, [.v .bool], []⟩
noncomputable def C_q51z : Code := bodyOf Tryz.f44
noncomputable def M_q51z : List (Nat × ArgM) := []
instance : DfOk M_q51z := .none rfl
noncomputable def O_q51z {ρ : Type} (n : Nat) : Orc ρ := orcNil
omit [QuietD Tryz.prog] [UDef] [UTabs] in
theorem O_q51z_ok {ρ : Type} (n : Nat) : (O_q51z n : Orc ρ).ok Tryz.prog := orcNil_ok
noncomputable def T_q51z_s0 : Tm := ⟨[], [(0, (.lst .i64)), (1, (.lst .i64)), (12, .i64), (13, .i64)], [], []⟩
noncomputable def X_q51z_s0 : Tm := ⟨[], [], [], []⟩
noncomputable def R_q51z_s0 : Tm := ⟨[], [(4, .bool)], [], []⟩
noncomputable def L_q51z_s0 {ρ : Type} (n : Nat) : LOrc ρ := lorcNil
omit [Tabs] [QuietD Tryz.prog] [UDef] [UTabs] in
theorem s_q51z_s0 {ρ : Type} (n : Nat) (rec : T_q51z_s0.den → Option ρ) kx kr s : dStep Tryz.prog 26 TT M_q51z (O_q51z n) (L_q51z_s0 n) (evDraw Tryz.prog 26 TT M_q51z (O_q51z n)) 0 (lbody 1000 C_q51z 0) T_q51z_s0 X_q51z_s0 R_q51z_s0 ⟨[], [], []⟩ rec kx kr s = q51z_s0 n rec kx kr s := by kernel_rfl
noncomputable def L_q51z {ρ : Type} (n : Nat) : LOrc ρ := lorcCons 0 (loopL 26 0 n T_q51z_s0 X_q51z_s0 R_q51z_s0 ⟨[], [], []⟩ (q51z_s0 n)) (lorcNil)
omit [Tabs] [QuietD Tryz.prog] [UDef] [UTabs] in
theorem e_q51z (n : Nat) (x) : evF Tryz.prog 26 TT M_q51z F_q51z (O_q51z n) (L_q51z n) (evDraw Tryz.prog 26 TT M_q51z (O_q51z n)) ⟨[], [], []⟩ [.tmp 4] C_q51z x = q51z n x := by kernel_rfl
omit [UDef] [UTabs] in
theorem ok_q51z (n : Nat) : Contract Tryz.prog 44 F_q51z (q51z n) :=
  Contract.of_ev (c := C_q51z) (N := 26) Tryz.func44 (by kernel_rfl) (by kernel_rfl) (by kernel_rfl) (by kernel_rfl) (O_q51z_ok n) (evDraw_ok (O_q51z_ok n) (by kernel_rfl)) (.of (l := [(0, (lbody 1000 C_q51z 0))]) (by kernel_rfl) ⟨.head (loopL_sound (O_q51z_ok n) (evDraw_ok (O_q51z_ok n) (by kernel_rfl)) (.of (l := []) (by kernel_rfl) trivial) (s_q51z_s0 n)), trivial⟩) (e_q51z n)

noncomputable def C_q52z : Code := bodyOf Tryz.f8
noncomputable def M_q52z : List (Nat × ArgM) := [(44, ⟨[], [], [], true⟩)]
instance : DfOk M_q52z := .none rfl
noncomputable def O_q52z {ρ : Type} (n : Nat) : Orc ρ := orcCons 43 F_q57z (q57z) (orcCons 42 F_txn_Apply (txn_Apply n) (orcCons 44 F_q51z (q51z n) (orcNil)))
omit [UDef] in
theorem O_q52z_ok {ρ : Type} (n : Nat) : (O_q52z n : Orc ρ).ok Tryz.prog := orcCons_ok (by kernel_rfl) (ok_q57z) (orcCons_ok (by kernel_rfl) (ok_txn_Apply n) (orcCons_ok (by kernel_rfl) (ok_q51z n) (orcNil_ok)))
noncomputable def L_q52z {ρ : Type} (n : Nat) : LOrc ρ := lorcNil
omit [Tabs] [QuietD Tryz.prog] [UDef] [UTabs] in
theorem e_q52z (n : Nat) (x) : evF Tryz.prog 46 TT M_q52z F_q52z (O_q52z n) (L_q52z n) dorcNil ⟨[], [], []⟩ [.tmp 0] C_q52z x = q52z n x := by kernel_rfl
omit [UDef] in
theorem ok_q52z (n : Nat) : Contract Tryz.prog 8 F_q52z (q52z n) :=
  Contract.of_ev (c := C_q52z) (N := 46) Tryz.func8 (by kernel_rfl) (by kernel_rfl) (by kernel_rfl) (by kernel_rfl) (O_q52z_ok n) dorcNil_ok (.of (l := []) (by kernel_rfl) trivial) (e_q52z n)

noncomputable def F_txn_Turn : FnT := ⟨2, ⟨[], [(0, .graph), (1, .delta)], [], []⟩, [.v .graph, .v .i64], []⟩
noncomputable def F_q23z : FnT := ⟨5, ⟨[(3, .fn 46), (4, .fn 37)], [(0, (.lst .node)), (1, (.lst .node)), (2, (.lst .node))], [], []⟩, [.v (.lst .node), .v .bool], []⟩
noncomputable def F_q25z : FnT := ⟨1, ⟨[], [(0, (.lst .node))], [], []⟩, [.ref (.own 5)], [(5, .arr 43 .node)]⟩
noncomputable def C_q25z : Code := bodyOf Tryz.f20
noncomputable def M_q25z : List (Nat × ArgM) := []
instance : DfOk M_q25z := .none rfl
noncomputable def O_q25z {ρ : Type} : Orc ρ := orcNil
omit [QuietD Tryz.prog] [UDef] [UTabs] in
theorem O_q25z_ok {ρ : Type} : (O_q25z : Orc ρ).ok Tryz.prog := orcNil_ok
noncomputable def L_q25z {ρ : Type} : LOrc ρ := lorcNil
omit [Tabs] [QuietD Tryz.prog] [UDef] [UTabs] in
theorem e_q25z (x) : evF Tryz.prog 8 TT M_q25z F_q25z (O_q25z) (L_q25z) dorcNil ⟨[], [(2, 5, 43, 3)], []⟩ [.tmp 2] C_q25z x = q25z x := by kernel_rfl
omit [UDef] [UTabs] in
theorem ok_q25z : Contract Tryz.prog 20 F_q25z (q25z) :=
  Contract.of_ev (c := C_q25z) (N := 8) Tryz.func20 (by kernel_rfl) (by kernel_rfl) (by kernel_rfl) (by kernel_rfl) (O_q25z_ok) dorcNil_ok (.of (l := []) (by kernel_rfl) trivial) (e_q25z)

noncomputable def F_q14z : FnT := ⟨2, ⟨[(0, .own 2000000), (1, .clo 81 [1000016, 1000017])], [], [(2000000, .arr 43 .node), (1000016, .box [.ref (.fn 37)]), (1000017, .box [.d .node])], []⟩, [.v .i64], [(2000000, .arr 43 .node), (1000016, .box [.ref (.fn 37)]), (1000017, .box [.d .node])]⟩
noncomputable def F_q46z : FnT := ⟨3, ⟨[(1, .ptr 1000000 0), (2, .ptr 1000016 0)], [(0, .node)], [(1000000, .box [.ref (.fn 37)]), (1000016, .box [.d .node])], []⟩, [.v .bool], [(1000000, .box [.ref (.fn 37)]), (1000016, .box [.d .node])]⟩
noncomputable def C_q46z : Code := bodyOf Tryz.f81
noncomputable def M_q46z : List (Nat × ArgM) := [(37, ⟨[], [], [], true⟩)]
instance : DfOk M_q46z := .none rfl
noncomputable def O_q46z {ρ : Type} (n : Nat) : Orc ρ := orcCons 37 F_q70z (q70z n) (orcNil)
omit [UDef] [UTabs] in
theorem O_q46z_ok {ρ : Type} (n : Nat) : (O_q46z n : Orc ρ).ok Tryz.prog := orcCons_ok (by kernel_rfl) (ok_q70z n) (orcNil_ok)
noncomputable def L_q46z {ρ : Type} (n : Nat) : LOrc ρ := lorcNil
omit [Tabs] [QuietD Tryz.prog] [UDef] [UTabs] in
theorem e_q46z (n : Nat) (x) : evF Tryz.prog 9 TT M_q46z F_q46z (O_q46z n) (L_q46z n) dorcNil ⟨[], [], []⟩ [.tmp 4] C_q46z x = q46z n x := by kernel_rfl
omit [UDef] [UTabs] in
theorem ok_q46z (n : Nat) : Contract Tryz.prog 81 F_q46z (q46z n) :=
  Contract.of_ev (c := C_q46z) (N := 9) Tryz.func81 (by kernel_rfl) (by kernel_rfl) (by kernel_rfl) (by kernel_rfl) (O_q46z_ok n) dorcNil_ok (.of (l := []) (by kernel_rfl) trivial) (e_q46z n)

noncomputable def C_q14z : Code := bodyOf Tryz.f22
noncomputable def M_q14z : List (Nat × ArgM) := [(999999999, ⟨[1], [], [], false⟩), (81, ⟨[1, 2], [], [], false⟩)]
instance : DfOk M_q14z := .none rfl
noncomputable def O_q14z {ρ : Type} (n : Nat) : Orc ρ := orcCons 81 F_q46z (q46z n) (orcNil)
omit [UDef] [UTabs] in
theorem O_q14z_ok {ρ : Type} (n : Nat) : (O_q14z n : Orc ρ).ok Tryz.prog := orcCons_ok (by kernel_rfl) (ok_q46z n) (orcNil_ok)
noncomputable def T_q14z_s0 : Tm := ⟨[(0, .own 2000000), (1, .clo 81 [1000016, 1000017])], [(7, .i64), (8, .i64)], [(1000016, .box [.ref (.fn 37)]), (1000017, .box [.d .node]), (2000000, .arr 43 .node)], []⟩
noncomputable def X_q14z_s0 : Tm := ⟨[], [], [(1000016, .box [.ref (.fn 37)]), (1000017, .box [.d .node]), (2000000, .arr 43 .node)], []⟩
noncomputable def R_q14z_s0 : Tm := ⟨[], [(4, .i64)], [(1000016, .box [.ref (.fn 37)]), (1000017, .box [.d .node]), (2000000, .arr 43 .node)], []⟩
noncomputable def L_q14z_s0 {ρ : Type} (n : Nat) : LOrc ρ := lorcNil
omit [Tabs] [QuietD Tryz.prog] [UDef] [UTabs] in
theorem s_q14z_s0 {ρ : Type} (n : Nat) (rec : T_q14z_s0.den → Option ρ) kx kr s : dStep Tryz.prog 19 TT M_q14z (O_q14z n) (L_q14z_s0 n) dorcNil 0 (lbody 1000 C_q14z 0) T_q14z_s0 X_q14z_s0 R_q14z_s0 ⟨[], [], []⟩ rec kx kr s = q14z_s0 n rec kx kr s := by kernel_rfl
noncomputable def L_q14z {ρ : Type} (n : Nat) : LOrc ρ := lorcCons 0 (loopL 19 0 n T_q14z_s0 X_q14z_s0 R_q14z_s0 ⟨[], [], []⟩ (q14z_s0 n)) (lorcNil)
omit [Tabs] [QuietD Tryz.prog] [UDef] [UTabs] in
theorem e_q14z (n : Nat) (x) : evF Tryz.prog 19 TT M_q14z F_q14z (O_q14z n) (L_q14z n) dorcNil ⟨[], [], []⟩ [.tmp 4] C_q14z x = q14z n x := by kernel_rfl
omit [UDef] [UTabs] in
theorem ok_q14z (n : Nat) : Contract Tryz.prog 22 F_q14z (q14z n) :=
  Contract.of_ev (c := C_q14z) (N := 19) Tryz.func22 (by kernel_rfl) (by kernel_rfl) (by kernel_rfl) (by kernel_rfl) (O_q14z_ok n) dorcNil_ok (.of (l := [(0, (lbody 1000 C_q14z 0))]) (by kernel_rfl) ⟨.head (loopL_sound (O_q14z_ok n) dorcNil_ok (.of (l := []) (by kernel_rfl) trivial) (s_q14z_s0 n)), trivial⟩) (e_q14z n)

noncomputable def F_q88z : FnT := ⟨1, ⟨[], [(0, .node)], [], []⟩, [.v .i64], []⟩
noncomputable def C_q88z : Code := bodyOf Tryz.f46
noncomputable def M_q88z : List (Nat × ArgM) := []
instance : DfOk M_q88z := .none rfl
noncomputable def O_q88z {ρ : Type} : Orc ρ := orcNil
omit [QuietD Tryz.prog] [UDef] [UTabs] in
theorem O_q88z_ok {ρ : Type} : (O_q88z : Orc ρ).ok Tryz.prog := orcNil_ok
noncomputable def L_q88z {ρ : Type} : LOrc ρ := lorcNil
omit [Tabs] [QuietD Tryz.prog] [UDef] [UTabs] in
theorem e_q88z (x) : evF Tryz.prog 5 TT M_q88z F_q88z (O_q88z) (L_q88z) dorcNil ⟨[], [], []⟩ [.tmp 2] C_q88z x = q88z x := by kernel_rfl
omit [UDef] [UTabs] in
theorem ok_q88z : Contract Tryz.prog 46 F_q88z (q88z) :=
  Contract.of_ev (c := C_q88z) (N := 5) Tryz.func46 (by kernel_rfl) (by kernel_rfl) (by kernel_rfl) (by kernel_rfl) (O_q88z_ok) dorcNil_ok (.of (l := []) (by kernel_rfl) trivial) (e_q88z)

noncomputable def F_q4z : FnT := ⟨3, ⟨[(0, .own 2000000), (2, .clo 83 [1000016])], [(1, .i64)], [(2000000, .arr 43 .node), (1000016, .box [.ref (.fn 46)])], []⟩, [.v .i64, .v .bool], [(2000000, .arr 43 .node), (1000016, .box [.ref (.fn 46)])]⟩
noncomputable def F_q47z : FnT := ⟨3, ⟨[(2, .ptr 1000000 0)], [(0, .node), (1, .i64)], [(1000000, .box [.ref (.fn 46)])], []⟩, [.v .i64], [(1000000, .box [.ref (.fn 46)])]⟩
noncomputable def C_q47z : Code := bodyOf Tryz.f83
noncomputable def M_q47z : List (Nat × ArgM) := [(46, ⟨[], [], [], true⟩), (84, ⟨[], [], [], true⟩)]
instance : DfOk M_q47z := .none rfl
noncomputable def O_q47z {ρ : Type} : Orc ρ := orcCons 46 F_q88z (q88z) (orcCons 84 F_q62z (q62z) (orcNil))
omit [UDef] [UTabs] in
theorem O_q47z_ok {ρ : Type} : (O_q47z : Orc ρ).ok Tryz.prog := orcCons_ok (by kernel_rfl) (ok_q88z) (orcCons_ok (by kernel_rfl) (ok_q62z) (orcNil_ok))
noncomputable def L_q47z {ρ : Type} : LOrc ρ := lorcNil
omit [Tabs] [QuietD Tryz.prog] [UDef] [UTabs] in
theorem e_q47z (x) : evF Tryz.prog 11 TT M_q47z F_q47z (O_q47z) (L_q47z) dorcNil ⟨[], [], []⟩ [.tmp 5] C_q47z x = q47z x := by kernel_rfl
omit [UDef] [UTabs] in
theorem ok_q47z : Contract Tryz.prog 83 F_q47z (q47z) :=
  Contract.of_ev (c := C_q47z) (N := 11) Tryz.func83 (by kernel_rfl) (by kernel_rfl) (by kernel_rfl) (by kernel_rfl) (O_q47z_ok) dorcNil_ok (.of (l := []) (by kernel_rfl) trivial) (e_q47z)

noncomputable def C_q4z : Code := bodyOf Tryz.f82
noncomputable def M_q4z : List (Nat × ArgM) := [(999999999, ⟨[1], [], [], false⟩), (83, ⟨[2], [], [], false⟩)]
instance : DfOk M_q4z := .none rfl
noncomputable def O_q4z {ρ : Type} (n : Nat) : Orc ρ := orcCons 83 F_q47z (q47z) (orcNil)
omit [UDef] [UTabs] in
theorem O_q4z_ok {ρ : Type} (n : Nat) : (O_q4z n : Orc ρ).ok Tryz.prog := orcCons_ok (by kernel_rfl) (ok_q47z) (orcNil_ok)
noncomputable def T_q4z_s0 : Tm := ⟨[(0, .own 2000000), (2, .clo 83 [1000016])], [(1, .i64), (8, .i64), (9, .i64), (10, .i64)], [(1000016, .box [.ref (.fn 46)]), (2000000, .arr 43 .node)], []⟩
noncomputable def X_q4z_s0 : Tm := ⟨[(0, .own 2000000), (2, .clo 83 [1000016])], [(1, .i64), (8, .i64), (9, .i64)], [(1000016, .box [.ref (.fn 46)]), (2000000, .arr 43 .node)], []⟩
noncomputable def R_q4z_s0 : Tm := ⟨[], [], [], []⟩
noncomputable def L_q4z_s0 {ρ : Type} (n : Nat) : LOrc ρ := lorcNil
omit [Tabs] [QuietD Tryz.prog] [UDef] [UTabs] in
theorem s_q4z_s0 {ρ : Type} (n : Nat) (rec : T_q4z_s0.den → Option ρ) kx kr s : dStep Tryz.prog 49 TT M_q4z (O_q4z n) (L_q4z_s0 n) dorcNil 0 (lbody 1000 C_q4z 0) T_q4z_s0 X_q4z_s0 R_q4z_s0 ⟨[], [], []⟩ rec kx kr s = q4z_s0 n rec kx kr s := by kernel_rfl
noncomputable def L_q4z {ρ : Type} (n : Nat) : LOrc ρ := lorcCons 0 (loopL 49 0 n T_q4z_s0 X_q4z_s0 R_q4z_s0 ⟨[], [], []⟩ (q4z_s0 n)) (lorcNil)
omit [Tabs] [QuietD Tryz.prog] [UDef] [UTabs] in
theorem e_q4z (n : Nat) (x) : evF Tryz.prog 49 TT M_q4z F_q4z (O_q4z n) (L_q4z n) dorcNil ⟨[], [], []⟩ [.tmp 6, .tmp 7] C_q4z x = q4z n x := by kernel_rfl
omit [UDef] [UTabs] in
theorem ok_q4z (n : Nat) : Contract Tryz.prog 82 F_q4z (q4z n) :=
  Contract.of_ev (c := C_q4z) (N := 49) Tryz.func82 (by kernel_rfl) (by kernel_rfl) (by kernel_rfl) (by kernel_rfl) (O_q4z_ok n) dorcNil_ok (.of (l := [(0, (lbody 1000 C_q4z 0))]) (by kernel_rfl) ⟨.head (loopL_sound (O_q4z_ok n) dorcNil_ok (.of (l := []) (by kernel_rfl) trivial) (s_q4z_s0 n)), trivial⟩) (e_q4z n)

noncomputable def C_q23z : Code := bodyOf Tryz.f45
noncomputable def M_q23z : List (Nat × ArgM) := [(999999999, ⟨[1], [], [], false⟩), (22, ⟨[1000, 1], [], [], false⟩), (82, ⟨[1000, 2], [], [], false⟩), (85, ⟨[0, 1002], [⟨0, 1000000, 43, 3⟩], [], false⟩), (24, ⟨[0], [⟨0, 1000000, 43, 3⟩], [], false⟩), (20, ⟨[], [], [5], false⟩), (46, ⟨[], [], [], true⟩)]
instance : DfOk M_q23z := .none rfl
noncomputable def O_q23z {ρ : Type} (n : Nat) : Orc ρ := orcCons 20 F_q25z (q25z) (orcCons 22 F_q14z (q14z n) (orcCons 24 (F_del 43 .node) (delN) (orcCons 46 F_q88z (q88z) (orcCons 82 F_q4z (q4z n) (orcCons 85 (F_ins 43 .node) (insN) (orcNil))))))
omit [UDef] [UTabs] in
theorem O_q23z_ok {ρ : Type} (n : Nat) : (O_q23z n : Orc ρ).ok Tryz.prog := orcCons_ok (by kernel_rfl) (ok_q25z) (orcCons_ok (by kernel_rfl) (ok_q14z n) (orcCons_ok (by kernel_rfl) (delN24_ok) (orcCons_ok (by kernel_rfl) (ok_q88z) (orcCons_ok (by kernel_rfl) (ok_q4z n) (orcCons_ok (by kernel_rfl) (insN85_ok) (orcNil_ok))))))
noncomputable def T_q23z_s0 : Tm := ⟨[(8, .ptr 8 0), (9, .ptr 9 0), (12, .own 21)], [(2, (.lst .node)), (22, (.lst .node)), (23, .i64), (24, .i64)], [(8, .box [.ref (.fn 46)]), (9, .box [.ref (.fn 37)]), (21, .arr 43 .node)], []⟩
noncomputable def X_q23z_s0 : Tm := ⟨[(8, .ptr 8 0), (12, .own 21)], [(2, (.lst .node))], [(8, .box [.ref (.fn 46)]), (21, .arr 43 .node)], []⟩
noncomputable def R_q23z_s0 : Tm := ⟨[], [(10, (.lst .node)), (11, .bool)], [], []⟩
noncomputable def L_q23z_s0 {ρ : Type} (n : Nat) : LOrc ρ := lorcNil
omit [Tabs] [QuietD Tryz.prog] [UDef] [UTabs] in
theorem s_q23z_s0 {ρ : Type} (n : Nat) (rec : T_q23z_s0.den → Option ρ) kx kr s : dStep Tryz.prog 62 TT M_q23z (O_q23z n) (L_q23z_s0 n) dorcNil 0 (lbody 1000 C_q23z 0) T_q23z_s0 X_q23z_s0 R_q23z_s0 ⟨[], [], []⟩ rec kx kr s = q23z_s0 n rec kx kr s := by kernel_rfl
noncomputable def T_q23z_s2 : Tm := ⟨[(8, .ptr 8 0), (12, .own 21)], [(39, (.lst .node)), (40, .i64), (41, .i64)], [(8, .box [.ref (.fn 46)]), (21, .arr 43 .node)], []⟩
noncomputable def X_q23z_s2 : Tm := ⟨[(12, .own 21)], [], [(21, .arr 43 .node)], []⟩
noncomputable def R_q23z_s2 : Tm := ⟨[], [(10, (.lst .node)), (11, .bool)], [], []⟩
noncomputable def L_q23z_s2 {ρ : Type} (n : Nat) : LOrc ρ := lorcNil
omit [Tabs] [QuietD Tryz.prog] [UDef] [UTabs] in
theorem s_q23z_s2 {ρ : Type} (n : Nat) (rec : T_q23z_s2.den → Option ρ) kx kr s : dStep Tryz.prog 62 TT M_q23z (O_q23z n) (L_q23z_s2 n) dorcNil 2 (lbody 1000 C_q23z 1) T_q23z_s2 X_q23z_s2 R_q23z_s2 ⟨[], [], []⟩ rec kx kr s = q23z_s2 n rec kx kr s := by kernel_rfl
noncomputable def L_q23z {ρ : Type} (n : Nat) : LOrc ρ := lorcCons 0 (loopL 62 0 n T_q23z_s0 X_q23z_s0 R_q23z_s0 ⟨[], [], []⟩ (q23z_s0 n)) (lorcCons 2 (loopL 62 2 n T_q23z_s2 X_q23z_s2 R_q23z_s2 ⟨[], [], []⟩ (q23z_s2 n)) (lorcNil))
omit [Tabs] [QuietD Tryz.prog] [UDef] [UTabs] in
theorem e_q23z (n : Nat) (x) : evF Tryz.prog 62 TT M_q23z F_q23z (O_q23z n) (L_q23z n) dorcNil ⟨[], [], []⟩ [.tmp 10, .tmp 11] C_q23z x = q23z n x := by kernel_rfl
omit [UDef] [UTabs] in
theorem ok_q23z (n : Nat) : Contract Tryz.prog 45 F_q23z (q23z n) :=
  Contract.of_ev (c := C_q23z) (N := 62) Tryz.func45 (by kernel_rfl) (by kernel_rfl) (by kernel_rfl) (by kernel_rfl) (O_q23z_ok n) dorcNil_ok (.of (l := [(0, (lbody 1000 C_q23z 0)), (2, (lbody 1000 C_q23z 1))]) (by kernel_rfl) ⟨.head (loopL_sound (O_q23z_ok n) dorcNil_ok (.of (l := []) (by kernel_rfl) trivial) (s_q23z_s0 n)), ⟨.tail rfl (.head (loopL_sound (O_q23z_ok n) dorcNil_ok (.of (l := []) (by kernel_rfl) trivial) (s_q23z_s2 n))), trivial⟩⟩) (e_q23z n)

noncomputable def F_q22z : FnT := ⟨5, ⟨[(3, .fn 48), (4, .fn 40)], [(0, (.lst .edg)), (1, (.lst .edg)), (2, (.lst .edg))], [], []⟩, [.v (.lst .edg), .v .bool], []⟩
noncomputable def F_q24z : FnT := ⟨1, ⟨[], [(0, (.lst .edg))], [], []⟩, [.ref (.own 5)], [(5, .arr 47 .edg)]⟩
noncomputable def C_q24z : Code := bodyOf Tryz.f21
noncomputable def M_q24z : List (Nat × ArgM) := []
instance : DfOk M_q24z := .none rfl
noncomputable def O_q24z {ρ : Type} : Orc ρ := orcNil
omit [QuietD Tryz.prog] [UDef] [UTabs] in
theorem O_q24z_ok {ρ : Type} : (O_q24z : Orc ρ).ok Tryz.prog := orcNil_ok
noncomputable def L_q24z {ρ : Type} : LOrc ρ := lorcNil
omit [Tabs] [QuietD Tryz.prog] [UDef] [UTabs] in
theorem e_q24z (x) : evF Tryz.prog 8 TT M_q24z F_q24z (O_q24z) (L_q24z) dorcNil ⟨[], [(2, 5, 47, 5)], []⟩ [.tmp 2] C_q24z x = q24z x := by kernel_rfl
omit [UDef] [UTabs] in
theorem ok_q24z : Contract Tryz.prog 21 F_q24z (q24z) :=
  Contract.of_ev (c := C_q24z) (N := 8) Tryz.func21 (by kernel_rfl) (by kernel_rfl) (by kernel_rfl) (by kernel_rfl) (O_q24z_ok) dorcNil_ok (.of (l := []) (by kernel_rfl) trivial) (e_q24z)

noncomputable def F_q13z : FnT := ⟨2, ⟨[(0, .own 2000000), (1, .clo 86 [1000016, 1000017])], [], [(2000000, .arr 47 .edg), (1000016, .box [.ref (.fn 40)]), (1000017, .box [.d .edg])], []⟩, [.v .i64], [(2000000, .arr 47 .edg), (1000016, .box [.ref (.fn 40)]), (1000017, .box [.d .edg])]⟩
noncomputable def F_q44z : FnT := ⟨3, ⟨[(1, .ptr 1000000 0), (2, .ptr 1000016 0)], [(0, .edg)], [(1000000, .box [.ref (.fn 40)]), (1000016, .box [.d .edg])], []⟩, [.v .bool], [(1000000, .box [.ref (.fn 40)]), (1000016, .box [.d .edg])]⟩
noncomputable def C_q44z : Code := bodyOf Tryz.f86
noncomputable def M_q44z : List (Nat × ArgM) := [(40, ⟨[], [], [], true⟩)]
instance : DfOk M_q44z := .none rfl
noncomputable def O_q44z {ρ : Type} (n : Nat) : Orc ρ := orcCons 40 F_q69z (q69z n) (orcNil)
omit [UDef] [UTabs] in
theorem O_q44z_ok {ρ : Type} (n : Nat) : (O_q44z n : Orc ρ).ok Tryz.prog := orcCons_ok (by kernel_rfl) (ok_q69z n) (orcNil_ok)
noncomputable def L_q44z {ρ : Type} (n : Nat) : LOrc ρ := lorcNil
omit [Tabs] [QuietD Tryz.prog] [UDef] [UTabs] in
theorem e_q44z (n : Nat) (x) : evF Tryz.prog 9 TT M_q44z F_q44z (O_q44z n) (L_q44z n) dorcNil ⟨[], [], []⟩ [.tmp 4] C_q44z x = q44z n x := by kernel_rfl
omit [UDef] [UTabs] in
theorem ok_q44z (n : Nat) : Contract Tryz.prog 86 F_q44z (q44z n) :=
  Contract.of_ev (c := C_q44z) (N := 9) Tryz.func86 (by kernel_rfl) (by kernel_rfl) (by kernel_rfl) (by kernel_rfl) (O_q44z_ok n) dorcNil_ok (.of (l := []) (by kernel_rfl) trivial) (e_q44z n)

noncomputable def C_q13z : Code := bodyOf Tryz.f26
noncomputable def M_q13z : List (Nat × ArgM) := [(999999999, ⟨[1], [], [], false⟩), (86, ⟨[1, 2], [], [], false⟩)]
instance : DfOk M_q13z := .none rfl
noncomputable def O_q13z {ρ : Type} (n : Nat) : Orc ρ := orcCons 86 F_q44z (q44z n) (orcNil)
omit [UDef] [UTabs] in
theorem O_q13z_ok {ρ : Type} (n : Nat) : (O_q13z n : Orc ρ).ok Tryz.prog := orcCons_ok (by kernel_rfl) (ok_q44z n) (orcNil_ok)
noncomputable def T_q13z_s0 : Tm := ⟨[(0, .own 2000000), (1, .clo 86 [1000016, 1000017])], [(7, .i64), (8, .i64)], [(1000016, .box [.ref (.fn 40)]), (1000017, .box [.d .edg]), (2000000, .arr 47 .edg)], []⟩
noncomputable def X_q13z_s0 : Tm := ⟨[], [], [(1000016, .box [.ref (.fn 40)]), (1000017, .box [.d .edg]), (2000000, .arr 47 .edg)], []⟩
noncomputable def R_q13z_s0 : Tm := ⟨[], [(4, .i64)], [(1000016, .box [.ref (.fn 40)]), (1000017, .box [.d .edg]), (2000000, .arr 47 .edg)], []⟩
noncomputable def L_q13z_s0 {ρ : Type} (n : Nat) : LOrc ρ := lorcNil
omit [Tabs] [QuietD Tryz.prog] [UDef] [UTabs] in
theorem s_q13z_s0 {ρ : Type} (n : Nat) (rec : T_q13z_s0.den → Option ρ) kx kr s : dStep Tryz.prog 19 TT M_q13z (O_q13z n) (L_q13z_s0 n) dorcNil 0 (lbody 1000 C_q13z 0) T_q13z_s0 X_q13z_s0 R_q13z_s0 ⟨[], [], []⟩ rec kx kr s = q13z_s0 n rec kx kr s := by kernel_rfl
noncomputable def L_q13z {ρ : Type} (n : Nat) : LOrc ρ := lorcCons 0 (loopL 19 0 n T_q13z_s0 X_q13z_s0 R_q13z_s0 ⟨[], [], []⟩ (q13z_s0 n)) (lorcNil)
omit [Tabs] [QuietD Tryz.prog] [UDef] [UTabs] in
theorem e_q13z (n : Nat) (x) : evF Tryz.prog 19 TT M_q13z F_q13z (O_q13z n) (L_q13z n) dorcNil ⟨[], [], []⟩ [.tmp 4] C_q13z x = q13z n x := by kernel_rfl
omit [UDef] [UTabs] in
theorem ok_q13z (n : Nat) : Contract Tryz.prog 26 F_q13z (q13z n) :=
  Contract.of_ev (c := C_q13z) (N := 19) Tryz.func26 (by kernel_rfl) (by kernel_rfl) (by kernel_rfl) (by kernel_rfl) (O_q13z_ok n) dorcNil_ok (.of (l := [(0, (lbody 1000 C_q13z 0))]) (by kernel_rfl) ⟨.head (loopL_sound (O_q13z_ok n) dorcNil_ok (.of (l := []) (by kernel_rfl) trivial) (s_q13z_s0 n)), trivial⟩) (e_q13z n)

noncomputable def F_q89z : FnT := ⟨1, ⟨[], [(0, .edg)], [], []⟩, [.v .i64], []⟩
noncomputable def C_q89z : Code := bodyOf Tryz.f48
noncomputable def M_q89z : List (Nat × ArgM) := []
instance : DfOk M_q89z := .none rfl
noncomputable def O_q89z {ρ : Type} : Orc ρ := orcNil
omit [QuietD Tryz.prog] [UDef] [UTabs] in
theorem O_q89z_ok {ρ : Type} : (O_q89z : Orc ρ).ok Tryz.prog := orcNil_ok
noncomputable def L_q89z {ρ : Type} : LOrc ρ := lorcNil
omit [Tabs] [QuietD Tryz.prog] [UDef] [UTabs] in
theorem e_q89z (x) : evF Tryz.prog 5 TT M_q89z F_q89z (O_q89z) (L_q89z) dorcNil ⟨[], [], []⟩ [.tmp 2] C_q89z x = q89z x := by kernel_rfl
omit [UDef] [UTabs] in
theorem ok_q89z : Contract Tryz.prog 48 F_q89z (q89z) :=
  Contract.of_ev (c := C_q89z) (N := 5) Tryz.func48 (by kernel_rfl) (by kernel_rfl) (by kernel_rfl) (by kernel_rfl) (O_q89z_ok) dorcNil_ok (.of (l := []) (by kernel_rfl) trivial) (e_q89z)

noncomputable def F_q3z : FnT := ⟨3, ⟨[(0, .own 2000000), (2, .clo 88 [1000016])], [(1, .i64)], [(2000000, .arr 47 .edg), (1000016, .box [.ref (.fn 48)])], []⟩, [.v .i64, .v .bool], [(2000000, .arr 47 .edg), (1000016, .box [.ref (.fn 48)])]⟩
noncomputable def F_q45z : FnT := ⟨3, ⟨[(2, .ptr 1000000 0)], [(0, .edg), (1, .i64)], [(1000000, .box [.ref (.fn 48)])], []⟩, [.v .i64], [(1000000, .box [.ref (.fn 48)])]⟩
noncomputable def C_q45z : Code := bodyOf Tryz.f88
noncomputable def M_q45z : List (Nat × ArgM) := [(48, ⟨[], [], [], true⟩), (84, ⟨[], [], [], true⟩)]
instance : DfOk M_q45z := .none rfl
noncomputable def O_q45z {ρ : Type} : Orc ρ := orcCons 48 F_q89z (q89z) (orcCons 84 F_q62z (q62z) (orcNil))
omit [UDef] [UTabs] in
theorem O_q45z_ok {ρ : Type} : (O_q45z : Orc ρ).ok Tryz.prog := orcCons_ok (by kernel_rfl) (ok_q89z) (orcCons_ok (by kernel_rfl) (ok_q62z) (orcNil_ok))
noncomputable def L_q45z {ρ : Type} : LOrc ρ := lorcNil
omit [Tabs] [QuietD Tryz.prog] [UDef] [UTabs] in
theorem e_q45z (x) : evF Tryz.prog 11 TT M_q45z F_q45z (O_q45z) (L_q45z) dorcNil ⟨[], [], []⟩ [.tmp 5] C_q45z x = q45z x := by kernel_rfl
omit [UDef] [UTabs] in
theorem ok_q45z : Contract Tryz.prog 88 F_q45z (q45z) :=
  Contract.of_ev (c := C_q45z) (N := 11) Tryz.func88 (by kernel_rfl) (by kernel_rfl) (by kernel_rfl) (by kernel_rfl) (O_q45z_ok) dorcNil_ok (.of (l := []) (by kernel_rfl) trivial) (e_q45z)

noncomputable def C_q3z : Code := bodyOf Tryz.f87
noncomputable def M_q3z : List (Nat × ArgM) := [(999999999, ⟨[1], [], [], false⟩), (88, ⟨[2], [], [], false⟩)]
instance : DfOk M_q3z := .none rfl
noncomputable def O_q3z {ρ : Type} (n : Nat) : Orc ρ := orcCons 88 F_q45z (q45z) (orcNil)
omit [UDef] [UTabs] in
theorem O_q3z_ok {ρ : Type} (n : Nat) : (O_q3z n : Orc ρ).ok Tryz.prog := orcCons_ok (by kernel_rfl) (ok_q45z) (orcNil_ok)
noncomputable def T_q3z_s0 : Tm := ⟨[(0, .own 2000000), (2, .clo 88 [1000016])], [(1, .i64), (8, .i64), (9, .i64), (10, .i64)], [(1000016, .box [.ref (.fn 48)]), (2000000, .arr 47 .edg)], []⟩
noncomputable def X_q3z_s0 : Tm := ⟨[(0, .own 2000000), (2, .clo 88 [1000016])], [(1, .i64), (8, .i64), (9, .i64)], [(1000016, .box [.ref (.fn 48)]), (2000000, .arr 47 .edg)], []⟩
noncomputable def R_q3z_s0 : Tm := ⟨[], [], [], []⟩
noncomputable def L_q3z_s0 {ρ : Type} (n : Nat) : LOrc ρ := lorcNil
omit [Tabs] [QuietD Tryz.prog] [UDef] [UTabs] in
theorem s_q3z_s0 {ρ : Type} (n : Nat) (rec : T_q3z_s0.den → Option ρ) kx kr s : dStep Tryz.prog 49 TT M_q3z (O_q3z n) (L_q3z_s0 n) dorcNil 0 (lbody 1000 C_q3z 0) T_q3z_s0 X_q3z_s0 R_q3z_s0 ⟨[], [], []⟩ rec kx kr s = q3z_s0 n rec kx kr s := by kernel_rfl
noncomputable def L_q3z {ρ : Type} (n : Nat) : LOrc ρ := lorcCons 0 (loopL 49 0 n T_q3z_s0 X_q3z_s0 R_q3z_s0 ⟨[], [], []⟩ (q3z_s0 n)) (lorcNil)
omit [Tabs] [QuietD Tryz.prog] [UDef] [UTabs] in
theorem e_q3z (n : Nat) (x) : evF Tryz.prog 49 TT M_q3z F_q3z (O_q3z n) (L_q3z n) dorcNil ⟨[], [], []⟩ [.tmp 6, .tmp 7] C_q3z x = q3z n x := by kernel_rfl
omit [UDef] [UTabs] in
theorem ok_q3z (n : Nat) : Contract Tryz.prog 87 F_q3z (q3z n) :=
  Contract.of_ev (c := C_q3z) (N := 49) Tryz.func87 (by kernel_rfl) (by kernel_rfl) (by kernel_rfl) (by kernel_rfl) (O_q3z_ok n) dorcNil_ok (.of (l := [(0, (lbody 1000 C_q3z 0))]) (by kernel_rfl) ⟨.head (loopL_sound (O_q3z_ok n) dorcNil_ok (.of (l := []) (by kernel_rfl) trivial) (s_q3z_s0 n)), trivial⟩) (e_q3z n)

noncomputable def C_q22z : Code := bodyOf Tryz.f47
noncomputable def M_q22z : List (Nat × ArgM) := [(999999999, ⟨[1], [], [], false⟩), (26, ⟨[1000, 1], [], [], false⟩), (87, ⟨[1000, 2], [], [], false⟩), (89, ⟨[0, 1002], [⟨0, 1000000, 47, 5⟩], [], false⟩), (28, ⟨[0], [⟨0, 1000000, 47, 5⟩], [], false⟩), (21, ⟨[], [], [5], false⟩), (48, ⟨[], [], [], true⟩)]
instance : DfOk M_q22z := .none rfl
noncomputable def O_q22z {ρ : Type} (n : Nat) : Orc ρ := orcCons 21 F_q24z (q24z) (orcCons 26 F_q13z (q13z n) (orcCons 28 (F_del 47 .edg) (delN) (orcCons 48 F_q89z (q89z) (orcCons 87 F_q3z (q3z n) (orcCons 89 (F_ins 47 .edg) (insN) (orcNil))))))
omit [UDef] [UTabs] in
theorem O_q22z_ok {ρ : Type} (n : Nat) : (O_q22z n : Orc ρ).ok Tryz.prog := orcCons_ok (by kernel_rfl) (ok_q24z) (orcCons_ok (by kernel_rfl) (ok_q13z n) (orcCons_ok (by kernel_rfl) (delN28_ok) (orcCons_ok (by kernel_rfl) (ok_q89z) (orcCons_ok (by kernel_rfl) (ok_q3z n) (orcCons_ok (by kernel_rfl) (insN89_ok) (orcNil_ok))))))
noncomputable def T_q22z_s0 : Tm := ⟨[(8, .ptr 8 0), (9, .ptr 9 0), (12, .own 21)], [(2, (.lst .edg)), (22, (.lst .edg)), (23, .i64), (24, .i64)], [(8, .box [.ref (.fn 48)]), (9, .box [.ref (.fn 40)]), (21, .arr 47 .edg)], []⟩
noncomputable def X_q22z_s0 : Tm := ⟨[(8, .ptr 8 0), (12, .own 21)], [(2, (.lst .edg))], [(8, .box [.ref (.fn 48)]), (21, .arr 47 .edg)], []⟩
noncomputable def R_q22z_s0 : Tm := ⟨[], [(10, (.lst .edg)), (11, .bool)], [], []⟩
noncomputable def L_q22z_s0 {ρ : Type} (n : Nat) : LOrc ρ := lorcNil
omit [Tabs] [QuietD Tryz.prog] [UDef] [UTabs] in
theorem s_q22z_s0 {ρ : Type} (n : Nat) (rec : T_q22z_s0.den → Option ρ) kx kr s : dStep Tryz.prog 62 TT M_q22z (O_q22z n) (L_q22z_s0 n) dorcNil 0 (lbody 1000 C_q22z 0) T_q22z_s0 X_q22z_s0 R_q22z_s0 ⟨[], [], []⟩ rec kx kr s = q22z_s0 n rec kx kr s := by kernel_rfl
noncomputable def T_q22z_s2 : Tm := ⟨[(8, .ptr 8 0), (12, .own 21)], [(39, (.lst .edg)), (40, .i64), (41, .i64)], [(8, .box [.ref (.fn 48)]), (21, .arr 47 .edg)], []⟩
noncomputable def X_q22z_s2 : Tm := ⟨[(12, .own 21)], [], [(21, .arr 47 .edg)], []⟩
noncomputable def R_q22z_s2 : Tm := ⟨[], [(10, (.lst .edg)), (11, .bool)], [], []⟩
noncomputable def L_q22z_s2 {ρ : Type} (n : Nat) : LOrc ρ := lorcNil
omit [Tabs] [QuietD Tryz.prog] [UDef] [UTabs] in
theorem s_q22z_s2 {ρ : Type} (n : Nat) (rec : T_q22z_s2.den → Option ρ) kx kr s : dStep Tryz.prog 62 TT M_q22z (O_q22z n) (L_q22z_s2 n) dorcNil 2 (lbody 1000 C_q22z 1) T_q22z_s2 X_q22z_s2 R_q22z_s2 ⟨[], [], []⟩ rec kx kr s = q22z_s2 n rec kx kr s := by kernel_rfl
noncomputable def L_q22z {ρ : Type} (n : Nat) : LOrc ρ := lorcCons 0 (loopL 62 0 n T_q22z_s0 X_q22z_s0 R_q22z_s0 ⟨[], [], []⟩ (q22z_s0 n)) (lorcCons 2 (loopL 62 2 n T_q22z_s2 X_q22z_s2 R_q22z_s2 ⟨[], [], []⟩ (q22z_s2 n)) (lorcNil))
omit [Tabs] [QuietD Tryz.prog] [UDef] [UTabs] in
theorem e_q22z (n : Nat) (x) : evF Tryz.prog 62 TT M_q22z F_q22z (O_q22z n) (L_q22z n) dorcNil ⟨[], [], []⟩ [.tmp 10, .tmp 11] C_q22z x = q22z n x := by kernel_rfl
omit [UDef] [UTabs] in
theorem ok_q22z (n : Nat) : Contract Tryz.prog 47 F_q22z (q22z n) :=
  Contract.of_ev (c := C_q22z) (N := 62) Tryz.func47 (by kernel_rfl) (by kernel_rfl) (by kernel_rfl) (by kernel_rfl) (O_q22z_ok n) dorcNil_ok (.of (l := [(0, (lbody 1000 C_q22z 0)), (2, (lbody 1000 C_q22z 1))]) (by kernel_rfl) ⟨.head (loopL_sound (O_q22z_ok n) dorcNil_ok (.of (l := []) (by kernel_rfl) trivial) (s_q22z_s0 n)), ⟨.tail rfl (.head (loopL_sound (O_q22z_ok n) dorcNil_ok (.of (l := []) (by kernel_rfl) trivial) (s_q22z_s2 n))), trivial⟩⟩) (e_q22z n)

noncomputable def F_q85z : FnT := ⟨1, ⟨[], [(0, .graph)], [], []⟩, [.v .graph], []⟩
noncomputable def C_q85z : Code := bodyOf Tryz.f49
noncomputable def M_q85z : List (Nat × ArgM) := []
instance : DfOk M_q85z := .none rfl
noncomputable def O_q85z {ρ : Type} (n : Nat) : Orc ρ := orcCons 38 F_q67z (q67z n) (orcCons 41 F_q66z (q66z n) (orcNil))
omit [UDef] [UTabs] in
theorem O_q85z_ok {ρ : Type} (n : Nat) : (O_q85z n : Orc ρ).ok Tryz.prog := orcCons_ok (by kernel_rfl) (ok_q67z n) (orcCons_ok (by kernel_rfl) (ok_q66z n) (orcNil_ok))
noncomputable def T_q85z_s0 : Tm := ⟨[(1, .ptr 1 0), (2, .ptr 2 0), (3, .ptr 3 0)], [(12, (.lst .node)), (13, .i64), (14, .i64)], [(1, .box [.d .graph]), (2, .box [.d .graph]), (3, .box [.ref (.own 300120), .ref (.nils), .d .i64]), (300120, .arr 43 .node)], []⟩
noncomputable def X_q85z_s0 : Tm := ⟨[(1, .ptr 1 0), (2, .ptr 2 0), (3, .ptr 3 0)], [], [(1, .box [.d .graph]), (2, .box [.d .graph]), (3, .box [.ref (.own 300120), .ref (.nils), .d .i64]), (300120, .arr 43 .node)], []⟩
noncomputable def R_q85z_s0 : Tm := ⟨[], [], [], []⟩
noncomputable def L_q85z_s0 {ρ : Type} (n : Nat) : LOrc ρ := lorcNil
omit [Tabs] [QuietD Tryz.prog] [UDef] [UTabs] in
theorem s_q85z_s0 {ρ : Type} (n : Nat) (rec : T_q85z_s0.den → Option ρ) kx kr s : dStep Tryz.prog 42 TT M_q85z (O_q85z n) (L_q85z_s0 n) (evDraw Tryz.prog 42 TT M_q85z (O_q85z n)) 0 (lbody 1000 C_q85z 0) T_q85z_s0 X_q85z_s0 R_q85z_s0 ⟨[], [], [(3, 0, 300120, 43, 3)]⟩ rec kx kr s = q85z_s0 n rec kx kr s := by kernel_rfl
noncomputable def T_q85z_s2 : Tm := ⟨[(2, .ptr 2 0), (3, .ptr 3 0)], [(27, (.lst .edg)), (28, .i64), (29, .i64)], [(2, .box [.d .graph]), (3, .box [.ref (.own 300120), .ref (.own 300121), .d .i64]), (300120, .arr 43 .node), (300121, .arr 47 .edg)], []⟩
noncomputable def X_q85z_s2 : Tm := ⟨[(2, .ptr 2 0), (3, .ptr 3 0)], [], [(2, .box [.d .graph]), (3, .box [.ref (.own 300120), .ref (.own 300121), .d .i64]), (300120, .arr 43 .node), (300121, .arr 47 .edg)], []⟩
noncomputable def R_q85z_s2 : Tm := ⟨[], [], [], []⟩
noncomputable def L_q85z_s2 {ρ : Type} (n : Nat) : LOrc ρ := lorcNil
omit [Tabs] [QuietD Tryz.prog] [UDef] [UTabs] in
theorem s_q85z_s2 {ρ : Type} (n : Nat) (rec : T_q85z_s2.den → Option ρ) kx kr s : dStep Tryz.prog 42 TT M_q85z (O_q85z n) (L_q85z_s2 n) (evDraw Tryz.prog 42 TT M_q85z (O_q85z n)) 2 (lbody 1000 C_q85z 1) T_q85z_s2 X_q85z_s2 R_q85z_s2 ⟨[], [], [(3, 1, 300121, 47, 5)]⟩ rec kx kr s = q85z_s2 n rec kx kr s := by kernel_rfl
noncomputable def L_q85z {ρ : Type} (n : Nat) : LOrc ρ := lorcCons 0 (loopL 42 0 n T_q85z_s0 X_q85z_s0 R_q85z_s0 ⟨[], [], [(3, 0, 300120, 43, 3)]⟩ (q85z_s0 n)) (lorcCons 2 (loopL 42 2 n T_q85z_s2 X_q85z_s2 R_q85z_s2 ⟨[], [], [(3, 1, 300121, 47, 5)]⟩ (q85z_s2 n)) (lorcNil))
omit [Tabs] [QuietD Tryz.prog] [UDef] [UTabs] in
theorem e_q85z (n : Nat) (x) : evF Tryz.prog 42 TT M_q85z F_q85z (O_q85z n) (L_q85z n) (evDraw Tryz.prog 42 TT M_q85z (O_q85z n)) ⟨[], [], []⟩ [.cell 2 25] C_q85z x = q85z n x := by kernel_rfl
omit [UDef] [UTabs] in
theorem ok_q85z (n : Nat) : Contract Tryz.prog 49 F_q85z (q85z n) :=
  Contract.of_ev (c := C_q85z) (N := 42) Tryz.func49 (by kernel_rfl) (by kernel_rfl) (by kernel_rfl) (by kernel_rfl) (O_q85z_ok n) (evDraw_ok (O_q85z_ok n) (by kernel_rfl)) (.of (l := [(0, (lbody 1000 C_q85z 0)), (2, (lbody 1000 C_q85z 1))]) (by kernel_rfl) ⟨.head (loopL_sound (O_q85z_ok n) (evDraw_ok (O_q85z_ok n) (by kernel_rfl)) (.of (l := []) (by kernel_rfl) trivial) (s_q85z_s0 n)), ⟨.tail rfl (.head (loopL_sound (O_q85z_ok n) (evDraw_ok (O_q85z_ok n) (by kernel_rfl)) (.of (l := []) (by kernel_rfl) trivial) (s_q85z_s2 n))), trivial⟩⟩) (e_q85z n)

noncomputable def C_txn_Turn : Code := bodyOf Tryz.f9
noncomputable def M_txn_Turn : List (Nat × ArgM) := [(35, ⟨[], [], [], true⟩)]
instance : DfOk M_txn_Turn := .none rfl
noncomputable def O_txn_Turn {ρ : Type} (n : Nat) : Orc ρ := orcCons 35 F_q76z (q76z n) (orcCons 45 F_q23z (q23z n) (orcCons 47 F_q22z (q22z n) (orcCons 49 F_q85z (q85z n) (orcNil))))
omit [UDef] in
theorem O_txn_Turn_ok {ρ : Type} (n : Nat) : (O_txn_Turn n : Orc ρ).ok Tryz.prog := orcCons_ok (by kernel_rfl) (ok_q76z n) (orcCons_ok (by kernel_rfl) (ok_q23z n) (orcCons_ok (by kernel_rfl) (ok_q22z n) (orcCons_ok (by kernel_rfl) (ok_q85z n) (orcNil_ok))))
noncomputable def T_txn_Turn_s0 : Tm := ⟨[(2, .ptr 2 0), (3, .ptr 3 0), (4, .ptr 4 0)], [(33, .pair), (34, .i64)], [(2, .box [.d .graph]), (3, .box [.d .delta]), (4, .box [.d .graph])], []⟩
noncomputable def X_txn_Turn_s0 : Tm := ⟨[(2, .ptr 2 0), (3, .ptr 3 0), (4, .ptr 4 0)], [], [(2, .box [.d .graph]), (3, .box [.d .delta]), (4, .box [.d .graph])], []⟩
noncomputable def R_txn_Turn_s0 : Tm := ⟨[(4, .ptr 4 0)], [(5, .i64)], [(4, .box [.d .graph])], []⟩
noncomputable def L_txn_Turn_s0 {ρ : Type} (n : Nat) : LOrc ρ := lorcNil
omit [Tabs] [QuietD Tryz.prog] [UDef] [UTabs] in
theorem s_txn_Turn_s0 {ρ : Type} (n : Nat) (rec : T_txn_Turn_s0.den → Option ρ) kx kr s : dStep Tryz.prog 81 TT M_txn_Turn (O_txn_Turn n) (L_txn_Turn_s0 n) dorcNil 0 (lbody 1000 C_txn_Turn 0) T_txn_Turn_s0 X_txn_Turn_s0 R_txn_Turn_s0 ⟨[], [], []⟩ rec kx kr s = txn_Turn_s0 n rec kx kr s := by kernel_rfl
noncomputable def L_txn_Turn {ρ : Type} (n : Nat) : LOrc ρ := lorcCons 0 (loopL 81 0 n T_txn_Turn_s0 X_txn_Turn_s0 R_txn_Turn_s0 ⟨[], [], []⟩ (txn_Turn_s0 n)) (lorcNil)
omit [Tabs] [QuietD Tryz.prog] [UDef] [UTabs] in
theorem e_txn_Turn (n : Nat) (x) : evF Tryz.prog 81 TT M_txn_Turn F_txn_Turn (O_txn_Turn n) (L_txn_Turn n) dorcNil ⟨[], [], []⟩ [.cell 4 25, .tmp 5] C_txn_Turn x = txn_Turn n x := by kernel_rfl
omit [UDef] in
theorem ok_txn_Turn (n : Nat) : Contract Tryz.prog 9 F_txn_Turn (txn_Turn n) :=
  Contract.of_ev (c := C_txn_Turn) (N := 81) Tryz.func9 (by kernel_rfl) (by kernel_rfl) (by kernel_rfl) (by kernel_rfl) (O_txn_Turn_ok n) dorcNil_ok (.of (l := [(0, (lbody 1000 C_txn_Turn 0))]) (by kernel_rfl) ⟨.head (loopL_sound (O_txn_Turn_ok n) dorcNil_ok (.of (l := []) (by kernel_rfl) trivial) (s_txn_Turn_s0 n)), trivial⟩) (e_txn_Turn n)

noncomputable def F_txn_Back : FnT := ⟨1, ⟨[], [(0, .delta)], [], []⟩, [.v .delta], []⟩
noncomputable def C_txn_Back : Code := bodyOf Tryz.f11
noncomputable def M_txn_Back : List (Nat × ArgM) := []
instance : DfOk M_txn_Back := .none rfl
noncomputable def O_txn_Back {ρ : Type} (n : Nat) : Orc ρ := orcCons 38 F_q67z (q67z n) (orcCons 41 F_q66z (q66z n) (orcNil))
omit [UDef] [UTabs] in
theorem O_txn_Back_ok {ρ : Type} (n : Nat) : (O_txn_Back n : Orc ρ).ok Tryz.prog := orcCons_ok (by kernel_rfl) (ok_q67z n) (orcCons_ok (by kernel_rfl) (ok_q66z n) (orcNil_ok))
noncomputable def T_txn_Back_s2 : Tm := ⟨[(1, .ptr 1 0), (2, .ptr 2 0), (3, .ptr 3 0), (5, .ptr 5 0)], [(26, .i64), (30, (.lst .node)), (31, .i64), (32, .i64)], [(1, .box [.d .delta]), (2, .box [.d .delta]), (3, .box [.ref (.nils), .ref (.own 300121), .ref (.nils), .ref (.nils), .d .i64, .d .i64]), (5, .box [.d (.lst .node), .ref (.ptr 3 1)]), (300121, .arr 43 .node)], [(25, [.d (.lst .node), .ref (.ptr 3 1), .d (.lst .node), .ref (.ptr 3 0)])]⟩
noncomputable def X_txn_Back_s2 : Tm := ⟨[(1, .ptr 1 0), (2, .ptr 2 0), (3, .ptr 3 0)], [(26, .i64)], [(1, .box [.d .delta]), (2, .box [.d .delta]), (3, .box [.ref (.nils), .ref (.own 300121), .ref (.nils), .ref (.nils), .d .i64, .d .i64]), (300121, .arr 43 .node)], [(25, [.d (.lst .node), .ref (.ptr 3 1), .d (.lst .node), .ref (.ptr 3 0)])]⟩
noncomputable def R_txn_Back_s2 : Tm := ⟨[], [], [], []⟩
noncomputable def L_txn_Back_s2 {ρ : Type} (n : Nat) : LOrc ρ := lorcNil
omit [Tabs] [QuietD Tryz.prog] [UDef] [UTabs] in
theorem s_txn_Back_s2 {ρ : Type} (n : Nat) (rec : T_txn_Back_s2.den → Option ρ) kx kr s : dStep Tryz.prog 80 TT M_txn_Back (O_txn_Back n) (L_txn_Back_s2 n) (evDraw Tryz.prog 80 TT M_txn_Back (O_txn_Back n)) 2 (lbody 0 (lbody 1000 C_txn_Back 0) 0) T_txn_Back_s2 X_txn_Back_s2 R_txn_Back_s2 ⟨[], [], [(3, 1, 300121, 43, 3)]⟩ rec kx kr s = txn_Back_s2 n rec kx kr s := by kernel_rfl
noncomputable def T_txn_Back_s2v0 : Tm := ⟨[(1, .ptr 1 0), (2, .ptr 2 0), (3, .ptr 3 0), (5, .ptr 5 0)], [(26, .i64), (30, (.lst .node)), (31, .i64), (32, .i64)], [(1, .box [.d .delta]), (2, .box [.d .delta]), (3, .box [.ref (.own 300120), .ref (.own 300121), .ref (.nils), .ref (.nils), .d .i64, .d .i64]), (5, .box [.d (.lst .node), .ref (.ptr 3 0)]), (300120, .arr 43 .node), (300121, .arr 43 .node)], [(25, [.d (.lst .node), .ref (.ptr 3 1), .d (.lst .node), .ref (.ptr 3 0)])]⟩
noncomputable def X_txn_Back_s2v0 : Tm := ⟨[(1, .ptr 1 0), (2, .ptr 2 0), (3, .ptr 3 0)], [(26, .i64)], [(1, .box [.d .delta]), (2, .box [.d .delta]), (3, .box [.ref (.own 300120), .ref (.own 300121), .ref (.nils), .ref (.nils), .d .i64, .d .i64]), (300120, .arr 43 .node), (300121, .arr 43 .node)], [(25, [.d (.lst .node), .ref (.ptr 3 1), .d (.lst .node), .ref (.ptr 3 0)])]⟩
noncomputable def R_txn_Back_s2v0 : Tm := ⟨[], [], [], []⟩
noncomputable def L_txn_Back_s2v0 {ρ : Type} (n : Nat) : LOrc ρ := lorcNil
omit [Tabs] [QuietD Tryz.prog] [UDef] [UTabs] in
theorem s_txn_Back_s2v0 {ρ : Type} (n : Nat) (rec : T_txn_Back_s2v0.den → Option ρ) kx kr s : dStep Tryz.prog 80 TT M_txn_Back (O_txn_Back n) (L_txn_Back_s2v0 n) (evDraw Tryz.prog 80 TT M_txn_Back (O_txn_Back n)) 2 (lbody 0 (lbody 1000 C_txn_Back 0) 0) T_txn_Back_s2v0 X_txn_Back_s2v0 R_txn_Back_s2v0 ⟨[], [], [(3, 0, 300120, 43, 3)]⟩ rec kx kr s = txn_Back_s2v0 n rec kx kr s := by kernel_rfl
noncomputable def T_txn_Back_s2v1 : Tm := ⟨[(1, .ptr 1 0), (2, .ptr 2 0), (3, .ptr 3 0), (5, .ptr 5 0)], [(26, .i64), (30, (.lst .node)), (31, .i64), (32, .i64)], [(1, .box [.d .delta]), (2, .box [.d .delta]), (3, .box [.ref (.own 300120), .ref (.own 300121), .ref (.nils), .ref (.nils), .d .i64, .d .i64]), (5, .box [.d (.lst .node), .ref (.ptr 3 1)]), (300120, .arr 43 .node), (300121, .arr 43 .node)], [(25, [.d (.lst .node), .ref (.ptr 3 1), .d (.lst .node), .ref (.ptr 3 0)])]⟩
noncomputable def X_txn_Back_s2v1 : Tm := ⟨[(1, .ptr 1 0), (2, .ptr 2 0), (3, .ptr 3 0)], [(26, .i64)], [(1, .box [.d .delta]), (2, .box [.d .delta]), (3, .box [.ref (.own 300120), .ref (.own 300121), .ref (.nils), .ref (.nils), .d .i64, .d .i64]), (300120, .arr 43 .node), (300121, .arr 43 .node)], [(25, [.d (.lst .node), .ref (.ptr 3 1), .d (.lst .node), .ref (.ptr 3 0)])]⟩
noncomputable def R_txn_Back_s2v1 : Tm := ⟨[], [], [], []⟩
noncomputable def L_txn_Back_s2v1 {ρ : Type} (n : Nat) : LOrc ρ := lorcNil
omit [Tabs] [QuietD Tryz.prog] [UDef] [UTabs] in
theorem s_txn_Back_s2v1 {ρ : Type} (n : Nat) (rec : T_txn_Back_s2v1.den → Option ρ) kx kr s : dStep Tryz.prog 80 TT M_txn_Back (O_txn_Back n) (L_txn_Back_s2v1 n) (evDraw Tryz.prog 80 TT M_txn_Back (O_txn_Back n)) 2 (lbody 0 (lbody 1000 C_txn_Back 0) 0) T_txn_Back_s2v1 X_txn_Back_s2v1 R_txn_Back_s2v1 ⟨[], [], [(3, 1, 300121, 43, 3)]⟩ rec kx kr s = txn_Back_s2v1 n rec kx kr s := by kernel_rfl
noncomputable def T_txn_Back_s4 : Tm := ⟨[(1, .ptr 1 0), (2, .ptr 2 0), (3, .ptr 3 0)], [(50, (.lst .edg)), (51, .i64), (52, .i64)], [(1, .box [.d .delta]), (2, .box [.d .delta]), (3, .box [.ref (.own 300120), .ref (.own 300121), .ref (.nils), .ref (.own 300123), .d .i64, .d .i64]), (300120, .arr 43 .node), (300121, .arr 43 .node), (300123, .arr 47 .edg)], []⟩
noncomputable def X_txn_Back_s4 : Tm := ⟨[(1, .ptr 1 0), (2, .ptr 2 0), (3, .ptr 3 0)], [], [(1, .box [.d .delta]), (2, .box [.d .delta]), (3, .box [.ref (.own 300120), .ref (.own 300121), .ref (.nils), .ref (.own 300123), .d .i64, .d .i64]), (300120, .arr 43 .node), (300121, .arr 43 .node), (300123, .arr 47 .edg)], []⟩
noncomputable def R_txn_Back_s4 : Tm := ⟨[], [], [], []⟩
noncomputable def L_txn_Back_s4 {ρ : Type} (n : Nat) : LOrc ρ := lorcNil
omit [Tabs] [QuietD Tryz.prog] [UDef] [UTabs] in
theorem s_txn_Back_s4 {ρ : Type} (n : Nat) (rec : T_txn_Back_s4.den → Option ρ) kx kr s : dStep Tryz.prog 80 TT M_txn_Back (O_txn_Back n) (L_txn_Back_s4 n) (evDraw Tryz.prog 80 TT M_txn_Back (O_txn_Back n)) 4 (lbody 1000 C_txn_Back 1) T_txn_Back_s4 X_txn_Back_s4 R_txn_Back_s4 ⟨[], [], [(3, 3, 300123, 47, 5)]⟩ rec kx kr s = txn_Back_s4 n rec kx kr s := by kernel_rfl
noncomputable def T_txn_Back_s6 : Tm := ⟨[(2, .ptr 2 0), (3, .ptr 3 0)], [(65, (.lst .edg)), (66, .i64), (67, .i64)], [(2, .box [.d .delta]), (3, .box [.ref (.own 300120), .ref (.own 300121), .ref (.own 300122), .ref (.own 300123), .d .i64, .d .i64]), (300120, .arr 43 .node), (300121, .arr 43 .node), (300122, .arr 47 .edg), (300123, .arr 47 .edg)], []⟩
noncomputable def X_txn_Back_s6 : Tm := ⟨[(2, .ptr 2 0), (3, .ptr 3 0)], [], [(2, .box [.d .delta]), (3, .box [.ref (.own 300120), .ref (.own 300121), .ref (.own 300122), .ref (.own 300123), .d .i64, .d .i64]), (300120, .arr 43 .node), (300121, .arr 43 .node), (300122, .arr 47 .edg), (300123, .arr 47 .edg)], []⟩
noncomputable def R_txn_Back_s6 : Tm := ⟨[], [], [], []⟩
noncomputable def L_txn_Back_s6 {ρ : Type} (n : Nat) : LOrc ρ := lorcNil
omit [Tabs] [QuietD Tryz.prog] [UDef] [UTabs] in
theorem s_txn_Back_s6 {ρ : Type} (n : Nat) (rec : T_txn_Back_s6.den → Option ρ) kx kr s : dStep Tryz.prog 80 TT M_txn_Back (O_txn_Back n) (L_txn_Back_s6 n) (evDraw Tryz.prog 80 TT M_txn_Back (O_txn_Back n)) 6 (lbody 1000 C_txn_Back 2) T_txn_Back_s6 X_txn_Back_s6 R_txn_Back_s6 ⟨[], [], [(3, 2, 300122, 47, 5)]⟩ rec kx kr s = txn_Back_s6 n rec kx kr s := by kernel_rfl
noncomputable def T_txn_Back_s4v0 : Tm := ⟨[(1, .ptr 1 0), (2, .ptr 2 0), (3, .ptr 3 0)], [(50, (.lst .edg)), (51, .i64), (52, .i64)], [(1, .box [.d .delta]), (2, .box [.d .delta]), (3, .box [.ref (.nils), .ref (.own 300121), .ref (.nils), .ref (.own 300123), .d .i64, .d .i64]), (300121, .arr 43 .node), (300123, .arr 47 .edg)], []⟩
noncomputable def X_txn_Back_s4v0 : Tm := ⟨[(1, .ptr 1 0), (2, .ptr 2 0), (3, .ptr 3 0)], [], [(1, .box [.d .delta]), (2, .box [.d .delta]), (3, .box [.ref (.nils), .ref (.own 300121), .ref (.nils), .ref (.own 300123), .d .i64, .d .i64]), (300121, .arr 43 .node), (300123, .arr 47 .edg)], []⟩
noncomputable def R_txn_Back_s4v0 : Tm := ⟨[], [], [], []⟩
noncomputable def L_txn_Back_s4v0 {ρ : Type} (n : Nat) : LOrc ρ := lorcNil
omit [Tabs] [QuietD Tryz.prog] [UDef] [UTabs] in
theorem s_txn_Back_s4v0 {ρ : Type} (n : Nat) (rec : T_txn_Back_s4v0.den → Option ρ) kx kr s : dStep Tryz.prog 80 TT M_txn_Back (O_txn_Back n) (L_txn_Back_s4v0 n) (evDraw Tryz.prog 80 TT M_txn_Back (O_txn_Back n)) 4 (lbody 1000 C_txn_Back 1) T_txn_Back_s4v0 X_txn_Back_s4v0 R_txn_Back_s4v0 ⟨[], [], [(3, 3, 300123, 47, 5)]⟩ rec kx kr s = txn_Back_s4v0 n rec kx kr s := by kernel_rfl
noncomputable def T_txn_Back_s6v0 : Tm := ⟨[(2, .ptr 2 0), (3, .ptr 3 0)], [(65, (.lst .edg)), (66, .i64), (67, .i64)], [(2, .box [.d .delta]), (3, .box [.ref (.nils), .ref (.own 300121), .ref (.own 300122), .ref (.own 300123), .d .i64, .d .i64]), (300121, .arr 43 .node), (300122, .arr 47 .edg), (300123, .arr 47 .edg)], []⟩
noncomputable def X_txn_Back_s6v0 : Tm := ⟨[(2, .ptr 2 0), (3, .ptr 3 0)], [], [(2, .box [.d .delta]), (3, .box [.ref (.nils), .ref (.own 300121), .ref (.own 300122), .ref (.own 300123), .d .i64, .d .i64]), (300121, .arr 43 .node), (300122, .arr 47 .edg), (300123, .arr 47 .edg)], []⟩
noncomputable def R_txn_Back_s6v0 : Tm := ⟨[], [], [], []⟩
noncomputable def L_txn_Back_s6v0 {ρ : Type} (n : Nat) : LOrc ρ := lorcNil
omit [Tabs] [QuietD Tryz.prog] [UDef] [UTabs] in
theorem s_txn_Back_s6v0 {ρ : Type} (n : Nat) (rec : T_txn_Back_s6v0.den → Option ρ) kx kr s : dStep Tryz.prog 80 TT M_txn_Back (O_txn_Back n) (L_txn_Back_s6v0 n) (evDraw Tryz.prog 80 TT M_txn_Back (O_txn_Back n)) 6 (lbody 1000 C_txn_Back 2) T_txn_Back_s6v0 X_txn_Back_s6v0 R_txn_Back_s6v0 ⟨[], [], [(3, 2, 300122, 47, 5)]⟩ rec kx kr s = txn_Back_s6v0 n rec kx kr s := by kernel_rfl
noncomputable def L_txn_Back_s0 {ρ : Type} (n : Nat) : LOrc ρ := lorcCons 2 (altL 80 T_txn_Back_s2 ⟨[], [], [(3, 1, 300121, 43, 3)]⟩ (loopL 80 2 n T_txn_Back_s2 X_txn_Back_s2 R_txn_Back_s2 ⟨[], [], [(3, 1, 300121, 43, 3)]⟩ (txn_Back_s2 n)) (altL 80 T_txn_Back_s2v0 ⟨[], [], [(3, 0, 300120, 43, 3)]⟩ (loopL 80 2 n T_txn_Back_s2v0 X_txn_Back_s2v0 R_txn_Back_s2v0 ⟨[], [], [(3, 0, 300120, 43, 3)]⟩ (txn_Back_s2v0 n)) (loopL 80 2 n T_txn_Back_s2v1 X_txn_Back_s2v1 R_txn_Back_s2v1 ⟨[], [], [(3, 1, 300121, 43, 3)]⟩ (txn_Back_s2v1 n)))) (lorcNil)
noncomputable def L_txn_Back {ρ : Type} (n : Nat) : LOrc ρ := lorcCons 0 (unrollL Tryz.prog 80 TT M_txn_Back (O_txn_Back n) (L_txn_Back_s0 n) (evDraw Tryz.prog 80 TT M_txn_Back (O_txn_Back n)) 0 (lbody 1000 C_txn_Back 0) 3) (lorcCons 4 (altL 80 T_txn_Back_s4 ⟨[], [], [(3, 3, 300123, 47, 5)]⟩ (loopL 80 4 n T_txn_Back_s4 X_txn_Back_s4 R_txn_Back_s4 ⟨[], [], [(3, 3, 300123, 47, 5)]⟩ (txn_Back_s4 n)) (loopL 80 4 n T_txn_Back_s4v0 X_txn_Back_s4v0 R_txn_Back_s4v0 ⟨[], [], [(3, 3, 300123, 47, 5)]⟩ (txn_Back_s4v0 n))) (lorcCons 6 (altL 80 T_txn_Back_s6 ⟨[], [], [(3, 2, 300122, 47, 5)]⟩ (loopL 80 6 n T_txn_Back_s6 X_txn_Back_s6 R_txn_Back_s6 ⟨[], [], [(3, 2, 300122, 47, 5)]⟩ (txn_Back_s6 n)) (loopL 80 6 n T_txn_Back_s6v0 X_txn_Back_s6v0 R_txn_Back_s6v0 ⟨[], [], [(3, 2, 300122, 47, 5)]⟩ (txn_Back_s6v0 n))) (lorcNil)))
omit [Tabs] [QuietD Tryz.prog] [UDef] [UTabs] in
theorem e_txn_Back (n : Nat) (x) : evF Tryz.prog 80 TT M_txn_Back F_txn_Back (O_txn_Back n) (L_txn_Back n) (evDraw Tryz.prog 80 TT M_txn_Back (O_txn_Back n)) ⟨[], [], []⟩ [.cell 2 27] C_txn_Back x = txn_Back n x := by kernel_rfl
omit [UDef] [UTabs] in
theorem ok_txn_Back (n : Nat) : Contract Tryz.prog 11 F_txn_Back (txn_Back n) :=
  Contract.of_ev (c := C_txn_Back) (N := 80) Tryz.func11 (by kernel_rfl) (by kernel_rfl) (by kernel_rfl) (by kernel_rfl) (O_txn_Back_ok n) (evDraw_ok (O_txn_Back_ok n) (by kernel_rfl)) (.of (l := [(0, (lbody 1000 C_txn_Back 0)), (4, (lbody 1000 C_txn_Back 1)), (6, (lbody 1000 C_txn_Back 2))]) (by kernel_rfl) ⟨.head (unrollL_sound (O_txn_Back_ok n) (evDraw_ok (O_txn_Back_ok n) (by kernel_rfl)) (.of (l := [(2, (lbody 0 (lbody 1000 C_txn_Back 0) 0))]) (by kernel_rfl) ⟨.head (altL_sound (loopL_sound (O_txn_Back_ok n) (evDraw_ok (O_txn_Back_ok n) (by kernel_rfl)) (.of (l := []) (by kernel_rfl) trivial) (s_txn_Back_s2 n)) (altL_sound (loopL_sound (O_txn_Back_ok n) (evDraw_ok (O_txn_Back_ok n) (by kernel_rfl)) (.of (l := []) (by kernel_rfl) trivial) (s_txn_Back_s2v0 n)) (loopL_sound (O_txn_Back_ok n) (evDraw_ok (O_txn_Back_ok n) (by kernel_rfl)) (.of (l := []) (by kernel_rfl) trivial) (s_txn_Back_s2v1 n)))), trivial⟩)), ⟨.tail rfl (.head (altL_sound (loopL_sound (O_txn_Back_ok n) (evDraw_ok (O_txn_Back_ok n) (by kernel_rfl)) (.of (l := []) (by kernel_rfl) trivial) (s_txn_Back_s4 n)) (loopL_sound (O_txn_Back_ok n) (evDraw_ok (O_txn_Back_ok n) (by kernel_rfl)) (.of (l := []) (by kernel_rfl) trivial) (s_txn_Back_s4v0 n)))), ⟨.tail rfl (.tail rfl (.head (altL_sound (loopL_sound (O_txn_Back_ok n) (evDraw_ok (O_txn_Back_ok n) (by kernel_rfl)) (.of (l := []) (by kernel_rfl) trivial) (s_txn_Back_s6 n)) (loopL_sound (O_txn_Back_ok n) (evDraw_ok (O_txn_Back_ok n) (by kernel_rfl)) (.of (l := []) (by kernel_rfl) trivial) (s_txn_Back_s6v0 n))))), trivial⟩⟩⟩) (e_txn_Back n)

noncomputable def F_q41z : FnT := ⟨2, ⟨[], [(0, .graph), (1, .graph)], [], []⟩, [.v .bool], []⟩
noncomputable def F_q2z : FnT := ⟨3, ⟨[(2, .fn 15)], [(0, (.lst .node)), (1, (.lst .node))], [], []⟩, [.v .bool], []⟩
noncomputable def F_q50z : FnT := ⟨2, ⟨[], [(0, .node), (1, .node)], [], []⟩, [.v .bool], []⟩
noncomputable def F_q42z : FnT := ⟨2, ⟨[], [(0, (.lst .prp)), (1, (.lst .prp))], [], []⟩, [.v .bool], []⟩
noncomputable def F_q0z : FnT := ⟨3, ⟨[(2, .fn 93)], [(0, (.lst .prp)), (1, (.lst .prp))], [], []⟩, [.v .bool], []⟩
noncomputable def F_q31z : FnT := ⟨2, ⟨[], [(0, .prp), (1, .prp)], [], []⟩, [.v .bool], []⟩
noncomputable def F_q43z : FnT := ⟨2, ⟨[], [(0, .val), (1, .val)], [], []⟩, [.v .bool], []⟩
noncomputable def F_q53z : FnT := ⟨2, ⟨[], [(0, .val), (1, .val)], [], []⟩, [.v .i64], []⟩
noncomputable def F_q72z : FnT := ⟨2, ⟨[], [(0, (.lst .u8)), (1, (.lst .u8))], [], []⟩, [.v .i64], []⟩
noncomputable def C_q72z : Code := bodyOf Tryz.f168
noncomputable def M_q72z : List (Nat × ArgM) := []
instance : DfOk M_q72z := .none rfl
noncomputable def O_q72z {ρ : Type} : Orc ρ := orcCons 180 T_cmpB (cmpN) (orcNil)
omit [QuietD Tryz.prog] [UDef] [UTabs] in
theorem O_q72z_ok {ρ : Type} : (O_q72z : Orc ρ).ok Tryz.prog := orcExt_ok (by kernel_rfl) (cmp_ok) (orcNil_ok)
noncomputable def L_q72z {ρ : Type} : LOrc ρ := lorcNil
omit [Tabs] [QuietD Tryz.prog] [UDef] [UTabs] in
theorem e_q72z (x) : evF Tryz.prog 8 TT M_q72z F_q72z (O_q72z) (L_q72z) dorcNil ⟨[], [], []⟩ [.tmp 4] C_q72z x = q72z x := by kernel_rfl
omit [UDef] [UTabs] in
theorem ok_q72z : Contract Tryz.prog 168 F_q72z (q72z) :=
  Contract.of_ev (c := C_q72z) (N := 8) Tryz.func168 (by kernel_rfl) (by kernel_rfl) (by kernel_rfl) (by kernel_rfl) (O_q72z_ok) dorcNil_ok (.of (l := []) (by kernel_rfl) trivial) (e_q72z)

noncomputable def C_q53z : Code := bodyOf Tryz.f139
noncomputable def M_q53z : List (Nat × ArgM) := [(168, ⟨[], [], [], true⟩), (139, ⟨[], [], [], true⟩)]
instance : DfOk M_q53z := .none rfl
noncomputable def O_q53z {ρ : Type} (self_q53z : Ev.Val × Ev.Val × Unit → Option (Int × Unit)) (n : Nat) : Orc ρ := orcCons 168 F_q72z (q72z) (orcCons 139 F_q53z (self_q53z) (orcNil))
omit [UDef] [UTabs] in
theorem O_q53z_ok {ρ : Type} (self_q53z : Ev.Val × Ev.Val × Unit → Option (Int × Unit)) (h_q53z : Contract Tryz.prog 139 F_q53z self_q53z) (n : Nat) : (O_q53z self_q53z n : Orc ρ).ok Tryz.prog := orcCons_ok (by kernel_rfl) (ok_q72z) (orcCons_ok (by kernel_rfl) (h_q53z) (orcNil_ok))
noncomputable def T_q53z_s1 : Tm := ⟨[(2, .ptr 2 0), (3, .ptr 3 0)], [(5, .i64)], [(2, .box [.d .val]), (3, .box [.d .val])], []⟩
noncomputable def X_q53z_s1 : Tm := ⟨[(2, .ptr 2 0), (3, .ptr 3 0)], [], [(2, .box [.d .val]), (3, .box [.d .val])], []⟩
noncomputable def R_q53z_s1 : Tm := ⟨[], [(4, .i64)], [], []⟩
noncomputable def L_q53z_s1 {ρ : Type} (self_q53z : Ev.Val × Ev.Val × Unit → Option (Int × Unit)) (n : Nat) : LOrc ρ := lorcNil
omit [Tabs] [QuietD Tryz.prog] [UDef] [UTabs] in
theorem s_q53z_s1 {ρ : Type} (self_q53z : Ev.Val × Ev.Val × Unit → Option (Int × Unit)) (n : Nat) (rec : T_q53z_s1.den → Option ρ) kx kr s : dStep Tryz.prog 88 TT M_q53z (O_q53z self_q53z n) (L_q53z_s1 self_q53z n) (evDraw Tryz.prog 88 TT M_q53z (O_q53z self_q53z n)) 1 (lbody 1000 C_q53z 0) T_q53z_s1 X_q53z_s1 R_q53z_s1 ⟨[], [], []⟩ rec kx kr s = q53z_s1 self_q53z n rec kx kr s := by kernel_rfl
noncomputable def L_q53z {ρ : Type} (self_q53z : Ev.Val × Ev.Val × Unit → Option (Int × Unit)) (n : Nat) : LOrc ρ := lorcCons 1 (loopL 88 1 n T_q53z_s1 X_q53z_s1 R_q53z_s1 ⟨[], [], []⟩ (q53z_s1 self_q53z n)) (lorcNil)
omit [Tabs] [QuietD Tryz.prog] [UDef] [UTabs] in
theorem e_q53z (self_q53z : Ev.Val × Ev.Val × Unit → Option (Int × Unit)) (n : Nat) (x) : evF Tryz.prog 88 TT M_q53z F_q53z (O_q53z self_q53z n) (L_q53z self_q53z n) (evDraw Tryz.prog 88 TT M_q53z (O_q53z self_q53z n)) ⟨[], [], []⟩ [.tmp 4] C_q53z x = q53z_b self_q53z n x := by kernel_rfl
omit [UDef] [UTabs] in
theorem okb_q53z (self_q53z : Ev.Val × Ev.Val × Unit → Option (Int × Unit)) (h_q53z : Contract Tryz.prog 139 F_q53z self_q53z) (n : Nat) : Contract Tryz.prog 139 F_q53z (q53z_b self_q53z n) :=
  Contract.of_ev (c := C_q53z) (N := 88) Tryz.func139 (by kernel_rfl) (by kernel_rfl) (by kernel_rfl) (by kernel_rfl) (O_q53z_ok self_q53z h_q53z n) (evDraw_ok (O_q53z_ok self_q53z h_q53z n) (by kernel_rfl)) (.of (l := [(1, (lbody 1000 C_q53z 0))]) (by kernel_rfl) ⟨.head (loopL_sound (O_q53z_ok self_q53z h_q53z n) (evDraw_ok (O_q53z_ok self_q53z h_q53z n) (by kernel_rfl)) (.of (l := []) (by kernel_rfl) trivial) (s_q53z_s1 self_q53z n)), trivial⟩) (e_q53z self_q53z n)
omit [UDef] [UTabs] in
theorem ok_q53z : ∀ n, Contract Tryz.prog 139 F_q53z (q53z n)
  | 0 => fun _ _ h => by cases h
  | n + 1 => okb_q53z _ (ok_q53z n) n

noncomputable def C_q43z : Code := bodyOf Tryz.f94
noncomputable def M_q43z : List (Nat × ArgM) := [(139, ⟨[], [], [], true⟩)]
instance : DfOk M_q43z := .none rfl
noncomputable def O_q43z {ρ : Type} (n : Nat) : Orc ρ := orcCons 139 F_q53z (q53z n) (orcNil)
omit [UDef] [UTabs] in
theorem O_q43z_ok {ρ : Type} (n : Nat) : (O_q43z n : Orc ρ).ok Tryz.prog := orcCons_ok (by kernel_rfl) (ok_q53z n) (orcNil_ok)
noncomputable def L_q43z {ρ : Type} (n : Nat) : LOrc ρ := lorcNil
omit [Tabs] [QuietD Tryz.prog] [UDef] [UTabs] in
theorem e_q43z (n : Nat) (x) : evF Tryz.prog 9 TT M_q43z F_q43z (O_q43z n) (L_q43z n) dorcNil ⟨[], [], []⟩ [.tmp 4] C_q43z x = q43z n x := by kernel_rfl
omit [UDef] [UTabs] in
theorem ok_q43z (n : Nat) : Contract Tryz.prog 94 F_q43z (q43z n) :=
  Contract.of_ev (c := C_q43z) (N := 9) Tryz.func94 (by kernel_rfl) (by kernel_rfl) (by kernel_rfl) (by kernel_rfl) (O_q43z_ok n) dorcNil_ok (.of (l := []) (by kernel_rfl) trivial) (e_q43z n)

noncomputable def C_q31z : Code := bodyOf Tryz.f93
noncomputable def M_q31z : List (Nat × ArgM) := [(94, ⟨[], [], [], true⟩)]
instance : DfOk M_q31z := .none rfl
noncomputable def O_q31z {ρ : Type} (n : Nat) : Orc ρ := orcCons 94 F_q43z (q43z n) (orcNil)
omit [UDef] [UTabs] in
theorem O_q31z_ok {ρ : Type} (n : Nat) : (O_q31z n : Orc ρ).ok Tryz.prog := orcCons_ok (by kernel_rfl) (ok_q43z n) (orcNil_ok)
noncomputable def L_q31z {ρ : Type} (n : Nat) : LOrc ρ := lorcNil
omit [Tabs] [QuietD Tryz.prog] [UDef] [UTabs] in
theorem e_q31z (n : Nat) (x) : evF Tryz.prog 17 TT M_q31z F_q31z (O_q31z n) (L_q31z n) dorcNil ⟨[], [], []⟩ [.tmp 4] C_q31z x = q31z n x := by kernel_rfl
omit [UDef] [UTabs] in
theorem ok_q31z (n : Nat) : Contract Tryz.prog 93 F_q31z (q31z n) :=
  Contract.of_ev (c := C_q31z) (N := 17) Tryz.func93 (by kernel_rfl) (by kernel_rfl) (by kernel_rfl) (by kernel_rfl) (O_q31z_ok n) dorcNil_ok (.of (l := []) (by kernel_rfl) trivial) (e_q31z n)

noncomputable def C_q0z : Code := bodyOf Tryz.f92
noncomputable def M_q0z : List (Nat × ArgM) := [(93, ⟨[], [], [], true⟩)]
instance : DfOk M_q0z := .none rfl
noncomputable def O_q0z {ρ : Type} (n : Nat) : Orc ρ := orcCons 93 F_q31z (q31z n) (orcNil)
omit [UDef] [UTabs] in
theorem O_q0z_ok {ρ : Type} (n : Nat) : (O_q0z n : Orc ρ).ok Tryz.prog := orcCons_ok (by kernel_rfl) (ok_q31z n) (orcNil_ok)
noncomputable def T_q0z_s0 : Tm := ⟨[(2, .fn 93)], [(1, (.lst .prp)), (15, (.lst .prp)), (16, .i64), (17, .i64)], [], []⟩
noncomputable def X_q0z_s0 : Tm := ⟨[], [], [], []⟩
noncomputable def R_q0z_s0 : Tm := ⟨[], [(6, .bool)], [], []⟩
noncomputable def L_q0z_s0 {ρ : Type} (n : Nat) : LOrc ρ := lorcNil
omit [Tabs] [QuietD Tryz.prog] [UDef] [UTabs] in
theorem s_q0z_s0 {ρ : Type} (n : Nat) (rec : T_q0z_s0.den → Option ρ) kx kr s : dStep Tryz.prog 32 TT M_q0z (O_q0z n) (L_q0z_s0 n) dorcNil 0 (lbody 1000 C_q0z 0) T_q0z_s0 X_q0z_s0 R_q0z_s0 ⟨[], [], []⟩ rec kx kr s = q0z_s0 n rec kx kr s := by kernel_rfl
noncomputable def L_q0z {ρ : Type} (n : Nat) : LOrc ρ := lorcCons 0 (loopL 32 0 n T_q0z_s0 X_q0z_s0 R_q0z_s0 ⟨[], [], []⟩ (q0z_s0 n)) (lorcNil)
omit [Tabs] [QuietD Tryz.prog] [UDef] [UTabs] in
theorem e_q0z (n : Nat) (x) : evF Tryz.prog 32 TT M_q0z F_q0z (O_q0z n) (L_q0z n) dorcNil ⟨[], [], []⟩ [.tmp 6] C_q0z x = q0z n x := by kernel_rfl
omit [UDef] [UTabs] in
theorem ok_q0z (n : Nat) : Contract Tryz.prog 92 F_q0z (q0z n) :=
  Contract.of_ev (c := C_q0z) (N := 32) Tryz.func92 (by kernel_rfl) (by kernel_rfl) (by kernel_rfl) (by kernel_rfl) (O_q0z_ok n) dorcNil_ok (.of (l := [(0, (lbody 1000 C_q0z 0))]) (by kernel_rfl) ⟨.head (loopL_sound (O_q0z_ok n) dorcNil_ok (.of (l := []) (by kernel_rfl) trivial) (s_q0z_s0 n)), trivial⟩) (e_q0z n)

noncomputable def C_q42z : Code := bodyOf Tryz.f58
noncomputable def M_q42z : List (Nat × ArgM) := [(92, ⟨[], [], [], true⟩)]
instance : DfOk M_q42z := .none rfl
noncomputable def O_q42z {ρ : Type} (n : Nat) : Orc ρ := orcCons 92 F_q0z (q0z n) (orcNil)
omit [UDef] [UTabs] in
theorem O_q42z_ok {ρ : Type} (n : Nat) : (O_q42z n : Orc ρ).ok Tryz.prog := orcCons_ok (by kernel_rfl) (ok_q0z n) (orcNil_ok)
noncomputable def L_q42z {ρ : Type} (n : Nat) : LOrc ρ := lorcNil
omit [Tabs] [QuietD Tryz.prog] [UDef] [UTabs] in
theorem e_q42z (n : Nat) (x) : evF Tryz.prog 8 TT M_q42z F_q42z (O_q42z n) (L_q42z n) dorcNil ⟨[], [], []⟩ [.tmp 4] C_q42z x = q42z n x := by kernel_rfl
omit [UDef] [UTabs] in
theorem ok_q42z (n : Nat) : Contract Tryz.prog 58 F_q42z (q42z n) :=
  Contract.of_ev (c := C_q42z) (N := 8) Tryz.func58 (by kernel_rfl) (by kernel_rfl) (by kernel_rfl) (by kernel_rfl) (O_q42z_ok n) dorcNil_ok (.of (l := []) (by kernel_rfl) trivial) (e_q42z n)

noncomputable def C_q50z : Code := bodyOf Tryz.f15
noncomputable def M_q50z : List (Nat × ArgM) := [(57, ⟨[], [], [], true⟩), (58, ⟨[], [], [], true⟩)]
instance : DfOk M_q50z := .none rfl
noncomputable def O_q50z {ρ : Type} (n : Nat) : Orc ρ := orcCons 57 F_q29z (q29z n) (orcCons 58 F_q42z (q42z n) (orcNil))
omit [UDef] [UTabs] in
theorem O_q50z_ok {ρ : Type} (n : Nat) : (O_q50z n : Orc ρ).ok Tryz.prog := orcCons_ok (by kernel_rfl) (ok_q29z n) (orcCons_ok (by kernel_rfl) (ok_q42z n) (orcNil_ok))
noncomputable def L_q50z {ρ : Type} (n : Nat) : LOrc ρ := lorcNil
omit [Tabs] [QuietD Tryz.prog] [UDef] [UTabs] in
theorem e_q50z (n : Nat) (x) : evF Tryz.prog 24 TT M_q50z F_q50z (O_q50z n) (L_q50z n) dorcNil ⟨[], [], []⟩ [.tmp 4] C_q50z x = q50z n x := by kernel_rfl
omit [UDef] [UTabs] in
theorem ok_q50z (n : Nat) : Contract Tryz.prog 15 F_q50z (q50z n) :=
  Contract.of_ev (c := C_q50z) (N := 24) Tryz.func15 (by kernel_rfl) (by kernel_rfl) (by kernel_rfl) (by kernel_rfl) (O_q50z_ok n) dorcNil_ok (.of (l := []) (by kernel_rfl) trivial) (e_q50z n)

noncomputable def C_q2z : Code := bodyOf Tryz.f50
noncomputable def M_q2z : List (Nat × ArgM) := [(15, ⟨[], [], [], true⟩)]
instance : DfOk M_q2z := .none rfl
noncomputable def O_q2z {ρ : Type} (n : Nat) : Orc ρ := orcCons 15 F_q50z (q50z n) (orcNil)
omit [UDef] [UTabs] in
theorem O_q2z_ok {ρ : Type} (n : Nat) : (O_q2z n : Orc ρ).ok Tryz.prog := orcCons_ok (by kernel_rfl) (ok_q50z n) (orcNil_ok)
noncomputable def T_q2z_s0 : Tm := ⟨[(2, .fn 15)], [(1, (.lst .node)), (15, (.lst .node)), (16, .i64), (17, .i64)], [], []⟩
noncomputable def X_q2z_s0 : Tm := ⟨[], [], [], []⟩
noncomputable def R_q2z_s0 : Tm := ⟨[], [(6, .bool)], [], []⟩
noncomputable def L_q2z_s0 {ρ : Type} (n : Nat) : LOrc ρ := lorcNil
omit [Tabs] [QuietD Tryz.prog] [UDef] [UTabs] in
theorem s_q2z_s0 {ρ : Type} (n : Nat) (rec : T_q2z_s0.den → Option ρ) kx kr s : dStep Tryz.prog 32 TT M_q2z (O_q2z n) (L_q2z_s0 n) dorcNil 0 (lbody 1000 C_q2z 0) T_q2z_s0 X_q2z_s0 R_q2z_s0 ⟨[], [], []⟩ rec kx kr s = q2z_s0 n rec kx kr s := by kernel_rfl
noncomputable def L_q2z {ρ : Type} (n : Nat) : LOrc ρ := lorcCons 0 (loopL 32 0 n T_q2z_s0 X_q2z_s0 R_q2z_s0 ⟨[], [], []⟩ (q2z_s0 n)) (lorcNil)
omit [Tabs] [QuietD Tryz.prog] [UDef] [UTabs] in
theorem e_q2z (n : Nat) (x) : evF Tryz.prog 32 TT M_q2z F_q2z (O_q2z n) (L_q2z n) dorcNil ⟨[], [], []⟩ [.tmp 6] C_q2z x = q2z n x := by kernel_rfl
omit [UDef] [UTabs] in
theorem ok_q2z (n : Nat) : Contract Tryz.prog 50 F_q2z (q2z n) :=
  Contract.of_ev (c := C_q2z) (N := 32) Tryz.func50 (by kernel_rfl) (by kernel_rfl) (by kernel_rfl) (by kernel_rfl) (O_q2z_ok n) dorcNil_ok (.of (l := [(0, (lbody 1000 C_q2z 0))]) (by kernel_rfl) ⟨.head (loopL_sound (O_q2z_ok n) dorcNil_ok (.of (l := []) (by kernel_rfl) trivial) (s_q2z_s0 n)), trivial⟩) (e_q2z n)

noncomputable def F_q1z : FnT := ⟨3, ⟨[(2, .fn 17)], [(0, (.lst .edg)), (1, (.lst .edg))], [], []⟩, [.v .bool], []⟩
noncomputable def F_q49z : FnT := ⟨2, ⟨[], [(0, .edg), (1, .edg)], [], []⟩, [.v .bool], []⟩
noncomputable def C_q49z : Code := bodyOf Tryz.f17
noncomputable def M_q49z : List (Nat × ArgM) := [(58, ⟨[], [], [], true⟩)]
instance : DfOk M_q49z := .none rfl
noncomputable def O_q49z {ρ : Type} (n : Nat) : Orc ρ := orcCons 58 F_q42z (q42z n) (orcNil)
omit [UDef] [UTabs] in
theorem O_q49z_ok {ρ : Type} (n : Nat) : (O_q49z n : Orc ρ).ok Tryz.prog := orcCons_ok (by kernel_rfl) (ok_q42z n) (orcNil_ok)
noncomputable def L_q49z {ρ : Type} (n : Nat) : LOrc ρ := lorcNil
omit [Tabs] [QuietD Tryz.prog] [UDef] [UTabs] in
theorem e_q49z (n : Nat) (x) : evF Tryz.prog 38 TT M_q49z F_q49z (O_q49z n) (L_q49z n) dorcNil ⟨[], [], []⟩ [.tmp 4] C_q49z x = q49z n x := by kernel_rfl
omit [UDef] [UTabs] in
theorem ok_q49z (n : Nat) : Contract Tryz.prog 17 F_q49z (q49z n) :=
  Contract.of_ev (c := C_q49z) (N := 38) Tryz.func17 (by kernel_rfl) (by kernel_rfl) (by kernel_rfl) (by kernel_rfl) (O_q49z_ok n) dorcNil_ok (.of (l := []) (by kernel_rfl) trivial) (e_q49z n)

noncomputable def C_q1z : Code := bodyOf Tryz.f51
noncomputable def M_q1z : List (Nat × ArgM) := [(17, ⟨[], [], [], true⟩)]
instance : DfOk M_q1z := .none rfl
noncomputable def O_q1z {ρ : Type} (n : Nat) : Orc ρ := orcCons 17 F_q49z (q49z n) (orcNil)
omit [UDef] [UTabs] in
theorem O_q1z_ok {ρ : Type} (n : Nat) : (O_q1z n : Orc ρ).ok Tryz.prog := orcCons_ok (by kernel_rfl) (ok_q49z n) (orcNil_ok)
noncomputable def T_q1z_s0 : Tm := ⟨[(2, .fn 17)], [(1, (.lst .edg)), (15, (.lst .edg)), (16, .i64), (17, .i64)], [], []⟩
noncomputable def X_q1z_s0 : Tm := ⟨[], [], [], []⟩
noncomputable def R_q1z_s0 : Tm := ⟨[], [(6, .bool)], [], []⟩
noncomputable def L_q1z_s0 {ρ : Type} (n : Nat) : LOrc ρ := lorcNil
omit [Tabs] [QuietD Tryz.prog] [UDef] [UTabs] in
theorem s_q1z_s0 {ρ : Type} (n : Nat) (rec : T_q1z_s0.den → Option ρ) kx kr s : dStep Tryz.prog 32 TT M_q1z (O_q1z n) (L_q1z_s0 n) dorcNil 0 (lbody 1000 C_q1z 0) T_q1z_s0 X_q1z_s0 R_q1z_s0 ⟨[], [], []⟩ rec kx kr s = q1z_s0 n rec kx kr s := by kernel_rfl
noncomputable def L_q1z {ρ : Type} (n : Nat) : LOrc ρ := lorcCons 0 (loopL 32 0 n T_q1z_s0 X_q1z_s0 R_q1z_s0 ⟨[], [], []⟩ (q1z_s0 n)) (lorcNil)
omit [Tabs] [QuietD Tryz.prog] [UDef] [UTabs] in
theorem e_q1z (n : Nat) (x) : evF Tryz.prog 32 TT M_q1z F_q1z (O_q1z n) (L_q1z n) dorcNil ⟨[], [], []⟩ [.tmp 6] C_q1z x = q1z n x := by kernel_rfl
omit [UDef] [UTabs] in
theorem ok_q1z (n : Nat) : Contract Tryz.prog 51 F_q1z (q1z n) :=
  Contract.of_ev (c := C_q1z) (N := 32) Tryz.func51 (by kernel_rfl) (by kernel_rfl) (by kernel_rfl) (by kernel_rfl) (O_q1z_ok n) dorcNil_ok (.of (l := [(0, (lbody 1000 C_q1z 0))]) (by kernel_rfl) ⟨.head (loopL_sound (O_q1z_ok n) dorcNil_ok (.of (l := []) (by kernel_rfl) trivial) (s_q1z_s0 n)), trivial⟩) (e_q1z n)

noncomputable def C_q41z : Code := bodyOf Tryz.f10
noncomputable def M_q41z : List (Nat × ArgM) := [(50, ⟨[], [], [], true⟩), (51, ⟨[], [], [], true⟩)]
instance : DfOk M_q41z := .none rfl
noncomputable def O_q41z {ρ : Type} (n : Nat) : Orc ρ := orcCons 50 F_q2z (q2z n) (orcCons 51 F_q1z (q1z n) (orcNil))
omit [UDef] [UTabs] in
theorem O_q41z_ok {ρ : Type} (n : Nat) : (O_q41z n : Orc ρ).ok Tryz.prog := orcCons_ok (by kernel_rfl) (ok_q2z n) (orcCons_ok (by kernel_rfl) (ok_q1z n) (orcNil_ok))
noncomputable def L_q41z {ρ : Type} (n : Nat) : LOrc ρ := lorcNil
omit [Tabs] [QuietD Tryz.prog] [UDef] [UTabs] in
theorem e_q41z (n : Nat) (x) : evF Tryz.prog 24 TT M_q41z F_q41z (O_q41z n) (L_q41z n) dorcNil ⟨[], [], []⟩ [.tmp 4] C_q41z x = q41z n x := by kernel_rfl
omit [UDef] [UTabs] in
theorem ok_q41z (n : Nat) : Contract Tryz.prog 10 F_q41z (q41z n) :=
  Contract.of_ev (c := C_q41z) (N := 24) Tryz.func10 (by kernel_rfl) (by kernel_rfl) (by kernel_rfl) (by kernel_rfl) (O_q41z_ok n) dorcNil_ok (.of (l := []) (by kernel_rfl) trivial) (e_q41z n)

noncomputable def C_q48z : Code := bodyOf Tryz.f4
noncomputable def M_q48z : List (Nat × ArgM) := [(8, ⟨[], [], [], true⟩), (10, ⟨[], [], [], true⟩)]
instance : DfOk M_q48z := .none rfl
noncomputable def O_q48z {ρ : Type} (n : Nat) : Orc ρ := orcCons 7 F_q78z (q78z n) (orcCons 8 F_q52z (q52z n) (orcCons 9 F_txn_Turn (txn_Turn n) (orcCons 11 F_txn_Back (txn_Back n) (orcCons 10 F_q41z (q41z n) (orcNil)))))
omit [UDef] in
theorem O_q48z_ok {ρ : Type} (n : Nat) : (O_q48z n : Orc ρ).ok Tryz.prog := orcCons_ok (by kernel_rfl) (ok_q78z n) (orcCons_ok (by kernel_rfl) (ok_q52z n) (orcCons_ok (by kernel_rfl) (ok_txn_Turn n) (orcCons_ok (by kernel_rfl) (ok_txn_Back n) (orcCons_ok (by kernel_rfl) (ok_q41z n) (orcNil_ok)))))
noncomputable def L_q48z {ρ : Type} (n : Nat) : LOrc ρ := lorcNil
omit [Tabs] [QuietD Tryz.prog] [UDef] [UTabs] in
theorem e_q48z (n : Nat) (x) : evF Tryz.prog 52 TT M_q48z F_q48z (O_q48z n) (L_q48z n) (evDraw Tryz.prog 52 TT M_q48z (O_q48z n)) ⟨[], [], []⟩ [.tmp 4] C_q48z x = q48z n x := by kernel_rfl
omit [UDef] in
theorem ok_q48z (n : Nat) : Contract Tryz.prog 4 F_q48z (q48z n) :=
  Contract.of_ev (c := C_q48z) (N := 52) Tryz.func4 (by kernel_rfl) (by kernel_rfl) (by kernel_rfl) (by kernel_rfl) (O_q48z_ok n) (evDraw_ok (O_q48z_ok n) (by kernel_rfl)) (.of (l := []) (by kernel_rfl) trivial) (e_q48z n)

noncomputable def F_q33z : FnT := ⟨3, ⟨[], [(0, .graph), (1, .graph), (2, .graph)], [], []⟩, [.v .bool], []⟩
noncomputable def C_q33z : Code := bodyOf Tryz.f3
noncomputable def M_q33z : List (Nat × ArgM) := [(8, ⟨[], [], [], true⟩), (10, ⟨[], [], [], true⟩)]
instance : DfOk M_q33z := .none rfl
noncomputable def O_q33z {ρ : Type} (n : Nat) : Orc ρ := orcCons 7 F_q78z (q78z n) (orcCons 8 F_q52z (q52z n) (orcCons 9 F_txn_Turn (txn_Turn n) (orcCons 10 F_q41z (q41z n) (orcNil))))
omit [UDef] in
theorem O_q33z_ok {ρ : Type} (n : Nat) : (O_q33z n : Orc ρ).ok Tryz.prog := orcCons_ok (by kernel_rfl) (ok_q78z n) (orcCons_ok (by kernel_rfl) (ok_q52z n) (orcCons_ok (by kernel_rfl) (ok_txn_Turn n) (orcCons_ok (by kernel_rfl) (ok_q41z n) (orcNil_ok))))
noncomputable def L_q33z {ρ : Type} (n : Nat) : LOrc ρ := lorcNil
omit [Tabs] [QuietD Tryz.prog] [UDef] [UTabs] in
theorem e_q33z (n : Nat) (x) : evF Tryz.prog 59 TT M_q33z F_q33z (O_q33z n) (L_q33z n) dorcNil ⟨[], [], []⟩ [.tmp 6] C_q33z x = q33z n x := by kernel_rfl
omit [UDef] in
theorem ok_q33z (n : Nat) : Contract Tryz.prog 3 F_q33z (q33z n) :=
  Contract.of_ev (c := C_q33z) (N := 59) Tryz.func3 (by kernel_rfl) (by kernel_rfl) (by kernel_rfl) (by kernel_rfl) (O_q33z_ok n) dorcNil_ok (.of (l := []) (by kernel_rfl) trivial) (e_q33z n)

noncomputable def F_q32z : FnT := ⟨2, ⟨[], [(0, .graph), (1, .graph)], [], []⟩, [.v .bool], []⟩
noncomputable def F_q35z : FnT := ⟨1, ⟨[], [(0, .graph)], [], []⟩, [.v .i64], []⟩
noncomputable def F_q30z : FnT := ⟨1, ⟨[], [(0, (.lst .str))], [], []⟩, [.v .i64], []⟩
noncomputable def F_q55z : FnT := ⟨1, ⟨[], [(0, .str)], [], []⟩, [.v .bool], []⟩
noncomputable def C_q55z : Code := bodyOf Tryz.f54
noncomputable def M_q55z : List (Nat × ArgM) := [(91, ⟨[], [], [], true⟩)]
instance : DfOk M_q55z := .none rfl
noncomputable def O_q55z {ρ : Type} : Orc ρ := orcCons 91 F_trim (trimN) (orcNil)
omit [QuietD Tryz.prog] [UDef] [UTabs] in
theorem O_q55z_ok {ρ : Type} : (O_q55z : Orc ρ).ok Tryz.prog := orcCons_ok (by kernel_rfl) (trimN_ok) (orcNil_ok)
noncomputable def L_q55z {ρ : Type} : LOrc ρ := lorcNil
omit [Tabs] [QuietD Tryz.prog] [UDef] [UTabs] in
theorem e_q55z (x) : evF Tryz.prog 23 TT M_q55z F_q55z (O_q55z) (L_q55z) dorcNil ⟨[], [], []⟩ [.tmp 2] C_q55z x = q55z x := by kernel_rfl
omit [UDef] [UTabs] in
theorem ok_q55z : Contract Tryz.prog 54 F_q55z (q55z) :=
  Contract.of_ev (c := C_q55z) (N := 23) Tryz.func54 (by kernel_rfl) (by kernel_rfl) (by kernel_rfl) (by kernel_rfl) (O_q55z_ok) dorcNil_ok (.of (l := []) (by kernel_rfl) trivial) (e_q55z)

noncomputable def C_q30z : Code := bodyOf Tryz.f52
noncomputable def M_q30z : List (Nat × ArgM) := [(54, ⟨[], [], [], true⟩)]
instance : DfOk M_q30z := .none rfl
noncomputable def O_q30z {ρ : Type} (n : Nat) : Orc ρ := orcCons 54 F_q55z (q55z) (orcNil)
omit [UDef] [UTabs] in
theorem O_q30z_ok {ρ : Type} (n : Nat) : (O_q30z n : Orc ρ).ok Tryz.prog := orcCons_ok (by kernel_rfl) (ok_q55z) (orcNil_ok)
noncomputable def T_q30z_s0 : Tm := ⟨[], [(3, .str), (9, (.lst .str)), (10, .i64), (11, .i64)], [], []⟩
noncomputable def X_q30z_s0 : Tm := ⟨[], [], [], []⟩
noncomputable def R_q30z_s0 : Tm := ⟨[], [(2, .i64)], [], []⟩
noncomputable def L_q30z_s0 {ρ : Type} (n : Nat) : LOrc ρ := lorcNil
omit [Tabs] [QuietD Tryz.prog] [UDef] [UTabs] in
theorem s_q30z_s0 {ρ : Type} (n : Nat) (rec : T_q30z_s0.den → Option ρ) kx kr s : dStep Tryz.prog 25 TT M_q30z (O_q30z n) (L_q30z_s0 n) dorcNil 0 (lbody 1000 C_q30z 0) T_q30z_s0 X_q30z_s0 R_q30z_s0 ⟨[], [], []⟩ rec kx kr s = q30z_s0 n rec kx kr s := by kernel_rfl
noncomputable def L_q30z {ρ : Type} (n : Nat) : LOrc ρ := lorcCons 0 (loopL 25 0 n T_q30z_s0 X_q30z_s0 R_q30z_s0 ⟨[], [], []⟩ (q30z_s0 n)) (lorcNil)
omit [Tabs] [QuietD Tryz.prog] [UDef] [UTabs] in
theorem e_q30z (n : Nat) (x) : evF Tryz.prog 25 TT M_q30z F_q30z (O_q30z n) (L_q30z n) dorcNil ⟨[], [], []⟩ [.tmp 2] C_q30z x = q30z n x := by kernel_rfl
omit [UDef] [UTabs] in
theorem ok_q30z (n : Nat) : Contract Tryz.prog 52 F_q30z (q30z n) :=
  Contract.of_ev (c := C_q30z) (N := 25) Tryz.func52 (by kernel_rfl) (by kernel_rfl) (by kernel_rfl) (by kernel_rfl) (O_q30z_ok n) dorcNil_ok (.of (l := [(0, (lbody 1000 C_q30z 0))]) (by kernel_rfl) ⟨.head (loopL_sound (O_q30z_ok n) dorcNil_ok (.of (l := []) (by kernel_rfl) trivial) (s_q30z_s0 n)), trivial⟩) (e_q30z n)

noncomputable def F_q36z : FnT := ⟨1, ⟨[], [(0, (.lst .prp))], [], []⟩, [.v .i64], []⟩
noncomputable def F_q37z : FnT := ⟨2, ⟨[], [(0, .val), (1, .i64)], [], []⟩, [.v .i64], []⟩
noncomputable def C_q37z : Code := bodyOf Tryz.f90
noncomputable def M_q37z : List (Nat × ArgM) := [(90, ⟨[], [], [], true⟩), (131, ⟨[], [], [], true⟩)]
instance : DfOk M_q37z := .none rfl
noncomputable def O_q37z {ρ : Type} (self_q37z : Ev.Val × Int × Unit → Option (Int × Unit)) (n : Nat) : Orc ρ := orcCons 90 F_q37z (self_q37z) (orcCons 131 F_valid (validN) (orcNil))
omit [QuietD Tryz.prog] [UDef] in
theorem O_q37z_ok {ρ : Type} (self_q37z : Ev.Val × Int × Unit → Option (Int × Unit)) (h_q37z : Contract Tryz.prog 90 F_q37z self_q37z) (n : Nat) : (O_q37z self_q37z n : Orc ρ).ok Tryz.prog := orcCons_ok (by kernel_rfl) (h_q37z) (orcCons_ok (by kernel_rfl) (validN_ok) (orcNil_ok))
noncomputable def T_q37z_s1 : Tm := ⟨[], [(1, .i64), (5, .bool), (6, .bool), (34, (.lst .val)), (35, .i64), (36, .i64)], [], []⟩
noncomputable def X_q37z_s1 : Tm := ⟨[], [(5, .bool), (6, .bool)], [], []⟩
noncomputable def R_q37z_s1 : Tm := ⟨[], [(4, .i64)], [], []⟩
noncomputable def L_q37z_s1 {ρ : Type} (self_q37z : Ev.Val × Int × Unit → Option (Int × Unit)) (n : Nat) : LOrc ρ := lorcNil
omit [Tabs] [QuietD Tryz.prog] [UDef] [UTabs] in
theorem s_q37z_s1 {ρ : Type} (self_q37z : Ev.Val × Int × Unit → Option (Int × Unit)) (n : Nat) (rec : T_q37z_s1.den → Option ρ) kx kr s : dStep Tryz.prog 96 TT M_q37z (O_q37z self_q37z n) (L_q37z_s1 self_q37z n) (evDraw Tryz.prog 96 TT M_q37z (O_q37z self_q37z n)) 1 (lbody 1000 C_q37z 0) T_q37z_s1 X_q37z_s1 R_q37z_s1 ⟨[], [], []⟩ rec kx kr s = q37z_s1 self_q37z n rec kx kr s := by kernel_rfl
noncomputable def L_q37z {ρ : Type} (self_q37z : Ev.Val × Int × Unit → Option (Int × Unit)) (n : Nat) : LOrc ρ := lorcCons 1 (loopL 96 1 n T_q37z_s1 X_q37z_s1 R_q37z_s1 ⟨[], [], []⟩ (q37z_s1 self_q37z n)) (lorcNil)
omit [Tabs] [QuietD Tryz.prog] [UDef] [UTabs] in
theorem e_q37z (self_q37z : Ev.Val × Int × Unit → Option (Int × Unit)) (n : Nat) (x) : evF Tryz.prog 96 TT M_q37z F_q37z (O_q37z self_q37z n) (L_q37z self_q37z n) (evDraw Tryz.prog 96 TT M_q37z (O_q37z self_q37z n)) ⟨[], [], []⟩ [.tmp 4] C_q37z x = q37z_b self_q37z n x := by kernel_rfl
omit [UDef] in
theorem okb_q37z (self_q37z : Ev.Val × Int × Unit → Option (Int × Unit)) (h_q37z : Contract Tryz.prog 90 F_q37z self_q37z) (n : Nat) : Contract Tryz.prog 90 F_q37z (q37z_b self_q37z n) :=
  Contract.of_ev (c := C_q37z) (N := 96) Tryz.func90 (by kernel_rfl) (by kernel_rfl) (by kernel_rfl) (by kernel_rfl) (O_q37z_ok self_q37z h_q37z n) (evDraw_ok (O_q37z_ok self_q37z h_q37z n) (by kernel_rfl)) (.of (l := [(1, (lbody 1000 C_q37z 0))]) (by kernel_rfl) ⟨.head (loopL_sound (O_q37z_ok self_q37z h_q37z n) (evDraw_ok (O_q37z_ok self_q37z h_q37z n) (by kernel_rfl)) (.of (l := []) (by kernel_rfl) trivial) (s_q37z_s1 self_q37z n)), trivial⟩) (e_q37z self_q37z n)
omit [UDef] in
theorem ok_q37z : ∀ n, Contract Tryz.prog 90 F_q37z (q37z n)
  | 0 => fun _ _ h => by cases h
  | n + 1 => okb_q37z _ (ok_q37z n) n

noncomputable def C_q36z : Code := bodyOf Tryz.f53
noncomputable def M_q36z : List (Nat × ArgM) := [(54, ⟨[], [], [], true⟩), (90, ⟨[], [], [], true⟩)]
instance : DfOk M_q36z := .none rfl
noncomputable def O_q36z {ρ : Type} (n : Nat) : Orc ρ := orcCons 54 F_q55z (q55z) (orcCons 90 F_q37z (q37z n) (orcNil))
omit [UDef] in
theorem O_q36z_ok {ρ : Type} (n : Nat) : (O_q36z n : Orc ρ).ok Tryz.prog := orcCons_ok (by kernel_rfl) (ok_q55z) (orcCons_ok (by kernel_rfl) (ok_q37z n) (orcNil_ok))
noncomputable def T_q36z_s0 : Tm := ⟨[], [(3, .str), (10, (.lst .prp)), (11, .i64), (12, .i64)], [], []⟩
noncomputable def X_q36z_s0 : Tm := ⟨[], [], [], []⟩
noncomputable def R_q36z_s0 : Tm := ⟨[], [(2, .i64)], [], []⟩
noncomputable def L_q36z_s0 {ρ : Type} (n : Nat) : LOrc ρ := lorcNil
omit [Tabs] [QuietD Tryz.prog] [UDef] [UTabs] in
theorem s_q36z_s0 {ρ : Type} (n : Nat) (rec : T_q36z_s0.den → Option ρ) kx kr s : dStep Tryz.prog 41 TT M_q36z (O_q36z n) (L_q36z_s0 n) dorcNil 0 (lbody 1000 C_q36z 0) T_q36z_s0 X_q36z_s0 R_q36z_s0 ⟨[], [], []⟩ rec kx kr s = q36z_s0 n rec kx kr s := by kernel_rfl
noncomputable def L_q36z {ρ : Type} (n : Nat) : LOrc ρ := lorcCons 0 (loopL 41 0 n T_q36z_s0 X_q36z_s0 R_q36z_s0 ⟨[], [], []⟩ (q36z_s0 n)) (lorcNil)
omit [Tabs] [QuietD Tryz.prog] [UDef] [UTabs] in
theorem e_q36z (n : Nat) (x) : evF Tryz.prog 41 TT M_q36z F_q36z (O_q36z n) (L_q36z n) dorcNil ⟨[], [], []⟩ [.tmp 2] C_q36z x = q36z n x := by kernel_rfl
omit [UDef] in
theorem ok_q36z (n : Nat) : Contract Tryz.prog 53 F_q36z (q36z n) :=
  Contract.of_ev (c := C_q36z) (N := 41) Tryz.func53 (by kernel_rfl) (by kernel_rfl) (by kernel_rfl) (by kernel_rfl) (O_q36z_ok n) dorcNil_ok (.of (l := [(0, (lbody 1000 C_q36z 0))]) (by kernel_rfl) ⟨.head (loopL_sound (O_q36z_ok n) dorcNil_ok (.of (l := []) (by kernel_rfl) trivial) (s_q36z_s0 n)), trivial⟩) (e_q36z n)

noncomputable def F_q56z : FnT := ⟨2, ⟨[], [(0, .graph), (1, .i64)], [], []⟩, [.opt .node], []⟩
noncomputable def C_q56z : Code := bodyOf Tryz.f25
noncomputable def M_q56z : List (Nat × ArgM) := []
instance : DfOk M_q56z := .none rfl
noncomputable def O_q56z {ρ : Type} (n : Nat) : Orc ρ := orcNil
omit [QuietD Tryz.prog] [UDef] [UTabs] in
theorem O_q56z_ok {ρ : Type} (n : Nat) : (O_q56z n : Orc ρ).ok Tryz.prog := orcNil_ok
noncomputable def T_q56z_s0 : Tm := ⟨[(2, .ptr 2 0)], [(1, .i64), (8, .i64), (9, .i64)], [(2, .box [.d .graph])], []⟩
noncomputable def X_q56z_s0 : Tm := ⟨[], [], [], []⟩
noncomputable def R_q56z_s0 : Tm := ⟨[], [(4, (.ptr .node))], [], []⟩
noncomputable def L_q56z_s0 {ρ : Type} (n : Nat) : LOrc ρ := lorcNil
omit [Tabs] [QuietD Tryz.prog] [UDef] [UTabs] in
theorem s_q56z_s0 {ρ : Type} (n : Nat) (rec : T_q56z_s0.den → Option ρ) kx kr s : dStep Tryz.prog 25 TT M_q56z (O_q56z n) (L_q56z_s0 n) dorcNil 0 (lbody 1000 C_q56z 0) T_q56z_s0 X_q56z_s0 R_q56z_s0 ⟨[], [], []⟩ rec kx kr s = q56z_s0 n rec kx kr s := by kernel_rfl
noncomputable def L_q56z {ρ : Type} (n : Nat) : LOrc ρ := lorcCons 0 (loopL 25 0 n T_q56z_s0 X_q56z_s0 R_q56z_s0 ⟨[], [], []⟩ (q56z_s0 n)) (lorcNil)
omit [Tabs] [QuietD Tryz.prog] [UDef] [UTabs] in
theorem e_q56z (n : Nat) (x) : evF Tryz.prog 25 TT M_q56z F_q56z (O_q56z n) (L_q56z n) dorcNil ⟨[], [], []⟩ [.tmp 4] C_q56z x = q56z n x := by kernel_rfl
omit [UDef] [UTabs] in
theorem ok_q56z (n : Nat) : Contract Tryz.prog 25 F_q56z (q56z n) :=
  Contract.of_ev (c := C_q56z) (N := 25) Tryz.func25 (by kernel_rfl) (by kernel_rfl) (by kernel_rfl) (by kernel_rfl) (O_q56z_ok n) dorcNil_ok (.of (l := [(0, (lbody 1000 C_q56z 0))]) (by kernel_rfl) ⟨.head (loopL_sound (O_q56z_ok n) dorcNil_ok (.of (l := []) (by kernel_rfl) trivial) (s_q56z_s0 n)), trivial⟩) (e_q56z n)

noncomputable def C_q35z : Code := bodyOf Tryz.f12
noncomputable def M_q35z : List (Nat × ArgM) := [(52, ⟨[], [], [], true⟩), (53, ⟨[], [], [], true⟩), (54, ⟨[], [], [], true⟩)]
instance : DfOk M_q35z := .none rfl
noncomputable def O_q35z {ρ : Type} (n : Nat) : Orc ρ := orcCons 52 F_q30z (q30z n) (orcCons 53 F_q36z (q36z n) (orcCons 25 F_q56z (q56z n) (orcCons 54 F_q55z (q55z) (orcNil))))
omit [UDef] in
theorem O_q35z_ok {ρ : Type} (n : Nat) : (O_q35z n : Orc ρ).ok Tryz.prog := orcCons_ok (by kernel_rfl) (ok_q30z n) (orcCons_ok (by kernel_rfl) (ok_q36z n) (orcCons_ok (by kernel_rfl) (ok_q56z n) (orcCons_ok (by kernel_rfl) (ok_q55z) (orcNil_ok))))
noncomputable def T_q35z_s0 : Tm := ⟨[(1, .ptr 1 0)], [(3, .i64), (4, .i64), (23, (.lst .node)), (24, .i64), (25, .i64)], [(1, .box [.d .graph])], []⟩
noncomputable def X_q35z_s0 : Tm := ⟨[(1, .ptr 1 0)], [(3, .i64)], [(1, .box [.d .graph])], []⟩
noncomputable def R_q35z_s0 : Tm := ⟨[], [(2, .i64)], [], []⟩
noncomputable def L_q35z_s0 {ρ : Type} (n : Nat) : LOrc ρ := lorcNil
omit [Tabs] [QuietD Tryz.prog] [UDef] [UTabs] in
theorem s_q35z_s0 {ρ : Type} (n : Nat) (rec : T_q35z_s0.den → Option ρ) kx kr s : dStep Tryz.prog 108 TT M_q35z (O_q35z n) (L_q35z_s0 n) (evDraw Tryz.prog 108 TT M_q35z (O_q35z n)) 0 (lbody 1000 C_q35z 0) T_q35z_s0 X_q35z_s0 R_q35z_s0 ⟨[], [], []⟩ rec kx kr s = q35z_s0 n rec kx kr s := by kernel_rfl
noncomputable def T_q35z_s2 : Tm := ⟨[(1, .ptr 1 0)], [(3, .i64), (4, .i64), (51, (.lst .edg)), (52, .i64), (53, .i64)], [(1, .box [.d .graph])], []⟩
noncomputable def X_q35z_s2 : Tm := ⟨[(1, .ptr 1 0)], [(3, .i64)], [(1, .box [.d .graph])], []⟩
noncomputable def R_q35z_s2 : Tm := ⟨[], [(2, .i64)], [], []⟩
noncomputable def L_q35z_s2 {ρ : Type} (n : Nat) : LOrc ρ := lorcNil
omit [Tabs] [QuietD Tryz.prog] [UDef] [UTabs] in
theorem s_q35z_s2 {ρ : Type} (n : Nat) (rec : T_q35z_s2.den → Option ρ) kx kr s : dStep Tryz.prog 108 TT M_q35z (O_q35z n) (L_q35z_s2 n) (evDraw Tryz.prog 108 TT M_q35z (O_q35z n)) 2 (lbody 1000 C_q35z 1) T_q35z_s2 X_q35z_s2 R_q35z_s2 ⟨[], [], []⟩ rec kx kr s = q35z_s2 n rec kx kr s := by kernel_rfl
noncomputable def L_q35z {ρ : Type} (n : Nat) : LOrc ρ := lorcCons 0 (loopL 108 0 n T_q35z_s0 X_q35z_s0 R_q35z_s0 ⟨[], [], []⟩ (q35z_s0 n)) (lorcCons 2 (loopL 108 2 n T_q35z_s2 X_q35z_s2 R_q35z_s2 ⟨[], [], []⟩ (q35z_s2 n)) (lorcNil))
omit [Tabs] [QuietD Tryz.prog] [UDef] [UTabs] in
theorem e_q35z (n : Nat) (x) : evF Tryz.prog 108 TT M_q35z F_q35z (O_q35z n) (L_q35z n) (evDraw Tryz.prog 108 TT M_q35z (O_q35z n)) ⟨[], [], []⟩ [.tmp 2] C_q35z x = q35z n x := by kernel_rfl
omit [UDef] in
theorem ok_q35z (n : Nat) : Contract Tryz.prog 12 F_q35z (q35z n) :=
  Contract.of_ev (c := C_q35z) (N := 108) Tryz.func12 (by kernel_rfl) (by kernel_rfl) (by kernel_rfl) (by kernel_rfl) (O_q35z_ok n) (evDraw_ok (O_q35z_ok n) (by kernel_rfl)) (.of (l := [(0, (lbody 1000 C_q35z 0)), (2, (lbody 1000 C_q35z 1))]) (by kernel_rfl) ⟨.head (loopL_sound (O_q35z_ok n) (evDraw_ok (O_q35z_ok n) (by kernel_rfl)) (.of (l := []) (by kernel_rfl) trivial) (s_q35z_s0 n)), ⟨.tail rfl (.head (loopL_sound (O_q35z_ok n) (evDraw_ok (O_q35z_ok n) (by kernel_rfl)) (.of (l := []) (by kernel_rfl) trivial) (s_q35z_s2 n))), trivial⟩⟩) (e_q35z n)

noncomputable def F_q40z : FnT := ⟨2, ⟨[], [(0, .delta), (1, .delta)], [], []⟩, [.v .bool], []⟩
noncomputable def C_q40z : Code := bodyOf Tryz.f13
noncomputable def M_q40z : List (Nat × ArgM) := [(50, ⟨[], [], [], true⟩), (51, ⟨[], [], [], true⟩)]
instance : DfOk M_q40z := .none rfl
noncomputable def O_q40z {ρ : Type} (n : Nat) : Orc ρ := orcCons 50 F_q2z (q2z n) (orcCons 51 F_q1z (q1z n) (orcNil))
omit [UDef] [UTabs] in
theorem O_q40z_ok {ρ : Type} (n : Nat) : (O_q40z n : Orc ρ).ok Tryz.prog := orcCons_ok (by kernel_rfl) (ok_q2z n) (orcCons_ok (by kernel_rfl) (ok_q1z n) (orcNil_ok))
noncomputable def L_q40z {ρ : Type} (n : Nat) : LOrc ρ := lorcNil
omit [Tabs] [QuietD Tryz.prog] [UDef] [UTabs] in
theorem e_q40z (n : Nat) (x) : evF Tryz.prog 45 TT M_q40z F_q40z (O_q40z n) (L_q40z n) dorcNil ⟨[], [], []⟩ [.tmp 4] C_q40z x = q40z n x := by kernel_rfl
omit [UDef] [UTabs] in
theorem ok_q40z (n : Nat) : Contract Tryz.prog 13 F_q40z (q40z n) :=
  Contract.of_ev (c := C_q40z) (N := 45) Tryz.func13 (by kernel_rfl) (by kernel_rfl) (by kernel_rfl) (by kernel_rfl) (O_q40z_ok n) dorcNil_ok (.of (l := []) (by kernel_rfl) trivial) (e_q40z n)

noncomputable def F_q21z : FnT := ⟨3, ⟨[(2, .fn 15)], [(0, (.lst .node)), (1, (.lst .node))], [], []⟩, [.v (.lst .node)], []⟩
noncomputable def F_q8z : FnT := ⟨2, ⟨[(1, .clo 56 [1000000, 1000001])], [(0, (.lst .node))], [(1000000, .box [.ref (.fn 15)]), (1000001, .box [.d .node])], []⟩, [.v .bool], [(1000000, .box [.ref (.fn 15)]), (1000001, .box [.d .node])]⟩
noncomputable def F_q10z : FnT := ⟨2, ⟨[(1, .clo 56 [1000000, 1000001])], [(0, (.lst .node))], [(1000000, .box [.ref (.fn 15)]), (1000001, .box [.d .node])], []⟩, [.v .i64], [(1000000, .box [.ref (.fn 15)]), (1000001, .box [.d .node])]⟩
noncomputable def F_q27z : FnT := ⟨3, ⟨[(1, .ptr 1000000 0), (2, .ptr 1000016 0)], [(0, .node)], [(1000000, .box [.ref (.fn 15)]), (1000016, .box [.d .node])], []⟩, [.v .bool], [(1000000, .box [.ref (.fn 15)]), (1000016, .box [.d .node])]⟩
noncomputable def C_q27z : Code := bodyOf Tryz.f56
noncomputable def M_q27z : List (Nat × ArgM) := [(15, ⟨[], [], [], true⟩)]
instance : DfOk M_q27z := .none rfl
noncomputable def O_q27z {ρ : Type} (n : Nat) : Orc ρ := orcCons 15 F_q50z (q50z n) (orcNil)
omit [UDef] [UTabs] in
theorem O_q27z_ok {ρ : Type} (n : Nat) : (O_q27z n : Orc ρ).ok Tryz.prog := orcCons_ok (by kernel_rfl) (ok_q50z n) (orcNil_ok)
noncomputable def L_q27z {ρ : Type} (n : Nat) : LOrc ρ := lorcNil
omit [Tabs] [QuietD Tryz.prog] [UDef] [UTabs] in
theorem e_q27z (n : Nat) (x) : evF Tryz.prog 9 TT M_q27z F_q27z (O_q27z n) (L_q27z n) dorcNil ⟨[], [], []⟩ [.tmp 4] C_q27z x = q27z n x := by kernel_rfl
omit [UDef] [UTabs] in
theorem ok_q27z (n : Nat) : Contract Tryz.prog 56 F_q27z (q27z n) :=
  Contract.of_ev (c := C_q27z) (N := 9) Tryz.func56 (by kernel_rfl) (by kernel_rfl) (by kernel_rfl) (by kernel_rfl) (O_q27z_ok n) dorcNil_ok (.of (l := []) (by kernel_rfl) trivial) (e_q27z n)

noncomputable def C_q10z : Code := bodyOf Tryz.f22
noncomputable def M_q10z : List (Nat × ArgM) := [(56, ⟨[1, 2], [], [], false⟩)]
instance : DfOk M_q10z := .none rfl
noncomputable def O_q10z {ρ : Type} (n : Nat) : Orc ρ := orcCons 56 F_q27z (q27z n) (orcNil)
omit [UDef] [UTabs] in
theorem O_q10z_ok {ρ : Type} (n : Nat) : (O_q10z n : Orc ρ).ok Tryz.prog := orcCons_ok (by kernel_rfl) (ok_q27z n) (orcNil_ok)
noncomputable def T_q10z_s0 : Tm := ⟨[(1, .clo 56 [1000000, 1000001])], [(0, (.lst .node)), (7, .i64), (8, .i64)], [(1000000, .box [.ref (.fn 15)]), (1000001, .box [.d .node])], []⟩
noncomputable def X_q10z_s0 : Tm := ⟨[], [], [(1000000, .box [.ref (.fn 15)]), (1000001, .box [.d .node])], []⟩
noncomputable def R_q10z_s0 : Tm := ⟨[], [(4, .i64)], [(1000000, .box [.ref (.fn 15)]), (1000001, .box [.d .node])], []⟩
noncomputable def L_q10z_s0 {ρ : Type} (n : Nat) : LOrc ρ := lorcNil
omit [Tabs] [QuietD Tryz.prog] [UDef] [UTabs] in
theorem s_q10z_s0 {ρ : Type} (n : Nat) (rec : T_q10z_s0.den → Option ρ) kx kr s : dStep Tryz.prog 19 TT M_q10z (O_q10z n) (L_q10z_s0 n) dorcNil 0 (lbody 1000 C_q10z 0) T_q10z_s0 X_q10z_s0 R_q10z_s0 ⟨[], [], []⟩ rec kx kr s = q10z_s0 n rec kx kr s := by kernel_rfl
noncomputable def L_q10z {ρ : Type} (n : Nat) : LOrc ρ := lorcCons 0 (loopL 19 0 n T_q10z_s0 X_q10z_s0 R_q10z_s0 ⟨[], [], []⟩ (q10z_s0 n)) (lorcNil)
omit [Tabs] [QuietD Tryz.prog] [UDef] [UTabs] in
theorem e_q10z (n : Nat) (x) : evF Tryz.prog 19 TT M_q10z F_q10z (O_q10z n) (L_q10z n) dorcNil ⟨[], [], []⟩ [.tmp 4] C_q10z x = q10z n x := by kernel_rfl
omit [UDef] [UTabs] in
theorem ok_q10z (n : Nat) : Contract Tryz.prog 22 F_q10z (q10z n) :=
  Contract.of_ev (c := C_q10z) (N := 19) Tryz.func22 (by kernel_rfl) (by kernel_rfl) (by kernel_rfl) (by kernel_rfl) (O_q10z_ok n) dorcNil_ok (.of (l := [(0, (lbody 1000 C_q10z 0))]) (by kernel_rfl) ⟨.head (loopL_sound (O_q10z_ok n) dorcNil_ok (.of (l := []) (by kernel_rfl) trivial) (s_q10z_s0 n)), trivial⟩) (e_q10z n)

noncomputable def C_q8z : Code := bodyOf Tryz.f55
noncomputable def M_q8z : List (Nat × ArgM) := [(22, ⟨[1], [], [], false⟩)]
instance : DfOk M_q8z := .none rfl
noncomputable def O_q8z {ρ : Type} (n : Nat) : Orc ρ := orcCons 22 F_q10z (q10z n) (orcNil)
omit [UDef] [UTabs] in
theorem O_q8z_ok {ρ : Type} (n : Nat) : (O_q8z n : Orc ρ).ok Tryz.prog := orcCons_ok (by kernel_rfl) (ok_q10z n) (orcNil_ok)
noncomputable def L_q8z {ρ : Type} (n : Nat) : LOrc ρ := lorcNil
omit [Tabs] [QuietD Tryz.prog] [UDef] [UTabs] in
theorem e_q8z (n : Nat) (x) : evF Tryz.prog 9 TT M_q8z F_q8z (O_q8z n) (L_q8z n) dorcNil ⟨[], [], []⟩ [.tmp 4] C_q8z x = q8z n x := by kernel_rfl
omit [UDef] [UTabs] in
theorem ok_q8z (n : Nat) : Contract Tryz.prog 55 F_q8z (q8z n) :=
  Contract.of_ev (c := C_q8z) (N := 9) Tryz.func55 (by kernel_rfl) (by kernel_rfl) (by kernel_rfl) (by kernel_rfl) (O_q8z_ok n) dorcNil_ok (.of (l := []) (by kernel_rfl) trivial) (e_q8z n)

noncomputable def C_q21z : Code := bodyOf Tryz.f14
noncomputable def M_q21z : List (Nat × ArgM) := [(55, ⟨[1], [], [], false⟩)]
instance : DfOk M_q21z := .none rfl
noncomputable def O_q21z {ρ : Type} (n : Nat) : Orc ρ := orcCons 55 F_q8z (q8z n) (orcNil)
omit [UDef] [UTabs] in
theorem O_q21z_ok {ρ : Type} (n : Nat) : (O_q21z n : Orc ρ).ok Tryz.prog := orcCons_ok (by kernel_rfl) (ok_q8z n) (orcNil_ok)
noncomputable def T_q21z_s0 : Tm := ⟨[(5, .ptr 5 0), (7, .own 7)], [(1, (.lst .node)), (10, (.lst .node)), (11, .i64), (12, .i64)], [(5, .box [.ref (.fn 15)]), (7, .arr 43 .node)], []⟩
noncomputable def X_q21z_s0 : Tm := ⟨[(7, .own 7)], [], [(7, .arr 43 .node)], []⟩
noncomputable def R_q21z_s0 : Tm := ⟨[], [], [], []⟩
noncomputable def L_q21z_s0 {ρ : Type} (n : Nat) : LOrc ρ := lorcNil
omit [Tabs] [QuietD Tryz.prog] [UDef] [UTabs] in
theorem s_q21z_s0 {ρ : Type} (n : Nat) (rec : T_q21z_s0.den → Option ρ) kx kr s : dStep Tryz.prog 26 TT M_q21z (O_q21z n) (L_q21z_s0 n) dorcNil 0 (lbody 1000 C_q21z 0) T_q21z_s0 X_q21z_s0 R_q21z_s0 ⟨[], [(7, 7, 43, 3)], []⟩ rec kx kr s = q21z_s0 n rec kx kr s := by kernel_rfl
noncomputable def L_q21z {ρ : Type} (n : Nat) : LOrc ρ := lorcCons 0 (loopL 26 0 n T_q21z_s0 X_q21z_s0 R_q21z_s0 ⟨[], [(7, 7, 43, 3)], []⟩ (q21z_s0 n)) (lorcNil)
omit [Tabs] [QuietD Tryz.prog] [UDef] [UTabs] in
theorem e_q21z (n : Nat) (x) : evF Tryz.prog 26 TT M_q21z F_q21z (O_q21z n) (L_q21z n) dorcNil ⟨[], [], []⟩ [.tmp 6] C_q21z x = q21z n x := by kernel_rfl
omit [UDef] [UTabs] in
theorem ok_q21z (n : Nat) : Contract Tryz.prog 14 F_q21z (q21z n) :=
  Contract.of_ev (c := C_q21z) (N := 26) Tryz.func14 (by kernel_rfl) (by kernel_rfl) (by kernel_rfl) (by kernel_rfl) (O_q21z_ok n) dorcNil_ok (.of (l := [(0, (lbody 1000 C_q21z 0))]) (by kernel_rfl) ⟨.head (loopL_sound (O_q21z_ok n) dorcNil_ok (.of (l := []) (by kernel_rfl) trivial) (s_q21z_s0 n)), trivial⟩) (e_q21z n)

noncomputable def F_q20z : FnT := ⟨3, ⟨[(2, .fn 17)], [(0, (.lst .edg)), (1, (.lst .edg))], [], []⟩, [.v (.lst .edg)], []⟩
noncomputable def F_q7z : FnT := ⟨2, ⟨[(1, .clo 60 [1000000, 1000001])], [(0, (.lst .edg))], [(1000000, .box [.ref (.fn 17)]), (1000001, .box [.d .edg])], []⟩, [.v .bool], [(1000000, .box [.ref (.fn 17)]), (1000001, .box [.d .edg])]⟩
noncomputable def F_q9z : FnT := ⟨2, ⟨[(1, .clo 60 [1000000, 1000001])], [(0, (.lst .edg))], [(1000000, .box [.ref (.fn 17)]), (1000001, .box [.d .edg])], []⟩, [.v .i64], [(1000000, .box [.ref (.fn 17)]), (1000001, .box [.d .edg])]⟩
noncomputable def F_q26z : FnT := ⟨3, ⟨[(1, .ptr 1000000 0), (2, .ptr 1000016 0)], [(0, .edg)], [(1000000, .box [.ref (.fn 17)]), (1000016, .box [.d .edg])], []⟩, [.v .bool], [(1000000, .box [.ref (.fn 17)]), (1000016, .box [.d .edg])]⟩
noncomputable def C_q26z : Code := bodyOf Tryz.f60
noncomputable def M_q26z : List (Nat × ArgM) := [(17, ⟨[], [], [], true⟩)]
instance : DfOk M_q26z := .none rfl
noncomputable def O_q26z {ρ : Type} (n : Nat) : Orc ρ := orcCons 17 F_q49z (q49z n) (orcNil)
omit [UDef] [UTabs] in
theorem O_q26z_ok {ρ : Type} (n : Nat) : (O_q26z n : Orc ρ).ok Tryz.prog := orcCons_ok (by kernel_rfl) (ok_q49z n) (orcNil_ok)
noncomputable def L_q26z {ρ : Type} (n : Nat) : LOrc ρ := lorcNil
omit [Tabs] [QuietD Tryz.prog] [UDef] [UTabs] in
theorem e_q26z (n : Nat) (x) : evF Tryz.prog 9 TT M_q26z F_q26z (O_q26z n) (L_q26z n) dorcNil ⟨[], [], []⟩ [.tmp 4] C_q26z x = q26z n x := by kernel_rfl
omit [UDef] [UTabs] in
theorem ok_q26z (n : Nat) : Contract Tryz.prog 60 F_q26z (q26z n) :=
  Contract.of_ev (c := C_q26z) (N := 9) Tryz.func60 (by kernel_rfl) (by kernel_rfl) (by kernel_rfl) (by kernel_rfl) (O_q26z_ok n) dorcNil_ok (.of (l := []) (by kernel_rfl) trivial) (e_q26z n)

noncomputable def C_q9z : Code := bodyOf Tryz.f26
noncomputable def M_q9z : List (Nat × ArgM) := [(60, ⟨[1, 2], [], [], false⟩)]
instance : DfOk M_q9z := .none rfl
noncomputable def O_q9z {ρ : Type} (n : Nat) : Orc ρ := orcCons 60 F_q26z (q26z n) (orcNil)
omit [UDef] [UTabs] in
theorem O_q9z_ok {ρ : Type} (n : Nat) : (O_q9z n : Orc ρ).ok Tryz.prog := orcCons_ok (by kernel_rfl) (ok_q26z n) (orcNil_ok)
noncomputable def T_q9z_s0 : Tm := ⟨[(1, .clo 60 [1000000, 1000001])], [(0, (.lst .edg)), (7, .i64), (8, .i64)], [(1000000, .box [.ref (.fn 17)]), (1000001, .box [.d .edg])], []⟩
noncomputable def X_q9z_s0 : Tm := ⟨[], [], [(1000000, .box [.ref (.fn 17)]), (1000001, .box [.d .edg])], []⟩
noncomputable def R_q9z_s0 : Tm := ⟨[], [(4, .i64)], [(1000000, .box [.ref (.fn 17)]), (1000001, .box [.d .edg])], []⟩
noncomputable def L_q9z_s0 {ρ : Type} (n : Nat) : LOrc ρ := lorcNil
omit [Tabs] [QuietD Tryz.prog] [UDef] [UTabs] in
theorem s_q9z_s0 {ρ : Type} (n : Nat) (rec : T_q9z_s0.den → Option ρ) kx kr s : dStep Tryz.prog 19 TT M_q9z (O_q9z n) (L_q9z_s0 n) dorcNil 0 (lbody 1000 C_q9z 0) T_q9z_s0 X_q9z_s0 R_q9z_s0 ⟨[], [], []⟩ rec kx kr s = q9z_s0 n rec kx kr s := by kernel_rfl
noncomputable def L_q9z {ρ : Type} (n : Nat) : LOrc ρ := lorcCons 0 (loopL 19 0 n T_q9z_s0 X_q9z_s0 R_q9z_s0 ⟨[], [], []⟩ (q9z_s0 n)) (lorcNil)
omit [Tabs] [QuietD Tryz.prog] [UDef] [UTabs] in
theorem e_q9z (n : Nat) (x) : evF Tryz.prog 19 TT M_q9z F_q9z (O_q9z n) (L_q9z n) dorcNil ⟨[], [], []⟩ [.tmp 4] C_q9z x = q9z n x := by kernel_rfl
omit [UDef] [UTabs] in
theorem ok_q9z (n : Nat) : Contract Tryz.prog 26 F_q9z (q9z n) :=
  Contract.of_ev (c := C_q9z) (N := 19) Tryz.func26 (by kernel_rfl) (by kernel_rfl) (by kernel_rfl) (by kernel_rfl) (O_q9z_ok n) dorcNil_ok (.of (l := [(0, (lbody 1000 C_q9z 0))]) (by kernel_rfl) ⟨.head (loopL_sound (O_q9z_ok n) dorcNil_ok (.of (l := []) (by kernel_rfl) trivial) (s_q9z_s0 n)), trivial⟩) (e_q9z n)

noncomputable def C_q7z : Code := bodyOf Tryz.f59
noncomputable def M_q7z : List (Nat × ArgM) := [(26, ⟨[1], [], [], false⟩)]
instance : DfOk M_q7z := .none rfl
noncomputable def O_q7z {ρ : Type} (n : Nat) : Orc ρ := orcCons 26 F_q9z (q9z n) (orcNil)
omit [UDef] [UTabs] in
theorem O_q7z_ok {ρ : Type} (n : Nat) : (O_q7z n : Orc ρ).ok Tryz.prog := orcCons_ok (by kernel_rfl) (ok_q9z n) (orcNil_ok)
noncomputable def L_q7z {ρ : Type} (n : Nat) : LOrc ρ := lorcNil
omit [Tabs] [QuietD Tryz.prog] [UDef] [UTabs] in
theorem e_q7z (n : Nat) (x) : evF Tryz.prog 9 TT M_q7z F_q7z (O_q7z n) (L_q7z n) dorcNil ⟨[], [], []⟩ [.tmp 4] C_q7z x = q7z n x := by kernel_rfl
omit [UDef] [UTabs] in
theorem ok_q7z (n : Nat) : Contract Tryz.prog 59 F_q7z (q7z n) :=
  Contract.of_ev (c := C_q7z) (N := 9) Tryz.func59 (by kernel_rfl) (by kernel_rfl) (by kernel_rfl) (by kernel_rfl) (O_q7z_ok n) dorcNil_ok (.of (l := []) (by kernel_rfl) trivial) (e_q7z n)

noncomputable def C_q20z : Code := bodyOf Tryz.f16
noncomputable def M_q20z : List (Nat × ArgM) := [(59, ⟨[1], [], [], false⟩)]
instance : DfOk M_q20z := .none rfl
noncomputable def O_q20z {ρ : Type} (n : Nat) : Orc ρ := orcCons 59 F_q7z (q7z n) (orcNil)
omit [UDef] [UTabs] in
theorem O_q20z_ok {ρ : Type} (n : Nat) : (O_q20z n : Orc ρ).ok Tryz.prog := orcCons_ok (by kernel_rfl) (ok_q7z n) (orcNil_ok)
noncomputable def T_q20z_s0 : Tm := ⟨[(5, .ptr 5 0), (7, .own 7)], [(1, (.lst .edg)), (10, (.lst .edg)), (11, .i64), (12, .i64)], [(5, .box [.ref (.fn 17)]), (7, .arr 47 .edg)], []⟩
noncomputable def X_q20z_s0 : Tm := ⟨[(7, .own 7)], [], [(7, .arr 47 .edg)], []⟩
noncomputable def R_q20z_s0 : Tm := ⟨[], [], [], []⟩
noncomputable def L_q20z_s0 {ρ : Type} (n : Nat) : LOrc ρ := lorcNil
omit [Tabs] [QuietD Tryz.prog] [UDef] [UTabs] in
theorem s_q20z_s0 {ρ : Type} (n : Nat) (rec : T_q20z_s0.den → Option ρ) kx kr s : dStep Tryz.prog 26 TT M_q20z (O_q20z n) (L_q20z_s0 n) dorcNil 0 (lbody 1000 C_q20z 0) T_q20z_s0 X_q20z_s0 R_q20z_s0 ⟨[], [(7, 7, 47, 5)], []⟩ rec kx kr s = q20z_s0 n rec kx kr s := by kernel_rfl
noncomputable def L_q20z {ρ : Type} (n : Nat) : LOrc ρ := lorcCons 0 (loopL 26 0 n T_q20z_s0 X_q20z_s0 R_q20z_s0 ⟨[], [(7, 7, 47, 5)], []⟩ (q20z_s0 n)) (lorcNil)
omit [Tabs] [QuietD Tryz.prog] [UDef] [UTabs] in
theorem e_q20z (n : Nat) (x) : evF Tryz.prog 26 TT M_q20z F_q20z (O_q20z n) (L_q20z n) dorcNil ⟨[], [], []⟩ [.tmp 6] C_q20z x = q20z n x := by kernel_rfl
omit [UDef] [UTabs] in
theorem ok_q20z (n : Nat) : Contract Tryz.prog 16 F_q20z (q20z n) :=
  Contract.of_ev (c := C_q20z) (N := 26) Tryz.func16 (by kernel_rfl) (by kernel_rfl) (by kernel_rfl) (by kernel_rfl) (O_q20z_ok n) dorcNil_ok (.of (l := [(0, (lbody 1000 C_q20z 0))]) (by kernel_rfl) ⟨.head (loopL_sound (O_q20z_ok n) dorcNil_ok (.of (l := []) (by kernel_rfl) trivial) (s_q20z_s0 n)), trivial⟩) (e_q20z n)

noncomputable def F_q34z : FnT := ⟨1, ⟨[], [(0, .delta)], [], []⟩, [.v .delta], []⟩
noncomputable def C_q34z : Code := bodyOf Tryz.f18
noncomputable def M_q34z : List (Nat × ArgM) := []
instance : DfOk M_q34z := .none rfl
noncomputable def O_q34z {ρ : Type} : Orc ρ := orcNil
omit [QuietD Tryz.prog] [UDef] [UTabs] in
theorem O_q34z_ok {ρ : Type} : (O_q34z : Orc ρ).ok Tryz.prog := orcNil_ok
noncomputable def L_q34z {ρ : Type} : LOrc ρ := lorcNil
omit [Tabs] [QuietD Tryz.prog] [UDef] [UTabs] in
theorem e_q34z (x) : evF Tryz.prog 16 TT M_q34z F_q34z (O_q34z) (L_q34z) dorcNil ⟨[], [], []⟩ [.cell 2 27] C_q34z x = q34z x := by kernel_rfl
omit [UDef] [UTabs] in
theorem ok_q34z : Contract Tryz.prog 18 F_q34z (q34z) :=
  Contract.of_ev (c := C_q34z) (N := 16) Tryz.func18 (by kernel_rfl) (by kernel_rfl) (by kernel_rfl) (by kernel_rfl) (O_q34z_ok) dorcNil_ok (.of (l := []) (by kernel_rfl) trivial) (e_q34z)

noncomputable def C_q32z : Code := bodyOf Tryz.f5
noncomputable def M_q32z : List (Nat × ArgM) := [(12, ⟨[], [], [], true⟩), (8, ⟨[], [], [], true⟩), (13, ⟨[], [], [], true⟩)]
instance : DfOk M_q32z := .none rfl
noncomputable def O_q32z {ρ : Type} (n : Nat) : Orc ρ := orcCons 7 F_q78z (q78z n) (orcCons 12 F_q35z (q35z n) (orcCons 8 F_q52z (q52z n) (orcCons 13 F_q40z (q40z n) (orcCons 14 F_q21z (q21z n) (orcCons 16 F_q20z (q20z n) (orcCons 11 F_txn_Back (txn_Back n) (orcCons 18 F_q34z (q34z) (orcNil))))))))
omit [UDef] in
theorem O_q32z_ok {ρ : Type} (n : Nat) : (O_q32z n : Orc ρ).ok Tryz.prog := orcCons_ok (by kernel_rfl) (ok_q78z n) (orcCons_ok (by kernel_rfl) (ok_q35z n) (orcCons_ok (by kernel_rfl) (ok_q52z n) (orcCons_ok (by kernel_rfl) (ok_q40z n) (orcCons_ok (by kernel_rfl) (ok_q21z n) (orcCons_ok (by kernel_rfl) (ok_q20z n) (orcCons_ok (by kernel_rfl) (ok_txn_Back n) (orcCons_ok (by kernel_rfl) (ok_q34z) (orcNil_ok))))))))
noncomputable def L_q32z {ρ : Type} (n : Nat) : LOrc ρ := lorcNil
omit [Tabs] [QuietD Tryz.prog] [UDef] [UTabs] in
theorem e_q32z (n : Nat) (x) : evF Tryz.prog 77 TT M_q32z F_q32z (O_q32z n) (L_q32z n) (evDraw Tryz.prog 77 TT M_q32z (O_q32z n)) ⟨[], [], []⟩ [.tmp 4] C_q32z x = q32z n x := by kernel_rfl
omit [UDef] in
theorem ok_q32z (n : Nat) : Contract Tryz.prog 5 F_q32z (q32z n) :=
  Contract.of_ev (c := C_q32z) (N := 77) Tryz.func5 (by kernel_rfl) (by kernel_rfl) (by kernel_rfl) (by kernel_rfl) (O_q32z_ok n) (evDraw_ok (O_q32z_ok n) (by kernel_rfl)) (.of (l := []) (by kernel_rfl) trivial) (e_q32z n)

end Go.Proofs.YtnhbmojhcpcjaaaGreatDoor

/- Each of these functions computes what its plain function computes (written by gen.py). -/
import Derived.Test.YtojomjomicfcdaaDoorSBase
import Derived.KernelRfl
import Derived.Test.YtojomjomicfcdaaDoorEvDraw
import Derived.Test.YtojomjomicfcdaaDoorEvQuiet
import Derived.WalkKit
import Derived.Test.YtojomjomicfcdaaDoorPCode
namespace Go.Proofs.YtojomjomicfcdaaDoor
open Go Esp Ev Pure
set_option linter.unusedSimpArgs false
set_option linter.unusedVariables false
set_option maxRecDepth 100000
set_option maxHeartbeats 1000000
theorem quiet_78 (args : Array Value) (w : World) : (callFunc 78 args).run Tryd.prog w = .ok (.enter 78 args) w ∧ CallsD Tryd.prog 78 args .returning w fun e u w' => u = .returning ∧ (∃ v, e = .returned v) ∧ w' = w :=
  quiet_closure (fn := Tryd.f78) (by kernel_rfl) rfl (by kernel_rfl) (by kernel_rfl) (by kernel_rfl) (by kernel_rfl) args w
def okds : List FuncId := [78]
theorem quiets : ∀ g ∈ okds, ∀ (args : Array Value) (w : World), (callFunc g args).run Tryd.prog w = .ok (.enter g args) w ∧ CallsD Tryd.prog g args .returning w fun e u w' => u = .returning ∧ (∃ v, e = .returned v) ∧ w' = w := by
  intro g hg args w
  simp only [okds, List.mem_cons, List.not_mem_nil, or_false] at hg
  rcases hg with rfl
  · exact quiet_78 args w
variable [Tabs]
class UDef : Prop where
  ok : ∀ g ∈ ([78] : List Nat), g ∈ Tabs.okd
variable [QuietD Tryd.prog] [UDef] [UTabs]
def TT : List (TypeId × Ty) := [(2, .i64), (3, .i64), (4, .bool), (5, .u8), (6, .u8), (9, .str), (10, .str), (11, .str), (12, .u64), (21, .i32), (22, (.lst .node)), (23, (.lst .edg)), (25, .graph), (26, .i64), (31, (.lst .opn)), (44, (.lst .u8)), (49, (.lst .str)), (50, (.lst .prp)), (52, .node), (59, .edg), (66, (.lst .val)), (68, .val), (70, .opn), (89, .prp), (109, .u64), (110, .u64), (131, (.lst .i64)), (169, .u32), (170, .u8), (171, .u8), (174, .i32), (175, .i32)]

noncomputable def F_q22z : FnT := ⟨2, ⟨[], [(0, .graph), (1, .graph)], [], []⟩, [.v .bool], []⟩
noncomputable def F_q58z : FnT := ⟨1, ⟨[], [(0, .graph)], [], []⟩, [.v .str, .v .i64], []⟩
noncomputable def F_q51z : FnT := ⟨1, ⟨[], [(0, .graph)], [], []⟩, [.v .i64], []⟩
noncomputable def F_q46z : FnT := ⟨1, ⟨[], [(0, (.lst .str))], [], []⟩, [.v .i64], []⟩
noncomputable def F_q57z : FnT := ⟨1, ⟨[], [(0, .str)], [], []⟩, [.v .bool], []⟩
noncomputable def C_q57z : Code := bodyOf Tryd.f63
noncomputable def M_q57z : List (Nat × ArgM) := []
instance : DfOk M_q57z := .none rfl
noncomputable def O_q57z {ρ : Type} (n : Nat) : Orc ρ := orcNil
omit [QuietD Tryd.prog] [UDef] [UTabs] in
theorem O_q57z_ok {ρ : Type} (n : Nat) : (O_q57z n : Orc ρ).ok Tryd.prog := orcNil_ok
noncomputable def T_q57z_s0 : Tm := ⟨[], [(0, .str), (14, .i64), (15, .i64)], [], []⟩
noncomputable def X_q57z_s0 : Tm := ⟨[], [], [], []⟩
noncomputable def R_q57z_s0 : Tm := ⟨[], [(2, .bool)], [], []⟩
noncomputable def L_q57z_s0 {ρ : Type} (n : Nat) : LOrc ρ := lorcNil
omit [Tabs] [QuietD Tryd.prog] [UDef] [UTabs] in
theorem s_q57z_s0 {ρ : Type} (n : Nat) (rec : T_q57z_s0.den → Option ρ) kx kr s : dStep Tryd.prog 54 TT M_q57z (O_q57z n) (L_q57z_s0 n) dorcNil 0 (lbody 1000 C_q57z 0) T_q57z_s0 X_q57z_s0 R_q57z_s0 ⟨[], [], []⟩ rec kx kr s = q57z_s0 n rec kx kr s := by kernel_rfl
noncomputable def L_q57z {ρ : Type} (n : Nat) : LOrc ρ := lorcCons 0 (loopL 54 0 n T_q57z_s0 X_q57z_s0 R_q57z_s0 ⟨[], [], []⟩ (q57z_s0 n)) (lorcNil)
omit [Tabs] [QuietD Tryd.prog] [UDef] [UTabs] in
theorem e_q57z (n : Nat) (x) : evF Tryd.prog 54 TT M_q57z F_q57z (O_q57z n) (L_q57z n) dorcNil ⟨[], [], []⟩ [.tmp 2] C_q57z x = q57z n x := by kernel_rfl
omit [UDef] [UTabs] in
theorem ok_q57z (n : Nat) : Contract Tryd.prog 63 F_q57z (q57z n) :=
  Contract.of_ev (c := C_q57z) (N := 54) Tryd.func63 (by kernel_rfl) (by kernel_rfl) (by kernel_rfl) (by kernel_rfl) (O_q57z_ok n) dorcNil_ok (.of (l := [(0, (lbody 1000 C_q57z 0))]) (by kernel_rfl) ⟨.head (loopL_sound (O_q57z_ok n) dorcNil_ok (.of (l := []) (by kernel_rfl) trivial) (s_q57z_s0 n)), trivial⟩) (e_q57z n)

noncomputable def C_q46z : Code := bodyOf Tryd.f60
noncomputable def M_q46z : List (Nat × ArgM) := [(63, ⟨[], [], [], true⟩)]
instance : DfOk M_q46z := .none rfl
noncomputable def O_q46z {ρ : Type} (n : Nat) : Orc ρ := orcCons 63 F_q57z (q57z n) (orcNil)
omit [UDef] [UTabs] in
theorem O_q46z_ok {ρ : Type} (n : Nat) : (O_q46z n : Orc ρ).ok Tryd.prog := orcCons_ok (by kernel_rfl) (ok_q57z n) (orcNil_ok)
noncomputable def T_q46z_s0 : Tm := ⟨[], [(0, (.lst .str)), (8, (.lst .str)), (9, .i64), (10, .i64)], [], []⟩
noncomputable def X_q46z_s0 : Tm := ⟨[], [], [], []⟩
noncomputable def R_q46z_s0 : Tm := ⟨[], [(2, .i64)], [], []⟩
noncomputable def L_q46z_s0 {ρ : Type} (n : Nat) : LOrc ρ := lorcNil
omit [Tabs] [QuietD Tryd.prog] [UDef] [UTabs] in
theorem s_q46z_s0 {ρ : Type} (n : Nat) (rec : T_q46z_s0.den → Option ρ) kx kr s : dStep Tryd.prog 32 TT M_q46z (O_q46z n) (L_q46z_s0 n) dorcNil 0 (lbody 1000 C_q46z 0) T_q46z_s0 X_q46z_s0 R_q46z_s0 ⟨[], [], []⟩ rec kx kr s = q46z_s0 n rec kx kr s := by kernel_rfl
noncomputable def L_q46z {ρ : Type} (n : Nat) : LOrc ρ := lorcCons 0 (loopL 32 0 n T_q46z_s0 X_q46z_s0 R_q46z_s0 ⟨[], [], []⟩ (q46z_s0 n)) (lorcNil)
omit [Tabs] [QuietD Tryd.prog] [UDef] [UTabs] in
theorem e_q46z (n : Nat) (x) : evF Tryd.prog 32 TT M_q46z F_q46z (O_q46z n) (L_q46z n) dorcNil ⟨[], [], []⟩ [.tmp 2] C_q46z x = q46z n x := by kernel_rfl
omit [UDef] [UTabs] in
theorem ok_q46z (n : Nat) : Contract Tryd.prog 60 F_q46z (q46z n) :=
  Contract.of_ev (c := C_q46z) (N := 32) Tryd.func60 (by kernel_rfl) (by kernel_rfl) (by kernel_rfl) (by kernel_rfl) (O_q46z_ok n) dorcNil_ok (.of (l := [(0, (lbody 1000 C_q46z 0))]) (by kernel_rfl) ⟨.head (loopL_sound (O_q46z_ok n) dorcNil_ok (.of (l := []) (by kernel_rfl) trivial) (s_q46z_s0 n)), trivial⟩) (e_q46z n)

noncomputable def F_q52z : FnT := ⟨1, ⟨[], [(0, (.lst .prp))], [], []⟩, [.v .i64], []⟩
noncomputable def F_q53z : FnT := ⟨1, ⟨[], [(0, .val)], [], []⟩, [.v .i64], []⟩
noncomputable def F_q54z : FnT := ⟨2, ⟨[], [(0, .val), (1, .i64)], [], []⟩, [.v .i64], []⟩
noncomputable def C_q54z : Code := bodyOf Tryd.f83
noncomputable def M_q54z : List (Nat × ArgM) := [(86, ⟨[], [], [], true⟩), (83, ⟨[], [], [], true⟩)]
instance : DfOk M_q54z := .none rfl
noncomputable def O_q54z {ρ : Type} (self_q54z : Ev.Val × Int × Unit → Option (Int × Unit)) (n : Nat) : Orc ρ := orcCons 86 F_valid (validN) (orcCons 83 F_q54z (self_q54z) (orcNil))
omit [QuietD Tryd.prog] [UDef] in
theorem O_q54z_ok {ρ : Type} (self_q54z : Ev.Val × Int × Unit → Option (Int × Unit)) (h_q54z : Contract Tryd.prog 83 F_q54z self_q54z) (n : Nat) : (O_q54z self_q54z n : Orc ρ).ok Tryd.prog := orcCons_ok (by kernel_rfl) (validN_ok) (orcCons_ok (by kernel_rfl) (h_q54z) (orcNil_ok))
noncomputable def T_q54z_s1 : Tm := ⟨[(2, .ptr 2 0)], [(1, .i64), (90, (.lst .val)), (91, .i64), (92, .i64)], [(2, .box [.d .val])], []⟩
noncomputable def X_q54z_s1 : Tm := ⟨[(2, .ptr 2 0)], [], [(2, .box [.d .val])], []⟩
noncomputable def R_q54z_s1 : Tm := ⟨[], [(4, .i64)], [], []⟩
noncomputable def L_q54z_s1 {ρ : Type} (self_q54z : Ev.Val × Int × Unit → Option (Int × Unit)) (n : Nat) : LOrc ρ := lorcNil
omit [Tabs] [QuietD Tryd.prog] [UDef] [UTabs] in
theorem s_q54z_s1 {ρ : Type} (self_q54z : Ev.Val × Int × Unit → Option (Int × Unit)) (n : Nat) (rec : T_q54z_s1.den → Option ρ) kx kr s : dStep Tryd.prog 114 TT M_q54z (O_q54z self_q54z n) (L_q54z_s1 self_q54z n) dorcNil 1 (lbody 1000 C_q54z 0) T_q54z_s1 X_q54z_s1 R_q54z_s1 ⟨[], [], []⟩ rec kx kr s = q54z_s1 self_q54z n rec kx kr s := by kernel_rfl
noncomputable def L_q54z {ρ : Type} (self_q54z : Ev.Val × Int × Unit → Option (Int × Unit)) (n : Nat) : LOrc ρ := lorcCons 1 (loopL 114 1 n T_q54z_s1 X_q54z_s1 R_q54z_s1 ⟨[], [], []⟩ (q54z_s1 self_q54z n)) (lorcNil)
omit [Tabs] [QuietD Tryd.prog] [UDef] [UTabs] in
theorem e_q54z (self_q54z : Ev.Val × Int × Unit → Option (Int × Unit)) (n : Nat) (x) : evF Tryd.prog 114 TT M_q54z F_q54z (O_q54z self_q54z n) (L_q54z self_q54z n) dorcNil ⟨[], [], []⟩ [.tmp 4] C_q54z x = q54z_b self_q54z n x := by kernel_rfl
omit [UDef] in
theorem okb_q54z (self_q54z : Ev.Val × Int × Unit → Option (Int × Unit)) (h_q54z : Contract Tryd.prog 83 F_q54z self_q54z) (n : Nat) : Contract Tryd.prog 83 F_q54z (q54z_b self_q54z n) :=
  Contract.of_ev (c := C_q54z) (N := 114) Tryd.func83 (by kernel_rfl) (by kernel_rfl) (by kernel_rfl) (by kernel_rfl) (O_q54z_ok self_q54z h_q54z n) dorcNil_ok (.of (l := [(1, (lbody 1000 C_q54z 0))]) (by kernel_rfl) ⟨.head (loopL_sound (O_q54z_ok self_q54z h_q54z n) dorcNil_ok (.of (l := []) (by kernel_rfl) trivial) (s_q54z_s1 self_q54z n)), trivial⟩) (e_q54z self_q54z n)
omit [UDef] in
theorem ok_q54z : ∀ n, Contract Tryd.prog 83 F_q54z (q54z n)
  | 0 => fun _ _ h => by cases h
  | n + 1 => okb_q54z _ (ok_q54z n) n

noncomputable def C_q53z : Code := bodyOf Tryd.f67
noncomputable def M_q53z : List (Nat × ArgM) := [(83, ⟨[], [], [], true⟩)]
instance : DfOk M_q53z := .none rfl
noncomputable def O_q53z {ρ : Type} (n : Nat) : Orc ρ := orcCons 83 F_q54z (q54z n) (orcNil)
omit [UDef] in
theorem O_q53z_ok {ρ : Type} (n : Nat) : (O_q53z n : Orc ρ).ok Tryd.prog := orcCons_ok (by kernel_rfl) (ok_q54z n) (orcNil_ok)
noncomputable def L_q53z {ρ : Type} (n : Nat) : LOrc ρ := lorcNil
omit [Tabs] [QuietD Tryd.prog] [UDef] [UTabs] in
theorem e_q53z (n : Nat) (x) : evF Tryd.prog 5 TT M_q53z F_q53z (O_q53z n) (L_q53z n) dorcNil ⟨[], [], []⟩ [.tmp 2] C_q53z x = q53z n x := by kernel_rfl
omit [UDef] in
theorem ok_q53z (n : Nat) : Contract Tryd.prog 67 F_q53z (q53z n) :=
  Contract.of_ev (c := C_q53z) (N := 5) Tryd.func67 (by kernel_rfl) (by kernel_rfl) (by kernel_rfl) (by kernel_rfl) (O_q53z_ok n) dorcNil_ok (.of (l := []) (by kernel_rfl) trivial) (e_q53z n)

noncomputable def C_q52z : Code := bodyOf Tryd.f61
noncomputable def M_q52z : List (Nat × ArgM) := [(63, ⟨[], [], [], true⟩), (67, ⟨[], [], [], true⟩)]
instance : DfOk M_q52z := .none rfl
noncomputable def O_q52z {ρ : Type} (n : Nat) : Orc ρ := orcCons 63 F_q57z (q57z n) (orcCons 67 F_q53z (q53z n) (orcNil))
omit [UDef] in
theorem O_q52z_ok {ρ : Type} (n : Nat) : (O_q52z n : Orc ρ).ok Tryd.prog := orcCons_ok (by kernel_rfl) (ok_q57z n) (orcCons_ok (by kernel_rfl) (ok_q53z n) (orcNil_ok))
noncomputable def T_q52z_s0 : Tm := ⟨[], [(0, (.lst .prp)), (9, (.lst .prp)), (10, .i64), (11, .i64)], [], []⟩
noncomputable def X_q52z_s0 : Tm := ⟨[], [], [], []⟩
noncomputable def R_q52z_s0 : Tm := ⟨[], [(2, .i64)], [], []⟩
noncomputable def L_q52z_s0 {ρ : Type} (n : Nat) : LOrc ρ := lorcNil
omit [Tabs] [QuietD Tryd.prog] [UDef] [UTabs] in
theorem s_q52z_s0 {ρ : Type} (n : Nat) (rec : T_q52z_s0.den → Option ρ) kx kr s : dStep Tryd.prog 48 TT M_q52z (O_q52z n) (L_q52z_s0 n) (evDraw Tryd.prog 48 TT M_q52z (O_q52z n)) 0 (lbody 1000 C_q52z 0) T_q52z_s0 X_q52z_s0 R_q52z_s0 ⟨[], [], []⟩ rec kx kr s = q52z_s0 n rec kx kr s := by kernel_rfl
noncomputable def L_q52z {ρ : Type} (n : Nat) : LOrc ρ := lorcCons 0 (loopL 48 0 n T_q52z_s0 X_q52z_s0 R_q52z_s0 ⟨[], [], []⟩ (q52z_s0 n)) (lorcNil)
omit [Tabs] [QuietD Tryd.prog] [UDef] [UTabs] in
theorem e_q52z (n : Nat) (x) : evF Tryd.prog 48 TT M_q52z F_q52z (O_q52z n) (L_q52z n) (evDraw Tryd.prog 48 TT M_q52z (O_q52z n)) ⟨[], [], []⟩ [.tmp 2] C_q52z x = q52z n x := by kernel_rfl
omit [UDef] in
theorem ok_q52z (n : Nat) : Contract Tryd.prog 61 F_q52z (q52z n) :=
  Contract.of_ev (c := C_q52z) (N := 48) Tryd.func61 (by kernel_rfl) (by kernel_rfl) (by kernel_rfl) (by kernel_rfl) (O_q52z_ok n) (evDraw_ok (O_q52z_ok n) (by kernel_rfl)) (.of (l := [(0, (lbody 1000 C_q52z 0))]) (by kernel_rfl) ⟨.head (loopL_sound (O_q52z_ok n) (evDraw_ok (O_q52z_ok n) (by kernel_rfl)) (.of (l := []) (by kernel_rfl) trivial) (s_q52z_s0 n)), trivial⟩) (e_q52z n)

noncomputable def F_q36z : FnT := ⟨1, ⟨[], [(0, (.lst .i64))], [], []⟩, [.v .i64], []⟩
noncomputable def C_q36z : Code := bodyOf Tryd.f59
noncomputable def M_q36z : List (Nat × ArgM) := []
instance : DfOk M_q36z := .none rfl
noncomputable def O_q36z {ρ : Type} (n : Nat) : Orc ρ := orcNil
omit [QuietD Tryd.prog] [UDef] [UTabs] in
theorem O_q36z_ok {ρ : Type} (n : Nat) : (O_q36z n : Orc ρ).ok Tryd.prog := orcNil_ok
noncomputable def T_q36z_s0 : Tm := ⟨[], [(3, .i64), (6, (.lst .i64)), (7, .i64), (8, .i64)], [], []⟩
noncomputable def X_q36z_s0 : Tm := ⟨[], [(3, .i64)], [], []⟩
noncomputable def R_q36z_s0 : Tm := ⟨[], [(2, .i64)], [], []⟩
noncomputable def L_q36z_s0 {ρ : Type} (n : Nat) : LOrc ρ := lorcNil
omit [Tabs] [QuietD Tryd.prog] [UDef] [UTabs] in
theorem s_q36z_s0 {ρ : Type} (n : Nat) (rec : T_q36z_s0.den → Option ρ) kx kr s : dStep Tryd.prog 18 TT M_q36z (O_q36z n) (L_q36z_s0 n) dorcNil 0 (lbody 1000 C_q36z 0) T_q36z_s0 X_q36z_s0 R_q36z_s0 ⟨[], [], []⟩ rec kx kr s = q36z_s0 n rec kx kr s := by kernel_rfl
noncomputable def L_q36z {ρ : Type} (n : Nat) : LOrc ρ := lorcCons 0 (loopL 18 0 n T_q36z_s0 X_q36z_s0 R_q36z_s0 ⟨[], [], []⟩ (q36z_s0 n)) (lorcNil)
omit [Tabs] [QuietD Tryd.prog] [UDef] [UTabs] in
theorem e_q36z (n : Nat) (x) : evF Tryd.prog 18 TT M_q36z F_q36z (O_q36z n) (L_q36z n) dorcNil ⟨[], [], []⟩ [.tmp 2] C_q36z x = q36z n x := by kernel_rfl
omit [UDef] [UTabs] in
theorem ok_q36z (n : Nat) : Contract Tryd.prog 59 F_q36z (q36z n) :=
  Contract.of_ev (c := C_q36z) (N := 18) Tryd.func59 (by kernel_rfl) (by kernel_rfl) (by kernel_rfl) (by kernel_rfl) (O_q36z_ok n) dorcNil_ok (.of (l := [(0, (lbody 1000 C_q36z 0))]) (by kernel_rfl) ⟨.head (loopL_sound (O_q36z_ok n) dorcNil_ok (.of (l := []) (by kernel_rfl) trivial) (s_q36z_s0 n)), trivial⟩) (e_q36z n)

noncomputable def F_q56z : FnT := ⟨2, ⟨[], [(0, .graph), (1, .i64)], [], []⟩, [.v .i64], []⟩
noncomputable def F_q3z : FnT := ⟨3, ⟨[(2, .fn 81)], [(0, (.lst .node)), (1, .i64)], [], []⟩, [.v .i64, .v .bool], []⟩
noncomputable def F_q45z : FnT := ⟨2, ⟨[], [(0, .node), (1, .i64)], [], []⟩, [.v .i64], []⟩
noncomputable def F_q39z : FnT := ⟨2, ⟨[], [(0, .i64), (1, .i64)], [], []⟩, [.v .i64], []⟩
noncomputable def F_q43z : FnT := ⟨1, ⟨[], [(0, .i64)], [], []⟩, [.v .bool], []⟩
noncomputable def C_q43z : Code := bodyOf Tryd.f95
noncomputable def M_q43z : List (Nat × ArgM) := []
instance : DfOk M_q43z := .none rfl
noncomputable def O_q43z {ρ : Type} : Orc ρ := orcNil
omit [QuietD Tryd.prog] [UDef] [UTabs] in
theorem O_q43z_ok {ρ : Type} : (O_q43z : Orc ρ).ok Tryd.prog := orcNil_ok
noncomputable def L_q43z {ρ : Type} : LOrc ρ := lorcNil
omit [Tabs] [QuietD Tryd.prog] [UDef] [UTabs] in
theorem e_q43z (x) : evF Tryd.prog 6 TT M_q43z F_q43z (O_q43z) (L_q43z) dorcNil ⟨[], [], []⟩ [.tmp 2] C_q43z x = q43z x := by kernel_rfl
omit [UDef] [UTabs] in
theorem ok_q43z : Contract Tryd.prog 95 F_q43z (q43z) :=
  Contract.of_ev (c := C_q43z) (N := 6) Tryd.func95 (by kernel_rfl) (by kernel_rfl) (by kernel_rfl) (by kernel_rfl) (O_q43z_ok) dorcNil_ok (.of (l := []) (by kernel_rfl) trivial) (e_q43z)

noncomputable def C_q39z : Code := bodyOf Tryd.f82
noncomputable def M_q39z : List (Nat × ArgM) := [(95, ⟨[], [], [], true⟩)]
instance : DfOk M_q39z := .none rfl
noncomputable def O_q39z {ρ : Type} : Orc ρ := orcCons 95 F_q43z (q43z) (orcNil)
omit [UDef] [UTabs] in
theorem O_q39z_ok {ρ : Type} : (O_q39z : Orc ρ).ok Tryd.prog := orcCons_ok (by kernel_rfl) (ok_q43z) (orcNil_ok)
noncomputable def L_q39z {ρ : Type} : LOrc ρ := lorcNil
omit [Tabs] [QuietD Tryd.prog] [UDef] [UTabs] in
theorem e_q39z (x) : evF Tryd.prog 20 TT M_q39z F_q39z (O_q39z) (L_q39z) dorcNil ⟨[], [], []⟩ [.tmp 4] C_q39z x = q39z x := by kernel_rfl
omit [UDef] [UTabs] in
theorem ok_q39z : Contract Tryd.prog 82 F_q39z (q39z) :=
  Contract.of_ev (c := C_q39z) (N := 20) Tryd.func82 (by kernel_rfl) (by kernel_rfl) (by kernel_rfl) (by kernel_rfl) (O_q39z_ok) dorcNil_ok (.of (l := []) (by kernel_rfl) trivial) (e_q39z)

noncomputable def C_q45z : Code := bodyOf Tryd.f81
noncomputable def M_q45z : List (Nat × ArgM) := [(82, ⟨[], [], [], true⟩)]
instance : DfOk M_q45z := .none rfl
noncomputable def O_q45z {ρ : Type} : Orc ρ := orcCons 82 F_q39z (q39z) (orcNil)
omit [UDef] [UTabs] in
theorem O_q45z_ok {ρ : Type} : (O_q45z : Orc ρ).ok Tryd.prog := orcCons_ok (by kernel_rfl) (ok_q39z) (orcNil_ok)
noncomputable def L_q45z {ρ : Type} : LOrc ρ := lorcNil
omit [Tabs] [QuietD Tryd.prog] [UDef] [UTabs] in
theorem e_q45z (x) : evF Tryd.prog 9 TT M_q45z F_q45z (O_q45z) (L_q45z) dorcNil ⟨[], [], []⟩ [.tmp 4] C_q45z x = q45z x := by kernel_rfl
omit [UDef] [UTabs] in
theorem ok_q45z : Contract Tryd.prog 81 F_q45z (q45z) :=
  Contract.of_ev (c := C_q45z) (N := 9) Tryd.func81 (by kernel_rfl) (by kernel_rfl) (by kernel_rfl) (by kernel_rfl) (O_q45z_ok) dorcNil_ok (.of (l := []) (by kernel_rfl) trivial) (e_q45z)

noncomputable def C_q3z : Code := bodyOf Tryd.f80
noncomputable def M_q3z : List (Nat × ArgM) := [(81, ⟨[], [], [], true⟩)]
instance : DfOk M_q3z := .none rfl
noncomputable def O_q3z {ρ : Type} (n : Nat) : Orc ρ := orcCons 81 F_q45z (q45z) (orcNil)
omit [UDef] [UTabs] in
theorem O_q3z_ok {ρ : Type} (n : Nat) : (O_q3z n : Orc ρ).ok Tryd.prog := orcCons_ok (by kernel_rfl) (ok_q45z) (orcNil_ok)
noncomputable def T_q3z_s0 : Tm := ⟨[(2, .fn 81)], [(0, (.lst .node)), (1, .i64), (8, .i64), (9, .i64), (10, .i64)], [], []⟩
noncomputable def X_q3z_s0 : Tm := ⟨[(2, .fn 81)], [(0, (.lst .node)), (1, .i64), (8, .i64), (9, .i64)], [], []⟩
noncomputable def R_q3z_s0 : Tm := ⟨[], [], [], []⟩
noncomputable def L_q3z_s0 {ρ : Type} (n : Nat) : LOrc ρ := lorcNil
omit [Tabs] [QuietD Tryd.prog] [UDef] [UTabs] in
theorem s_q3z_s0 {ρ : Type} (n : Nat) (rec : T_q3z_s0.den → Option ρ) kx kr s : dStep Tryd.prog 49 TT M_q3z (O_q3z n) (L_q3z_s0 n) dorcNil 0 (lbody 1000 C_q3z 0) T_q3z_s0 X_q3z_s0 R_q3z_s0 ⟨[], [], []⟩ rec kx kr s = q3z_s0 n rec kx kr s := by kernel_rfl
noncomputable def L_q3z {ρ : Type} (n : Nat) : LOrc ρ := lorcCons 0 (loopL 49 0 n T_q3z_s0 X_q3z_s0 R_q3z_s0 ⟨[], [], []⟩ (q3z_s0 n)) (lorcNil)
omit [Tabs] [QuietD Tryd.prog] [UDef] [UTabs] in
theorem e_q3z (n : Nat) (x) : evF Tryd.prog 49 TT M_q3z F_q3z (O_q3z n) (L_q3z n) dorcNil ⟨[], [], []⟩ [.tmp 6, .tmp 7] C_q3z x = q3z n x := by kernel_rfl
omit [UDef] [UTabs] in
theorem ok_q3z (n : Nat) : Contract Tryd.prog 80 F_q3z (q3z n) :=
  Contract.of_ev (c := C_q3z) (N := 49) Tryd.func80 (by kernel_rfl) (by kernel_rfl) (by kernel_rfl) (by kernel_rfl) (O_q3z_ok n) dorcNil_ok (.of (l := [(0, (lbody 1000 C_q3z 0))]) (by kernel_rfl) ⟨.head (loopL_sound (O_q3z_ok n) dorcNil_ok (.of (l := []) (by kernel_rfl) trivial) (s_q3z_s0 n)), trivial⟩) (e_q3z n)

noncomputable def C_q56z : Code := bodyOf Tryd.f62
noncomputable def M_q56z : List (Nat × ArgM) := [(80, ⟨[], [], [], true⟩)]
instance : DfOk M_q56z := .none rfl
noncomputable def O_q56z {ρ : Type} (n : Nat) : Orc ρ := orcCons 80 F_q3z (q3z n) (orcNil)
omit [UDef] [UTabs] in
theorem O_q56z_ok {ρ : Type} (n : Nat) : (O_q56z n : Orc ρ).ok Tryd.prog := orcCons_ok (by kernel_rfl) (ok_q3z n) (orcNil_ok)
noncomputable def L_q56z {ρ : Type} (n : Nat) : LOrc ρ := lorcNil
omit [Tabs] [QuietD Tryd.prog] [UDef] [UTabs] in
theorem e_q56z (n : Nat) (x) : evF Tryd.prog 17 TT M_q56z F_q56z (O_q56z n) (L_q56z n) dorcNil ⟨[], [], []⟩ [.tmp 4] C_q56z x = q56z n x := by kernel_rfl
omit [UDef] [UTabs] in
theorem ok_q56z (n : Nat) : Contract Tryd.prog 62 F_q56z (q56z n) :=
  Contract.of_ev (c := C_q56z) (N := 17) Tryd.func62 (by kernel_rfl) (by kernel_rfl) (by kernel_rfl) (by kernel_rfl) (O_q56z_ok n) dorcNil_ok (.of (l := []) (by kernel_rfl) trivial) (e_q56z n)

noncomputable def C_q51z : Code := bodyOf Tryd.f16
noncomputable def M_q51z : List (Nat × ArgM) := [(60, ⟨[], [], [], true⟩), (61, ⟨[], [], [], true⟩), (59, ⟨[], [], [], true⟩), (62, ⟨[], [], [], true⟩), (63, ⟨[], [], [], true⟩)]
instance : DfOk M_q51z := .none rfl
noncomputable def O_q51z {ρ : Type} (n : Nat) : Orc ρ := orcCons 60 F_q46z (q46z n) (orcCons 61 F_q52z (q52z n) (orcCons 59 F_q36z (q36z n) (orcCons 62 F_q56z (q56z n) (orcCons 63 F_q57z (q57z n) (orcNil)))))
omit [UDef] in
theorem O_q51z_ok {ρ : Type} (n : Nat) : (O_q51z n : Orc ρ).ok Tryd.prog := orcCons_ok (by kernel_rfl) (ok_q46z n) (orcCons_ok (by kernel_rfl) (ok_q52z n) (orcCons_ok (by kernel_rfl) (ok_q36z n) (orcCons_ok (by kernel_rfl) (ok_q56z n) (orcCons_ok (by kernel_rfl) (ok_q57z n) (orcNil_ok)))))
noncomputable def T_q51z_s0 : Tm := ⟨[(1, .ptr 1 0)], [(3, .i64), (22, (.lst .node)), (23, .i64), (24, .i64)], [(1, .box [.d .graph])], []⟩
noncomputable def X_q51z_s0 : Tm := ⟨[(1, .ptr 1 0)], [(3, .i64)], [(1, .box [.d .graph])], []⟩
noncomputable def R_q51z_s0 : Tm := ⟨[], [(2, .i64)], [], []⟩
noncomputable def L_q51z_s0 {ρ : Type} (n : Nat) : LOrc ρ := lorcNil
omit [Tabs] [QuietD Tryd.prog] [UDef] [UTabs] in
theorem s_q51z_s0 {ρ : Type} (n : Nat) (rec : T_q51z_s0.den → Option ρ) kx kr s : dStep Tryd.prog 103 TT M_q51z (O_q51z n) (L_q51z_s0 n) (evDraw Tryd.prog 103 TT M_q51z (O_q51z n)) 0 (lbody 1000 C_q51z 0) T_q51z_s0 X_q51z_s0 R_q51z_s0 ⟨[], [], []⟩ rec kx kr s = q51z_s0 n rec kx kr s := by kernel_rfl
noncomputable def T_q51z_s2 : Tm := ⟨[(1, .ptr 1 0)], [(3, .i64), (7, .i64), (48, (.lst .edg)), (49, .i64), (50, .i64)], [(1, .box [.d .graph])], []⟩
noncomputable def X_q51z_s2 : Tm := ⟨[(1, .ptr 1 0)], [(3, .i64), (7, .i64)], [(1, .box [.d .graph])], []⟩
noncomputable def R_q51z_s2 : Tm := ⟨[], [(2, .i64)], [], []⟩
noncomputable def L_q51z_s2 {ρ : Type} (n : Nat) : LOrc ρ := lorcNil
omit [Tabs] [QuietD Tryd.prog] [UDef] [UTabs] in
theorem s_q51z_s2 {ρ : Type} (n : Nat) (rec : T_q51z_s2.den → Option ρ) kx kr s : dStep Tryd.prog 103 TT M_q51z (O_q51z n) (L_q51z_s2 n) (evDraw Tryd.prog 103 TT M_q51z (O_q51z n)) 2 (lbody 1000 C_q51z 1) T_q51z_s2 X_q51z_s2 R_q51z_s2 ⟨[], [], []⟩ rec kx kr s = q51z_s2 n rec kx kr s := by kernel_rfl
noncomputable def L_q51z {ρ : Type} (n : Nat) : LOrc ρ := lorcCons 0 (loopL 103 0 n T_q51z_s0 X_q51z_s0 R_q51z_s0 ⟨[], [], []⟩ (q51z_s0 n)) (lorcCons 2 (loopL 103 2 n T_q51z_s2 X_q51z_s2 R_q51z_s2 ⟨[], [], []⟩ (q51z_s2 n)) (lorcNil))
omit [Tabs] [QuietD Tryd.prog] [UDef] [UTabs] in
theorem e_q51z (n : Nat) (x) : evF Tryd.prog 103 TT M_q51z F_q51z (O_q51z n) (L_q51z n) (evDraw Tryd.prog 103 TT M_q51z (O_q51z n)) ⟨[], [], []⟩ [.tmp 2] C_q51z x = q51z n x := by kernel_rfl
omit [UDef] in
theorem ok_q51z (n : Nat) : Contract Tryd.prog 16 F_q51z (q51z n) :=
  Contract.of_ev (c := C_q51z) (N := 103) Tryd.func16 (by kernel_rfl) (by kernel_rfl) (by kernel_rfl) (by kernel_rfl) (O_q51z_ok n) (evDraw_ok (O_q51z_ok n) (by kernel_rfl)) (.of (l := [(0, (lbody 1000 C_q51z 0)), (2, (lbody 1000 C_q51z 1))]) (by kernel_rfl) ⟨.head (loopL_sound (O_q51z_ok n) (evDraw_ok (O_q51z_ok n) (by kernel_rfl)) (.of (l := []) (by kernel_rfl) trivial) (s_q51z_s0 n)), ⟨.tail rfl (.head (loopL_sound (O_q51z_ok n) (evDraw_ok (O_q51z_ok n) (by kernel_rfl)) (.of (l := []) (by kernel_rfl) trivial) (s_q51z_s2 n))), trivial⟩⟩) (e_q51z n)

noncomputable def F_q25z : FnT := ⟨2, ⟨[(0, .ptr 1000000 0)], [(1, .i64)], [(1000000, .box [.ref (.own 1000001)]), (1000001, .arr 5 .u8)], []⟩, [], [(1000000, .box [.ref (.own 1000001)]), (1000001, .arr 5 .u8)]⟩
noncomputable def C_q25z : Code := bodyOf Tryd.f17
noncomputable def M_q25z : List (Nat × ArgM) := []
instance : DfOk M_q25z := .none rfl
noncomputable def O_q25z {ρ : Type} (n : Nat) : Orc ρ := orcNil
omit [QuietD Tryd.prog] [UDef] [UTabs] in
theorem O_q25z_ok {ρ : Type} (n : Nat) : (O_q25z n : Orc ρ).ok Tryd.prog := orcNil_ok
noncomputable def T_q25z_s0 : Tm := ⟨[(0, .ptr 1000000 0)], [(4, .u64)], [(1000000, .box [.ref (.own 1000001)]), (1000001, .arr 5 .u8)], []⟩
noncomputable def X_q25z_s0 : Tm := ⟨[(0, .ptr 1000000 0)], [(4, .u64)], [(1000000, .box [.ref (.own 1000001)]), (1000001, .arr 5 .u8)], []⟩
noncomputable def R_q25z_s0 : Tm := ⟨[], [], [], []⟩
noncomputable def L_q25z_s0 {ρ : Type} (n : Nat) : LOrc ρ := lorcNil
omit [Tabs] [QuietD Tryd.prog] [UDef] [UTabs] in
theorem s_q25z_s0 {ρ : Type} (n : Nat) (rec : T_q25z_s0.den → Option ρ) kx kr s : dStep Tryd.prog 39 TT M_q25z (O_q25z n) (L_q25z_s0 n) dorcNil 0 (lbody 1000 C_q25z 0) T_q25z_s0 X_q25z_s0 R_q25z_s0 ⟨[], [], [(1000000, 0, 700000, 5, 1)]⟩ rec kx kr s = q25z_s0 n rec kx kr s := by kernel_rfl
noncomputable def L_q25z {ρ : Type} (n : Nat) : LOrc ρ := lorcCons 0 (loopL 39 0 n T_q25z_s0 X_q25z_s0 R_q25z_s0 ⟨[], [], [(1000000, 0, 700000, 5, 1)]⟩ (q25z_s0 n)) (lorcNil)
omit [Tabs] [QuietD Tryd.prog] [UDef] [UTabs] in
theorem e_q25z (n : Nat) (x) : evF Tryd.prog 39 TT M_q25z F_q25z (O_q25z n) (L_q25z n) dorcNil ⟨[], [], []⟩ [] C_q25z x = q25z n x := by kernel_rfl
omit [UDef] [UTabs] in
theorem ok_q25z (n : Nat) : Contract Tryd.prog 17 F_q25z (q25z n) :=
  Contract.of_ev (c := C_q25z) (N := 39) Tryd.func17 (by kernel_rfl) (by kernel_rfl) (by kernel_rfl) (by kernel_rfl) (O_q25z_ok n) dorcNil_ok (.of (l := [(0, (lbody 1000 C_q25z 0))]) (by kernel_rfl) ⟨.head (loopL_sound (O_q25z_ok n) dorcNil_ok (.of (l := []) (by kernel_rfl) trivial) (s_q25z_s0 n)), trivial⟩) (e_q25z n)

noncomputable def F_q12z : FnT := ⟨3, ⟨[(0, .ptr 1000000 0), (2, .clo 19 [1000016])], [(1, (.lst .node))], [(1000000, .box [.ref (.own 1000001)]), (1000001, .arr 5 .u8), (1000016, .box [.ref (.ptr 1000000 0)])], []⟩, [], [(1000000, .box [.ref (.own 1000001)]), (1000001, .arr 5 .u8), (1000016, .box [.ref (.ptr 1000000 0)])]⟩
noncomputable def F_q47z : FnT := ⟨2, ⟨[(1, .ptr 1000000 0)], [(0, .node)], [(1000000, .box [.ref (.ptr 1000001 0)]), (1000001, .box [.ref (.own 1000002)]), (1000002, .arr 5 .u8)], []⟩, [], [(1000000, .box [.ref (.ptr 1000001 0)]), (1000001, .box [.ref (.own 1000002)]), (1000002, .arr 5 .u8)]⟩
noncomputable def F_q8z : FnT := ⟨3, ⟨[(0, .ptr 1000000 0), (2, .bnd 21 [1000000])], [(1, (.lst .str))], [(1000000, .box [.ref (.own 1000001)]), (1000001, .arr 5 .u8)], []⟩, [], [(1000000, .box [.ref (.own 1000001)]), (1000001, .arr 5 .u8)]⟩
noncomputable def F_q35z : FnT := ⟨2, ⟨[(0, .ptr 1000000 0)], [(1, .str)], [(1000000, .box [.ref (.own 1000001)]), (1000001, .arr 5 .u8)], []⟩, [], [(1000000, .box [.ref (.own 1000001)]), (1000001, .arr 5 .u8)]⟩
noncomputable def C_q35z : Code := bodyOf Tryd.f21
noncomputable def M_q35z : List (Nat × ArgM) := [(17, ⟨[0], [], [], false⟩)]
instance : DfOk M_q35z := .none rfl
noncomputable def O_q35z {ρ : Type} (n : Nat) : Orc ρ := orcCons 17 F_q25z (q25z n) (orcNil)
omit [UDef] [UTabs] in
theorem O_q35z_ok {ρ : Type} (n : Nat) : (O_q35z n : Orc ρ).ok Tryd.prog := orcCons_ok (by kernel_rfl) (ok_q25z n) (orcNil_ok)
noncomputable def L_q35z {ρ : Type} (n : Nat) : LOrc ρ := lorcNil
omit [Tabs] [QuietD Tryd.prog] [UDef] [UTabs] in
theorem e_q35z (n : Nat) (x) : evF Tryd.prog 17 TT M_q35z F_q35z (O_q35z n) (L_q35z n) dorcNil ⟨[], [], []⟩ [] C_q35z x = q35z n x := by kernel_rfl
omit [UDef] [UTabs] in
theorem ok_q35z (n : Nat) : Contract Tryd.prog 21 F_q35z (q35z n) :=
  Contract.of_ev (c := C_q35z) (N := 17) Tryd.func21 (by kernel_rfl) (by kernel_rfl) (by kernel_rfl) (by kernel_rfl) (O_q35z_ok n) dorcNil_ok (.of (l := []) (by kernel_rfl) trivial) (e_q35z n)

noncomputable def C_q8z : Code := bodyOf Tryd.f20
noncomputable def M_q8z : List (Nat × ArgM) := [(17, ⟨[0], [], [], false⟩), (21, ⟨[0], [], [], false⟩)]
instance : DfOk M_q8z := .none rfl
noncomputable def O_q8z {ρ : Type} (n : Nat) : Orc ρ := orcCons 17 F_q25z (q25z n) (orcCons 21 F_q35z (q35z n) (orcNil))
omit [UDef] [UTabs] in
theorem O_q8z_ok {ρ : Type} (n : Nat) : (O_q8z n : Orc ρ).ok Tryd.prog := orcCons_ok (by kernel_rfl) (ok_q25z n) (orcCons_ok (by kernel_rfl) (ok_q35z n) (orcNil_ok))
noncomputable def T_q8z_s0 : Tm := ⟨[(2, .bnd 21 [1000000])], [(12, (.lst .str)), (13, .i64), (14, .i64)], [(1000000, .box [.ref (.own 1000001)]), (1000001, .arr 5 .u8)], []⟩
noncomputable def X_q8z_s0 : Tm := ⟨[], [], [(1000000, .box [.ref (.own 1000001)]), (1000001, .arr 5 .u8)], []⟩
noncomputable def R_q8z_s0 : Tm := ⟨[], [], [], []⟩
noncomputable def L_q8z_s0 {ρ : Type} (n : Nat) : LOrc ρ := lorcNil
omit [Tabs] [QuietD Tryd.prog] [UDef] [UTabs] in
theorem s_q8z_s0 {ρ : Type} (n : Nat) (rec : T_q8z_s0.den → Option ρ) kx kr s : dStep Tryd.prog 22 TT M_q8z (O_q8z n) (L_q8z_s0 n) dorcNil 0 (lbody 1000 C_q8z 0) T_q8z_s0 X_q8z_s0 R_q8z_s0 ⟨[], [], []⟩ rec kx kr s = q8z_s0 n rec kx kr s := by kernel_rfl
noncomputable def L_q8z {ρ : Type} (n : Nat) : LOrc ρ := lorcCons 0 (loopL 22 0 n T_q8z_s0 X_q8z_s0 R_q8z_s0 ⟨[], [], []⟩ (q8z_s0 n)) (lorcNil)
omit [Tabs] [QuietD Tryd.prog] [UDef] [UTabs] in
theorem e_q8z (n : Nat) (x) : evF Tryd.prog 22 TT M_q8z F_q8z (O_q8z n) (L_q8z n) dorcNil ⟨[], [], []⟩ [] C_q8z x = q8z n x := by kernel_rfl
omit [UDef] [UTabs] in
theorem ok_q8z (n : Nat) : Contract Tryd.prog 20 F_q8z (q8z n) :=
  Contract.of_ev (c := C_q8z) (N := 22) Tryd.func20 (by kernel_rfl) (by kernel_rfl) (by kernel_rfl) (by kernel_rfl) (O_q8z_ok n) dorcNil_ok (.of (l := [(0, (lbody 1000 C_q8z 0))]) (by kernel_rfl) ⟨.head (loopL_sound (O_q8z_ok n) dorcNil_ok (.of (l := []) (by kernel_rfl) trivial) (s_q8z_s0 n)), trivial⟩) (e_q8z n)

noncomputable def F_q30z : FnT := ⟨2, ⟨[(0, .ptr 1000000 0)], [(1, (.lst .prp))], [(1000000, .box [.ref (.own 1000001)]), (1000001, .arr 5 .u8)], []⟩, [], [(1000000, .box [.ref (.own 1000001)]), (1000001, .arr 5 .u8)]⟩
noncomputable def F_q4z : FnT := ⟨3, ⟨[(0, .ptr 1000000 0), (2, .clo 65 [1000016])], [(1, (.lst .prp))], [(1000000, .box [.ref (.own 1000001)]), (1000001, .arr 5 .u8), (1000016, .box [.ref (.ptr 1000000 0)])], []⟩, [], [(1000000, .box [.ref (.own 1000001)]), (1000001, .arr 5 .u8), (1000016, .box [.ref (.ptr 1000000 0)])]⟩
noncomputable def F_q21z : FnT := ⟨2, ⟨[(1, .ptr 1000000 0)], [(0, .prp)], [(1000000, .box [.ref (.ptr 1000001 0)]), (1000001, .box [.ref (.own 1000002)]), (1000002, .arr 5 .u8)], []⟩, [], [(1000000, .box [.ref (.ptr 1000001 0)]), (1000001, .box [.ref (.own 1000002)]), (1000002, .arr 5 .u8)]⟩
noncomputable def F_q31z : FnT := ⟨2, ⟨[(0, .ptr 1000000 0)], [(1, .val)], [(1000000, .box [.ref (.own 1000001)]), (1000001, .arr 5 .u8)], []⟩, [], [(1000000, .box [.ref (.own 1000001)]), (1000001, .arr 5 .u8)]⟩
noncomputable def F_code_Put : FnT := ⟨2, ⟨[(0, .own 1000000)], [(1, .val)], [(1000000, .arr 5 .u8)], []⟩, [.ref (.own 1000000)], [(1000000, .arr 5 .u8)]⟩
noncomputable def F_q50z : FnT := ⟨3, ⟨[(0, .own 1000000)], [(1, .u64), (2, .i64)], [(1000000, .arr 5 .u8)], []⟩, [.ref (.own 1000000)], [(1000000, .arr 5 .u8)]⟩
noncomputable def C_q50z : Code := bodyOf Tryd.f84
noncomputable def M_q50z : List (Nat × ArgM) := []
instance : DfOk M_q50z := .none rfl
noncomputable def O_q50z {ρ : Type} (n : Nat) : Orc ρ := orcNil
omit [QuietD Tryd.prog] [UDef] [UTabs] in
theorem O_q50z_ok {ρ : Type} (n : Nat) : (O_q50z n : Orc ρ).ok Tryd.prog := orcNil_ok
noncomputable def T_q50z_s0 : Tm := ⟨[(0, .own 1000000)], [(1, .u64), (7, .i64)], [(1000000, .arr 5 .u8)], []⟩
noncomputable def X_q50z_s0 : Tm := ⟨[(0, .own 1000000)], [], [(1000000, .arr 5 .u8)], []⟩
noncomputable def R_q50z_s0 : Tm := ⟨[], [], [], []⟩
noncomputable def L_q50z_s0 {ρ : Type} (n : Nat) : LOrc ρ := lorcNil
omit [Tabs] [QuietD Tryd.prog] [UDef] [UTabs] in
theorem s_q50z_s0 {ρ : Type} (n : Nat) (rec : T_q50z_s0.den → Option ρ) kx kr s : dStep Tryd.prog 23 TT M_q50z (O_q50z n) (L_q50z_s0 n) dorcNil 0 (lbody 1000 C_q50z 0) T_q50z_s0 X_q50z_s0 R_q50z_s0 ⟨[], [(0, 0, 5, 1)], []⟩ rec kx kr s = q50z_s0 n rec kx kr s := by kernel_rfl
noncomputable def L_q50z {ρ : Type} (n : Nat) : LOrc ρ := lorcCons 0 (loopL 23 0 n T_q50z_s0 X_q50z_s0 R_q50z_s0 ⟨[], [(0, 0, 5, 1)], []⟩ (q50z_s0 n)) (lorcNil)
omit [Tabs] [QuietD Tryd.prog] [UDef] [UTabs] in
theorem e_q50z (n : Nat) (x) : evF Tryd.prog 23 TT M_q50z F_q50z (O_q50z n) (L_q50z n) dorcNil ⟨[], [], []⟩ [.tmp 6] C_q50z x = q50z n x := by kernel_rfl
omit [UDef] [UTabs] in
theorem ok_q50z (n : Nat) : Contract Tryd.prog 84 F_q50z (q50z n) :=
  Contract.of_ev (c := C_q50z) (N := 23) Tryd.func84 (by kernel_rfl) (by kernel_rfl) (by kernel_rfl) (by kernel_rfl) (O_q50z_ok n) dorcNil_ok (.of (l := [(0, (lbody 1000 C_q50z 0))]) (by kernel_rfl) ⟨.head (loopL_sound (O_q50z_ok n) dorcNil_ok (.of (l := []) (by kernel_rfl) trivial) (s_q50z_s0 n)), trivial⟩) (e_q50z n)

noncomputable def C_code_Put : Code := bodyOf Tryd.f68
noncomputable def M_code_Put : List (Nat × ArgM) := [(84, ⟨[0], [⟨0, 1000000, 5, 1⟩], [], false⟩), (68, ⟨[0], [⟨0, 1000000, 5, 1⟩], [], false⟩)]
instance : DfOk M_code_Put := .none rfl
noncomputable def O_code_Put {ρ : Type} (self_code_Put : Ev.Val × (List Int) × Unit → Option ((List Int) × Unit)) (n : Nat) : Orc ρ := orcCons 84 F_q50z (q50z n) (orcCons 68 F_code_Put (self_code_Put) (orcNil))
omit [UDef] [UTabs] in
theorem O_code_Put_ok {ρ : Type} (self_code_Put : Ev.Val × (List Int) × Unit → Option ((List Int) × Unit)) (h_code_Put : Contract Tryd.prog 68 F_code_Put self_code_Put) (n : Nat) : (O_code_Put self_code_Put n : Orc ρ).ok Tryd.prog := orcCons_ok (by kernel_rfl) (ok_q50z n) (orcCons_ok (by kernel_rfl) (h_code_Put) (orcNil_ok))
noncomputable def T_code_Put_s1 : Tm := ⟨[(0, .own 1000000)], [(46, (.lst .val)), (47, .i64), (48, .i64)], [(1000000, .arr 5 .u8)], []⟩
noncomputable def X_code_Put_s1 : Tm := ⟨[(0, .own 1000000)], [], [(1000000, .arr 5 .u8)], []⟩
noncomputable def R_code_Put_s1 : Tm := ⟨[], [], [], []⟩
noncomputable def L_code_Put_s1 {ρ : Type} (self_code_Put : Ev.Val × (List Int) × Unit → Option ((List Int) × Unit)) (n : Nat) : LOrc ρ := lorcNil
omit [Tabs] [QuietD Tryd.prog] [UDef] [UTabs] in
theorem s_code_Put_s1 {ρ : Type} (self_code_Put : Ev.Val × (List Int) × Unit → Option ((List Int) × Unit)) (n : Nat) (rec : T_code_Put_s1.den → Option ρ) kx kr s : dStep Tryd.prog 57 TT M_code_Put (O_code_Put self_code_Put n) (L_code_Put_s1 self_code_Put n) dorcNil 1 (lbody 1000 C_code_Put 0) T_code_Put_s1 X_code_Put_s1 R_code_Put_s1 ⟨[], [], []⟩ rec kx kr s = code_Put_s1 self_code_Put n rec kx kr s := by kernel_rfl
noncomputable def L_code_Put {ρ : Type} (self_code_Put : Ev.Val × (List Int) × Unit → Option ((List Int) × Unit)) (n : Nat) : LOrc ρ := lorcCons 1 (loopL 57 1 n T_code_Put_s1 X_code_Put_s1 R_code_Put_s1 ⟨[], [], []⟩ (code_Put_s1 self_code_Put n)) (lorcNil)
omit [Tabs] [QuietD Tryd.prog] [UDef] [UTabs] in
theorem e_code_Put (self_code_Put : Ev.Val × (List Int) × Unit → Option ((List Int) × Unit)) (n : Nat) (x) : evF Tryd.prog 57 TT M_code_Put F_code_Put (O_code_Put self_code_Put n) (L_code_Put self_code_Put n) dorcNil ⟨[], [], []⟩ [.tmp 4] C_code_Put x = code_Put_b self_code_Put n x := by kernel_rfl
omit [UDef] [UTabs] in
theorem okb_code_Put (self_code_Put : Ev.Val × (List Int) × Unit → Option ((List Int) × Unit)) (h_code_Put : Contract Tryd.prog 68 F_code_Put self_code_Put) (n : Nat) : Contract Tryd.prog 68 F_code_Put (code_Put_b self_code_Put n) :=
  Contract.of_ev (c := C_code_Put) (N := 57) Tryd.func68 (by kernel_rfl) (by kernel_rfl) (by kernel_rfl) (by kernel_rfl) (O_code_Put_ok self_code_Put h_code_Put n) dorcNil_ok (.of (l := [(1, (lbody 1000 C_code_Put 0))]) (by kernel_rfl) ⟨.head (loopL_sound (O_code_Put_ok self_code_Put h_code_Put n) dorcNil_ok (.of (l := []) (by kernel_rfl) trivial) (s_code_Put_s1 self_code_Put n)), trivial⟩) (e_code_Put self_code_Put n)
omit [UDef] [UTabs] in
theorem ok_code_Put : ∀ n, Contract Tryd.prog 68 F_code_Put (code_Put n)
  | 0 => fun _ _ h => by cases h
  | n + 1 => okb_code_Put _ (ok_code_Put n) n

noncomputable def C_q31z : Code := bodyOf Tryd.f33
noncomputable def M_q31z : List (Nat × ArgM) := [(999999994, ⟨[10], [], [], false⟩), (999999993, ⟨[4], [], [], false⟩), (68, ⟨[0], [⟨0, 1000000, 5, 1⟩], [], false⟩)]
instance : DfOk M_q31z := .none rfl
noncomputable def O_q31z {ρ : Type} (n : Nat) : Orc ρ := orcCons 68 F_code_Put (code_Put n) (orcNil)
omit [UDef] [UTabs] in
theorem O_q31z_ok {ρ : Type} (n : Nat) : (O_q31z n : Orc ρ).ok Tryd.prog := orcCons_ok (by kernel_rfl) (ok_code_Put n) (orcNil_ok)
noncomputable def L_q31z {ρ : Type} (n : Nat) : LOrc ρ := lorcNil
omit [Tabs] [QuietD Tryd.prog] [UDef] [UTabs] in
theorem e_q31z (n : Nat) (x) : evF Tryd.prog 13 TT M_q31z F_q31z (O_q31z n) (L_q31z n) (evDraw Tryd.prog 13 TT M_q31z (O_q31z n)) ⟨[], [], []⟩ [] C_q31z x = q31z n x := by kernel_rfl
omit [UDef] [UTabs] in
theorem ok_q31z (n : Nat) : Contract Tryd.prog 33 F_q31z (q31z n) :=
  Contract.of_ev (c := C_q31z) (N := 13) Tryd.func33 (by kernel_rfl) (by kernel_rfl) (by kernel_rfl) (by kernel_rfl) (O_q31z_ok n) (evDraw_ok (O_q31z_ok n) (by kernel_rfl)) (.of (l := []) (by kernel_rfl) trivial) (e_q31z n)

noncomputable def C_q21z : Code := bodyOf Tryd.f65
noncomputable def M_q21z : List (Nat × ArgM) := [(21, ⟨[0], [], [], false⟩), (33, ⟨[0], [], [], false⟩)]
instance : DfOk M_q21z := .none rfl
noncomputable def O_q21z {ρ : Type} (n : Nat) : Orc ρ := orcCons 21 F_q35z (q35z n) (orcCons 33 F_q31z (q31z n) (orcNil))
omit [UDef] [UTabs] in
theorem O_q21z_ok {ρ : Type} (n : Nat) : (O_q21z n : Orc ρ).ok Tryd.prog := orcCons_ok (by kernel_rfl) (ok_q35z n) (orcCons_ok (by kernel_rfl) (ok_q31z n) (orcNil_ok))
noncomputable def L_q21z {ρ : Type} (n : Nat) : LOrc ρ := lorcNil
omit [Tabs] [QuietD Tryd.prog] [UDef] [UTabs] in
theorem e_q21z (n : Nat) (x) : evF Tryd.prog 11 TT M_q21z F_q21z (O_q21z n) (L_q21z n) dorcNil ⟨[], [], []⟩ [] C_q21z x = q21z n x := by kernel_rfl
omit [UDef] [UTabs] in
theorem ok_q21z (n : Nat) : Contract Tryd.prog 65 F_q21z (q21z n) :=
  Contract.of_ev (c := C_q21z) (N := 11) Tryd.func65 (by kernel_rfl) (by kernel_rfl) (by kernel_rfl) (by kernel_rfl) (O_q21z_ok n) dorcNil_ok (.of (l := []) (by kernel_rfl) trivial) (e_q21z n)

noncomputable def C_q4z : Code := bodyOf Tryd.f64
noncomputable def M_q4z : List (Nat × ArgM) := [(17, ⟨[0], [], [], false⟩), (65, ⟨[1], [], [], false⟩)]
instance : DfOk M_q4z := .none rfl
noncomputable def O_q4z {ρ : Type} (n : Nat) : Orc ρ := orcCons 17 F_q25z (q25z n) (orcCons 65 F_q21z (q21z n) (orcNil))
omit [UDef] [UTabs] in
theorem O_q4z_ok {ρ : Type} (n : Nat) : (O_q4z n : Orc ρ).ok Tryd.prog := orcCons_ok (by kernel_rfl) (ok_q25z n) (orcCons_ok (by kernel_rfl) (ok_q21z n) (orcNil_ok))
noncomputable def T_q4z_s0 : Tm := ⟨[(2, .clo 65 [1000016])], [(12, (.lst .prp)), (13, .i64), (14, .i64)], [(1000000, .box [.ref (.own 1000001)]), (1000001, .arr 5 .u8), (1000016, .box [.ref (.ptr 1000000 0)])], []⟩
noncomputable def X_q4z_s0 : Tm := ⟨[], [], [(1000000, .box [.ref (.own 1000001)]), (1000001, .arr 5 .u8), (1000016, .box [.ref (.ptr 1000000 0)])], []⟩
noncomputable def R_q4z_s0 : Tm := ⟨[], [], [], []⟩
noncomputable def L_q4z_s0 {ρ : Type} (n : Nat) : LOrc ρ := lorcNil
omit [Tabs] [QuietD Tryd.prog] [UDef] [UTabs] in
theorem s_q4z_s0 {ρ : Type} (n : Nat) (rec : T_q4z_s0.den → Option ρ) kx kr s : dStep Tryd.prog 22 TT M_q4z (O_q4z n) (L_q4z_s0 n) dorcNil 0 (lbody 1000 C_q4z 0) T_q4z_s0 X_q4z_s0 R_q4z_s0 ⟨[], [], []⟩ rec kx kr s = q4z_s0 n rec kx kr s := by kernel_rfl
noncomputable def L_q4z {ρ : Type} (n : Nat) : LOrc ρ := lorcCons 0 (loopL 22 0 n T_q4z_s0 X_q4z_s0 R_q4z_s0 ⟨[], [], []⟩ (q4z_s0 n)) (lorcNil)
omit [Tabs] [QuietD Tryd.prog] [UDef] [UTabs] in
theorem e_q4z (n : Nat) (x) : evF Tryd.prog 22 TT M_q4z F_q4z (O_q4z n) (L_q4z n) dorcNil ⟨[], [], []⟩ [] C_q4z x = q4z n x := by kernel_rfl
omit [UDef] [UTabs] in
theorem ok_q4z (n : Nat) : Contract Tryd.prog 64 F_q4z (q4z n) :=
  Contract.of_ev (c := C_q4z) (N := 22) Tryd.func64 (by kernel_rfl) (by kernel_rfl) (by kernel_rfl) (by kernel_rfl) (O_q4z_ok n) dorcNil_ok (.of (l := [(0, (lbody 1000 C_q4z 0))]) (by kernel_rfl) ⟨.head (loopL_sound (O_q4z_ok n) dorcNil_ok (.of (l := []) (by kernel_rfl) trivial) (s_q4z_s0 n)), trivial⟩) (e_q4z n)

noncomputable def C_q30z : Code := bodyOf Tryd.f22
noncomputable def M_q30z : List (Nat × ArgM) := [(64, ⟨[0, 2], [], [], false⟩)]
instance : DfOk M_q30z := .none rfl
noncomputable def O_q30z {ρ : Type} (n : Nat) : Orc ρ := orcCons 64 F_q4z (q4z n) (orcNil)
omit [UDef] [UTabs] in
theorem O_q30z_ok {ρ : Type} (n : Nat) : (O_q30z n : Orc ρ).ok Tryd.prog := orcCons_ok (by kernel_rfl) (ok_q4z n) (orcNil_ok)
noncomputable def L_q30z {ρ : Type} (n : Nat) : LOrc ρ := lorcNil
omit [Tabs] [QuietD Tryd.prog] [UDef] [UTabs] in
theorem e_q30z (n : Nat) (x) : evF Tryd.prog 8 TT M_q30z F_q30z (O_q30z n) (L_q30z n) dorcNil ⟨[], [], []⟩ [] C_q30z x = q30z n x := by kernel_rfl
omit [UDef] [UTabs] in
theorem ok_q30z (n : Nat) : Contract Tryd.prog 22 F_q30z (q30z n) :=
  Contract.of_ev (c := C_q30z) (N := 8) Tryd.func22 (by kernel_rfl) (by kernel_rfl) (by kernel_rfl) (by kernel_rfl) (O_q30z_ok n) dorcNil_ok (.of (l := []) (by kernel_rfl) trivial) (e_q30z n)

noncomputable def C_q47z : Code := bodyOf Tryd.f19
noncomputable def M_q47z : List (Nat × ArgM) := [(20, ⟨[0, 2], [], [], false⟩), (17, ⟨[0], [], [], false⟩), (22, ⟨[0], [], [], false⟩)]
instance : DfOk M_q47z := .none rfl
noncomputable def O_q47z {ρ : Type} (n : Nat) : Orc ρ := orcCons 17 F_q25z (q25z n) (orcCons 20 F_q8z (q8z n) (orcCons 22 F_q30z (q30z n) (orcNil)))
omit [UDef] [UTabs] in
theorem O_q47z_ok {ρ : Type} (n : Nat) : (O_q47z n : Orc ρ).ok Tryd.prog := orcCons_ok (by kernel_rfl) (ok_q25z n) (orcCons_ok (by kernel_rfl) (ok_q8z n) (orcCons_ok (by kernel_rfl) (ok_q30z n) (orcNil_ok)))
noncomputable def L_q47z {ρ : Type} (n : Nat) : LOrc ρ := lorcNil
omit [Tabs] [QuietD Tryd.prog] [UDef] [UTabs] in
theorem e_q47z (n : Nat) (x) : evF Tryd.prog 17 TT M_q47z F_q47z (O_q47z n) (L_q47z n) dorcNil ⟨[], [], []⟩ [] C_q47z x = q47z n x := by kernel_rfl
omit [UDef] [UTabs] in
theorem ok_q47z (n : Nat) : Contract Tryd.prog 19 F_q47z (q47z n) :=
  Contract.of_ev (c := C_q47z) (N := 17) Tryd.func19 (by kernel_rfl) (by kernel_rfl) (by kernel_rfl) (by kernel_rfl) (O_q47z_ok n) dorcNil_ok (.of (l := []) (by kernel_rfl) trivial) (e_q47z n)

noncomputable def C_q12z : Code := bodyOf Tryd.f18
noncomputable def M_q12z : List (Nat × ArgM) := [(17, ⟨[0], [], [], false⟩), (19, ⟨[1], [], [], false⟩)]
instance : DfOk M_q12z := .none rfl
noncomputable def O_q12z {ρ : Type} (n : Nat) : Orc ρ := orcCons 17 F_q25z (q25z n) (orcCons 19 F_q47z (q47z n) (orcNil))
omit [UDef] [UTabs] in
theorem O_q12z_ok {ρ : Type} (n : Nat) : (O_q12z n : Orc ρ).ok Tryd.prog := orcCons_ok (by kernel_rfl) (ok_q25z n) (orcCons_ok (by kernel_rfl) (ok_q47z n) (orcNil_ok))
noncomputable def T_q12z_s0 : Tm := ⟨[(2, .clo 19 [1000016])], [(12, (.lst .node)), (13, .i64), (14, .i64)], [(1000000, .box [.ref (.own 1000001)]), (1000001, .arr 5 .u8), (1000016, .box [.ref (.ptr 1000000 0)])], []⟩
noncomputable def X_q12z_s0 : Tm := ⟨[], [], [(1000000, .box [.ref (.own 1000001)]), (1000001, .arr 5 .u8), (1000016, .box [.ref (.ptr 1000000 0)])], []⟩
noncomputable def R_q12z_s0 : Tm := ⟨[], [], [], []⟩
noncomputable def L_q12z_s0 {ρ : Type} (n : Nat) : LOrc ρ := lorcNil
omit [Tabs] [QuietD Tryd.prog] [UDef] [UTabs] in
theorem s_q12z_s0 {ρ : Type} (n : Nat) (rec : T_q12z_s0.den → Option ρ) kx kr s : dStep Tryd.prog 22 TT M_q12z (O_q12z n) (L_q12z_s0 n) dorcNil 0 (lbody 1000 C_q12z 0) T_q12z_s0 X_q12z_s0 R_q12z_s0 ⟨[], [], []⟩ rec kx kr s = q12z_s0 n rec kx kr s := by kernel_rfl
noncomputable def L_q12z {ρ : Type} (n : Nat) : LOrc ρ := lorcCons 0 (loopL 22 0 n T_q12z_s0 X_q12z_s0 R_q12z_s0 ⟨[], [], []⟩ (q12z_s0 n)) (lorcNil)
omit [Tabs] [QuietD Tryd.prog] [UDef] [UTabs] in
theorem e_q12z (n : Nat) (x) : evF Tryd.prog 22 TT M_q12z F_q12z (O_q12z n) (L_q12z n) dorcNil ⟨[], [], []⟩ [] C_q12z x = q12z n x := by kernel_rfl
omit [UDef] [UTabs] in
theorem ok_q12z (n : Nat) : Contract Tryd.prog 18 F_q12z (q12z n) :=
  Contract.of_ev (c := C_q12z) (N := 22) Tryd.func18 (by kernel_rfl) (by kernel_rfl) (by kernel_rfl) (by kernel_rfl) (O_q12z_ok n) dorcNil_ok (.of (l := [(0, (lbody 1000 C_q12z 0))]) (by kernel_rfl) ⟨.head (loopL_sound (O_q12z_ok n) dorcNil_ok (.of (l := []) (by kernel_rfl) trivial) (s_q12z_s0 n)), trivial⟩) (e_q12z n)

noncomputable def F_q11z : FnT := ⟨3, ⟨[(0, .ptr 1000000 0), (2, .clo 24 [1000016])], [(1, (.lst .edg))], [(1000000, .box [.ref (.own 1000001)]), (1000001, .arr 5 .u8), (1000016, .box [.ref (.ptr 1000000 0)])], []⟩, [], [(1000000, .box [.ref (.own 1000001)]), (1000001, .arr 5 .u8), (1000016, .box [.ref (.ptr 1000000 0)])]⟩
noncomputable def F_q48z : FnT := ⟨2, ⟨[(1, .ptr 1000000 0)], [(0, .edg)], [(1000000, .box [.ref (.ptr 1000001 0)]), (1000001, .box [.ref (.own 1000002)]), (1000002, .arr 5 .u8)], []⟩, [], [(1000000, .box [.ref (.ptr 1000001 0)]), (1000001, .box [.ref (.own 1000002)]), (1000002, .arr 5 .u8)]⟩
noncomputable def C_q48z : Code := bodyOf Tryd.f24
noncomputable def M_q48z : List (Nat × ArgM) := [(17, ⟨[0], [], [], false⟩), (21, ⟨[0], [], [], false⟩), (22, ⟨[0], [], [], false⟩)]
instance : DfOk M_q48z := .none rfl
noncomputable def O_q48z {ρ : Type} (n : Nat) : Orc ρ := orcCons 17 F_q25z (q25z n) (orcCons 21 F_q35z (q35z n) (orcCons 22 F_q30z (q30z n) (orcNil)))
omit [UDef] [UTabs] in
theorem O_q48z_ok {ρ : Type} (n : Nat) : (O_q48z n : Orc ρ).ok Tryd.prog := orcCons_ok (by kernel_rfl) (ok_q25z n) (orcCons_ok (by kernel_rfl) (ok_q35z n) (orcCons_ok (by kernel_rfl) (ok_q30z n) (orcNil_ok)))
noncomputable def L_q48z {ρ : Type} (n : Nat) : LOrc ρ := lorcNil
omit [Tabs] [QuietD Tryd.prog] [UDef] [UTabs] in
theorem e_q48z (n : Nat) (x) : evF Tryd.prog 23 TT M_q48z F_q48z (O_q48z n) (L_q48z n) dorcNil ⟨[], [], []⟩ [] C_q48z x = q48z n x := by kernel_rfl
omit [UDef] [UTabs] in
theorem ok_q48z (n : Nat) : Contract Tryd.prog 24 F_q48z (q48z n) :=
  Contract.of_ev (c := C_q48z) (N := 23) Tryd.func24 (by kernel_rfl) (by kernel_rfl) (by kernel_rfl) (by kernel_rfl) (O_q48z_ok n) dorcNil_ok (.of (l := []) (by kernel_rfl) trivial) (e_q48z n)

noncomputable def C_q11z : Code := bodyOf Tryd.f23
noncomputable def M_q11z : List (Nat × ArgM) := [(17, ⟨[0], [], [], false⟩), (24, ⟨[1], [], [], false⟩)]
instance : DfOk M_q11z := .none rfl
noncomputable def O_q11z {ρ : Type} (n : Nat) : Orc ρ := orcCons 17 F_q25z (q25z n) (orcCons 24 F_q48z (q48z n) (orcNil))
omit [UDef] [UTabs] in
theorem O_q11z_ok {ρ : Type} (n : Nat) : (O_q11z n : Orc ρ).ok Tryd.prog := orcCons_ok (by kernel_rfl) (ok_q25z n) (orcCons_ok (by kernel_rfl) (ok_q48z n) (orcNil_ok))
noncomputable def T_q11z_s0 : Tm := ⟨[(2, .clo 24 [1000016])], [(12, (.lst .edg)), (13, .i64), (14, .i64)], [(1000000, .box [.ref (.own 1000001)]), (1000001, .arr 5 .u8), (1000016, .box [.ref (.ptr 1000000 0)])], []⟩
noncomputable def X_q11z_s0 : Tm := ⟨[], [], [(1000000, .box [.ref (.own 1000001)]), (1000001, .arr 5 .u8), (1000016, .box [.ref (.ptr 1000000 0)])], []⟩
noncomputable def R_q11z_s0 : Tm := ⟨[], [], [], []⟩
noncomputable def L_q11z_s0 {ρ : Type} (n : Nat) : LOrc ρ := lorcNil
omit [Tabs] [QuietD Tryd.prog] [UDef] [UTabs] in
theorem s_q11z_s0 {ρ : Type} (n : Nat) (rec : T_q11z_s0.den → Option ρ) kx kr s : dStep Tryd.prog 22 TT M_q11z (O_q11z n) (L_q11z_s0 n) dorcNil 0 (lbody 1000 C_q11z 0) T_q11z_s0 X_q11z_s0 R_q11z_s0 ⟨[], [], []⟩ rec kx kr s = q11z_s0 n rec kx kr s := by kernel_rfl
noncomputable def L_q11z {ρ : Type} (n : Nat) : LOrc ρ := lorcCons 0 (loopL 22 0 n T_q11z_s0 X_q11z_s0 R_q11z_s0 ⟨[], [], []⟩ (q11z_s0 n)) (lorcNil)
omit [Tabs] [QuietD Tryd.prog] [UDef] [UTabs] in
theorem e_q11z (n : Nat) (x) : evF Tryd.prog 22 TT M_q11z F_q11z (O_q11z n) (L_q11z n) dorcNil ⟨[], [], []⟩ [] C_q11z x = q11z n x := by kernel_rfl
omit [UDef] [UTabs] in
theorem ok_q11z (n : Nat) : Contract Tryd.prog 23 F_q11z (q11z n) :=
  Contract.of_ev (c := C_q11z) (N := 22) Tryd.func23 (by kernel_rfl) (by kernel_rfl) (by kernel_rfl) (by kernel_rfl) (O_q11z_ok n) dorcNil_ok (.of (l := [(0, (lbody 1000 C_q11z 0))]) (by kernel_rfl) ⟨.head (loopL_sound (O_q11z_ok n) dorcNil_ok (.of (l := []) (by kernel_rfl) trivial) (s_q11z_s0 n)), trivial⟩) (e_q11z n)

noncomputable def C_q58z : Code := bodyOf Tryd.f6
noncomputable def M_q58z : List (Nat × ArgM) := [(1700000005, ⟨[12, 0, 600012, 5, 1], [], [], false⟩), (18, ⟨[0, 2], [], [], false⟩), (23, ⟨[0, 2], [], [], false⟩), (17, ⟨[0], [], [], false⟩), (16, ⟨[], [], [], true⟩)]
instance : DfOk M_q58z := .none rfl
noncomputable def O_q58z {ρ : Type} (n : Nat) : Orc ρ := orcCons 16 F_q51z (q51z n) (orcCons 17 F_q25z (q25z n) (orcCons 18 F_q12z (q12z n) (orcCons 23 F_q11z (q11z n) (orcNil))))
omit [UDef] in
theorem O_q58z_ok {ρ : Type} (n : Nat) : (O_q58z n : Orc ρ).ok Tryd.prog := orcCons_ok (by kernel_rfl) (ok_q51z n) (orcCons_ok (by kernel_rfl) (ok_q25z n) (orcCons_ok (by kernel_rfl) (ok_q12z n) (orcCons_ok (by kernel_rfl) (ok_q11z n) (orcNil_ok))))
noncomputable def L_q58z {ρ : Type} (n : Nat) : LOrc ρ := lorcNil
omit [Tabs] [QuietD Tryd.prog] [UDef] [UTabs] in
theorem e_q58z (n : Nat) (x) : evF Tryd.prog 32 TT M_q58z F_q58z (O_q58z n) (L_q58z n) dorcNil ⟨[], [], []⟩ [.tmp 2, .tmp 3] C_q58z x = q58z n x := by kernel_rfl
omit [UDef] in
theorem ok_q58z (n : Nat) : Contract Tryd.prog 6 F_q58z (q58z n) :=
  Contract.of_ev (c := C_q58z) (N := 32) Tryd.func6 (by kernel_rfl) (by kernel_rfl) (by kernel_rfl) (by kernel_rfl) (O_q58z_ok n) dorcNil_ok (.of (l := []) (by kernel_rfl) trivial) (e_q58z n)

noncomputable def F_q26z : FnT := ⟨0, ⟨[], [], [], []⟩, [.v .bool], []⟩
noncomputable def F_q32z : FnT := ⟨0, ⟨[], [], [], []⟩, [.v .graph], []⟩
noncomputable def F_q40z : FnT := ⟨1, ⟨[], [(0, .i64)], [], []⟩, [.v .val], []⟩
noncomputable def C_q40z : Code := bodyOf Tryd.f66
noncomputable def M_q40z : List (Nat × ArgM) := []
instance : DfOk M_q40z := .none rfl
noncomputable def O_q40z {ρ : Type} : Orc ρ := orcNil
omit [QuietD Tryd.prog] [UDef] [UTabs] in
theorem O_q40z_ok {ρ : Type} : (O_q40z : Orc ρ).ok Tryd.prog := orcNil_ok
noncomputable def L_q40z {ρ : Type} : LOrc ρ := lorcNil
omit [Tabs] [QuietD Tryd.prog] [UDef] [UTabs] in
theorem e_q40z (x) : evF Tryd.prog 5 TT M_q40z F_q40z (O_q40z) (L_q40z) dorcNil ⟨[], [], []⟩ [.cell 2 68] C_q40z x = q40z x := by kernel_rfl
omit [UDef] [UTabs] in
theorem ok_q40z : Contract Tryd.prog 66 F_q40z (q40z) :=
  Contract.of_ev (c := C_q40z) (N := 5) Tryd.func66 (by kernel_rfl) (by kernel_rfl) (by kernel_rfl) (by kernel_rfl) (O_q40z_ok) dorcNil_ok (.of (l := []) (by kernel_rfl) trivial) (e_q40z)

noncomputable def C_q32z : Code := bodyOf Tryd.f25
noncomputable def M_q32z : List (Nat × ArgM) := []
instance : DfOk M_q32z := .none rfl
noncomputable def O_q32z {ρ : Type} : Orc ρ := orcCons 66 F_q40z (q40z) (orcNil)
omit [UDef] [UTabs] in
theorem O_q32z_ok {ρ : Type} : (O_q32z : Orc ρ).ok Tryd.prog := orcCons_ok (by kernel_rfl) (ok_q40z) (orcNil_ok)
noncomputable def L_q32z {ρ : Type} : LOrc ρ := lorcNil
omit [Tabs] [QuietD Tryd.prog] [UDef] [UTabs] in
theorem e_q32z (x) : evF Tryd.prog 11 TT M_q32z F_q32z (O_q32z) (L_q32z) dorcNil ⟨[], [], []⟩ [.cell 0 25] C_q32z x = q32z x := by kernel_rfl
omit [UDef] [UTabs] in
theorem ok_q32z : Contract Tryd.prog 25 F_q32z (q32z) :=
  Contract.of_ev (c := C_q32z) (N := 11) Tryd.func25 (by kernel_rfl) (by kernel_rfl) (by kernel_rfl) (by kernel_rfl) (O_q32z_ok) dorcNil_ok (.of (l := []) (by kernel_rfl) trivial) (e_q32z)

noncomputable def F_q49z : FnT := ⟨1, ⟨[], [(0, .str)], [], []⟩, [.v .graph, .v .i64], []⟩
noncomputable def F_q10z : FnT := ⟨2, ⟨[(1, .fn 50)], [(0, .str)], [], []⟩, [.v .graph, .v .bool], []⟩
noncomputable def F_q41z : FnT := ⟨1, ⟨[(0, .ptr 1000000 0)], [], [(1000000, .box [.d (.lst .u8)])], []⟩, [.v .graph], [(1000000, .box [.d (.lst .u8)])]⟩
noncomputable def F_q24z : FnT := ⟨1, ⟨[(0, .ptr 1000000 0)], [], [(1000000, .box [.d (.lst .u8)])], []⟩, [.v .i64], [(1000000, .box [.d (.lst .u8)])]⟩
noncomputable def C_q24z : Code := bodyOf Tryd.f38
noncomputable def M_q24z : List (Nat × ArgM) := []
instance : DfOk M_q24z := .none rfl
noncomputable def O_q24z {ρ : Type} (n : Nat) : Orc ρ := orcNil
omit [QuietD Tryd.prog] [UDef] [UTabs] in
theorem O_q24z_ok {ρ : Type} (n : Nat) : (O_q24z n : Orc ρ).ok Tryd.prog := orcNil_ok
noncomputable def T_q24z_s0 : Tm := ⟨[(0, .ptr 1000000 0)], [(3, .u64), (5, .i64)], [(1000000, .box [.d (.lst .u8)])], []⟩
noncomputable def X_q24z_s0 : Tm := ⟨[], [], [(1000000, .box [.d (.lst .u8)])], []⟩
noncomputable def R_q24z_s0 : Tm := ⟨[], [(2, .i64)], [(1000000, .box [.d (.lst .u8)])], []⟩
noncomputable def L_q24z_s0 {ρ : Type} (n : Nat) : LOrc ρ := lorcNil
omit [Tabs] [QuietD Tryd.prog] [UDef] [UTabs] in
theorem s_q24z_s0 {ρ : Type} (n : Nat) (rec : T_q24z_s0.den → Option ρ) kx kr s : dStep Tryd.prog 58 TT M_q24z (O_q24z n) (L_q24z_s0 n) dorcNil 0 (lbody 1000 C_q24z 0) T_q24z_s0 X_q24z_s0 R_q24z_s0 ⟨[], [], []⟩ rec kx kr s = q24z_s0 n rec kx kr s := by kernel_rfl
noncomputable def L_q24z {ρ : Type} (n : Nat) : LOrc ρ := lorcCons 0 (loopL 58 0 n T_q24z_s0 X_q24z_s0 R_q24z_s0 ⟨[], [], []⟩ (q24z_s0 n)) (lorcNil)
omit [Tabs] [QuietD Tryd.prog] [UDef] [UTabs] in
theorem e_q24z (n : Nat) (x) : evF Tryd.prog 58 TT M_q24z F_q24z (O_q24z n) (L_q24z n) dorcNil ⟨[], [], []⟩ [.tmp 2] C_q24z x = q24z n x := by kernel_rfl
omit [UDef] [UTabs] in
theorem ok_q24z (n : Nat) : Contract Tryd.prog 38 F_q24z (q24z n) :=
  Contract.of_ev (c := C_q24z) (N := 58) Tryd.func38 (by kernel_rfl) (by kernel_rfl) (by kernel_rfl) (by kernel_rfl) (O_q24z_ok n) dorcNil_ok (.of (l := [(0, (lbody 1000 C_q24z 0))]) (by kernel_rfl) ⟨.head (loopL_sound (O_q24z_ok n) dorcNil_ok (.of (l := []) (by kernel_rfl) trivial) (s_q24z_s0 n)), trivial⟩) (e_q24z n)

noncomputable def F_q7z : FnT := ⟨2, ⟨[(0, .ptr 1000000 0), (1, .clo 52 [1000016])], [], [(1000000, .box [.d (.lst .u8)]), (1000016, .box [.ref (.ptr 1000000 0)])], []⟩, [.v (.lst .node)], [(1000000, .box [.d (.lst .u8)]), (1000016, .box [.ref (.ptr 1000000 0)])]⟩
noncomputable def F_q37z : FnT := ⟨1, ⟨[(0, .ptr 1000000 0)], [], [(1000000, .box [.ref (.ptr 1000001 0)]), (1000001, .box [.d (.lst .u8)])], []⟩, [.v .node], [(1000000, .box [.ref (.ptr 1000001 0)]), (1000001, .box [.d (.lst .u8)])]⟩
noncomputable def F_q9z : FnT := ⟨2, ⟨[(0, .ptr 1000000 0), (1, .bnd 39 [1000000])], [], [(1000000, .box [.d (.lst .u8)])], []⟩, [.v (.lst .str)], [(1000000, .box [.d (.lst .u8)])]⟩
noncomputable def F_q34z : FnT := ⟨1, ⟨[(0, .ptr 1000000 0)], [], [(1000000, .box [.d (.lst .u8)])], []⟩, [.v .str], [(1000000, .box [.d (.lst .u8)])]⟩
noncomputable def C_q34z : Code := bodyOf Tryd.f39
noncomputable def M_q34z : List (Nat × ArgM) := [(38, ⟨[0], [], [], false⟩)]
instance : DfOk M_q34z := .none rfl
noncomputable def O_q34z {ρ : Type} (n : Nat) : Orc ρ := orcCons 38 F_q24z (q24z n) (orcNil)
omit [UDef] [UTabs] in
theorem O_q34z_ok {ρ : Type} (n : Nat) : (O_q34z n : Orc ρ).ok Tryd.prog := orcCons_ok (by kernel_rfl) (ok_q24z n) (orcNil_ok)
noncomputable def L_q34z {ρ : Type} (n : Nat) : LOrc ρ := lorcNil
omit [Tabs] [QuietD Tryd.prog] [UDef] [UTabs] in
theorem e_q34z (n : Nat) (x) : evF Tryd.prog 37 TT M_q34z F_q34z (O_q34z n) (L_q34z n) dorcNil ⟨[], [], []⟩ [.tmp 2] C_q34z x = q34z n x := by kernel_rfl
omit [UDef] [UTabs] in
theorem ok_q34z (n : Nat) : Contract Tryd.prog 39 F_q34z (q34z n) :=
  Contract.of_ev (c := C_q34z) (N := 37) Tryd.func39 (by kernel_rfl) (by kernel_rfl) (by kernel_rfl) (by kernel_rfl) (O_q34z_ok n) dorcNil_ok (.of (l := []) (by kernel_rfl) trivial) (e_q34z n)

noncomputable def C_q9z : Code := bodyOf Tryd.f41
noncomputable def M_q9z : List (Nat × ArgM) := [(38, ⟨[0], [], [], false⟩), (39, ⟨[0], [], [], false⟩)]
instance : DfOk M_q9z := .none rfl
noncomputable def O_q9z {ρ : Type} (n : Nat) : Orc ρ := orcCons 38 F_q24z (q24z n) (orcCons 39 F_q34z (q34z n) (orcNil))
omit [UDef] [UTabs] in
theorem O_q9z_ok {ρ : Type} (n : Nat) : (O_q9z n : Orc ρ).ok Tryd.prog := orcCons_ok (by kernel_rfl) (ok_q24z n) (orcCons_ok (by kernel_rfl) (ok_q34z n) (orcNil_ok))
noncomputable def T_q9z_s0 : Tm := ⟨[(1, .bnd 39 [1000000]), (6, .own 6)], [(22, .i64), (23, .i64)], [(6, .arr 9 .str), (1000000, .box [.d (.lst .u8)])], []⟩
noncomputable def X_q9z_s0 : Tm := ⟨[(6, .own 6)], [], [(6, .arr 9 .str), (1000000, .box [.d (.lst .u8)])], []⟩
noncomputable def R_q9z_s0 : Tm := ⟨[], [], [], []⟩
noncomputable def L_q9z_s0 {ρ : Type} (n : Nat) : LOrc ρ := lorcNil
omit [Tabs] [QuietD Tryd.prog] [UDef] [UTabs] in
theorem s_q9z_s0 {ρ : Type} (n : Nat) (rec : T_q9z_s0.den → Option ρ) kx kr s : dStep Tryd.prog 32 TT M_q9z (O_q9z n) (L_q9z_s0 n) dorcNil 0 (lbody 1000 C_q9z 0) T_q9z_s0 X_q9z_s0 R_q9z_s0 ⟨[], [(6, 6, 9, 1)], []⟩ rec kx kr s = q9z_s0 n rec kx kr s := by kernel_rfl
noncomputable def L_q9z {ρ : Type} (n : Nat) : LOrc ρ := lorcCons 0 (loopL 32 0 n T_q9z_s0 X_q9z_s0 R_q9z_s0 ⟨[], [(6, 6, 9, 1)], []⟩ (q9z_s0 n)) (lorcNil)
omit [Tabs] [QuietD Tryd.prog] [UDef] [UTabs] in
theorem e_q9z (n : Nat) (x) : evF Tryd.prog 32 TT M_q9z F_q9z (O_q9z n) (L_q9z n) dorcNil ⟨[], [], []⟩ [.tmp 4] C_q9z x = q9z n x := by kernel_rfl
omit [UDef] [UTabs] in
theorem ok_q9z (n : Nat) : Contract Tryd.prog 41 F_q9z (q9z n) :=
  Contract.of_ev (c := C_q9z) (N := 32) Tryd.func41 (by kernel_rfl) (by kernel_rfl) (by kernel_rfl) (by kernel_rfl) (O_q9z_ok n) dorcNil_ok (.of (l := [(0, (lbody 1000 C_q9z 0))]) (by kernel_rfl) ⟨.head (loopL_sound (O_q9z_ok n) dorcNil_ok (.of (l := []) (by kernel_rfl) trivial) (s_q9z_s0 n)), trivial⟩) (e_q9z n)

noncomputable def F_q28z : FnT := ⟨1, ⟨[(0, .ptr 1000000 0)], [], [(1000000, .box [.d (.lst .u8)])], []⟩, [.v (.lst .prp)], [(1000000, .box [.d (.lst .u8)])]⟩
noncomputable def F_q5z : FnT := ⟨2, ⟨[(0, .ptr 1000000 0), (1, .clo 73 [1000016])], [], [(1000000, .box [.d (.lst .u8)]), (1000016, .box [.ref (.ptr 1000000 0)])], []⟩, [.v (.lst .prp)], [(1000000, .box [.d (.lst .u8)]), (1000016, .box [.ref (.ptr 1000000 0)])]⟩
noncomputable def F_q20z : FnT := ⟨1, ⟨[(0, .ptr 1000000 0)], [], [(1000000, .box [.ref (.ptr 1000001 0)]), (1000001, .box [.d (.lst .u8)])], []⟩, [.v .prp], [(1000000, .box [.ref (.ptr 1000001 0)]), (1000001, .box [.d (.lst .u8)])]⟩
noncomputable def F_q29z : FnT := ⟨1, ⟨[(0, .ptr 1000000 0)], [], [(1000000, .box [.d (.lst .u8)])], []⟩, [.v .val], [(1000000, .box [.d (.lst .u8)])]⟩
noncomputable def F_code_Long : FnT := ⟨1, ⟨[], [(0, .str)], [], []⟩, [.v .i64, .v .bool], []⟩
noncomputable def F_q27z : FnT := ⟨2, ⟨[(0, .ptr 1000000 0)], [(1, .i64)], [(1000000, .box [.d (.lst .u8), .d .bool])], []⟩, [.v .val], [(1000000, .box [.d (.lst .u8), .d .bool])]⟩
noncomputable def F_q33z : FnT := ⟨2, ⟨[(0, .ptr 1000000 0)], [(1, .i64)], [(1000000, .box [.d (.lst .u8), .d .bool])], []⟩, [.v (.lst .u8)], [(1000000, .box [.d (.lst .u8), .d .bool])]⟩
noncomputable def C_q33z : Code := bodyOf Tryd.f96
noncomputable def M_q33z : List (Nat × ArgM) := []
instance : DfOk M_q33z := .none rfl
noncomputable def O_q33z {ρ : Type} : Orc ρ := orcNil
omit [QuietD Tryd.prog] [UDef] [UTabs] in
theorem O_q33z_ok {ρ : Type} : (O_q33z : Orc ρ).ok Tryd.prog := orcNil_ok
noncomputable def L_q33z {ρ : Type} : LOrc ρ := lorcNil
omit [Tabs] [QuietD Tryd.prog] [UDef] [UTabs] in
theorem e_q33z (x) : evF Tryd.prog 41 TT M_q33z F_q33z (O_q33z) (L_q33z) dorcNil ⟨[], [], []⟩ [.tmp 4] C_q33z x = q33z x := by kernel_rfl
omit [UDef] [UTabs] in
theorem ok_q33z : Contract Tryd.prog 96 F_q33z (q33z) :=
  Contract.of_ev (c := C_q33z) (N := 41) Tryd.func96 (by kernel_rfl) (by kernel_rfl) (by kernel_rfl) (by kernel_rfl) (O_q33z_ok) dorcNil_ok (.of (l := []) (by kernel_rfl) trivial) (e_q33z)

noncomputable def F_q44z : FnT := ⟨1, ⟨[], [(0, (.lst .u8))], [], []⟩, [.v .u64], []⟩
noncomputable def C_q44z : Code := bodyOf Tryd.f97
noncomputable def M_q44z : List (Nat × ArgM) := []
instance : DfOk M_q44z := .none rfl
noncomputable def O_q44z {ρ : Type} (n : Nat) : Orc ρ := orcNil
omit [QuietD Tryd.prog] [UDef] [UTabs] in
theorem O_q44z_ok {ρ : Type} (n : Nat) : (O_q44z n : Orc ρ).ok Tryd.prog := orcNil_ok
noncomputable def T_q44z_s0 : Tm := ⟨[], [(3, .u64), (6, (.lst .u8)), (7, .i64), (8, .i64)], [], []⟩
noncomputable def X_q44z_s0 : Tm := ⟨[], [(3, .u64)], [], []⟩
noncomputable def R_q44z_s0 : Tm := ⟨[], [], [], []⟩
noncomputable def L_q44z_s0 {ρ : Type} (n : Nat) : LOrc ρ := lorcNil
omit [Tabs] [QuietD Tryd.prog] [UDef] [UTabs] in
theorem s_q44z_s0 {ρ : Type} (n : Nat) (rec : T_q44z_s0.den → Option ρ) kx kr s : dStep Tryd.prog 19 TT M_q44z (O_q44z n) (L_q44z_s0 n) dorcNil 0 (lbody 1000 C_q44z 0) T_q44z_s0 X_q44z_s0 R_q44z_s0 ⟨[], [], []⟩ rec kx kr s = q44z_s0 n rec kx kr s := by kernel_rfl
noncomputable def L_q44z {ρ : Type} (n : Nat) : LOrc ρ := lorcCons 0 (loopL 19 0 n T_q44z_s0 X_q44z_s0 R_q44z_s0 ⟨[], [], []⟩ (q44z_s0 n)) (lorcNil)
omit [Tabs] [QuietD Tryd.prog] [UDef] [UTabs] in
theorem e_q44z (n : Nat) (x) : evF Tryd.prog 19 TT M_q44z F_q44z (O_q44z n) (L_q44z n) dorcNil ⟨[], [], []⟩ [.tmp 2] C_q44z x = q44z n x := by kernel_rfl
omit [UDef] [UTabs] in
theorem ok_q44z (n : Nat) : Contract Tryd.prog 97 F_q44z (q44z n) :=
  Contract.of_ev (c := C_q44z) (N := 19) Tryd.func97 (by kernel_rfl) (by kernel_rfl) (by kernel_rfl) (by kernel_rfl) (O_q44z_ok n) dorcNil_ok (.of (l := [(0, (lbody 1000 C_q44z 0))]) (by kernel_rfl) ⟨.head (loopL_sound (O_q44z_ok n) dorcNil_ok (.of (l := []) (by kernel_rfl) trivial) (s_q44z_s0 n)), trivial⟩) (e_q44z n)

noncomputable def C_q27z : Code := bodyOf Tryd.f85
noncomputable def M_q27z : List (Nat × ArgM) := [(96, ⟨[0], [], [], false⟩), (85, ⟨[0], [], [], false⟩), (97, ⟨[], [], [], true⟩), (86, ⟨[], [], [], true⟩)]
instance : DfOk M_q27z := .none rfl
noncomputable def O_q27z {ρ : Type} (self_q27z : Int × ((List Int) × Bool × Unit) × Unit → Option (Ev.Val × ((List Int) × Bool × Unit) × Unit)) (n : Nat) : Orc ρ := orcCons 96 F_q33z (q33z) (orcCons 97 F_q44z (q44z n) (orcCons 86 F_valid (validN) (orcCons 85 F_q27z (self_q27z) (orcNil))))
omit [UDef] in
theorem O_q27z_ok {ρ : Type} (self_q27z : Int × ((List Int) × Bool × Unit) × Unit → Option (Ev.Val × ((List Int) × Bool × Unit) × Unit)) (h_q27z : Contract Tryd.prog 85 F_q27z self_q27z) (n : Nat) : (O_q27z self_q27z n : Orc ρ).ok Tryd.prog := orcCons_ok (by kernel_rfl) (ok_q33z) (orcCons_ok (by kernel_rfl) (ok_q44z n) (orcCons_ok (by kernel_rfl) (validN_ok) (orcCons_ok (by kernel_rfl) (h_q27z) (orcNil_ok))))
noncomputable def T_q27z_s1 : Tm := ⟨[(0, .ptr 1000000 0), (4, .ptr 4 0), (5, .ptr 5 0)], [(1, .i64), (54, .i64), (55, .i64)], [(4, .box [.d .val]), (5, .box [.d .i64, .d .i64, .d .str, .ref (.own 300203)]), (300203, .arr 68 .val), (1000000, .box [.d (.lst .u8), .d .bool])], []⟩
noncomputable def X_q27z_s1 : Tm := ⟨[(4, .ptr 4 0), (5, .ptr 5 0)], [], [(4, .box [.d .val]), (5, .box [.d .i64, .d .i64, .d .str, .ref (.own 300203)]), (300203, .arr 68 .val), (1000000, .box [.d (.lst .u8), .d .bool])], []⟩
noncomputable def R_q27z_s1 : Tm := ⟨[], [], [], []⟩
noncomputable def L_q27z_s1 {ρ : Type} (self_q27z : Int × ((List Int) × Bool × Unit) × Unit → Option (Ev.Val × ((List Int) × Bool × Unit) × Unit)) (n : Nat) : LOrc ρ := lorcNil
omit [Tabs] [QuietD Tryd.prog] [UDef] [UTabs] in
theorem s_q27z_s1 {ρ : Type} (self_q27z : Int × ((List Int) × Bool × Unit) × Unit → Option (Ev.Val × ((List Int) × Bool × Unit) × Unit)) (n : Nat) (rec : T_q27z_s1.den → Option ρ) kx kr s : dStep Tryd.prog 79 TT M_q27z (O_q27z self_q27z n) (L_q27z_s1 self_q27z n) (evDraw Tryd.prog 79 TT M_q27z (O_q27z self_q27z n)) 1 (lbody 1000 C_q27z 0) T_q27z_s1 X_q27z_s1 R_q27z_s1 ⟨[], [], [(5, 3, 300203, 68, 4)]⟩ rec kx kr s = q27z_s1 self_q27z n rec kx kr s := by kernel_rfl
noncomputable def L_q27z {ρ : Type} (self_q27z : Int × ((List Int) × Bool × Unit) × Unit → Option (Ev.Val × ((List Int) × Bool × Unit) × Unit)) (n : Nat) : LOrc ρ := lorcCons 1 (loopL 79 1 n T_q27z_s1 X_q27z_s1 R_q27z_s1 ⟨[], [], [(5, 3, 300203, 68, 4)]⟩ (q27z_s1 self_q27z n)) (lorcNil)
omit [Tabs] [QuietD Tryd.prog] [UDef] [UTabs] in
theorem e_q27z (self_q27z : Int × ((List Int) × Bool × Unit) × Unit → Option (Ev.Val × ((List Int) × Bool × Unit) × Unit)) (n : Nat) (x) : evF Tryd.prog 79 TT M_q27z F_q27z (O_q27z self_q27z n) (L_q27z self_q27z n) (evDraw Tryd.prog 79 TT M_q27z (O_q27z self_q27z n)) ⟨[], [], []⟩ [.cell 4 68] C_q27z x = q27z_b self_q27z n x := by kernel_rfl
omit [UDef] in
theorem okb_q27z (self_q27z : Int × ((List Int) × Bool × Unit) × Unit → Option (Ev.Val × ((List Int) × Bool × Unit) × Unit)) (h_q27z : Contract Tryd.prog 85 F_q27z self_q27z) (n : Nat) : Contract Tryd.prog 85 F_q27z (q27z_b self_q27z n) :=
  Contract.of_ev (c := C_q27z) (N := 79) Tryd.func85 (by kernel_rfl) (by kernel_rfl) (by kernel_rfl) (by kernel_rfl) (O_q27z_ok self_q27z h_q27z n) (evDraw_ok (O_q27z_ok self_q27z h_q27z n) (by kernel_rfl)) (.of (l := [(1, (lbody 1000 C_q27z 0))]) (by kernel_rfl) ⟨.head (loopL_sound (O_q27z_ok self_q27z h_q27z n) (evDraw_ok (O_q27z_ok self_q27z h_q27z n) (by kernel_rfl)) (.of (l := []) (by kernel_rfl) trivial) (s_q27z_s1 self_q27z n)), trivial⟩) (e_q27z self_q27z n)
omit [UDef] in
theorem ok_q27z : ∀ n, Contract Tryd.prog 85 F_q27z (q27z n)
  | 0 => fun _ _ h => by cases h
  | n + 1 => okb_q27z _ (ok_q27z n) n

noncomputable def C_code_Long : Code := bodyOf Tryd.f70
noncomputable def M_code_Long : List (Nat × ArgM) := [(85, ⟨[0], [], [], false⟩), (67, ⟨[], [], [], true⟩)]
instance : DfOk M_code_Long := .none rfl
noncomputable def O_code_Long {ρ : Type} (n : Nat) : Orc ρ := orcCons 85 F_q27z (q27z n) (orcCons 67 F_q53z (q53z n) (orcNil))
omit [UDef] in
theorem O_code_Long_ok {ρ : Type} (n : Nat) : (O_code_Long n : Orc ρ).ok Tryd.prog := orcCons_ok (by kernel_rfl) (ok_q27z n) (orcCons_ok (by kernel_rfl) (ok_q53z n) (orcNil_ok))
noncomputable def L_code_Long {ρ : Type} (n : Nat) : LOrc ρ := lorcNil
omit [Tabs] [QuietD Tryd.prog] [UDef] [UTabs] in
theorem e_code_Long (n : Nat) (x) : evF Tryd.prog 29 TT M_code_Long F_code_Long (O_code_Long n) (L_code_Long n) dorcNil ⟨[], [], []⟩ [.tmp 2, .tmp 3] C_code_Long x = code_Long n x := by kernel_rfl
omit [UDef] in
theorem ok_code_Long (n : Nat) : Contract Tryd.prog 70 F_code_Long (code_Long n) :=
  Contract.of_ev (c := C_code_Long) (N := 29) Tryd.func70 (by kernel_rfl) (by kernel_rfl) (by kernel_rfl) (by kernel_rfl) (O_code_Long_ok n) dorcNil_ok (.of (l := []) (by kernel_rfl) trivial) (e_code_Long n)

noncomputable def F_q55z : FnT := ⟨1, ⟨[], [(0, .str)], [], []⟩, [.v .val, .v .i64], []⟩
noncomputable def C_q55z : Code := bodyOf Tryd.f71
noncomputable def M_q55z : List (Nat × ArgM) := [(85, ⟨[0], [], [], false⟩), (67, ⟨[], [], [], true⟩)]
instance : DfOk M_q55z := .none rfl
noncomputable def O_q55z {ρ : Type} (n : Nat) : Orc ρ := orcCons 85 F_q27z (q27z n) (orcCons 67 F_q53z (q53z n) (orcNil))
omit [UDef] in
theorem O_q55z_ok {ρ : Type} (n : Nat) : (O_q55z n : Orc ρ).ok Tryd.prog := orcCons_ok (by kernel_rfl) (ok_q27z n) (orcCons_ok (by kernel_rfl) (ok_q53z n) (orcNil_ok))
noncomputable def L_q55z {ρ : Type} (n : Nat) : LOrc ρ := lorcNil
omit [Tabs] [QuietD Tryd.prog] [UDef] [UTabs] in
theorem e_q55z (n : Nat) (x) : evF Tryd.prog 35 TT M_q55z F_q55z (O_q55z n) (L_q55z n) dorcNil ⟨[], [], []⟩ [.cell 2 68, .tmp 3] C_q55z x = q55z n x := by kernel_rfl
omit [UDef] in
theorem ok_q55z (n : Nat) : Contract Tryd.prog 71 F_q55z (q55z n) :=
  Contract.of_ev (c := C_q55z) (N := 35) Tryd.func71 (by kernel_rfl) (by kernel_rfl) (by kernel_rfl) (by kernel_rfl) (O_q55z_ok n) dorcNil_ok (.of (l := []) (by kernel_rfl) trivial) (e_q55z n)

noncomputable def C_q29z : Code := bodyOf Tryd.f40
noncomputable def M_q29z : List (Nat × ArgM) := [(70, ⟨[], [], [], true⟩)]
instance : DfOk M_q29z := .none rfl
noncomputable def O_q29z {ρ : Type} (n : Nat) : Orc ρ := orcCons 70 F_code_Long (code_Long n) (orcCons 71 F_q55z (q55z n) (orcNil))
omit [UDef] in
theorem O_q29z_ok {ρ : Type} (n : Nat) : (O_q29z n : Orc ρ).ok Tryd.prog := orcCons_ok (by kernel_rfl) (ok_code_Long n) (orcCons_ok (by kernel_rfl) (ok_q55z n) (orcNil_ok))
noncomputable def L_q29z {ρ : Type} (n : Nat) : LOrc ρ := lorcNil
omit [Tabs] [QuietD Tryd.prog] [UDef] [UTabs] in
theorem e_q29z (n : Nat) (x) : evF Tryd.prog 45 TT M_q29z F_q29z (O_q29z n) (L_q29z n) dorcNil ⟨[], [], []⟩ [.cell 2 68] C_q29z x = q29z n x := by kernel_rfl
omit [UDef] in
theorem ok_q29z (n : Nat) : Contract Tryd.prog 40 F_q29z (q29z n) :=
  Contract.of_ev (c := C_q29z) (N := 45) Tryd.func40 (by kernel_rfl) (by kernel_rfl) (by kernel_rfl) (by kernel_rfl) (O_q29z_ok n) dorcNil_ok (.of (l := []) (by kernel_rfl) trivial) (e_q29z n)

noncomputable def C_q20z : Code := bodyOf Tryd.f73
noncomputable def M_q20z : List (Nat × ArgM) := [(39, ⟨[0], [], [], false⟩), (40, ⟨[0], [], [], false⟩)]
instance : DfOk M_q20z := .none rfl
noncomputable def O_q20z {ρ : Type} (n : Nat) : Orc ρ := orcCons 39 F_q34z (q34z n) (orcCons 40 F_q29z (q29z n) (orcNil))
omit [UDef] in
theorem O_q20z_ok {ρ : Type} (n : Nat) : (O_q20z n : Orc ρ).ok Tryd.prog := orcCons_ok (by kernel_rfl) (ok_q34z n) (orcCons_ok (by kernel_rfl) (ok_q29z n) (orcNil_ok))
noncomputable def L_q20z {ρ : Type} (n : Nat) : LOrc ρ := lorcNil
omit [Tabs] [QuietD Tryd.prog] [UDef] [UTabs] in
theorem e_q20z (n : Nat) (x) : evF Tryd.prog 7 TT M_q20z F_q20z (O_q20z n) (L_q20z n) (evDraw Tryd.prog 7 TT M_q20z (O_q20z n)) ⟨[], [], []⟩ [.cell 1 89] C_q20z x = q20z n x := by kernel_rfl
omit [UDef] in
theorem ok_q20z (n : Nat) : Contract Tryd.prog 73 F_q20z (q20z n) :=
  Contract.of_ev (c := C_q20z) (N := 7) Tryd.func73 (by kernel_rfl) (by kernel_rfl) (by kernel_rfl) (by kernel_rfl) (O_q20z_ok n) (evDraw_ok (O_q20z_ok n) (by kernel_rfl)) (.of (l := []) (by kernel_rfl) trivial) (e_q20z n)

noncomputable def C_q5z : Code := bodyOf Tryd.f72
noncomputable def M_q5z : List (Nat × ArgM) := [(38, ⟨[0], [], [], false⟩), (73, ⟨[0], [], [], false⟩)]
instance : DfOk M_q5z := .none rfl
noncomputable def O_q5z {ρ : Type} (n : Nat) : Orc ρ := orcCons 38 F_q24z (q24z n) (orcCons 73 F_q20z (q20z n) (orcNil))
omit [UDef] in
theorem O_q5z_ok {ρ : Type} (n : Nat) : (O_q5z n : Orc ρ).ok Tryd.prog := orcCons_ok (by kernel_rfl) (ok_q24z n) (orcCons_ok (by kernel_rfl) (ok_q20z n) (orcNil_ok))
noncomputable def T_q5z_s0 : Tm := ⟨[(1, .clo 73 [1000016]), (6, .own 6)], [(22, .i64), (23, .i64)], [(6, .arr 89 .prp), (1000000, .box [.d (.lst .u8)]), (1000016, .box [.ref (.ptr 1000000 0)])], []⟩
noncomputable def X_q5z_s0 : Tm := ⟨[(6, .own 6)], [], [(6, .arr 89 .prp), (1000000, .box [.d (.lst .u8)]), (1000016, .box [.ref (.ptr 1000000 0)])], []⟩
noncomputable def R_q5z_s0 : Tm := ⟨[], [], [], []⟩
noncomputable def L_q5z_s0 {ρ : Type} (n : Nat) : LOrc ρ := lorcNil
omit [Tabs] [QuietD Tryd.prog] [UDef] [UTabs] in
theorem s_q5z_s0 {ρ : Type} (n : Nat) (rec : T_q5z_s0.den → Option ρ) kx kr s : dStep Tryd.prog 32 TT M_q5z (O_q5z n) (L_q5z_s0 n) dorcNil 0 (lbody 1000 C_q5z 0) T_q5z_s0 X_q5z_s0 R_q5z_s0 ⟨[], [(6, 6, 89, 5)], []⟩ rec kx kr s = q5z_s0 n rec kx kr s := by kernel_rfl
noncomputable def L_q5z {ρ : Type} (n : Nat) : LOrc ρ := lorcCons 0 (loopL 32 0 n T_q5z_s0 X_q5z_s0 R_q5z_s0 ⟨[], [(6, 6, 89, 5)], []⟩ (q5z_s0 n)) (lorcNil)
omit [Tabs] [QuietD Tryd.prog] [UDef] [UTabs] in
theorem e_q5z (n : Nat) (x) : evF Tryd.prog 32 TT M_q5z F_q5z (O_q5z n) (L_q5z n) dorcNil ⟨[], [], []⟩ [.tmp 4] C_q5z x = q5z n x := by kernel_rfl
omit [UDef] in
theorem ok_q5z (n : Nat) : Contract Tryd.prog 72 F_q5z (q5z n) :=
  Contract.of_ev (c := C_q5z) (N := 32) Tryd.func72 (by kernel_rfl) (by kernel_rfl) (by kernel_rfl) (by kernel_rfl) (O_q5z_ok n) dorcNil_ok (.of (l := [(0, (lbody 1000 C_q5z 0))]) (by kernel_rfl) ⟨.head (loopL_sound (O_q5z_ok n) dorcNil_ok (.of (l := []) (by kernel_rfl) trivial) (s_q5z_s0 n)), trivial⟩) (e_q5z n)

noncomputable def C_q28z : Code := bodyOf Tryd.f42
noncomputable def M_q28z : List (Nat × ArgM) := [(72, ⟨[0, 1], [], [], false⟩)]
instance : DfOk M_q28z := .none rfl
noncomputable def O_q28z {ρ : Type} (n : Nat) : Orc ρ := orcCons 72 F_q5z (q5z n) (orcNil)
omit [UDef] in
theorem O_q28z_ok {ρ : Type} (n : Nat) : (O_q28z n : Orc ρ).ok Tryd.prog := orcCons_ok (by kernel_rfl) (ok_q5z n) (orcNil_ok)
noncomputable def L_q28z {ρ : Type} (n : Nat) : LOrc ρ := lorcNil
omit [Tabs] [QuietD Tryd.prog] [UDef] [UTabs] in
theorem e_q28z (n : Nat) (x) : evF Tryd.prog 6 TT M_q28z F_q28z (O_q28z n) (L_q28z n) dorcNil ⟨[], [], []⟩ [.tmp 2] C_q28z x = q28z n x := by kernel_rfl
omit [UDef] in
theorem ok_q28z (n : Nat) : Contract Tryd.prog 42 F_q28z (q28z n) :=
  Contract.of_ev (c := C_q28z) (N := 6) Tryd.func42 (by kernel_rfl) (by kernel_rfl) (by kernel_rfl) (by kernel_rfl) (O_q28z_ok n) dorcNil_ok (.of (l := []) (by kernel_rfl) trivial) (e_q28z n)

noncomputable def C_q37z : Code := bodyOf Tryd.f52
noncomputable def M_q37z : List (Nat × ArgM) := [(41, ⟨[0, 1], [], [], false⟩), (38, ⟨[0], [], [], false⟩), (42, ⟨[0], [], [], false⟩)]
instance : DfOk M_q37z := .none rfl
noncomputable def O_q37z {ρ : Type} (n : Nat) : Orc ρ := orcCons 38 F_q24z (q24z n) (orcCons 41 F_q9z (q9z n) (orcCons 42 F_q28z (q28z n) (orcNil)))
omit [UDef] in
theorem O_q37z_ok {ρ : Type} (n : Nat) : (O_q37z n : Orc ρ).ok Tryd.prog := orcCons_ok (by kernel_rfl) (ok_q24z n) (orcCons_ok (by kernel_rfl) (ok_q9z n) (orcCons_ok (by kernel_rfl) (ok_q28z n) (orcNil_ok)))
noncomputable def L_q37z {ρ : Type} (n : Nat) : LOrc ρ := lorcNil
omit [Tabs] [QuietD Tryd.prog] [UDef] [UTabs] in
theorem e_q37z (n : Nat) (x) : evF Tryd.prog 11 TT M_q37z F_q37z (O_q37z n) (L_q37z n) (evDraw Tryd.prog 11 TT M_q37z (O_q37z n)) ⟨[], [], []⟩ [.cell 1 52] C_q37z x = q37z n x := by kernel_rfl
omit [UDef] in
theorem ok_q37z (n : Nat) : Contract Tryd.prog 52 F_q37z (q37z n) :=
  Contract.of_ev (c := C_q37z) (N := 11) Tryd.func52 (by kernel_rfl) (by kernel_rfl) (by kernel_rfl) (by kernel_rfl) (O_q37z_ok n) (evDraw_ok (O_q37z_ok n) (by kernel_rfl)) (.of (l := []) (by kernel_rfl) trivial) (e_q37z n)

noncomputable def C_q7z : Code := bodyOf Tryd.f51
noncomputable def M_q7z : List (Nat × ArgM) := [(38, ⟨[0], [], [], false⟩), (52, ⟨[0], [], [], false⟩)]
instance : DfOk M_q7z := .none rfl
noncomputable def O_q7z {ρ : Type} (n : Nat) : Orc ρ := orcCons 38 F_q24z (q24z n) (orcCons 52 F_q37z (q37z n) (orcNil))
omit [UDef] in
theorem O_q7z_ok {ρ : Type} (n : Nat) : (O_q7z n : Orc ρ).ok Tryd.prog := orcCons_ok (by kernel_rfl) (ok_q24z n) (orcCons_ok (by kernel_rfl) (ok_q37z n) (orcNil_ok))
noncomputable def T_q7z_s0 : Tm := ⟨[(1, .clo 52 [1000016]), (6, .own 6)], [(22, .i64), (23, .i64)], [(6, .arr 52 .node), (1000000, .box [.d (.lst .u8)]), (1000016, .box [.ref (.ptr 1000000 0)])], []⟩
noncomputable def X_q7z_s0 : Tm := ⟨[(6, .own 6)], [], [(6, .arr 52 .node), (1000000, .box [.d (.lst .u8)]), (1000016, .box [.ref (.ptr 1000000 0)])], []⟩
noncomputable def R_q7z_s0 : Tm := ⟨[], [], [], []⟩
noncomputable def L_q7z_s0 {ρ : Type} (n : Nat) : LOrc ρ := lorcNil
omit [Tabs] [QuietD Tryd.prog] [UDef] [UTabs] in
theorem s_q7z_s0 {ρ : Type} (n : Nat) (rec : T_q7z_s0.den → Option ρ) kx kr s : dStep Tryd.prog 32 TT M_q7z (O_q7z n) (L_q7z_s0 n) dorcNil 0 (lbody 1000 C_q7z 0) T_q7z_s0 X_q7z_s0 R_q7z_s0 ⟨[], [(6, 6, 52, 3)], []⟩ rec kx kr s = q7z_s0 n rec kx kr s := by kernel_rfl
noncomputable def L_q7z {ρ : Type} (n : Nat) : LOrc ρ := lorcCons 0 (loopL 32 0 n T_q7z_s0 X_q7z_s0 R_q7z_s0 ⟨[], [(6, 6, 52, 3)], []⟩ (q7z_s0 n)) (lorcNil)
omit [Tabs] [QuietD Tryd.prog] [UDef] [UTabs] in
theorem e_q7z (n : Nat) (x) : evF Tryd.prog 32 TT M_q7z F_q7z (O_q7z n) (L_q7z n) dorcNil ⟨[], [], []⟩ [.tmp 4] C_q7z x = q7z n x := by kernel_rfl
omit [UDef] in
theorem ok_q7z (n : Nat) : Contract Tryd.prog 51 F_q7z (q7z n) :=
  Contract.of_ev (c := C_q7z) (N := 32) Tryd.func51 (by kernel_rfl) (by kernel_rfl) (by kernel_rfl) (by kernel_rfl) (O_q7z_ok n) dorcNil_ok (.of (l := [(0, (lbody 1000 C_q7z 0))]) (by kernel_rfl) ⟨.head (loopL_sound (O_q7z_ok n) dorcNil_ok (.of (l := []) (by kernel_rfl) trivial) (s_q7z_s0 n)), trivial⟩) (e_q7z n)

noncomputable def F_q6z : FnT := ⟨2, ⟨[(0, .ptr 1000000 0), (1, .clo 54 [1000016])], [], [(1000000, .box [.d (.lst .u8)]), (1000016, .box [.ref (.ptr 1000000 0)])], []⟩, [.v (.lst .edg)], [(1000000, .box [.d (.lst .u8)]), (1000016, .box [.ref (.ptr 1000000 0)])]⟩
noncomputable def F_q38z : FnT := ⟨1, ⟨[(0, .ptr 1000000 0)], [], [(1000000, .box [.ref (.ptr 1000001 0)]), (1000001, .box [.d (.lst .u8)])], []⟩, [.v .edg], [(1000000, .box [.ref (.ptr 1000001 0)]), (1000001, .box [.d (.lst .u8)])]⟩
noncomputable def C_q38z : Code := bodyOf Tryd.f54
noncomputable def M_q38z : List (Nat × ArgM) := [(38, ⟨[0], [], [], false⟩), (39, ⟨[0], [], [], false⟩), (42, ⟨[0], [], [], false⟩)]
instance : DfOk M_q38z := .none rfl
noncomputable def O_q38z {ρ : Type} (n : Nat) : Orc ρ := orcCons 38 F_q24z (q24z n) (orcCons 39 F_q34z (q34z n) (orcCons 42 F_q28z (q28z n) (orcNil)))
omit [UDef] in
theorem O_q38z_ok {ρ : Type} (n : Nat) : (O_q38z n : Orc ρ).ok Tryd.prog := orcCons_ok (by kernel_rfl) (ok_q24z n) (orcCons_ok (by kernel_rfl) (ok_q34z n) (orcCons_ok (by kernel_rfl) (ok_q28z n) (orcNil_ok)))
noncomputable def L_q38z {ρ : Type} (n : Nat) : LOrc ρ := lorcNil
omit [Tabs] [QuietD Tryd.prog] [UDef] [UTabs] in
theorem e_q38z (n : Nat) (x) : evF Tryd.prog 13 TT M_q38z F_q38z (O_q38z n) (L_q38z n) (evDraw Tryd.prog 13 TT M_q38z (O_q38z n)) ⟨[], [], []⟩ [.cell 1 59] C_q38z x = q38z n x := by kernel_rfl
omit [UDef] in
theorem ok_q38z (n : Nat) : Contract Tryd.prog 54 F_q38z (q38z n) :=
  Contract.of_ev (c := C_q38z) (N := 13) Tryd.func54 (by kernel_rfl) (by kernel_rfl) (by kernel_rfl) (by kernel_rfl) (O_q38z_ok n) (evDraw_ok (O_q38z_ok n) (by kernel_rfl)) (.of (l := []) (by kernel_rfl) trivial) (e_q38z n)

noncomputable def C_q6z : Code := bodyOf Tryd.f53
noncomputable def M_q6z : List (Nat × ArgM) := [(38, ⟨[0], [], [], false⟩), (54, ⟨[0], [], [], false⟩)]
instance : DfOk M_q6z := .none rfl
noncomputable def O_q6z {ρ : Type} (n : Nat) : Orc ρ := orcCons 38 F_q24z (q24z n) (orcCons 54 F_q38z (q38z n) (orcNil))
omit [UDef] in
theorem O_q6z_ok {ρ : Type} (n : Nat) : (O_q6z n : Orc ρ).ok Tryd.prog := orcCons_ok (by kernel_rfl) (ok_q24z n) (orcCons_ok (by kernel_rfl) (ok_q38z n) (orcNil_ok))
noncomputable def T_q6z_s0 : Tm := ⟨[(1, .clo 54 [1000016]), (6, .own 6)], [(22, .i64), (23, .i64)], [(6, .arr 59 .edg), (1000000, .box [.d (.lst .u8)]), (1000016, .box [.ref (.ptr 1000000 0)])], []⟩
noncomputable def X_q6z_s0 : Tm := ⟨[(6, .own 6)], [], [(6, .arr 59 .edg), (1000000, .box [.d (.lst .u8)]), (1000016, .box [.ref (.ptr 1000000 0)])], []⟩
noncomputable def R_q6z_s0 : Tm := ⟨[], [], [], []⟩
noncomputable def L_q6z_s0 {ρ : Type} (n : Nat) : LOrc ρ := lorcNil
omit [Tabs] [QuietD Tryd.prog] [UDef] [UTabs] in
theorem s_q6z_s0 {ρ : Type} (n : Nat) (rec : T_q6z_s0.den → Option ρ) kx kr s : dStep Tryd.prog 32 TT M_q6z (O_q6z n) (L_q6z_s0 n) dorcNil 0 (lbody 1000 C_q6z 0) T_q6z_s0 X_q6z_s0 R_q6z_s0 ⟨[], [(6, 6, 59, 5)], []⟩ rec kx kr s = q6z_s0 n rec kx kr s := by kernel_rfl
noncomputable def L_q6z {ρ : Type} (n : Nat) : LOrc ρ := lorcCons 0 (loopL 32 0 n T_q6z_s0 X_q6z_s0 R_q6z_s0 ⟨[], [(6, 6, 59, 5)], []⟩ (q6z_s0 n)) (lorcNil)
omit [Tabs] [QuietD Tryd.prog] [UDef] [UTabs] in
theorem e_q6z (n : Nat) (x) : evF Tryd.prog 32 TT M_q6z F_q6z (O_q6z n) (L_q6z n) dorcNil ⟨[], [], []⟩ [.tmp 4] C_q6z x = q6z n x := by kernel_rfl
omit [UDef] in
theorem ok_q6z (n : Nat) : Contract Tryd.prog 53 F_q6z (q6z n) :=
  Contract.of_ev (c := C_q6z) (N := 32) Tryd.func53 (by kernel_rfl) (by kernel_rfl) (by kernel_rfl) (by kernel_rfl) (O_q6z_ok n) dorcNil_ok (.of (l := [(0, (lbody 1000 C_q6z 0))]) (by kernel_rfl) ⟨.head (loopL_sound (O_q6z_ok n) dorcNil_ok (.of (l := []) (by kernel_rfl) trivial) (s_q6z_s0 n)), trivial⟩) (e_q6z n)

noncomputable def C_q41z : Code := bodyOf Tryd.f50
noncomputable def M_q41z : List (Nat × ArgM) := [(51, ⟨[0, 1], [], [], false⟩), (53, ⟨[0, 1], [], [], false⟩), (38, ⟨[0], [], [], false⟩)]
instance : DfOk M_q41z := .none rfl
noncomputable def O_q41z {ρ : Type} (n : Nat) : Orc ρ := orcCons 38 F_q24z (q24z n) (orcCons 51 F_q7z (q7z n) (orcCons 53 F_q6z (q6z n) (orcNil)))
omit [UDef] in
theorem O_q41z_ok {ρ : Type} (n : Nat) : (O_q41z n : Orc ρ).ok Tryd.prog := orcCons_ok (by kernel_rfl) (ok_q24z n) (orcCons_ok (by kernel_rfl) (ok_q7z n) (orcCons_ok (by kernel_rfl) (ok_q6z n) (orcNil_ok)))
noncomputable def L_q41z {ρ : Type} (n : Nat) : LOrc ρ := lorcNil
omit [Tabs] [QuietD Tryd.prog] [UDef] [UTabs] in
theorem e_q41z (n : Nat) (x) : evF Tryd.prog 16 TT M_q41z F_q41z (O_q41z n) (L_q41z n) dorcNil ⟨[], [], []⟩ [.cell 2 25] C_q41z x = q41z n x := by kernel_rfl
omit [UDef] in
theorem ok_q41z (n : Nat) : Contract Tryd.prog 50 F_q41z (q41z n) :=
  Contract.of_ev (c := C_q41z) (N := 16) Tryd.func50 (by kernel_rfl) (by kernel_rfl) (by kernel_rfl) (by kernel_rfl) (O_q41z_ok n) dorcNil_ok (.of (l := []) (by kernel_rfl) trivial) (e_q41z n)

noncomputable def C_q10z : Code := bodyOf Tryd.f49
noncomputable def M_q10z : List (Nat × ArgM) := [(999999997, ⟨[78], [], [], false⟩), (50, ⟨[0], [], [], false⟩)]
instance : DfOk M_q10z := ⟨fun g hg => UDef.ok g ((show ∀ x ∈ ([78] : List Nat), x ∈ ([78] : List Nat) by decide) g hg)⟩
noncomputable def O_q10z {ρ : Type} (n : Nat) : Orc ρ := orcCons 50 F_q41z (q41z n) (orcNil)
omit [UDef] in
theorem O_q10z_ok {ρ : Type} (n : Nat) : (O_q10z n : Orc ρ).ok Tryd.prog := orcCons_ok (by kernel_rfl) (ok_q41z n) (orcNil_ok)
noncomputable def L_q10z {ρ : Type} (n : Nat) : LOrc ρ := lorcNil
omit [Tabs] [QuietD Tryd.prog] [UDef] [UTabs] in
theorem e_q10z (n : Nat) (x) : evF Tryd.prog 22 TT M_q10z F_q10z (O_q10z n) (L_q10z n) (evDraw Tryd.prog 22 TT M_q10z (O_q10z n)) ⟨[], [], []⟩ [.cell 4 25, .cell 5 4] C_q10z x = q10z n x := by kernel_rfl
theorem ok_q10z (n : Nat) : Contract Tryd.prog 49 F_q10z (q10z n) :=
  Contract.of_ev (c := C_q10z) (N := 22) Tryd.func49 (by kernel_rfl) (by kernel_rfl) (by kernel_rfl) (by kernel_rfl) (O_q10z_ok n) (evDraw_ok (O_q10z_ok n) (by kernel_rfl)) (.of (l := []) (by kernel_rfl) trivial) (e_q10z n)

noncomputable def C_q49z : Code := bodyOf Tryd.f13
noncomputable def M_q49z : List (Nat × ArgM) := [(6, ⟨[], [], [], true⟩)]
instance : DfOk M_q49z := .none rfl
noncomputable def O_q49z {ρ : Type} (n : Nat) : Orc ρ := orcCons 49 F_q10z (q10z n) (orcCons 6 F_q58z (q58z n) (orcNil))
theorem O_q49z_ok {ρ : Type} (n : Nat) : (O_q49z n : Orc ρ).ok Tryd.prog := orcCons_ok (by kernel_rfl) (ok_q10z n) (orcCons_ok (by kernel_rfl) (ok_q58z n) (orcNil_ok))
noncomputable def L_q49z {ρ : Type} (n : Nat) : LOrc ρ := lorcNil
omit [Tabs] [QuietD Tryd.prog] [UDef] [UTabs] in
theorem e_q49z (n : Nat) (x) : evF Tryd.prog 31 TT M_q49z F_q49z (O_q49z n) (L_q49z n) dorcNil ⟨[], [], []⟩ [.cell 2 25, .tmp 3] C_q49z x = q49z n x := by kernel_rfl
theorem ok_q49z (n : Nat) : Contract Tryd.prog 13 F_q49z (q49z n) :=
  Contract.of_ev (c := C_q49z) (N := 31) Tryd.func13 (by kernel_rfl) (by kernel_rfl) (by kernel_rfl) (by kernel_rfl) (O_q49z_ok n) dorcNil_ok (.of (l := []) (by kernel_rfl) trivial) (e_q49z n)

noncomputable def F_q15z : FnT := ⟨2, ⟨[], [(0, .graph), (1, .graph)], [], []⟩, [.v .bool], []⟩
noncomputable def F_q2z : FnT := ⟨3, ⟨[(2, .fn 27)], [(0, (.lst .node)), (1, (.lst .node))], [], []⟩, [.v .bool], []⟩
noncomputable def F_q19z : FnT := ⟨2, ⟨[], [(0, .node), (1, .node)], [], []⟩, [.v .bool], []⟩
noncomputable def F_q13z : FnT := ⟨2, ⟨[], [(0, (.lst .str)), (1, (.lst .str))], [], []⟩, [.v .bool], []⟩
noncomputable def C_q13z : Code := bodyOf Tryd.f47
noncomputable def M_q13z : List (Nat × ArgM) := []
instance : DfOk M_q13z := .none rfl
noncomputable def O_q13z {ρ : Type} (n : Nat) : Orc ρ := orcNil
omit [QuietD Tryd.prog] [UDef] [UTabs] in
theorem O_q13z_ok {ρ : Type} (n : Nat) : (O_q13z n : Orc ρ).ok Tryd.prog := orcNil_ok
noncomputable def T_q13z_s0 : Tm := ⟨[], [(0, (.lst .str)), (1, (.lst .str)), (12, .i64), (13, .i64)], [], []⟩
noncomputable def X_q13z_s0 : Tm := ⟨[], [], [], []⟩
noncomputable def R_q13z_s0 : Tm := ⟨[], [(4, .bool)], [], []⟩
noncomputable def L_q13z_s0 {ρ : Type} (n : Nat) : LOrc ρ := lorcNil
omit [Tabs] [QuietD Tryd.prog] [UDef] [UTabs] in
theorem s_q13z_s0 {ρ : Type} (n : Nat) (rec : T_q13z_s0.den → Option ρ) kx kr s : dStep Tryd.prog 26 TT M_q13z (O_q13z n) (L_q13z_s0 n) (evDraw Tryd.prog 26 TT M_q13z (O_q13z n)) 0 (lbody 1000 C_q13z 0) T_q13z_s0 X_q13z_s0 R_q13z_s0 ⟨[], [], []⟩ rec kx kr s = q13z_s0 n rec kx kr s := by kernel_rfl
noncomputable def L_q13z {ρ : Type} (n : Nat) : LOrc ρ := lorcCons 0 (loopL 26 0 n T_q13z_s0 X_q13z_s0 R_q13z_s0 ⟨[], [], []⟩ (q13z_s0 n)) (lorcNil)
omit [Tabs] [QuietD Tryd.prog] [UDef] [UTabs] in
theorem e_q13z (n : Nat) (x) : evF Tryd.prog 26 TT M_q13z F_q13z (O_q13z n) (L_q13z n) (evDraw Tryd.prog 26 TT M_q13z (O_q13z n)) ⟨[], [], []⟩ [.tmp 4] C_q13z x = q13z n x := by kernel_rfl
omit [UDef] [UTabs] in
theorem ok_q13z (n : Nat) : Contract Tryd.prog 47 F_q13z (q13z n) :=
  Contract.of_ev (c := C_q13z) (N := 26) Tryd.func47 (by kernel_rfl) (by kernel_rfl) (by kernel_rfl) (by kernel_rfl) (O_q13z_ok n) (evDraw_ok (O_q13z_ok n) (by kernel_rfl)) (.of (l := [(0, (lbody 1000 C_q13z 0))]) (by kernel_rfl) ⟨.head (loopL_sound (O_q13z_ok n) (evDraw_ok (O_q13z_ok n) (by kernel_rfl)) (.of (l := []) (by kernel_rfl) trivial) (s_q13z_s0 n)), trivial⟩) (e_q13z n)

noncomputable def F_q16z : FnT := ⟨2, ⟨[], [(0, (.lst .prp)), (1, (.lst .prp))], [], []⟩, [.v .bool], []⟩
noncomputable def F_q0z : FnT := ⟨3, ⟨[(2, .fn 77)], [(0, (.lst .prp)), (1, (.lst .prp))], [], []⟩, [.v .bool], []⟩
noncomputable def F_q14z : FnT := ⟨2, ⟨[], [(0, .prp), (1, .prp)], [], []⟩, [.v .bool], []⟩
noncomputable def F_q17z : FnT := ⟨2, ⟨[], [(0, .val), (1, .val)], [], []⟩, [.v .bool], []⟩
noncomputable def F_q23z : FnT := ⟨2, ⟨[], [(0, .val), (1, .val)], [], []⟩, [.v .i64], []⟩
noncomputable def F_q42z : FnT := ⟨2, ⟨[], [(0, (.lst .u8)), (1, (.lst .u8))], [], []⟩, [.v .i64], []⟩
noncomputable def C_q42z : Code := bodyOf Tryd.f87
noncomputable def M_q42z : List (Nat × ArgM) := []
instance : DfOk M_q42z := .none rfl
noncomputable def O_q42z {ρ : Type} : Orc ρ := orcCons 99 T_cmpB (cmpN) (orcNil)
omit [QuietD Tryd.prog] [UDef] [UTabs] in
theorem O_q42z_ok {ρ : Type} : (O_q42z : Orc ρ).ok Tryd.prog := orcExt_ok (by kernel_rfl) (cmp_ok) (orcNil_ok)
noncomputable def L_q42z {ρ : Type} : LOrc ρ := lorcNil
omit [Tabs] [QuietD Tryd.prog] [UDef] [UTabs] in
theorem e_q42z (x) : evF Tryd.prog 8 TT M_q42z F_q42z (O_q42z) (L_q42z) dorcNil ⟨[], [], []⟩ [.tmp 4] C_q42z x = q42z x := by kernel_rfl
omit [UDef] [UTabs] in
theorem ok_q42z : Contract Tryd.prog 87 F_q42z (q42z) :=
  Contract.of_ev (c := C_q42z) (N := 8) Tryd.func87 (by kernel_rfl) (by kernel_rfl) (by kernel_rfl) (by kernel_rfl) (O_q42z_ok) dorcNil_ok (.of (l := []) (by kernel_rfl) trivial) (e_q42z)

noncomputable def C_q23z : Code := bodyOf Tryd.f75
noncomputable def M_q23z : List (Nat × ArgM) := [(87, ⟨[], [], [], true⟩), (75, ⟨[], [], [], true⟩)]
instance : DfOk M_q23z := .none rfl
noncomputable def O_q23z {ρ : Type} (self_q23z : Ev.Val × Ev.Val × Unit → Option (Int × Unit)) (n : Nat) : Orc ρ := orcCons 87 F_q42z (q42z) (orcCons 75 F_q23z (self_q23z) (orcNil))
omit [UDef] [UTabs] in
theorem O_q23z_ok {ρ : Type} (self_q23z : Ev.Val × Ev.Val × Unit → Option (Int × Unit)) (h_q23z : Contract Tryd.prog 75 F_q23z self_q23z) (n : Nat) : (O_q23z self_q23z n : Orc ρ).ok Tryd.prog := orcCons_ok (by kernel_rfl) (ok_q42z) (orcCons_ok (by kernel_rfl) (h_q23z) (orcNil_ok))
noncomputable def T_q23z_s1 : Tm := ⟨[(2, .ptr 2 0), (3, .ptr 3 0)], [(5, .i64)], [(2, .box [.d .val]), (3, .box [.d .val])], []⟩
noncomputable def X_q23z_s1 : Tm := ⟨[(2, .ptr 2 0), (3, .ptr 3 0)], [], [(2, .box [.d .val]), (3, .box [.d .val])], []⟩
noncomputable def R_q23z_s1 : Tm := ⟨[], [(4, .i64)], [], []⟩
noncomputable def L_q23z_s1 {ρ : Type} (self_q23z : Ev.Val × Ev.Val × Unit → Option (Int × Unit)) (n : Nat) : LOrc ρ := lorcNil
omit [Tabs] [QuietD Tryd.prog] [UDef] [UTabs] in
theorem s_q23z_s1 {ρ : Type} (self_q23z : Ev.Val × Ev.Val × Unit → Option (Int × Unit)) (n : Nat) (rec : T_q23z_s1.den → Option ρ) kx kr s : dStep Tryd.prog 88 TT M_q23z (O_q23z self_q23z n) (L_q23z_s1 self_q23z n) (evDraw Tryd.prog 88 TT M_q23z (O_q23z self_q23z n)) 1 (lbody 1000 C_q23z 0) T_q23z_s1 X_q23z_s1 R_q23z_s1 ⟨[], [], []⟩ rec kx kr s = q23z_s1 self_q23z n rec kx kr s := by kernel_rfl
noncomputable def L_q23z {ρ : Type} (self_q23z : Ev.Val × Ev.Val × Unit → Option (Int × Unit)) (n : Nat) : LOrc ρ := lorcCons 1 (loopL 88 1 n T_q23z_s1 X_q23z_s1 R_q23z_s1 ⟨[], [], []⟩ (q23z_s1 self_q23z n)) (lorcNil)
omit [Tabs] [QuietD Tryd.prog] [UDef] [UTabs] in
theorem e_q23z (self_q23z : Ev.Val × Ev.Val × Unit → Option (Int × Unit)) (n : Nat) (x) : evF Tryd.prog 88 TT M_q23z F_q23z (O_q23z self_q23z n) (L_q23z self_q23z n) (evDraw Tryd.prog 88 TT M_q23z (O_q23z self_q23z n)) ⟨[], [], []⟩ [.tmp 4] C_q23z x = q23z_b self_q23z n x := by kernel_rfl
omit [UDef] [UTabs] in
theorem okb_q23z (self_q23z : Ev.Val × Ev.Val × Unit → Option (Int × Unit)) (h_q23z : Contract Tryd.prog 75 F_q23z self_q23z) (n : Nat) : Contract Tryd.prog 75 F_q23z (q23z_b self_q23z n) :=
  Contract.of_ev (c := C_q23z) (N := 88) Tryd.func75 (by kernel_rfl) (by kernel_rfl) (by kernel_rfl) (by kernel_rfl) (O_q23z_ok self_q23z h_q23z n) (evDraw_ok (O_q23z_ok self_q23z h_q23z n) (by kernel_rfl)) (.of (l := [(1, (lbody 1000 C_q23z 0))]) (by kernel_rfl) ⟨.head (loopL_sound (O_q23z_ok self_q23z h_q23z n) (evDraw_ok (O_q23z_ok self_q23z h_q23z n) (by kernel_rfl)) (.of (l := []) (by kernel_rfl) trivial) (s_q23z_s1 self_q23z n)), trivial⟩) (e_q23z self_q23z n)
omit [UDef] [UTabs] in
theorem ok_q23z : ∀ n, Contract Tryd.prog 75 F_q23z (q23z n)
  | 0 => fun _ _ h => by cases h
  | n + 1 => okb_q23z _ (ok_q23z n) n

noncomputable def C_q17z : Code := bodyOf Tryd.f46
noncomputable def M_q17z : List (Nat × ArgM) := [(75, ⟨[], [], [], true⟩)]
instance : DfOk M_q17z := .none rfl
noncomputable def O_q17z {ρ : Type} (n : Nat) : Orc ρ := orcCons 75 F_q23z (q23z n) (orcNil)
omit [UDef] [UTabs] in
theorem O_q17z_ok {ρ : Type} (n : Nat) : (O_q17z n : Orc ρ).ok Tryd.prog := orcCons_ok (by kernel_rfl) (ok_q23z n) (orcNil_ok)
noncomputable def L_q17z {ρ : Type} (n : Nat) : LOrc ρ := lorcNil
omit [Tabs] [QuietD Tryd.prog] [UDef] [UTabs] in
theorem e_q17z (n : Nat) (x) : evF Tryd.prog 9 TT M_q17z F_q17z (O_q17z n) (L_q17z n) dorcNil ⟨[], [], []⟩ [.tmp 4] C_q17z x = q17z n x := by kernel_rfl
omit [UDef] [UTabs] in
theorem ok_q17z (n : Nat) : Contract Tryd.prog 46 F_q17z (q17z n) :=
  Contract.of_ev (c := C_q17z) (N := 9) Tryd.func46 (by kernel_rfl) (by kernel_rfl) (by kernel_rfl) (by kernel_rfl) (O_q17z_ok n) dorcNil_ok (.of (l := []) (by kernel_rfl) trivial) (e_q17z n)

noncomputable def C_q14z : Code := bodyOf Tryd.f77
noncomputable def M_q14z : List (Nat × ArgM) := [(46, ⟨[], [], [], true⟩)]
instance : DfOk M_q14z := .none rfl
noncomputable def O_q14z {ρ : Type} (n : Nat) : Orc ρ := orcCons 46 F_q17z (q17z n) (orcNil)
omit [UDef] [UTabs] in
theorem O_q14z_ok {ρ : Type} (n : Nat) : (O_q14z n : Orc ρ).ok Tryd.prog := orcCons_ok (by kernel_rfl) (ok_q17z n) (orcNil_ok)
noncomputable def L_q14z {ρ : Type} (n : Nat) : LOrc ρ := lorcNil
omit [Tabs] [QuietD Tryd.prog] [UDef] [UTabs] in
theorem e_q14z (n : Nat) (x) : evF Tryd.prog 17 TT M_q14z F_q14z (O_q14z n) (L_q14z n) dorcNil ⟨[], [], []⟩ [.tmp 4] C_q14z x = q14z n x := by kernel_rfl
omit [UDef] [UTabs] in
theorem ok_q14z (n : Nat) : Contract Tryd.prog 77 F_q14z (q14z n) :=
  Contract.of_ev (c := C_q14z) (N := 17) Tryd.func77 (by kernel_rfl) (by kernel_rfl) (by kernel_rfl) (by kernel_rfl) (O_q14z_ok n) dorcNil_ok (.of (l := []) (by kernel_rfl) trivial) (e_q14z n)

noncomputable def C_q0z : Code := bodyOf Tryd.f76
noncomputable def M_q0z : List (Nat × ArgM) := [(77, ⟨[], [], [], true⟩)]
instance : DfOk M_q0z := .none rfl
noncomputable def O_q0z {ρ : Type} (n : Nat) : Orc ρ := orcCons 77 F_q14z (q14z n) (orcNil)
omit [UDef] [UTabs] in
theorem O_q0z_ok {ρ : Type} (n : Nat) : (O_q0z n : Orc ρ).ok Tryd.prog := orcCons_ok (by kernel_rfl) (ok_q14z n) (orcNil_ok)
noncomputable def T_q0z_s0 : Tm := ⟨[(2, .fn 77)], [(1, (.lst .prp)), (15, (.lst .prp)), (16, .i64), (17, .i64)], [], []⟩
noncomputable def X_q0z_s0 : Tm := ⟨[], [], [], []⟩
noncomputable def R_q0z_s0 : Tm := ⟨[], [(6, .bool)], [], []⟩
noncomputable def L_q0z_s0 {ρ : Type} (n : Nat) : LOrc ρ := lorcNil
omit [Tabs] [QuietD Tryd.prog] [UDef] [UTabs] in
theorem s_q0z_s0 {ρ : Type} (n : Nat) (rec : T_q0z_s0.den → Option ρ) kx kr s : dStep Tryd.prog 32 TT M_q0z (O_q0z n) (L_q0z_s0 n) dorcNil 0 (lbody 1000 C_q0z 0) T_q0z_s0 X_q0z_s0 R_q0z_s0 ⟨[], [], []⟩ rec kx kr s = q0z_s0 n rec kx kr s := by kernel_rfl
noncomputable def L_q0z {ρ : Type} (n : Nat) : LOrc ρ := lorcCons 0 (loopL 32 0 n T_q0z_s0 X_q0z_s0 R_q0z_s0 ⟨[], [], []⟩ (q0z_s0 n)) (lorcNil)
omit [Tabs] [QuietD Tryd.prog] [UDef] [UTabs] in
theorem e_q0z (n : Nat) (x) : evF Tryd.prog 32 TT M_q0z F_q0z (O_q0z n) (L_q0z n) dorcNil ⟨[], [], []⟩ [.tmp 6] C_q0z x = q0z n x := by kernel_rfl
omit [UDef] [UTabs] in
theorem ok_q0z (n : Nat) : Contract Tryd.prog 76 F_q0z (q0z n) :=
  Contract.of_ev (c := C_q0z) (N := 32) Tryd.func76 (by kernel_rfl) (by kernel_rfl) (by kernel_rfl) (by kernel_rfl) (O_q0z_ok n) dorcNil_ok (.of (l := [(0, (lbody 1000 C_q0z 0))]) (by kernel_rfl) ⟨.head (loopL_sound (O_q0z_ok n) dorcNil_ok (.of (l := []) (by kernel_rfl) trivial) (s_q0z_s0 n)), trivial⟩) (e_q0z n)

noncomputable def C_q16z : Code := bodyOf Tryd.f48
noncomputable def M_q16z : List (Nat × ArgM) := [(76, ⟨[], [], [], true⟩)]
instance : DfOk M_q16z := .none rfl
noncomputable def O_q16z {ρ : Type} (n : Nat) : Orc ρ := orcCons 76 F_q0z (q0z n) (orcNil)
omit [UDef] [UTabs] in
theorem O_q16z_ok {ρ : Type} (n : Nat) : (O_q16z n : Orc ρ).ok Tryd.prog := orcCons_ok (by kernel_rfl) (ok_q0z n) (orcNil_ok)
noncomputable def L_q16z {ρ : Type} (n : Nat) : LOrc ρ := lorcNil
omit [Tabs] [QuietD Tryd.prog] [UDef] [UTabs] in
theorem e_q16z (n : Nat) (x) : evF Tryd.prog 8 TT M_q16z F_q16z (O_q16z n) (L_q16z n) dorcNil ⟨[], [], []⟩ [.tmp 4] C_q16z x = q16z n x := by kernel_rfl
omit [UDef] [UTabs] in
theorem ok_q16z (n : Nat) : Contract Tryd.prog 48 F_q16z (q16z n) :=
  Contract.of_ev (c := C_q16z) (N := 8) Tryd.func48 (by kernel_rfl) (by kernel_rfl) (by kernel_rfl) (by kernel_rfl) (O_q16z_ok n) dorcNil_ok (.of (l := []) (by kernel_rfl) trivial) (e_q16z n)

noncomputable def C_q19z : Code := bodyOf Tryd.f27
noncomputable def M_q19z : List (Nat × ArgM) := [(47, ⟨[], [], [], true⟩), (48, ⟨[], [], [], true⟩)]
instance : DfOk M_q19z := .none rfl
noncomputable def O_q19z {ρ : Type} (n : Nat) : Orc ρ := orcCons 47 F_q13z (q13z n) (orcCons 48 F_q16z (q16z n) (orcNil))
omit [UDef] [UTabs] in
theorem O_q19z_ok {ρ : Type} (n : Nat) : (O_q19z n : Orc ρ).ok Tryd.prog := orcCons_ok (by kernel_rfl) (ok_q13z n) (orcCons_ok (by kernel_rfl) (ok_q16z n) (orcNil_ok))
noncomputable def L_q19z {ρ : Type} (n : Nat) : LOrc ρ := lorcNil
omit [Tabs] [QuietD Tryd.prog] [UDef] [UTabs] in
theorem e_q19z (n : Nat) (x) : evF Tryd.prog 24 TT M_q19z F_q19z (O_q19z n) (L_q19z n) dorcNil ⟨[], [], []⟩ [.tmp 4] C_q19z x = q19z n x := by kernel_rfl
omit [UDef] [UTabs] in
theorem ok_q19z (n : Nat) : Contract Tryd.prog 27 F_q19z (q19z n) :=
  Contract.of_ev (c := C_q19z) (N := 24) Tryd.func27 (by kernel_rfl) (by kernel_rfl) (by kernel_rfl) (by kernel_rfl) (O_q19z_ok n) dorcNil_ok (.of (l := []) (by kernel_rfl) trivial) (e_q19z n)

noncomputable def C_q2z : Code := bodyOf Tryd.f26
noncomputable def M_q2z : List (Nat × ArgM) := [(27, ⟨[], [], [], true⟩)]
instance : DfOk M_q2z := .none rfl
noncomputable def O_q2z {ρ : Type} (n : Nat) : Orc ρ := orcCons 27 F_q19z (q19z n) (orcNil)
omit [UDef] [UTabs] in
theorem O_q2z_ok {ρ : Type} (n : Nat) : (O_q2z n : Orc ρ).ok Tryd.prog := orcCons_ok (by kernel_rfl) (ok_q19z n) (orcNil_ok)
noncomputable def T_q2z_s0 : Tm := ⟨[(2, .fn 27)], [(1, (.lst .node)), (15, (.lst .node)), (16, .i64), (17, .i64)], [], []⟩
noncomputable def X_q2z_s0 : Tm := ⟨[], [], [], []⟩
noncomputable def R_q2z_s0 : Tm := ⟨[], [(6, .bool)], [], []⟩
noncomputable def L_q2z_s0 {ρ : Type} (n : Nat) : LOrc ρ := lorcNil
omit [Tabs] [QuietD Tryd.prog] [UDef] [UTabs] in
theorem s_q2z_s0 {ρ : Type} (n : Nat) (rec : T_q2z_s0.den → Option ρ) kx kr s : dStep Tryd.prog 32 TT M_q2z (O_q2z n) (L_q2z_s0 n) dorcNil 0 (lbody 1000 C_q2z 0) T_q2z_s0 X_q2z_s0 R_q2z_s0 ⟨[], [], []⟩ rec kx kr s = q2z_s0 n rec kx kr s := by kernel_rfl
noncomputable def L_q2z {ρ : Type} (n : Nat) : LOrc ρ := lorcCons 0 (loopL 32 0 n T_q2z_s0 X_q2z_s0 R_q2z_s0 ⟨[], [], []⟩ (q2z_s0 n)) (lorcNil)
omit [Tabs] [QuietD Tryd.prog] [UDef] [UTabs] in
theorem e_q2z (n : Nat) (x) : evF Tryd.prog 32 TT M_q2z F_q2z (O_q2z n) (L_q2z n) dorcNil ⟨[], [], []⟩ [.tmp 6] C_q2z x = q2z n x := by kernel_rfl
omit [UDef] [UTabs] in
theorem ok_q2z (n : Nat) : Contract Tryd.prog 26 F_q2z (q2z n) :=
  Contract.of_ev (c := C_q2z) (N := 32) Tryd.func26 (by kernel_rfl) (by kernel_rfl) (by kernel_rfl) (by kernel_rfl) (O_q2z_ok n) dorcNil_ok (.of (l := [(0, (lbody 1000 C_q2z 0))]) (by kernel_rfl) ⟨.head (loopL_sound (O_q2z_ok n) dorcNil_ok (.of (l := []) (by kernel_rfl) trivial) (s_q2z_s0 n)), trivial⟩) (e_q2z n)

noncomputable def F_q1z : FnT := ⟨3, ⟨[(2, .fn 29)], [(0, (.lst .edg)), (1, (.lst .edg))], [], []⟩, [.v .bool], []⟩
noncomputable def F_q18z : FnT := ⟨2, ⟨[], [(0, .edg), (1, .edg)], [], []⟩, [.v .bool], []⟩
noncomputable def C_q18z : Code := bodyOf Tryd.f29
noncomputable def M_q18z : List (Nat × ArgM) := [(48, ⟨[], [], [], true⟩)]
instance : DfOk M_q18z := .none rfl
noncomputable def O_q18z {ρ : Type} (n : Nat) : Orc ρ := orcCons 48 F_q16z (q16z n) (orcNil)
omit [UDef] [UTabs] in
theorem O_q18z_ok {ρ : Type} (n : Nat) : (O_q18z n : Orc ρ).ok Tryd.prog := orcCons_ok (by kernel_rfl) (ok_q16z n) (orcNil_ok)
noncomputable def L_q18z {ρ : Type} (n : Nat) : LOrc ρ := lorcNil
omit [Tabs] [QuietD Tryd.prog] [UDef] [UTabs] in
theorem e_q18z (n : Nat) (x) : evF Tryd.prog 38 TT M_q18z F_q18z (O_q18z n) (L_q18z n) dorcNil ⟨[], [], []⟩ [.tmp 4] C_q18z x = q18z n x := by kernel_rfl
omit [UDef] [UTabs] in
theorem ok_q18z (n : Nat) : Contract Tryd.prog 29 F_q18z (q18z n) :=
  Contract.of_ev (c := C_q18z) (N := 38) Tryd.func29 (by kernel_rfl) (by kernel_rfl) (by kernel_rfl) (by kernel_rfl) (O_q18z_ok n) dorcNil_ok (.of (l := []) (by kernel_rfl) trivial) (e_q18z n)

noncomputable def C_q1z : Code := bodyOf Tryd.f28
noncomputable def M_q1z : List (Nat × ArgM) := [(29, ⟨[], [], [], true⟩)]
instance : DfOk M_q1z := .none rfl
noncomputable def O_q1z {ρ : Type} (n : Nat) : Orc ρ := orcCons 29 F_q18z (q18z n) (orcNil)
omit [UDef] [UTabs] in
theorem O_q1z_ok {ρ : Type} (n : Nat) : (O_q1z n : Orc ρ).ok Tryd.prog := orcCons_ok (by kernel_rfl) (ok_q18z n) (orcNil_ok)
noncomputable def T_q1z_s0 : Tm := ⟨[(2, .fn 29)], [(1, (.lst .edg)), (15, (.lst .edg)), (16, .i64), (17, .i64)], [], []⟩
noncomputable def X_q1z_s0 : Tm := ⟨[], [], [], []⟩
noncomputable def R_q1z_s0 : Tm := ⟨[], [(6, .bool)], [], []⟩
noncomputable def L_q1z_s0 {ρ : Type} (n : Nat) : LOrc ρ := lorcNil
omit [Tabs] [QuietD Tryd.prog] [UDef] [UTabs] in
theorem s_q1z_s0 {ρ : Type} (n : Nat) (rec : T_q1z_s0.den → Option ρ) kx kr s : dStep Tryd.prog 32 TT M_q1z (O_q1z n) (L_q1z_s0 n) dorcNil 0 (lbody 1000 C_q1z 0) T_q1z_s0 X_q1z_s0 R_q1z_s0 ⟨[], [], []⟩ rec kx kr s = q1z_s0 n rec kx kr s := by kernel_rfl
noncomputable def L_q1z {ρ : Type} (n : Nat) : LOrc ρ := lorcCons 0 (loopL 32 0 n T_q1z_s0 X_q1z_s0 R_q1z_s0 ⟨[], [], []⟩ (q1z_s0 n)) (lorcNil)
omit [Tabs] [QuietD Tryd.prog] [UDef] [UTabs] in
theorem e_q1z (n : Nat) (x) : evF Tryd.prog 32 TT M_q1z F_q1z (O_q1z n) (L_q1z n) dorcNil ⟨[], [], []⟩ [.tmp 6] C_q1z x = q1z n x := by kernel_rfl
omit [UDef] [UTabs] in
theorem ok_q1z (n : Nat) : Contract Tryd.prog 28 F_q1z (q1z n) :=
  Contract.of_ev (c := C_q1z) (N := 32) Tryd.func28 (by kernel_rfl) (by kernel_rfl) (by kernel_rfl) (by kernel_rfl) (O_q1z_ok n) dorcNil_ok (.of (l := [(0, (lbody 1000 C_q1z 0))]) (by kernel_rfl) ⟨.head (loopL_sound (O_q1z_ok n) dorcNil_ok (.of (l := []) (by kernel_rfl) trivial) (s_q1z_s0 n)), trivial⟩) (e_q1z n)

noncomputable def C_q15z : Code := bodyOf Tryd.f8
noncomputable def M_q15z : List (Nat × ArgM) := [(26, ⟨[], [], [], true⟩), (28, ⟨[], [], [], true⟩)]
instance : DfOk M_q15z := .none rfl
noncomputable def O_q15z {ρ : Type} (n : Nat) : Orc ρ := orcCons 26 F_q2z (q2z n) (orcCons 28 F_q1z (q1z n) (orcNil))
omit [UDef] [UTabs] in
theorem O_q15z_ok {ρ : Type} (n : Nat) : (O_q15z n : Orc ρ).ok Tryd.prog := orcCons_ok (by kernel_rfl) (ok_q2z n) (orcCons_ok (by kernel_rfl) (ok_q1z n) (orcNil_ok))
noncomputable def L_q15z {ρ : Type} (n : Nat) : LOrc ρ := lorcNil
omit [Tabs] [QuietD Tryd.prog] [UDef] [UTabs] in
theorem e_q15z (n : Nat) (x) : evF Tryd.prog 24 TT M_q15z F_q15z (O_q15z n) (L_q15z n) dorcNil ⟨[], [], []⟩ [.tmp 4] C_q15z x = q15z n x := by kernel_rfl
omit [UDef] [UTabs] in
theorem ok_q15z (n : Nat) : Contract Tryd.prog 8 F_q15z (q15z n) :=
  Contract.of_ev (c := C_q15z) (N := 24) Tryd.func8 (by kernel_rfl) (by kernel_rfl) (by kernel_rfl) (by kernel_rfl) (O_q15z_ok n) dorcNil_ok (.of (l := []) (by kernel_rfl) trivial) (e_q15z n)

noncomputable def C_q26z : Code := bodyOf Tryd.f7
noncomputable def M_q26z : List (Nat × ArgM) := [(6, ⟨[], [], [], true⟩), (8, ⟨[], [], [], true⟩)]
instance : DfOk M_q26z := .none rfl
noncomputable def O_q26z {ρ : Type} (n : Nat) : Orc ρ := orcCons 25 F_q32z (q32z) (orcCons 6 F_q58z (q58z n) (orcCons 13 F_q49z (q49z n) (orcCons 8 F_q15z (q15z n) (orcNil))))
theorem O_q26z_ok {ρ : Type} (n : Nat) : (O_q26z n : Orc ρ).ok Tryd.prog := orcCons_ok (by kernel_rfl) (ok_q32z) (orcCons_ok (by kernel_rfl) (ok_q58z n) (orcCons_ok (by kernel_rfl) (ok_q49z n) (orcCons_ok (by kernel_rfl) (ok_q15z n) (orcNil_ok))))
noncomputable def L_q26z {ρ : Type} (n : Nat) : LOrc ρ := lorcNil
omit [Tabs] [QuietD Tryd.prog] [UDef] [UTabs] in
theorem e_q26z (n : Nat) (x) : evF Tryd.prog 30 TT M_q26z F_q26z (O_q26z n) (L_q26z n) (evDraw Tryd.prog 30 TT M_q26z (O_q26z n)) ⟨[], [], []⟩ [.tmp 0] C_q26z x = q26z n x := by kernel_rfl
theorem ok_q26z (n : Nat) : Contract Tryd.prog 7 F_q26z (q26z n) :=
  Contract.of_ev (c := C_q26z) (N := 30) Tryd.func7 (by kernel_rfl) (by kernel_rfl) (by kernel_rfl) (by kernel_rfl) (O_q26z_ok n) (evDraw_ok (O_q26z_ok n) (by kernel_rfl)) (.of (l := []) (by kernel_rfl) trivial) (e_q26z n)

noncomputable def C_q22z : Code := bodyOf Tryd.f3
noncomputable def M_q22z : List (Nat × ArgM) := [(6, ⟨[], [], [], true⟩), (7, ⟨[], [], [], true⟩), (8, ⟨[], [], [], true⟩)]
instance : DfOk M_q22z := .none rfl
noncomputable def O_q22z {ρ : Type} (n : Nat) : Orc ρ := orcCons 6 F_q58z (q58z n) (orcCons 7 F_q26z (q26z n) (orcCons 8 F_q15z (q15z n) (orcNil)))
theorem O_q22z_ok {ρ : Type} (n : Nat) : (O_q22z n : Orc ρ).ok Tryd.prog := orcCons_ok (by kernel_rfl) (ok_q58z n) (orcCons_ok (by kernel_rfl) (ok_q26z n) (orcCons_ok (by kernel_rfl) (ok_q15z n) (orcNil_ok)))
noncomputable def L_q22z {ρ : Type} (n : Nat) : LOrc ρ := lorcNil
omit [Tabs] [QuietD Tryd.prog] [UDef] [UTabs] in
theorem e_q22z (n : Nat) (x) : evF Tryd.prog 37 TT M_q22z F_q22z (O_q22z n) (L_q22z n) dorcNil ⟨[], [], []⟩ [.tmp 4] C_q22z x = q22z n x := by kernel_rfl
theorem ok_q22z (n : Nat) : Contract Tryd.prog 3 F_q22z (q22z n) :=
  Contract.of_ev (c := C_q22z) (N := 37) Tryd.func3 (by kernel_rfl) (by kernel_rfl) (by kernel_rfl) (by kernel_rfl) (O_q22z_ok n) dorcNil_ok (.of (l := []) (by kernel_rfl) trivial) (e_q22z n)

end Go.Proofs.YtojomjomicfcdaaDoor

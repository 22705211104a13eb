/- Each of these functions computes what its plain function computes (written by gen.py). -/
import Derived.Test.YtcdfapbfocdhjaaDoorSBase
import Derived.KernelRfl
import Derived.Test.YtcdfapbfocdhjaaDoorEvDraw
import Derived.Test.YtcdfapbfocdhjaaDoorPCode
namespace Go.Proofs.YtcdfapbfocdhjaaDoor
open Go Esp Ev Pure
set_option linter.unusedSimpArgs false
set_option linter.unusedVariables false
set_option maxRecDepth 100000
set_option maxHeartbeats 1000000
def okds : List FuncId := []
theorem quiets : ∀ g ∈ okds, ∀ (args : Array Value) (w : World), (callFunc g args).run Tryd.prog w = .ok (.enter g args) w ∧ CallsD Tryd.prog g args .returning w fun e u w' => u = .returning ∧ (∃ v, e = .returned v) ∧ w' = w := by
  intro g hg args w
  cases hg
variable [Tabs]
class UDef : Prop where
  ok : ∀ g ∈ ([] : List Nat), g ∈ Tabs.okd
variable [QuietD Tryd.prog] [UDef] [UTabs]
def TT : List (TypeId × Ty) := [(2, .i64), (3, .i64), (4, .bool), (5, .u8), (6, .u8), (9, .str), (10, .str), (11, .str), (12, .u64), (21, .i32), (22, (.lst .val)), (24, .val), (25, .i64), (33, (.lst .u8)), (48, .u64), (56, .u64), (62, .u32), (71, .u8), (72, .u8), (75, .i32), (76, .i32)]

noncomputable def F_q1z : FnT := ⟨1, ⟨[], [(0, .val)], [], []⟩, [.v .bool], []⟩
noncomputable def F_q7z : FnT := ⟨1, ⟨[], [(0, .val)], [], []⟩, [.v .str, .v .i64], []⟩
noncomputable def F_q5z : FnT := ⟨1, ⟨[], [(0, .val)], [], []⟩, [.v .i64], []⟩
noncomputable def F_q6z : FnT := ⟨2, ⟨[], [(0, .val), (1, .i64)], [], []⟩, [.v .i64], []⟩
noncomputable def C_q6z : Code := bodyOf Tryd.f17
noncomputable def M_q6z : List (Nat × ArgM) := [(10, ⟨[], [], [], true⟩), (17, ⟨[], [], [], true⟩)]
instance : DfOk M_q6z := .none rfl
noncomputable def O_q6z {ρ : Type} (self_q6z : Ev.Val × Int × Unit → Option (Int × Unit)) (n : Nat) : Orc ρ := orcCons 10 F_valid (validN) (orcCons 17 F_q6z (self_q6z) (orcNil))
omit [QuietD Tryd.prog] [UDef] in
theorem O_q6z_ok {ρ : Type} (self_q6z : Ev.Val × Int × Unit → Option (Int × Unit)) (h_q6z : Contract Tryd.prog 17 F_q6z self_q6z) (n : Nat) : (O_q6z self_q6z n : Orc ρ).ok Tryd.prog := orcCons_ok (by kernel_rfl) (validN_ok) (orcCons_ok (by kernel_rfl) (h_q6z) (orcNil_ok))
noncomputable def T_q6z_s1 : Tm := ⟨[(2, .ptr 2 0)], [(1, .i64), (90, (.lst .val)), (91, .i64), (92, .i64)], [(2, .box [.d .val])], []⟩
noncomputable def X_q6z_s1 : Tm := ⟨[(2, .ptr 2 0)], [], [(2, .box [.d .val])], []⟩
noncomputable def R_q6z_s1 : Tm := ⟨[], [(4, .i64)], [], []⟩
noncomputable def L_q6z_s1 {ρ : Type} (self_q6z : Ev.Val × Int × Unit → Option (Int × Unit)) (n : Nat) : LOrc ρ := lorcNil
omit [Tabs] [QuietD Tryd.prog] [UDef] [UTabs] in
theorem s_q6z_s1 {ρ : Type} (self_q6z : Ev.Val × Int × Unit → Option (Int × Unit)) (n : Nat) (rec : T_q6z_s1.den → Option ρ) kx kr s : dStep Tryd.prog 114 TT M_q6z (O_q6z self_q6z n) (L_q6z_s1 self_q6z n) dorcNil 1 (lbody 1000 C_q6z 0) T_q6z_s1 X_q6z_s1 R_q6z_s1 ⟨[], [], []⟩ rec kx kr s = q6z_s1 self_q6z n rec kx kr s := by kernel_rfl
noncomputable def L_q6z {ρ : Type} (self_q6z : Ev.Val × Int × Unit → Option (Int × Unit)) (n : Nat) : LOrc ρ := lorcCons 1 (loopL 114 1 n T_q6z_s1 X_q6z_s1 R_q6z_s1 ⟨[], [], []⟩ (q6z_s1 self_q6z n)) (lorcNil)
omit [Tabs] [QuietD Tryd.prog] [UDef] [UTabs] in
theorem e_q6z (self_q6z : Ev.Val × Int × Unit → Option (Int × Unit)) (n : Nat) (x) : evF Tryd.prog 114 TT M_q6z F_q6z (O_q6z self_q6z n) (L_q6z self_q6z n) dorcNil ⟨[], [], []⟩ [.tmp 4] C_q6z x = q6z_b self_q6z n x := by kernel_rfl
omit [UDef] in
theorem okb_q6z (self_q6z : Ev.Val × Int × Unit → Option (Int × Unit)) (h_q6z : Contract Tryd.prog 17 F_q6z self_q6z) (n : Nat) : Contract Tryd.prog 17 F_q6z (q6z_b self_q6z n) :=
  Contract.of_ev (c := C_q6z) (N := 114) Tryd.func17 (by kernel_rfl) (by kernel_rfl) (by kernel_rfl) (by kernel_rfl) (O_q6z_ok self_q6z h_q6z n) dorcNil_ok (.of (l := [(1, (lbody 1000 C_q6z 0))]) (by kernel_rfl) ⟨.head (loopL_sound (O_q6z_ok self_q6z h_q6z n) dorcNil_ok (.of (l := []) (by kernel_rfl) trivial) (s_q6z_s1 self_q6z n)), trivial⟩) (e_q6z self_q6z n)
omit [UDef] in
theorem ok_q6z : ∀ n, Contract Tryd.prog 17 F_q6z (q6z n)
  | 0 => fun _ _ h => by cases h
  | n + 1 => okb_q6z _ (ok_q6z n) n

noncomputable def C_q5z : Code := bodyOf Tryd.f8
noncomputable def M_q5z : List (Nat × ArgM) := [(17, ⟨[], [], [], true⟩)]
instance : DfOk M_q5z := .none rfl
noncomputable def O_q5z {ρ : Type} (n : Nat) : Orc ρ := orcCons 17 F_q6z (q6z n) (orcNil)
omit [UDef] in
theorem O_q5z_ok {ρ : Type} (n : Nat) : (O_q5z n : Orc ρ).ok Tryd.prog := orcCons_ok (by kernel_rfl) (ok_q6z n) (orcNil_ok)
noncomputable def L_q5z {ρ : Type} (n : Nat) : LOrc ρ := lorcNil
omit [Tabs] [QuietD Tryd.prog] [UDef] [UTabs] in
theorem e_q5z (n : Nat) (x) : evF Tryd.prog 5 TT M_q5z F_q5z (O_q5z n) (L_q5z n) dorcNil ⟨[], [], []⟩ [.tmp 2] C_q5z x = q5z n x := by kernel_rfl
omit [UDef] in
theorem ok_q5z (n : Nat) : Contract Tryd.prog 8 F_q5z (q5z n) :=
  Contract.of_ev (c := C_q5z) (N := 5) Tryd.func8 (by kernel_rfl) (by kernel_rfl) (by kernel_rfl) (by kernel_rfl) (O_q5z_ok n) dorcNil_ok (.of (l := []) (by kernel_rfl) trivial) (e_q5z n)

noncomputable def F_code_Put : FnT := ⟨2, ⟨[(0, .own 1000000)], [(1, .val)], [(1000000, .arr 5 .u8)], []⟩, [.ref (.own 1000000)], [(1000000, .arr 5 .u8)]⟩
noncomputable def F_q4z : FnT := ⟨3, ⟨[(0, .own 1000000)], [(1, .u64), (2, .i64)], [(1000000, .arr 5 .u8)], []⟩, [.ref (.own 1000000)], [(1000000, .arr 5 .u8)]⟩
noncomputable def C_q4z : Code := bodyOf Tryd.f18
noncomputable def M_q4z : List (Nat × ArgM) := []
instance : DfOk M_q4z := .none rfl
noncomputable def O_q4z {ρ : Type} (n : Nat) : Orc ρ := orcNil
omit [QuietD Tryd.prog] [UDef] [UTabs] in
theorem O_q4z_ok {ρ : Type} (n : Nat) : (O_q4z n : Orc ρ).ok Tryd.prog := orcNil_ok
noncomputable def T_q4z_s0 : Tm := ⟨[(0, .own 1000000)], [(1, .u64), (7, .i64)], [(1000000, .arr 5 .u8)], []⟩
noncomputable def X_q4z_s0 : Tm := ⟨[(0, .own 1000000)], [], [(1000000, .arr 5 .u8)], []⟩
noncomputable def R_q4z_s0 : Tm := ⟨[], [], [], []⟩
noncomputable def L_q4z_s0 {ρ : Type} (n : Nat) : LOrc ρ := lorcNil
omit [Tabs] [QuietD Tryd.prog] [UDef] [UTabs] in
theorem s_q4z_s0 {ρ : Type} (n : Nat) (rec : T_q4z_s0.den → Option ρ) kx kr s : dStep Tryd.prog 23 TT M_q4z (O_q4z n) (L_q4z_s0 n) dorcNil 0 (lbody 1000 C_q4z 0) T_q4z_s0 X_q4z_s0 R_q4z_s0 ⟨[], [(0, 0, 5, 1)], []⟩ rec kx kr s = q4z_s0 n rec kx kr s := by kernel_rfl
noncomputable def L_q4z {ρ : Type} (n : Nat) : LOrc ρ := lorcCons 0 (loopL 23 0 n T_q4z_s0 X_q4z_s0 R_q4z_s0 ⟨[], [(0, 0, 5, 1)], []⟩ (q4z_s0 n)) (lorcNil)
omit [Tabs] [QuietD Tryd.prog] [UDef] [UTabs] in
theorem e_q4z (n : Nat) (x) : evF Tryd.prog 23 TT M_q4z F_q4z (O_q4z n) (L_q4z n) dorcNil ⟨[], [], []⟩ [.tmp 6] C_q4z x = q4z n x := by kernel_rfl
omit [UDef] [UTabs] in
theorem ok_q4z (n : Nat) : Contract Tryd.prog 18 F_q4z (q4z n) :=
  Contract.of_ev (c := C_q4z) (N := 23) Tryd.func18 (by kernel_rfl) (by kernel_rfl) (by kernel_rfl) (by kernel_rfl) (O_q4z_ok n) dorcNil_ok (.of (l := [(0, (lbody 1000 C_q4z 0))]) (by kernel_rfl) ⟨.head (loopL_sound (O_q4z_ok n) dorcNil_ok (.of (l := []) (by kernel_rfl) trivial) (s_q4z_s0 n)), trivial⟩) (e_q4z n)

noncomputable def C_code_Put : Code := bodyOf Tryd.f9
noncomputable def M_code_Put : List (Nat × ArgM) := [(18, ⟨[0], [⟨0, 1000000, 5, 1⟩], [], false⟩), (9, ⟨[0], [⟨0, 1000000, 5, 1⟩], [], false⟩)]
instance : DfOk M_code_Put := .none rfl
noncomputable def O_code_Put {ρ : Type} (self_code_Put : Ev.Val × (List Int) × Unit → Option ((List Int) × Unit)) (n : Nat) : Orc ρ := orcCons 18 F_q4z (q4z n) (orcCons 9 F_code_Put (self_code_Put) (orcNil))
omit [UDef] [UTabs] in
theorem O_code_Put_ok {ρ : Type} (self_code_Put : Ev.Val × (List Int) × Unit → Option ((List Int) × Unit)) (h_code_Put : Contract Tryd.prog 9 F_code_Put self_code_Put) (n : Nat) : (O_code_Put self_code_Put n : Orc ρ).ok Tryd.prog := orcCons_ok (by kernel_rfl) (ok_q4z n) (orcCons_ok (by kernel_rfl) (h_code_Put) (orcNil_ok))
noncomputable def T_code_Put_s1 : Tm := ⟨[(0, .own 1000000)], [(46, (.lst .val)), (47, .i64), (48, .i64)], [(1000000, .arr 5 .u8)], []⟩
noncomputable def X_code_Put_s1 : Tm := ⟨[(0, .own 1000000)], [], [(1000000, .arr 5 .u8)], []⟩
noncomputable def R_code_Put_s1 : Tm := ⟨[], [], [], []⟩
noncomputable def L_code_Put_s1 {ρ : Type} (self_code_Put : Ev.Val × (List Int) × Unit → Option ((List Int) × Unit)) (n : Nat) : LOrc ρ := lorcNil
omit [Tabs] [QuietD Tryd.prog] [UDef] [UTabs] in
theorem s_code_Put_s1 {ρ : Type} (self_code_Put : Ev.Val × (List Int) × Unit → Option ((List Int) × Unit)) (n : Nat) (rec : T_code_Put_s1.den → Option ρ) kx kr s : dStep Tryd.prog 57 TT M_code_Put (O_code_Put self_code_Put n) (L_code_Put_s1 self_code_Put n) dorcNil 1 (lbody 1000 C_code_Put 0) T_code_Put_s1 X_code_Put_s1 R_code_Put_s1 ⟨[], [], []⟩ rec kx kr s = code_Put_s1 self_code_Put n rec kx kr s := by kernel_rfl
noncomputable def L_code_Put {ρ : Type} (self_code_Put : Ev.Val × (List Int) × Unit → Option ((List Int) × Unit)) (n : Nat) : LOrc ρ := lorcCons 1 (loopL 57 1 n T_code_Put_s1 X_code_Put_s1 R_code_Put_s1 ⟨[], [], []⟩ (code_Put_s1 self_code_Put n)) (lorcNil)
omit [Tabs] [QuietD Tryd.prog] [UDef] [UTabs] in
theorem e_code_Put (self_code_Put : Ev.Val × (List Int) × Unit → Option ((List Int) × Unit)) (n : Nat) (x) : evF Tryd.prog 57 TT M_code_Put F_code_Put (O_code_Put self_code_Put n) (L_code_Put self_code_Put n) dorcNil ⟨[], [], []⟩ [.tmp 4] C_code_Put x = code_Put_b self_code_Put n x := by kernel_rfl
omit [UDef] [UTabs] in
theorem okb_code_Put (self_code_Put : Ev.Val × (List Int) × Unit → Option ((List Int) × Unit)) (h_code_Put : Contract Tryd.prog 9 F_code_Put self_code_Put) (n : Nat) : Contract Tryd.prog 9 F_code_Put (code_Put_b self_code_Put n) :=
  Contract.of_ev (c := C_code_Put) (N := 57) Tryd.func9 (by kernel_rfl) (by kernel_rfl) (by kernel_rfl) (by kernel_rfl) (O_code_Put_ok self_code_Put h_code_Put n) dorcNil_ok (.of (l := [(1, (lbody 1000 C_code_Put 0))]) (by kernel_rfl) ⟨.head (loopL_sound (O_code_Put_ok self_code_Put h_code_Put n) dorcNil_ok (.of (l := []) (by kernel_rfl) trivial) (s_code_Put_s1 self_code_Put n)), trivial⟩) (e_code_Put self_code_Put n)
omit [UDef] [UTabs] in
theorem ok_code_Put : ∀ n, Contract Tryd.prog 9 F_code_Put (code_Put n)
  | 0 => fun _ _ h => by cases h
  | n + 1 => okb_code_Put _ (ok_code_Put n) n

noncomputable def C_q7z : Code := bodyOf Tryd.f4
noncomputable def M_q7z : List (Nat × ArgM) := [(9, ⟨[0], [⟨0, 1000000, 5, 1⟩], [], false⟩), (8, ⟨[], [], [], true⟩)]
instance : DfOk M_q7z := .none rfl
noncomputable def O_q7z {ρ : Type} (n : Nat) : Orc ρ := orcCons 8 F_q5z (q5z n) (orcCons 9 F_code_Put (code_Put n) (orcNil))
omit [UDef] in
theorem O_q7z_ok {ρ : Type} (n : Nat) : (O_q7z n : Orc ρ).ok Tryd.prog := orcCons_ok (by kernel_rfl) (ok_q5z n) (orcCons_ok (by kernel_rfl) (ok_code_Put n) (orcNil_ok))
noncomputable def L_q7z {ρ : Type} (n : Nat) : LOrc ρ := lorcNil
omit [Tabs] [QuietD Tryd.prog] [UDef] [UTabs] in
theorem e_q7z (n : Nat) (x) : evF Tryd.prog 18 TT M_q7z F_q7z (O_q7z n) (L_q7z n) dorcNil ⟨[], [], []⟩ [.tmp 2, .tmp 3] C_q7z x = q7z n x := by kernel_rfl
omit [UDef] in
theorem ok_q7z (n : Nat) : Contract Tryd.prog 4 F_q7z (q7z n) :=
  Contract.of_ev (c := C_q7z) (N := 18) Tryd.func4 (by kernel_rfl) (by kernel_rfl) (by kernel_rfl) (by kernel_rfl) (O_q7z_ok n) dorcNil_ok (.of (l := []) (by kernel_rfl) trivial) (e_q7z n)

noncomputable def F_q0z : FnT := ⟨2, ⟨[], [(0, .val), (1, .i64)], [], []⟩, [.v .i64], []⟩
noncomputable def C_q0z : Code := bodyOf Tryd.f5
noncomputable def M_q0z : List (Nat × ArgM) := [(5, ⟨[], [], [], true⟩), (10, ⟨[], [], [], true⟩)]
instance : DfOk M_q0z := .none rfl
noncomputable def O_q0z {ρ : Type} (self_q0z : Ev.Val × Int × Unit → Option (Int × Unit)) (n : Nat) : Orc ρ := orcCons 5 F_q0z (self_q0z) (orcCons 10 F_valid (validN) (orcNil))
omit [QuietD Tryd.prog] [UDef] in
theorem O_q0z_ok {ρ : Type} (self_q0z : Ev.Val × Int × Unit → Option (Int × Unit)) (h_q0z : Contract Tryd.prog 5 F_q0z self_q0z) (n : Nat) : (O_q0z self_q0z n : Orc ρ).ok Tryd.prog := orcCons_ok (by kernel_rfl) (h_q0z) (orcCons_ok (by kernel_rfl) (validN_ok) (orcNil_ok))
noncomputable def T_q0z_s1 : Tm := ⟨[], [(1, .i64), (5, .bool), (6, .bool), (34, (.lst .val)), (35, .i64), (36, .i64)], [], []⟩
noncomputable def X_q0z_s1 : Tm := ⟨[], [(5, .bool), (6, .bool)], [], []⟩
noncomputable def R_q0z_s1 : Tm := ⟨[], [(4, .i64)], [], []⟩
noncomputable def L_q0z_s1 {ρ : Type} (self_q0z : Ev.Val × Int × Unit → Option (Int × Unit)) (n : Nat) : LOrc ρ := lorcNil
omit [Tabs] [QuietD Tryd.prog] [UDef] [UTabs] in
theorem s_q0z_s1 {ρ : Type} (self_q0z : Ev.Val × Int × Unit → Option (Int × Unit)) (n : Nat) (rec : T_q0z_s1.den → Option ρ) kx kr s : dStep Tryd.prog 96 TT M_q0z (O_q0z self_q0z n) (L_q0z_s1 self_q0z n) (evDraw Tryd.prog 96 TT M_q0z (O_q0z self_q0z n)) 1 (lbody 1000 C_q0z 0) T_q0z_s1 X_q0z_s1 R_q0z_s1 ⟨[], [], []⟩ rec kx kr s = q0z_s1 self_q0z n rec kx kr s := by kernel_rfl
noncomputable def L_q0z {ρ : Type} (self_q0z : Ev.Val × Int × Unit → Option (Int × Unit)) (n : Nat) : LOrc ρ := lorcCons 1 (loopL 96 1 n T_q0z_s1 X_q0z_s1 R_q0z_s1 ⟨[], [], []⟩ (q0z_s1 self_q0z n)) (lorcNil)
omit [Tabs] [QuietD Tryd.prog] [UDef] [UTabs] in
theorem e_q0z (self_q0z : Ev.Val × Int × Unit → Option (Int × Unit)) (n : Nat) (x) : evF Tryd.prog 96 TT M_q0z F_q0z (O_q0z self_q0z n) (L_q0z self_q0z n) (evDraw Tryd.prog 96 TT M_q0z (O_q0z self_q0z n)) ⟨[], [], []⟩ [.tmp 4] C_q0z x = q0z_b self_q0z n x := by kernel_rfl
omit [UDef] in
theorem okb_q0z (self_q0z : Ev.Val × Int × Unit → Option (Int × Unit)) (h_q0z : Contract Tryd.prog 5 F_q0z self_q0z) (n : Nat) : Contract Tryd.prog 5 F_q0z (q0z_b self_q0z n) :=
  Contract.of_ev (c := C_q0z) (N := 96) Tryd.func5 (by kernel_rfl) (by kernel_rfl) (by kernel_rfl) (by kernel_rfl) (O_q0z_ok self_q0z h_q0z n) (evDraw_ok (O_q0z_ok self_q0z h_q0z n) (by kernel_rfl)) (.of (l := [(1, (lbody 1000 C_q0z 0))]) (by kernel_rfl) ⟨.head (loopL_sound (O_q0z_ok self_q0z h_q0z n) (evDraw_ok (O_q0z_ok self_q0z h_q0z n) (by kernel_rfl)) (.of (l := []) (by kernel_rfl) trivial) (s_q0z_s1 self_q0z n)), trivial⟩) (e_q0z self_q0z n)
omit [UDef] in
theorem ok_q0z : ∀ n, Contract Tryd.prog 5 F_q0z (q0z n)
  | 0 => fun _ _ h => by cases h
  | n + 1 => okb_q0z _ (ok_q0z n) n

noncomputable def F_q2z : FnT := ⟨0, ⟨[], [], [], []⟩, [.v .bool], []⟩
noncomputable def F_q3z : FnT := ⟨1, ⟨[], [(0, .i64)], [], []⟩, [.v .val], []⟩
noncomputable def C_q3z : Code := bodyOf Tryd.f11
noncomputable def M_q3z : List (Nat × ArgM) := []
instance : DfOk M_q3z := .none rfl
noncomputable def O_q3z {ρ : Type} : Orc ρ := orcNil
omit [QuietD Tryd.prog] [UDef] [UTabs] in
theorem O_q3z_ok {ρ : Type} : (O_q3z : Orc ρ).ok Tryd.prog := orcNil_ok
noncomputable def L_q3z {ρ : Type} : LOrc ρ := lorcNil
omit [Tabs] [QuietD Tryd.prog] [UDef] [UTabs] in
theorem e_q3z (x) : evF Tryd.prog 5 TT M_q3z F_q3z (O_q3z) (L_q3z) dorcNil ⟨[], [], []⟩ [.cell 2 24] C_q3z x = q3z x := by kernel_rfl
omit [UDef] [UTabs] in
theorem ok_q3z : Contract Tryd.prog 11 F_q3z (q3z) :=
  Contract.of_ev (c := C_q3z) (N := 5) Tryd.func11 (by kernel_rfl) (by kernel_rfl) (by kernel_rfl) (by kernel_rfl) (O_q3z_ok) dorcNil_ok (.of (l := []) (by kernel_rfl) trivial) (e_q3z)

noncomputable def F_q8z : FnT := ⟨1, ⟨[], [(0, .str)], [], []⟩, [.v .str, .v .i64], []⟩
noncomputable def F_code_sum : FnT := ⟨1, ⟨[], [(0, .str)], [], []⟩, [.v .u64], []⟩
noncomputable def C_code_sum : Code := bodyOf Tryd.f20
noncomputable def M_code_sum : List (Nat × ArgM) := []
instance : DfOk M_code_sum := .none rfl
noncomputable def O_code_sum {ρ : Type} (n : Nat) : Orc ρ := orcNil
omit [QuietD Tryd.prog] [UDef] [UTabs] in
theorem O_code_sum_ok {ρ : Type} (n : Nat) : (O_code_sum n : Orc ρ).ok Tryd.prog := orcNil_ok
noncomputable def T_code_sum_s2 : Tm := ⟨[], [(0, .str), (3, .u32), (6, .i64), (7, .i64), (16, .i64)], [], []⟩
noncomputable def X_code_sum_s2 : Tm := ⟨[], [(0, .str), (3, .u32), (6, .i64), (7, .i64)], [], []⟩
noncomputable def R_code_sum_s2 : Tm := ⟨[], [], [], []⟩
noncomputable def L_code_sum_s2 {ρ : Type} (n : Nat) : LOrc ρ := lorcNil
omit [Tabs] [QuietD Tryd.prog] [UDef] [UTabs] in
theorem s_code_sum_s2 {ρ : Type} (n : Nat) (rec : T_code_sum_s2.den → Option ρ) kx kr s : dStep Tryd.prog 30 TT M_code_sum (O_code_sum n) (L_code_sum_s2 n) dorcNil 2 (lbody 0 (lbody 1000 C_code_sum 0) 0) T_code_sum_s2 X_code_sum_s2 R_code_sum_s2 ⟨[], [], []⟩ rec kx kr s = code_sum_s2 n rec kx kr s := by kernel_rfl
noncomputable def T_code_sum_s0 : Tm := ⟨[], [(0, .str), (3, .u32), (6, .i64), (7, .i64)], [], []⟩
noncomputable def X_code_sum_s0 : Tm := ⟨[], [(3, .u32)], [], []⟩
noncomputable def R_code_sum_s0 : Tm := ⟨[], [], [], []⟩
noncomputable def L_code_sum_s0 {ρ : Type} (n : Nat) : LOrc ρ := lorcCons 2 (loopL 30 2 n T_code_sum_s2 X_code_sum_s2 R_code_sum_s2 ⟨[], [], []⟩ (code_sum_s2 n)) (lorcNil)
omit [Tabs] [QuietD Tryd.prog] [UDef] [UTabs] in
theorem s_code_sum_s0 {ρ : Type} (n : Nat) (rec : T_code_sum_s0.den → Option ρ) kx kr s : dStep Tryd.prog 30 TT M_code_sum (O_code_sum n) (L_code_sum_s0 n) dorcNil 0 (lbody 1000 C_code_sum 0) T_code_sum_s0 X_code_sum_s0 R_code_sum_s0 ⟨[], [], []⟩ rec kx kr s = code_sum_s0 n rec kx kr s := by kernel_rfl
noncomputable def L_code_sum {ρ : Type} (n : Nat) : LOrc ρ := lorcCons 0 (loopL 30 0 n T_code_sum_s0 X_code_sum_s0 R_code_sum_s0 ⟨[], [], []⟩ (code_sum_s0 n)) (lorcNil)
omit [Tabs] [QuietD Tryd.prog] [UDef] [UTabs] in
theorem e_code_sum (n : Nat) (x) : evF Tryd.prog 30 TT M_code_sum F_code_sum (O_code_sum n) (L_code_sum n) dorcNil ⟨[], [], []⟩ [.tmp 2] C_code_sum x = code_sum n x := by kernel_rfl
omit [UDef] [UTabs] in
theorem ok_code_sum (n : Nat) : Contract Tryd.prog 20 F_code_sum (code_sum n) :=
  Contract.of_ev (c := C_code_sum) (N := 30) Tryd.func20 (by kernel_rfl) (by kernel_rfl) (by kernel_rfl) (by kernel_rfl) (O_code_sum_ok n) dorcNil_ok (.of (l := [(0, (lbody 1000 C_code_sum 0))]) (by kernel_rfl) ⟨.head (loopL_sound (O_code_sum_ok n) dorcNil_ok (.of (l := [(2, (lbody 0 (lbody 1000 C_code_sum 0) 0))]) (by kernel_rfl) ⟨.head (loopL_sound (O_code_sum_ok n) dorcNil_ok (.of (l := []) (by kernel_rfl) trivial) (s_code_sum_s2 n)), trivial⟩) (s_code_sum_s0 n)), trivial⟩) (e_code_sum n)

noncomputable def C_q8z : Code := bodyOf Tryd.f12
noncomputable def M_q8z : List (Nat × ArgM) := [(18, ⟨[0], [⟨0, 1000000, 5, 1⟩], [], false⟩), (20, ⟨[], [], [], true⟩)]
instance : DfOk M_q8z := .none rfl
noncomputable def O_q8z {ρ : Type} (n : Nat) : Orc ρ := orcCons 18 F_q4z (q4z n) (orcCons 20 F_code_sum (code_sum n) (orcNil))
omit [UDef] [UTabs] in
theorem O_q8z_ok {ρ : Type} (n : Nat) : (O_q8z n : Orc ρ).ok Tryd.prog := orcCons_ok (by kernel_rfl) (ok_q4z n) (orcCons_ok (by kernel_rfl) (ok_code_sum n) (orcNil_ok))
noncomputable def L_q8z {ρ : Type} (n : Nat) : LOrc ρ := lorcNil
omit [Tabs] [QuietD Tryd.prog] [UDef] [UTabs] in
theorem e_q8z (n : Nat) (x) : evF Tryd.prog 19 TT M_q8z F_q8z (O_q8z n) (L_q8z n) dorcNil ⟨[], [], []⟩ [.tmp 2, .tmp 3] C_q8z x = q8z n x := by kernel_rfl
omit [UDef] [UTabs] in
theorem ok_q8z (n : Nat) : Contract Tryd.prog 12 F_q8z (q8z n) :=
  Contract.of_ev (c := C_q8z) (N := 19) Tryd.func12 (by kernel_rfl) (by kernel_rfl) (by kernel_rfl) (by kernel_rfl) (O_q8z_ok n) dorcNil_ok (.of (l := []) (by kernel_rfl) trivial) (e_q8z n)

noncomputable def C_q2z : Code := bodyOf Tryd.f6
noncomputable def M_q2z : List (Nat × ArgM) := [(4, ⟨[], [], [], true⟩), (12, ⟨[], [], [], true⟩)]
instance : DfOk M_q2z := .none rfl
noncomputable def O_q2z {ρ : Type} (n : Nat) : Orc ρ := orcCons 11 F_q3z (q3z) (orcCons 4 F_q7z (q7z n) (orcCons 12 F_q8z (q8z n) (orcNil)))
omit [UDef] in
theorem O_q2z_ok {ρ : Type} (n : Nat) : (O_q2z n : Orc ρ).ok Tryd.prog := orcCons_ok (by kernel_rfl) (ok_q3z) (orcCons_ok (by kernel_rfl) (ok_q7z n) (orcCons_ok (by kernel_rfl) (ok_q8z n) (orcNil_ok)))
noncomputable def L_q2z {ρ : Type} (n : Nat) : LOrc ρ := lorcNil
omit [Tabs] [QuietD Tryd.prog] [UDef] [UTabs] in
theorem e_q2z (n : Nat) (x) : evF Tryd.prog 28 TT M_q2z F_q2z (O_q2z n) (L_q2z n) dorcNil ⟨[], [], []⟩ [.tmp 0] C_q2z x = q2z n x := by kernel_rfl
omit [UDef] in
theorem ok_q2z (n : Nat) : Contract Tryd.prog 6 F_q2z (q2z n) :=
  Contract.of_ev (c := C_q2z) (N := 28) Tryd.func6 (by kernel_rfl) (by kernel_rfl) (by kernel_rfl) (by kernel_rfl) (O_q2z_ok n) dorcNil_ok (.of (l := []) (by kernel_rfl) trivial) (e_q2z n)

noncomputable def C_q1z : Code := bodyOf Tryd.f3
noncomputable def M_q1z : List (Nat × ArgM) := [(4, ⟨[], [], [], true⟩), (5, ⟨[], [], [], true⟩), (6, ⟨[], [], [], true⟩), (7, ⟨[], [], [], true⟩)]
instance : DfOk M_q1z := .none rfl
noncomputable def O_q1z {ρ : Type} (n : Nat) : Orc ρ := orcCons 4 F_q7z (q7z n) (orcCons 5 F_q0z (q0z n) (orcCons 6 F_q2z (q2z n) (orcCons 7 F_bytesOf (bytesOfN) (orcNil))))
omit [UDef] in
theorem O_q1z_ok {ρ : Type} (n : Nat) : (O_q1z n : Orc ρ).ok Tryd.prog := orcCons_ok (by kernel_rfl) (ok_q7z n) (orcCons_ok (by kernel_rfl) (ok_q0z n) (orcCons_ok (by kernel_rfl) (ok_q2z n) (orcCons_ok (by kernel_rfl) (bytesOfN_ok) (orcNil_ok))))
noncomputable def L_q1z {ρ : Type} (n : Nat) : LOrc ρ := lorcNil
omit [Tabs] [QuietD Tryd.prog] [UDef] [UTabs] in
theorem e_q1z (n : Nat) (x) : evF Tryd.prog 48 TT M_q1z F_q1z (O_q1z n) (L_q1z n) dorcNil ⟨[], [], []⟩ [.tmp 2] C_q1z x = q1z n x := by kernel_rfl
omit [UDef] in
theorem ok_q1z (n : Nat) : Contract Tryd.prog 3 F_q1z (q1z n) :=
  Contract.of_ev (c := C_q1z) (N := 48) Tryd.func3 (by kernel_rfl) (by kernel_rfl) (by kernel_rfl) (by kernel_rfl) (O_q1z_ok n) dorcNil_ok (.of (l := []) (by kernel_rfl) trivial) (e_q1z n)

end Go.Proofs.YtcdfapbfocdhjaaDoor

/- Each of these functions computes what its plain function computes (written by gen.py). -/
import Derived.Test.YtpfhkokjpmkbkaaGreatDoorSBase
import Derived.KernelRfl
import Derived.Test.YtpfhkokjpmkbkaaGreatDoorEvDraw
import Derived.Test.YtpfhkokjpmkbkaaGreatDoorPCode
namespace Go.Proofs.YtpfhkokjpmkbkaaGreatDoor
open Go Esp Ev Pure
set_option linter.unusedSimpArgs false
set_option linter.unusedVariables false
set_option maxRecDepth 100000
set_option maxHeartbeats 1000000
def okds : List FuncId := []
theorem quiets : ∀ g ∈ okds, ∀ (args : Array Value) (w : World), (callFunc g args).run Tryz.prog w = .ok (.enter g args) w ∧ CallsD Tryz.prog g args .returning w fun e u w' => u = .returning ∧ (∃ v, e = .returned v) ∧ w' = w := by
  intro g hg args w
  cases hg
variable [Tabs]
class UDef : Prop where
  ok : ∀ g ∈ ([] : List Nat), g ∈ Tabs.okd
variable [QuietD Tryz.prog] [UDef] [UTabs]
def TT : List (TypeId × Ty) := [(2, .i64), (3, .i64), (4, .bool), (5, .u8), (6, .u8), (9, .str), (10, .str), (11, .str), (12, .u64), (21, .i32), (22, (.lst .val)), (24, .val), (25, (.lst .term)), (27, .term), (31, (.lst .str)), (35, .i64), (38, (.lst .node)), (39, (.lst .edg)), (41, .graph), (43, (.lst .i64)), (47, (.map .str .bool)), (56, (.map .str .i64)), (61, .envr), (64, .prp), (65, (.lst .prp)), (67, .node), (69, .edg), (76, .u64), (91, (.lst .u8)), (101, .i64), (108, .u32), (110, .u64), (111, (.lst .i64)), (119, (.lst .i32)), (126, .u64), (160, .u8), (161, .u8), (164, .i32), (165, .i32)]

noncomputable def F_q7z : FnT := ⟨2, ⟨[], [(0, .str), (1, .term)], [], []⟩, [.v .bool], []⟩
noncomputable def F_q11z : FnT := ⟨0, ⟨[], [], [], []⟩, [.v .bool], []⟩
noncomputable def F_q15z : FnT := ⟨1, ⟨[], [(0, .i64)], [], []⟩, [.v .val], []⟩
noncomputable def C_q15z : Code := bodyOf Tryz.f12
noncomputable def M_q15z : List (Nat × ArgM) := []
instance : DfOk M_q15z := .none rfl
noncomputable def O_q15z {ρ : Type} : Orc ρ := orcNil
omit [QuietD Tryz.prog] [UDef] [UTabs] in
theorem O_q15z_ok {ρ : Type} : (O_q15z : Orc ρ).ok Tryz.prog := orcNil_ok
noncomputable def L_q15z {ρ : Type} : LOrc ρ := lorcNil
omit [Tabs] [QuietD Tryz.prog] [UDef] [UTabs] in
theorem e_q15z (x) : evF Tryz.prog 8 TT M_q15z F_q15z (O_q15z) (L_q15z) dorcNil ⟨[], [], []⟩ [.cell 2 24] C_q15z x = q15z x := by kernel_rfl
omit [UDef] [UTabs] in
theorem ok_q15z : Contract Tryz.prog 12 F_q15z (q15z) :=
  Contract.of_ev (c := C_q15z) (N := 8) Tryz.func12 (by kernel_rfl) (by kernel_rfl) (by kernel_rfl) (by kernel_rfl) (O_q15z_ok) dorcNil_ok (.of (l := []) (by kernel_rfl) trivial) (e_q15z)

noncomputable def F_q14z : FnT := ⟨0, ⟨[], [], [], []⟩, [.v .graph], []⟩
noncomputable def F_q20z : FnT := ⟨1, ⟨[], [(0, .i64)], [], []⟩, [.v .val], []⟩
noncomputable def C_q20z : Code := bodyOf Tryz.f16
noncomputable def M_q20z : List (Nat × ArgM) := []
instance : DfOk M_q20z := .none rfl
noncomputable def O_q20z {ρ : Type} : Orc ρ := orcNil
omit [QuietD Tryz.prog] [UDef] [UTabs] in
theorem O_q20z_ok {ρ : Type} : (O_q20z : Orc ρ).ok Tryz.prog := orcNil_ok
noncomputable def L_q20z {ρ : Type} : LOrc ρ := lorcNil
omit [Tabs] [QuietD Tryz.prog] [UDef] [UTabs] in
theorem e_q20z (x) : evF Tryz.prog 5 TT M_q20z F_q20z (O_q20z) (L_q20z) dorcNil ⟨[], [], []⟩ [.cell 2 24] C_q20z x = q20z x := by kernel_rfl
omit [UDef] [UTabs] in
theorem ok_q20z : Contract Tryz.prog 16 F_q20z (q20z) :=
  Contract.of_ev (c := C_q20z) (N := 5) Tryz.func16 (by kernel_rfl) (by kernel_rfl) (by kernel_rfl) (by kernel_rfl) (O_q20z_ok) dorcNil_ok (.of (l := []) (by kernel_rfl) trivial) (e_q20z)

noncomputable def C_q14z : Code := bodyOf Tryz.f14
noncomputable def M_q14z : List (Nat × ArgM) := []
instance : DfOk M_q14z := .none rfl
noncomputable def O_q14z {ρ : Type} : Orc ρ := orcCons 16 F_q20z (q20z) (orcNil)
omit [UDef] [UTabs] in
theorem O_q14z_ok {ρ : Type} : (O_q14z : Orc ρ).ok Tryz.prog := orcCons_ok (by kernel_rfl) (ok_q20z) (orcNil_ok)
noncomputable def L_q14z {ρ : Type} : LOrc ρ := lorcNil
omit [Tabs] [QuietD Tryz.prog] [UDef] [UTabs] in
theorem e_q14z (x) : evF Tryz.prog 11 TT M_q14z F_q14z (O_q14z) (L_q14z) dorcNil ⟨[], [], []⟩ [.cell 0 41] C_q14z x = q14z x := by kernel_rfl
omit [UDef] [UTabs] in
theorem ok_q14z : Contract Tryz.prog 14 F_q14z (q14z) :=
  Contract.of_ev (c := C_q14z) (N := 11) Tryz.func14 (by kernel_rfl) (by kernel_rfl) (by kernel_rfl) (by kernel_rfl) (O_q14z_ok) dorcNil_ok (.of (l := []) (by kernel_rfl) trivial) (e_q14z)

noncomputable def F_term_Eval : FnT := ⟨4, ⟨[], [(0, .graph), (1, (.lst .str)), (2, (.lst .i64)), (3, .term)], [], []⟩, [.v .val, .v .i64], []⟩
noncomputable def F_q33z : FnT := ⟨1, ⟨[], [(0, .graph)], [], []⟩, [.v .i64], []⟩
noncomputable def F_q31z : FnT := ⟨1, ⟨[], [(0, (.lst .str))], [], []⟩, [.v .i64], []⟩
noncomputable def F_q44z : FnT := ⟨1, ⟨[], [(0, .str)], [], []⟩, [.v .bool], []⟩
noncomputable def C_q44z : Code := bodyOf Tryz.f19
noncomputable def M_q44z : List (Nat × ArgM) := []
instance : DfOk M_q44z := .none rfl
noncomputable def O_q44z {ρ : Type} (n : Nat) : Orc ρ := orcNil
omit [QuietD Tryz.prog] [UDef] [UTabs] in
theorem O_q44z_ok {ρ : Type} (n : Nat) : (O_q44z n : Orc ρ).ok Tryz.prog := orcNil_ok
noncomputable def T_q44z_s0 : Tm := ⟨[], [(0, .str), (14, .i64), (15, .i64)], [], []⟩
noncomputable def X_q44z_s0 : Tm := ⟨[], [], [], []⟩
noncomputable def R_q44z_s0 : Tm := ⟨[], [(2, .bool)], [], []⟩
noncomputable def L_q44z_s0 {ρ : Type} (n : Nat) : LOrc ρ := lorcNil
omit [Tabs] [QuietD Tryz.prog] [UDef] [UTabs] in
theorem s_q44z_s0 {ρ : Type} (n : Nat) (rec : T_q44z_s0.den → Option ρ) kx kr s : dStep Tryz.prog 54 TT M_q44z (O_q44z n) (L_q44z_s0 n) dorcNil 0 (lbody 1000 C_q44z 0) T_q44z_s0 X_q44z_s0 R_q44z_s0 ⟨[], [], []⟩ rec kx kr s = q44z_s0 n rec kx kr s := by kernel_rfl
noncomputable def L_q44z {ρ : Type} (n : Nat) : LOrc ρ := lorcCons 0 (loopL 54 0 n T_q44z_s0 X_q44z_s0 R_q44z_s0 ⟨[], [], []⟩ (q44z_s0 n)) (lorcNil)
omit [Tabs] [QuietD Tryz.prog] [UDef] [UTabs] in
theorem e_q44z (n : Nat) (x) : evF Tryz.prog 54 TT M_q44z F_q44z (O_q44z n) (L_q44z n) dorcNil ⟨[], [], []⟩ [.tmp 2] C_q44z x = q44z n x := by kernel_rfl
omit [UDef] [UTabs] in
theorem ok_q44z (n : Nat) : Contract Tryz.prog 19 F_q44z (q44z n) :=
  Contract.of_ev (c := C_q44z) (N := 54) Tryz.func19 (by kernel_rfl) (by kernel_rfl) (by kernel_rfl) (by kernel_rfl) (O_q44z_ok n) dorcNil_ok (.of (l := [(0, (lbody 1000 C_q44z 0))]) (by kernel_rfl) ⟨.head (loopL_sound (O_q44z_ok n) dorcNil_ok (.of (l := []) (by kernel_rfl) trivial) (s_q44z_s0 n)), trivial⟩) (e_q44z n)

noncomputable def C_q31z : Code := bodyOf Tryz.f40
noncomputable def M_q31z : List (Nat × ArgM) := [(19, ⟨[], [], [], true⟩)]
instance : DfOk M_q31z := .none rfl
noncomputable def O_q31z {ρ : Type} (n : Nat) : Orc ρ := orcCons 19 F_q44z (q44z n) (orcNil)
omit [UDef] [UTabs] in
theorem O_q31z_ok {ρ : Type} (n : Nat) : (O_q31z n : Orc ρ).ok Tryz.prog := orcCons_ok (by kernel_rfl) (ok_q44z n) (orcNil_ok)
noncomputable def T_q31z_s0 : Tm := ⟨[], [(0, (.lst .str)), (8, (.lst .str)), (9, .i64), (10, .i64)], [], []⟩
noncomputable def X_q31z_s0 : Tm := ⟨[], [], [], []⟩
noncomputable def R_q31z_s0 : Tm := ⟨[], [(2, .i64)], [], []⟩
noncomputable def L_q31z_s0 {ρ : Type} (n : Nat) : LOrc ρ := lorcNil
omit [Tabs] [QuietD Tryz.prog] [UDef] [UTabs] in
theorem s_q31z_s0 {ρ : Type} (n : Nat) (rec : T_q31z_s0.den → Option ρ) kx kr s : dStep Tryz.prog 32 TT M_q31z (O_q31z n) (L_q31z_s0 n) dorcNil 0 (lbody 1000 C_q31z 0) T_q31z_s0 X_q31z_s0 R_q31z_s0 ⟨[], [], []⟩ rec kx kr s = q31z_s0 n rec kx kr s := by kernel_rfl
noncomputable def L_q31z {ρ : Type} (n : Nat) : LOrc ρ := lorcCons 0 (loopL 32 0 n T_q31z_s0 X_q31z_s0 R_q31z_s0 ⟨[], [], []⟩ (q31z_s0 n)) (lorcNil)
omit [Tabs] [QuietD Tryz.prog] [UDef] [UTabs] in
theorem e_q31z (n : Nat) (x) : evF Tryz.prog 32 TT M_q31z F_q31z (O_q31z n) (L_q31z n) dorcNil ⟨[], [], []⟩ [.tmp 2] C_q31z x = q31z n x := by kernel_rfl
omit [UDef] [UTabs] in
theorem ok_q31z (n : Nat) : Contract Tryz.prog 40 F_q31z (q31z n) :=
  Contract.of_ev (c := C_q31z) (N := 32) Tryz.func40 (by kernel_rfl) (by kernel_rfl) (by kernel_rfl) (by kernel_rfl) (O_q31z_ok n) dorcNil_ok (.of (l := [(0, (lbody 1000 C_q31z 0))]) (by kernel_rfl) ⟨.head (loopL_sound (O_q31z_ok n) dorcNil_ok (.of (l := []) (by kernel_rfl) trivial) (s_q31z_s0 n)), trivial⟩) (e_q31z n)

noncomputable def F_q34z : FnT := ⟨1, ⟨[], [(0, (.lst .prp))], [], []⟩, [.v .i64], []⟩
noncomputable def F_q37z : FnT := ⟨1, ⟨[], [(0, .val)], [], []⟩, [.v .i64], []⟩
noncomputable def F_q39z : FnT := ⟨2, ⟨[], [(0, .val), (1, .i64)], [], []⟩, [.v .i64], []⟩
noncomputable def C_q39z : Code := bodyOf Tryz.f97
noncomputable def M_q39z : List (Nat × ArgM) := [(110, ⟨[], [], [], true⟩), (97, ⟨[], [], [], true⟩)]
instance : DfOk M_q39z := .none rfl
noncomputable def O_q39z {ρ : Type} (self_q39z : Ev.Val × Int × Unit → Option (Int × Unit)) (n : Nat) : Orc ρ := orcCons 110 F_valid (validN) (orcCons 97 F_q39z (self_q39z) (orcNil))
omit [QuietD Tryz.prog] [UDef] in
theorem O_q39z_ok {ρ : Type} (self_q39z : Ev.Val × Int × Unit → Option (Int × Unit)) (h_q39z : Contract Tryz.prog 97 F_q39z self_q39z) (n : Nat) : (O_q39z self_q39z n : Orc ρ).ok Tryz.prog := orcCons_ok (by kernel_rfl) (validN_ok) (orcCons_ok (by kernel_rfl) (h_q39z) (orcNil_ok))
noncomputable def T_q39z_s1 : Tm := ⟨[(2, .ptr 2 0)], [(1, .i64), (90, (.lst .val)), (91, .i64), (92, .i64)], [(2, .box [.d .val])], []⟩
noncomputable def X_q39z_s1 : Tm := ⟨[(2, .ptr 2 0)], [], [(2, .box [.d .val])], []⟩
noncomputable def R_q39z_s1 : Tm := ⟨[], [(4, .i64)], [], []⟩
noncomputable def L_q39z_s1 {ρ : Type} (self_q39z : Ev.Val × Int × Unit → Option (Int × Unit)) (n : Nat) : LOrc ρ := lorcNil
omit [Tabs] [QuietD Tryz.prog] [UDef] [UTabs] in
theorem s_q39z_s1 {ρ : Type} (self_q39z : Ev.Val × Int × Unit → Option (Int × Unit)) (n : Nat) (rec : T_q39z_s1.den → Option ρ) kx kr s : dStep Tryz.prog 114 TT M_q39z (O_q39z self_q39z n) (L_q39z_s1 self_q39z n) dorcNil 1 (lbody 1000 C_q39z 0) T_q39z_s1 X_q39z_s1 R_q39z_s1 ⟨[], [], []⟩ rec kx kr s = q39z_s1 self_q39z n rec kx kr s := by kernel_rfl
noncomputable def L_q39z {ρ : Type} (self_q39z : Ev.Val × Int × Unit → Option (Int × Unit)) (n : Nat) : LOrc ρ := lorcCons 1 (loopL 114 1 n T_q39z_s1 X_q39z_s1 R_q39z_s1 ⟨[], [], []⟩ (q39z_s1 self_q39z n)) (lorcNil)
omit [Tabs] [QuietD Tryz.prog] [UDef] [UTabs] in
theorem e_q39z (self_q39z : Ev.Val × Int × Unit → Option (Int × Unit)) (n : Nat) (x) : evF Tryz.prog 114 TT M_q39z F_q39z (O_q39z self_q39z n) (L_q39z self_q39z n) dorcNil ⟨[], [], []⟩ [.tmp 4] C_q39z x = q39z_b self_q39z n x := by kernel_rfl
omit [UDef] in
theorem okb_q39z (self_q39z : Ev.Val × Int × Unit → Option (Int × Unit)) (h_q39z : Contract Tryz.prog 97 F_q39z self_q39z) (n : Nat) : Contract Tryz.prog 97 F_q39z (q39z_b self_q39z n) :=
  Contract.of_ev (c := C_q39z) (N := 114) Tryz.func97 (by kernel_rfl) (by kernel_rfl) (by kernel_rfl) (by kernel_rfl) (O_q39z_ok self_q39z h_q39z n) dorcNil_ok (.of (l := [(1, (lbody 1000 C_q39z 0))]) (by kernel_rfl) ⟨.head (loopL_sound (O_q39z_ok self_q39z h_q39z n) dorcNil_ok (.of (l := []) (by kernel_rfl) trivial) (s_q39z_s1 self_q39z n)), trivial⟩) (e_q39z self_q39z n)
omit [UDef] in
theorem ok_q39z : ∀ n, Contract Tryz.prog 97 F_q39z (q39z n)
  | 0 => fun _ _ h => by cases h
  | n + 1 => okb_q39z _ (ok_q39z n) n

noncomputable def C_q37z : Code := bodyOf Tryz.f72
noncomputable def M_q37z : List (Nat × ArgM) := [(97, ⟨[], [], [], true⟩)]
instance : DfOk M_q37z := .none rfl
noncomputable def O_q37z {ρ : Type} (n : Nat) : Orc ρ := orcCons 97 F_q39z (q39z n) (orcNil)
omit [UDef] in
theorem O_q37z_ok {ρ : Type} (n : Nat) : (O_q37z n : Orc ρ).ok Tryz.prog := orcCons_ok (by kernel_rfl) (ok_q39z n) (orcNil_ok)
noncomputable def L_q37z {ρ : Type} (n : Nat) : LOrc ρ := lorcNil
omit [Tabs] [QuietD Tryz.prog] [UDef] [UTabs] in
theorem e_q37z (n : Nat) (x) : evF Tryz.prog 5 TT M_q37z F_q37z (O_q37z n) (L_q37z n) dorcNil ⟨[], [], []⟩ [.tmp 2] C_q37z x = q37z n x := by kernel_rfl
omit [UDef] in
theorem ok_q37z (n : Nat) : Contract Tryz.prog 72 F_q37z (q37z n) :=
  Contract.of_ev (c := C_q37z) (N := 5) Tryz.func72 (by kernel_rfl) (by kernel_rfl) (by kernel_rfl) (by kernel_rfl) (O_q37z_ok n) dorcNil_ok (.of (l := []) (by kernel_rfl) trivial) (e_q37z n)

noncomputable def C_q34z : Code := bodyOf Tryz.f41
noncomputable def M_q34z : List (Nat × ArgM) := [(19, ⟨[], [], [], true⟩), (72, ⟨[], [], [], true⟩)]
instance : DfOk M_q34z := .none rfl
noncomputable def O_q34z {ρ : Type} (n : Nat) : Orc ρ := orcCons 19 F_q44z (q44z n) (orcCons 72 F_q37z (q37z n) (orcNil))
omit [UDef] in
theorem O_q34z_ok {ρ : Type} (n : Nat) : (O_q34z n : Orc ρ).ok Tryz.prog := orcCons_ok (by kernel_rfl) (ok_q44z n) (orcCons_ok (by kernel_rfl) (ok_q37z n) (orcNil_ok))
noncomputable def T_q34z_s0 : Tm := ⟨[], [(0, (.lst .prp)), (9, (.lst .prp)), (10, .i64), (11, .i64)], [], []⟩
noncomputable def X_q34z_s0 : Tm := ⟨[], [], [], []⟩
noncomputable def R_q34z_s0 : Tm := ⟨[], [(2, .i64)], [], []⟩
noncomputable def L_q34z_s0 {ρ : Type} (n : Nat) : LOrc ρ := lorcNil
omit [Tabs] [QuietD Tryz.prog] [UDef] [UTabs] in
theorem s_q34z_s0 {ρ : Type} (n : Nat) (rec : T_q34z_s0.den → Option ρ) kx kr s : dStep Tryz.prog 48 TT M_q34z (O_q34z n) (L_q34z_s0 n) (evDraw Tryz.prog 48 TT M_q34z (O_q34z n)) 0 (lbody 1000 C_q34z 0) T_q34z_s0 X_q34z_s0 R_q34z_s0 ⟨[], [], []⟩ rec kx kr s = q34z_s0 n rec kx kr s := by kernel_rfl
noncomputable def L_q34z {ρ : Type} (n : Nat) : LOrc ρ := lorcCons 0 (loopL 48 0 n T_q34z_s0 X_q34z_s0 R_q34z_s0 ⟨[], [], []⟩ (q34z_s0 n)) (lorcNil)
omit [Tabs] [QuietD Tryz.prog] [UDef] [UTabs] in
theorem e_q34z (n : Nat) (x) : evF Tryz.prog 48 TT M_q34z F_q34z (O_q34z n) (L_q34z n) (evDraw Tryz.prog 48 TT M_q34z (O_q34z n)) ⟨[], [], []⟩ [.tmp 2] C_q34z x = q34z n x := by kernel_rfl
omit [UDef] in
theorem ok_q34z (n : Nat) : Contract Tryz.prog 41 F_q34z (q34z n) :=
  Contract.of_ev (c := C_q34z) (N := 48) Tryz.func41 (by kernel_rfl) (by kernel_rfl) (by kernel_rfl) (by kernel_rfl) (O_q34z_ok n) (evDraw_ok (O_q34z_ok n) (by kernel_rfl)) (.of (l := [(0, (lbody 1000 C_q34z 0))]) (by kernel_rfl) ⟨.head (loopL_sound (O_q34z_ok n) (evDraw_ok (O_q34z_ok n) (by kernel_rfl)) (.of (l := []) (by kernel_rfl) trivial) (s_q34z_s0 n)), trivial⟩) (e_q34z n)

noncomputable def F_q16z : FnT := ⟨1, ⟨[], [(0, (.lst .i64))], [], []⟩, [.v .i64], []⟩
noncomputable def C_q16z : Code := bodyOf Tryz.f39
noncomputable def M_q16z : List (Nat × ArgM) := []
instance : DfOk M_q16z := .none rfl
noncomputable def O_q16z {ρ : Type} (n : Nat) : Orc ρ := orcNil
omit [QuietD Tryz.prog] [UDef] [UTabs] in
theorem O_q16z_ok {ρ : Type} (n : Nat) : (O_q16z n : Orc ρ).ok Tryz.prog := orcNil_ok
noncomputable def T_q16z_s0 : Tm := ⟨[], [(3, .i64), (6, (.lst .i64)), (7, .i64), (8, .i64)], [], []⟩
noncomputable def X_q16z_s0 : Tm := ⟨[], [(3, .i64)], [], []⟩
noncomputable def R_q16z_s0 : Tm := ⟨[], [(2, .i64)], [], []⟩
noncomputable def L_q16z_s0 {ρ : Type} (n : Nat) : LOrc ρ := lorcNil
omit [Tabs] [QuietD Tryz.prog] [UDef] [UTabs] in
theorem s_q16z_s0 {ρ : Type} (n : Nat) (rec : T_q16z_s0.den → Option ρ) kx kr s : dStep Tryz.prog 18 TT M_q16z (O_q16z n) (L_q16z_s0 n) dorcNil 0 (lbody 1000 C_q16z 0) T_q16z_s0 X_q16z_s0 R_q16z_s0 ⟨[], [], []⟩ rec kx kr s = q16z_s0 n rec kx kr s := by kernel_rfl
noncomputable def L_q16z {ρ : Type} (n : Nat) : LOrc ρ := lorcCons 0 (loopL 18 0 n T_q16z_s0 X_q16z_s0 R_q16z_s0 ⟨[], [], []⟩ (q16z_s0 n)) (lorcNil)
omit [Tabs] [QuietD Tryz.prog] [UDef] [UTabs] in
theorem e_q16z (n : Nat) (x) : evF Tryz.prog 18 TT M_q16z F_q16z (O_q16z n) (L_q16z n) dorcNil ⟨[], [], []⟩ [.tmp 2] C_q16z x = q16z n x := by kernel_rfl
omit [UDef] [UTabs] in
theorem ok_q16z (n : Nat) : Contract Tryz.prog 39 F_q16z (q16z n) :=
  Contract.of_ev (c := C_q16z) (N := 18) Tryz.func39 (by kernel_rfl) (by kernel_rfl) (by kernel_rfl) (by kernel_rfl) (O_q16z_ok n) dorcNil_ok (.of (l := [(0, (lbody 1000 C_q16z 0))]) (by kernel_rfl) ⟨.head (loopL_sound (O_q16z_ok n) dorcNil_ok (.of (l := []) (by kernel_rfl) trivial) (s_q16z_s0 n)), trivial⟩) (e_q16z n)

noncomputable def F_q43z : FnT := ⟨2, ⟨[], [(0, .graph), (1, .i64)], [], []⟩, [.v .i64], []⟩
noncomputable def F_q2z : FnT := ⟨3, ⟨[(2, .fn 43)], [(0, (.lst .node)), (1, .i64)], [], []⟩, [.v .i64, .v .bool], []⟩
noncomputable def F_q30z : FnT := ⟨2, ⟨[], [(0, .node), (1, .i64)], [], []⟩, [.v .i64], []⟩
noncomputable def F_q19z : FnT := ⟨2, ⟨[], [(0, .i64), (1, .i64)], [], []⟩, [.v .i64], []⟩
noncomputable def F_q27z : FnT := ⟨1, ⟨[], [(0, .i64)], [], []⟩, [.v .bool], []⟩
noncomputable def C_q27z : Code := bodyOf Tryz.f73
noncomputable def M_q27z : List (Nat × ArgM) := []
instance : DfOk M_q27z := .none rfl
noncomputable def O_q27z {ρ : Type} : Orc ρ := orcNil
omit [QuietD Tryz.prog] [UDef] [UTabs] in
theorem O_q27z_ok {ρ : Type} : (O_q27z : Orc ρ).ok Tryz.prog := orcNil_ok
noncomputable def L_q27z {ρ : Type} : LOrc ρ := lorcNil
omit [Tabs] [QuietD Tryz.prog] [UDef] [UTabs] in
theorem e_q27z (x) : evF Tryz.prog 6 TT M_q27z F_q27z (O_q27z) (L_q27z) dorcNil ⟨[], [], []⟩ [.tmp 2] C_q27z x = q27z x := by kernel_rfl
omit [UDef] [UTabs] in
theorem ok_q27z : Contract Tryz.prog 73 F_q27z (q27z) :=
  Contract.of_ev (c := C_q27z) (N := 6) Tryz.func73 (by kernel_rfl) (by kernel_rfl) (by kernel_rfl) (by kernel_rfl) (O_q27z_ok) dorcNil_ok (.of (l := []) (by kernel_rfl) trivial) (e_q27z)

noncomputable def C_q19z : Code := bodyOf Tryz.f44
noncomputable def M_q19z : List (Nat × ArgM) := [(73, ⟨[], [], [], true⟩)]
instance : DfOk M_q19z := .none rfl
noncomputable def O_q19z {ρ : Type} : Orc ρ := orcCons 73 F_q27z (q27z) (orcNil)
omit [UDef] [UTabs] in
theorem O_q19z_ok {ρ : Type} : (O_q19z : Orc ρ).ok Tryz.prog := orcCons_ok (by kernel_rfl) (ok_q27z) (orcNil_ok)
noncomputable def L_q19z {ρ : Type} : LOrc ρ := lorcNil
omit [Tabs] [QuietD Tryz.prog] [UDef] [UTabs] in
theorem e_q19z (x) : evF Tryz.prog 20 TT M_q19z F_q19z (O_q19z) (L_q19z) dorcNil ⟨[], [], []⟩ [.tmp 4] C_q19z x = q19z x := by kernel_rfl
omit [UDef] [UTabs] in
theorem ok_q19z : Contract Tryz.prog 44 F_q19z (q19z) :=
  Contract.of_ev (c := C_q19z) (N := 20) Tryz.func44 (by kernel_rfl) (by kernel_rfl) (by kernel_rfl) (by kernel_rfl) (O_q19z_ok) dorcNil_ok (.of (l := []) (by kernel_rfl) trivial) (e_q19z)

noncomputable def C_q30z : Code := bodyOf Tryz.f43
noncomputable def M_q30z : List (Nat × ArgM) := [(44, ⟨[], [], [], true⟩)]
instance : DfOk M_q30z := .none rfl
noncomputable def O_q30z {ρ : Type} : Orc ρ := orcCons 44 F_q19z (q19z) (orcNil)
omit [UDef] [UTabs] in
theorem O_q30z_ok {ρ : Type} : (O_q30z : Orc ρ).ok Tryz.prog := orcCons_ok (by kernel_rfl) (ok_q19z) (orcNil_ok)
noncomputable def L_q30z {ρ : Type} : LOrc ρ := lorcNil
omit [Tabs] [QuietD Tryz.prog] [UDef] [UTabs] in
theorem e_q30z (x) : evF Tryz.prog 9 TT M_q30z F_q30z (O_q30z) (L_q30z) dorcNil ⟨[], [], []⟩ [.tmp 4] C_q30z x = q30z x := by kernel_rfl
omit [UDef] [UTabs] in
theorem ok_q30z : Contract Tryz.prog 43 F_q30z (q30z) :=
  Contract.of_ev (c := C_q30z) (N := 9) Tryz.func43 (by kernel_rfl) (by kernel_rfl) (by kernel_rfl) (by kernel_rfl) (O_q30z_ok) dorcNil_ok (.of (l := []) (by kernel_rfl) trivial) (e_q30z)

noncomputable def C_q2z : Code := bodyOf Tryz.f42
noncomputable def M_q2z : List (Nat × ArgM) := [(43, ⟨[], [], [], true⟩)]
instance : DfOk M_q2z := .none rfl
noncomputable def O_q2z {ρ : Type} (n : Nat) : Orc ρ := orcCons 43 F_q30z (q30z) (orcNil)
omit [UDef] [UTabs] in
theorem O_q2z_ok {ρ : Type} (n : Nat) : (O_q2z n : Orc ρ).ok Tryz.prog := orcCons_ok (by kernel_rfl) (ok_q30z) (orcNil_ok)
noncomputable def T_q2z_s0 : Tm := ⟨[(2, .fn 43)], [(0, (.lst .node)), (1, .i64), (8, .i64), (9, .i64), (10, .i64)], [], []⟩
noncomputable def X_q2z_s0 : Tm := ⟨[(2, .fn 43)], [(0, (.lst .node)), (1, .i64), (8, .i64), (9, .i64)], [], []⟩
noncomputable def R_q2z_s0 : Tm := ⟨[], [], [], []⟩
noncomputable def L_q2z_s0 {ρ : Type} (n : Nat) : LOrc ρ := lorcNil
omit [Tabs] [QuietD Tryz.prog] [UDef] [UTabs] in
theorem s_q2z_s0 {ρ : Type} (n : Nat) (rec : T_q2z_s0.den → Option ρ) kx kr s : dStep Tryz.prog 49 TT M_q2z (O_q2z n) (L_q2z_s0 n) dorcNil 0 (lbody 1000 C_q2z 0) T_q2z_s0 X_q2z_s0 R_q2z_s0 ⟨[], [], []⟩ rec kx kr s = q2z_s0 n rec kx kr s := by kernel_rfl
noncomputable def L_q2z {ρ : Type} (n : Nat) : LOrc ρ := lorcCons 0 (loopL 49 0 n T_q2z_s0 X_q2z_s0 R_q2z_s0 ⟨[], [], []⟩ (q2z_s0 n)) (lorcNil)
omit [Tabs] [QuietD Tryz.prog] [UDef] [UTabs] in
theorem e_q2z (n : Nat) (x) : evF Tryz.prog 49 TT M_q2z F_q2z (O_q2z n) (L_q2z n) dorcNil ⟨[], [], []⟩ [.tmp 6, .tmp 7] C_q2z x = q2z n x := by kernel_rfl
omit [UDef] [UTabs] in
theorem ok_q2z (n : Nat) : Contract Tryz.prog 42 F_q2z (q2z n) :=
  Contract.of_ev (c := C_q2z) (N := 49) Tryz.func42 (by kernel_rfl) (by kernel_rfl) (by kernel_rfl) (by kernel_rfl) (O_q2z_ok n) dorcNil_ok (.of (l := [(0, (lbody 1000 C_q2z 0))]) (by kernel_rfl) ⟨.head (loopL_sound (O_q2z_ok n) dorcNil_ok (.of (l := []) (by kernel_rfl) trivial) (s_q2z_s0 n)), trivial⟩) (e_q2z n)

noncomputable def C_q43z : Code := bodyOf Tryz.f27
noncomputable def M_q43z : List (Nat × ArgM) := [(42, ⟨[], [], [], true⟩)]
instance : DfOk M_q43z := .none rfl
noncomputable def O_q43z {ρ : Type} (n : Nat) : Orc ρ := orcCons 42 F_q2z (q2z n) (orcNil)
omit [UDef] [UTabs] in
theorem O_q43z_ok {ρ : Type} (n : Nat) : (O_q43z n : Orc ρ).ok Tryz.prog := orcCons_ok (by kernel_rfl) (ok_q2z n) (orcNil_ok)
noncomputable def L_q43z {ρ : Type} (n : Nat) : LOrc ρ := lorcNil
omit [Tabs] [QuietD Tryz.prog] [UDef] [UTabs] in
theorem e_q43z (n : Nat) (x) : evF Tryz.prog 17 TT M_q43z F_q43z (O_q43z n) (L_q43z n) dorcNil ⟨[], [], []⟩ [.tmp 4] C_q43z x = q43z n x := by kernel_rfl
omit [UDef] [UTabs] in
theorem ok_q43z (n : Nat) : Contract Tryz.prog 27 F_q43z (q43z n) :=
  Contract.of_ev (c := C_q43z) (N := 17) Tryz.func27 (by kernel_rfl) (by kernel_rfl) (by kernel_rfl) (by kernel_rfl) (O_q43z_ok n) dorcNil_ok (.of (l := []) (by kernel_rfl) trivial) (e_q43z n)

noncomputable def C_q33z : Code := bodyOf Tryz.f26
noncomputable def M_q33z : List (Nat × ArgM) := [(40, ⟨[], [], [], true⟩), (41, ⟨[], [], [], true⟩), (39, ⟨[], [], [], true⟩), (27, ⟨[], [], [], true⟩), (19, ⟨[], [], [], true⟩)]
instance : DfOk M_q33z := .none rfl
noncomputable def O_q33z {ρ : Type} (n : Nat) : Orc ρ := orcCons 40 F_q31z (q31z n) (orcCons 41 F_q34z (q34z n) (orcCons 39 F_q16z (q16z n) (orcCons 27 F_q43z (q43z n) (orcCons 19 F_q44z (q44z n) (orcNil)))))
omit [UDef] in
theorem O_q33z_ok {ρ : Type} (n : Nat) : (O_q33z n : Orc ρ).ok Tryz.prog := orcCons_ok (by kernel_rfl) (ok_q31z n) (orcCons_ok (by kernel_rfl) (ok_q34z n) (orcCons_ok (by kernel_rfl) (ok_q16z n) (orcCons_ok (by kernel_rfl) (ok_q43z n) (orcCons_ok (by kernel_rfl) (ok_q44z n) (orcNil_ok)))))
noncomputable def T_q33z_s0 : Tm := ⟨[(1, .ptr 1 0)], [(3, .i64), (22, (.lst .node)), (23, .i64), (24, .i64)], [(1, .box [.d .graph])], []⟩
noncomputable def X_q33z_s0 : Tm := ⟨[(1, .ptr 1 0)], [(3, .i64)], [(1, .box [.d .graph])], []⟩
noncomputable def R_q33z_s0 : Tm := ⟨[], [(2, .i64)], [], []⟩
noncomputable def L_q33z_s0 {ρ : Type} (n : Nat) : LOrc ρ := lorcNil
omit [Tabs] [QuietD Tryz.prog] [UDef] [UTabs] in
theorem s_q33z_s0 {ρ : Type} (n : Nat) (rec : T_q33z_s0.den → Option ρ) kx kr s : dStep Tryz.prog 103 TT M_q33z (O_q33z n) (L_q33z_s0 n) (evDraw Tryz.prog 103 TT M_q33z (O_q33z n)) 0 (lbody 1000 C_q33z 0) T_q33z_s0 X_q33z_s0 R_q33z_s0 ⟨[], [], []⟩ rec kx kr s = q33z_s0 n rec kx kr s := by kernel_rfl
noncomputable def T_q33z_s2 : Tm := ⟨[(1, .ptr 1 0)], [(3, .i64), (7, .i64), (48, (.lst .edg)), (49, .i64), (50, .i64)], [(1, .box [.d .graph])], []⟩
noncomputable def X_q33z_s2 : Tm := ⟨[(1, .ptr 1 0)], [(3, .i64), (7, .i64)], [(1, .box [.d .graph])], []⟩
noncomputable def R_q33z_s2 : Tm := ⟨[], [(2, .i64)], [], []⟩
noncomputable def L_q33z_s2 {ρ : Type} (n : Nat) : LOrc ρ := lorcNil
omit [Tabs] [QuietD Tryz.prog] [UDef] [UTabs] in
theorem s_q33z_s2 {ρ : Type} (n : Nat) (rec : T_q33z_s2.den → Option ρ) kx kr s : dStep Tryz.prog 103 TT M_q33z (O_q33z n) (L_q33z_s2 n) (evDraw Tryz.prog 103 TT M_q33z (O_q33z n)) 2 (lbody 1000 C_q33z 1) T_q33z_s2 X_q33z_s2 R_q33z_s2 ⟨[], [], []⟩ rec kx kr s = q33z_s2 n rec kx kr s := by kernel_rfl
noncomputable def L_q33z {ρ : Type} (n : Nat) : LOrc ρ := lorcCons 0 (loopL 103 0 n T_q33z_s0 X_q33z_s0 R_q33z_s0 ⟨[], [], []⟩ (q33z_s0 n)) (lorcCons 2 (loopL 103 2 n T_q33z_s2 X_q33z_s2 R_q33z_s2 ⟨[], [], []⟩ (q33z_s2 n)) (lorcNil))
omit [Tabs] [QuietD Tryz.prog] [UDef] [UTabs] in
theorem e_q33z (n : Nat) (x) : evF Tryz.prog 103 TT M_q33z F_q33z (O_q33z n) (L_q33z n) (evDraw Tryz.prog 103 TT M_q33z (O_q33z n)) ⟨[], [], []⟩ [.tmp 2] C_q33z x = q33z n x := by kernel_rfl
omit [UDef] in
theorem ok_q33z (n : Nat) : Contract Tryz.prog 26 F_q33z (q33z n) :=
  Contract.of_ev (c := C_q33z) (N := 103) Tryz.func26 (by kernel_rfl) (by kernel_rfl) (by kernel_rfl) (by kernel_rfl) (O_q33z_ok n) (evDraw_ok (O_q33z_ok n) (by kernel_rfl)) (.of (l := [(0, (lbody 1000 C_q33z 0)), (2, (lbody 1000 C_q33z 1))]) (by kernel_rfl) ⟨.head (loopL_sound (O_q33z_ok n) (evDraw_ok (O_q33z_ok n) (by kernel_rfl)) (.of (l := []) (by kernel_rfl) trivial) (s_q33z_s0 n)), ⟨.tail rfl (.head (loopL_sound (O_q33z_ok n) (evDraw_ok (O_q33z_ok n) (by kernel_rfl)) (.of (l := []) (by kernel_rfl) trivial) (s_q33z_s2 n))), trivial⟩⟩) (e_q33z n)

noncomputable def F_q22z : FnT := ⟨2, ⟨[], [(0, .graph), (1, .i64)], [], []⟩, [.v .i64], []⟩
noncomputable def F_q1z : FnT := ⟨3, ⟨[(2, .fn 46)], [(0, (.lst .edg)), (1, .i64)], [], []⟩, [.v .i64, .v .bool], []⟩
noncomputable def F_q18z : FnT := ⟨2, ⟨[], [(0, .edg), (1, .i64)], [], []⟩, [.v .i64], []⟩
noncomputable def C_q18z : Code := bodyOf Tryz.f46
noncomputable def M_q18z : List (Nat × ArgM) := [(44, ⟨[], [], [], true⟩)]
instance : DfOk M_q18z := .none rfl
noncomputable def O_q18z {ρ : Type} : Orc ρ := orcCons 44 F_q19z (q19z) (orcNil)
omit [UDef] [UTabs] in
theorem O_q18z_ok {ρ : Type} : (O_q18z : Orc ρ).ok Tryz.prog := orcCons_ok (by kernel_rfl) (ok_q19z) (orcNil_ok)
noncomputable def L_q18z {ρ : Type} : LOrc ρ := lorcNil
omit [Tabs] [QuietD Tryz.prog] [UDef] [UTabs] in
theorem e_q18z (x) : evF Tryz.prog 9 TT M_q18z F_q18z (O_q18z) (L_q18z) dorcNil ⟨[], [], []⟩ [.tmp 4] C_q18z x = q18z x := by kernel_rfl
omit [UDef] [UTabs] in
theorem ok_q18z : Contract Tryz.prog 46 F_q18z (q18z) :=
  Contract.of_ev (c := C_q18z) (N := 9) Tryz.func46 (by kernel_rfl) (by kernel_rfl) (by kernel_rfl) (by kernel_rfl) (O_q18z_ok) dorcNil_ok (.of (l := []) (by kernel_rfl) trivial) (e_q18z)

noncomputable def C_q1z : Code := bodyOf Tryz.f45
noncomputable def M_q1z : List (Nat × ArgM) := [(46, ⟨[], [], [], true⟩)]
instance : DfOk M_q1z := .none rfl
noncomputable def O_q1z {ρ : Type} (n : Nat) : Orc ρ := orcCons 46 F_q18z (q18z) (orcNil)
omit [UDef] [UTabs] in
theorem O_q1z_ok {ρ : Type} (n : Nat) : (O_q1z n : Orc ρ).ok Tryz.prog := orcCons_ok (by kernel_rfl) (ok_q18z) (orcNil_ok)
noncomputable def T_q1z_s0 : Tm := ⟨[(2, .fn 46)], [(0, (.lst .edg)), (1, .i64), (8, .i64), (9, .i64), (10, .i64)], [], []⟩
noncomputable def X_q1z_s0 : Tm := ⟨[(2, .fn 46)], [(0, (.lst .edg)), (1, .i64), (8, .i64), (9, .i64)], [], []⟩
noncomputable def R_q1z_s0 : Tm := ⟨[], [], [], []⟩
noncomputable def L_q1z_s0 {ρ : Type} (n : Nat) : LOrc ρ := lorcNil
omit [Tabs] [QuietD Tryz.prog] [UDef] [UTabs] in
theorem s_q1z_s0 {ρ : Type} (n : Nat) (rec : T_q1z_s0.den → Option ρ) kx kr s : dStep Tryz.prog 49 TT M_q1z (O_q1z n) (L_q1z_s0 n) dorcNil 0 (lbody 1000 C_q1z 0) T_q1z_s0 X_q1z_s0 R_q1z_s0 ⟨[], [], []⟩ rec kx kr s = q1z_s0 n rec kx kr s := by kernel_rfl
noncomputable def L_q1z {ρ : Type} (n : Nat) : LOrc ρ := lorcCons 0 (loopL 49 0 n T_q1z_s0 X_q1z_s0 R_q1z_s0 ⟨[], [], []⟩ (q1z_s0 n)) (lorcNil)
omit [Tabs] [QuietD Tryz.prog] [UDef] [UTabs] in
theorem e_q1z (n : Nat) (x) : evF Tryz.prog 49 TT M_q1z F_q1z (O_q1z n) (L_q1z n) dorcNil ⟨[], [], []⟩ [.tmp 6, .tmp 7] C_q1z x = q1z n x := by kernel_rfl
omit [UDef] [UTabs] in
theorem ok_q1z (n : Nat) : Contract Tryz.prog 45 F_q1z (q1z n) :=
  Contract.of_ev (c := C_q1z) (N := 49) Tryz.func45 (by kernel_rfl) (by kernel_rfl) (by kernel_rfl) (by kernel_rfl) (O_q1z_ok n) dorcNil_ok (.of (l := [(0, (lbody 1000 C_q1z 0))]) (by kernel_rfl) ⟨.head (loopL_sound (O_q1z_ok n) dorcNil_ok (.of (l := []) (by kernel_rfl) trivial) (s_q1z_s0 n)), trivial⟩) (e_q1z n)

noncomputable def C_q22z : Code := bodyOf Tryz.f28
noncomputable def M_q22z : List (Nat × ArgM) := [(45, ⟨[], [], [], true⟩)]
instance : DfOk M_q22z := .none rfl
noncomputable def O_q22z {ρ : Type} (n : Nat) : Orc ρ := orcCons 45 F_q1z (q1z n) (orcNil)
omit [UDef] [UTabs] in
theorem O_q22z_ok {ρ : Type} (n : Nat) : (O_q22z n : Orc ρ).ok Tryz.prog := orcCons_ok (by kernel_rfl) (ok_q1z n) (orcNil_ok)
noncomputable def L_q22z {ρ : Type} (n : Nat) : LOrc ρ := lorcNil
omit [Tabs] [QuietD Tryz.prog] [UDef] [UTabs] in
theorem e_q22z (n : Nat) (x) : evF Tryz.prog 17 TT M_q22z F_q22z (O_q22z n) (L_q22z n) dorcNil ⟨[], [], []⟩ [.tmp 4] C_q22z x = q22z n x := by kernel_rfl
omit [UDef] [UTabs] in
theorem ok_q22z (n : Nat) : Contract Tryz.prog 28 F_q22z (q22z n) :=
  Contract.of_ev (c := C_q22z) (N := 17) Tryz.func28 (by kernel_rfl) (by kernel_rfl) (by kernel_rfl) (by kernel_rfl) (O_q22z_ok n) dorcNil_ok (.of (l := []) (by kernel_rfl) trivial) (e_q22z n)

noncomputable def F_q45z : FnT := ⟨2, ⟨[], [(0, .term), (1, (.map .str .bool))], [], []⟩, [.v .i64], []⟩
noncomputable def F_q47z : FnT := ⟨3, ⟨[], [(0, .term), (1, (.map .str .bool)), (2, .i64)], [], []⟩, [.v .i64], []⟩
noncomputable def F_term_Name : FnT := ⟨1, ⟨[], [(0, .str)], [], []⟩, [.v .bool], []⟩
noncomputable def F_q29z : FnT := ⟨1, ⟨[], [(0, .str)], [], []⟩, [.v .bool], []⟩
noncomputable def F_q3z : FnT := ⟨2, ⟨[], [(0, (.lst .str)), (1, .str)], [], []⟩, [.v .bool], []⟩
noncomputable def F_q5z : FnT := ⟨2, ⟨[], [(0, (.lst .str)), (1, .str)], [], []⟩, [.v .i64], []⟩
noncomputable def C_q5z : Code := bodyOf Tryz.f32
noncomputable def M_q5z : List (Nat × ArgM) := []
instance : DfOk M_q5z := .none rfl
noncomputable def O_q5z {ρ : Type} (n : Nat) : Orc ρ := orcNil
omit [QuietD Tryz.prog] [UDef] [UTabs] in
theorem O_q5z_ok {ρ : Type} (n : Nat) : (O_q5z n : Orc ρ).ok Tryz.prog := orcNil_ok
noncomputable def T_q5z_s0 : Tm := ⟨[], [(0, (.lst .str)), (1, .str), (7, .i64), (8, .i64)], [], []⟩
noncomputable def X_q5z_s0 : Tm := ⟨[], [], [], []⟩
noncomputable def R_q5z_s0 : Tm := ⟨[], [(4, .i64)], [], []⟩
noncomputable def L_q5z_s0 {ρ : Type} (n : Nat) : LOrc ρ := lorcNil
omit [Tabs] [QuietD Tryz.prog] [UDef] [UTabs] in
theorem s_q5z_s0 {ρ : Type} (n : Nat) (rec : T_q5z_s0.den → Option ρ) kx kr s : dStep Tryz.prog 19 TT M_q5z (O_q5z n) (L_q5z_s0 n) dorcNil 0 (lbody 1000 C_q5z 0) T_q5z_s0 X_q5z_s0 R_q5z_s0 ⟨[], [], []⟩ rec kx kr s = q5z_s0 n rec kx kr s := by kernel_rfl
noncomputable def L_q5z {ρ : Type} (n : Nat) : LOrc ρ := lorcCons 0 (loopL 19 0 n T_q5z_s0 X_q5z_s0 R_q5z_s0 ⟨[], [], []⟩ (q5z_s0 n)) (lorcNil)
omit [Tabs] [QuietD Tryz.prog] [UDef] [UTabs] in
theorem e_q5z (n : Nat) (x) : evF Tryz.prog 19 TT M_q5z F_q5z (O_q5z n) (L_q5z n) dorcNil ⟨[], [], []⟩ [.tmp 4] C_q5z x = q5z n x := by kernel_rfl
omit [UDef] [UTabs] in
theorem ok_q5z (n : Nat) : Contract Tryz.prog 32 F_q5z (q5z n) :=
  Contract.of_ev (c := C_q5z) (N := 19) Tryz.func32 (by kernel_rfl) (by kernel_rfl) (by kernel_rfl) (by kernel_rfl) (O_q5z_ok n) dorcNil_ok (.of (l := [(0, (lbody 1000 C_q5z 0))]) (by kernel_rfl) ⟨.head (loopL_sound (O_q5z_ok n) dorcNil_ok (.of (l := []) (by kernel_rfl) trivial) (s_q5z_s0 n)), trivial⟩) (e_q5z n)

noncomputable def C_q3z : Code := bodyOf Tryz.f17
noncomputable def M_q3z : List (Nat × ArgM) := [(32, ⟨[], [], [], true⟩)]
instance : DfOk M_q3z := .none rfl
noncomputable def O_q3z {ρ : Type} (n : Nat) : Orc ρ := orcCons 32 F_q5z (q5z n) (orcNil)
omit [UDef] [UTabs] in
theorem O_q3z_ok {ρ : Type} (n : Nat) : (O_q3z n : Orc ρ).ok Tryz.prog := orcCons_ok (by kernel_rfl) (ok_q5z n) (orcNil_ok)
noncomputable def L_q3z {ρ : Type} (n : Nat) : LOrc ρ := lorcNil
omit [Tabs] [QuietD Tryz.prog] [UDef] [UTabs] in
theorem e_q3z (n : Nat) (x) : evF Tryz.prog 9 TT M_q3z F_q3z (O_q3z n) (L_q3z n) dorcNil ⟨[], [], []⟩ [.tmp 4] C_q3z x = q3z n x := by kernel_rfl
omit [UDef] [UTabs] in
theorem ok_q3z (n : Nat) : Contract Tryz.prog 17 F_q3z (q3z n) :=
  Contract.of_ev (c := C_q3z) (N := 9) Tryz.func17 (by kernel_rfl) (by kernel_rfl) (by kernel_rfl) (by kernel_rfl) (O_q3z_ok n) dorcNil_ok (.of (l := []) (by kernel_rfl) trivial) (e_q3z n)

noncomputable def C_q29z : Code := bodyOf Tryz.f5
noncomputable def M_q29z : List (Nat × ArgM) := [(17, ⟨[], [], [], true⟩)]
instance : DfOk M_q29z := .none rfl
noncomputable def O_q29z {ρ : Type} (n : Nat) : Orc ρ := orcCons 17 F_q3z (q3z n) (orcNil)
omit [UDef] [UTabs] in
theorem O_q29z_ok {ρ : Type} (n : Nat) : (O_q29z n : Orc ρ).ok Tryz.prog := orcCons_ok (by kernel_rfl) (ok_q3z n) (orcNil_ok)
noncomputable def L_q29z {ρ : Type} (n : Nat) : LOrc ρ := lorcNil
omit [Tabs] [QuietD Tryz.prog] [UDef] [UTabs] in
theorem e_q29z (n : Nat) (x) : evF Tryz.prog 6 TT M_q29z F_q29z (O_q29z n) (L_q29z n) dorcNil ⟨[], [], []⟩ [.tmp 2] C_q29z x = q29z n x := by kernel_rfl
omit [UDef] [UTabs] in
theorem ok_q29z (n : Nat) : Contract Tryz.prog 5 F_q29z (q29z n) :=
  Contract.of_ev (c := C_q29z) (N := 6) Tryz.func5 (by kernel_rfl) (by kernel_rfl) (by kernel_rfl) (by kernel_rfl) (O_q29z_ok n) dorcNil_ok (.of (l := []) (by kernel_rfl) trivial) (e_q29z n)

noncomputable def C_term_Name : Code := bodyOf Tryz.f7
noncomputable def M_term_Name : List (Nat × ArgM) := [(19, ⟨[], [], [], true⟩), (5, ⟨[], [], [], true⟩)]
instance : DfOk M_term_Name := .none rfl
noncomputable def O_term_Name {ρ : Type} (n : Nat) : Orc ρ := orcCons 19 F_q44z (q44z n) (orcCons 5 F_q29z (q29z n) (orcNil))
omit [UDef] [UTabs] in
theorem O_term_Name_ok {ρ : Type} (n : Nat) : (O_term_Name n : Orc ρ).ok Tryz.prog := orcCons_ok (by kernel_rfl) (ok_q44z n) (orcCons_ok (by kernel_rfl) (ok_q29z n) (orcNil_ok))
noncomputable def L_term_Name {ρ : Type} (n : Nat) : LOrc ρ := lorcNil
omit [Tabs] [QuietD Tryz.prog] [UDef] [UTabs] in
theorem e_term_Name (n : Nat) (x) : evF Tryz.prog 10 TT M_term_Name F_term_Name (O_term_Name n) (L_term_Name n) dorcNil ⟨[], [], []⟩ [.tmp 2] C_term_Name x = term_Name n x := by kernel_rfl
omit [UDef] [UTabs] in
theorem ok_term_Name (n : Nat) : Contract Tryz.prog 7 F_term_Name (term_Name n) :=
  Contract.of_ev (c := C_term_Name) (N := 10) Tryz.func7 (by kernel_rfl) (by kernel_rfl) (by kernel_rfl) (by kernel_rfl) (O_term_Name_ok n) dorcNil_ok (.of (l := []) (by kernel_rfl) trivial) (e_term_Name n)

noncomputable def F_q46z : FnT := ⟨1, ⟨[], [(0, .str)], [], []⟩, [.v .i64, .v .bool], []⟩
noncomputable def C_q46z : Code := bodyOf Tryz.f74
noncomputable def M_q46z : List (Nat × ArgM) := []
instance : DfOk M_q46z := .none rfl
noncomputable def O_q46z {ρ : Type} : Orc ρ := orcNil
omit [QuietD Tryz.prog] [UDef] [UTabs] in
theorem O_q46z_ok {ρ : Type} : (O_q46z : Orc ρ).ok Tryz.prog := orcNil_ok
noncomputable def L_q46z {ρ : Type} : LOrc ρ := lorcNil
omit [Tabs] [QuietD Tryz.prog] [UDef] [UTabs] in
theorem e_q46z (x) : evF Tryz.prog 25 TT M_q46z F_q46z (O_q46z) (L_q46z) dorcNil ⟨[], [], []⟩ [.tmp 2, .tmp 3] C_q46z x = q46z x := by kernel_rfl
omit [UDef] [UTabs] in
theorem ok_q46z : Contract Tryz.prog 74 F_q46z (q46z) :=
  Contract.of_ev (c := C_q46z) (N := 25) Tryz.func74 (by kernel_rfl) (by kernel_rfl) (by kernel_rfl) (by kernel_rfl) (O_q46z_ok) dorcNil_ok (.of (l := []) (by kernel_rfl) trivial) (e_q46z)

noncomputable def C_q47z : Code := bodyOf Tryz.f47
noncomputable def M_q47z : List (Nat × ArgM) := [(72, ⟨[], [], [], true⟩), (7, ⟨[], [], [], true⟩), (19, ⟨[], [], [], true⟩), (47, ⟨[], [], [], true⟩), (74, ⟨[], [], [], true⟩)]
instance : DfOk M_q47z := .none rfl
noncomputable def O_q47z {ρ : Type} (self_q47z : Ev.Term × (List (ByteArray × Bool)) × Int × Unit → Option (Int × Unit)) (n : Nat) : Orc ρ := orcCons 72 F_q37z (q37z n) (orcCons 7 F_term_Name (term_Name n) (orcCons 19 F_q44z (q44z n) (orcCons 47 F_q47z (self_q47z) (orcCons 74 F_q46z (q46z) (orcNil)))))
omit [UDef] in
theorem O_q47z_ok {ρ : Type} (self_q47z : Ev.Term × (List (ByteArray × Bool)) × Int × Unit → Option (Int × Unit)) (h_q47z : Contract Tryz.prog 47 F_q47z self_q47z) (n : Nat) : (O_q47z self_q47z n : Orc ρ).ok Tryz.prog := orcCons_ok (by kernel_rfl) (ok_q37z n) (orcCons_ok (by kernel_rfl) (ok_term_Name n) (orcCons_ok (by kernel_rfl) (ok_q44z n) (orcCons_ok (by kernel_rfl) (h_q47z) (orcCons_ok (by kernel_rfl) (ok_q46z) (orcNil_ok)))))
noncomputable def T_q47z_s1 : Tm := ⟨[(3, .ptr 3 0)], [(1, (.map .str .bool)), (2, .i64), (147, (.lst .term)), (148, .i64), (149, .i64)], [(3, .box [.d .term])], []⟩
noncomputable def X_q47z_s1 : Tm := ⟨[(3, .ptr 3 0)], [(1, (.map .str .bool))], [(3, .box [.d .term])], []⟩
noncomputable def R_q47z_s1 : Tm := ⟨[], [(6, .i64)], [], []⟩
noncomputable def L_q47z_s1 {ρ : Type} (self_q47z : Ev.Term × (List (ByteArray × Bool)) × Int × Unit → Option (Int × Unit)) (n : Nat) : LOrc ρ := lorcNil
omit [Tabs] [QuietD Tryz.prog] [UDef] [UTabs] in
theorem s_q47z_s1 {ρ : Type} (self_q47z : Ev.Term × (List (ByteArray × Bool)) × Int × Unit → Option (Int × Unit)) (n : Nat) (rec : T_q47z_s1.den → Option ρ) kx kr s : dStep Tryz.prog 196 TT M_q47z (O_q47z self_q47z n) (L_q47z_s1 self_q47z n) dorcNil 1 (lbody 1000 C_q47z 0) T_q47z_s1 X_q47z_s1 R_q47z_s1 ⟨[], [], []⟩ rec kx kr s = q47z_s1 self_q47z n rec kx kr s := by kernel_rfl
noncomputable def L_q47z {ρ : Type} (self_q47z : Ev.Term × (List (ByteArray × Bool)) × Int × Unit → Option (Int × Unit)) (n : Nat) : LOrc ρ := lorcCons 1 (loopL 196 1 n T_q47z_s1 X_q47z_s1 R_q47z_s1 ⟨[], [], []⟩ (q47z_s1 self_q47z n)) (lorcNil)
omit [Tabs] [QuietD Tryz.prog] [UDef] [UTabs] in
theorem e_q47z (self_q47z : Ev.Term × (List (ByteArray × Bool)) × Int × Unit → Option (Int × Unit)) (n : Nat) (x) : evF Tryz.prog 196 TT M_q47z F_q47z (O_q47z self_q47z n) (L_q47z self_q47z n) dorcNil ⟨[], [], []⟩ [.tmp 6] C_q47z x = q47z_b self_q47z n x := by kernel_rfl
omit [UDef] in
theorem okb_q47z (self_q47z : Ev.Term × (List (ByteArray × Bool)) × Int × Unit → Option (Int × Unit)) (h_q47z : Contract Tryz.prog 47 F_q47z self_q47z) (n : Nat) : Contract Tryz.prog 47 F_q47z (q47z_b self_q47z n) :=
  Contract.of_ev (c := C_q47z) (N := 196) Tryz.func47 (by kernel_rfl) (by kernel_rfl) (by kernel_rfl) (by kernel_rfl) (O_q47z_ok self_q47z h_q47z n) dorcNil_ok (.of (l := [(1, (lbody 1000 C_q47z 0))]) (by kernel_rfl) ⟨.head (loopL_sound (O_q47z_ok self_q47z h_q47z n) dorcNil_ok (.of (l := []) (by kernel_rfl) trivial) (s_q47z_s1 self_q47z n)), trivial⟩) (e_q47z self_q47z n)
omit [UDef] in
theorem ok_q47z : ∀ n, Contract Tryz.prog 47 F_q47z (q47z n)
  | 0 => fun _ _ h => by cases h
  | n + 1 => okb_q47z _ (ok_q47z n) n

noncomputable def C_q45z : Code := bodyOf Tryz.f29
noncomputable def M_q45z : List (Nat × ArgM) := [(47, ⟨[], [], [], true⟩)]
instance : DfOk M_q45z := .none rfl
noncomputable def O_q45z {ρ : Type} (n : Nat) : Orc ρ := orcCons 47 F_q47z (q47z n) (orcNil)
omit [UDef] in
theorem O_q45z_ok {ρ : Type} (n : Nat) : (O_q45z n : Orc ρ).ok Tryz.prog := orcCons_ok (by kernel_rfl) (ok_q47z n) (orcNil_ok)
noncomputable def L_q45z {ρ : Type} (n : Nat) : LOrc ρ := lorcNil
omit [Tabs] [QuietD Tryz.prog] [UDef] [UTabs] in
theorem e_q45z (n : Nat) (x) : evF Tryz.prog 8 TT M_q45z F_q45z (O_q45z n) (L_q45z n) dorcNil ⟨[], [], []⟩ [.tmp 4] C_q45z x = q45z n x := by kernel_rfl
omit [UDef] in
theorem ok_q45z (n : Nat) : Contract Tryz.prog 29 F_q45z (q45z n) :=
  Contract.of_ev (c := C_q45z) (N := 8) Tryz.func29 (by kernel_rfl) (by kernel_rfl) (by kernel_rfl) (by kernel_rfl) (O_q45z_ok n) dorcNil_ok (.of (l := []) (by kernel_rfl) trivial) (e_q45z n)

noncomputable def F_q23z : FnT := ⟨2, ⟨[], [(0, .envr), (1, .term)], [], []⟩, [.v .val], []⟩
noncomputable def F_q50z : FnT := ⟨1, ⟨[], [(0, .val)], [], []⟩, [.v .val], []⟩
noncomputable def C_q50z : Code := bodyOf Tryz.f48
noncomputable def M_q50z : List (Nat × ArgM) := []
instance : DfOk M_q50z := .none rfl
noncomputable def O_q50z {ρ : Type} (self_q50z : Ev.Val × Unit → Option (Ev.Val × Unit)) (n : Nat) : Orc ρ := orcCons 48 F_q50z (self_q50z) (orcNil)
omit [QuietD Tryz.prog] [UDef] [UTabs] in
theorem O_q50z_ok {ρ : Type} (self_q50z : Ev.Val × Unit → Option (Ev.Val × Unit)) (h_q50z : Contract Tryz.prog 48 F_q50z self_q50z) (n : Nat) : (O_q50z self_q50z n : Orc ρ).ok Tryz.prog := orcCons_ok (by kernel_rfl) (h_q50z) (orcNil_ok)
noncomputable def T_q50z_s0 : Tm := ⟨[(1, .ptr 1 0), (2, .ptr 2 0)], [(9, (.lst .val)), (10, .i64), (11, .i64)], [(1, .box [.d .i64, .d .i64, .d .str, .ref (.own 300043)]), (2, .box [.d .val]), (300043, .arr 24 .val)], []⟩
noncomputable def X_q50z_s0 : Tm := ⟨[(1, .ptr 1 0), (2, .ptr 2 0)], [], [(1, .box [.d .i64, .d .i64, .d .str, .ref (.own 300043)]), (2, .box [.d .val]), (300043, .arr 24 .val)], []⟩
noncomputable def R_q50z_s0 : Tm := ⟨[], [], [], []⟩
noncomputable def L_q50z_s0 {ρ : Type} (self_q50z : Ev.Val × Unit → Option (Ev.Val × Unit)) (n : Nat) : LOrc ρ := lorcNil
omit [Tabs] [QuietD Tryz.prog] [UDef] [UTabs] in
theorem s_q50z_s0 {ρ : Type} (self_q50z : Ev.Val × Unit → Option (Ev.Val × Unit)) (n : Nat) (rec : T_q50z_s0.den → Option ρ) kx kr s : dStep Tryz.prog 24 TT M_q50z (O_q50z self_q50z n) (L_q50z_s0 self_q50z n) (evDraw Tryz.prog 24 TT M_q50z (O_q50z self_q50z n)) 0 (lbody 1000 C_q50z 0) T_q50z_s0 X_q50z_s0 R_q50z_s0 ⟨[], [], [(1, 3, 300043, 24, 4)]⟩ rec kx kr s = q50z_s0 self_q50z n rec kx kr s := by kernel_rfl
noncomputable def L_q50z {ρ : Type} (self_q50z : Ev.Val × Unit → Option (Ev.Val × Unit)) (n : Nat) : LOrc ρ := lorcCons 0 (loopL 24 0 n T_q50z_s0 X_q50z_s0 R_q50z_s0 ⟨[], [], [(1, 3, 300043, 24, 4)]⟩ (q50z_s0 self_q50z n)) (lorcNil)
omit [Tabs] [QuietD Tryz.prog] [UDef] [UTabs] in
theorem e_q50z (self_q50z : Ev.Val × Unit → Option (Ev.Val × Unit)) (n : Nat) (x) : evF Tryz.prog 24 TT M_q50z F_q50z (O_q50z self_q50z n) (L_q50z self_q50z n) (evDraw Tryz.prog 24 TT M_q50z (O_q50z self_q50z n)) ⟨[], [], []⟩ [.cell 2 24] C_q50z x = q50z_b self_q50z n x := by kernel_rfl
omit [UDef] [UTabs] in
theorem okb_q50z (self_q50z : Ev.Val × Unit → Option (Ev.Val × Unit)) (h_q50z : Contract Tryz.prog 48 F_q50z self_q50z) (n : Nat) : Contract Tryz.prog 48 F_q50z (q50z_b self_q50z n) :=
  Contract.of_ev (c := C_q50z) (N := 24) Tryz.func48 (by kernel_rfl) (by kernel_rfl) (by kernel_rfl) (by kernel_rfl) (O_q50z_ok self_q50z h_q50z n) (evDraw_ok (O_q50z_ok self_q50z h_q50z n) (by kernel_rfl)) (.of (l := [(0, (lbody 1000 C_q50z 0))]) (by kernel_rfl) ⟨.head (loopL_sound (O_q50z_ok self_q50z h_q50z n) (evDraw_ok (O_q50z_ok self_q50z h_q50z n) (by kernel_rfl)) (.of (l := []) (by kernel_rfl) trivial) (s_q50z_s0 self_q50z n)), trivial⟩) (e_q50z self_q50z n)
omit [UDef] [UTabs] in
theorem ok_q50z : ∀ n, Contract Tryz.prog 48 F_q50z (q50z n)
  | 0 => fun _ _ h => by cases h
  | n + 1 => okb_q50z _ (ok_q50z n) n

noncomputable def F_q24z : FnT := ⟨3, ⟨[], [(0, .envr), (1, .i64), (2, .str)], [], []⟩, [.v .val], []⟩
noncomputable def F_graph_Get : FnT := ⟨2, ⟨[], [(0, (.lst .prp)), (1, .str)], [], []⟩, [.v .val], []⟩
noncomputable def C_graph_Get : Code := bodyOf Tryz.f75
noncomputable def M_graph_Get : List (Nat × ArgM) := []
instance : DfOk M_graph_Get := .none rfl
noncomputable def O_graph_Get {ρ : Type} (n : Nat) : Orc ρ := orcCons 48 F_q50z (q50z n) (orcNil)
omit [UDef] [UTabs] in
theorem O_graph_Get_ok {ρ : Type} (n : Nat) : (O_graph_Get n : Orc ρ).ok Tryz.prog := orcCons_ok (by kernel_rfl) (ok_q50z n) (orcNil_ok)
noncomputable def T_graph_Get_s0 : Tm := ⟨[(4, .ptr 4 0)], [(1, .str), (7, (.lst .prp)), (8, .i64), (9, .i64)], [(4, .box [.d .val])], []⟩
noncomputable def X_graph_Get_s0 : Tm := ⟨[(4, .ptr 4 0)], [], [(4, .box [.d .val])], []⟩
noncomputable def R_graph_Get_s0 : Tm := ⟨[(4, .ptr 4 0)], [], [(4, .box [.d .val])], []⟩
noncomputable def L_graph_Get_s0 {ρ : Type} (n : Nat) : LOrc ρ := lorcNil
omit [Tabs] [QuietD Tryz.prog] [UDef] [UTabs] in
theorem s_graph_Get_s0 {ρ : Type} (n : Nat) (rec : T_graph_Get_s0.den → Option ρ) kx kr s : dStep Tryz.prog 22 TT M_graph_Get (O_graph_Get n) (L_graph_Get_s0 n) dorcNil 0 (lbody 1000 C_graph_Get 0) T_graph_Get_s0 X_graph_Get_s0 R_graph_Get_s0 ⟨[], [], []⟩ rec kx kr s = graph_Get_s0 n rec kx kr s := by kernel_rfl
noncomputable def L_graph_Get {ρ : Type} (n : Nat) : LOrc ρ := lorcCons 0 (loopL 22 0 n T_graph_Get_s0 X_graph_Get_s0 R_graph_Get_s0 ⟨[], [], []⟩ (graph_Get_s0 n)) (lorcNil)
omit [Tabs] [QuietD Tryz.prog] [UDef] [UTabs] in
theorem e_graph_Get (n : Nat) (x) : evF Tryz.prog 22 TT M_graph_Get F_graph_Get (O_graph_Get n) (L_graph_Get n) dorcNil ⟨[], [], []⟩ [.cell 4 24] C_graph_Get x = graph_Get n x := by kernel_rfl
omit [UDef] [UTabs] in
theorem ok_graph_Get (n : Nat) : Contract Tryz.prog 75 F_graph_Get (graph_Get n) :=
  Contract.of_ev (c := C_graph_Get) (N := 22) Tryz.func75 (by kernel_rfl) (by kernel_rfl) (by kernel_rfl) (by kernel_rfl) (O_graph_Get_ok n) dorcNil_ok (.of (l := [(0, (lbody 1000 C_graph_Get 0))]) (by kernel_rfl) ⟨.head (loopL_sound (O_graph_Get_ok n) dorcNil_ok (.of (l := []) (by kernel_rfl) trivial) (s_graph_Get_s0 n)), trivial⟩) (e_graph_Get n)

noncomputable def C_q24z : Code := bodyOf Tryz.f49
noncomputable def M_q24z : List (Nat × ArgM) := [(27, ⟨[], [], [], true⟩), (28, ⟨[], [], [], true⟩)]
instance : DfOk M_q24z := .none rfl
noncomputable def O_q24z {ρ : Type} (n : Nat) : Orc ρ := orcCons 27 F_q43z (q43z n) (orcCons 75 F_graph_Get (graph_Get n) (orcCons 28 F_q22z (q22z n) (orcNil)))
omit [UDef] [UTabs] in
theorem O_q24z_ok {ρ : Type} (n : Nat) : (O_q24z n : Orc ρ).ok Tryz.prog := orcCons_ok (by kernel_rfl) (ok_q43z n) (orcCons_ok (by kernel_rfl) (ok_graph_Get n) (orcCons_ok (by kernel_rfl) (ok_q22z n) (orcNil_ok)))
noncomputable def L_q24z {ρ : Type} (n : Nat) : LOrc ρ := lorcNil
omit [Tabs] [QuietD Tryz.prog] [UDef] [UTabs] in
theorem e_q24z (n : Nat) (x) : evF Tryz.prog 40 TT M_q24z F_q24z (O_q24z n) (L_q24z n) dorcNil ⟨[], [], []⟩ [.cell 6 24] C_q24z x = q24z n x := by kernel_rfl
omit [UDef] [UTabs] in
theorem ok_q24z (n : Nat) : Contract Tryz.prog 49 F_q24z (q24z n) :=
  Contract.of_ev (c := C_q24z) (N := 40) Tryz.func49 (by kernel_rfl) (by kernel_rfl) (by kernel_rfl) (by kernel_rfl) (O_q24z_ok n) dorcNil_ok (.of (l := []) (by kernel_rfl) trivial) (e_q24z n)

noncomputable def F_q28z : FnT := ⟨3, ⟨[], [(0, .envr), (1, .term), (2, (.lst .val))], [], []⟩, [.v .val], []⟩
noncomputable def F_q32z : FnT := ⟨3, ⟨[], [(0, .str), (1, .val), (2, .val)], [], []⟩, [.v .val, .v .i64], []⟩
noncomputable def F_value_add : FnT := ⟨2, ⟨[], [(0, .i64), (1, .i64)], [], []⟩, [.v .i64, .v .bool], []⟩
noncomputable def C_value_add : Code := bodyOf Tryz.f98
noncomputable def M_value_add : List (Nat × ArgM) := []
instance : DfOk M_value_add := .none rfl
noncomputable def O_value_add {ρ : Type} : Orc ρ := orcNil
omit [QuietD Tryz.prog] [UDef] [UTabs] in
theorem O_value_add_ok {ρ : Type} : (O_value_add : Orc ρ).ok Tryz.prog := orcNil_ok
noncomputable def L_value_add {ρ : Type} : LOrc ρ := lorcNil
omit [Tabs] [QuietD Tryz.prog] [UDef] [UTabs] in
theorem e_value_add (x) : evF Tryz.prog 17 TT M_value_add F_value_add (O_value_add) (L_value_add) dorcNil ⟨[], [], []⟩ [.tmp 4, .tmp 5] C_value_add x = value_add x := by kernel_rfl
omit [UDef] [UTabs] in
theorem ok_value_add : Contract Tryz.prog 98 F_value_add (value_add) :=
  Contract.of_ev (c := C_value_add) (N := 17) Tryz.func98 (by kernel_rfl) (by kernel_rfl) (by kernel_rfl) (by kernel_rfl) (O_value_add_ok) dorcNil_ok (.of (l := []) (by kernel_rfl) trivial) (e_value_add)

noncomputable def F_q25z : FnT := ⟨1, ⟨[], [(0, .val)], [], []⟩, [.mix [.d .i64, .d .i64, .d .str, .ref (.own 300043)]], [(300043, .arr 24 .val)]⟩
noncomputable def C_q25z : Code := bodyOf Tryz.f48
noncomputable def M_q25z : List (Nat × ArgM) := []
instance : DfOk M_q25z := .none rfl
noncomputable def O_q25z {ρ : Type} (n : Nat) : Orc ρ := orcCons 48 F_q50z (q50z n) (orcNil)
omit [UDef] [UTabs] in
theorem O_q25z_ok {ρ : Type} (n : Nat) : (O_q25z n : Orc ρ).ok Tryz.prog := orcCons_ok (by kernel_rfl) (ok_q50z n) (orcNil_ok)
noncomputable def T_q25z_s0 : Tm := ⟨[(1, .ptr 1 0), (2, .ptr 2 0)], [(9, (.lst .val)), (10, .i64), (11, .i64)], [(1, .box [.d .i64, .d .i64, .d .str, .ref (.own 300043)]), (2, .box [.d .val]), (300043, .arr 24 .val)], []⟩
noncomputable def X_q25z_s0 : Tm := ⟨[(1, .ptr 1 0), (2, .ptr 2 0)], [], [(1, .box [.d .i64, .d .i64, .d .str, .ref (.own 300043)]), (2, .box [.d .val]), (300043, .arr 24 .val)], []⟩
noncomputable def R_q25z_s0 : Tm := ⟨[], [], [], []⟩
noncomputable def L_q25z_s0 {ρ : Type} (n : Nat) : LOrc ρ := lorcNil
omit [Tabs] [QuietD Tryz.prog] [UDef] [UTabs] in
theorem s_q25z_s0 {ρ : Type} (n : Nat) (rec : T_q25z_s0.den → Option ρ) kx kr s : dStep Tryz.prog 24 TT M_q25z (O_q25z n) (L_q25z_s0 n) (evDraw Tryz.prog 24 TT M_q25z (O_q25z n)) 0 (lbody 1000 C_q25z 0) T_q25z_s0 X_q25z_s0 R_q25z_s0 ⟨[], [], [(1, 3, 300043, 24, 4)]⟩ rec kx kr s = q25z_s0 n rec kx kr s := by kernel_rfl
noncomputable def L_q25z {ρ : Type} (n : Nat) : LOrc ρ := lorcCons 0 (loopL 24 0 n T_q25z_s0 X_q25z_s0 R_q25z_s0 ⟨[], [], [(1, 3, 300043, 24, 4)]⟩ (q25z_s0 n)) (lorcNil)
omit [Tabs] [QuietD Tryz.prog] [UDef] [UTabs] in
theorem e_q25z (n : Nat) (x) : evF Tryz.prog 24 TT M_q25z F_q25z (O_q25z n) (L_q25z n) (evDraw Tryz.prog 24 TT M_q25z (O_q25z n)) ⟨[], [], []⟩ [.cell 2 24] C_q25z x = q25z n x := by kernel_rfl
omit [UDef] [UTabs] in
theorem ok_q25z (n : Nat) : Contract Tryz.prog 48 F_q25z (q25z n) :=
  Contract.of_ev (c := C_q25z) (N := 24) Tryz.func48 (by kernel_rfl) (by kernel_rfl) (by kernel_rfl) (by kernel_rfl) (O_q25z_ok n) (evDraw_ok (O_q25z_ok n) (by kernel_rfl)) (.of (l := [(0, (lbody 1000 C_q25z 0))]) (by kernel_rfl) ⟨.head (loopL_sound (O_q25z_ok n) (evDraw_ok (O_q25z_ok n) (by kernel_rfl)) (.of (l := []) (by kernel_rfl) trivial) (s_q25z_s0 n)), trivial⟩) (e_q25z n)

noncomputable def F_value_sub : FnT := ⟨2, ⟨[], [(0, .i64), (1, .i64)], [], []⟩, [.v .i64, .v .bool], []⟩
noncomputable def C_value_sub : Code := bodyOf Tryz.f99
noncomputable def M_value_sub : List (Nat × ArgM) := []
instance : DfOk M_value_sub := .none rfl
noncomputable def O_value_sub {ρ : Type} : Orc ρ := orcNil
omit [QuietD Tryz.prog] [UDef] [UTabs] in
theorem O_value_sub_ok {ρ : Type} : (O_value_sub : Orc ρ).ok Tryz.prog := orcNil_ok
noncomputable def L_value_sub {ρ : Type} : LOrc ρ := lorcNil
omit [Tabs] [QuietD Tryz.prog] [UDef] [UTabs] in
theorem e_value_sub (x) : evF Tryz.prog 17 TT M_value_sub F_value_sub (O_value_sub) (L_value_sub) dorcNil ⟨[], [], []⟩ [.tmp 4, .tmp 5] C_value_sub x = value_sub x := by kernel_rfl
omit [UDef] [UTabs] in
theorem ok_value_sub : Contract Tryz.prog 99 F_value_sub (value_sub) :=
  Contract.of_ev (c := C_value_sub) (N := 17) Tryz.func99 (by kernel_rfl) (by kernel_rfl) (by kernel_rfl) (by kernel_rfl) (O_value_sub_ok) dorcNil_ok (.of (l := []) (by kernel_rfl) trivial) (e_value_sub)

noncomputable def F_value_mul : FnT := ⟨2, ⟨[], [(0, .i64), (1, .i64)], [], []⟩, [.v .i64, .v .bool], []⟩
noncomputable def F_q40z : FnT := ⟨1, ⟨[], [(0, .i64)], [], []⟩, [.v .u64], []⟩
noncomputable def C_q40z : Code := bodyOf Tryz.f111
noncomputable def M_q40z : List (Nat × ArgM) := []
instance : DfOk M_q40z := .none rfl
noncomputable def O_q40z {ρ : Type} : Orc ρ := orcNil
omit [QuietD Tryz.prog] [UDef] [UTabs] in
theorem O_q40z_ok {ρ : Type} : (O_q40z : Orc ρ).ok Tryz.prog := orcNil_ok
noncomputable def L_q40z {ρ : Type} : LOrc ρ := lorcNil
omit [Tabs] [QuietD Tryz.prog] [UDef] [UTabs] in
theorem e_q40z (x) : evF Tryz.prog 10 TT M_q40z F_q40z (O_q40z) (L_q40z) dorcNil ⟨[], [], []⟩ [.tmp 2] C_q40z x = q40z x := by kernel_rfl
omit [UDef] [UTabs] in
theorem ok_q40z : Contract Tryz.prog 111 F_q40z (q40z) :=
  Contract.of_ev (c := C_q40z) (N := 10) Tryz.func111 (by kernel_rfl) (by kernel_rfl) (by kernel_rfl) (by kernel_rfl) (O_q40z_ok) dorcNil_ok (.of (l := []) (by kernel_rfl) trivial) (e_q40z)

noncomputable def F_q21z : FnT := ⟨2, ⟨[], [(0, .u64), (1, .u64)], [], []⟩, [.v .u64, .v .u64], []⟩
noncomputable def C_q21z : Code := bodyOf Tryz.f112
noncomputable def M_q21z : List (Nat × ArgM) := []
instance : DfOk M_q21z := .none rfl
noncomputable def O_q21z {ρ : Type} : Orc ρ := orcNil
omit [QuietD Tryz.prog] [UDef] [UTabs] in
theorem O_q21z_ok {ρ : Type} : (O_q21z : Orc ρ).ok Tryz.prog := orcNil_ok
noncomputable def L_q21z {ρ : Type} : LOrc ρ := lorcNil
omit [Tabs] [QuietD Tryz.prog] [UDef] [UTabs] in
theorem e_q21z (x) : evF Tryz.prog 51 TT M_q21z F_q21z (O_q21z) (L_q21z) dorcNil ⟨[], [], []⟩ [.tmp 4, .tmp 5] C_q21z x = q21z x := by kernel_rfl
omit [UDef] [UTabs] in
theorem ok_q21z : Contract Tryz.prog 112 F_q21z (q21z) :=
  Contract.of_ev (c := C_q21z) (N := 51) Tryz.func112 (by kernel_rfl) (by kernel_rfl) (by kernel_rfl) (by kernel_rfl) (O_q21z_ok) dorcNil_ok (.of (l := []) (by kernel_rfl) trivial) (e_q21z)

noncomputable def C_value_mul : Code := bodyOf Tryz.f100
noncomputable def M_value_mul : List (Nat × ArgM) := [(111, ⟨[], [], [], true⟩), (112, ⟨[], [], [], true⟩)]
instance : DfOk M_value_mul := .none rfl
noncomputable def O_value_mul {ρ : Type} : Orc ρ := orcCons 111 F_q40z (q40z) (orcCons 112 F_q21z (q21z) (orcNil))
omit [UDef] [UTabs] in
theorem O_value_mul_ok {ρ : Type} : (O_value_mul : Orc ρ).ok Tryz.prog := orcCons_ok (by kernel_rfl) (ok_q40z) (orcCons_ok (by kernel_rfl) (ok_q21z) (orcNil_ok))
noncomputable def L_value_mul {ρ : Type} : LOrc ρ := lorcNil
omit [Tabs] [QuietD Tryz.prog] [UDef] [UTabs] in
theorem e_value_mul (x) : evF Tryz.prog 45 TT M_value_mul F_value_mul (O_value_mul) (L_value_mul) dorcNil ⟨[], [], []⟩ [.tmp 4, .tmp 5] C_value_mul x = value_mul x := by kernel_rfl
omit [UDef] [UTabs] in
theorem ok_value_mul : Contract Tryz.prog 100 F_value_mul (value_mul) :=
  Contract.of_ev (c := C_value_mul) (N := 45) Tryz.func100 (by kernel_rfl) (by kernel_rfl) (by kernel_rfl) (by kernel_rfl) (O_value_mul_ok) dorcNil_ok (.of (l := []) (by kernel_rfl) trivial) (e_value_mul)

noncomputable def C_q32z : Code := bodyOf Tryz.f76
noncomputable def M_q32z : List (Nat × ArgM) := [(1500000048, ⟨[4, 3], [], [], false⟩), (999999999, ⟨[1], [], [], false⟩), (98, ⟨[], [], [], true⟩), (48, ⟨[], [], [300043], false⟩), (99, ⟨[], [], [], true⟩), (100, ⟨[], [], [], true⟩)]
instance : DfOk M_q32z := .none rfl
noncomputable def O_q32z {ρ : Type} (n : Nat) : Orc ρ := orcCons 98 F_value_add (value_add) (orcCons 48 F_q25z (q25z n) (orcCons 99 F_value_sub (value_sub) (orcCons 100 F_value_mul (value_mul) (orcNil))))
omit [UDef] [UTabs] in
theorem O_q32z_ok {ρ : Type} (n : Nat) : (O_q32z n : Orc ρ).ok Tryz.prog := orcCons_ok (by kernel_rfl) (ok_value_add) (orcCons_ok (by kernel_rfl) (ok_q25z n) (orcCons_ok (by kernel_rfl) (ok_value_sub) (orcCons_ok (by kernel_rfl) (ok_value_mul) (orcNil_ok))))
noncomputable def L_q32z {ρ : Type} (n : Nat) : LOrc ρ := lorcNil
omit [Tabs] [QuietD Tryz.prog] [UDef] [UTabs] in
theorem e_q32z (n : Nat) (x) : evF Tryz.prog 111 TT M_q32z F_q32z (O_q32z n) (L_q32z n) (evDraw Tryz.prog 111 TT M_q32z (O_q32z n)) ⟨[], [], []⟩ [.cell 6 24, .tmp 7] C_q32z x = q32z n x := by kernel_rfl
omit [UDef] [UTabs] in
theorem ok_q32z (n : Nat) : Contract Tryz.prog 76 F_q32z (q32z n) :=
  Contract.of_ev (c := C_q32z) (N := 111) Tryz.func76 (by kernel_rfl) (by kernel_rfl) (by kernel_rfl) (by kernel_rfl) (O_q32z_ok n) (evDraw_ok (O_q32z_ok n) (by kernel_rfl)) (.of (l := []) (by kernel_rfl) trivial) (e_q32z n)

noncomputable def F_q52z : FnT := ⟨2, ⟨[], [(0, .val), (1, .val)], [], []⟩, [.v .val], []⟩
noncomputable def F_q38z : FnT := ⟨2, ⟨[], [(0, .val), (1, .val)], [], []⟩, [.v .i64], []⟩
noncomputable def F_q10z : FnT := ⟨2, ⟨[], [(0, .str), (1, .str)], [], []⟩, [.v .i64], []⟩
noncomputable def F_q17z : FnT := ⟨1, ⟨[], [(0, .str)], [], []⟩, [.v .bool], []⟩
noncomputable def C_q17z : Code := bodyOf Tryz.f96
noncomputable def M_q17z : List (Nat × ArgM) := []
instance : DfOk M_q17z := .none rfl
noncomputable def O_q17z {ρ : Type} : Orc ρ := orcNil
omit [QuietD Tryz.prog] [UDef] [UTabs] in
theorem O_q17z_ok {ρ : Type} : (O_q17z : Orc ρ).ok Tryz.prog := orcNil_ok
noncomputable def L_q17z {ρ : Type} : LOrc ρ := lorcNil
omit [Tabs] [QuietD Tryz.prog] [UDef] [UTabs] in
theorem e_q17z (x) : evF Tryz.prog 6 TT M_q17z F_q17z (O_q17z) (L_q17z) dorcNil ⟨[], [], []⟩ [.tmp 2] C_q17z x = q17z x := by kernel_rfl
omit [UDef] [UTabs] in
theorem ok_q17z : Contract Tryz.prog 96 F_q17z (q17z) :=
  Contract.of_ev (c := C_q17z) (N := 6) Tryz.func96 (by kernel_rfl) (by kernel_rfl) (by kernel_rfl) (by kernel_rfl) (O_q17z_ok) dorcNil_ok (.of (l := []) (by kernel_rfl) trivial) (e_q17z)

noncomputable def C_q10z : Code := bodyOf Tryz.f114
noncomputable def M_q10z : List (Nat × ArgM) := [(96, ⟨[], [], [], true⟩)]
instance : DfOk M_q10z := .none rfl
noncomputable def O_q10z {ρ : Type} : Orc ρ := orcCons 96 F_q17z (q17z) (orcNil)
omit [UDef] [UTabs] in
theorem O_q10z_ok {ρ : Type} : (O_q10z : Orc ρ).ok Tryz.prog := orcCons_ok (by kernel_rfl) (ok_q17z) (orcNil_ok)
noncomputable def L_q10z {ρ : Type} : LOrc ρ := lorcNil
omit [Tabs] [QuietD Tryz.prog] [UDef] [UTabs] in
theorem e_q10z (x) : evF Tryz.prog 20 TT M_q10z F_q10z (O_q10z) (L_q10z) dorcNil ⟨[], [], []⟩ [.tmp 4] C_q10z x = q10z x := by kernel_rfl
omit [UDef] [UTabs] in
theorem ok_q10z : Contract Tryz.prog 114 F_q10z (q10z) :=
  Contract.of_ev (c := C_q10z) (N := 20) Tryz.func114 (by kernel_rfl) (by kernel_rfl) (by kernel_rfl) (by kernel_rfl) (O_q10z_ok) dorcNil_ok (.of (l := []) (by kernel_rfl) trivial) (e_q10z)

noncomputable def F_q0z : FnT := ⟨3, ⟨[(2, .fn 102)], [(0, (.lst .val)), (1, (.lst .val))], [], []⟩, [.v .i64], []⟩
noncomputable def C_q0z : Code := bodyOf Tryz.f115
noncomputable def M_q0z : List (Nat × ArgM) := [(102, ⟨[], [], [], true⟩)]
instance : DfOk M_q0z := .none rfl
noncomputable def O_q0z {ρ : Type} (self_q38z : Ev.Val × Ev.Val × Unit → Option (Int × Unit)) (n : Nat) : Orc ρ := orcCons 102 F_q38z (self_q38z) (orcNil)
omit [QuietD Tryz.prog] [UDef] [UTabs] in
theorem O_q0z_ok {ρ : Type} (self_q38z : Ev.Val × Ev.Val × Unit → Option (Int × Unit)) (h_q38z : Contract Tryz.prog 102 F_q38z self_q38z) (n : Nat) : (O_q0z self_q38z n : Orc ρ).ok Tryz.prog := orcCons_ok (by kernel_rfl) (h_q38z) (orcNil_ok)
noncomputable def T_q0z_s0 : Tm := ⟨[(2, .fn 102)], [(0, (.lst .val)), (1, (.lst .val)), (11, (.lst .val)), (12, .i64), (13, .i64)], [], []⟩
noncomputable def X_q0z_s0 : Tm := ⟨[], [(0, (.lst .val)), (1, (.lst .val))], [], []⟩
noncomputable def R_q0z_s0 : Tm := ⟨[], [(6, .i64)], [], []⟩
noncomputable def L_q0z_s0 {ρ : Type} (self_q38z : Ev.Val × Ev.Val × Unit → Option (Int × Unit)) (n : Nat) : LOrc ρ := lorcNil
omit [Tabs] [QuietD Tryz.prog] [UDef] [UTabs] in
theorem s_q0z_s0 {ρ : Type} (self_q38z : Ev.Val × Ev.Val × Unit → Option (Int × Unit)) (n : Nat) (rec : T_q0z_s0.den → Option ρ) kx kr s : dStep Tryz.prog 39 TT M_q0z (O_q0z self_q38z n) (L_q0z_s0 self_q38z n) dorcNil 0 (lbody 1000 C_q0z 0) T_q0z_s0 X_q0z_s0 R_q0z_s0 ⟨[], [], []⟩ rec kx kr s = q0z_s0 self_q38z n rec kx kr s := by kernel_rfl
noncomputable def L_q0z {ρ : Type} (self_q38z : Ev.Val × Ev.Val × Unit → Option (Int × Unit)) (n : Nat) : LOrc ρ := lorcCons 0 (loopL 39 0 n T_q0z_s0 X_q0z_s0 R_q0z_s0 ⟨[], [], []⟩ (q0z_s0 self_q38z n)) (lorcNil)
omit [Tabs] [QuietD Tryz.prog] [UDef] [UTabs] in
theorem e_q0z (self_q38z : Ev.Val × Ev.Val × Unit → Option (Int × Unit)) (n : Nat) (x) : evF Tryz.prog 39 TT M_q0z F_q0z (O_q0z self_q38z n) (L_q0z self_q38z n) dorcNil ⟨[], [], []⟩ [.tmp 6] C_q0z x = q0z self_q38z n x := by kernel_rfl
omit [UDef] [UTabs] in
theorem ok_q0z (self_q38z : Ev.Val × Ev.Val × Unit → Option (Int × Unit)) (h_q38z : Contract Tryz.prog 102 F_q38z self_q38z) (n : Nat) : Contract Tryz.prog 115 F_q0z (q0z self_q38z n) :=
  Contract.of_ev (c := C_q0z) (N := 39) Tryz.func115 (by kernel_rfl) (by kernel_rfl) (by kernel_rfl) (by kernel_rfl) (O_q0z_ok self_q38z h_q38z n) dorcNil_ok (.of (l := [(0, (lbody 1000 C_q0z 0))]) (by kernel_rfl) ⟨.head (loopL_sound (O_q0z_ok self_q38z h_q38z n) dorcNil_ok (.of (l := []) (by kernel_rfl) trivial) (s_q0z_s0 self_q38z n)), trivial⟩) (e_q0z self_q38z n)

noncomputable def F_q42z : FnT := ⟨1, ⟨[], [(0, (.lst .i64))], [], []⟩, [.v .i64], []⟩
noncomputable def C_q42z : Code := bodyOf Tryz.f113
noncomputable def M_q42z : List (Nat × ArgM) := []
instance : DfOk M_q42z := .none rfl
noncomputable def O_q42z {ρ : Type} (n : Nat) : Orc ρ := orcNil
omit [QuietD Tryz.prog] [UDef] [UTabs] in
theorem O_q42z_ok {ρ : Type} (n : Nat) : (O_q42z n : Orc ρ).ok Tryz.prog := orcNil_ok
noncomputable def T_q42z_s0 : Tm := ⟨[], [(3, .i64), (6, (.lst .i64)), (7, .i64), (8, .i64)], [], []⟩
noncomputable def X_q42z_s0 : Tm := ⟨[], [(3, .i64)], [], []⟩
noncomputable def R_q42z_s0 : Tm := ⟨[], [(2, .i64)], [], []⟩
noncomputable def L_q42z_s0 {ρ : Type} (n : Nat) : LOrc ρ := lorcNil
omit [Tabs] [QuietD Tryz.prog] [UDef] [UTabs] in
theorem s_q42z_s0 {ρ : Type} (n : Nat) (rec : T_q42z_s0.den → Option ρ) kx kr s : dStep Tryz.prog 18 TT M_q42z (O_q42z n) (L_q42z_s0 n) dorcNil 0 (lbody 1000 C_q42z 0) T_q42z_s0 X_q42z_s0 R_q42z_s0 ⟨[], [], []⟩ rec kx kr s = q42z_s0 n rec kx kr s := by kernel_rfl
noncomputable def L_q42z {ρ : Type} (n : Nat) : LOrc ρ := lorcCons 0 (loopL 18 0 n T_q42z_s0 X_q42z_s0 R_q42z_s0 ⟨[], [], []⟩ (q42z_s0 n)) (lorcNil)
omit [Tabs] [QuietD Tryz.prog] [UDef] [UTabs] in
theorem e_q42z (n : Nat) (x) : evF Tryz.prog 18 TT M_q42z F_q42z (O_q42z n) (L_q42z n) dorcNil ⟨[], [], []⟩ [.tmp 2] C_q42z x = q42z n x := by kernel_rfl
omit [UDef] [UTabs] in
theorem ok_q42z (n : Nat) : Contract Tryz.prog 113 F_q42z (q42z n) :=
  Contract.of_ev (c := C_q42z) (N := 18) Tryz.func113 (by kernel_rfl) (by kernel_rfl) (by kernel_rfl) (by kernel_rfl) (O_q42z_ok n) dorcNil_ok (.of (l := [(0, (lbody 1000 C_q42z 0))]) (by kernel_rfl) ⟨.head (loopL_sound (O_q42z_ok n) dorcNil_ok (.of (l := []) (by kernel_rfl) trivial) (s_q42z_s0 n)), trivial⟩) (e_q42z n)

noncomputable def C_q38z : Code := bodyOf Tryz.f102
noncomputable def M_q38z : List (Nat × ArgM) := [(44, ⟨[], [], [], true⟩), (114, ⟨[], [], [], true⟩), (115, ⟨[], [], [], true⟩), (113, ⟨[], [], [], true⟩)]
instance : DfOk M_q38z := .none rfl
noncomputable def O_q38z {ρ : Type} (self_q38z : Ev.Val × Ev.Val × Unit → Option (Int × Unit)) (n : Nat) : Orc ρ := orcCons 44 F_q19z (q19z) (orcCons 114 F_q10z (q10z) (orcCons 115 F_q0z (q0z self_q38z n) (orcCons 113 F_q42z (q42z n) (orcNil))))
omit [UDef] [UTabs] in
theorem O_q38z_ok {ρ : Type} (self_q38z : Ev.Val × Ev.Val × Unit → Option (Int × Unit)) (h_q38z : Contract Tryz.prog 102 F_q38z self_q38z) (n : Nat) : (O_q38z self_q38z n : Orc ρ).ok Tryz.prog := orcCons_ok (by kernel_rfl) (ok_q19z) (orcCons_ok (by kernel_rfl) (ok_q10z) (orcCons_ok (by kernel_rfl) (ok_q0z _ h_q38z n) (orcCons_ok (by kernel_rfl) (ok_q42z n) (orcNil_ok))))
noncomputable def L_q38z {ρ : Type} (self_q38z : Ev.Val × Ev.Val × Unit → Option (Int × Unit)) (n : Nat) : LOrc ρ := lorcNil
omit [Tabs] [QuietD Tryz.prog] [UDef] [UTabs] in
theorem e_q38z (self_q38z : Ev.Val × Ev.Val × Unit → Option (Int × Unit)) (n : Nat) (x) : evF Tryz.prog 31 TT M_q38z F_q38z (O_q38z self_q38z n) (L_q38z self_q38z n) (evDraw Tryz.prog 31 TT M_q38z (O_q38z self_q38z n)) ⟨[], [], []⟩ [.tmp 4] C_q38z x = q38z_b self_q38z n x := by kernel_rfl
omit [UDef] [UTabs] in
theorem okb_q38z (self_q38z : Ev.Val × Ev.Val × Unit → Option (Int × Unit)) (h_q38z : Contract Tryz.prog 102 F_q38z self_q38z) (n : Nat) : Contract Tryz.prog 102 F_q38z (q38z_b self_q38z n) :=
  Contract.of_ev (c := C_q38z) (N := 31) Tryz.func102 (by kernel_rfl) (by kernel_rfl) (by kernel_rfl) (by kernel_rfl) (O_q38z_ok self_q38z h_q38z n) (evDraw_ok (O_q38z_ok self_q38z h_q38z n) (by kernel_rfl)) (.of (l := []) (by kernel_rfl) trivial) (e_q38z self_q38z n)
omit [UDef] [UTabs] in
theorem ok_q38z : ∀ n, Contract Tryz.prog 102 F_q38z (q38z n)
  | 0 => fun _ _ h => by cases h
  | n + 1 => okb_q38z _ (ok_q38z n) n

noncomputable def F_q41z : FnT := ⟨1, ⟨[], [(0, .bool)], [], []⟩, [.v .val], []⟩
noncomputable def C_q41z : Code := bodyOf Tryz.f101
noncomputable def M_q41z : List (Nat × ArgM) := []
instance : DfOk M_q41z := .none rfl
noncomputable def O_q41z {ρ : Type} : Orc ρ := orcNil
omit [QuietD Tryz.prog] [UDef] [UTabs] in
theorem O_q41z_ok {ρ : Type} : (O_q41z : Orc ρ).ok Tryz.prog := orcNil_ok
noncomputable def L_q41z {ρ : Type} : LOrc ρ := lorcNil
omit [Tabs] [QuietD Tryz.prog] [UDef] [UTabs] in
theorem e_q41z (x) : evF Tryz.prog 8 TT M_q41z F_q41z (O_q41z) (L_q41z) dorcNil ⟨[], [], []⟩ [.cell 2 24] C_q41z x = q41z x := by kernel_rfl
omit [UDef] [UTabs] in
theorem ok_q41z : Contract Tryz.prog 101 F_q41z (q41z) :=
  Contract.of_ev (c := C_q41z) (N := 8) Tryz.func101 (by kernel_rfl) (by kernel_rfl) (by kernel_rfl) (by kernel_rfl) (O_q41z_ok) dorcNil_ok (.of (l := []) (by kernel_rfl) trivial) (e_q41z)

noncomputable def C_q52z : Code := bodyOf Tryz.f77
noncomputable def M_q52z : List (Nat × ArgM) := [(102, ⟨[], [], [], true⟩)]
instance : DfOk M_q52z := .none rfl
noncomputable def O_q52z {ρ : Type} (self_q52z : Ev.Val × Ev.Val × Unit → Option (Ev.Val × Unit)) (n : Nat) : Orc ρ := orcCons 102 F_q38z (q38z n) (orcCons 101 F_q41z (q41z) (orcCons 77 F_q52z (self_q52z) (orcNil)))
omit [UDef] [UTabs] in
theorem O_q52z_ok {ρ : Type} (self_q52z : Ev.Val × Ev.Val × Unit → Option (Ev.Val × Unit)) (h_q52z : Contract Tryz.prog 77 F_q52z self_q52z) (n : Nat) : (O_q52z self_q52z n : Orc ρ).ok Tryz.prog := orcCons_ok (by kernel_rfl) (ok_q38z n) (orcCons_ok (by kernel_rfl) (ok_q41z) (orcCons_ok (by kernel_rfl) (h_q52z) (orcNil_ok)))
noncomputable def T_q52z_s0 : Tm := ⟨[(2, .ptr 2 0), (3, .ptr 3 0), (4, .ptr 4 0), (5, .ptr 5 0)], [(41, .i64), (42, .i64)], [(2, .box [.d .val]), (3, .box [.d .val]), (4, .box [.d .val]), (5, .box [.d .val])], []⟩
noncomputable def X_q52z_s0 : Tm := ⟨[(4, .ptr 4 0), (5, .ptr 5 0)], [], [(4, .box [.d .val]), (5, .box [.d .val])], []⟩
noncomputable def R_q52z_s0 : Tm := ⟨[(4, .ptr 4 0)], [], [(4, .box [.d .val])], []⟩
noncomputable def L_q52z_s0 {ρ : Type} (self_q52z : Ev.Val × Ev.Val × Unit → Option (Ev.Val × Unit)) (n : Nat) : LOrc ρ := lorcNil
omit [Tabs] [QuietD Tryz.prog] [UDef] [UTabs] in
theorem s_q52z_s0 {ρ : Type} (self_q52z : Ev.Val × Ev.Val × Unit → Option (Ev.Val × Unit)) (n : Nat) (rec : T_q52z_s0.den → Option ρ) kx kr s : dStep Tryz.prog 68 TT M_q52z (O_q52z self_q52z n) (L_q52z_s0 self_q52z n) (evDraw Tryz.prog 68 TT M_q52z (O_q52z self_q52z n)) 0 (lbody 1000 C_q52z 0) T_q52z_s0 X_q52z_s0 R_q52z_s0 ⟨[], [], []⟩ rec kx kr s = q52z_s0 self_q52z n rec kx kr s := by kernel_rfl
noncomputable def L_q52z {ρ : Type} (self_q52z : Ev.Val × Ev.Val × Unit → Option (Ev.Val × Unit)) (n : Nat) : LOrc ρ := lorcCons 0 (loopL 68 0 n T_q52z_s0 X_q52z_s0 R_q52z_s0 ⟨[], [], []⟩ (q52z_s0 self_q52z n)) (lorcNil)
omit [Tabs] [QuietD Tryz.prog] [UDef] [UTabs] in
theorem e_q52z (self_q52z : Ev.Val × Ev.Val × Unit → Option (Ev.Val × Unit)) (n : Nat) (x) : evF Tryz.prog 68 TT M_q52z F_q52z (O_q52z self_q52z n) (L_q52z self_q52z n) (evDraw Tryz.prog 68 TT M_q52z (O_q52z self_q52z n)) ⟨[], [], []⟩ [.cell 4 24] C_q52z x = q52z_b self_q52z n x := by kernel_rfl
omit [UDef] [UTabs] in
theorem okb_q52z (self_q52z : Ev.Val × Ev.Val × Unit → Option (Ev.Val × Unit)) (h_q52z : Contract Tryz.prog 77 F_q52z self_q52z) (n : Nat) : Contract Tryz.prog 77 F_q52z (q52z_b self_q52z n) :=
  Contract.of_ev (c := C_q52z) (N := 68) Tryz.func77 (by kernel_rfl) (by kernel_rfl) (by kernel_rfl) (by kernel_rfl) (O_q52z_ok self_q52z h_q52z n) (evDraw_ok (O_q52z_ok self_q52z h_q52z n) (by kernel_rfl)) (.of (l := [(0, (lbody 1000 C_q52z 0))]) (by kernel_rfl) ⟨.head (loopL_sound (O_q52z_ok self_q52z h_q52z n) (evDraw_ok (O_q52z_ok self_q52z h_q52z n) (by kernel_rfl)) (.of (l := []) (by kernel_rfl) trivial) (s_q52z_s0 self_q52z n)), trivial⟩) (e_q52z self_q52z n)
omit [UDef] [UTabs] in
theorem ok_q52z : ∀ n, Contract Tryz.prog 77 F_q52z (q52z n)
  | 0 => fun _ _ h => by cases h
  | n + 1 => okb_q52z _ (ok_q52z n) n

noncomputable def F_q51z : FnT := ⟨2, ⟨[], [(0, .val), (1, .val)], [], []⟩, [.v .val], []⟩
noncomputable def C_q51z : Code := bodyOf Tryz.f78
noncomputable def M_q51z : List (Nat × ArgM) := [(102, ⟨[], [], [], true⟩)]
instance : DfOk M_q51z := .none rfl
noncomputable def O_q51z {ρ : Type} (n : Nat) : Orc ρ := orcCons 102 F_q38z (q38z n) (orcCons 101 F_q41z (q41z) (orcNil))
omit [UDef] [UTabs] in
theorem O_q51z_ok {ρ : Type} (n : Nat) : (O_q51z n : Orc ρ).ok Tryz.prog := orcCons_ok (by kernel_rfl) (ok_q38z n) (orcCons_ok (by kernel_rfl) (ok_q41z) (orcNil_ok))
noncomputable def L_q51z {ρ : Type} (n : Nat) : LOrc ρ := lorcNil
omit [Tabs] [QuietD Tryz.prog] [UDef] [UTabs] in
theorem e_q51z (n : Nat) (x) : evF Tryz.prog 26 TT M_q51z F_q51z (O_q51z n) (L_q51z n) dorcNil ⟨[], [], []⟩ [.cell 4 24] C_q51z x = q51z n x := by kernel_rfl
omit [UDef] [UTabs] in
theorem ok_q51z (n : Nat) : Contract Tryz.prog 78 F_q51z (q51z n) :=
  Contract.of_ev (c := C_q51z) (N := 26) Tryz.func78 (by kernel_rfl) (by kernel_rfl) (by kernel_rfl) (by kernel_rfl) (O_q51z_ok n) dorcNil_ok (.of (l := []) (by kernel_rfl) trivial) (e_q51z n)

noncomputable def F_q36z : FnT := ⟨1, ⟨[], [(0, .val)], [], []⟩, [.v .val], []⟩
noncomputable def F_q48z : FnT := ⟨1, ⟨[], [(0, .val)], [], []⟩, [.v .bool, .v .bool], []⟩
noncomputable def C_q48z : Code := bodyOf Tryz.f103
noncomputable def M_q48z : List (Nat × ArgM) := []
instance : DfOk M_q48z := .none rfl
noncomputable def O_q48z {ρ : Type} : Orc ρ := orcNil
omit [QuietD Tryz.prog] [UDef] [UTabs] in
theorem O_q48z_ok {ρ : Type} : (O_q48z : Orc ρ).ok Tryz.prog := orcNil_ok
noncomputable def L_q48z {ρ : Type} : LOrc ρ := lorcNil
omit [Tabs] [QuietD Tryz.prog] [UDef] [UTabs] in
theorem e_q48z (x) : evF Tryz.prog 10 TT M_q48z F_q48z (O_q48z) (L_q48z) (evDraw Tryz.prog 10 TT M_q48z (O_q48z)) ⟨[], [], []⟩ [.tmp 2, .tmp 3] C_q48z x = q48z x := by kernel_rfl
omit [UDef] [UTabs] in
theorem ok_q48z : Contract Tryz.prog 103 F_q48z (q48z) :=
  Contract.of_ev (c := C_q48z) (N := 10) Tryz.func103 (by kernel_rfl) (by kernel_rfl) (by kernel_rfl) (by kernel_rfl) (O_q48z_ok) (evDraw_ok (O_q48z_ok) (by kernel_rfl)) (.of (l := []) (by kernel_rfl) trivial) (e_q48z)

noncomputable def F_q49z : FnT := ⟨1, ⟨[], [(0, .bool)], [], []⟩, [.v .val], []⟩
noncomputable def C_q49z : Code := bodyOf Tryz.f81
noncomputable def M_q49z : List (Nat × ArgM) := []
instance : DfOk M_q49z := .none rfl
noncomputable def O_q49z {ρ : Type} : Orc ρ := orcNil
omit [QuietD Tryz.prog] [UDef] [UTabs] in
theorem O_q49z_ok {ρ : Type} : (O_q49z : Orc ρ).ok Tryz.prog := orcNil_ok
noncomputable def L_q49z {ρ : Type} : LOrc ρ := lorcNil
omit [Tabs] [QuietD Tryz.prog] [UDef] [UTabs] in
theorem e_q49z (x) : evF Tryz.prog 6 TT M_q49z F_q49z (O_q49z) (L_q49z) dorcNil ⟨[], [], []⟩ [.cell 2 24] C_q49z x = q49z x := by kernel_rfl
omit [UDef] [UTabs] in
theorem ok_q49z : Contract Tryz.prog 81 F_q49z (q49z) :=
  Contract.of_ev (c := C_q49z) (N := 6) Tryz.func81 (by kernel_rfl) (by kernel_rfl) (by kernel_rfl) (by kernel_rfl) (O_q49z_ok) dorcNil_ok (.of (l := []) (by kernel_rfl) trivial) (e_q49z)

noncomputable def C_q36z : Code := bodyOf Tryz.f79
noncomputable def M_q36z : List (Nat × ArgM) := [(103, ⟨[], [], [], true⟩)]
instance : DfOk M_q36z := .none rfl
noncomputable def O_q36z {ρ : Type} : Orc ρ := orcCons 103 F_q48z (q48z) (orcCons 81 F_q49z (q49z) (orcNil))
omit [UDef] [UTabs] in
theorem O_q36z_ok {ρ : Type} : (O_q36z : Orc ρ).ok Tryz.prog := orcCons_ok (by kernel_rfl) (ok_q48z) (orcCons_ok (by kernel_rfl) (ok_q49z) (orcNil_ok))
noncomputable def L_q36z {ρ : Type} : LOrc ρ := lorcNil
omit [Tabs] [QuietD Tryz.prog] [UDef] [UTabs] in
theorem e_q36z (x) : evF Tryz.prog 15 TT M_q36z F_q36z (O_q36z) (L_q36z) dorcNil ⟨[], [], []⟩ [.cell 2 24] C_q36z x = q36z x := by kernel_rfl
omit [UDef] [UTabs] in
theorem ok_q36z : Contract Tryz.prog 79 F_q36z (q36z) :=
  Contract.of_ev (c := C_q36z) (N := 15) Tryz.func79 (by kernel_rfl) (by kernel_rfl) (by kernel_rfl) (by kernel_rfl) (O_q36z_ok) dorcNil_ok (.of (l := []) (by kernel_rfl) trivial) (e_q36z)

noncomputable def F_q35z : FnT := ⟨2, ⟨[], [(0, .val), (1, .val)], [], []⟩, [.v .val], []⟩
noncomputable def C_q35z : Code := bodyOf Tryz.f80
noncomputable def M_q35z : List (Nat × ArgM) := [(103, ⟨[], [], [], true⟩)]
instance : DfOk M_q35z := .none rfl
noncomputable def O_q35z {ρ : Type} : Orc ρ := orcCons 103 F_q48z (q48z) (orcCons 81 F_q49z (q49z) (orcNil))
omit [UDef] [UTabs] in
theorem O_q35z_ok {ρ : Type} : (O_q35z : Orc ρ).ok Tryz.prog := orcCons_ok (by kernel_rfl) (ok_q48z) (orcCons_ok (by kernel_rfl) (ok_q49z) (orcNil_ok))
noncomputable def L_q35z {ρ : Type} : LOrc ρ := lorcNil
omit [Tabs] [QuietD Tryz.prog] [UDef] [UTabs] in
theorem e_q35z (x) : evF Tryz.prog 38 TT M_q35z F_q35z (O_q35z) (L_q35z) dorcNil ⟨[], [], []⟩ [.cell 4 24] C_q35z x = q35z x := by kernel_rfl
omit [UDef] [UTabs] in
theorem ok_q35z : Contract Tryz.prog 80 F_q35z (q35z) :=
  Contract.of_ev (c := C_q35z) (N := 38) Tryz.func80 (by kernel_rfl) (by kernel_rfl) (by kernel_rfl) (by kernel_rfl) (O_q35z_ok) dorcNil_ok (.of (l := []) (by kernel_rfl) trivial) (e_q35z)

noncomputable def C_q28z : Code := bodyOf Tryz.f50
noncomputable def M_q28z : List (Nat × ArgM) := [(72, ⟨[], [], [], true⟩), (28, ⟨[], [], [], true⟩)]
instance : DfOk M_q28z := .none rfl
noncomputable def O_q28z {ρ : Type} (n : Nat) : Orc ρ := orcCons 76 F_q32z (q32z n) (orcCons 72 F_q37z (q37z n) (orcCons 77 F_q52z (q52z n) (orcCons 78 F_q51z (q51z n) (orcCons 79 F_q36z (q36z) (orcCons 80 F_q35z (q35z) (orcCons 81 F_q49z (q49z) (orcCons 28 F_q22z (q22z n) (orcNil))))))))
omit [UDef] in
theorem O_q28z_ok {ρ : Type} (n : Nat) : (O_q28z n : Orc ρ).ok Tryz.prog := orcCons_ok (by kernel_rfl) (ok_q32z n) (orcCons_ok (by kernel_rfl) (ok_q37z n) (orcCons_ok (by kernel_rfl) (ok_q52z n) (orcCons_ok (by kernel_rfl) (ok_q51z n) (orcCons_ok (by kernel_rfl) (ok_q36z) (orcCons_ok (by kernel_rfl) (ok_q35z) (orcCons_ok (by kernel_rfl) (ok_q49z) (orcCons_ok (by kernel_rfl) (ok_q22z n) (orcNil_ok))))))))
noncomputable def T_q28z_s1 : Tm := ⟨[(6, .ptr 6 0), (9, .ptr 9 0)], [(2, (.lst .val)), (114, (.lst .val)), (115, .i64), (116, .i64)], [(6, .box [.d .val]), (9, .box [.d .val])], []⟩
noncomputable def X_q28z_s1 : Tm := ⟨[(6, .ptr 6 0), (9, .ptr 9 0)], [], [(6, .box [.d .val]), (9, .box [.d .val])], []⟩
noncomputable def R_q28z_s1 : Tm := ⟨[], [], [], []⟩
noncomputable def L_q28z_s1 {ρ : Type} (n : Nat) : LOrc ρ := lorcNil
omit [Tabs] [QuietD Tryz.prog] [UDef] [UTabs] in
theorem s_q28z_s1 {ρ : Type} (n : Nat) (rec : T_q28z_s1.den → Option ρ) kx kr s : dStep Tryz.prog 219 TT M_q28z (O_q28z n) (L_q28z_s1 n) (evDraw Tryz.prog 219 TT M_q28z (O_q28z n)) 1 (lbody 1000 C_q28z 0) T_q28z_s1 X_q28z_s1 R_q28z_s1 ⟨[], [], []⟩ rec kx kr s = q28z_s1 n rec kx kr s := by kernel_rfl
noncomputable def T_q28z_s4 : Tm := ⟨[(6, .ptr 6 0)], [(175, (.lst .val)), (176, .i64), (177, .i64)], [(6, .box [.d .val])], []⟩
noncomputable def X_q28z_s4 : Tm := ⟨[(6, .ptr 6 0)], [], [(6, .box [.d .val])], []⟩
noncomputable def R_q28z_s4 : Tm := ⟨[(6, .ptr 6 0)], [], [(6, .box [.d .val])], []⟩
noncomputable def L_q28z_s4 {ρ : Type} (n : Nat) : LOrc ρ := lorcNil
omit [Tabs] [QuietD Tryz.prog] [UDef] [UTabs] in
theorem s_q28z_s4 {ρ : Type} (n : Nat) (rec : T_q28z_s4.den → Option ρ) kx kr s : dStep Tryz.prog 219 TT M_q28z (O_q28z n) (L_q28z_s4 n) (evDraw Tryz.prog 219 TT M_q28z (O_q28z n)) 4 (lbody 1000 C_q28z 1) T_q28z_s4 X_q28z_s4 R_q28z_s4 ⟨[], [], []⟩ rec kx kr s = q28z_s4 n rec kx kr s := by kernel_rfl
noncomputable def L_q28z {ρ : Type} (n : Nat) : LOrc ρ := lorcCons 1 (loopL 219 1 n T_q28z_s1 X_q28z_s1 R_q28z_s1 ⟨[], [], []⟩ (q28z_s1 n)) (lorcCons 4 (loopL 219 4 n T_q28z_s4 X_q28z_s4 R_q28z_s4 ⟨[], [], []⟩ (q28z_s4 n)) (lorcNil))
omit [Tabs] [QuietD Tryz.prog] [UDef] [UTabs] in
theorem e_q28z (n : Nat) (x) : evF Tryz.prog 219 TT M_q28z F_q28z (O_q28z n) (L_q28z n) (evDraw Tryz.prog 219 TT M_q28z (O_q28z n)) ⟨[], [], []⟩ [.cell 6 24] C_q28z x = q28z n x := by kernel_rfl
omit [UDef] in
theorem ok_q28z (n : Nat) : Contract Tryz.prog 50 F_q28z (q28z n) :=
  Contract.of_ev (c := C_q28z) (N := 219) Tryz.func50 (by kernel_rfl) (by kernel_rfl) (by kernel_rfl) (by kernel_rfl) (O_q28z_ok n) (evDraw_ok (O_q28z_ok n) (by kernel_rfl)) (.of (l := [(1, (lbody 1000 C_q28z 0)), (4, (lbody 1000 C_q28z 1))]) (by kernel_rfl) ⟨.head (loopL_sound (O_q28z_ok n) (evDraw_ok (O_q28z_ok n) (by kernel_rfl)) (.of (l := []) (by kernel_rfl) trivial) (s_q28z_s1 n)), ⟨.tail rfl (.head (loopL_sound (O_q28z_ok n) (evDraw_ok (O_q28z_ok n) (by kernel_rfl)) (.of (l := []) (by kernel_rfl) trivial) (s_q28z_s4 n))), trivial⟩⟩) (e_q28z n)

noncomputable def C_q23z : Code := bodyOf Tryz.f30
noncomputable def M_q23z : List (Nat × ArgM) := []
instance : DfOk M_q23z := .none rfl
noncomputable def O_q23z {ρ : Type} (self_q23z : Ev.Envr × Ev.Term × Unit → Option (Ev.Val × Unit)) (n : Nat) : Orc ρ := orcCons 48 F_q50z (q50z n) (orcCons 49 F_q24z (q24z n) (orcCons 30 F_q23z (self_q23z) (orcCons 50 F_q28z (q28z n) (orcNil))))
omit [UDef] in
theorem O_q23z_ok {ρ : Type} (self_q23z : Ev.Envr × Ev.Term × Unit → Option (Ev.Val × Unit)) (h_q23z : Contract Tryz.prog 30 F_q23z self_q23z) (n : Nat) : (O_q23z self_q23z n : Orc ρ).ok Tryz.prog := orcCons_ok (by kernel_rfl) (ok_q50z n) (orcCons_ok (by kernel_rfl) (ok_q24z n) (orcCons_ok (by kernel_rfl) (h_q23z) (orcCons_ok (by kernel_rfl) (ok_q28z n) (orcNil_ok))))
noncomputable def T_q23z_s1 : Tm := ⟨[(2, .ptr 2 0), (3, .ptr 3 0), (4, .ptr 4 0), (5, .own 5)], [(38, (.lst .term)), (39, .i64), (40, .i64)], [(2, .box [.d .envr]), (3, .box [.d .term]), (4, .box [.d .val]), (5, .arr 24 .val)], []⟩
noncomputable def X_q23z_s1 : Tm := ⟨[(2, .ptr 2 0), (3, .ptr 3 0), (4, .ptr 4 0), (5, .own 5)], [], [(2, .box [.d .envr]), (3, .box [.d .term]), (4, .box [.d .val]), (5, .arr 24 .val)], []⟩
noncomputable def R_q23z_s1 : Tm := ⟨[], [], [], []⟩
noncomputable def L_q23z_s1 {ρ : Type} (self_q23z : Ev.Envr × Ev.Term × Unit → Option (Ev.Val × Unit)) (n : Nat) : LOrc ρ := lorcNil
omit [Tabs] [QuietD Tryz.prog] [UDef] [UTabs] in
theorem s_q23z_s1 {ρ : Type} (self_q23z : Ev.Envr × Ev.Term × Unit → Option (Ev.Val × Unit)) (n : Nat) (rec : T_q23z_s1.den → Option ρ) kx kr s : dStep Tryz.prog 55 TT M_q23z (O_q23z self_q23z n) (L_q23z_s1 self_q23z n) (evDraw Tryz.prog 55 TT M_q23z (O_q23z self_q23z n)) 1 (lbody 1000 C_q23z 0) T_q23z_s1 X_q23z_s1 R_q23z_s1 ⟨[], [(5, 5, 24, 4)], []⟩ rec kx kr s = q23z_s1 self_q23z n rec kx kr s := by kernel_rfl
noncomputable def L_q23z {ρ : Type} (self_q23z : Ev.Envr × Ev.Term × Unit → Option (Ev.Val × Unit)) (n : Nat) : LOrc ρ := lorcCons 1 (loopL 55 1 n T_q23z_s1 X_q23z_s1 R_q23z_s1 ⟨[], [(5, 5, 24, 4)], []⟩ (q23z_s1 self_q23z n)) (lorcNil)
omit [Tabs] [QuietD Tryz.prog] [UDef] [UTabs] in
theorem e_q23z (self_q23z : Ev.Envr × Ev.Term × Unit → Option (Ev.Val × Unit)) (n : Nat) (x) : evF Tryz.prog 55 TT M_q23z F_q23z (O_q23z self_q23z n) (L_q23z self_q23z n) (evDraw Tryz.prog 55 TT M_q23z (O_q23z self_q23z n)) ⟨[], [], []⟩ [.cell 4 24] C_q23z x = q23z_b self_q23z n x := by kernel_rfl
omit [UDef] in
theorem okb_q23z (self_q23z : Ev.Envr × Ev.Term × Unit → Option (Ev.Val × Unit)) (h_q23z : Contract Tryz.prog 30 F_q23z self_q23z) (n : Nat) : Contract Tryz.prog 30 F_q23z (q23z_b self_q23z n) :=
  Contract.of_ev (c := C_q23z) (N := 55) Tryz.func30 (by kernel_rfl) (by kernel_rfl) (by kernel_rfl) (by kernel_rfl) (O_q23z_ok self_q23z h_q23z n) (evDraw_ok (O_q23z_ok self_q23z h_q23z n) (by kernel_rfl)) (.of (l := [(1, (lbody 1000 C_q23z 0))]) (by kernel_rfl) ⟨.head (loopL_sound (O_q23z_ok self_q23z h_q23z n) (evDraw_ok (O_q23z_ok self_q23z h_q23z n) (by kernel_rfl)) (.of (l := []) (by kernel_rfl) trivial) (s_q23z_s1 self_q23z n)), trivial⟩) (e_q23z self_q23z n)
omit [UDef] in
theorem ok_q23z : ∀ n, Contract Tryz.prog 30 F_q23z (q23z n)
  | 0 => fun _ _ h => by cases h
  | n + 1 => okb_q23z _ (ok_q23z n) n

noncomputable def C_term_Eval : Code := bodyOf Tryz.f13
noncomputable def M_term_Eval : List (Nat × ArgM) := [(26, ⟨[], [], [], true⟩), (27, ⟨[], [], [], true⟩), (28, ⟨[], [], [], true⟩), (29, ⟨[], [], [], true⟩)]
instance : DfOk M_term_Eval := .none rfl
noncomputable def O_term_Eval {ρ : Type} (n : Nat) : Orc ρ := orcCons 26 F_q33z (q33z n) (orcCons 27 F_q43z (q43z n) (orcCons 28 F_q22z (q22z n) (orcCons 29 F_q45z (q45z n) (orcCons 30 F_q23z (q23z n) (orcNil)))))
omit [UDef] in
theorem O_term_Eval_ok {ρ : Type} (n : Nat) : (O_term_Eval n : Orc ρ).ok Tryz.prog := orcCons_ok (by kernel_rfl) (ok_q33z n) (orcCons_ok (by kernel_rfl) (ok_q43z n) (orcCons_ok (by kernel_rfl) (ok_q22z n) (orcCons_ok (by kernel_rfl) (ok_q45z n) (orcCons_ok (by kernel_rfl) (ok_q23z n) (orcNil_ok)))))
noncomputable def T_term_Eval_s0 : Tm := ⟨[(4, .ptr 4 0), (7, .ptr 7 0), (8, .ptr 8 0), (11, .mpr 37), (12, .mpr 38)], [(2, (.lst .i64)), (39, (.lst .str)), (40, .i64), (41, .i64)], [(4, .box [.d .graph]), (7, .box [.d .term]), (8, .box [.d .val]), (37, .mp 47 .str .bool true), (38, .mp 56 .str .i64 true)], []⟩
noncomputable def X_term_Eval_s0 : Tm := ⟨[(4, .ptr 4 0), (7, .ptr 7 0), (8, .ptr 8 0), (11, .mpr 37), (12, .mpr 38)], [], [(4, .box [.d .graph]), (7, .box [.d .term]), (8, .box [.d .val]), (37, .mp 47 .str .bool true), (38, .mp 56 .str .i64 true)], []⟩
noncomputable def R_term_Eval_s0 : Tm := ⟨[(8, .ptr 8 0)], [(9, .i64)], [(8, .box [.d .val])], []⟩
noncomputable def L_term_Eval_s0 {ρ : Type} (n : Nat) : LOrc ρ := lorcNil
omit [Tabs] [QuietD Tryz.prog] [UDef] [UTabs] in
theorem s_term_Eval_s0 {ρ : Type} (n : Nat) (rec : T_term_Eval_s0.den → Option ρ) kx kr s : dStep Tryz.prog 98 TT M_term_Eval (O_term_Eval n) (L_term_Eval_s0 n) (evDraw Tryz.prog 98 TT M_term_Eval (O_term_Eval n)) 0 (lbody 1000 C_term_Eval 0) T_term_Eval_s0 X_term_Eval_s0 R_term_Eval_s0 ⟨[], [], []⟩ rec kx kr s = term_Eval_s0 n rec kx kr s := by kernel_rfl
noncomputable def L_term_Eval {ρ : Type} (n : Nat) : LOrc ρ := lorcCons 0 (loopL 98 0 n T_term_Eval_s0 X_term_Eval_s0 R_term_Eval_s0 ⟨[], [], []⟩ (term_Eval_s0 n)) (lorcNil)
omit [Tabs] [QuietD Tryz.prog] [UDef] [UTabs] in
theorem e_term_Eval (n : Nat) (x) : evF Tryz.prog 98 TT M_term_Eval F_term_Eval (O_term_Eval n) (L_term_Eval n) (evDraw Tryz.prog 98 TT M_term_Eval (O_term_Eval n)) ⟨[], [], []⟩ [.cell 8 24, .tmp 9] C_term_Eval x = term_Eval n x := by kernel_rfl
omit [UDef] in
theorem ok_term_Eval (n : Nat) : Contract Tryz.prog 13 F_term_Eval (term_Eval n) :=
  Contract.of_ev (c := C_term_Eval) (N := 98) Tryz.func13 (by kernel_rfl) (by kernel_rfl) (by kernel_rfl) (by kernel_rfl) (O_term_Eval_ok n) (evDraw_ok (O_term_Eval_ok n) (by kernel_rfl)) (.of (l := [(0, (lbody 1000 C_term_Eval 0))]) (by kernel_rfl) ⟨.head (loopL_sound (O_term_Eval_ok n) (evDraw_ok (O_term_Eval_ok n) (by kernel_rfl)) (.of (l := []) (by kernel_rfl) trivial) (s_term_Eval_s0 n)), trivial⟩) (e_term_Eval n)

noncomputable def F_q8z : FnT := ⟨2, ⟨[], [(0, .val), (1, .val)], [], []⟩, [.v .bool], []⟩
noncomputable def F_q9z : FnT := ⟨2, ⟨[], [(0, .val), (1, .val)], [], []⟩, [.v .i64], []⟩
noncomputable def F_q26z : FnT := ⟨2, ⟨[], [(0, (.lst .u8)), (1, (.lst .u8))], [], []⟩, [.v .i64], []⟩
noncomputable def C_q26z : Code := bodyOf Tryz.f51
noncomputable def M_q26z : List (Nat × ArgM) := []
instance : DfOk M_q26z := .none rfl
noncomputable def O_q26z {ρ : Type} : Orc ρ := orcCons 82 T_cmpB (cmpN) (orcNil)
omit [QuietD Tryz.prog] [UDef] [UTabs] in
theorem O_q26z_ok {ρ : Type} : (O_q26z : Orc ρ).ok Tryz.prog := orcExt_ok (by kernel_rfl) (cmp_ok) (orcNil_ok)
noncomputable def L_q26z {ρ : Type} : LOrc ρ := lorcNil
omit [Tabs] [QuietD Tryz.prog] [UDef] [UTabs] in
theorem e_q26z (x) : evF Tryz.prog 8 TT M_q26z F_q26z (O_q26z) (L_q26z) dorcNil ⟨[], [], []⟩ [.tmp 4] C_q26z x = q26z x := by kernel_rfl
omit [UDef] [UTabs] in
theorem ok_q26z : Contract Tryz.prog 51 F_q26z (q26z) :=
  Contract.of_ev (c := C_q26z) (N := 8) Tryz.func51 (by kernel_rfl) (by kernel_rfl) (by kernel_rfl) (by kernel_rfl) (O_q26z_ok) dorcNil_ok (.of (l := []) (by kernel_rfl) trivial) (e_q26z)

noncomputable def C_q9z : Code := bodyOf Tryz.f31
noncomputable def M_q9z : List (Nat × ArgM) := [(51, ⟨[], [], [], true⟩), (31, ⟨[], [], [], true⟩)]
instance : DfOk M_q9z := .none rfl
noncomputable def O_q9z {ρ : Type} (self_q9z : Ev.Val × Ev.Val × Unit → Option (Int × Unit)) (n : Nat) : Orc ρ := orcCons 51 F_q26z (q26z) (orcCons 31 F_q9z (self_q9z) (orcNil))
omit [UDef] [UTabs] in
theorem O_q9z_ok {ρ : Type} (self_q9z : Ev.Val × Ev.Val × Unit → Option (Int × Unit)) (h_q9z : Contract Tryz.prog 31 F_q9z self_q9z) (n : Nat) : (O_q9z self_q9z n : Orc ρ).ok Tryz.prog := orcCons_ok (by kernel_rfl) (ok_q26z) (orcCons_ok (by kernel_rfl) (h_q9z) (orcNil_ok))
noncomputable def T_q9z_s1 : Tm := ⟨[(2, .ptr 2 0), (3, .ptr 3 0)], [(5, .i64)], [(2, .box [.d .val]), (3, .box [.d .val])], []⟩
noncomputable def X_q9z_s1 : Tm := ⟨[(2, .ptr 2 0), (3, .ptr 3 0)], [], [(2, .box [.d .val]), (3, .box [.d .val])], []⟩
noncomputable def R_q9z_s1 : Tm := ⟨[], [(4, .i64)], [], []⟩
noncomputable def L_q9z_s1 {ρ : Type} (self_q9z : Ev.Val × Ev.Val × Unit → Option (Int × Unit)) (n : Nat) : LOrc ρ := lorcNil
omit [Tabs] [QuietD Tryz.prog] [UDef] [UTabs] in
theorem s_q9z_s1 {ρ : Type} (self_q9z : Ev.Val × Ev.Val × Unit → Option (Int × Unit)) (n : Nat) (rec : T_q9z_s1.den → Option ρ) kx kr s : dStep Tryz.prog 88 TT M_q9z (O_q9z self_q9z n) (L_q9z_s1 self_q9z n) (evDraw Tryz.prog 88 TT M_q9z (O_q9z self_q9z n)) 1 (lbody 1000 C_q9z 0) T_q9z_s1 X_q9z_s1 R_q9z_s1 ⟨[], [], []⟩ rec kx kr s = q9z_s1 self_q9z n rec kx kr s := by kernel_rfl
noncomputable def L_q9z {ρ : Type} (self_q9z : Ev.Val × Ev.Val × Unit → Option (Int × Unit)) (n : Nat) : LOrc ρ := lorcCons 1 (loopL 88 1 n T_q9z_s1 X_q9z_s1 R_q9z_s1 ⟨[], [], []⟩ (q9z_s1 self_q9z n)) (lorcNil)
omit [Tabs] [QuietD Tryz.prog] [UDef] [UTabs] in
theorem e_q9z (self_q9z : Ev.Val × Ev.Val × Unit → Option (Int × Unit)) (n : Nat) (x) : evF Tryz.prog 88 TT M_q9z F_q9z (O_q9z self_q9z n) (L_q9z self_q9z n) (evDraw Tryz.prog 88 TT M_q9z (O_q9z self_q9z n)) ⟨[], [], []⟩ [.tmp 4] C_q9z x = q9z_b self_q9z n x := by kernel_rfl
omit [UDef] [UTabs] in
theorem okb_q9z (self_q9z : Ev.Val × Ev.Val × Unit → Option (Int × Unit)) (h_q9z : Contract Tryz.prog 31 F_q9z self_q9z) (n : Nat) : Contract Tryz.prog 31 F_q9z (q9z_b self_q9z n) :=
  Contract.of_ev (c := C_q9z) (N := 88) Tryz.func31 (by kernel_rfl) (by kernel_rfl) (by kernel_rfl) (by kernel_rfl) (O_q9z_ok self_q9z h_q9z n) (evDraw_ok (O_q9z_ok self_q9z h_q9z n) (by kernel_rfl)) (.of (l := [(1, (lbody 1000 C_q9z 0))]) (by kernel_rfl) ⟨.head (loopL_sound (O_q9z_ok self_q9z h_q9z n) (evDraw_ok (O_q9z_ok self_q9z h_q9z n) (by kernel_rfl)) (.of (l := []) (by kernel_rfl) trivial) (s_q9z_s1 self_q9z n)), trivial⟩) (e_q9z self_q9z n)
omit [UDef] [UTabs] in
theorem ok_q9z : ∀ n, Contract Tryz.prog 31 F_q9z (q9z n)
  | 0 => fun _ _ h => by cases h
  | n + 1 => okb_q9z _ (ok_q9z n) n

noncomputable def C_q8z : Code := bodyOf Tryz.f15
noncomputable def M_q8z : List (Nat × ArgM) := [(31, ⟨[], [], [], true⟩)]
instance : DfOk M_q8z := .none rfl
noncomputable def O_q8z {ρ : Type} (n : Nat) : Orc ρ := orcCons 31 F_q9z (q9z n) (orcNil)
omit [UDef] [UTabs] in
theorem O_q8z_ok {ρ : Type} (n : Nat) : (O_q8z n : Orc ρ).ok Tryz.prog := orcCons_ok (by kernel_rfl) (ok_q9z n) (orcNil_ok)
noncomputable def L_q8z {ρ : Type} (n : Nat) : LOrc ρ := lorcNil
omit [Tabs] [QuietD Tryz.prog] [UDef] [UTabs] in
theorem e_q8z (n : Nat) (x) : evF Tryz.prog 9 TT M_q8z F_q8z (O_q8z n) (L_q8z n) dorcNil ⟨[], [], []⟩ [.tmp 4] C_q8z x = q8z n x := by kernel_rfl
omit [UDef] [UTabs] in
theorem ok_q8z (n : Nat) : Contract Tryz.prog 15 F_q8z (q8z n) :=
  Contract.of_ev (c := C_q8z) (N := 9) Tryz.func15 (by kernel_rfl) (by kernel_rfl) (by kernel_rfl) (by kernel_rfl) (O_q8z_ok n) dorcNil_ok (.of (l := []) (by kernel_rfl) trivial) (e_q8z n)

noncomputable def C_q11z : Code := bodyOf Tryz.f4
noncomputable def M_q11z : List (Nat × ArgM) := [(15, ⟨[], [], [], true⟩), (5, ⟨[], [], [], true⟩), (7, ⟨[], [], [], true⟩)]
instance : DfOk M_q11z := .none rfl
noncomputable def O_q11z {ρ : Type} (n : Nat) : Orc ρ := orcCons 12 F_q15z (q15z) (orcCons 14 F_q14z (q14z) (orcCons 13 F_term_Eval (term_Eval n) (orcCons 16 F_q20z (q20z) (orcCons 15 F_q8z (q8z n) (orcCons 5 F_q29z (q29z n) (orcCons 7 F_term_Name (term_Name n) (orcNil)))))))
omit [UDef] in
theorem O_q11z_ok {ρ : Type} (n : Nat) : (O_q11z n : Orc ρ).ok Tryz.prog := orcCons_ok (by kernel_rfl) (ok_q15z) (orcCons_ok (by kernel_rfl) (ok_q14z) (orcCons_ok (by kernel_rfl) (ok_term_Eval n) (orcCons_ok (by kernel_rfl) (ok_q20z) (orcCons_ok (by kernel_rfl) (ok_q8z n) (orcCons_ok (by kernel_rfl) (ok_q29z n) (orcCons_ok (by kernel_rfl) (ok_term_Name n) (orcNil_ok)))))))
noncomputable def L_q11z {ρ : Type} (n : Nat) : LOrc ρ := lorcNil
omit [Tabs] [QuietD Tryz.prog] [UDef] [UTabs] in
theorem e_q11z (n : Nat) (x) : evF Tryz.prog 50 TT M_q11z F_q11z (O_q11z n) (L_q11z n) (evDraw Tryz.prog 50 TT M_q11z (O_q11z n)) ⟨[], [], []⟩ [.tmp 0] C_q11z x = q11z n x := by kernel_rfl
omit [UDef] in
theorem ok_q11z (n : Nat) : Contract Tryz.prog 4 F_q11z (q11z n) :=
  Contract.of_ev (c := C_q11z) (N := 50) Tryz.func4 (by kernel_rfl) (by kernel_rfl) (by kernel_rfl) (by kernel_rfl) (O_q11z_ok n) (evDraw_ok (O_q11z_ok n) (by kernel_rfl)) (.of (l := []) (by kernel_rfl) trivial) (e_q11z n)

noncomputable def F_q6z : FnT := ⟨1, ⟨[], [(0, .str)], [], []⟩, [.v .bool], []⟩
noncomputable def C_q6z : Code := bodyOf Tryz.f6
noncomputable def M_q6z : List (Nat × ArgM) := [(18, ⟨[], [], [], true⟩)]
instance : DfOk M_q6z := .none rfl
noncomputable def O_q6z {ρ : Type} : Orc ρ := orcCons 18 F_contains (containsN) (orcNil)
omit [QuietD Tryz.prog] [UDef] in
theorem O_q6z_ok {ρ : Type} : (O_q6z : Orc ρ).ok Tryz.prog := orcCons_ok (by kernel_rfl) (containsN_ok) (orcNil_ok)
noncomputable def L_q6z {ρ : Type} : LOrc ρ := lorcNil
omit [Tabs] [QuietD Tryz.prog] [UDef] [UTabs] in
theorem e_q6z (x) : evF Tryz.prog 16 TT M_q6z F_q6z (O_q6z) (L_q6z) dorcNil ⟨[], [], []⟩ [.tmp 2] C_q6z x = q6z x := by kernel_rfl
omit [UDef] in
theorem ok_q6z : Contract Tryz.prog 6 F_q6z (q6z) :=
  Contract.of_ev (c := C_q6z) (N := 16) Tryz.func6 (by kernel_rfl) (by kernel_rfl) (by kernel_rfl) (by kernel_rfl) (O_q6z_ok) dorcNil_ok (.of (l := []) (by kernel_rfl) trivial) (e_q6z)

noncomputable def F_q12z : FnT := ⟨1, ⟨[], [(0, .str)], [], []⟩, [.v .bool], []⟩
noncomputable def F_q13z : FnT := ⟨1, ⟨[], [(0, .str)], [], []⟩, [.v .bool], []⟩
noncomputable def C_q13z : Code := bodyOf Tryz.f20
noncomputable def M_q13z : List (Nat × ArgM) := [(34, ⟨[], [], [], true⟩)]
instance : DfOk M_q13z := .none rfl
noncomputable def O_q13z {ρ : Type} : Orc ρ := orcCons 34 F_trim (trimN) (orcNil)
omit [QuietD Tryz.prog] [UDef] [UTabs] in
theorem O_q13z_ok {ρ : Type} : (O_q13z : Orc ρ).ok Tryz.prog := orcCons_ok (by kernel_rfl) (trimN_ok) (orcNil_ok)
noncomputable def L_q13z {ρ : Type} : LOrc ρ := lorcNil
omit [Tabs] [QuietD Tryz.prog] [UDef] [UTabs] in
theorem e_q13z (x) : evF Tryz.prog 23 TT M_q13z F_q13z (O_q13z) (L_q13z) dorcNil ⟨[], [], []⟩ [.tmp 2] C_q13z x = q13z x := by kernel_rfl
omit [UDef] [UTabs] in
theorem ok_q13z : Contract Tryz.prog 20 F_q13z (q13z) :=
  Contract.of_ev (c := C_q13z) (N := 23) Tryz.func20 (by kernel_rfl) (by kernel_rfl) (by kernel_rfl) (by kernel_rfl) (O_q13z_ok) dorcNil_ok (.of (l := []) (by kernel_rfl) trivial) (e_q13z)

noncomputable def C_q12z : Code := bodyOf Tryz.f8
noncomputable def M_q12z : List (Nat × ArgM) := [(20, ⟨[], [], [], true⟩), (6, ⟨[], [], [], true⟩)]
instance : DfOk M_q12z := .none rfl
noncomputable def O_q12z {ρ : Type} : Orc ρ := orcCons 20 F_q13z (q13z) (orcCons 6 F_q6z (q6z) (orcNil))
omit [UDef] in
theorem O_q12z_ok {ρ : Type} : (O_q12z : Orc ρ).ok Tryz.prog := orcCons_ok (by kernel_rfl) (ok_q13z) (orcCons_ok (by kernel_rfl) (ok_q6z) (orcNil_ok))
noncomputable def L_q12z {ρ : Type} : LOrc ρ := lorcNil
omit [Tabs] [QuietD Tryz.prog] [UDef] [UTabs] in
theorem e_q12z (x) : evF Tryz.prog 10 TT M_q12z F_q12z (O_q12z) (L_q12z) dorcNil ⟨[], [], []⟩ [.tmp 2] C_q12z x = q12z x := by kernel_rfl
omit [UDef] in
theorem ok_q12z : Contract Tryz.prog 8 F_q12z (q12z) :=
  Contract.of_ev (c := C_q12z) (N := 10) Tryz.func8 (by kernel_rfl) (by kernel_rfl) (by kernel_rfl) (by kernel_rfl) (O_q12z_ok) dorcNil_ok (.of (l := []) (by kernel_rfl) trivial) (e_q12z)

noncomputable def F_q4z : FnT := ⟨2, ⟨[], [(0, (.lst .str)), (1, (.lst .str))], [], []⟩, [.v .bool], []⟩
noncomputable def C_q4z : Code := bodyOf Tryz.f9
noncomputable def M_q4z : List (Nat × ArgM) := []
instance : DfOk M_q4z := .none rfl
noncomputable def O_q4z {ρ : Type} (n : Nat) : Orc ρ := orcNil
omit [QuietD Tryz.prog] [UDef] [UTabs] in
theorem O_q4z_ok {ρ : Type} (n : Nat) : (O_q4z n : Orc ρ).ok Tryz.prog := orcNil_ok
noncomputable def T_q4z_s0 : Tm := ⟨[], [(0, (.lst .str)), (1, (.lst .str)), (12, .i64), (13, .i64)], [], []⟩
noncomputable def X_q4z_s0 : Tm := ⟨[], [], [], []⟩
noncomputable def R_q4z_s0 : Tm := ⟨[], [(4, .bool)], [], []⟩
noncomputable def L_q4z_s0 {ρ : Type} (n : Nat) : LOrc ρ := lorcNil
omit [Tabs] [QuietD Tryz.prog] [UDef] [UTabs] in
theorem s_q4z_s0 {ρ : Type} (n : Nat) (rec : T_q4z_s0.den → Option ρ) kx kr s : dStep Tryz.prog 26 TT M_q4z (O_q4z n) (L_q4z_s0 n) (evDraw Tryz.prog 26 TT M_q4z (O_q4z n)) 0 (lbody 1000 C_q4z 0) T_q4z_s0 X_q4z_s0 R_q4z_s0 ⟨[], [], []⟩ rec kx kr s = q4z_s0 n rec kx kr s := by kernel_rfl
noncomputable def L_q4z {ρ : Type} (n : Nat) : LOrc ρ := lorcCons 0 (loopL 26 0 n T_q4z_s0 X_q4z_s0 R_q4z_s0 ⟨[], [], []⟩ (q4z_s0 n)) (lorcNil)
omit [Tabs] [QuietD Tryz.prog] [UDef] [UTabs] in
theorem e_q4z (n : Nat) (x) : evF Tryz.prog 26 TT M_q4z F_q4z (O_q4z n) (L_q4z n) (evDraw Tryz.prog 26 TT M_q4z (O_q4z n)) ⟨[], [], []⟩ [.tmp 4] C_q4z x = q4z n x := by kernel_rfl
omit [UDef] [UTabs] in
theorem ok_q4z (n : Nat) : Contract Tryz.prog 9 F_q4z (q4z n) :=
  Contract.of_ev (c := C_q4z) (N := 26) Tryz.func9 (by kernel_rfl) (by kernel_rfl) (by kernel_rfl) (by kernel_rfl) (O_q4z_ok n) (evDraw_ok (O_q4z_ok n) (by kernel_rfl)) (.of (l := [(0, (lbody 1000 C_q4z 0))]) (by kernel_rfl) ⟨.head (loopL_sound (O_q4z_ok n) (evDraw_ok (O_q4z_ok n) (by kernel_rfl)) (.of (l := []) (by kernel_rfl) trivial) (s_q4z_s0 n)), trivial⟩) (e_q4z n)

noncomputable def C_q7z : Code := bodyOf Tryz.f3
noncomputable def M_q7z : List (Nat × ArgM) := [(4, ⟨[], [], [], true⟩), (5, ⟨[], [], [], true⟩), (6, ⟨[], [], [], true⟩), (7, ⟨[], [], [], true⟩), (8, ⟨[], [], [], true⟩), (9, ⟨[], [], [], true⟩)]
instance : DfOk M_q7z := .none rfl
noncomputable def O_q7z {ρ : Type} (n : Nat) : Orc ρ := orcCons 4 F_q11z (q11z n) (orcCons 5 F_q29z (q29z n) (orcCons 6 F_q6z (q6z) (orcCons 7 F_term_Name (term_Name n) (orcCons 8 F_q12z (q12z) (orcCons 10 F_free (freeN) (orcCons 11 F_free (freeOfN) (orcCons 9 F_q4z (q4z n) (orcNil))))))))
omit [UDef] in
theorem O_q7z_ok {ρ : Type} (n : Nat) : (O_q7z n : Orc ρ).ok Tryz.prog := orcCons_ok (by kernel_rfl) (ok_q11z n) (orcCons_ok (by kernel_rfl) (ok_q29z n) (orcCons_ok (by kernel_rfl) (ok_q6z) (orcCons_ok (by kernel_rfl) (ok_term_Name n) (orcCons_ok (by kernel_rfl) (ok_q12z) (orcCons_ok (by kernel_rfl) (freeN_ok) (orcCons_ok (by kernel_rfl) (freeOfN_ok) (orcCons_ok (by kernel_rfl) (ok_q4z n) (orcNil_ok))))))))
noncomputable def L_q7z {ρ : Type} (n : Nat) : LOrc ρ := lorcNil
omit [Tabs] [QuietD Tryz.prog] [UDef] [UTabs] in
theorem e_q7z (n : Nat) (x) : evF Tryz.prog 27 TT M_q7z F_q7z (O_q7z n) (L_q7z n) (evDraw Tryz.prog 27 TT M_q7z (O_q7z n)) ⟨[], [], []⟩ [.tmp 4] C_q7z x = q7z n x := by kernel_rfl
omit [UDef] in
theorem ok_q7z (n : Nat) : Contract Tryz.prog 3 F_q7z (q7z n) :=
  Contract.of_ev (c := C_q7z) (N := 27) Tryz.func3 (by kernel_rfl) (by kernel_rfl) (by kernel_rfl) (by kernel_rfl) (O_q7z_ok n) (evDraw_ok (O_q7z_ok n) (by kernel_rfl)) (.of (l := []) (by kernel_rfl) trivial) (e_q7z n)

end Go.Proofs.YtpfhkokjpmkbkaaGreatDoor

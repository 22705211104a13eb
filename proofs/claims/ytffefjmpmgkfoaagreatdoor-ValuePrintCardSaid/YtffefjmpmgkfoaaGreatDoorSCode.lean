/- Each of these functions computes what its plain function computes (written by gen.py). -/
import Derived.Test.YtffefjmpmgkfoaaGreatDoorSBase
import Derived.Test.YtffefjmpmgkfoaaGreatDoorSP
import Derived.KernelRfl
import Derived.Test.YtffefjmpmgkfoaaGreatDoorEvDraw
import Derived.Test.YtffefjmpmgkfoaaGreatDoorEvQuiet
import Derived.WalkKit
import Derived.Test.YtffefjmpmgkfoaaGreatDoorPCode
namespace Go.Proofs.YtffefjmpmgkfoaaGreatDoor
open Go Esp Ev Pure
set_option linter.unusedSimpArgs false
set_option linter.unusedVariables false
set_option maxRecDepth 100000
set_option maxHeartbeats 1000000
theorem quiet_45 (args : Array Value) (w : World) : (callFunc 45 args).run Tryz.prog w = .ok (.enter 45 args) w ∧ CallsD Tryz.prog 45 args .returning w fun e u w' => u = .returning ∧ (∃ v, e = .returned v) ∧ w' = w :=
  quiet_closure (fn := Tryz.f45) (by kernel_rfl) rfl (by kernel_rfl) (by kernel_rfl) (by kernel_rfl) (by kernel_rfl) args w
def okds : List FuncId := [45]
theorem quiets : ∀ g ∈ okds, ∀ (args : Array Value) (w : World), (callFunc g args).run Tryz.prog w = .ok (.enter g args) w ∧ CallsD Tryz.prog g args .returning w fun e u w' => u = .returning ∧ (∃ v, e = .returned v) ∧ w' = w := by
  intro g hg args w
  simp only [okds, List.mem_cons, List.not_mem_nil, or_false] at hg
  rcases hg with rfl
  · exact quiet_45 args w
variable [Tabs]
class UDef : Prop where
  ok : ∀ g ∈ ([45] : List Nat), g ∈ Tabs.okd
variable [QuietD Tryz.prog] [UDef] [UTabs]
def TT : List (TypeId × Ty) := [(2, .i64), (3, .i64), (4, .bool), (5, .u8), (6, .u8), (9, .str), (10, .str), (11, .str), (12, .u64), (21, .i32), (22, (.lst .val)), (24, .val), (25, .i64), (32, (.lst .node)), (33, (.lst .edg)), (35, .graph), (43, (.lst .u8)), (56, (.lst .str)), (67, (.lst .prp)), (69, .prp), (73, .node), (75, .edg), (94, .u64), (105, .u32), (134, .u64), (144, (.lst .i64)), (195, .i64), (232, (.lst .i64)), (251, .u8), (252, .u8), (254, .i32), (255, .i32), (259, (.lst .u8))]

noncomputable def F_q7z : FnT := ⟨1, ⟨[], [(0, .val)], [], []⟩, [.v .bool], []⟩
noncomputable def F_q24z : FnT := ⟨1, ⟨[], [(0, .val)], [], []⟩, [.v .str, .v .i64], []⟩
noncomputable def F_q22z : FnT := ⟨1, ⟨[], [(0, .val)], [], []⟩, [.v .i64], []⟩
noncomputable def F_q25z : FnT := ⟨2, ⟨[], [(0, .val), (1, .i64)], [], []⟩, [.v .i64], []⟩
noncomputable def C_q25z : Code := bodyOf Tryz.f40
noncomputable def M_q25z : List (Nat × ArgM) := [(17, ⟨[], [], [], true⟩), (40, ⟨[], [], [], true⟩)]
instance : DfOk M_q25z := .none rfl
noncomputable def O_q25z {ρ : Type} (self_q25z : Ev.Val × Int × Unit → Option (Int × Unit)) (n : Nat) : Orc ρ := orcCons 17 F_valid (validN) (orcCons 40 F_q25z (self_q25z) (orcNil))
omit [QuietD Tryz.prog] [UDef] in
theorem O_q25z_ok {ρ : Type} (self_q25z : Ev.Val × Int × Unit → Option (Int × Unit)) (h_q25z : Contract Tryz.prog 40 F_q25z self_q25z) (n : Nat) : (O_q25z self_q25z n : Orc ρ).ok Tryz.prog := orcCons_ok (by kernel_rfl) (validN_ok) (orcCons_ok (by kernel_rfl) (h_q25z) (orcNil_ok))
noncomputable def T_q25z_s1 : Tm := ⟨[(2, .ptr 2 0)], [(1, .i64), (90, (.lst .val)), (91, .i64), (92, .i64)], [(2, .box [.d .val])], []⟩
noncomputable def X_q25z_s1 : Tm := ⟨[(2, .ptr 2 0)], [], [(2, .box [.d .val])], []⟩
noncomputable def R_q25z_s1 : Tm := ⟨[], [(4, .i64)], [], []⟩
noncomputable def L_q25z_s1 {ρ : Type} (self_q25z : Ev.Val × Int × Unit → Option (Int × Unit)) (n : Nat) : LOrc ρ := lorcNil
omit [Tabs] [QuietD Tryz.prog] [UDef] [UTabs] in
theorem s_q25z_s1 {ρ : Type} (self_q25z : Ev.Val × Int × Unit → Option (Int × Unit)) (n : Nat) (rec : T_q25z_s1.den → Option ρ) kx kr s : dStep Tryz.prog 114 TT M_q25z (O_q25z self_q25z n) (L_q25z_s1 self_q25z n) dorcNil 1 (lbody 1000 C_q25z 0) T_q25z_s1 X_q25z_s1 R_q25z_s1 ⟨[], [], []⟩ rec kx kr s = q25z_s1 self_q25z n rec kx kr s := by kernel_rfl
noncomputable def L_q25z {ρ : Type} (self_q25z : Ev.Val × Int × Unit → Option (Int × Unit)) (n : Nat) : LOrc ρ := lorcCons 1 (loopL 114 1 n T_q25z_s1 X_q25z_s1 R_q25z_s1 ⟨[], [], []⟩ (q25z_s1 self_q25z n)) (lorcNil)
omit [Tabs] [QuietD Tryz.prog] [UDef] [UTabs] in
theorem e_q25z (self_q25z : Ev.Val × Int × Unit → Option (Int × Unit)) (n : Nat) (x) : evF Tryz.prog 114 TT M_q25z F_q25z (O_q25z self_q25z n) (L_q25z self_q25z n) dorcNil ⟨[], [], []⟩ [.tmp 4] C_q25z x = q25z_b self_q25z n x := by kernel_rfl
omit [UDef] in
theorem okb_q25z (self_q25z : Ev.Val × Int × Unit → Option (Int × Unit)) (h_q25z : Contract Tryz.prog 40 F_q25z self_q25z) (n : Nat) : Contract Tryz.prog 40 F_q25z (q25z_b self_q25z n) :=
  Contract.of_ev (c := C_q25z) (N := 114) Tryz.func40 (by kernel_rfl) (by kernel_rfl) (by kernel_rfl) (by kernel_rfl) (O_q25z_ok self_q25z h_q25z n) dorcNil_ok (.of (l := [(1, (lbody 1000 C_q25z 0))]) (by kernel_rfl) ⟨.head (loopL_sound (O_q25z_ok self_q25z h_q25z n) dorcNil_ok (.of (l := []) (by kernel_rfl) trivial) (s_q25z_s1 self_q25z n)), trivial⟩) (e_q25z self_q25z n)
omit [UDef] in
theorem ok_q25z : ∀ n, Contract Tryz.prog 40 F_q25z (q25z n)
  | 0 => fun _ _ h => by cases h
  | n + 1 => okb_q25z _ (ok_q25z n) n

noncomputable def C_q22z : Code := bodyOf Tryz.f13
noncomputable def M_q22z : List (Nat × ArgM) := [(40, ⟨[], [], [], true⟩)]
instance : DfOk M_q22z := .none rfl
noncomputable def O_q22z {ρ : Type} (n : Nat) : Orc ρ := orcCons 40 F_q25z (q25z n) (orcNil)
omit [UDef] in
theorem O_q22z_ok {ρ : Type} (n : Nat) : (O_q22z n : Orc ρ).ok Tryz.prog := orcCons_ok (by kernel_rfl) (ok_q25z n) (orcNil_ok)
noncomputable def L_q22z {ρ : Type} (n : Nat) : LOrc ρ := lorcNil
omit [Tabs] [QuietD Tryz.prog] [UDef] [UTabs] in
theorem e_q22z (n : Nat) (x) : evF Tryz.prog 5 TT M_q22z F_q22z (O_q22z n) (L_q22z n) dorcNil ⟨[], [], []⟩ [.tmp 2] C_q22z x = q22z n x := by kernel_rfl
omit [UDef] in
theorem ok_q22z (n : Nat) : Contract Tryz.prog 13 F_q22z (q22z n) :=
  Contract.of_ev (c := C_q22z) (N := 5) Tryz.func13 (by kernel_rfl) (by kernel_rfl) (by kernel_rfl) (by kernel_rfl) (O_q22z_ok n) dorcNil_ok (.of (l := []) (by kernel_rfl) trivial) (e_q22z n)

noncomputable def F_q27z : FnT := ⟨2, ⟨[(0, .ptr 1000000 0)], [(1, .val)], [(1000000, .box [.ref (.pn 1000000), .ref (.own 1000001)] (some 45)), (1000001, .arr 5 .u8)], []⟩, [], [(1000000, .box [.ref (.pn 1000000), .ref (.own 1000001)] (some 45)), (1000001, .arr 5 .u8)]⟩
noncomputable def F_q2z : FnT := ⟨2, ⟨[(0, .ptr 1000000 0)], [(1, .str)], [(1000000, .box [.ref (.pn 1000000), .ref (.own 1000001)] (some 45)), (1000001, .arr 5 .u8)], []⟩, [.v .i64, .ref (.nili)], [(1000000, .box [.ref (.pn 1000000), .ref (.own 1000001)] (some 45)), (1000001, .arr 5 .u8)]⟩
noncomputable def C_q2z : Code := bodyOf Tryz.f29
noncomputable def M_q2z : List (Nat × ArgM) := [(57, ⟨[0], [], [], false⟩)]
instance : DfOk M_q2z := .none rfl
noncomputable def O_q2z {ρ : Type} : Orc ρ := orcCons 57 F_cc (copyCheckN) (orcNil)
omit [QuietD Tryz.prog] [UDef] [UTabs] in
theorem O_q2z_ok {ρ : Type} : (O_q2z : Orc ρ).ok Tryz.prog := orcCons_ok (by kernel_rfl) (copyCheckN_ok) (orcNil_ok)
noncomputable def L_q2z {ρ : Type} : LOrc ρ := lorcNil
omit [Tabs] [QuietD Tryz.prog] [UDef] [UTabs] in
theorem e_q2z (x) : evF Tryz.prog 19 TT M_q2z F_q2z (O_q2z) (L_q2z) dorcNil ⟨[], [], []⟩ [.tmp 4, .tmp 5] C_q2z x = q2z x := by kernel_rfl
omit [UDef] [UTabs] in
theorem ok_q2z : Contract Tryz.prog 29 F_q2z (q2z) :=
  Contract.of_ev (c := C_q2z) (N := 19) Tryz.func29 (by kernel_rfl) (by kernel_rfl) (by kernel_rfl) (by kernel_rfl) (O_q2z_ok) dorcNil_ok (.of (l := []) (by kernel_rfl) trivial) (e_q2z)

noncomputable def F_q15z : FnT := ⟨1, ⟨[], [(0, .bool)], [], []⟩, [.v .str], []⟩
noncomputable def F_q3z : FnT := ⟨1, ⟨[], [(0, .bool)], [], []⟩, [.v .str], []⟩
noncomputable def C_q3z : Code := bodyOf Tryz.f68
noncomputable def M_q3z : List (Nat × ArgM) := []
instance : DfOk M_q3z := .none rfl
noncomputable def O_q3z {ρ : Type} : Orc ρ := orcNil
omit [QuietD Tryz.prog] [UDef] [UTabs] in
theorem O_q3z_ok {ρ : Type} : (O_q3z : Orc ρ).ok Tryz.prog := orcNil_ok
noncomputable def L_q3z {ρ : Type} : LOrc ρ := lorcNil
omit [Tabs] [QuietD Tryz.prog] [UDef] [UTabs] in
theorem e_q3z (x) : evF Tryz.prog 4 TT M_q3z F_q3z (O_q3z) (L_q3z) dorcNil ⟨[], [], []⟩ [.tmp 2] C_q3z x = q3z x := by kernel_rfl
omit [UDef] [UTabs] in
theorem ok_q3z : Contract Tryz.prog 68 F_q3z (q3z) :=
  Contract.of_ev (c := C_q3z) (N := 4) Tryz.func68 (by kernel_rfl) (by kernel_rfl) (by kernel_rfl) (by kernel_rfl) (O_q3z_ok) dorcNil_ok (.of (l := []) (by kernel_rfl) trivial) (e_q3z)

noncomputable def C_q15z : Code := bodyOf Tryz.f41
noncomputable def M_q15z : List (Nat × ArgM) := [(68, ⟨[], [], [], true⟩)]
instance : DfOk M_q15z := .none rfl
noncomputable def O_q15z {ρ : Type} : Orc ρ := orcCons 68 F_q3z (q3z) (orcNil)
omit [UDef] [UTabs] in
theorem O_q15z_ok {ρ : Type} : (O_q15z : Orc ρ).ok Tryz.prog := orcCons_ok (by kernel_rfl) (ok_q3z) (orcNil_ok)
noncomputable def L_q15z {ρ : Type} : LOrc ρ := lorcNil
omit [Tabs] [QuietD Tryz.prog] [UDef] [UTabs] in
theorem e_q15z (x) : evF Tryz.prog 5 TT M_q15z F_q15z (O_q15z) (L_q15z) dorcNil ⟨[], [], []⟩ [.tmp 2] C_q15z x = q15z x := by kernel_rfl
omit [UDef] [UTabs] in
theorem ok_q15z : Contract Tryz.prog 41 F_q15z (q15z) :=
  Contract.of_ev (c := C_q15z) (N := 5) Tryz.func41 (by kernel_rfl) (by kernel_rfl) (by kernel_rfl) (by kernel_rfl) (O_q15z_ok) dorcNil_ok (.of (l := []) (by kernel_rfl) trivial) (e_q15z)

noncomputable def F_q4z : FnT := ⟨2, ⟨[(0, .ptr 1000000 0)], [(1, .u8)], [(1000000, .box [.ref (.pn 1000000), .ref (.own 1000001)] (some 45)), (1000001, .arr 5 .u8)], []⟩, [.ref (.nili)], [(1000000, .box [.ref (.pn 1000000), .ref (.own 1000001)] (some 45)), (1000001, .arr 5 .u8)]⟩
noncomputable def C_q4z : Code := bodyOf Tryz.f42
noncomputable def M_q4z : List (Nat × ArgM) := [(57, ⟨[0], [], [], false⟩)]
instance : DfOk M_q4z := .none rfl
noncomputable def O_q4z {ρ : Type} : Orc ρ := orcCons 57 F_cc (copyCheckN) (orcNil)
omit [QuietD Tryz.prog] [UDef] [UTabs] in
theorem O_q4z_ok {ρ : Type} : (O_q4z : Orc ρ).ok Tryz.prog := orcCons_ok (by kernel_rfl) (copyCheckN_ok) (orcNil_ok)
noncomputable def L_q4z {ρ : Type} : LOrc ρ := lorcNil
omit [Tabs] [QuietD Tryz.prog] [UDef] [UTabs] in
theorem e_q4z (x) : evF Tryz.prog 17 TT M_q4z F_q4z (O_q4z) (L_q4z) dorcNil ⟨[], [], []⟩ [.tmp 4] C_q4z x = q4z x := by kernel_rfl
omit [UDef] [UTabs] in
theorem ok_q4z : Contract Tryz.prog 42 F_q4z (q4z) :=
  Contract.of_ev (c := C_q4z) (N := 17) Tryz.func42 (by kernel_rfl) (by kernel_rfl) (by kernel_rfl) (by kernel_rfl) (O_q4z_ok) dorcNil_ok (.of (l := []) (by kernel_rfl) trivial) (e_q4z)

noncomputable def F_q5z : FnT := ⟨2, ⟨[(0, .ptr 1000000 0)], [(1, .i32)], [(1000000, .box [.ref (.pn 1000000), .ref (.own 1000001)] (some 45)), (1000001, .arr 5 .u8)], []⟩, [.v .i64, .ref (.nili)], [(1000000, .box [.ref (.pn 1000000), .ref (.own 1000001)] (some 45)), (1000001, .arr 5 .u8)]⟩
noncomputable def F_q6z : FnT := ⟨2, ⟨[(0, .own 1000000)], [(1, .i32)], [(1000000, .arr 5 .u8)], []⟩, [.ref (.own 1000000)], [(1000000, .arr 5 .u8)]⟩
noncomputable def F_q0z : FnT := ⟨2, ⟨[(0, .own 1000000)], [(1, .i32)], [(1000000, .arr 5 .u8)], []⟩, [.ref (.own 1000000)], [(1000000, .arr 5 .u8)]⟩
noncomputable def C_q0z : Code := bodyOf Tryz.f99
noncomputable def M_q0z : List (Nat × ArgM) := []
instance : DfOk M_q0z := .none rfl
noncomputable def O_q0z {ρ : Type} : Orc ρ := orcNil
omit [QuietD Tryz.prog] [UDef] [UTabs] in
theorem O_q0z_ok {ρ : Type} : (O_q0z : Orc ρ).ok Tryz.prog := orcNil_ok
noncomputable def L_q0z {ρ : Type} : LOrc ρ := lorcNil
omit [Tabs] [QuietD Tryz.prog] [UDef] [UTabs] in
theorem e_q0z (x) : evF Tryz.prog 78 TT M_q0z F_q0z (O_q0z) (L_q0z) dorcNil ⟨[], [], []⟩ [.tmp 4] C_q0z x = q0z x := by kernel_rfl
omit [UDef] [UTabs] in
theorem ok_q0z : Contract Tryz.prog 99 F_q0z (q0z) :=
  Contract.of_ev (c := C_q0z) (N := 78) Tryz.func99 (by kernel_rfl) (by kernel_rfl) (by kernel_rfl) (by kernel_rfl) (O_q0z_ok) dorcNil_ok (.of (l := []) (by kernel_rfl) trivial) (e_q0z)

noncomputable def C_q6z : Code := bodyOf Tryz.f69
noncomputable def M_q6z : List (Nat × ArgM) := [(99, ⟨[0], [⟨0, 1000000, 5, 1⟩], [], false⟩)]
instance : DfOk M_q6z := .none rfl
noncomputable def O_q6z {ρ : Type} : Orc ρ := orcCons 99 F_q0z (q0z) (orcNil)
omit [UDef] [UTabs] in
theorem O_q6z_ok {ρ : Type} : (O_q6z : Orc ρ).ok Tryz.prog := orcCons_ok (by kernel_rfl) (ok_q0z) (orcNil_ok)
noncomputable def L_q6z {ρ : Type} : LOrc ρ := lorcNil
omit [Tabs] [QuietD Tryz.prog] [UDef] [UTabs] in
theorem e_q6z (x) : evF Tryz.prog 16 TT M_q6z F_q6z (O_q6z) (L_q6z) dorcNil ⟨[], [], []⟩ [.tmp 4] C_q6z x = q6z x := by kernel_rfl
omit [UDef] [UTabs] in
theorem ok_q6z : Contract Tryz.prog 69 F_q6z (q6z) :=
  Contract.of_ev (c := C_q6z) (N := 16) Tryz.func69 (by kernel_rfl) (by kernel_rfl) (by kernel_rfl) (by kernel_rfl) (O_q6z_ok) dorcNil_ok (.of (l := []) (by kernel_rfl) trivial) (e_q6z)

noncomputable def C_q5z : Code := bodyOf Tryz.f43
noncomputable def M_q5z : List (Nat × ArgM) := [(57, ⟨[0], [], [], false⟩), (69, ⟨[0], [⟨0, 1000000, 5, 1⟩], [], false⟩)]
instance : DfOk M_q5z := .none rfl
noncomputable def O_q5z {ρ : Type} : Orc ρ := orcCons 57 F_cc (copyCheckN) (orcCons 69 F_q6z (q6z) (orcNil))
omit [UDef] [UTabs] in
theorem O_q5z_ok {ρ : Type} : (O_q5z : Orc ρ).ok Tryz.prog := orcCons_ok (by kernel_rfl) (copyCheckN_ok) (orcCons_ok (by kernel_rfl) (ok_q6z) (orcNil_ok))
noncomputable def L_q5z {ρ : Type} : LOrc ρ := lorcNil
omit [Tabs] [QuietD Tryz.prog] [UDef] [UTabs] in
theorem e_q5z (x) : evF Tryz.prog 30 TT M_q5z F_q5z (O_q5z) (L_q5z) dorcNil ⟨[], [], []⟩ [.tmp 4, .tmp 5] C_q5z x = q5z x := by kernel_rfl
omit [UDef] [UTabs] in
theorem ok_q5z : Contract Tryz.prog 43 F_q5z (q5z) :=
  Contract.of_ev (c := C_q5z) (N := 30) Tryz.func43 (by kernel_rfl) (by kernel_rfl) (by kernel_rfl) (by kernel_rfl) (O_q5z_ok) dorcNil_ok (.of (l := []) (by kernel_rfl) trivial) (e_q5z)

noncomputable def C_q27z : Code := bodyOf Tryz.f14
noncomputable def M_q27z : List (Nat × ArgM) := [(29, ⟨[0], [], [], false⟩), (42, ⟨[0], [], [], false⟩), (43, ⟨[0], [], [], false⟩), (14, ⟨[0], [], [], false⟩), (41, ⟨[], [], [], true⟩), (31, ⟨[], [], [], true⟩)]
instance : DfOk M_q27z := .none rfl
noncomputable def O_q27z {ρ : Type} (self_q27z : Ev.Val × Unit × (List Int) × Unit → Option (Unit × (List Int) × Unit)) (n : Nat) : Orc ρ := orcCons 29 F_q2z (q2z) (orcCons 41 F_q15z (q15z) (orcCons 31 F_itoa (itoaN) (orcCons 42 F_q4z (q4z) (orcCons 43 F_q5z (q5z) (orcCons 14 F_q27z (self_q27z) (orcNil))))))
omit [UDef] in
theorem O_q27z_ok {ρ : Type} (self_q27z : Ev.Val × Unit × (List Int) × Unit → Option (Unit × (List Int) × Unit)) (h_q27z : Contract Tryz.prog 14 F_q27z self_q27z) (n : Nat) : (O_q27z self_q27z n : Orc ρ).ok Tryz.prog := orcCons_ok (by kernel_rfl) (ok_q2z) (orcCons_ok (by kernel_rfl) (ok_q15z) (orcCons_ok (by kernel_rfl) (itoaN_ok) (orcCons_ok (by kernel_rfl) (ok_q4z) (orcCons_ok (by kernel_rfl) (ok_q5z) (orcCons_ok (by kernel_rfl) (h_q27z) (orcNil_ok))))))
noncomputable def T_q27z_s1 : Tm := ⟨[(0, .ptr 1000000 0), (35, .ptr 35 0)], [], [(35, .it), (1000000, .box [.ref (.pn 1000000), .ref (.own 1000001)] (some 45)), (1000001, .arr 5 .u8)], []⟩
noncomputable def X_q27z_s1 : Tm := ⟨[(0, .ptr 1000000 0)], [], [(1000000, .box [.ref (.pn 1000000), .ref (.own 1000001)] (some 45)), (1000001, .arr 5 .u8)], []⟩
noncomputable def R_q27z_s1 : Tm := ⟨[], [], [], []⟩
noncomputable def L_q27z_s1 {ρ : Type} (self_q27z : Ev.Val × Unit × (List Int) × Unit → Option (Unit × (List Int) × Unit)) (n : Nat) : LOrc ρ := lorcNil
omit [Tabs] [QuietD Tryz.prog] [UDef] [UTabs] in
theorem s_q27z_s1 {ρ : Type} (self_q27z : Ev.Val × Unit × (List Int) × Unit → Option (Unit × (List Int) × Unit)) (n : Nat) (rec : T_q27z_s1.den → Option ρ) kx kr s : dStep Tryz.prog 76 TT M_q27z (O_q27z self_q27z n) (L_q27z_s1 self_q27z n) dorcNil 1 (lbody 1000 C_q27z 0) T_q27z_s1 X_q27z_s1 R_q27z_s1 ⟨[], [], []⟩ rec kx kr s = q27z_s1 self_q27z n rec kx kr s := by kernel_rfl
noncomputable def T_q27z_s4 : Tm := ⟨[(0, .ptr 1000000 0)], [(59, (.lst .val)), (60, .i64), (61, .i64)], [(1000000, .box [.ref (.pn 1000000), .ref (.own 1000001)] (some 45)), (1000001, .arr 5 .u8)], []⟩
noncomputable def X_q27z_s4 : Tm := ⟨[(0, .ptr 1000000 0)], [], [(1000000, .box [.ref (.pn 1000000), .ref (.own 1000001)] (some 45)), (1000001, .arr 5 .u8)], []⟩
noncomputable def R_q27z_s4 : Tm := ⟨[], [], [], []⟩
noncomputable def L_q27z_s4 {ρ : Type} (self_q27z : Ev.Val × Unit × (List Int) × Unit → Option (Unit × (List Int) × Unit)) (n : Nat) : LOrc ρ := lorcNil
omit [Tabs] [QuietD Tryz.prog] [UDef] [UTabs] in
theorem s_q27z_s4 {ρ : Type} (self_q27z : Ev.Val × Unit × (List Int) × Unit → Option (Unit × (List Int) × Unit)) (n : Nat) (rec : T_q27z_s4.den → Option ρ) kx kr s : dStep Tryz.prog 76 TT M_q27z (O_q27z self_q27z n) (L_q27z_s4 self_q27z n) dorcNil 4 (lbody 1000 C_q27z 1) T_q27z_s4 X_q27z_s4 R_q27z_s4 ⟨[], [], []⟩ rec kx kr s = q27z_s4 self_q27z n rec kx kr s := by kernel_rfl
noncomputable def L_q27z {ρ : Type} (self_q27z : Ev.Val × Unit × (List Int) × Unit → Option (Unit × (List Int) × Unit)) (n : Nat) : LOrc ρ := lorcCons 1 (loopL 76 1 n T_q27z_s1 X_q27z_s1 R_q27z_s1 ⟨[], [], []⟩ (q27z_s1 self_q27z n)) (lorcCons 4 (loopL 76 4 n T_q27z_s4 X_q27z_s4 R_q27z_s4 ⟨[], [], []⟩ (q27z_s4 self_q27z n)) (lorcNil))
omit [Tabs] [QuietD Tryz.prog] [UDef] [UTabs] in
theorem e_q27z (self_q27z : Ev.Val × Unit × (List Int) × Unit → Option (Unit × (List Int) × Unit)) (n : Nat) (x) : evF Tryz.prog 76 TT M_q27z F_q27z (O_q27z self_q27z n) (L_q27z self_q27z n) dorcNil ⟨[], [], []⟩ [] C_q27z x = q27z_b self_q27z n x := by kernel_rfl
omit [UDef] in
theorem okb_q27z (self_q27z : Ev.Val × Unit × (List Int) × Unit → Option (Unit × (List Int) × Unit)) (h_q27z : Contract Tryz.prog 14 F_q27z self_q27z) (n : Nat) : Contract Tryz.prog 14 F_q27z (q27z_b self_q27z n) :=
  Contract.of_ev (c := C_q27z) (N := 76) Tryz.func14 (by kernel_rfl) (by kernel_rfl) (by kernel_rfl) (by kernel_rfl) (O_q27z_ok self_q27z h_q27z n) dorcNil_ok (.of (l := [(1, (lbody 1000 C_q27z 0)), (4, (lbody 1000 C_q27z 1))]) (by kernel_rfl) ⟨.head (loopL_sound (O_q27z_ok self_q27z h_q27z n) dorcNil_ok (.of (l := []) (by kernel_rfl) trivial) (s_q27z_s1 self_q27z n)), ⟨.tail rfl (.head (loopL_sound (O_q27z_ok self_q27z h_q27z n) dorcNil_ok (.of (l := []) (by kernel_rfl) trivial) (s_q27z_s4 self_q27z n))), trivial⟩⟩) (e_q27z self_q27z n)
omit [UDef] in
theorem ok_q27z : ∀ n, Contract Tryz.prog 14 F_q27z (q27z n)
  | 0 => fun _ _ h => by cases h
  | n + 1 => okb_q27z _ (ok_q27z n) n

noncomputable def F_q10z : FnT := ⟨1, ⟨[(0, .ptr 1000000 0)], [], [(1000000, .box [.ref (.pn 1000000), .ref (.own 1000001)] (some 45)), (1000001, .arr 5 .u8)], []⟩, [.v .i64], [(1000000, .box [.ref (.pn 1000000), .ref (.own 1000001)] (some 45)), (1000001, .arr 5 .u8)]⟩
noncomputable def C_q10z : Code := bodyOf Tryz.f15
noncomputable def M_q10z : List (Nat × ArgM) := []
instance : DfOk M_q10z := .none rfl
noncomputable def O_q10z {ρ : Type} : Orc ρ := orcNil
omit [QuietD Tryz.prog] [UDef] [UTabs] in
theorem O_q10z_ok {ρ : Type} : (O_q10z : Orc ρ).ok Tryz.prog := orcNil_ok
noncomputable def L_q10z {ρ : Type} : LOrc ρ := lorcNil
omit [Tabs] [QuietD Tryz.prog] [UDef] [UTabs] in
theorem e_q10z (x) : evF Tryz.prog 8 TT M_q10z F_q10z (O_q10z) (L_q10z) dorcNil ⟨[], [], []⟩ [.tmp 2] C_q10z x = q10z x := by kernel_rfl
omit [UDef] [UTabs] in
theorem ok_q10z : Contract Tryz.prog 15 F_q10z (q10z) :=
  Contract.of_ev (c := C_q10z) (N := 8) Tryz.func15 (by kernel_rfl) (by kernel_rfl) (by kernel_rfl) (by kernel_rfl) (O_q10z_ok) dorcNil_ok (.of (l := []) (by kernel_rfl) trivial) (e_q10z)

noncomputable def C_q24z : Code := bodyOf Tryz.f5
noncomputable def M_q24z : List (Nat × ArgM) := [(999999996, ⟨[45, 5], [], [], false⟩), (14, ⟨[0], [], [], false⟩), (15, ⟨[0], [], [], false⟩), (16, ⟨[0], [], [], false⟩), (13, ⟨[], [], [], true⟩)]
instance : DfOk M_q24z := .none rfl
noncomputable def O_q24z {ρ : Type} (n : Nat) : Orc ρ := orcCons 13 F_q22z (q22z n) (orcCons 14 F_q27z (q27z n) (orcCons 15 F_q10z (q10z) (orcCons 16 F_st (stringN) (orcNil))))
omit [UDef] in
theorem O_q24z_ok {ρ : Type} (n : Nat) : (O_q24z n : Orc ρ).ok Tryz.prog := orcCons_ok (by kernel_rfl) (ok_q22z n) (orcCons_ok (by kernel_rfl) (ok_q27z n) (orcCons_ok (by kernel_rfl) (ok_q10z) (orcCons_ok (by kernel_rfl) (stringN_ok) (orcNil_ok))))
noncomputable def L_q24z {ρ : Type} (n : Nat) : LOrc ρ := lorcNil
omit [Tabs] [QuietD Tryz.prog] [UDef] [UTabs] in
theorem e_q24z (n : Nat) (x) : evF Tryz.prog 16 TT M_q24z F_q24z (O_q24z n) (L_q24z n) dorcNil ⟨[], [], []⟩ [.tmp 2, .tmp 3] C_q24z x = q24z n x := by kernel_rfl
omit [UDef] in
theorem ok_q24z (n : Nat) : Contract Tryz.prog 5 F_q24z (q24z n) :=
  Contract.of_ev (c := C_q24z) (N := 16) Tryz.func5 (by kernel_rfl) (by kernel_rfl) (by kernel_rfl) (by kernel_rfl) (O_q24z_ok n) dorcNil_ok (.of (l := []) (by kernel_rfl) trivial) (e_q24z n)

noncomputable def F_q8z : FnT := ⟨2, ⟨[], [(0, .val), (1, .i64)], [], []⟩, [.v .i64], []⟩
noncomputable def C_q8z : Code := bodyOf Tryz.f6
noncomputable def M_q8z : List (Nat × ArgM) := [(6, ⟨[], [], [], true⟩), (17, ⟨[], [], [], true⟩)]
instance : DfOk M_q8z := .none rfl
noncomputable def O_q8z {ρ : Type} (self_q8z : Ev.Val × Int × Unit → Option (Int × Unit)) (n : Nat) : Orc ρ := orcCons 6 F_q8z (self_q8z) (orcCons 17 F_valid (validN) (orcNil))
omit [QuietD Tryz.prog] [UDef] in
theorem O_q8z_ok {ρ : Type} (self_q8z : Ev.Val × Int × Unit → Option (Int × Unit)) (h_q8z : Contract Tryz.prog 6 F_q8z self_q8z) (n : Nat) : (O_q8z self_q8z n : Orc ρ).ok Tryz.prog := orcCons_ok (by kernel_rfl) (h_q8z) (orcCons_ok (by kernel_rfl) (validN_ok) (orcNil_ok))
noncomputable def T_q8z_s1 : Tm := ⟨[], [(1, .i64), (5, .bool), (6, .bool), (34, (.lst .val)), (35, .i64), (36, .i64)], [], []⟩
noncomputable def X_q8z_s1 : Tm := ⟨[], [(5, .bool), (6, .bool)], [], []⟩
noncomputable def R_q8z_s1 : Tm := ⟨[], [(4, .i64)], [], []⟩
noncomputable def L_q8z_s1 {ρ : Type} (self_q8z : Ev.Val × Int × Unit → Option (Int × Unit)) (n : Nat) : LOrc ρ := lorcNil
omit [Tabs] [QuietD Tryz.prog] [UDef] [UTabs] in
theorem s_q8z_s1 {ρ : Type} (self_q8z : Ev.Val × Int × Unit → Option (Int × Unit)) (n : Nat) (rec : T_q8z_s1.den → Option ρ) kx kr s : dStep Tryz.prog 96 TT M_q8z (O_q8z self_q8z n) (L_q8z_s1 self_q8z n) (evDraw Tryz.prog 96 TT M_q8z (O_q8z self_q8z n)) 1 (lbody 1000 C_q8z 0) T_q8z_s1 X_q8z_s1 R_q8z_s1 ⟨[], [], []⟩ rec kx kr s = q8z_s1 self_q8z n rec kx kr s := by kernel_rfl
noncomputable def L_q8z {ρ : Type} (self_q8z : Ev.Val × Int × Unit → Option (Int × Unit)) (n : Nat) : LOrc ρ := lorcCons 1 (loopL 96 1 n T_q8z_s1 X_q8z_s1 R_q8z_s1 ⟨[], [], []⟩ (q8z_s1 self_q8z n)) (lorcNil)
omit [Tabs] [QuietD Tryz.prog] [UDef] [UTabs] in
theorem e_q8z (self_q8z : Ev.Val × Int × Unit → Option (Int × Unit)) (n : Nat) (x) : evF Tryz.prog 96 TT M_q8z F_q8z (O_q8z self_q8z n) (L_q8z self_q8z n) (evDraw Tryz.prog 96 TT M_q8z (O_q8z self_q8z n)) ⟨[], [], []⟩ [.tmp 4] C_q8z x = q8z_b self_q8z n x := by kernel_rfl
omit [UDef] in
theorem okb_q8z (self_q8z : Ev.Val × Int × Unit → Option (Int × Unit)) (h_q8z : Contract Tryz.prog 6 F_q8z self_q8z) (n : Nat) : Contract Tryz.prog 6 F_q8z (q8z_b self_q8z n) :=
  Contract.of_ev (c := C_q8z) (N := 96) Tryz.func6 (by kernel_rfl) (by kernel_rfl) (by kernel_rfl) (by kernel_rfl) (O_q8z_ok self_q8z h_q8z n) (evDraw_ok (O_q8z_ok self_q8z h_q8z n) (by kernel_rfl)) (.of (l := [(1, (lbody 1000 C_q8z 0))]) (by kernel_rfl) ⟨.head (loopL_sound (O_q8z_ok self_q8z h_q8z n) (evDraw_ok (O_q8z_ok self_q8z h_q8z n) (by kernel_rfl)) (.of (l := []) (by kernel_rfl) trivial) (s_q8z_s1 self_q8z n)), trivial⟩) (e_q8z self_q8z n)
omit [UDef] in
theorem ok_q8z : ∀ n, Contract Tryz.prog 6 F_q8z (q8z n)
  | 0 => fun _ _ h => by cases h
  | n + 1 => okb_q8z _ (ok_q8z n) n

noncomputable def F_q13z : FnT := ⟨0, ⟨[], [], [], []⟩, [.v .bool], []⟩
noncomputable def F_q19z : FnT := ⟨1, ⟨[], [(0, .i64)], [], []⟩, [.v .val], []⟩
noncomputable def C_q19z : Code := bodyOf Tryz.f19
noncomputable def M_q19z : List (Nat × ArgM) := []
instance : DfOk M_q19z := .none rfl
noncomputable def O_q19z {ρ : Type} : Orc ρ := orcNil
omit [QuietD Tryz.prog] [UDef] [UTabs] in
theorem O_q19z_ok {ρ : Type} : (O_q19z : Orc ρ).ok Tryz.prog := orcNil_ok
noncomputable def L_q19z {ρ : Type} : LOrc ρ := lorcNil
omit [Tabs] [QuietD Tryz.prog] [UDef] [UTabs] in
theorem e_q19z (x) : evF Tryz.prog 5 TT M_q19z F_q19z (O_q19z) (L_q19z) dorcNil ⟨[], [], []⟩ [.cell 2 24] C_q19z x = q19z x := by kernel_rfl
omit [UDef] [UTabs] in
theorem ok_q19z : Contract Tryz.prog 19 F_q19z (q19z) :=
  Contract.of_ev (c := C_q19z) (N := 5) Tryz.func19 (by kernel_rfl) (by kernel_rfl) (by kernel_rfl) (by kernel_rfl) (O_q19z_ok) dorcNil_ok (.of (l := []) (by kernel_rfl) trivial) (e_q19z)

noncomputable def F_q20z : FnT := ⟨1, ⟨[], [(0, .str)], [], []⟩, [.v .val], []⟩
noncomputable def C_q20z : Code := bodyOf Tryz.f20
noncomputable def M_q20z : List (Nat × ArgM) := []
instance : DfOk M_q20z := .none rfl
noncomputable def O_q20z {ρ : Type} : Orc ρ := orcNil
omit [QuietD Tryz.prog] [UDef] [UTabs] in
theorem O_q20z_ok {ρ : Type} : (O_q20z : Orc ρ).ok Tryz.prog := orcNil_ok
noncomputable def L_q20z {ρ : Type} : LOrc ρ := lorcNil
omit [Tabs] [QuietD Tryz.prog] [UDef] [UTabs] in
theorem e_q20z (x) : evF Tryz.prog 5 TT M_q20z F_q20z (O_q20z) (L_q20z) dorcNil ⟨[], [], []⟩ [.cell 2 24] C_q20z x = q20z x := by kernel_rfl
omit [UDef] [UTabs] in
theorem ok_q20z : Contract Tryz.prog 20 F_q20z (q20z) :=
  Contract.of_ev (c := C_q20z) (N := 5) Tryz.func20 (by kernel_rfl) (by kernel_rfl) (by kernel_rfl) (by kernel_rfl) (O_q20z_ok) dorcNil_ok (.of (l := []) (by kernel_rfl) trivial) (e_q20z)

noncomputable def F_q18z : FnT := ⟨1, ⟨[], [(0, (.lst .val))], [], []⟩, [.v .val], []⟩
noncomputable def C_q18z : Code := bodyOf Tryz.f18
noncomputable def M_q18z : List (Nat × ArgM) := []
instance : DfOk M_q18z := .none rfl
noncomputable def O_q18z {ρ : Type} : Orc ρ := orcNil
omit [QuietD Tryz.prog] [UDef] [UTabs] in
theorem O_q18z_ok {ρ : Type} : (O_q18z : Orc ρ).ok Tryz.prog := orcNil_ok
noncomputable def L_q18z {ρ : Type} : LOrc ρ := lorcNil
omit [Tabs] [QuietD Tryz.prog] [UDef] [UTabs] in
theorem e_q18z (x) : evF Tryz.prog 5 TT M_q18z F_q18z (O_q18z) (L_q18z) dorcNil ⟨[], [], []⟩ [.cell 2 24] C_q18z x = q18z x := by kernel_rfl
omit [UDef] [UTabs] in
theorem ok_q18z : Contract Tryz.prog 18 F_q18z (q18z) :=
  Contract.of_ev (c := C_q18z) (N := 5) Tryz.func18 (by kernel_rfl) (by kernel_rfl) (by kernel_rfl) (by kernel_rfl) (O_q18z_ok) dorcNil_ok (.of (l := []) (by kernel_rfl) trivial) (e_q18z)

noncomputable def F_q23z : FnT := ⟨1, ⟨[], [(0, .str)], [], []⟩, [.v .val, .v .i64, .v .i64], []⟩
noncomputable def F_q12z : FnT := ⟨2, ⟨[(0, .ptr 1000000 0)], [(1, .i64)], [(1000000, .box [.d .str, .d .i64])], []⟩, [.v .val], [(1000000, .box [.d .str, .d .i64])]⟩
noncomputable def F_q16z : FnT := ⟨2, ⟨[(0, .ptr 1000000 0)], [(1, .str)], [(1000000, .box [.d .str, .d .i64])], []⟩, [.v .bool], [(1000000, .box [.d .str, .d .i64])]⟩
noncomputable def F_q17z : FnT := ⟨2, ⟨[], [(0, .str), (1, .str)], [], []⟩, [.v .bool], []⟩
noncomputable def F_q1z : FnT := ⟨2, ⟨[], [(0, .str), (1, .str)], [], []⟩, [.v .bool], []⟩
noncomputable def C_q1z : Code := bodyOf Tryz.f123
noncomputable def M_q1z : List (Nat × ArgM) := []
instance : DfOk M_q1z := .none rfl
noncomputable def O_q1z {ρ : Type} : Orc ρ := orcNil
omit [QuietD Tryz.prog] [UDef] [UTabs] in
theorem O_q1z_ok {ρ : Type} : (O_q1z : Orc ρ).ok Tryz.prog := orcNil_ok
noncomputable def L_q1z {ρ : Type} : LOrc ρ := lorcNil
omit [Tabs] [QuietD Tryz.prog] [UDef] [UTabs] in
theorem e_q1z (x) : evF Tryz.prog 18 TT M_q1z F_q1z (O_q1z) (L_q1z) dorcNil ⟨[], [], []⟩ [.tmp 4] C_q1z x = q1z x := by kernel_rfl
omit [UDef] [UTabs] in
theorem ok_q1z : Contract Tryz.prog 123 F_q1z (q1z) :=
  Contract.of_ev (c := C_q1z) (N := 18) Tryz.func123 (by kernel_rfl) (by kernel_rfl) (by kernel_rfl) (by kernel_rfl) (O_q1z_ok) dorcNil_ok (.of (l := []) (by kernel_rfl) trivial) (e_q1z)

noncomputable def C_q17z : Code := bodyOf Tryz.f95
noncomputable def M_q17z : List (Nat × ArgM) := [(123, ⟨[], [], [], true⟩)]
instance : DfOk M_q17z := .none rfl
noncomputable def O_q17z {ρ : Type} : Orc ρ := orcCons 123 F_q1z (q1z) (orcNil)
omit [UDef] [UTabs] in
theorem O_q17z_ok {ρ : Type} : (O_q17z : Orc ρ).ok Tryz.prog := orcCons_ok (by kernel_rfl) (ok_q1z) (orcNil_ok)
noncomputable def L_q17z {ρ : Type} : LOrc ρ := lorcNil
omit [Tabs] [QuietD Tryz.prog] [UDef] [UTabs] in
theorem e_q17z (x) : evF Tryz.prog 8 TT M_q17z F_q17z (O_q17z) (L_q17z) dorcNil ⟨[], [], []⟩ [.tmp 4] C_q17z x = q17z x := by kernel_rfl
omit [UDef] [UTabs] in
theorem ok_q17z : Contract Tryz.prog 95 F_q17z (q17z) :=
  Contract.of_ev (c := C_q17z) (N := 8) Tryz.func95 (by kernel_rfl) (by kernel_rfl) (by kernel_rfl) (by kernel_rfl) (O_q17z_ok) dorcNil_ok (.of (l := []) (by kernel_rfl) trivial) (e_q17z)

noncomputable def C_q16z : Code := bodyOf Tryz.f70
noncomputable def M_q16z : List (Nat × ArgM) := [(95, ⟨[], [], [], true⟩)]
instance : DfOk M_q16z := .none rfl
noncomputable def O_q16z {ρ : Type} : Orc ρ := orcCons 95 F_q17z (q17z) (orcNil)
omit [UDef] [UTabs] in
theorem O_q16z_ok {ρ : Type} : (O_q16z : Orc ρ).ok Tryz.prog := orcCons_ok (by kernel_rfl) (ok_q17z) (orcNil_ok)
noncomputable def L_q16z {ρ : Type} : LOrc ρ := lorcNil
omit [Tabs] [QuietD Tryz.prog] [UDef] [UTabs] in
theorem e_q16z (x) : evF Tryz.prog 26 TT M_q16z F_q16z (O_q16z) (L_q16z) (evDraw Tryz.prog 26 TT M_q16z (O_q16z)) ⟨[], [], []⟩ [.tmp 4] C_q16z x = q16z x := by kernel_rfl
omit [UDef] [UTabs] in
theorem ok_q16z : Contract Tryz.prog 70 F_q16z (q16z) :=
  Contract.of_ev (c := C_q16z) (N := 26) Tryz.func70 (by kernel_rfl) (by kernel_rfl) (by kernel_rfl) (by kernel_rfl) (O_q16z_ok) (evDraw_ok (O_q16z_ok) (by kernel_rfl)) (.of (l := []) (by kernel_rfl) trivial) (e_q16z)

noncomputable def F_q26z : FnT := ⟨1, ⟨[], [(0, .bool)], [], []⟩, [.v .val], []⟩
noncomputable def C_q26z : Code := bodyOf Tryz.f71
noncomputable def M_q26z : List (Nat × ArgM) := []
instance : DfOk M_q26z := .none rfl
noncomputable def O_q26z {ρ : Type} : Orc ρ := orcNil
omit [QuietD Tryz.prog] [UDef] [UTabs] in
theorem O_q26z_ok {ρ : Type} : (O_q26z : Orc ρ).ok Tryz.prog := orcNil_ok
noncomputable def L_q26z {ρ : Type} : LOrc ρ := lorcNil
omit [Tabs] [QuietD Tryz.prog] [UDef] [UTabs] in
theorem e_q26z (x) : evF Tryz.prog 8 TT M_q26z F_q26z (O_q26z) (L_q26z) dorcNil ⟨[], [], []⟩ [.cell 2 24] C_q26z x = q26z x := by kernel_rfl
omit [UDef] [UTabs] in
theorem ok_q26z : Contract Tryz.prog 71 F_q26z (q26z) :=
  Contract.of_ev (c := C_q26z) (N := 8) Tryz.func71 (by kernel_rfl) (by kernel_rfl) (by kernel_rfl) (by kernel_rfl) (O_q26z_ok) dorcNil_ok (.of (l := []) (by kernel_rfl) trivial) (e_q26z)

noncomputable def F_q14z : FnT := ⟨1, ⟨[(0, .ptr 1000000 0)], [], [(1000000, .box [.d .str, .d .i64])], []⟩, [.v .str], [(1000000, .box [.d .str, .d .i64])]⟩
noncomputable def C_q14z : Code := bodyOf Tryz.f72
noncomputable def M_q14z : List (Nat × ArgM) := [(999999996, ⟨[45, 5], [], [], false⟩), (70, ⟨[0], [], [], false⟩), (16, ⟨[0], [], [], false⟩), (42, ⟨[0], [], [], false⟩), (43, ⟨[0], [], [], false⟩), (100, ⟨[], [], [], true⟩)]
instance : DfOk M_q14z := .none rfl
noncomputable def O_q14z {ρ : Type} (n : Nat) : Orc ρ := orcCons 70 F_q16z (q16z) (orcCons 16 F_st (stringN) (orcCons 42 F_q4z (q4z) (orcCons 100 F_decode (decodeN) (orcCons 43 F_q5z (q5z) (orcNil)))))
omit [UDef] in
theorem O_q14z_ok {ρ : Type} (n : Nat) : (O_q14z n : Orc ρ).ok Tryz.prog := orcCons_ok (by kernel_rfl) (ok_q16z) (orcCons_ok (by kernel_rfl) (stringN_ok) (orcCons_ok (by kernel_rfl) (ok_q4z) (orcCons_ok (by kernel_rfl) (decodeN_ok) (orcCons_ok (by kernel_rfl) (ok_q5z) (orcNil_ok)))))
noncomputable def T_q14z_s0 : Tm := ⟨[(0, .ptr 1000000 0), (3, .ptr 3 0)], [], [(3, .box [.ref (.pn 3), .ref (.own 500003)] (some 45)), (500003, .arr 5 .u8), (1000000, .box [.d .str, .d .i64])], []⟩
noncomputable def X_q14z_s0 : Tm := ⟨[], [], [], []⟩
noncomputable def R_q14z_s0 : Tm := ⟨[], [(2, .str)], [(1000000, .box [.d .str, .d .i64])], []⟩
noncomputable def L_q14z_s0 {ρ : Type} (n : Nat) : LOrc ρ := lorcNil
omit [Tabs] [QuietD Tryz.prog] [UDef] [UTabs] in
theorem s_q14z_s0 {ρ : Type} (n : Nat) (rec : T_q14z_s0.den → Option ρ) kx kr s : dStep Tryz.prog 69 TT M_q14z (O_q14z n) (L_q14z_s0 n) (evDraw Tryz.prog 69 TT M_q14z (O_q14z n)) 0 (lbody 1000 C_q14z 0) T_q14z_s0 X_q14z_s0 R_q14z_s0 ⟨[], [], []⟩ rec kx kr s = q14z_s0 n rec kx kr s := by kernel_rfl
noncomputable def L_q14z {ρ : Type} (n : Nat) : LOrc ρ := lorcCons 0 (loopL 69 0 n T_q14z_s0 X_q14z_s0 R_q14z_s0 ⟨[], [], []⟩ (q14z_s0 n)) (lorcNil)
omit [Tabs] [QuietD Tryz.prog] [UDef] [UTabs] in
theorem e_q14z (n : Nat) (x) : evF Tryz.prog 69 TT M_q14z F_q14z (O_q14z n) (L_q14z n) (evDraw Tryz.prog 69 TT M_q14z (O_q14z n)) ⟨[], [], []⟩ [.tmp 2] C_q14z x = q14z n x := by kernel_rfl
omit [UDef] in
theorem ok_q14z (n : Nat) : Contract Tryz.prog 72 F_q14z (q14z n) :=
  Contract.of_ev (c := C_q14z) (N := 69) Tryz.func72 (by kernel_rfl) (by kernel_rfl) (by kernel_rfl) (by kernel_rfl) (O_q14z_ok n) (evDraw_ok (O_q14z_ok n) (by kernel_rfl)) (.of (l := [(0, (lbody 1000 C_q14z 0))]) (by kernel_rfl) ⟨.head (loopL_sound (O_q14z_ok n) (evDraw_ok (O_q14z_ok n) (by kernel_rfl)) (.of (l := []) (by kernel_rfl) trivial) (s_q14z_s0 n)), trivial⟩) (e_q14z n)

noncomputable def C_q12z : Code := bodyOf Tryz.f46
noncomputable def M_q12z : List (Nat × ArgM) := [(70, ⟨[0], [], [], false⟩), (72, ⟨[0], [], [], false⟩), (46, ⟨[0], [], [], false⟩), (31, ⟨[], [], [], true⟩)]
instance : DfOk M_q12z := .none rfl
noncomputable def O_q12z {ρ : Type} (self_q12z : Int × (ByteArray × Int × Unit) × Unit → Option (Ev.Val × (ByteArray × Int × Unit) × Unit)) (n : Nat) : Orc ρ := orcCons 70 F_q16z (q16z) (orcCons 71 F_q26z (q26z) (orcCons 72 F_q14z (q14z n) (orcCons 46 F_q12z (self_q12z) (orcCons 73 F_atoi (atoiN) (orcCons 31 F_itoa (itoaN) (orcNil))))))
omit [UDef] in
theorem O_q12z_ok {ρ : Type} (self_q12z : Int × (ByteArray × Int × Unit) × Unit → Option (Ev.Val × (ByteArray × Int × Unit) × Unit)) (h_q12z : Contract Tryz.prog 46 F_q12z self_q12z) (n : Nat) : (O_q12z self_q12z n : Orc ρ).ok Tryz.prog := orcCons_ok (by kernel_rfl) (ok_q16z) (orcCons_ok (by kernel_rfl) (ok_q26z) (orcCons_ok (by kernel_rfl) (ok_q14z n) (orcCons_ok (by kernel_rfl) (h_q12z) (orcCons_ok (by kernel_rfl) (atoiN_ok) (orcCons_ok (by kernel_rfl) (itoaN_ok) (orcNil_ok))))))
noncomputable def T_q12z_s1 : Tm := ⟨[(0, .ptr 1000000 0), (4, .ptr 4 0), (6, .ptr 6 0)], [(1, .i64)], [(4, .box [.d .val]), (6, .box [.d .i64, .d .i64, .d .str, .ref (.own 300243)]), (300243, .arr 24 .val), (1000000, .box [.d .str, .d .i64])], []⟩
noncomputable def X_q12z_s1 : Tm := ⟨[], [], [], []⟩
noncomputable def R_q12z_s1 : Tm := ⟨[(4, .ptr 4 0)], [], [(4, .box [.d .i64, .d .i64, .d .str, .ref (.own 300243)]), (300243, .arr 24 .val), (1000000, .box [.d .str, .d .i64])], []⟩
noncomputable def L_q12z_s1 {ρ : Type} (self_q12z : Int × (ByteArray × Int × Unit) × Unit → Option (Ev.Val × (ByteArray × Int × Unit) × Unit)) (n : Nat) : LOrc ρ := lorcNil
omit [Tabs] [QuietD Tryz.prog] [UDef] [UTabs] in
theorem s_q12z_s1 {ρ : Type} (self_q12z : Int × (ByteArray × Int × Unit) × Unit → Option (Ev.Val × (ByteArray × Int × Unit) × Unit)) (n : Nat) (rec : T_q12z_s1.den → Option ρ) kx kr s : dStep Tryz.prog 143 TT M_q12z (O_q12z self_q12z n) (L_q12z_s1 self_q12z n) (evDraw Tryz.prog 143 TT M_q12z (O_q12z self_q12z n)) 1 (lbody 1000 C_q12z 0) T_q12z_s1 X_q12z_s1 R_q12z_s1 ⟨[], [], [(6, 3, 300243, 24, 4)]⟩ rec kx kr s = q12z_s1 self_q12z n rec kx kr s := by kernel_rfl
noncomputable def T_q12z_s3 : Tm := ⟨[(0, .ptr 1000000 0), (4, .ptr 4 0)], [(5, .i64)], [(4, .box [.d .val]), (1000000, .box [.d .str, .d .i64])], []⟩
noncomputable def X_q12z_s3 : Tm := ⟨[(0, .ptr 1000000 0), (4, .ptr 4 0)], [(5, .i64)], [(4, .box [.d .val]), (1000000, .box [.d .str, .d .i64])], []⟩
noncomputable def R_q12z_s3 : Tm := ⟨[], [], [], []⟩
noncomputable def L_q12z_s3 {ρ : Type} (self_q12z : Int × (ByteArray × Int × Unit) × Unit → Option (Ev.Val × (ByteArray × Int × Unit) × Unit)) (n : Nat) : LOrc ρ := lorcNil
omit [Tabs] [QuietD Tryz.prog] [UDef] [UTabs] in
theorem s_q12z_s3 {ρ : Type} (self_q12z : Int × (ByteArray × Int × Unit) × Unit → Option (Ev.Val × (ByteArray × Int × Unit) × Unit)) (n : Nat) (rec : T_q12z_s3.den → Option ρ) kx kr s : dStep Tryz.prog 143 TT M_q12z (O_q12z self_q12z n) (L_q12z_s3 self_q12z n) (evDraw Tryz.prog 143 TT M_q12z (O_q12z self_q12z n)) 3 (lbody 1000 C_q12z 1) T_q12z_s3 X_q12z_s3 R_q12z_s3 ⟨[], [], []⟩ rec kx kr s = q12z_s3 self_q12z n rec kx kr s := by kernel_rfl
noncomputable def L_q12z {ρ : Type} (self_q12z : Int × (ByteArray × Int × Unit) × Unit → Option (Ev.Val × (ByteArray × Int × Unit) × Unit)) (n : Nat) : LOrc ρ := lorcCons 1 (loopL 143 1 n T_q12z_s1 X_q12z_s1 R_q12z_s1 ⟨[], [], [(6, 3, 300243, 24, 4)]⟩ (q12z_s1 self_q12z n)) (lorcCons 3 (loopL 143 3 n T_q12z_s3 X_q12z_s3 R_q12z_s3 ⟨[], [], []⟩ (q12z_s3 self_q12z n)) (lorcNil))
omit [Tabs] [QuietD Tryz.prog] [UDef] [UTabs] in
theorem e_q12z (self_q12z : Int × (ByteArray × Int × Unit) × Unit → Option (Ev.Val × (ByteArray × Int × Unit) × Unit)) (n : Nat) (x) : evF Tryz.prog 143 TT M_q12z F_q12z (O_q12z self_q12z n) (L_q12z self_q12z n) (evDraw Tryz.prog 143 TT M_q12z (O_q12z self_q12z n)) ⟨[], [], []⟩ [.cell 4 24] C_q12z x = q12z_b self_q12z n x := by kernel_rfl
omit [UDef] in
theorem okb_q12z (self_q12z : Int × (ByteArray × Int × Unit) × Unit → Option (Ev.Val × (ByteArray × Int × Unit) × Unit)) (h_q12z : Contract Tryz.prog 46 F_q12z self_q12z) (n : Nat) : Contract Tryz.prog 46 F_q12z (q12z_b self_q12z n) :=
  Contract.of_ev (c := C_q12z) (N := 143) Tryz.func46 (by kernel_rfl) (by kernel_rfl) (by kernel_rfl) (by kernel_rfl) (O_q12z_ok self_q12z h_q12z n) (evDraw_ok (O_q12z_ok self_q12z h_q12z n) (by kernel_rfl)) (.of (l := [(1, (lbody 1000 C_q12z 0)), (3, (lbody 1000 C_q12z 1))]) (by kernel_rfl) ⟨.head (loopL_sound (O_q12z_ok self_q12z h_q12z n) (evDraw_ok (O_q12z_ok self_q12z h_q12z n) (by kernel_rfl)) (.of (l := []) (by kernel_rfl) trivial) (s_q12z_s1 self_q12z n)), ⟨.tail rfl (.head (loopL_sound (O_q12z_ok self_q12z h_q12z n) (evDraw_ok (O_q12z_ok self_q12z h_q12z n) (by kernel_rfl)) (.of (l := []) (by kernel_rfl) trivial) (s_q12z_s3 self_q12z n))), trivial⟩⟩) (e_q12z self_q12z n)
omit [UDef] in
theorem ok_q12z : ∀ n, Contract Tryz.prog 46 F_q12z (q12z n)
  | 0 => fun _ _ h => by cases h
  | n + 1 => okb_q12z _ (ok_q12z n) n

noncomputable def C_q23z : Code := bodyOf Tryz.f21
noncomputable def M_q23z : List (Nat × ArgM) := [(999999997, ⟨[45], [], [], false⟩), (46, ⟨[0], [], [], false⟩), (13, ⟨[], [], [], true⟩)]
instance : DfOk M_q23z := ⟨fun g hg => ⟨UDef.ok g ((show ∀ x ∈ ([45] : List Nat), x ∈ ([45] : List Nat) by decide) g hg), QuietD.free Tryz.prog⟩⟩
noncomputable def O_q23z {ρ : Type} (n : Nat) : Orc ρ := orcCons 46 F_q12z (q12z n) (orcCons 13 F_q22z (q22z n) (orcNil))
omit [UDef] in
theorem O_q23z_ok {ρ : Type} (n : Nat) : (O_q23z n : Orc ρ).ok Tryz.prog := orcCons_ok (by kernel_rfl) (ok_q12z n) (orcCons_ok (by kernel_rfl) (ok_q22z n) (orcNil_ok))
noncomputable def L_q23z {ρ : Type} (n : Nat) : LOrc ρ := lorcNil
omit [Tabs] [QuietD Tryz.prog] [UDef] [UTabs] in
theorem e_q23z (n : Nat) (x) : evF Tryz.prog 37 TT M_q23z F_q23z (O_q23z n) (L_q23z n) dorcNil ⟨[], [], []⟩ [.cell 2 24, .cell 3 3, .cell 4 25] C_q23z x = q23z n x := by kernel_rfl
theorem ok_q23z (n : Nat) : Contract Tryz.prog 21 F_q23z (q23z n) :=
  Contract.of_ev (c := C_q23z) (N := 37) Tryz.func21 (by kernel_rfl) (by kernel_rfl) (by kernel_rfl) (by kernel_rfl) (O_q23z_ok n) dorcNil_ok (.of (l := []) (by kernel_rfl) trivial) (e_q23z n)

noncomputable def F_q9z : FnT := ⟨2, ⟨[], [(0, .val), (1, .val)], [], []⟩, [.v .bool], []⟩
noncomputable def F_q11z : FnT := ⟨2, ⟨[], [(0, .val), (1, .val)], [], []⟩, [.v .i64], []⟩
noncomputable def F_q21z : FnT := ⟨2, ⟨[], [(0, (.lst .u8)), (1, (.lst .u8))], [], []⟩, [.v .i64], []⟩
noncomputable def C_q21z : Code := bodyOf Tryz.f74
noncomputable def M_q21z : List (Nat × ArgM) := []
instance : DfOk M_q21z := .none rfl
noncomputable def O_q21z {ρ : Type} : Orc ρ := orcCons 103 T_cmpB (cmpN) (orcNil)
omit [QuietD Tryz.prog] [UDef] [UTabs] in
theorem O_q21z_ok {ρ : Type} : (O_q21z : Orc ρ).ok Tryz.prog := orcExt_ok (by kernel_rfl) (cmp_ok) (orcNil_ok)
noncomputable def L_q21z {ρ : Type} : LOrc ρ := lorcNil
omit [Tabs] [QuietD Tryz.prog] [UDef] [UTabs] in
theorem e_q21z (x) : evF Tryz.prog 8 TT M_q21z F_q21z (O_q21z) (L_q21z) dorcNil ⟨[], [], []⟩ [.tmp 4] C_q21z x = q21z x := by kernel_rfl
omit [UDef] [UTabs] in
theorem ok_q21z : Contract Tryz.prog 74 F_q21z (q21z) :=
  Contract.of_ev (c := C_q21z) (N := 8) Tryz.func74 (by kernel_rfl) (by kernel_rfl) (by kernel_rfl) (by kernel_rfl) (O_q21z_ok) dorcNil_ok (.of (l := []) (by kernel_rfl) trivial) (e_q21z)

noncomputable def C_q11z : Code := bodyOf Tryz.f47
noncomputable def M_q11z : List (Nat × ArgM) := [(74, ⟨[], [], [], true⟩), (47, ⟨[], [], [], true⟩)]
instance : DfOk M_q11z := .none rfl
noncomputable def O_q11z {ρ : Type} (self_q11z : Ev.Val × Ev.Val × Unit → Option (Int × Unit)) (n : Nat) : Orc ρ := orcCons 74 F_q21z (q21z) (orcCons 47 F_q11z (self_q11z) (orcNil))
omit [UDef] [UTabs] in
theorem O_q11z_ok {ρ : Type} (self_q11z : Ev.Val × Ev.Val × Unit → Option (Int × Unit)) (h_q11z : Contract Tryz.prog 47 F_q11z self_q11z) (n : Nat) : (O_q11z self_q11z n : Orc ρ).ok Tryz.prog := orcCons_ok (by kernel_rfl) (ok_q21z) (orcCons_ok (by kernel_rfl) (h_q11z) (orcNil_ok))
noncomputable def T_q11z_s1 : Tm := ⟨[(2, .ptr 2 0), (3, .ptr 3 0)], [(5, .i64)], [(2, .box [.d .val]), (3, .box [.d .val])], []⟩
noncomputable def X_q11z_s1 : Tm := ⟨[(2, .ptr 2 0), (3, .ptr 3 0)], [], [(2, .box [.d .val]), (3, .box [.d .val])], []⟩
noncomputable def R_q11z_s1 : Tm := ⟨[], [(4, .i64)], [], []⟩
noncomputable def L_q11z_s1 {ρ : Type} (self_q11z : Ev.Val × Ev.Val × Unit → Option (Int × Unit)) (n : Nat) : LOrc ρ := lorcNil
omit [Tabs] [QuietD Tryz.prog] [UDef] [UTabs] in
theorem s_q11z_s1 {ρ : Type} (self_q11z : Ev.Val × Ev.Val × Unit → Option (Int × Unit)) (n : Nat) (rec : T_q11z_s1.den → Option ρ) kx kr s : dStep Tryz.prog 88 TT M_q11z (O_q11z self_q11z n) (L_q11z_s1 self_q11z n) (evDraw Tryz.prog 88 TT M_q11z (O_q11z self_q11z n)) 1 (lbody 1000 C_q11z 0) T_q11z_s1 X_q11z_s1 R_q11z_s1 ⟨[], [], []⟩ rec kx kr s = q11z_s1 self_q11z n rec kx kr s := by kernel_rfl
noncomputable def L_q11z {ρ : Type} (self_q11z : Ev.Val × Ev.Val × Unit → Option (Int × Unit)) (n : Nat) : LOrc ρ := lorcCons 1 (loopL 88 1 n T_q11z_s1 X_q11z_s1 R_q11z_s1 ⟨[], [], []⟩ (q11z_s1 self_q11z n)) (lorcNil)
omit [Tabs] [QuietD Tryz.prog] [UDef] [UTabs] in
theorem e_q11z (self_q11z : Ev.Val × Ev.Val × Unit → Option (Int × Unit)) (n : Nat) (x) : evF Tryz.prog 88 TT M_q11z F_q11z (O_q11z self_q11z n) (L_q11z self_q11z n) (evDraw Tryz.prog 88 TT M_q11z (O_q11z self_q11z n)) ⟨[], [], []⟩ [.tmp 4] C_q11z x = q11z_b self_q11z n x := by kernel_rfl
omit [UDef] [UTabs] in
theorem okb_q11z (self_q11z : Ev.Val × Ev.Val × Unit → Option (Int × Unit)) (h_q11z : Contract Tryz.prog 47 F_q11z self_q11z) (n : Nat) : Contract Tryz.prog 47 F_q11z (q11z_b self_q11z n) :=
  Contract.of_ev (c := C_q11z) (N := 88) Tryz.func47 (by kernel_rfl) (by kernel_rfl) (by kernel_rfl) (by kernel_rfl) (O_q11z_ok self_q11z h_q11z n) (evDraw_ok (O_q11z_ok self_q11z h_q11z n) (by kernel_rfl)) (.of (l := [(1, (lbody 1000 C_q11z 0))]) (by kernel_rfl) ⟨.head (loopL_sound (O_q11z_ok self_q11z h_q11z n) (evDraw_ok (O_q11z_ok self_q11z h_q11z n) (by kernel_rfl)) (.of (l := []) (by kernel_rfl) trivial) (s_q11z_s1 self_q11z n)), trivial⟩) (e_q11z self_q11z n)
omit [UDef] [UTabs] in
theorem ok_q11z : ∀ n, Contract Tryz.prog 47 F_q11z (q11z n)
  | 0 => fun _ _ h => by cases h
  | n + 1 => okb_q11z _ (ok_q11z n) n

noncomputable def C_q9z : Code := bodyOf Tryz.f22
noncomputable def M_q9z : List (Nat × ArgM) := [(47, ⟨[], [], [], true⟩)]
instance : DfOk M_q9z := .none rfl
noncomputable def O_q9z {ρ : Type} (n : Nat) : Orc ρ := orcCons 47 F_q11z (q11z n) (orcNil)
omit [UDef] [UTabs] in
theorem O_q9z_ok {ρ : Type} (n : Nat) : (O_q9z n : Orc ρ).ok Tryz.prog := orcCons_ok (by kernel_rfl) (ok_q11z n) (orcNil_ok)
noncomputable def L_q9z {ρ : Type} (n : Nat) : LOrc ρ := lorcNil
omit [Tabs] [QuietD Tryz.prog] [UDef] [UTabs] in
theorem e_q9z (n : Nat) (x) : evF Tryz.prog 9 TT M_q9z F_q9z (O_q9z n) (L_q9z n) dorcNil ⟨[], [], []⟩ [.tmp 4] C_q9z x = q9z n x := by kernel_rfl
omit [UDef] [UTabs] in
theorem ok_q9z (n : Nat) : Contract Tryz.prog 22 F_q9z (q9z n) :=
  Contract.of_ev (c := C_q9z) (N := 9) Tryz.func22 (by kernel_rfl) (by kernel_rfl) (by kernel_rfl) (by kernel_rfl) (O_q9z_ok n) dorcNil_ok (.of (l := []) (by kernel_rfl) trivial) (e_q9z n)

noncomputable def C_q13z : Code := bodyOf Tryz.f7
noncomputable def M_q13z : List (Nat × ArgM) := [(5, ⟨[], [], [], true⟩), (22, ⟨[], [], [], true⟩)]
instance : DfOk M_q13z := .none rfl
noncomputable def O_q13z {ρ : Type} (n : Nat) : Orc ρ := orcCons 19 F_q19z (q19z) (orcCons 20 F_q20z (q20z) (orcCons 18 F_q18z (q18z) (orcCons 5 F_q24z (q24z n) (orcCons 21 F_q23z (q23z n) (orcCons 22 F_q9z (q9z n) (orcNil))))))
theorem O_q13z_ok {ρ : Type} (n : Nat) : (O_q13z n : Orc ρ).ok Tryz.prog := orcCons_ok (by kernel_rfl) (ok_q19z) (orcCons_ok (by kernel_rfl) (ok_q20z) (orcCons_ok (by kernel_rfl) (ok_q18z) (orcCons_ok (by kernel_rfl) (ok_q24z n) (orcCons_ok (by kernel_rfl) (ok_q23z n) (orcCons_ok (by kernel_rfl) (ok_q9z n) (orcNil_ok))))))
noncomputable def L_q13z {ρ : Type} (n : Nat) : LOrc ρ := lorcNil
omit [Tabs] [QuietD Tryz.prog] [UDef] [UTabs] in
theorem e_q13z (n : Nat) (x) : evF Tryz.prog 43 TT M_q13z F_q13z (O_q13z n) (L_q13z n) (evDraw Tryz.prog 43 TT M_q13z (O_q13z n)) ⟨[], [], []⟩ [.tmp 0] C_q13z x = q13z n x := by kernel_rfl
theorem ok_q13z (n : Nat) : Contract Tryz.prog 7 F_q13z (q13z n) :=
  Contract.of_ev (c := C_q13z) (N := 43) Tryz.func7 (by kernel_rfl) (by kernel_rfl) (by kernel_rfl) (by kernel_rfl) (O_q13z_ok n) (evDraw_ok (O_q13z_ok n) (by kernel_rfl)) (.of (l := []) (by kernel_rfl) trivial) (e_q13z n)

noncomputable def C_q7z : Code := bodyOf Tryz.f3
noncomputable def M_q7z : List (Nat × ArgM) := [(5, ⟨[], [], [], true⟩), (6, ⟨[], [], [], true⟩), (7, ⟨[], [], [], true⟩), (8, ⟨[], [], [], true⟩)]
instance : DfOk M_q7z := .none rfl
noncomputable def O_q7z {ρ : Type} (n : Nat) : Orc ρ := orcCons 5 F_q24z (q24z n) (orcCons 6 F_q8z (q8z n) (orcCons 7 F_q13z (q13z n) (orcCons 8 F_printOf (printOfN) (orcNil))))
theorem O_q7z_ok {ρ : Type} (n : Nat) : (O_q7z n : Orc ρ).ok Tryz.prog := orcCons_ok (by kernel_rfl) (ok_q24z n) (orcCons_ok (by kernel_rfl) (ok_q8z n) (orcCons_ok (by kernel_rfl) (ok_q13z n) (orcCons_ok (by kernel_rfl) (printOfN_ok) (orcNil_ok))))
noncomputable def L_q7z {ρ : Type} (n : Nat) : LOrc ρ := lorcNil
omit [Tabs] [QuietD Tryz.prog] [UDef] [UTabs] in
theorem e_q7z (n : Nat) (x) : evF Tryz.prog 48 TT M_q7z F_q7z (O_q7z n) (L_q7z n) dorcNil ⟨[], [], []⟩ [.tmp 2] C_q7z x = q7z n x := by kernel_rfl
theorem ok_q7z (n : Nat) : Contract Tryz.prog 3 F_q7z (q7z n) :=
  Contract.of_ev (c := C_q7z) (N := 48) Tryz.func3 (by kernel_rfl) (by kernel_rfl) (by kernel_rfl) (by kernel_rfl) (O_q7z_ok n) dorcNil_ok (.of (l := []) (by kernel_rfl) trivial) (e_q7z n)

end Go.Proofs.YtffefjmpmgkfoaaGreatDoor

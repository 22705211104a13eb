/- Each of these functions computes what its plain function computes (written by gen.py). -/
import Derived.Test.YtmpcgmlknbmpbaaDoorSBase
import Derived.KernelRfl
import Derived.Test.YtmpcgmlknbmpbaaDoorEvDraw
import Derived.Test.YtmpcgmlknbmpbaaDoorPCode
namespace Go.Proofs.YtmpcgmlknbmpbaaDoor
open Go Esp Ev Pure
set_option linter.unusedSimpArgs false
set_option linter.unusedVariables false
set_option maxRecDepth 100000
set_option maxHeartbeats 1000000
def okds : List FuncId := []
theorem quiets : ∀ g ∈ okds, ∀ (args : Array Value) (w : World), (callFunc g args).run Tryd.prog w = .ok (.enter g args) w ∧ CallsD Tryd.prog g args .returning w fun e u w' => u = .returning ∧ (∃ v, e = .returned v) ∧ w' = w := by
  intro g hg args w
  cases hg
variable [Tabs]
class UDef : Prop where
  ok : ∀ g ∈ ([] : List Nat), g ∈ Tabs.okd
variable [QuietD Tryd.prog] [UDef] [UTabs]
def TT : List (TypeId × Ty) := [(2, .i64), (3, .i64), (4, .bool), (5, .u8), (6, .u8), (9, .str), (10, .str), (11, .str), (12, .u64), (21, .i32), (22, (.lst .node)), (23, (.lst .edg)), (25, .graph), (26, (.lst .pair)), (27, .i64), (31, (.map .pair .bool)), (32, .pair), (33, (.lst .i64)), (37, (.lst .prp)), (39, .edg), (43, (.lst .val)), (45, .val), (46, (.lst .str)), (48, .opn), (49, (.lst .opn)), (53, (.lst .dot)), (54, (.lst .arrow)), (55, (.lst .term)), (56, (.lst .item)), (58, .query), (59, (.lst (.lst .i64))), (63, .term), (65, .item), (73, (.lst .pair)), (75, (.map .pair .bool)), (81, (.map .i64 .i64)), (89, (.two .graph)), (90, .pair), (93, (.map .i64 (.lst .i64))), (106, .dot), (108, .arrow), (113, .u64), (116, .node), (140, (.map .str .bool)), (145, (.lst (.map .pair .bool))), (151, (.lst .i64)), (153, .prp), (168, .i64), (175, .u32), (177, .u64), (181, (.map .str .i64)), (183, .envr), (195, .u64), (224, (.lst .i32)), (241, .u8), (242, .u8), (245, .i32), (246, .i32)]

noncomputable def F_q8z : FnT := ⟨4, ⟨[], [(0, .graph), (1, .str), (2, .i64), (3, .i64)], [], []⟩, [.v .bool], []⟩
noncomputable def F_reach_All : FnT := ⟨2, ⟨[], [(0, .graph), (1, .str)], [], []⟩, [.v (.lst .pair), .v .i64], []⟩
noncomputable def F_q28z : FnT := ⟨1, ⟨[], [(0, .graph)], [], []⟩, [.v .i64], []⟩
noncomputable def F_q25z : FnT := ⟨1, ⟨[], [(0, (.lst .str))], [], []⟩, [.v .i64], []⟩
noncomputable def F_q36z : FnT := ⟨1, ⟨[], [(0, .str)], [], []⟩, [.v .bool], []⟩
noncomputable def C_q36z : Code := bodyOf Tryd.f53
noncomputable def M_q36z : List (Nat × ArgM) := []
instance : DfOk M_q36z := .none rfl
noncomputable def O_q36z {ρ : Type} (n : Nat) : Orc ρ := orcNil
omit [QuietD Tryd.prog] [UDef] [UTabs] in
theorem O_q36z_ok {ρ : Type} (n : Nat) : (O_q36z n : Orc ρ).ok Tryd.prog := orcNil_ok
noncomputable def T_q36z_s0 : Tm := ⟨[], [(0, .str), (14, .i64), (15, .i64)], [], []⟩
noncomputable def X_q36z_s0 : Tm := ⟨[], [], [], []⟩
noncomputable def R_q36z_s0 : Tm := ⟨[], [(2, .bool)], [], []⟩
noncomputable def L_q36z_s0 {ρ : Type} (n : Nat) : LOrc ρ := lorcNil
omit [Tabs] [QuietD Tryd.prog] [UDef] [UTabs] in
theorem s_q36z_s0 {ρ : Type} (n : Nat) (rec : T_q36z_s0.den → Option ρ) kx kr s : dStep Tryd.prog 54 TT M_q36z (O_q36z n) (L_q36z_s0 n) dorcNil 0 (lbody 1000 C_q36z 0) T_q36z_s0 X_q36z_s0 R_q36z_s0 ⟨[], [], []⟩ rec kx kr s = q36z_s0 n rec kx kr s := by kernel_rfl
noncomputable def L_q36z {ρ : Type} (n : Nat) : LOrc ρ := lorcCons 0 (loopL 54 0 n T_q36z_s0 X_q36z_s0 R_q36z_s0 ⟨[], [], []⟩ (q36z_s0 n)) (lorcNil)
omit [Tabs] [QuietD Tryd.prog] [UDef] [UTabs] in
theorem e_q36z (n : Nat) (x) : evF Tryd.prog 54 TT M_q36z F_q36z (O_q36z n) (L_q36z n) dorcNil ⟨[], [], []⟩ [.tmp 2] C_q36z x = q36z n x := by kernel_rfl
omit [UDef] [UTabs] in
theorem ok_q36z (n : Nat) : Contract Tryd.prog 53 F_q36z (q36z n) :=
  Contract.of_ev (c := C_q36z) (N := 54) Tryd.func53 (by kernel_rfl) (by kernel_rfl) (by kernel_rfl) (by kernel_rfl) (O_q36z_ok n) dorcNil_ok (.of (l := [(0, (lbody 1000 C_q36z 0))]) (by kernel_rfl) ⟨.head (loopL_sound (O_q36z_ok n) dorcNil_ok (.of (l := []) (by kernel_rfl) trivial) (s_q36z_s0 n)), trivial⟩) (e_q36z n)

noncomputable def C_q25z : Code := bodyOf Tryd.f51
noncomputable def M_q25z : List (Nat × ArgM) := [(53, ⟨[], [], [], true⟩)]
instance : DfOk M_q25z := .none rfl
noncomputable def O_q25z {ρ : Type} (n : Nat) : Orc ρ := orcCons 53 F_q36z (q36z n) (orcNil)
omit [UDef] [UTabs] in
theorem O_q25z_ok {ρ : Type} (n : Nat) : (O_q25z n : Orc ρ).ok Tryd.prog := orcCons_ok (by kernel_rfl) (ok_q36z n) (orcNil_ok)
noncomputable def T_q25z_s0 : Tm := ⟨[], [(0, (.lst .str)), (8, (.lst .str)), (9, .i64), (10, .i64)], [], []⟩
noncomputable def X_q25z_s0 : Tm := ⟨[], [], [], []⟩
noncomputable def R_q25z_s0 : Tm := ⟨[], [(2, .i64)], [], []⟩
noncomputable def L_q25z_s0 {ρ : Type} (n : Nat) : LOrc ρ := lorcNil
omit [Tabs] [QuietD Tryd.prog] [UDef] [UTabs] in
theorem s_q25z_s0 {ρ : Type} (n : Nat) (rec : T_q25z_s0.den → Option ρ) kx kr s : dStep Tryd.prog 32 TT M_q25z (O_q25z n) (L_q25z_s0 n) dorcNil 0 (lbody 1000 C_q25z 0) T_q25z_s0 X_q25z_s0 R_q25z_s0 ⟨[], [], []⟩ rec kx kr s = q25z_s0 n rec kx kr s := by kernel_rfl
noncomputable def L_q25z {ρ : Type} (n : Nat) : LOrc ρ := lorcCons 0 (loopL 32 0 n T_q25z_s0 X_q25z_s0 R_q25z_s0 ⟨[], [], []⟩ (q25z_s0 n)) (lorcNil)
omit [Tabs] [QuietD Tryd.prog] [UDef] [UTabs] in
theorem e_q25z (n : Nat) (x) : evF Tryd.prog 32 TT M_q25z F_q25z (O_q25z n) (L_q25z n) dorcNil ⟨[], [], []⟩ [.tmp 2] C_q25z x = q25z n x := by kernel_rfl
omit [UDef] [UTabs] in
theorem ok_q25z (n : Nat) : Contract Tryd.prog 51 F_q25z (q25z n) :=
  Contract.of_ev (c := C_q25z) (N := 32) Tryd.func51 (by kernel_rfl) (by kernel_rfl) (by kernel_rfl) (by kernel_rfl) (O_q25z_ok n) dorcNil_ok (.of (l := [(0, (lbody 1000 C_q25z 0))]) (by kernel_rfl) ⟨.head (loopL_sound (O_q25z_ok n) dorcNil_ok (.of (l := []) (by kernel_rfl) trivial) (s_q25z_s0 n)), trivial⟩) (e_q25z n)

noncomputable def F_q29z : FnT := ⟨1, ⟨[], [(0, (.lst .prp))], [], []⟩, [.v .i64], []⟩
noncomputable def F_q33z : FnT := ⟨1, ⟨[], [(0, .val)], [], []⟩, [.v .i64], []⟩
noncomputable def F_q34z : FnT := ⟨2, ⟨[], [(0, .val), (1, .i64)], [], []⟩, [.v .i64], []⟩
noncomputable def C_q34z : Code := bodyOf Tryd.f82
noncomputable def M_q34z : List (Nat × ArgM) := [(117, ⟨[], [], [], true⟩), (82, ⟨[], [], [], true⟩)]
instance : DfOk M_q34z := .none rfl
noncomputable def O_q34z {ρ : Type} (self_q34z : Ev.Val × Int × Unit → Option (Int × Unit)) (n : Nat) : Orc ρ := orcCons 117 F_valid (validN) (orcCons 82 F_q34z (self_q34z) (orcNil))
omit [QuietD Tryd.prog] [UDef] in
theorem O_q34z_ok {ρ : Type} (self_q34z : Ev.Val × Int × Unit → Option (Int × Unit)) (h_q34z : Contract Tryd.prog 82 F_q34z self_q34z) (n : Nat) : (O_q34z self_q34z n : Orc ρ).ok Tryd.prog := orcCons_ok (by kernel_rfl) (validN_ok) (orcCons_ok (by kernel_rfl) (h_q34z) (orcNil_ok))
noncomputable def T_q34z_s1 : Tm := ⟨[(2, .ptr 2 0)], [(1, .i64), (90, (.lst .val)), (91, .i64), (92, .i64)], [(2, .box [.d .val])], []⟩
noncomputable def X_q34z_s1 : Tm := ⟨[(2, .ptr 2 0)], [], [(2, .box [.d .val])], []⟩
noncomputable def R_q34z_s1 : Tm := ⟨[], [(4, .i64)], [], []⟩
noncomputable def L_q34z_s1 {ρ : Type} (self_q34z : Ev.Val × Int × Unit → Option (Int × Unit)) (n : Nat) : LOrc ρ := lorcNil
omit [Tabs] [QuietD Tryd.prog] [UDef] [UTabs] in
theorem s_q34z_s1 {ρ : Type} (self_q34z : Ev.Val × Int × Unit → Option (Int × Unit)) (n : Nat) (rec : T_q34z_s1.den → Option ρ) kx kr s : dStep Tryd.prog 114 TT M_q34z (O_q34z self_q34z n) (L_q34z_s1 self_q34z n) dorcNil 1 (lbody 1000 C_q34z 0) T_q34z_s1 X_q34z_s1 R_q34z_s1 ⟨[], [], []⟩ rec kx kr s = q34z_s1 self_q34z n rec kx kr s := by kernel_rfl
noncomputable def L_q34z {ρ : Type} (self_q34z : Ev.Val × Int × Unit → Option (Int × Unit)) (n : Nat) : LOrc ρ := lorcCons 1 (loopL 114 1 n T_q34z_s1 X_q34z_s1 R_q34z_s1 ⟨[], [], []⟩ (q34z_s1 self_q34z n)) (lorcNil)
omit [Tabs] [QuietD Tryd.prog] [UDef] [UTabs] in
theorem e_q34z (self_q34z : Ev.Val × Int × Unit → Option (Int × Unit)) (n : Nat) (x) : evF Tryd.prog 114 TT M_q34z F_q34z (O_q34z self_q34z n) (L_q34z self_q34z n) dorcNil ⟨[], [], []⟩ [.tmp 4] C_q34z x = q34z_b self_q34z n x := by kernel_rfl
omit [UDef] in
theorem okb_q34z (self_q34z : Ev.Val × Int × Unit → Option (Int × Unit)) (h_q34z : Contract Tryd.prog 82 F_q34z self_q34z) (n : Nat) : Contract Tryd.prog 82 F_q34z (q34z_b self_q34z n) :=
  Contract.of_ev (c := C_q34z) (N := 114) Tryd.func82 (by kernel_rfl) (by kernel_rfl) (by kernel_rfl) (by kernel_rfl) (O_q34z_ok self_q34z h_q34z n) dorcNil_ok (.of (l := [(1, (lbody 1000 C_q34z 0))]) (by kernel_rfl) ⟨.head (loopL_sound (O_q34z_ok self_q34z h_q34z n) dorcNil_ok (.of (l := []) (by kernel_rfl) trivial) (s_q34z_s1 self_q34z n)), trivial⟩) (e_q34z self_q34z n)
omit [UDef] in
theorem ok_q34z : ∀ n, Contract Tryd.prog 82 F_q34z (q34z n)
  | 0 => fun _ _ h => by cases h
  | n + 1 => okb_q34z _ (ok_q34z n) n

noncomputable def C_q33z : Code := bodyOf Tryd.f64
noncomputable def M_q33z : List (Nat × ArgM) := [(82, ⟨[], [], [], true⟩)]
instance : DfOk M_q33z := .none rfl
noncomputable def O_q33z {ρ : Type} (n : Nat) : Orc ρ := orcCons 82 F_q34z (q34z n) (orcNil)
omit [UDef] in
theorem O_q33z_ok {ρ : Type} (n : Nat) : (O_q33z n : Orc ρ).ok Tryd.prog := orcCons_ok (by kernel_rfl) (ok_q34z n) (orcNil_ok)
noncomputable def L_q33z {ρ : Type} (n : Nat) : LOrc ρ := lorcNil
omit [Tabs] [QuietD Tryd.prog] [UDef] [UTabs] in
theorem e_q33z (n : Nat) (x) : evF Tryd.prog 5 TT M_q33z F_q33z (O_q33z n) (L_q33z n) dorcNil ⟨[], [], []⟩ [.tmp 2] C_q33z x = q33z n x := by kernel_rfl
omit [UDef] in
theorem ok_q33z (n : Nat) : Contract Tryd.prog 64 F_q33z (q33z n) :=
  Contract.of_ev (c := C_q33z) (N := 5) Tryd.func64 (by kernel_rfl) (by kernel_rfl) (by kernel_rfl) (by kernel_rfl) (O_q33z_ok n) dorcNil_ok (.of (l := []) (by kernel_rfl) trivial) (e_q33z n)

noncomputable def C_q29z : Code := bodyOf Tryd.f52
noncomputable def M_q29z : List (Nat × ArgM) := [(53, ⟨[], [], [], true⟩), (64, ⟨[], [], [], true⟩)]
instance : DfOk M_q29z := .none rfl
noncomputable def O_q29z {ρ : Type} (n : Nat) : Orc ρ := orcCons 53 F_q36z (q36z n) (orcCons 64 F_q33z (q33z n) (orcNil))
omit [UDef] in
theorem O_q29z_ok {ρ : Type} (n : Nat) : (O_q29z n : Orc ρ).ok Tryd.prog := orcCons_ok (by kernel_rfl) (ok_q36z n) (orcCons_ok (by kernel_rfl) (ok_q33z n) (orcNil_ok))
noncomputable def T_q29z_s0 : Tm := ⟨[], [(0, (.lst .prp)), (9, (.lst .prp)), (10, .i64), (11, .i64)], [], []⟩
noncomputable def X_q29z_s0 : Tm := ⟨[], [], [], []⟩
noncomputable def R_q29z_s0 : Tm := ⟨[], [(2, .i64)], [], []⟩
noncomputable def L_q29z_s0 {ρ : Type} (n : Nat) : LOrc ρ := lorcNil
omit [Tabs] [QuietD Tryd.prog] [UDef] [UTabs] in
theorem s_q29z_s0 {ρ : Type} (n : Nat) (rec : T_q29z_s0.den → Option ρ) kx kr s : dStep Tryd.prog 48 TT M_q29z (O_q29z n) (L_q29z_s0 n) (evDraw Tryd.prog 48 TT M_q29z (O_q29z n)) 0 (lbody 1000 C_q29z 0) T_q29z_s0 X_q29z_s0 R_q29z_s0 ⟨[], [], []⟩ rec kx kr s = q29z_s0 n rec kx kr s := by kernel_rfl
noncomputable def L_q29z {ρ : Type} (n : Nat) : LOrc ρ := lorcCons 0 (loopL 48 0 n T_q29z_s0 X_q29z_s0 R_q29z_s0 ⟨[], [], []⟩ (q29z_s0 n)) (lorcNil)
omit [Tabs] [QuietD Tryd.prog] [UDef] [UTabs] in
theorem e_q29z (n : Nat) (x) : evF Tryd.prog 48 TT M_q29z F_q29z (O_q29z n) (L_q29z n) (evDraw Tryd.prog 48 TT M_q29z (O_q29z n)) ⟨[], [], []⟩ [.tmp 2] C_q29z x = q29z n x := by kernel_rfl
omit [UDef] in
theorem ok_q29z (n : Nat) : Contract Tryd.prog 52 F_q29z (q29z n) :=
  Contract.of_ev (c := C_q29z) (N := 48) Tryd.func52 (by kernel_rfl) (by kernel_rfl) (by kernel_rfl) (by kernel_rfl) (O_q29z_ok n) (evDraw_ok (O_q29z_ok n) (by kernel_rfl)) (.of (l := [(0, (lbody 1000 C_q29z 0))]) (by kernel_rfl) ⟨.head (loopL_sound (O_q29z_ok n) (evDraw_ok (O_q29z_ok n) (by kernel_rfl)) (.of (l := []) (by kernel_rfl) trivial) (s_q29z_s0 n)), trivial⟩) (e_q29z n)

noncomputable def F_q13z : FnT := ⟨1, ⟨[], [(0, (.lst .i64))], [], []⟩, [.v .i64], []⟩
noncomputable def C_q13z : Code := bodyOf Tryd.f50
noncomputable def M_q13z : List (Nat × ArgM) := []
instance : DfOk M_q13z := .none rfl
noncomputable def O_q13z {ρ : Type} (n : Nat) : Orc ρ := orcNil
omit [QuietD Tryd.prog] [UDef] [UTabs] in
theorem O_q13z_ok {ρ : Type} (n : Nat) : (O_q13z n : Orc ρ).ok Tryd.prog := orcNil_ok
noncomputable def T_q13z_s0 : Tm := ⟨[], [(3, .i64), (6, (.lst .i64)), (7, .i64), (8, .i64)], [], []⟩
noncomputable def X_q13z_s0 : Tm := ⟨[], [(3, .i64)], [], []⟩
noncomputable def R_q13z_s0 : Tm := ⟨[], [(2, .i64)], [], []⟩
noncomputable def L_q13z_s0 {ρ : Type} (n : Nat) : LOrc ρ := lorcNil
omit [Tabs] [QuietD Tryd.prog] [UDef] [UTabs] in
theorem s_q13z_s0 {ρ : Type} (n : Nat) (rec : T_q13z_s0.den → Option ρ) kx kr s : dStep Tryd.prog 18 TT M_q13z (O_q13z n) (L_q13z_s0 n) dorcNil 0 (lbody 1000 C_q13z 0) T_q13z_s0 X_q13z_s0 R_q13z_s0 ⟨[], [], []⟩ rec kx kr s = q13z_s0 n rec kx kr s := by kernel_rfl
noncomputable def L_q13z {ρ : Type} (n : Nat) : LOrc ρ := lorcCons 0 (loopL 18 0 n T_q13z_s0 X_q13z_s0 R_q13z_s0 ⟨[], [], []⟩ (q13z_s0 n)) (lorcNil)
omit [Tabs] [QuietD Tryd.prog] [UDef] [UTabs] in
theorem e_q13z (n : Nat) (x) : evF Tryd.prog 18 TT M_q13z F_q13z (O_q13z n) (L_q13z n) dorcNil ⟨[], [], []⟩ [.tmp 2] C_q13z x = q13z n x := by kernel_rfl
omit [UDef] [UTabs] in
theorem ok_q13z (n : Nat) : Contract Tryd.prog 50 F_q13z (q13z n) :=
  Contract.of_ev (c := C_q13z) (N := 18) Tryd.func50 (by kernel_rfl) (by kernel_rfl) (by kernel_rfl) (by kernel_rfl) (O_q13z_ok n) dorcNil_ok (.of (l := [(0, (lbody 1000 C_q13z 0))]) (by kernel_rfl) ⟨.head (loopL_sound (O_q13z_ok n) dorcNil_ok (.of (l := []) (by kernel_rfl) trivial) (s_q13z_s0 n)), trivial⟩) (e_q13z n)

noncomputable def F_q35z : FnT := ⟨2, ⟨[], [(0, .graph), (1, .i64)], [], []⟩, [.v .i64], []⟩
noncomputable def F_q1z : FnT := ⟨3, ⟨[(2, .fn 55)], [(0, (.lst .node)), (1, .i64)], [], []⟩, [.v .i64, .v .bool], []⟩
noncomputable def F_q24z : FnT := ⟨2, ⟨[], [(0, .node), (1, .i64)], [], []⟩, [.v .i64], []⟩
noncomputable def F_q14z : FnT := ⟨2, ⟨[], [(0, .i64), (1, .i64)], [], []⟩, [.v .i64], []⟩
noncomputable def F_q23z : FnT := ⟨1, ⟨[], [(0, .i64)], [], []⟩, [.v .bool], []⟩
noncomputable def C_q23z : Code := bodyOf Tryd.f77
noncomputable def M_q23z : List (Nat × ArgM) := []
instance : DfOk M_q23z := .none rfl
noncomputable def O_q23z {ρ : Type} : Orc ρ := orcNil
omit [QuietD Tryd.prog] [UDef] [UTabs] in
theorem O_q23z_ok {ρ : Type} : (O_q23z : Orc ρ).ok Tryd.prog := orcNil_ok
noncomputable def L_q23z {ρ : Type} : LOrc ρ := lorcNil
omit [Tabs] [QuietD Tryd.prog] [UDef] [UTabs] in
theorem e_q23z (x) : evF Tryd.prog 6 TT M_q23z F_q23z (O_q23z) (L_q23z) dorcNil ⟨[], [], []⟩ [.tmp 2] C_q23z x = q23z x := by kernel_rfl
omit [UDef] [UTabs] in
theorem ok_q23z : Contract Tryd.prog 77 F_q23z (q23z) :=
  Contract.of_ev (c := C_q23z) (N := 6) Tryd.func77 (by kernel_rfl) (by kernel_rfl) (by kernel_rfl) (by kernel_rfl) (O_q23z_ok) dorcNil_ok (.of (l := []) (by kernel_rfl) trivial) (e_q23z)

noncomputable def C_q14z : Code := bodyOf Tryd.f49
noncomputable def M_q14z : List (Nat × ArgM) := [(77, ⟨[], [], [], true⟩)]
instance : DfOk M_q14z := .none rfl
noncomputable def O_q14z {ρ : Type} : Orc ρ := orcCons 77 F_q23z (q23z) (orcNil)
omit [UDef] [UTabs] in
theorem O_q14z_ok {ρ : Type} : (O_q14z : Orc ρ).ok Tryd.prog := orcCons_ok (by kernel_rfl) (ok_q23z) (orcNil_ok)
noncomputable def L_q14z {ρ : Type} : LOrc ρ := lorcNil
omit [Tabs] [QuietD Tryd.prog] [UDef] [UTabs] in
theorem e_q14z (x) : evF Tryd.prog 20 TT M_q14z F_q14z (O_q14z) (L_q14z) dorcNil ⟨[], [], []⟩ [.tmp 4] C_q14z x = q14z x := by kernel_rfl
omit [UDef] [UTabs] in
theorem ok_q14z : Contract Tryd.prog 49 F_q14z (q14z) :=
  Contract.of_ev (c := C_q14z) (N := 20) Tryd.func49 (by kernel_rfl) (by kernel_rfl) (by kernel_rfl) (by kernel_rfl) (O_q14z_ok) dorcNil_ok (.of (l := []) (by kernel_rfl) trivial) (e_q14z)

noncomputable def C_q24z : Code := bodyOf Tryd.f55
noncomputable def M_q24z : List (Nat × ArgM) := [(49, ⟨[], [], [], true⟩)]
instance : DfOk M_q24z := .none rfl
noncomputable def O_q24z {ρ : Type} : Orc ρ := orcCons 49 F_q14z (q14z) (orcNil)
omit [UDef] [UTabs] in
theorem O_q24z_ok {ρ : Type} : (O_q24z : Orc ρ).ok Tryd.prog := orcCons_ok (by kernel_rfl) (ok_q14z) (orcNil_ok)
noncomputable def L_q24z {ρ : Type} : LOrc ρ := lorcNil
omit [Tabs] [QuietD Tryd.prog] [UDef] [UTabs] in
theorem e_q24z (x) : evF Tryd.prog 9 TT M_q24z F_q24z (O_q24z) (L_q24z) dorcNil ⟨[], [], []⟩ [.tmp 4] C_q24z x = q24z x := by kernel_rfl
omit [UDef] [UTabs] in
theorem ok_q24z : Contract Tryd.prog 55 F_q24z (q24z) :=
  Contract.of_ev (c := C_q24z) (N := 9) Tryd.func55 (by kernel_rfl) (by kernel_rfl) (by kernel_rfl) (by kernel_rfl) (O_q24z_ok) dorcNil_ok (.of (l := []) (by kernel_rfl) trivial) (e_q24z)

noncomputable def C_q1z : Code := bodyOf Tryd.f54
noncomputable def M_q1z : List (Nat × ArgM) := [(55, ⟨[], [], [], true⟩)]
instance : DfOk M_q1z := .none rfl
noncomputable def O_q1z {ρ : Type} (n : Nat) : Orc ρ := orcCons 55 F_q24z (q24z) (orcNil)
omit [UDef] [UTabs] in
theorem O_q1z_ok {ρ : Type} (n : Nat) : (O_q1z n : Orc ρ).ok Tryd.prog := orcCons_ok (by kernel_rfl) (ok_q24z) (orcNil_ok)
noncomputable def T_q1z_s0 : Tm := ⟨[(2, .fn 55)], [(0, (.lst .node)), (1, .i64), (8, .i64), (9, .i64), (10, .i64)], [], []⟩
noncomputable def X_q1z_s0 : Tm := ⟨[(2, .fn 55)], [(0, (.lst .node)), (1, .i64), (8, .i64), (9, .i64)], [], []⟩
noncomputable def R_q1z_s0 : Tm := ⟨[], [], [], []⟩
noncomputable def L_q1z_s0 {ρ : Type} (n : Nat) : LOrc ρ := lorcNil
omit [Tabs] [QuietD Tryd.prog] [UDef] [UTabs] in
theorem s_q1z_s0 {ρ : Type} (n : Nat) (rec : T_q1z_s0.den → Option ρ) kx kr s : dStep Tryd.prog 49 TT M_q1z (O_q1z n) (L_q1z_s0 n) dorcNil 0 (lbody 1000 C_q1z 0) T_q1z_s0 X_q1z_s0 R_q1z_s0 ⟨[], [], []⟩ rec kx kr s = q1z_s0 n rec kx kr s := by kernel_rfl
noncomputable def L_q1z {ρ : Type} (n : Nat) : LOrc ρ := lorcCons 0 (loopL 49 0 n T_q1z_s0 X_q1z_s0 R_q1z_s0 ⟨[], [], []⟩ (q1z_s0 n)) (lorcNil)
omit [Tabs] [QuietD Tryd.prog] [UDef] [UTabs] in
theorem e_q1z (n : Nat) (x) : evF Tryd.prog 49 TT M_q1z F_q1z (O_q1z n) (L_q1z n) dorcNil ⟨[], [], []⟩ [.tmp 6, .tmp 7] C_q1z x = q1z n x := by kernel_rfl
omit [UDef] [UTabs] in
theorem ok_q1z (n : Nat) : Contract Tryd.prog 54 F_q1z (q1z n) :=
  Contract.of_ev (c := C_q1z) (N := 49) Tryd.func54 (by kernel_rfl) (by kernel_rfl) (by kernel_rfl) (by kernel_rfl) (O_q1z_ok n) dorcNil_ok (.of (l := [(0, (lbody 1000 C_q1z 0))]) (by kernel_rfl) ⟨.head (loopL_sound (O_q1z_ok n) dorcNil_ok (.of (l := []) (by kernel_rfl) trivial) (s_q1z_s0 n)), trivial⟩) (e_q1z n)

noncomputable def C_q35z : Code := bodyOf Tryd.f24
noncomputable def M_q35z : List (Nat × ArgM) := [(54, ⟨[], [], [], true⟩)]
instance : DfOk M_q35z := .none rfl
noncomputable def O_q35z {ρ : Type} (n : Nat) : Orc ρ := orcCons 54 F_q1z (q1z n) (orcNil)
omit [UDef] [UTabs] in
theorem O_q35z_ok {ρ : Type} (n : Nat) : (O_q35z n : Orc ρ).ok Tryd.prog := orcCons_ok (by kernel_rfl) (ok_q1z n) (orcNil_ok)
noncomputable def L_q35z {ρ : Type} (n : Nat) : LOrc ρ := lorcNil
omit [Tabs] [QuietD Tryd.prog] [UDef] [UTabs] in
theorem e_q35z (n : Nat) (x) : evF Tryd.prog 17 TT M_q35z F_q35z (O_q35z n) (L_q35z n) dorcNil ⟨[], [], []⟩ [.tmp 4] C_q35z x = q35z n x := by kernel_rfl
omit [UDef] [UTabs] in
theorem ok_q35z (n : Nat) : Contract Tryd.prog 24 F_q35z (q35z n) :=
  Contract.of_ev (c := C_q35z) (N := 17) Tryd.func24 (by kernel_rfl) (by kernel_rfl) (by kernel_rfl) (by kernel_rfl) (O_q35z_ok n) dorcNil_ok (.of (l := []) (by kernel_rfl) trivial) (e_q35z n)

noncomputable def C_q28z : Code := bodyOf Tryd.f17
noncomputable def M_q28z : List (Nat × ArgM) := [(51, ⟨[], [], [], true⟩), (52, ⟨[], [], [], true⟩), (50, ⟨[], [], [], true⟩), (24, ⟨[], [], [], true⟩), (53, ⟨[], [], [], true⟩)]
instance : DfOk M_q28z := .none rfl
noncomputable def O_q28z {ρ : Type} (n : Nat) : Orc ρ := orcCons 51 F_q25z (q25z n) (orcCons 52 F_q29z (q29z n) (orcCons 50 F_q13z (q13z n) (orcCons 24 F_q35z (q35z n) (orcCons 53 F_q36z (q36z n) (orcNil)))))
omit [UDef] in
theorem O_q28z_ok {ρ : Type} (n : Nat) : (O_q28z n : Orc ρ).ok Tryd.prog := orcCons_ok (by kernel_rfl) (ok_q25z n) (orcCons_ok (by kernel_rfl) (ok_q29z n) (orcCons_ok (by kernel_rfl) (ok_q13z n) (orcCons_ok (by kernel_rfl) (ok_q35z n) (orcCons_ok (by kernel_rfl) (ok_q36z n) (orcNil_ok)))))
noncomputable def T_q28z_s0 : Tm := ⟨[(1, .ptr 1 0)], [(3, .i64), (22, (.lst .node)), (23, .i64), (24, .i64)], [(1, .box [.d .graph])], []⟩
noncomputable def X_q28z_s0 : Tm := ⟨[(1, .ptr 1 0)], [(3, .i64)], [(1, .box [.d .graph])], []⟩
noncomputable def R_q28z_s0 : Tm := ⟨[], [(2, .i64)], [], []⟩
noncomputable def L_q28z_s0 {ρ : Type} (n : Nat) : LOrc ρ := lorcNil
omit [Tabs] [QuietD Tryd.prog] [UDef] [UTabs] in
theorem s_q28z_s0 {ρ : Type} (n : Nat) (rec : T_q28z_s0.den → Option ρ) kx kr s : dStep Tryd.prog 103 TT M_q28z (O_q28z n) (L_q28z_s0 n) (evDraw Tryd.prog 103 TT M_q28z (O_q28z n)) 0 (lbody 1000 C_q28z 0) T_q28z_s0 X_q28z_s0 R_q28z_s0 ⟨[], [], []⟩ rec kx kr s = q28z_s0 n rec kx kr s := by kernel_rfl
noncomputable def T_q28z_s2 : Tm := ⟨[(1, .ptr 1 0)], [(3, .i64), (7, .i64), (48, (.lst .edg)), (49, .i64), (50, .i64)], [(1, .box [.d .graph])], []⟩
noncomputable def X_q28z_s2 : Tm := ⟨[(1, .ptr 1 0)], [(3, .i64), (7, .i64)], [(1, .box [.d .graph])], []⟩
noncomputable def R_q28z_s2 : Tm := ⟨[], [(2, .i64)], [], []⟩
noncomputable def L_q28z_s2 {ρ : Type} (n : Nat) : LOrc ρ := lorcNil
omit [Tabs] [QuietD Tryd.prog] [UDef] [UTabs] in
theorem s_q28z_s2 {ρ : Type} (n : Nat) (rec : T_q28z_s2.den → Option ρ) kx kr s : dStep Tryd.prog 103 TT M_q28z (O_q28z n) (L_q28z_s2 n) (evDraw Tryd.prog 103 TT M_q28z (O_q28z n)) 2 (lbody 1000 C_q28z 1) T_q28z_s2 X_q28z_s2 R_q28z_s2 ⟨[], [], []⟩ rec kx kr s = q28z_s2 n rec kx kr s := by kernel_rfl
noncomputable def L_q28z {ρ : Type} (n : Nat) : LOrc ρ := lorcCons 0 (loopL 103 0 n T_q28z_s0 X_q28z_s0 R_q28z_s0 ⟨[], [], []⟩ (q28z_s0 n)) (lorcCons 2 (loopL 103 2 n T_q28z_s2 X_q28z_s2 R_q28z_s2 ⟨[], [], []⟩ (q28z_s2 n)) (lorcNil))
omit [Tabs] [QuietD Tryd.prog] [UDef] [UTabs] in
theorem e_q28z (n : Nat) (x) : evF Tryd.prog 103 TT M_q28z F_q28z (O_q28z n) (L_q28z n) (evDraw Tryd.prog 103 TT M_q28z (O_q28z n)) ⟨[], [], []⟩ [.tmp 2] C_q28z x = q28z n x := by kernel_rfl
omit [UDef] in
theorem ok_q28z (n : Nat) : Contract Tryd.prog 17 F_q28z (q28z n) :=
  Contract.of_ev (c := C_q28z) (N := 103) Tryd.func17 (by kernel_rfl) (by kernel_rfl) (by kernel_rfl) (by kernel_rfl) (O_q28z_ok n) (evDraw_ok (O_q28z_ok n) (by kernel_rfl)) (.of (l := [(0, (lbody 1000 C_q28z 0)), (2, (lbody 1000 C_q28z 1))]) (by kernel_rfl) ⟨.head (loopL_sound (O_q28z_ok n) (evDraw_ok (O_q28z_ok n) (by kernel_rfl)) (.of (l := []) (by kernel_rfl) trivial) (s_q28z_s0 n)), ⟨.tail rfl (.head (loopL_sound (O_q28z_ok n) (evDraw_ok (O_q28z_ok n) (by kernel_rfl)) (.of (l := []) (by kernel_rfl) trivial) (s_q28z_s2 n))), trivial⟩⟩) (e_q28z n)

noncomputable def F_reach_Set : FnT := ⟨2, ⟨[], [(0, .graph), (1, .str)], [], []⟩, [.v (.map .pair .bool)], []⟩
noncomputable def F_q6z : FnT := ⟨1, ⟨[], [(0, (.lst .i64))], [], []⟩, [.ref (.own 5)], [(5, .arr 3 .i64)]⟩
noncomputable def C_q6z : Code := bodyOf Tryd.f43
noncomputable def M_q6z : List (Nat × ArgM) := []
instance : DfOk M_q6z := .none rfl
noncomputable def O_q6z {ρ : Type} : Orc ρ := orcNil
omit [QuietD Tryd.prog] [UDef] [UTabs] in
theorem O_q6z_ok {ρ : Type} : (O_q6z : Orc ρ).ok Tryd.prog := orcNil_ok
noncomputable def L_q6z {ρ : Type} : LOrc ρ := lorcNil
omit [Tabs] [QuietD Tryd.prog] [UDef] [UTabs] in
theorem e_q6z (x) : evF Tryd.prog 8 TT M_q6z F_q6z (O_q6z) (L_q6z) dorcNil ⟨[], [(2, 5, 3, 1)], []⟩ [.tmp 2] C_q6z x = q6z x := by kernel_rfl
omit [UDef] [UTabs] in
theorem ok_q6z : Contract Tryd.prog 43 F_q6z (q6z) :=
  Contract.of_ev (c := C_q6z) (N := 8) Tryd.func43 (by kernel_rfl) (by kernel_rfl) (by kernel_rfl) (by kernel_rfl) (O_q6z_ok) dorcNil_ok (.of (l := []) (by kernel_rfl) trivial) (e_q6z)

noncomputable def C_reach_Set : Code := bodyOf Tryd.f20
noncomputable def M_reach_Set : List (Nat × ArgM) := [(999999999, ⟨[1], [], [], false⟩), (43, ⟨[], [], [5], false⟩)]
instance : DfOk M_reach_Set := .none rfl
noncomputable def O_reach_Set {ρ : Type} (n : Nat) : Orc ρ := orcCons 35 F_next (nextN) (orcCons 43 F_q6z (q6z) (orcNil))
omit [UDef] [UTabs] in
theorem O_reach_Set_ok {ρ : Type} (n : Nat) : (O_reach_Set n : Orc ρ).ok Tryd.prog := orcCons_ok (by kernel_rfl) (nextN_ok) (orcCons_ok (by kernel_rfl) (ok_q6z) (orcNil_ok))
noncomputable def T_reach_Set_s2 : Tm := ⟨[(6, .mpr 15), (8, .ptr 8 0), (9, .own 27)], [(5, (.map .i64 (.lst .i64))), (17, (.lst .node)), (18, .i64), (19, .i64)], [(8, .box [.d .node]), (15, .mp 75 .pair .bool false), (27, .arr 3 .i64)], []⟩
noncomputable def X_reach_Set_s2 : Tm := ⟨[(6, .mpr 15)], [(5, (.map .i64 (.lst .i64))), (17, (.lst .node)), (18, .i64), (19, .i64)], [(15, .mp 75 .pair .bool false)], []⟩
noncomputable def R_reach_Set_s2 : Tm := ⟨[], [], [], []⟩
noncomputable def L_reach_Set_s2 {ρ : Type} (n : Nat) : LOrc ρ := lorcNil
omit [Tabs] [QuietD Tryd.prog] [UDef] [UTabs] in
theorem s_reach_Set_s2 {ρ : Type} (n : Nat) (rec : T_reach_Set_s2.den → Option ρ) kx kr s : dStep Tryd.prog 59 TT M_reach_Set (O_reach_Set n) (L_reach_Set_s2 n) dorcNil 2 (lbody 0 (lbody 1000 C_reach_Set 0) 0) T_reach_Set_s2 X_reach_Set_s2 R_reach_Set_s2 ⟨[], [(9, 9, 3, 1)], []⟩ rec kx kr s = reach_Set_s2 n rec kx kr s := by kernel_rfl
noncomputable def T_reach_Set_s0 : Tm := ⟨[(6, .mpr 15)], [(5, (.map .i64 (.lst .i64))), (17, (.lst .node)), (18, .i64), (19, .i64)], [(15, .mp 75 .pair .bool false)], []⟩
noncomputable def X_reach_Set_s0 : Tm := ⟨[(6, .mpr 15)], [], [(15, .mp 75 .pair .bool false)], []⟩
noncomputable def R_reach_Set_s0 : Tm := ⟨[], [], [], []⟩
noncomputable def L_reach_Set_s0 {ρ : Type} (n : Nat) : LOrc ρ := lorcCons 2 (loopL 59 2 n T_reach_Set_s2 X_reach_Set_s2 R_reach_Set_s2 ⟨[], [(9, 9, 3, 1)], []⟩ (reach_Set_s2 n)) (lorcNil)
omit [Tabs] [QuietD Tryd.prog] [UDef] [UTabs] in
theorem s_reach_Set_s0 {ρ : Type} (n : Nat) (rec : T_reach_Set_s0.den → Option ρ) kx kr s : dStep Tryd.prog 59 TT M_reach_Set (O_reach_Set n) (L_reach_Set_s0 n) dorcNil 0 (lbody 1000 C_reach_Set 0) T_reach_Set_s0 X_reach_Set_s0 R_reach_Set_s0 ⟨[], [], []⟩ rec kx kr s = reach_Set_s0 n rec kx kr s := by kernel_rfl
noncomputable def L_reach_Set {ρ : Type} (n : Nat) : LOrc ρ := lorcCons 0 (loopL 59 0 n T_reach_Set_s0 X_reach_Set_s0 R_reach_Set_s0 ⟨[], [], []⟩ (reach_Set_s0 n)) (lorcNil)
omit [Tabs] [QuietD Tryd.prog] [UDef] [UTabs] in
theorem e_reach_Set (n : Nat) (x) : evF Tryd.prog 59 TT M_reach_Set F_reach_Set (O_reach_Set n) (L_reach_Set n) dorcNil ⟨[], [], []⟩ [.tmp 4] C_reach_Set x = reach_Set n x := by kernel_rfl
omit [UDef] [UTabs] in
theorem ok_reach_Set (n : Nat) : Contract Tryd.prog 20 F_reach_Set (reach_Set n) :=
  Contract.of_ev (c := C_reach_Set) (N := 59) Tryd.func20 (by kernel_rfl) (by kernel_rfl) (by kernel_rfl) (by kernel_rfl) (O_reach_Set_ok n) dorcNil_ok (.of (l := [(0, (lbody 1000 C_reach_Set 0))]) (by kernel_rfl) ⟨.head (loopL_sound (O_reach_Set_ok n) dorcNil_ok (.of (l := [(2, (lbody 0 (lbody 1000 C_reach_Set 0) 0))]) (by kernel_rfl) ⟨.head (loopL_sound (O_reach_Set_ok n) dorcNil_ok (.of (l := []) (by kernel_rfl) trivial) (s_reach_Set_s2 n)), trivial⟩) (s_reach_Set_s0 n)), trivial⟩) (e_reach_Set n)

noncomputable def F_q27z : FnT := ⟨1, ⟨[], [(0, (.map .pair .bool))], [], []⟩, [.v (.lst .pair)], []⟩
noncomputable def C_q27z : Code := bodyOf Tryd.f19
noncomputable def M_q27z : List (Nat × ArgM) := [(37, ⟨[1000], [], [], false⟩)]
instance : DfOk M_q27z := .none rfl
noncomputable def O_q27z {ρ : Type} (n : Nat) : Orc ρ := orcCons 37 F_sfPair (sfPair) (orcNil)
omit [QuietD Tryd.prog] [UDef] [UTabs] in
theorem O_q27z_ok {ρ : Type} (n : Nat) : (O_q27z n : Orc ρ).ok Tryd.prog := orcCons_ok (by kernel_rfl) (sfPair_ok) (orcNil_ok)
noncomputable def T_q27z_s0 : Tm := ⟨[(3, .own 3), (6, .ptr 6 0)], [], [(3, .arr 90 .pair), (6, .mi .pair .bool)], []⟩
noncomputable def X_q27z_s0 : Tm := ⟨[(3, .own 3)], [], [(3, .arr 90 .pair)], []⟩
noncomputable def R_q27z_s0 : Tm := ⟨[], [], [], []⟩
noncomputable def L_q27z_s0 {ρ : Type} (n : Nat) : LOrc ρ := lorcNil
omit [Tabs] [QuietD Tryd.prog] [UDef] [UTabs] in
theorem s_q27z_s0 {ρ : Type} (n : Nat) (rec : T_q27z_s0.den → Option ρ) kx kr s : dStep Tryd.prog 18 TT M_q27z (O_q27z n) (L_q27z_s0 n) dorcNil 0 (lbody 1000 C_q27z 0) T_q27z_s0 X_q27z_s0 R_q27z_s0 ⟨[], [(3, 3, 90, 2)], []⟩ rec kx kr s = q27z_s0 n rec kx kr s := by kernel_rfl
noncomputable def L_q27z {ρ : Type} (n : Nat) : LOrc ρ := lorcCons 0 (loopL 18 0 n T_q27z_s0 X_q27z_s0 R_q27z_s0 ⟨[], [(3, 3, 90, 2)], []⟩ (q27z_s0 n)) (lorcNil)
omit [Tabs] [QuietD Tryd.prog] [UDef] [UTabs] in
theorem e_q27z (n : Nat) (x) : evF Tryd.prog 18 TT M_q27z F_q27z (O_q27z n) (L_q27z n) dorcNil ⟨[], [], []⟩ [.tmp 2] C_q27z x = q27z n x := by kernel_rfl
omit [UDef] [UTabs] in
theorem ok_q27z (n : Nat) : Contract Tryd.prog 19 F_q27z (q27z n) :=
  Contract.of_ev (c := C_q27z) (N := 18) Tryd.func19 (by kernel_rfl) (by kernel_rfl) (by kernel_rfl) (by kernel_rfl) (O_q27z_ok n) dorcNil_ok (.of (l := [(0, (lbody 1000 C_q27z 0))]) (by kernel_rfl) ⟨.head (loopL_sound (O_q27z_ok n) dorcNil_ok (.of (l := []) (by kernel_rfl) trivial) (s_q27z_s0 n)), trivial⟩) (e_q27z n)

noncomputable def F_q30z : FnT := ⟨1, ⟨[], [(0, (.lst .pair))], [], []⟩, [.v (.lst .pair)], []⟩
noncomputable def C_q30z : Code := bodyOf Tryd.f18
noncomputable def M_q30z : List (Nat × ArgM) := []
instance : DfOk M_q30z := .none rfl
noncomputable def O_q30z {ρ : Type} (n : Nat) : Orc ρ := orcNil
omit [QuietD Tryd.prog] [UDef] [UTabs] in
theorem O_q30z_ok {ρ : Type} (n : Nat) : (O_q30z n : Orc ρ).ok Tryd.prog := orcNil_ok
noncomputable def T_q30z_s0 : Tm := ⟨[(3, .own 3)], [(6, (.lst .pair)), (7, .i64), (8, .i64)], [(3, .arr 32 .pair)], []⟩
noncomputable def X_q30z_s0 : Tm := ⟨[(3, .own 3)], [], [(3, .arr 32 .pair)], []⟩
noncomputable def R_q30z_s0 : Tm := ⟨[], [], [], []⟩
noncomputable def L_q30z_s0 {ρ : Type} (n : Nat) : LOrc ρ := lorcNil
omit [Tabs] [QuietD Tryd.prog] [UDef] [UTabs] in
theorem s_q30z_s0 {ρ : Type} (n : Nat) (rec : T_q30z_s0.den → Option ρ) kx kr s : dStep Tryd.prog 18 TT M_q30z (O_q30z n) (L_q30z_s0 n) dorcNil 0 (lbody 1000 C_q30z 0) T_q30z_s0 X_q30z_s0 R_q30z_s0 ⟨[], [(3, 3, 32, 2)], []⟩ rec kx kr s = q30z_s0 n rec kx kr s := by kernel_rfl
noncomputable def L_q30z {ρ : Type} (n : Nat) : LOrc ρ := lorcCons 0 (loopL 18 0 n T_q30z_s0 X_q30z_s0 R_q30z_s0 ⟨[], [(3, 3, 32, 2)], []⟩ (q30z_s0 n)) (lorcNil)
omit [Tabs] [QuietD Tryd.prog] [UDef] [UTabs] in
theorem e_q30z (n : Nat) (x) : evF Tryd.prog 18 TT M_q30z F_q30z (O_q30z n) (L_q30z n) dorcNil ⟨[], [], []⟩ [.tmp 2] C_q30z x = q30z n x := by kernel_rfl
omit [UDef] [UTabs] in
theorem ok_q30z (n : Nat) : Contract Tryd.prog 18 F_q30z (q30z n) :=
  Contract.of_ev (c := C_q30z) (N := 18) Tryd.func18 (by kernel_rfl) (by kernel_rfl) (by kernel_rfl) (by kernel_rfl) (O_q30z_ok n) dorcNil_ok (.of (l := [(0, (lbody 1000 C_q30z 0))]) (by kernel_rfl) ⟨.head (loopL_sound (O_q30z_ok n) dorcNil_ok (.of (l := []) (by kernel_rfl) trivial) (s_q30z_s0 n)), trivial⟩) (e_q30z n)

noncomputable def C_reach_All : Code := bodyOf Tryd.f5
noncomputable def M_reach_All : List (Nat × ArgM) := [(17, ⟨[], [], [], true⟩)]
instance : DfOk M_reach_All := .none rfl
noncomputable def O_reach_All {ρ : Type} (n : Nat) : Orc ρ := orcCons 17 F_q28z (q28z n) (orcCons 20 F_reach_Set (reach_Set n) (orcCons 19 F_q27z (q27z n) (orcCons 18 F_q30z (q30z n) (orcNil))))
omit [UDef] in
theorem O_reach_All_ok {ρ : Type} (n : Nat) : (O_reach_All n : Orc ρ).ok Tryd.prog := orcCons_ok (by kernel_rfl) (ok_q28z n) (orcCons_ok (by kernel_rfl) (ok_reach_Set n) (orcCons_ok (by kernel_rfl) (ok_q27z n) (orcCons_ok (by kernel_rfl) (ok_q30z n) (orcNil_ok))))
noncomputable def L_reach_All {ρ : Type} (n : Nat) : LOrc ρ := lorcNil
omit [Tabs] [QuietD Tryd.prog] [UDef] [UTabs] in
theorem e_reach_All (n : Nat) (x) : evF Tryd.prog 17 TT M_reach_All F_reach_All (O_reach_All n) (L_reach_All n) dorcNil ⟨[], [], []⟩ [.tmp 4, .tmp 5] C_reach_All x = reach_All n x := by kernel_rfl
omit [UDef] in
theorem ok_reach_All (n : Nat) : Contract Tryd.prog 5 F_reach_All (reach_All n) :=
  Contract.of_ev (c := C_reach_All) (N := 17) Tryd.func5 (by kernel_rfl) (by kernel_rfl) (by kernel_rfl) (by kernel_rfl) (O_reach_All_ok n) dorcNil_ok (.of (l := []) (by kernel_rfl) trivial) (e_reach_All n)

noncomputable def F_q10z : FnT := ⟨0, ⟨[], [], [], []⟩, [.v .bool], []⟩
noncomputable def F_q11z : FnT := ⟨0, ⟨[], [], [], []⟩, [.v .graph], []⟩
noncomputable def C_q11z : Code := bodyOf Tryd.f21
noncomputable def M_q11z : List (Nat × ArgM) := []
instance : DfOk M_q11z := .none rfl
noncomputable def O_q11z {ρ : Type} : Orc ρ := orcNil
omit [QuietD Tryd.prog] [UDef] [UTabs] in
theorem O_q11z_ok {ρ : Type} : (O_q11z : Orc ρ).ok Tryd.prog := orcNil_ok
noncomputable def L_q11z {ρ : Type} : LOrc ρ := lorcNil
omit [Tabs] [QuietD Tryd.prog] [UDef] [UTabs] in
theorem e_q11z (x) : evF Tryd.prog 10 TT M_q11z F_q11z (O_q11z) (L_q11z) dorcNil ⟨[], [], []⟩ [.cell 0 25] C_q11z x = q11z x := by kernel_rfl
omit [UDef] [UTabs] in
theorem ok_q11z : Contract Tryd.prog 21 F_q11z (q11z) :=
  Contract.of_ev (c := C_q11z) (N := 10) Tryd.func21 (by kernel_rfl) (by kernel_rfl) (by kernel_rfl) (by kernel_rfl) (O_q11z_ok) dorcNil_ok (.of (l := []) (by kernel_rfl) trivial) (e_q11z)

noncomputable def F_q37z : FnT := ⟨4, ⟨[], [(0, .graph), (1, .str), (2, .i64), (3, .i64)], [], []⟩, [.v (.lst .i64), .v .i64], []⟩
noncomputable def C_q37z : Code := bodyOf Tryd.f7
noncomputable def M_q37z : List (Nat × ArgM) := [(17, ⟨[], [], [], true⟩), (24, ⟨[], [], [], true⟩)]
instance : DfOk M_q37z := .none rfl
noncomputable def O_q37z {ρ : Type} (n : Nat) : Orc ρ := orcCons 17 F_q28z (q28z n) (orcCons 24 F_q35z (q35z n) (orcNil))
omit [UDef] in
theorem O_q37z_ok {ρ : Type} (n : Nat) : (O_q37z n : Orc ρ).ok Tryd.prog := orcCons_ok (by kernel_rfl) (ok_q28z n) (orcCons_ok (by kernel_rfl) (ok_q35z n) (orcNil_ok))
noncomputable def T_q37z_s2 : Tm := ⟨[(4, .ptr 4 0), (11, .mpr 42)], [(1, .str), (2, .i64), (3, .i64), (12, .i64), (13, .bool), (49, (.lst .edg)), (50, .i64), (51, .i64)], [(4, .box [.d .graph]), (42, .mp 81 .i64 .i64 false)], []⟩
noncomputable def X_q37z_s2 : Tm := ⟨[(4, .ptr 4 0), (11, .mpr 42)], [(1, .str), (2, .i64), (3, .i64), (12, .i64), (13, .bool)], [(4, .box [.d .graph]), (42, .mp 81 .i64 .i64 false)], []⟩
noncomputable def R_q37z_s2 : Tm := ⟨[], [], [], []⟩
noncomputable def L_q37z_s2 {ρ : Type} (n : Nat) : LOrc ρ := lorcNil
omit [Tabs] [QuietD Tryd.prog] [UDef] [UTabs] in
theorem s_q37z_s2 {ρ : Type} (n : Nat) (rec : T_q37z_s2.den → Option ρ) kx kr s : dStep Tryd.prog 168 TT M_q37z (O_q37z n) (L_q37z_s2 n) dorcNil 2 (lbody 0 (lbody 1000 C_q37z 0) 0) T_q37z_s2 X_q37z_s2 R_q37z_s2 ⟨[], [], []⟩ rec kx kr s = q37z_s2 n rec kx kr s := by kernel_rfl
noncomputable def T_q37z_s0 : Tm := ⟨[(4, .ptr 4 0), (11, .mpr 42)], [(1, .str), (2, .i64), (3, .i64), (12, .i64), (13, .bool)], [(4, .box [.d .graph]), (42, .mp 81 .i64 .i64 false)], []⟩
noncomputable def X_q37z_s0 : Tm := ⟨[(4, .ptr 4 0), (11, .mpr 42)], [(1, .str), (2, .i64), (3, .i64)], [(4, .box [.d .graph]), (42, .mp 81 .i64 .i64 false)], []⟩
noncomputable def R_q37z_s0 : Tm := ⟨[], [], [], []⟩
noncomputable def L_q37z_s0 {ρ : Type} (n : Nat) : LOrc ρ := lorcCons 2 (loopL 168 2 n T_q37z_s2 X_q37z_s2 R_q37z_s2 ⟨[], [], []⟩ (q37z_s2 n)) (lorcNil)
omit [Tabs] [QuietD Tryd.prog] [UDef] [UTabs] in
theorem s_q37z_s0 {ρ : Type} (n : Nat) (rec : T_q37z_s0.den → Option ρ) kx kr s : dStep Tryd.prog 168 TT M_q37z (O_q37z n) (L_q37z_s0 n) dorcNil 0 (lbody 1000 C_q37z 0) T_q37z_s0 X_q37z_s0 R_q37z_s0 ⟨[], [], []⟩ rec kx kr s = q37z_s0 n rec kx kr s := by kernel_rfl
noncomputable def T_q37z_s6 : Tm := ⟨[(4, .ptr 4 0), (11, .mpr 42), (20, .own 20)], [(1, .str), (3, .i64), (21, .i64), (22, .i64), (101, (.lst .edg)), (102, .i64), (103, .i64)], [(4, .box [.d .graph]), (20, .arr 3 .i64), (42, .mp 81 .i64 .i64 false)], []⟩
noncomputable def X_q37z_s6 : Tm := ⟨[(4, .ptr 4 0), (11, .mpr 42), (20, .own 20)], [(1, .str), (3, .i64), (22, .i64)], [(4, .box [.d .graph]), (20, .arr 3 .i64), (42, .mp 81 .i64 .i64 false)], []⟩
noncomputable def R_q37z_s6 : Tm := ⟨[], [], [], []⟩
noncomputable def L_q37z_s6 {ρ : Type} (n : Nat) : LOrc ρ := lorcNil
omit [Tabs] [QuietD Tryd.prog] [UDef] [UTabs] in
theorem s_q37z_s6 {ρ : Type} (n : Nat) (rec : T_q37z_s6.den → Option ρ) kx kr s : dStep Tryd.prog 168 TT M_q37z (O_q37z n) (L_q37z_s6 n) dorcNil 6 (lbody 4 (lbody 1000 C_q37z 1) 0) T_q37z_s6 X_q37z_s6 R_q37z_s6 ⟨[], [], []⟩ rec kx kr s = q37z_s6 n rec kx kr s := by kernel_rfl
noncomputable def T_q37z_s4 : Tm := ⟨[(4, .ptr 4 0), (11, .mpr 42), (20, .own 20)], [(1, .str), (3, .i64), (21, .i64)], [(4, .box [.d .graph]), (20, .arr 3 .i64), (42, .mp 81 .i64 .i64 false)], []⟩
noncomputable def X_q37z_s4 : Tm := ⟨[(20, .own 20)], [], [(20, .arr 3 .i64)], []⟩
noncomputable def R_q37z_s4 : Tm := ⟨[], [(8, (.lst .i64)), (9, .i64)], [], []⟩
noncomputable def L_q37z_s4 {ρ : Type} (n : Nat) : LOrc ρ := lorcCons 6 (loopL 168 6 n T_q37z_s6 X_q37z_s6 R_q37z_s6 ⟨[], [], []⟩ (q37z_s6 n)) (lorcNil)
omit [Tabs] [QuietD Tryd.prog] [UDef] [UTabs] in
theorem s_q37z_s4 {ρ : Type} (n : Nat) (rec : T_q37z_s4.den → Option ρ) kx kr s : dStep Tryd.prog 168 TT M_q37z (O_q37z n) (L_q37z_s4 n) dorcNil 4 (lbody 1000 C_q37z 1) T_q37z_s4 X_q37z_s4 R_q37z_s4 ⟨[], [(20, 20, 3, 1)], []⟩ rec kx kr s = q37z_s4 n rec kx kr s := by kernel_rfl
noncomputable def L_q37z {ρ : Type} (n : Nat) : LOrc ρ := lorcCons 0 (loopL 168 0 n T_q37z_s0 X_q37z_s0 R_q37z_s0 ⟨[], [], []⟩ (q37z_s0 n)) (lorcCons 4 (loopL 168 4 n T_q37z_s4 X_q37z_s4 R_q37z_s4 ⟨[], [(20, 20, 3, 1)], []⟩ (q37z_s4 n)) (lorcNil))
omit [Tabs] [QuietD Tryd.prog] [UDef] [UTabs] in
theorem e_q37z (n : Nat) (x) : evF Tryd.prog 168 TT M_q37z F_q37z (O_q37z n) (L_q37z n) dorcNil ⟨[], [], []⟩ [.tmp 8, .tmp 9] C_q37z x = q37z n x := by kernel_rfl
omit [UDef] in
theorem ok_q37z (n : Nat) : Contract Tryd.prog 7 F_q37z (q37z n) :=
  Contract.of_ev (c := C_q37z) (N := 168) Tryd.func7 (by kernel_rfl) (by kernel_rfl) (by kernel_rfl) (by kernel_rfl) (O_q37z_ok n) dorcNil_ok (.of (l := [(0, (lbody 1000 C_q37z 0)), (4, (lbody 1000 C_q37z 1))]) (by kernel_rfl) ⟨.head (loopL_sound (O_q37z_ok n) dorcNil_ok (.of (l := [(2, (lbody 0 (lbody 1000 C_q37z 0) 0))]) (by kernel_rfl) ⟨.head (loopL_sound (O_q37z_ok n) dorcNil_ok (.of (l := []) (by kernel_rfl) trivial) (s_q37z_s2 n)), trivial⟩) (s_q37z_s0 n)), ⟨.tail rfl (.head (loopL_sound (O_q37z_ok n) dorcNil_ok (.of (l := [(6, (lbody 4 (lbody 1000 C_q37z 1) 0))]) (by kernel_rfl) ⟨.head (loopL_sound (O_q37z_ok n) dorcNil_ok (.of (l := []) (by kernel_rfl) trivial) (s_q37z_s6 n)), trivial⟩) (s_q37z_s4 n))), trivial⟩⟩) (e_q37z n)

noncomputable def F_q7z : FnT := ⟨2, ⟨[], [(0, (.lst .pair)), (1, (.lst .pair))], [], []⟩, [.v .bool], []⟩
noncomputable def C_q7z : Code := bodyOf Tryd.f22
noncomputable def M_q7z : List (Nat × ArgM) := []
instance : DfOk M_q7z := .none rfl
noncomputable def O_q7z {ρ : Type} (n : Nat) : Orc ρ := orcNil
omit [QuietD Tryd.prog] [UDef] [UTabs] in
theorem O_q7z_ok {ρ : Type} (n : Nat) : (O_q7z n : Orc ρ).ok Tryd.prog := orcNil_ok
noncomputable def T_q7z_s0 : Tm := ⟨[], [(0, (.lst .pair)), (1, (.lst .pair)), (12, .i64), (13, .i64)], [], []⟩
noncomputable def X_q7z_s0 : Tm := ⟨[], [], [], []⟩
noncomputable def R_q7z_s0 : Tm := ⟨[], [(4, .bool)], [], []⟩
noncomputable def L_q7z_s0 {ρ : Type} (n : Nat) : LOrc ρ := lorcNil
omit [Tabs] [QuietD Tryd.prog] [UDef] [UTabs] in
theorem s_q7z_s0 {ρ : Type} (n : Nat) (rec : T_q7z_s0.den → Option ρ) kx kr s : dStep Tryd.prog 26 TT M_q7z (O_q7z n) (L_q7z_s0 n) (evDraw Tryd.prog 26 TT M_q7z (O_q7z n)) 0 (lbody 1000 C_q7z 0) T_q7z_s0 X_q7z_s0 R_q7z_s0 ⟨[], [], []⟩ rec kx kr s = q7z_s0 n rec kx kr s := by kernel_rfl
noncomputable def L_q7z {ρ : Type} (n : Nat) : LOrc ρ := lorcCons 0 (loopL 26 0 n T_q7z_s0 X_q7z_s0 R_q7z_s0 ⟨[], [], []⟩ (q7z_s0 n)) (lorcNil)
omit [Tabs] [QuietD Tryd.prog] [UDef] [UTabs] in
theorem e_q7z (n : Nat) (x) : evF Tryd.prog 26 TT M_q7z F_q7z (O_q7z n) (L_q7z n) (evDraw Tryd.prog 26 TT M_q7z (O_q7z n)) ⟨[], [], []⟩ [.tmp 4] C_q7z x = q7z n x := by kernel_rfl
omit [UDef] [UTabs] in
theorem ok_q7z (n : Nat) : Contract Tryd.prog 22 F_q7z (q7z n) :=
  Contract.of_ev (c := C_q7z) (N := 26) Tryd.func22 (by kernel_rfl) (by kernel_rfl) (by kernel_rfl) (by kernel_rfl) (O_q7z_ok n) (evDraw_ok (O_q7z_ok n) (by kernel_rfl)) (.of (l := [(0, (lbody 1000 C_q7z 0))]) (by kernel_rfl) ⟨.head (loopL_sound (O_q7z_ok n) (evDraw_ok (O_q7z_ok n) (by kernel_rfl)) (.of (l := []) (by kernel_rfl) trivial) (s_q7z_s0 n)), trivial⟩) (e_q7z n)

noncomputable def F_q9z : FnT := ⟨2, ⟨[], [(0, (.lst .i64)), (1, (.lst .i64))], [], []⟩, [.v .bool], []⟩
noncomputable def C_q9z : Code := bodyOf Tryd.f23
noncomputable def M_q9z : List (Nat × ArgM) := []
instance : DfOk M_q9z := .none rfl
noncomputable def O_q9z {ρ : Type} (n : Nat) : Orc ρ := orcNil
omit [QuietD Tryd.prog] [UDef] [UTabs] in
theorem O_q9z_ok {ρ : Type} (n : Nat) : (O_q9z n : Orc ρ).ok Tryd.prog := orcNil_ok
noncomputable def T_q9z_s0 : Tm := ⟨[], [(0, (.lst .i64)), (1, (.lst .i64)), (12, .i64), (13, .i64)], [], []⟩
noncomputable def X_q9z_s0 : Tm := ⟨[], [], [], []⟩
noncomputable def R_q9z_s0 : Tm := ⟨[], [(4, .bool)], [], []⟩
noncomputable def L_q9z_s0 {ρ : Type} (n : Nat) : LOrc ρ := lorcNil
omit [Tabs] [QuietD Tryd.prog] [UDef] [UTabs] in
theorem s_q9z_s0 {ρ : Type} (n : Nat) (rec : T_q9z_s0.den → Option ρ) kx kr s : dStep Tryd.prog 26 TT M_q9z (O_q9z n) (L_q9z_s0 n) (evDraw Tryd.prog 26 TT M_q9z (O_q9z n)) 0 (lbody 1000 C_q9z 0) T_q9z_s0 X_q9z_s0 R_q9z_s0 ⟨[], [], []⟩ rec kx kr s = q9z_s0 n rec kx kr s := by kernel_rfl
noncomputable def L_q9z {ρ : Type} (n : Nat) : LOrc ρ := lorcCons 0 (loopL 26 0 n T_q9z_s0 X_q9z_s0 R_q9z_s0 ⟨[], [], []⟩ (q9z_s0 n)) (lorcNil)
omit [Tabs] [QuietD Tryd.prog] [UDef] [UTabs] in
theorem e_q9z (n : Nat) (x) : evF Tryd.prog 26 TT M_q9z F_q9z (O_q9z n) (L_q9z n) (evDraw Tryd.prog 26 TT M_q9z (O_q9z n)) ⟨[], [], []⟩ [.tmp 4] C_q9z x = q9z n x := by kernel_rfl
omit [UDef] [UTabs] in
theorem ok_q9z (n : Nat) : Contract Tryd.prog 23 F_q9z (q9z n) :=
  Contract.of_ev (c := C_q9z) (N := 26) Tryd.func23 (by kernel_rfl) (by kernel_rfl) (by kernel_rfl) (by kernel_rfl) (O_q9z_ok n) (evDraw_ok (O_q9z_ok n) (by kernel_rfl)) (.of (l := [(0, (lbody 1000 C_q9z 0))]) (by kernel_rfl) ⟨.head (loopL_sound (O_q9z_ok n) (evDraw_ok (O_q9z_ok n) (by kernel_rfl)) (.of (l := []) (by kernel_rfl) trivial) (s_q9z_s0 n)), trivial⟩) (e_q9z n)

noncomputable def C_q10z : Code := bodyOf Tryd.f6
noncomputable def M_q10z : List (Nat × ArgM) := [(22, ⟨[], [], [], true⟩), (23, ⟨[], [], [], true⟩)]
instance : DfOk M_q10z := .none rfl
noncomputable def O_q10z {ρ : Type} (n : Nat) : Orc ρ := orcCons 21 F_q11z (q11z) (orcCons 5 F_reach_All (reach_All n) (orcCons 7 F_q37z (q37z n) (orcCons 22 F_q7z (q7z n) (orcCons 23 F_q9z (q9z n) (orcNil)))))
omit [UDef] in
theorem O_q10z_ok {ρ : Type} (n : Nat) : (O_q10z n : Orc ρ).ok Tryd.prog := orcCons_ok (by kernel_rfl) (ok_q11z) (orcCons_ok (by kernel_rfl) (ok_reach_All n) (orcCons_ok (by kernel_rfl) (ok_q37z n) (orcCons_ok (by kernel_rfl) (ok_q7z n) (orcCons_ok (by kernel_rfl) (ok_q9z n) (orcNil_ok)))))
noncomputable def L_q10z {ρ : Type} (n : Nat) : LOrc ρ := lorcNil
omit [Tabs] [QuietD Tryd.prog] [UDef] [UTabs] in
theorem e_q10z (n : Nat) (x) : evF Tryd.prog 34 TT M_q10z F_q10z (O_q10z n) (L_q10z n) dorcNil ⟨[], [], []⟩ [.tmp 0] C_q10z x = q10z n x := by kernel_rfl
omit [UDef] in
theorem ok_q10z (n : Nat) : Contract Tryd.prog 6 F_q10z (q10z n) :=
  Contract.of_ev (c := C_q10z) (N := 34) Tryd.func6 (by kernel_rfl) (by kernel_rfl) (by kernel_rfl) (by kernel_rfl) (O_q10z_ok n) dorcNil_ok (.of (l := []) (by kernel_rfl) trivial) (e_q10z n)

noncomputable def F_q0z : FnT := ⟨2, ⟨[(1, .clo 9 [1000000])], [(0, (.lst .edg))], [(1000000, .box [.d .i64])], []⟩, [.v .i64], [(1000000, .box [.d .i64])]⟩
noncomputable def F_q5z : FnT := ⟨2, ⟨[(1, .ptr 1000000 0)], [(0, .edg)], [(1000000, .box [.d .i64])], []⟩, [.v .bool], [(1000000, .box [.d .i64])]⟩
noncomputable def C_q5z : Code := bodyOf Tryd.f9
noncomputable def M_q5z : List (Nat × ArgM) := []
instance : DfOk M_q5z := .none rfl
noncomputable def O_q5z {ρ : Type} : Orc ρ := orcNil
omit [QuietD Tryd.prog] [UDef] [UTabs] in
theorem O_q5z_ok {ρ : Type} : (O_q5z : Orc ρ).ok Tryd.prog := orcNil_ok
noncomputable def L_q5z {ρ : Type} : LOrc ρ := lorcNil
omit [Tabs] [QuietD Tryd.prog] [UDef] [UTabs] in
theorem e_q5z (x) : evF Tryd.prog 8 TT M_q5z F_q5z (O_q5z) (L_q5z) dorcNil ⟨[], [], []⟩ [.tmp 3] C_q5z x = q5z x := by kernel_rfl
omit [UDef] [UTabs] in
theorem ok_q5z : Contract Tryd.prog 9 F_q5z (q5z) :=
  Contract.of_ev (c := C_q5z) (N := 8) Tryd.func9 (by kernel_rfl) (by kernel_rfl) (by kernel_rfl) (by kernel_rfl) (O_q5z_ok) dorcNil_ok (.of (l := []) (by kernel_rfl) trivial) (e_q5z)

noncomputable def C_q0z : Code := bodyOf Tryd.f8
noncomputable def M_q0z : List (Nat × ArgM) := [(9, ⟨[1], [], [], false⟩)]
instance : DfOk M_q0z := .none rfl
noncomputable def O_q0z {ρ : Type} (n : Nat) : Orc ρ := orcCons 9 F_q5z (q5z) (orcNil)
omit [UDef] [UTabs] in
theorem O_q0z_ok {ρ : Type} (n : Nat) : (O_q0z n : Orc ρ).ok Tryd.prog := orcCons_ok (by kernel_rfl) (ok_q5z) (orcNil_ok)
noncomputable def T_q0z_s0 : Tm := ⟨[(1, .clo 9 [1000000])], [(0, (.lst .edg)), (7, .i64), (8, .i64)], [(1000000, .box [.d .i64])], []⟩
noncomputable def X_q0z_s0 : Tm := ⟨[], [], [(1000000, .box [.d .i64])], []⟩
noncomputable def R_q0z_s0 : Tm := ⟨[], [(4, .i64)], [(1000000, .box [.d .i64])], []⟩
noncomputable def L_q0z_s0 {ρ : Type} (n : Nat) : LOrc ρ := lorcNil
omit [Tabs] [QuietD Tryd.prog] [UDef] [UTabs] in
theorem s_q0z_s0 {ρ : Type} (n : Nat) (rec : T_q0z_s0.den → Option ρ) kx kr s : dStep Tryd.prog 19 TT M_q0z (O_q0z n) (L_q0z_s0 n) dorcNil 0 (lbody 1000 C_q0z 0) T_q0z_s0 X_q0z_s0 R_q0z_s0 ⟨[], [], []⟩ rec kx kr s = q0z_s0 n rec kx kr s := by kernel_rfl
noncomputable def L_q0z {ρ : Type} (n : Nat) : LOrc ρ := lorcCons 0 (loopL 19 0 n T_q0z_s0 X_q0z_s0 R_q0z_s0 ⟨[], [], []⟩ (q0z_s0 n)) (lorcNil)
omit [Tabs] [QuietD Tryd.prog] [UDef] [UTabs] in
theorem e_q0z (n : Nat) (x) : evF Tryd.prog 19 TT M_q0z F_q0z (O_q0z n) (L_q0z n) dorcNil ⟨[], [], []⟩ [.tmp 4] C_q0z x = q0z n x := by kernel_rfl
omit [UDef] [UTabs] in
theorem ok_q0z (n : Nat) : Contract Tryd.prog 8 F_q0z (q0z n) :=
  Contract.of_ev (c := C_q0z) (N := 19) Tryd.func8 (by kernel_rfl) (by kernel_rfl) (by kernel_rfl) (by kernel_rfl) (O_q0z_ok n) dorcNil_ok (.of (l := [(0, (lbody 1000 C_q0z 0))]) (by kernel_rfl) ⟨.head (loopL_sound (O_q0z_ok n) dorcNil_ok (.of (l := []) (by kernel_rfl) trivial) (s_q0z_s0 n)), trivial⟩) (e_q0z n)

noncomputable def F_txn_Apply : FnT := ⟨2, ⟨[], [(0, .graph), (1, (.lst .opn))], [], []⟩, [.v .graph, .v (.lst .i64), .v .i64, .v .i64], []⟩
noncomputable def F_q17z : FnT := ⟨1, ⟨[], [(0, .node)], [], []⟩, [.v .node], []⟩
noncomputable def F_q4z : FnT := ⟨1, ⟨[], [(0, (.lst .str))], [], []⟩, [.v (.lst .str)], []⟩
noncomputable def C_q4z : Code := bodyOf Tryd.f78
noncomputable def M_q4z : List (Nat × ArgM) := []
instance : DfOk M_q4z := .none rfl
noncomputable def O_q4z {ρ : Type} : Orc ρ := orcNil
omit [QuietD Tryd.prog] [UDef] [UTabs] in
theorem O_q4z_ok {ρ : Type} : (O_q4z : Orc ρ).ok Tryd.prog := orcNil_ok
noncomputable def L_q4z {ρ : Type} : LOrc ρ := lorcNil
omit [Tabs] [QuietD Tryd.prog] [UDef] [UTabs] in
theorem e_q4z (x) : evF Tryd.prog 8 TT M_q4z F_q4z (O_q4z) (L_q4z) dorcNil ⟨[], [], []⟩ [.tmp 2] C_q4z x = q4z x := by kernel_rfl
omit [UDef] [UTabs] in
theorem ok_q4z : Contract Tryd.prog 78 F_q4z (q4z) :=
  Contract.of_ev (c := C_q4z) (N := 8) Tryd.func78 (by kernel_rfl) (by kernel_rfl) (by kernel_rfl) (by kernel_rfl) (O_q4z_ok) dorcNil_ok (.of (l := []) (by kernel_rfl) trivial) (e_q4z)

noncomputable def F_q15z : FnT := ⟨1, ⟨[], [(0, (.lst .prp))], [], []⟩, [.v (.lst .prp)], []⟩
noncomputable def F_q38z : FnT := ⟨1, ⟨[], [(0, .val)], [], []⟩, [.v .val], []⟩
noncomputable def C_q38z : Code := bodyOf Tryd.f86
noncomputable def M_q38z : List (Nat × ArgM) := []
instance : DfOk M_q38z := .none rfl
noncomputable def O_q38z {ρ : Type} (self_q38z : Ev.Val × Unit → Option (Ev.Val × Unit)) (n : Nat) : Orc ρ := orcCons 86 F_q38z (self_q38z) (orcNil)
omit [QuietD Tryd.prog] [UDef] [UTabs] in
theorem O_q38z_ok {ρ : Type} (self_q38z : Ev.Val × Unit → Option (Ev.Val × Unit)) (h_q38z : Contract Tryd.prog 86 F_q38z self_q38z) (n : Nat) : (O_q38z self_q38z n : Orc ρ).ok Tryd.prog := orcCons_ok (by kernel_rfl) (h_q38z) (orcNil_ok)
noncomputable def T_q38z_s0 : Tm := ⟨[(1, .ptr 1 0), (2, .ptr 2 0)], [(9, (.lst .val)), (10, .i64), (11, .i64)], [(1, .box [.d .i64, .d .i64, .d .str, .ref (.own 300043)]), (2, .box [.d .val]), (300043, .arr 45 .val)], []⟩
noncomputable def X_q38z_s0 : Tm := ⟨[(1, .ptr 1 0), (2, .ptr 2 0)], [], [(1, .box [.d .i64, .d .i64, .d .str, .ref (.own 300043)]), (2, .box [.d .val]), (300043, .arr 45 .val)], []⟩
noncomputable def R_q38z_s0 : Tm := ⟨[], [], [], []⟩
noncomputable def L_q38z_s0 {ρ : Type} (self_q38z : Ev.Val × Unit → Option (Ev.Val × Unit)) (n : Nat) : LOrc ρ := lorcNil
omit [Tabs] [QuietD Tryd.prog] [UDef] [UTabs] in
theorem s_q38z_s0 {ρ : Type} (self_q38z : Ev.Val × Unit → Option (Ev.Val × Unit)) (n : Nat) (rec : T_q38z_s0.den → Option ρ) kx kr s : dStep Tryd.prog 24 TT M_q38z (O_q38z self_q38z n) (L_q38z_s0 self_q38z n) (evDraw Tryd.prog 24 TT M_q38z (O_q38z self_q38z n)) 0 (lbody 1000 C_q38z 0) T_q38z_s0 X_q38z_s0 R_q38z_s0 ⟨[], [], [(1, 3, 300043, 45, 4)]⟩ rec kx kr s = q38z_s0 self_q38z n rec kx kr s := by kernel_rfl
noncomputable def L_q38z {ρ : Type} (self_q38z : Ev.Val × Unit → Option (Ev.Val × Unit)) (n : Nat) : LOrc ρ := lorcCons 0 (loopL 24 0 n T_q38z_s0 X_q38z_s0 R_q38z_s0 ⟨[], [], [(1, 3, 300043, 45, 4)]⟩ (q38z_s0 self_q38z n)) (lorcNil)
omit [Tabs] [QuietD Tryd.prog] [UDef] [UTabs] in
theorem e_q38z (self_q38z : Ev.Val × Unit → Option (Ev.Val × Unit)) (n : Nat) (x) : evF Tryd.prog 24 TT M_q38z F_q38z (O_q38z self_q38z n) (L_q38z self_q38z n) (evDraw Tryd.prog 24 TT M_q38z (O_q38z self_q38z n)) ⟨[], [], []⟩ [.cell 2 45] C_q38z x = q38z_b self_q38z n x := by kernel_rfl
omit [UDef] [UTabs] in
theorem okb_q38z (self_q38z : Ev.Val × Unit → Option (Ev.Val × Unit)) (h_q38z : Contract Tryd.prog 86 F_q38z self_q38z) (n : Nat) : Contract Tryd.prog 86 F_q38z (q38z_b self_q38z n) :=
  Contract.of_ev (c := C_q38z) (N := 24) Tryd.func86 (by kernel_rfl) (by kernel_rfl) (by kernel_rfl) (by kernel_rfl) (O_q38z_ok self_q38z h_q38z n) (evDraw_ok (O_q38z_ok self_q38z h_q38z n) (by kernel_rfl)) (.of (l := [(0, (lbody 1000 C_q38z 0))]) (by kernel_rfl) ⟨.head (loopL_sound (O_q38z_ok self_q38z h_q38z n) (evDraw_ok (O_q38z_ok self_q38z h_q38z n) (by kernel_rfl)) (.of (l := []) (by kernel_rfl) trivial) (s_q38z_s0 self_q38z n)), trivial⟩) (e_q38z self_q38z n)
omit [UDef] [UTabs] in
theorem ok_q38z : ∀ n, Contract Tryd.prog 86 F_q38z (q38z n)
  | 0 => fun _ _ h => by cases h
  | n + 1 => okb_q38z _ (ok_q38z n) n

noncomputable def C_q15z : Code := bodyOf Tryd.f79
noncomputable def M_q15z : List (Nat × ArgM) := []
instance : DfOk M_q15z := .none rfl
noncomputable def O_q15z {ρ : Type} (n : Nat) : Orc ρ := orcCons 86 F_q38z (q38z n) (orcNil)
omit [UDef] [UTabs] in
theorem O_q15z_ok {ρ : Type} (n : Nat) : (O_q15z n : Orc ρ).ok Tryd.prog := orcCons_ok (by kernel_rfl) (ok_q38z n) (orcNil_ok)
noncomputable def T_q15z_s0 : Tm := ⟨[(3, .own 3)], [(6, (.lst .prp)), (7, .i64), (8, .i64)], [(3, .arr 153 .prp)], []⟩
noncomputable def X_q15z_s0 : Tm := ⟨[(3, .own 3)], [], [(3, .arr 153 .prp)], []⟩
noncomputable def R_q15z_s0 : Tm := ⟨[], [], [], []⟩
noncomputable def L_q15z_s0 {ρ : Type} (n : Nat) : LOrc ρ := lorcNil
omit [Tabs] [QuietD Tryd.prog] [UDef] [UTabs] in
theorem s_q15z_s0 {ρ : Type} (n : Nat) (rec : T_q15z_s0.den → Option ρ) kx kr s : dStep Tryd.prog 22 TT M_q15z (O_q15z n) (L_q15z_s0 n) dorcNil 0 (lbody 1000 C_q15z 0) T_q15z_s0 X_q15z_s0 R_q15z_s0 ⟨[], [(3, 3, 153, 5)], []⟩ rec kx kr s = q15z_s0 n rec kx kr s := by kernel_rfl
noncomputable def L_q15z {ρ : Type} (n : Nat) : LOrc ρ := lorcCons 0 (loopL 22 0 n T_q15z_s0 X_q15z_s0 R_q15z_s0 ⟨[], [(3, 3, 153, 5)], []⟩ (q15z_s0 n)) (lorcNil)
omit [Tabs] [QuietD Tryd.prog] [UDef] [UTabs] in
theorem e_q15z (n : Nat) (x) : evF Tryd.prog 22 TT M_q15z F_q15z (O_q15z n) (L_q15z n) dorcNil ⟨[], [], []⟩ [.tmp 2] C_q15z x = q15z n x := by kernel_rfl
omit [UDef] [UTabs] in
theorem ok_q15z (n : Nat) : Contract Tryd.prog 79 F_q15z (q15z n) :=
  Contract.of_ev (c := C_q15z) (N := 22) Tryd.func79 (by kernel_rfl) (by kernel_rfl) (by kernel_rfl) (by kernel_rfl) (O_q15z_ok n) dorcNil_ok (.of (l := [(0, (lbody 1000 C_q15z 0))]) (by kernel_rfl) ⟨.head (loopL_sound (O_q15z_ok n) dorcNil_ok (.of (l := []) (by kernel_rfl) trivial) (s_q15z_s0 n)), trivial⟩) (e_q15z n)

noncomputable def C_q17z : Code := bodyOf Tryd.f56
noncomputable def M_q17z : List (Nat × ArgM) := []
instance : DfOk M_q17z := .none rfl
noncomputable def O_q17z {ρ : Type} (n : Nat) : Orc ρ := orcCons 78 F_q4z (q4z) (orcCons 79 F_q15z (q15z n) (orcNil))
omit [UDef] [UTabs] in
theorem O_q17z_ok {ρ : Type} (n : Nat) : (O_q17z n : Orc ρ).ok Tryd.prog := orcCons_ok (by kernel_rfl) (ok_q4z) (orcCons_ok (by kernel_rfl) (ok_q15z n) (orcNil_ok))
noncomputable def L_q17z {ρ : Type} (n : Nat) : LOrc ρ := lorcNil
omit [Tabs] [QuietD Tryd.prog] [UDef] [UTabs] in
theorem e_q17z (n : Nat) (x) : evF Tryd.prog 12 TT M_q17z F_q17z (O_q17z n) (L_q17z n) dorcNil ⟨[], [], []⟩ [.cell 2 116] C_q17z x = q17z n x := by kernel_rfl
omit [UDef] [UTabs] in
theorem ok_q17z (n : Nat) : Contract Tryd.prog 56 F_q17z (q17z n) :=
  Contract.of_ev (c := C_q17z) (N := 12) Tryd.func56 (by kernel_rfl) (by kernel_rfl) (by kernel_rfl) (by kernel_rfl) (O_q17z_ok n) dorcNil_ok (.of (l := []) (by kernel_rfl) trivial) (e_q17z n)

noncomputable def F_q16z : FnT := ⟨1, ⟨[], [(0, .edg)], [], []⟩, [.v .edg], []⟩
noncomputable def C_q16z : Code := bodyOf Tryd.f57
noncomputable def M_q16z : List (Nat × ArgM) := []
instance : DfOk M_q16z := .none rfl
noncomputable def O_q16z {ρ : Type} (n : Nat) : Orc ρ := orcCons 79 F_q15z (q15z n) (orcNil)
omit [UDef] [UTabs] in
theorem O_q16z_ok {ρ : Type} (n : Nat) : (O_q16z n : Orc ρ).ok Tryd.prog := orcCons_ok (by kernel_rfl) (ok_q15z n) (orcNil_ok)
noncomputable def L_q16z {ρ : Type} (n : Nat) : LOrc ρ := lorcNil
omit [Tabs] [QuietD Tryd.prog] [UDef] [UTabs] in
theorem e_q16z (n : Nat) (x) : evF Tryd.prog 8 TT M_q16z F_q16z (O_q16z n) (L_q16z n) dorcNil ⟨[], [], []⟩ [.cell 2 39] C_q16z x = q16z n x := by kernel_rfl
omit [UDef] [UTabs] in
theorem ok_q16z (n : Nat) : Contract Tryd.prog 57 F_q16z (q16z n) :=
  Contract.of_ev (c := C_q16z) (N := 8) Tryd.func57 (by kernel_rfl) (by kernel_rfl) (by kernel_rfl) (by kernel_rfl) (O_q16z_ok n) dorcNil_ok (.of (l := []) (by kernel_rfl) trivial) (e_q16z n)

noncomputable def F_q18z : FnT := ⟨1, ⟨[], [(0, .graph)], [], []⟩, [.mix [.ref (.own 300120), .ref (.own 300121), .d .i64]], [(300120, .arr 116 .node), (300121, .arr 39 .edg)]⟩
noncomputable def C_q18z : Code := bodyOf Tryd.f25
noncomputable def M_q18z : List (Nat × ArgM) := []
instance : DfOk M_q18z := .none rfl
noncomputable def O_q18z {ρ : Type} (n : Nat) : Orc ρ := orcCons 56 F_q17z (q17z n) (orcCons 57 F_q16z (q16z n) (orcNil))
omit [UDef] [UTabs] in
theorem O_q18z_ok {ρ : Type} (n : Nat) : (O_q18z n : Orc ρ).ok Tryd.prog := orcCons_ok (by kernel_rfl) (ok_q17z n) (orcCons_ok (by kernel_rfl) (ok_q16z n) (orcNil_ok))
noncomputable def T_q18z_s0 : Tm := ⟨[(1, .ptr 1 0), (2, .ptr 2 0), (3, .ptr 3 0)], [(12, (.lst .node)), (13, .i64), (14, .i64)], [(1, .box [.d .graph]), (2, .box [.d .graph]), (3, .box [.ref (.own 300120), .ref (.nils), .d .i64]), (300120, .arr 116 .node)], []⟩
noncomputable def X_q18z_s0 : Tm := ⟨[(1, .ptr 1 0), (2, .ptr 2 0), (3, .ptr 3 0)], [], [(1, .box [.d .graph]), (2, .box [.d .graph]), (3, .box [.ref (.own 300120), .ref (.nils), .d .i64]), (300120, .arr 116 .node)], []⟩
noncomputable def R_q18z_s0 : Tm := ⟨[], [], [], []⟩
noncomputable def L_q18z_s0 {ρ : Type} (n : Nat) : LOrc ρ := lorcNil
omit [Tabs] [QuietD Tryd.prog] [UDef] [UTabs] in
theorem s_q18z_s0 {ρ : Type} (n : Nat) (rec : T_q18z_s0.den → Option ρ) kx kr s : dStep Tryd.prog 42 TT M_q18z (O_q18z n) (L_q18z_s0 n) (evDraw Tryd.prog 42 TT M_q18z (O_q18z n)) 0 (lbody 1000 C_q18z 0) T_q18z_s0 X_q18z_s0 R_q18z_s0 ⟨[], [], [(3, 0, 300120, 116, 3)]⟩ rec kx kr s = q18z_s0 n rec kx kr s := by kernel_rfl
noncomputable def T_q18z_s2 : Tm := ⟨[(2, .ptr 2 0), (3, .ptr 3 0)], [(27, (.lst .edg)), (28, .i64), (29, .i64)], [(2, .box [.d .graph]), (3, .box [.ref (.own 300120), .ref (.own 300121), .d .i64]), (300120, .arr 116 .node), (300121, .arr 39 .edg)], []⟩
noncomputable def X_q18z_s2 : Tm := ⟨[(2, .ptr 2 0), (3, .ptr 3 0)], [], [(2, .box [.d .graph]), (3, .box [.ref (.own 300120), .ref (.own 300121), .d .i64]), (300120, .arr 116 .node), (300121, .arr 39 .edg)], []⟩
noncomputable def R_q18z_s2 : Tm := ⟨[], [], [], []⟩
noncomputable def L_q18z_s2 {ρ : Type} (n : Nat) : LOrc ρ := lorcNil
omit [Tabs] [QuietD Tryd.prog] [UDef] [UTabs] in
theorem s_q18z_s2 {ρ : Type} (n : Nat) (rec : T_q18z_s2.den → Option ρ) kx kr s : dStep Tryd.prog 42 TT M_q18z (O_q18z n) (L_q18z_s2 n) (evDraw Tryd.prog 42 TT M_q18z (O_q18z n)) 2 (lbody 1000 C_q18z 1) T_q18z_s2 X_q18z_s2 R_q18z_s2 ⟨[], [], [(3, 1, 300121, 39, 5)]⟩ rec kx kr s = q18z_s2 n rec kx kr s := by kernel_rfl
noncomputable def L_q18z {ρ : Type} (n : Nat) : LOrc ρ := lorcCons 0 (loopL 42 0 n T_q18z_s0 X_q18z_s0 R_q18z_s0 ⟨[], [], [(3, 0, 300120, 116, 3)]⟩ (q18z_s0 n)) (lorcCons 2 (loopL 42 2 n T_q18z_s2 X_q18z_s2 R_q18z_s2 ⟨[], [], [(3, 1, 300121, 39, 5)]⟩ (q18z_s2 n)) (lorcNil))
omit [Tabs] [QuietD Tryd.prog] [UDef] [UTabs] in
theorem e_q18z (n : Nat) (x) : evF Tryd.prog 42 TT M_q18z F_q18z (O_q18z n) (L_q18z n) (evDraw Tryd.prog 42 TT M_q18z (O_q18z n)) ⟨[], [], []⟩ [.cell 2 25] C_q18z x = q18z n x := by kernel_rfl
omit [UDef] [UTabs] in
theorem ok_q18z (n : Nat) : Contract Tryd.prog 25 F_q18z (q18z n) :=
  Contract.of_ev (c := C_q18z) (N := 42) Tryd.func25 (by kernel_rfl) (by kernel_rfl) (by kernel_rfl) (by kernel_rfl) (O_q18z_ok n) (evDraw_ok (O_q18z_ok n) (by kernel_rfl)) (.of (l := [(0, (lbody 1000 C_q18z 0)), (2, (lbody 1000 C_q18z 1))]) (by kernel_rfl) ⟨.head (loopL_sound (O_q18z_ok n) (evDraw_ok (O_q18z_ok n) (by kernel_rfl)) (.of (l := []) (by kernel_rfl) trivial) (s_q18z_s0 n)), ⟨.tail rfl (.head (loopL_sound (O_q18z_ok n) (evDraw_ok (O_q18z_ok n) (by kernel_rfl)) (.of (l := []) (by kernel_rfl) trivial) (s_q18z_s2 n))), trivial⟩⟩) (e_q18z n)

noncomputable def F_q31z : FnT := ⟨2, ⟨[(0, .ptr 1000000 0)], [(1, .opn)], [(1000000, .box [.ref (.own 1000001), .ref (.own 1000002), .d .i64, .ref (.own 1000003)]), (1000001, .arr 116 .node), (1000002, .arr 39 .edg), (1000003, .arr 3 .i64)], []⟩, [.v .i64], [(1000000, .box [.ref (.own 1000001), .ref (.own 1000002), .d .i64, .ref (.own 1000003)]), (1000001, .arr 116 .node), (1000002, .arr 39 .edg), (1000003, .arr 3 .i64)]⟩
noncomputable def F_q19z : FnT := ⟨2, ⟨[], [(1, .i64)], [], [(1000000, [.rp [.graph, (.lst .i64)]])]⟩, [.v .i64], []⟩
noncomputable def C_q19z : Code := bodyOf Tryd.f59
noncomputable def M_q19z : List (Nat × ArgM) := []
instance : DfOk M_q19z := .none rfl
noncomputable def O_q19z {ρ : Type} : Orc ρ := orcNil
omit [QuietD Tryd.prog] [UDef] [UTabs] in
theorem O_q19z_ok {ρ : Type} : (O_q19z : Orc ρ).ok Tryd.prog := orcNil_ok
noncomputable def L_q19z {ρ : Type} : LOrc ρ := lorcNil
omit [Tabs] [QuietD Tryd.prog] [UDef] [UTabs] in
theorem e_q19z (x) : evF Tryd.prog 27 TT M_q19z F_q19z (O_q19z) (L_q19z) dorcNil ⟨[], [], []⟩ [.tmp 4] C_q19z x = q19z x := by kernel_rfl
omit [UDef] [UTabs] in
theorem ok_q19z : Contract Tryd.prog 59 F_q19z (q19z) :=
  Contract.of_ev (c := C_q19z) (N := 27) Tryd.func59 (by kernel_rfl) (by kernel_rfl) (by kernel_rfl) (by kernel_rfl) (O_q19z_ok) dorcNil_ok (.of (l := []) (by kernel_rfl) trivial) (e_q19z)

noncomputable def F_q12z : FnT := ⟨1, ⟨[(0, .ptr 1000000 0)], [], [(1000000, .box [.ref (.own 1000001), .ref (.own 1000002), .d .i64, .ref (.own 1000003)]), (1000001, .arr 116 .node), (1000002, .arr 39 .edg), (1000003, .arr 3 .i64)], []⟩, [.v .i64, .v .i64], [(1000000, .box [.ref (.own 1000001), .ref (.own 1000002), .d .i64, .ref (.own 1000003)]), (1000001, .arr 116 .node), (1000002, .arr 39 .edg), (1000003, .arr 3 .i64)]⟩
noncomputable def C_q12z : Code := bodyOf Tryd.f58
noncomputable def M_q12z : List (Nat × ArgM) := []
instance : DfOk M_q12z := .none rfl
noncomputable def O_q12z {ρ : Type} : Orc ρ := orcNil
omit [QuietD Tryd.prog] [UDef] [UTabs] in
theorem O_q12z_ok {ρ : Type} : (O_q12z : Orc ρ).ok Tryd.prog := orcNil_ok
noncomputable def L_q12z {ρ : Type} : LOrc ρ := lorcNil
omit [Tabs] [QuietD Tryd.prog] [UDef] [UTabs] in
theorem e_q12z (x) : evF Tryd.prog 36 TT M_q12z F_q12z (O_q12z) (L_q12z) dorcNil ⟨[], [], []⟩ [.tmp 2, .tmp 3] C_q12z x = q12z x := by kernel_rfl
omit [UDef] [UTabs] in
theorem ok_q12z : Contract Tryd.prog 58 F_q12z (q12z) :=
  Contract.of_ev (c := C_q12z) (N := 36) Tryd.func58 (by kernel_rfl) (by kernel_rfl) (by kernel_rfl) (by kernel_rfl) (O_q12z_ok) dorcNil_ok (.of (l := []) (by kernel_rfl) trivial) (e_q12z)

noncomputable def C_q31z : Code := bodyOf Tryd.f27
noncomputable def M_q31z : List (Nat × ArgM) := [(999999999, ⟨[1], [], [], false⟩), (58, ⟨[0], [], [], false⟩), (59, ⟨[], [], [], true⟩), (24, ⟨[], [], [], true⟩), (53, ⟨[], [], [], true⟩), (52, ⟨[], [], [], true⟩)]
instance : DfOk M_q31z := .none rfl
noncomputable def O_q31z {ρ : Type} (n : Nat) : Orc ρ := orcCons 59 F_q19z (q19z) (orcCons 24 F_q35z (q35z n) (orcCons 53 F_q36z (q36z n) (orcCons 52 F_q29z (q29z n) (orcCons 58 F_q12z (q12z) (orcCons 57 F_q16z (q16z n) (orcNil))))))
omit [UDef] in
theorem O_q31z_ok {ρ : Type} (n : Nat) : (O_q31z n : Orc ρ).ok Tryd.prog := orcCons_ok (by kernel_rfl) (ok_q19z) (orcCons_ok (by kernel_rfl) (ok_q35z n) (orcCons_ok (by kernel_rfl) (ok_q36z n) (orcCons_ok (by kernel_rfl) (ok_q29z n) (orcCons_ok (by kernel_rfl) (ok_q12z) (orcCons_ok (by kernel_rfl) (ok_q16z n) (orcNil_ok))))))
noncomputable def L_q31z {ρ : Type} (n : Nat) : LOrc ρ := lorcNil
omit [Tabs] [QuietD Tryd.prog] [UDef] [UTabs] in
theorem e_q31z (n : Nat) (x) : evF Tryd.prog 77 TT M_q31z F_q31z (O_q31z n) (L_q31z n) (evDraw Tryd.prog 77 TT M_q31z (O_q31z n)) ⟨[], [], []⟩ [.tmp 4] C_q31z x = q31z n x := by kernel_rfl
omit [UDef] in
theorem ok_q31z (n : Nat) : Contract Tryd.prog 27 F_q31z (q31z n) :=
  Contract.of_ev (c := C_q31z) (N := 77) Tryd.func27 (by kernel_rfl) (by kernel_rfl) (by kernel_rfl) (by kernel_rfl) (O_q31z_ok n) (evDraw_ok (O_q31z_ok n) (by kernel_rfl)) (.of (l := []) (by kernel_rfl) trivial) (e_q31z n)

noncomputable def F_q32z : FnT := ⟨2, ⟨[(0, .ptr 1000000 0)], [(1, .opn)], [(1000000, .box [.ref (.own 1000001), .ref (.own 1000002), .d .i64, .ref (.own 1000003)]), (1000001, .arr 116 .node), (1000002, .arr 39 .edg), (1000003, .arr 3 .i64)], []⟩, [.v .i64], [(1000000, .box [.ref (.own 1000001), .ref (.own 1000002), .d .i64, .ref (.own 1000003)]), (1000001, .arr 116 .node), (1000002, .arr 39 .edg), (1000003, .arr 3 .i64)]⟩
noncomputable def C_q32z : Code := bodyOf Tryd.f26
noncomputable def M_q32z : List (Nat × ArgM) := [(999999999, ⟨[1], [], [], false⟩), (58, ⟨[0], [], [], false⟩), (51, ⟨[], [], [], true⟩), (52, ⟨[], [], [], true⟩)]
instance : DfOk M_q32z := .none rfl
noncomputable def O_q32z {ρ : Type} (n : Nat) : Orc ρ := orcCons 51 F_q25z (q25z n) (orcCons 52 F_q29z (q29z n) (orcCons 58 F_q12z (q12z) (orcCons 56 F_q17z (q17z n) (orcNil))))
omit [UDef] in
theorem O_q32z_ok {ρ : Type} (n : Nat) : (O_q32z n : Orc ρ).ok Tryd.prog := orcCons_ok (by kernel_rfl) (ok_q25z n) (orcCons_ok (by kernel_rfl) (ok_q29z n) (orcCons_ok (by kernel_rfl) (ok_q12z) (orcCons_ok (by kernel_rfl) (ok_q17z n) (orcNil_ok))))
noncomputable def L_q32z {ρ : Type} (n : Nat) : LOrc ρ := lorcNil
omit [Tabs] [QuietD Tryd.prog] [UDef] [UTabs] in
theorem e_q32z (n : Nat) (x) : evF Tryd.prog 52 TT M_q32z F_q32z (O_q32z n) (L_q32z n) (evDraw Tryd.prog 52 TT M_q32z (O_q32z n)) ⟨[], [], []⟩ [.tmp 4] C_q32z x = q32z n x := by kernel_rfl
omit [UDef] in
theorem ok_q32z (n : Nat) : Contract Tryd.prog 26 F_q32z (q32z n) :=
  Contract.of_ev (c := C_q32z) (N := 52) Tryd.func26 (by kernel_rfl) (by kernel_rfl) (by kernel_rfl) (by kernel_rfl) (O_q32z_ok n) (evDraw_ok (O_q32z_ok n) (by kernel_rfl)) (.of (l := []) (by kernel_rfl) trivial) (e_q32z n)

noncomputable def C_txn_Apply : Code := bodyOf Tryd.f10
noncomputable def M_txn_Apply : List (Nat × ArgM) := [(999999994, ⟨[50], [], [], false⟩), (1600000013, ⟨[12, 0, 1, 2], [], [], false⟩), (27, ⟨[0], [], [], false⟩), (26, ⟨[0], [], [], false⟩), (17, ⟨[], [], [], true⟩), (25, ⟨[], [], [300120, 300121], false⟩)]
instance : DfOk M_txn_Apply := .none rfl
noncomputable def O_txn_Apply {ρ : Type} (n : Nat) : Orc ρ := orcCons 17 F_q28z (q28z n) (orcCons 25 F_q18z (q18z n) (orcCons 27 F_q31z (q31z n) (orcCons 26 F_q32z (q32z n) (orcNil))))
omit [UDef] in
theorem O_txn_Apply_ok {ρ : Type} (n : Nat) : (O_txn_Apply n : Orc ρ).ok Tryd.prog := orcCons_ok (by kernel_rfl) (ok_q28z n) (orcCons_ok (by kernel_rfl) (ok_q18z n) (orcCons_ok (by kernel_rfl) (ok_q31z n) (orcCons_ok (by kernel_rfl) (ok_q32z n) (orcNil_ok))))
noncomputable def T_txn_Apply_s0 : Tm := ⟨[(4, .ptr 4 0), (9, .ptr 27 0), (10, .ptr 10 0)], [(29, (.lst .opn)), (30, .i64), (31, .i64)], [(4, .box [.d .graph]), (10, .box [.ref (.nilf), .ref (.fn 26), .ref (.fn 27), .ref (.fn 28), .ref (.fn 29), .ref (.fn 30), .ref (.fn 31), .ref (.fn 31)]), (25, .arr 116 .node), (27, .box [.ref (.own 25), .ref (.own 2025), .d .i64, .ref (.own 301083)]), (2025, .arr 39 .edg), (301083, .arr 3 .i64)], []⟩
noncomputable def X_txn_Apply_s0 : Tm := ⟨[(4, .ptr 4 0), (9, .ptr 27 0)], [], [(4, .box [.d .graph]), (25, .arr 116 .node), (27, .box [.ref (.own 25), .ref (.own 2025), .d .i64, .ref (.own 301083)]), (2025, .arr 39 .edg), (301083, .arr 3 .i64)], []⟩
noncomputable def R_txn_Apply_s0 : Tm := ⟨[(4, .ptr 4 0)], [(5, (.lst .i64)), (6, .i64), (7, .i64)], [(4, .box [.d .graph])], []⟩
noncomputable def L_txn_Apply_s0 {ρ : Type} (n : Nat) : LOrc ρ := lorcNil
omit [Tabs] [QuietD Tryd.prog] [UDef] [UTabs] in
theorem s_txn_Apply_s0 {ρ : Type} (n : Nat) (rec : T_txn_Apply_s0.den → Option ρ) kx kr s : dStep Tryd.prog 65 TT M_txn_Apply (O_txn_Apply n) (L_txn_Apply_s0 n) (evDraw Tryd.prog 65 TT M_txn_Apply (O_txn_Apply n)) 0 (lbody 1000 C_txn_Apply 0) T_txn_Apply_s0 X_txn_Apply_s0 R_txn_Apply_s0 ⟨[], [], [(27, 3, 301083, 3, 1)]⟩ rec kx kr s = txn_Apply_s0 n rec kx kr s := by kernel_rfl
noncomputable def L_txn_Apply {ρ : Type} (n : Nat) : LOrc ρ := lorcCons 0 (loopL 65 0 n T_txn_Apply_s0 X_txn_Apply_s0 R_txn_Apply_s0 ⟨[], [], [(27, 3, 301083, 3, 1)]⟩ (txn_Apply_s0 n)) (lorcNil)
omit [Tabs] [QuietD Tryd.prog] [UDef] [UTabs] in
theorem e_txn_Apply (n : Nat) (x) : evF Tryd.prog 65 TT M_txn_Apply F_txn_Apply (O_txn_Apply n) (L_txn_Apply n) (evDraw Tryd.prog 65 TT M_txn_Apply (O_txn_Apply n)) ⟨[], [], []⟩ [.cell 4 25, .tmp 5, .tmp 6, .tmp 7] C_txn_Apply x = txn_Apply n x := by kernel_rfl
omit [UDef] in
theorem ok_txn_Apply (n : Nat) : Contract Tryd.prog 10 F_txn_Apply (txn_Apply n) :=
  Contract.of_ev (c := C_txn_Apply) (N := 65) Tryd.func10 (by kernel_rfl) (by kernel_rfl) (by kernel_rfl) (by kernel_rfl) (O_txn_Apply_ok n) (evDraw_ok (O_txn_Apply_ok n) (by kernel_rfl)) (.of (l := [(0, (lbody 1000 C_txn_Apply 0))]) (by kernel_rfl) ⟨.head (loopL_sound (O_txn_Apply_ok n) (evDraw_ok (O_txn_Apply_ok n) (by kernel_rfl)) (.of (l := []) (by kernel_rfl) trivial) (s_txn_Apply_s0 n)), trivial⟩) (e_txn_Apply n)

noncomputable def F_q26z : FnT := ⟨3, ⟨[], [(0, .graph), (1, .graph), (2, .str)], [], []⟩, [.v (.lst .pair), .v (.lst .pair), .v .i64], []⟩
noncomputable def F_q2z : FnT := ⟨2, ⟨[(1, .clo 33 [1000000])], [(0, (.lst .edg))], [(1000000, .box [.d .edg])], []⟩, [.v .bool], [(1000000, .box [.d .edg])]⟩
noncomputable def F_q3z : FnT := ⟨2, ⟨[(1, .clo 33 [1000000])], [(0, (.lst .edg))], [(1000000, .box [.d .edg])], []⟩, [.v .i64], [(1000000, .box [.d .edg])]⟩
noncomputable def F_q20z : FnT := ⟨2, ⟨[(1, .ptr 1000000 0)], [(0, .edg)], [(1000000, .box [.d .edg])], []⟩, [.v .bool], [(1000000, .box [.d .edg])]⟩
noncomputable def C_q20z : Code := bodyOf Tryd.f33
noncomputable def M_q20z : List (Nat × ArgM) := []
instance : DfOk M_q20z := .none rfl
noncomputable def O_q20z {ρ : Type} : Orc ρ := orcNil
omit [QuietD Tryd.prog] [UDef] [UTabs] in
theorem O_q20z_ok {ρ : Type} : (O_q20z : Orc ρ).ok Tryd.prog := orcNil_ok
noncomputable def L_q20z {ρ : Type} : LOrc ρ := lorcNil
omit [Tabs] [QuietD Tryd.prog] [UDef] [UTabs] in
theorem e_q20z (x) : evF Tryd.prog 30 TT M_q20z F_q20z (O_q20z) (L_q20z) dorcNil ⟨[], [], []⟩ [.tmp 3] C_q20z x = q20z x := by kernel_rfl
omit [UDef] [UTabs] in
theorem ok_q20z : Contract Tryd.prog 33 F_q20z (q20z) :=
  Contract.of_ev (c := C_q20z) (N := 30) Tryd.func33 (by kernel_rfl) (by kernel_rfl) (by kernel_rfl) (by kernel_rfl) (O_q20z_ok) dorcNil_ok (.of (l := []) (by kernel_rfl) trivial) (e_q20z)

noncomputable def C_q3z : Code := bodyOf Tryd.f8
noncomputable def M_q3z : List (Nat × ArgM) := [(33, ⟨[1], [], [], false⟩)]
instance : DfOk M_q3z := .none rfl
noncomputable def O_q3z {ρ : Type} (n : Nat) : Orc ρ := orcCons 33 F_q20z (q20z) (orcNil)
omit [UDef] [UTabs] in
theorem O_q3z_ok {ρ : Type} (n : Nat) : (O_q3z n : Orc ρ).ok Tryd.prog := orcCons_ok (by kernel_rfl) (ok_q20z) (orcNil_ok)
noncomputable def T_q3z_s0 : Tm := ⟨[(1, .clo 33 [1000000])], [(0, (.lst .edg)), (7, .i64), (8, .i64)], [(1000000, .box [.d .edg])], []⟩
noncomputable def X_q3z_s0 : Tm := ⟨[], [], [(1000000, .box [.d .edg])], []⟩
noncomputable def R_q3z_s0 : Tm := ⟨[], [(4, .i64)], [(1000000, .box [.d .edg])], []⟩
noncomputable def L_q3z_s0 {ρ : Type} (n : Nat) : LOrc ρ := lorcNil
omit [Tabs] [QuietD Tryd.prog] [UDef] [UTabs] in
theorem s_q3z_s0 {ρ : Type} (n : Nat) (rec : T_q3z_s0.den → Option ρ) kx kr s : dStep Tryd.prog 19 TT M_q3z (O_q3z n) (L_q3z_s0 n) dorcNil 0 (lbody 1000 C_q3z 0) T_q3z_s0 X_q3z_s0 R_q3z_s0 ⟨[], [], []⟩ rec kx kr s = q3z_s0 n rec kx kr s := by kernel_rfl
noncomputable def L_q3z {ρ : Type} (n : Nat) : LOrc ρ := lorcCons 0 (loopL 19 0 n T_q3z_s0 X_q3z_s0 R_q3z_s0 ⟨[], [], []⟩ (q3z_s0 n)) (lorcNil)
omit [Tabs] [QuietD Tryd.prog] [UDef] [UTabs] in
theorem e_q3z (n : Nat) (x) : evF Tryd.prog 19 TT M_q3z F_q3z (O_q3z n) (L_q3z n) dorcNil ⟨[], [], []⟩ [.tmp 4] C_q3z x = q3z n x := by kernel_rfl
omit [UDef] [UTabs] in
theorem ok_q3z (n : Nat) : Contract Tryd.prog 8 F_q3z (q3z n) :=
  Contract.of_ev (c := C_q3z) (N := 19) Tryd.func8 (by kernel_rfl) (by kernel_rfl) (by kernel_rfl) (by kernel_rfl) (O_q3z_ok n) dorcNil_ok (.of (l := [(0, (lbody 1000 C_q3z 0))]) (by kernel_rfl) ⟨.head (loopL_sound (O_q3z_ok n) dorcNil_ok (.of (l := []) (by kernel_rfl) trivial) (s_q3z_s0 n)), trivial⟩) (e_q3z n)

noncomputable def C_q2z : Code := bodyOf Tryd.f32
noncomputable def M_q2z : List (Nat × ArgM) := [(8, ⟨[1], [], [], false⟩)]
instance : DfOk M_q2z := .none rfl
noncomputable def O_q2z {ρ : Type} (n : Nat) : Orc ρ := orcCons 8 F_q3z (q3z n) (orcNil)
omit [UDef] [UTabs] in
theorem O_q2z_ok {ρ : Type} (n : Nat) : (O_q2z n : Orc ρ).ok Tryd.prog := orcCons_ok (by kernel_rfl) (ok_q3z n) (orcNil_ok)
noncomputable def L_q2z {ρ : Type} (n : Nat) : LOrc ρ := lorcNil
omit [Tabs] [QuietD Tryd.prog] [UDef] [UTabs] in
theorem e_q2z (n : Nat) (x) : evF Tryd.prog 9 TT M_q2z F_q2z (O_q2z n) (L_q2z n) dorcNil ⟨[], [], []⟩ [.tmp 4] C_q2z x = q2z n x := by kernel_rfl
omit [UDef] [UTabs] in
theorem ok_q2z (n : Nat) : Contract Tryd.prog 32 F_q2z (q2z n) :=
  Contract.of_ev (c := C_q2z) (N := 9) Tryd.func32 (by kernel_rfl) (by kernel_rfl) (by kernel_rfl) (by kernel_rfl) (O_q2z_ok n) dorcNil_ok (.of (l := []) (by kernel_rfl) trivial) (e_q2z n)

noncomputable def F_q21z : FnT := ⟨3, ⟨[(1, .ptr 1000000 0), (2, .ptr 1000016 0)], [(0, .pair)], [(1000000, .box [.ref (.mpr 1000001)]), (1000001, .mp 75 .pair .bool false), (1000016, .box [.ref (.own 1000017)]), (1000017, .arr 90 .pair)], []⟩, [], [(1000000, .box [.ref (.mpr 1000001)]), (1000001, .mp 75 .pair .bool false), (1000016, .box [.ref (.own 1000017)]), (1000017, .arr 90 .pair)]⟩
noncomputable def C_q21z : Code := bodyOf Tryd.f34
noncomputable def M_q21z : List (Nat × ArgM) := []
instance : DfOk M_q21z := .none rfl
noncomputable def O_q21z {ρ : Type} : Orc ρ := orcNil
omit [QuietD Tryd.prog] [UDef] [UTabs] in
theorem O_q21z_ok {ρ : Type} : (O_q21z : Orc ρ).ok Tryd.prog := orcNil_ok
noncomputable def L_q21z {ρ : Type} : LOrc ρ := lorcNil
omit [Tabs] [QuietD Tryd.prog] [UDef] [UTabs] in
theorem e_q21z (x) : evF Tryd.prog 14 TT M_q21z F_q21z (O_q21z) (L_q21z) dorcNil ⟨[], [], []⟩ [] C_q21z x = q21z x := by kernel_rfl
omit [UDef] [UTabs] in
theorem ok_q21z : Contract Tryd.prog 34 F_q21z (q21z) :=
  Contract.of_ev (c := C_q21z) (N := 14) Tryd.func34 (by kernel_rfl) (by kernel_rfl) (by kernel_rfl) (by kernel_rfl) (O_q21z_ok) dorcNil_ok (.of (l := []) (by kernel_rfl) trivial) (e_q21z)

noncomputable def F_q22z : FnT := ⟨2, ⟨[], [(0, (.map .pair .bool)), (1, (.map .pair .bool))], [], []⟩, [.v (.lst .pair)], []⟩
noncomputable def C_q22z : Code := bodyOf Tryd.f36
noncomputable def M_q22z : List (Nat × ArgM) := [(37, ⟨[1000], [], [], false⟩)]
instance : DfOk M_q22z := .none rfl
noncomputable def O_q22z {ρ : Type} (n : Nat) : Orc ρ := orcCons 37 F_sfPair (sfPair) (orcCons 18 F_q30z (q30z n) (orcNil))
omit [UDef] [UTabs] in
theorem O_q22z_ok {ρ : Type} (n : Nat) : (O_q22z n : Orc ρ).ok Tryd.prog := orcCons_ok (by kernel_rfl) (sfPair_ok) (orcCons_ok (by kernel_rfl) (ok_q30z n) (orcNil_ok))
noncomputable def T_q22z_s0 : Tm := ⟨[(5, .own 5), (8, .ptr 8 0)], [(1, (.map .pair .bool))], [(5, .arr 90 .pair), (8, .mi .pair .bool)], []⟩
noncomputable def X_q22z_s0 : Tm := ⟨[(5, .own 5)], [], [(5, .arr 90 .pair)], []⟩
noncomputable def R_q22z_s0 : Tm := ⟨[], [], [], []⟩
noncomputable def L_q22z_s0 {ρ : Type} (n : Nat) : LOrc ρ := lorcNil
omit [Tabs] [QuietD Tryd.prog] [UDef] [UTabs] in
theorem s_q22z_s0 {ρ : Type} (n : Nat) (rec : T_q22z_s0.den → Option ρ) kx kr s : dStep Tryd.prog 25 TT M_q22z (O_q22z n) (L_q22z_s0 n) dorcNil 0 (lbody 1000 C_q22z 0) T_q22z_s0 X_q22z_s0 R_q22z_s0 ⟨[], [(5, 5, 90, 2)], []⟩ rec kx kr s = q22z_s0 n rec kx kr s := by kernel_rfl
noncomputable def L_q22z {ρ : Type} (n : Nat) : LOrc ρ := lorcCons 0 (loopL 25 0 n T_q22z_s0 X_q22z_s0 R_q22z_s0 ⟨[], [(5, 5, 90, 2)], []⟩ (q22z_s0 n)) (lorcNil)
omit [Tabs] [QuietD Tryd.prog] [UDef] [UTabs] in
theorem e_q22z (n : Nat) (x) : evF Tryd.prog 25 TT M_q22z F_q22z (O_q22z n) (L_q22z n) dorcNil ⟨[], [], []⟩ [.tmp 4] C_q22z x = q22z n x := by kernel_rfl
omit [UDef] [UTabs] in
theorem ok_q22z (n : Nat) : Contract Tryd.prog 36 F_q22z (q22z n) :=
  Contract.of_ev (c := C_q22z) (N := 25) Tryd.func36 (by kernel_rfl) (by kernel_rfl) (by kernel_rfl) (by kernel_rfl) (O_q22z_ok n) dorcNil_ok (.of (l := [(0, (lbody 1000 C_q22z 0))]) (by kernel_rfl) ⟨.head (loopL_sound (O_q22z_ok n) dorcNil_ok (.of (l := []) (by kernel_rfl) trivial) (s_q22z_s0 n)), trivial⟩) (e_q22z n)

noncomputable def C_q26z : Code := bodyOf Tryd.f11
noncomputable def M_q26z : List (Nat × ArgM) := [(999999999, ⟨[1], [], [], false⟩), (34, ⟨[1, 2], [], [], false⟩), (32, ⟨[1], [], [], false⟩), (17, ⟨[], [], [], true⟩), (19, ⟨[], [], [], true⟩), (36, ⟨[], [], [], true⟩)]
instance : DfOk M_q26z := .none rfl
noncomputable def O_q26z {ρ : Type} (n : Nat) : Orc ρ := orcCons 17 F_q28z (q28z n) (orcCons 20 F_reach_Set (reach_Set n) (orcCons 32 F_q2z (q2z n) (orcCons 35 F_next (nextN) (orcCons 34 F_q21z (q21z) (orcCons 19 F_q27z (q27z n) (orcCons 36 F_q22z (q22z n) (orcNil)))))))
omit [UDef] in
theorem O_q26z_ok {ρ : Type} (n : Nat) : (O_q26z n : Orc ρ).ok Tryd.prog := orcCons_ok (by kernel_rfl) (ok_q28z n) (orcCons_ok (by kernel_rfl) (ok_reach_Set n) (orcCons_ok (by kernel_rfl) (ok_q2z n) (orcCons_ok (by kernel_rfl) (nextN_ok) (orcCons_ok (by kernel_rfl) (ok_q21z) (orcCons_ok (by kernel_rfl) (ok_q27z n) (orcCons_ok (by kernel_rfl) (ok_q22z n) (orcNil_ok)))))))
noncomputable def T_q26z_s0 : Tm := ⟨[(3, .ptr 3 0), (4, .ptr 4 0)], [(2, .str), (31, (.two .graph)), (32, .i64)], [(3, .box [.d .graph]), (4, .box [.d .graph])], []⟩
noncomputable def X_q26z_s0 : Tm := ⟨[(3, .ptr 3 0), (4, .ptr 4 0)], [(2, .str)], [(3, .box [.d .graph]), (4, .box [.d .graph])], []⟩
noncomputable def R_q26z_s0 : Tm := ⟨[], [(6, (.lst .pair)), (7, (.lst .pair)), (8, .i64)], [], []⟩
noncomputable def L_q26z_s0 {ρ : Type} (n : Nat) : LOrc ρ := lorcNil
omit [Tabs] [QuietD Tryd.prog] [UDef] [UTabs] in
theorem s_q26z_s0 {ρ : Type} (n : Nat) (rec : T_q26z_s0.den → Option ρ) kx kr s : dStep Tryd.prog 190 TT M_q26z (O_q26z n) (L_q26z_s0 n) (evDraw Tryd.prog 190 TT M_q26z (O_q26z n)) 0 (lbody 1000 C_q26z 0) T_q26z_s0 X_q26z_s0 R_q26z_s0 ⟨[], [], []⟩ rec kx kr s = q26z_s0 n rec kx kr s := by kernel_rfl
noncomputable def T_q26z_s2 : Tm := ⟨[(3, .ptr 3 0), (4, .ptr 4 0), (13, .ptr 13 0), (46, .ptr 46 0)], [(2, .str), (12, (.map .pair .bool))], [(3, .box [.d .graph]), (4, .box [.d .graph]), (13, .box [.ref (.mpr 44)]), (44, .mp 75 .pair .bool false), (46, .mi .pair .bool)], []⟩
noncomputable def X_q26z_s2 : Tm := ⟨[(3, .ptr 3 0), (4, .ptr 4 0), (13, .ptr 13 0)], [(2, .str), (12, (.map .pair .bool))], [(3, .box [.d .graph]), (4, .box [.d .graph]), (13, .box [.ref (.mpr 44)]), (44, .mp 75 .pair .bool false)], []⟩
noncomputable def R_q26z_s2 : Tm := ⟨[], [], [], []⟩
noncomputable def L_q26z_s2 {ρ : Type} (n : Nat) : LOrc ρ := lorcNil
omit [Tabs] [QuietD Tryd.prog] [UDef] [UTabs] in
theorem s_q26z_s2 {ρ : Type} (n : Nat) (rec : T_q26z_s2.den → Option ρ) kx kr s : dStep Tryd.prog 190 TT M_q26z (O_q26z n) (L_q26z_s2 n) (evDraw Tryd.prog 190 TT M_q26z (O_q26z n)) 2 (lbody 1000 C_q26z 1) T_q26z_s2 X_q26z_s2 R_q26z_s2 ⟨[], [], []⟩ rec kx kr s = q26z_s2 n rec kx kr s := by kernel_rfl
noncomputable def T_q26z_s6 : Tm := ⟨[(4, .ptr 4 0), (13, .ptr 13 0), (16, .ptr 16 0), (75, .ptr 75 0)], [(2, .str), (12, (.map .pair .bool)), (54, (.lst .edg)), (55, .i64), (56, .i64)], [(4, .box [.d .graph]), (13, .box [.ref (.mpr 44)]), (16, .box [.d .edg]), (44, .mp 75 .pair .bool false), (75, .mi .pair .bool)], []⟩
noncomputable def X_q26z_s6 : Tm := ⟨[(4, .ptr 4 0), (13, .ptr 13 0)], [(2, .str), (12, (.map .pair .bool)), (54, (.lst .edg)), (55, .i64), (56, .i64)], [(4, .box [.d .graph]), (13, .box [.ref (.mpr 44)]), (44, .mp 75 .pair .bool false)], []⟩
noncomputable def R_q26z_s6 : Tm := ⟨[], [], [], []⟩
noncomputable def L_q26z_s6 {ρ : Type} (n : Nat) : LOrc ρ := lorcNil
omit [Tabs] [QuietD Tryd.prog] [UDef] [UTabs] in
theorem s_q26z_s6 {ρ : Type} (n : Nat) (rec : T_q26z_s6.den → Option ρ) kx kr s : dStep Tryd.prog 190 TT M_q26z (O_q26z n) (L_q26z_s6 n) (evDraw Tryd.prog 190 TT M_q26z (O_q26z n)) 6 (lbody 4 (lbody 1000 C_q26z 2) 0) T_q26z_s6 X_q26z_s6 R_q26z_s6 ⟨[], [], []⟩ rec kx kr s = q26z_s6 n rec kx kr s := by kernel_rfl
noncomputable def T_q26z_s4 : Tm := ⟨[(4, .ptr 4 0), (13, .ptr 13 0)], [(2, .str), (12, (.map .pair .bool)), (54, (.lst .edg)), (55, .i64), (56, .i64)], [(4, .box [.d .graph]), (13, .box [.ref (.mpr 44)]), (44, .mp 75 .pair .bool false)], []⟩
noncomputable def X_q26z_s4 : Tm := ⟨[(4, .ptr 4 0), (13, .ptr 13 0)], [(2, .str), (12, (.map .pair .bool))], [(4, .box [.d .graph]), (13, .box [.ref (.mpr 44)]), (44, .mp 75 .pair .bool false)], []⟩
noncomputable def R_q26z_s4 : Tm := ⟨[], [], [], []⟩
noncomputable def L_q26z_s4 {ρ : Type} (n : Nat) : LOrc ρ := lorcCons 6 (loopL 190 6 n T_q26z_s6 X_q26z_s6 R_q26z_s6 ⟨[], [], []⟩ (q26z_s6 n)) (lorcNil)
omit [Tabs] [QuietD Tryd.prog] [UDef] [UTabs] in
theorem s_q26z_s4 {ρ : Type} (n : Nat) (rec : T_q26z_s4.den → Option ρ) kx kr s : dStep Tryd.prog 190 TT M_q26z (O_q26z n) (L_q26z_s4 n) (evDraw Tryd.prog 190 TT M_q26z (O_q26z n)) 4 (lbody 1000 C_q26z 2) T_q26z_s4 X_q26z_s4 R_q26z_s4 ⟨[], [], []⟩ rec kx kr s = q26z_s4 n rec kx kr s := by kernel_rfl
noncomputable def T_q26z_s8 : Tm := ⟨[(13, .ptr 13 0), (18, .ptr 18 0), (19, .clo 34 [13, 18])], [(2, .str), (12, (.map .pair .bool)), (20, (.map .i64 (.lst .i64))), (118, (.lst .edg)), (119, .i64), (120, .i64)], [(13, .box [.ref (.mpr 44)]), (18, .box [.ref (.own 300720)]), (44, .mp 75 .pair .bool false), (300720, .arr 90 .pair)], []⟩
noncomputable def X_q26z_s8 : Tm := ⟨[(13, .ptr 13 0), (18, .ptr 18 0), (19, .clo 34 [13, 18])], [(12, (.map .pair .bool)), (20, (.map .i64 (.lst .i64)))], [(13, .box [.ref (.mpr 44)]), (18, .box [.ref (.own 300720)]), (44, .mp 75 .pair .bool false), (300720, .arr 90 .pair)], []⟩
noncomputable def R_q26z_s8 : Tm := ⟨[], [], [], []⟩
noncomputable def L_q26z_s8 {ρ : Type} (n : Nat) : LOrc ρ := lorcNil
omit [Tabs] [QuietD Tryd.prog] [UDef] [UTabs] in
theorem s_q26z_s8 {ρ : Type} (n : Nat) (rec : T_q26z_s8.den → Option ρ) kx kr s : dStep Tryd.prog 190 TT M_q26z (O_q26z n) (L_q26z_s8 n) (evDraw Tryd.prog 190 TT M_q26z (O_q26z n)) 8 (lbody 1000 C_q26z 3) T_q26z_s8 X_q26z_s8 R_q26z_s8 ⟨[], [], [(18, 0, 300720, 90, 2)]⟩ rec kx kr s = q26z_s8 n rec kx kr s := by kernel_rfl
noncomputable def T_q26z_s10 : Tm := ⟨[(13, .ptr 13 0), (18, .ptr 18 0), (19, .clo 34 [13, 18])], [(12, (.map .pair .bool)), (20, (.map .i64 (.lst .i64))), (141, (.lst .pair)), (142, .i64), (143, .i64)], [(13, .box [.ref (.mpr 44)]), (18, .box [.ref (.own 300720)]), (44, .mp 75 .pair .bool false), (300720, .arr 90 .pair)], []⟩
noncomputable def X_q26z_s10 : Tm := ⟨[(13, .ptr 13 0), (18, .ptr 18 0), (19, .clo 34 [13, 18])], [(12, (.map .pair .bool)), (20, (.map .i64 (.lst .i64)))], [(13, .box [.ref (.mpr 44)]), (18, .box [.ref (.own 300720)]), (44, .mp 75 .pair .bool false), (300720, .arr 90 .pair)], []⟩
noncomputable def R_q26z_s10 : Tm := ⟨[], [], [], []⟩
noncomputable def L_q26z_s10 {ρ : Type} (n : Nat) : LOrc ρ := lorcNil
omit [Tabs] [QuietD Tryd.prog] [UDef] [UTabs] in
theorem s_q26z_s10 {ρ : Type} (n : Nat) (rec : T_q26z_s10.den → Option ρ) kx kr s : dStep Tryd.prog 190 TT M_q26z (O_q26z n) (L_q26z_s10 n) (evDraw Tryd.prog 190 TT M_q26z (O_q26z n)) 10 (lbody 1000 C_q26z 4) T_q26z_s10 X_q26z_s10 R_q26z_s10 ⟨[], [], [(18, 0, 300720, 90, 2)]⟩ rec kx kr s = q26z_s10 n rec kx kr s := by kernel_rfl
noncomputable def T_q26z_s14 : Tm := ⟨[(13, .ptr 13 0), (18, .ptr 18 0), (19, .clo 34 [13, 18]), (25, .ptr 25 0)], [(12, (.map .pair .bool)), (20, (.map .i64 (.lst .i64))), (169, (.lst .i64)), (170, .i64), (171, .i64)], [(13, .box [.ref (.mpr 44)]), (18, .box [.ref (.own 300720)]), (25, .box [.d .pair]), (44, .mp 75 .pair .bool false), (300720, .arr 90 .pair)], []⟩
noncomputable def X_q26z_s14 : Tm := ⟨[(13, .ptr 13 0), (18, .ptr 18 0), (19, .clo 34 [13, 18])], [(12, (.map .pair .bool)), (20, (.map .i64 (.lst .i64)))], [(13, .box [.ref (.mpr 44)]), (18, .box [.ref (.own 300720)]), (44, .mp 75 .pair .bool false), (300720, .arr 90 .pair)], []⟩
noncomputable def R_q26z_s14 : Tm := ⟨[], [], [], []⟩
noncomputable def L_q26z_s14 {ρ : Type} (n : Nat) : LOrc ρ := lorcNil
omit [Tabs] [QuietD Tryd.prog] [UDef] [UTabs] in
theorem s_q26z_s14 {ρ : Type} (n : Nat) (rec : T_q26z_s14.den → Option ρ) kx kr s : dStep Tryd.prog 190 TT M_q26z (O_q26z n) (L_q26z_s14 n) (evDraw Tryd.prog 190 TT M_q26z (O_q26z n)) 14 (lbody 12 (lbody 1000 C_q26z 5) 0) T_q26z_s14 X_q26z_s14 R_q26z_s14 ⟨[], [], [(18, 0, 300720, 90, 2)]⟩ rec kx kr s = q26z_s14 n rec kx kr s := by kernel_rfl
noncomputable def T_q26z_s12 : Tm := ⟨[(13, .ptr 13 0), (18, .ptr 18 0), (19, .clo 34 [13, 18])], [(12, (.map .pair .bool)), (20, (.map .i64 (.lst .i64)))], [(13, .box [.ref (.mpr 44)]), (18, .box [.ref (.own 300720)]), (44, .mp 75 .pair .bool false), (300720, .arr 90 .pair)], []⟩
noncomputable def X_q26z_s12 : Tm := ⟨[(13, .ptr 13 0)], [(12, (.map .pair .bool))], [(13, .box [.ref (.mpr 44)]), (44, .mp 75 .pair .bool false)], []⟩
noncomputable def R_q26z_s12 : Tm := ⟨[], [], [], []⟩
noncomputable def L_q26z_s12 {ρ : Type} (n : Nat) : LOrc ρ := lorcCons 14 (loopL 190 14 n T_q26z_s14 X_q26z_s14 R_q26z_s14 ⟨[], [], [(18, 0, 300720, 90, 2)]⟩ (q26z_s14 n)) (lorcNil)
omit [Tabs] [QuietD Tryd.prog] [UDef] [UTabs] in
theorem s_q26z_s12 {ρ : Type} (n : Nat) (rec : T_q26z_s12.den → Option ρ) kx kr s : dStep Tryd.prog 190 TT M_q26z (O_q26z n) (L_q26z_s12 n) (evDraw Tryd.prog 190 TT M_q26z (O_q26z n)) 12 (lbody 1000 C_q26z 5) T_q26z_s12 X_q26z_s12 R_q26z_s12 ⟨[], [], [(18, 0, 300720, 90, 2)]⟩ rec kx kr s = q26z_s12 n rec kx kr s := by kernel_rfl
noncomputable def L_q26z {ρ : Type} (n : Nat) : LOrc ρ := lorcCons 0 (loopL 190 0 n T_q26z_s0 X_q26z_s0 R_q26z_s0 ⟨[], [], []⟩ (q26z_s0 n)) (lorcCons 2 (loopL 190 2 n T_q26z_s2 X_q26z_s2 R_q26z_s2 ⟨[], [], []⟩ (q26z_s2 n)) (lorcCons 4 (loopL 190 4 n T_q26z_s4 X_q26z_s4 R_q26z_s4 ⟨[], [], []⟩ (q26z_s4 n)) (lorcCons 8 (loopL 190 8 n T_q26z_s8 X_q26z_s8 R_q26z_s8 ⟨[], [], [(18, 0, 300720, 90, 2)]⟩ (q26z_s8 n)) (lorcCons 10 (loopL 190 10 n T_q26z_s10 X_q26z_s10 R_q26z_s10 ⟨[], [], [(18, 0, 300720, 90, 2)]⟩ (q26z_s10 n)) (lorcCons 12 (loopL 190 12 n T_q26z_s12 X_q26z_s12 R_q26z_s12 ⟨[], [], [(18, 0, 300720, 90, 2)]⟩ (q26z_s12 n)) (lorcNil))))))
omit [Tabs] [QuietD Tryd.prog] [UDef] [UTabs] in
theorem e_q26z (n : Nat) (x) : evF Tryd.prog 190 TT M_q26z F_q26z (O_q26z n) (L_q26z n) (evDraw Tryd.prog 190 TT M_q26z (O_q26z n)) ⟨[], [], []⟩ [.tmp 6, .tmp 7, .tmp 8] C_q26z x = q26z n x := by kernel_rfl
omit [UDef] in
theorem ok_q26z (n : Nat) : Contract Tryd.prog 11 F_q26z (q26z n) :=
  Contract.of_ev (c := C_q26z) (N := 190) Tryd.func11 (by kernel_rfl) (by kernel_rfl) (by kernel_rfl) (by kernel_rfl) (O_q26z_ok n) (evDraw_ok (O_q26z_ok n) (by kernel_rfl)) (.of (l := [(0, (lbody 1000 C_q26z 0)), (2, (lbody 1000 C_q26z 1)), (4, (lbody 1000 C_q26z 2)), (8, (lbody 1000 C_q26z 3)), (10, (lbody 1000 C_q26z 4)), (12, (lbody 1000 C_q26z 5))]) (by kernel_rfl) ⟨.head (loopL_sound (O_q26z_ok n) (evDraw_ok (O_q26z_ok n) (by kernel_rfl)) (.of (l := []) (by kernel_rfl) trivial) (s_q26z_s0 n)), ⟨.tail rfl (.head (loopL_sound (O_q26z_ok n) (evDraw_ok (O_q26z_ok n) (by kernel_rfl)) (.of (l := []) (by kernel_rfl) trivial) (s_q26z_s2 n))), ⟨.tail rfl (.tail rfl (.head (loopL_sound (O_q26z_ok n) (evDraw_ok (O_q26z_ok n) (by kernel_rfl)) (.of (l := [(6, (lbody 4 (lbody 1000 C_q26z 2) 0))]) (by kernel_rfl) ⟨.head (loopL_sound (O_q26z_ok n) (evDraw_ok (O_q26z_ok n) (by kernel_rfl)) (.of (l := []) (by kernel_rfl) trivial) (s_q26z_s6 n)), trivial⟩) (s_q26z_s4 n)))), ⟨.tail rfl (.tail rfl (.tail rfl (.head (loopL_sound (O_q26z_ok n) (evDraw_ok (O_q26z_ok n) (by kernel_rfl)) (.of (l := []) (by kernel_rfl) trivial) (s_q26z_s8 n))))), ⟨.tail rfl (.tail rfl (.tail rfl (.tail rfl (.head (loopL_sound (O_q26z_ok n) (evDraw_ok (O_q26z_ok n) (by kernel_rfl)) (.of (l := []) (by kernel_rfl) trivial) (s_q26z_s10 n)))))), ⟨.tail rfl (.tail rfl (.tail rfl (.tail rfl (.tail rfl (.head (loopL_sound (O_q26z_ok n) (evDraw_ok (O_q26z_ok n) (by kernel_rfl)) (.of (l := [(14, (lbody 12 (lbody 1000 C_q26z 5) 0))]) (by kernel_rfl) ⟨.head (loopL_sound (O_q26z_ok n) (evDraw_ok (O_q26z_ok n) (by kernel_rfl)) (.of (l := []) (by kernel_rfl) trivial) (s_q26z_s14 n)), trivial⟩) (s_q26z_s12 n))))))), trivial⟩⟩⟩⟩⟩⟩) (e_q26z n)

noncomputable def C_q8z : Code := bodyOf Tryd.f3
noncomputable def M_q8z : List (Nat × ArgM) := [(8, ⟨[1], [], [], false⟩), (6, ⟨[], [], [], true⟩)]
instance : DfOk M_q8z := .none rfl
noncomputable def O_q8z {ρ : Type} (n : Nat) : Orc ρ := orcCons 5 F_reach_All (reach_All n) (orcCons 6 F_q10z (q10z n) (orcCons 7 F_q37z (q37z n) (orcCons 8 F_q0z (q0z n) (orcCons 10 F_txn_Apply (txn_Apply n) (orcCons 11 F_q26z (q26z n) (orcNil))))))
omit [UDef] in
theorem O_q8z_ok {ρ : Type} (n : Nat) : (O_q8z n : Orc ρ).ok Tryd.prog := orcCons_ok (by kernel_rfl) (ok_reach_All n) (orcCons_ok (by kernel_rfl) (ok_q10z n) (orcCons_ok (by kernel_rfl) (ok_q37z n) (orcCons_ok (by kernel_rfl) (ok_q0z n) (orcCons_ok (by kernel_rfl) (ok_txn_Apply n) (orcCons_ok (by kernel_rfl) (ok_q26z n) (orcNil_ok))))))
noncomputable def T_q8z_s0 : Tm := ⟨[(4, .ptr 4 0), (11, .mpr 41)], [(1, .str), (2, .i64), (3, .i64), (9, (.lst .pair)), (42, (.lst .pair)), (43, .i64), (44, .i64)], [(4, .box [.d .graph]), (41, .mp 31 .pair .bool false)], []⟩
noncomputable def X_q8z_s0 : Tm := ⟨[(4, .ptr 4 0), (11, .mpr 41)], [(1, .str), (2, .i64), (3, .i64), (9, (.lst .pair))], [(4, .box [.d .graph]), (41, .mp 31 .pair .bool false)], []⟩
noncomputable def R_q8z_s0 : Tm := ⟨[], [], [], []⟩
noncomputable def L_q8z_s0 {ρ : Type} (n : Nat) : LOrc ρ := lorcNil
omit [Tabs] [QuietD Tryd.prog] [UDef] [UTabs] in
theorem s_q8z_s0 {ρ : Type} (n : Nat) (rec : T_q8z_s0.den → Option ρ) kx kr s : dStep Tryd.prog 166 TT M_q8z (O_q8z n) (L_q8z_s0 n) dorcNil 0 (lbody 1000 C_q8z 0) T_q8z_s0 X_q8z_s0 R_q8z_s0 ⟨[], [], []⟩ rec kx kr s = q8z_s0 n rec kx kr s := by kernel_rfl
noncomputable def T_q8z_s4 : Tm := ⟨[(4, .ptr 4 0), (11, .mpr 41), (15, .ptr 15 0)], [(1, .str), (2, .i64), (3, .i64), (9, (.lst .pair)), (51, (.lst .pair)), (52, .i64), (53, .i64), (57, (.lst .pair)), (58, .i64), (59, .i64)], [(4, .box [.d .graph]), (15, .box [.d .pair]), (41, .mp 31 .pair .bool false)], []⟩
noncomputable def X_q8z_s4 : Tm := ⟨[(4, .ptr 4 0), (11, .mpr 41)], [(1, .str), (2, .i64), (3, .i64), (9, (.lst .pair)), (51, (.lst .pair)), (52, .i64), (53, .i64)], [(4, .box [.d .graph]), (41, .mp 31 .pair .bool false)], []⟩
noncomputable def R_q8z_s4 : Tm := ⟨[], [(8, .bool)], [], []⟩
noncomputable def L_q8z_s4 {ρ : Type} (n : Nat) : LOrc ρ := lorcNil
omit [Tabs] [QuietD Tryd.prog] [UDef] [UTabs] in
theorem s_q8z_s4 {ρ : Type} (n : Nat) (rec : T_q8z_s4.den → Option ρ) kx kr s : dStep Tryd.prog 166 TT M_q8z (O_q8z n) (L_q8z_s4 n) dorcNil 4 (lbody 2 (lbody 1000 C_q8z 1) 0) T_q8z_s4 X_q8z_s4 R_q8z_s4 ⟨[], [], []⟩ rec kx kr s = q8z_s4 n rec kx kr s := by kernel_rfl
noncomputable def T_q8z_s2 : Tm := ⟨[(4, .ptr 4 0), (11, .mpr 41)], [(1, .str), (2, .i64), (3, .i64), (9, (.lst .pair)), (51, (.lst .pair)), (52, .i64), (53, .i64)], [(4, .box [.d .graph]), (41, .mp 31 .pair .bool false)], []⟩
noncomputable def X_q8z_s2 : Tm := ⟨[(4, .ptr 4 0), (11, .mpr 41)], [(1, .str), (2, .i64), (3, .i64)], [(4, .box [.d .graph]), (41, .mp 31 .pair .bool false)], []⟩
noncomputable def R_q8z_s2 : Tm := ⟨[], [(8, .bool)], [], []⟩
noncomputable def L_q8z_s2 {ρ : Type} (n : Nat) : LOrc ρ := lorcCons 4 (loopL 166 4 n T_q8z_s4 X_q8z_s4 R_q8z_s4 ⟨[], [], []⟩ (q8z_s4 n)) (lorcNil)
omit [Tabs] [QuietD Tryd.prog] [UDef] [UTabs] in
theorem s_q8z_s2 {ρ : Type} (n : Nat) (rec : T_q8z_s2.den → Option ρ) kx kr s : dStep Tryd.prog 166 TT M_q8z (O_q8z n) (L_q8z_s2 n) dorcNil 2 (lbody 1000 C_q8z 1) T_q8z_s2 X_q8z_s2 R_q8z_s2 ⟨[], [], []⟩ rec kx kr s = q8z_s2 n rec kx kr s := by kernel_rfl
noncomputable def T_q8z_s6 : Tm := ⟨[(4, .ptr 4 0)], [(1, .str), (2, .i64), (3, .i64), (10, .i64), (18, (.lst .i64)), (19, .i64), (97, (.lst .i64)), (98, .i64), (99, .i64)], [(4, .box [.d .graph])], []⟩
noncomputable def X_q8z_s6 : Tm := ⟨[(4, .ptr 4 0)], [(1, .str), (2, .i64), (3, .i64), (10, .i64), (18, (.lst .i64)), (19, .i64)], [(4, .box [.d .graph])], []⟩
noncomputable def R_q8z_s6 : Tm := ⟨[], [(8, .bool)], [], []⟩
noncomputable def L_q8z_s6 {ρ : Type} (n : Nat) : LOrc ρ := lorcNil
omit [Tabs] [QuietD Tryd.prog] [UDef] [UTabs] in
theorem s_q8z_s6 {ρ : Type} (n : Nat) (rec : T_q8z_s6.den → Option ρ) kx kr s : dStep Tryd.prog 166 TT M_q8z (O_q8z n) (L_q8z_s6 n) dorcNil 6 (lbody 1000 C_q8z 2) T_q8z_s6 X_q8z_s6 R_q8z_s6 ⟨[], [], []⟩ rec kx kr s = q8z_s6 n rec kx kr s := by kernel_rfl
noncomputable def L_q8z {ρ : Type} (n : Nat) : LOrc ρ := lorcCons 0 (loopL 166 0 n T_q8z_s0 X_q8z_s0 R_q8z_s0 ⟨[], [], []⟩ (q8z_s0 n)) (lorcCons 2 (loopL 166 2 n T_q8z_s2 X_q8z_s2 R_q8z_s2 ⟨[], [], []⟩ (q8z_s2 n)) (lorcCons 6 (loopL 166 6 n T_q8z_s6 X_q8z_s6 R_q8z_s6 ⟨[], [], []⟩ (q8z_s6 n)) (lorcNil)))
omit [Tabs] [QuietD Tryd.prog] [UDef] [UTabs] in
theorem e_q8z (n : Nat) (x) : evF Tryd.prog 166 TT M_q8z F_q8z (O_q8z n) (L_q8z n) dorcNil ⟨[], [], []⟩ [.tmp 8] C_q8z x = q8z n x := by kernel_rfl
omit [UDef] in
theorem ok_q8z (n : Nat) : Contract Tryd.prog 3 F_q8z (q8z n) :=
  Contract.of_ev (c := C_q8z) (N := 166) Tryd.func3 (by kernel_rfl) (by kernel_rfl) (by kernel_rfl) (by kernel_rfl) (O_q8z_ok n) dorcNil_ok (.of (l := [(0, (lbody 1000 C_q8z 0)), (2, (lbody 1000 C_q8z 1)), (6, (lbody 1000 C_q8z 2))]) (by kernel_rfl) ⟨.head (loopL_sound (O_q8z_ok n) dorcNil_ok (.of (l := []) (by kernel_rfl) trivial) (s_q8z_s0 n)), ⟨.tail rfl (.head (loopL_sound (O_q8z_ok n) dorcNil_ok (.of (l := [(4, (lbody 2 (lbody 1000 C_q8z 1) 0))]) (by kernel_rfl) ⟨.head (loopL_sound (O_q8z_ok n) dorcNil_ok (.of (l := []) (by kernel_rfl) trivial) (s_q8z_s4 n)), trivial⟩) (s_q8z_s2 n))), ⟨.tail rfl (.tail rfl (.head (loopL_sound (O_q8z_ok n) dorcNil_ok (.of (l := []) (by kernel_rfl) trivial) (s_q8z_s6 n)))), trivial⟩⟩⟩) (e_q8z n)

end Go.Proofs.YtmpcgmlknbmpbaaDoor

/- Each of these functions computes what its plain function computes (written by gen.py). -/
import Derived.Test.YtffefjmpmgkfoaaGreatDoorSBase
import Derived.Test.YtffefjmpmgkfoaaGreatDoorSG
import Derived.KernelRfl
import Derived.Test.YtffefjmpmgkfoaaGreatDoorEvDraw
import Derived.Test.YtffefjmpmgkfoaaGreatDoorPHigh
namespace Go.Proofs.YtffefjmpmgkfoaaGreatDoor.Hi
open Go Esp Ev Pure Pure.Hi
set_option linter.unusedSimpArgs false
set_option linter.unusedVariables false
set_option maxRecDepth 100000
set_option maxHeartbeats 1000000
def okds : List FuncId := []
theorem quiets : ∀ g ∈ okds, ∀ (args : Array Value) (w : World), (callFunc g args).run Tryz.prog w = .ok (.enter g args) w ∧ CallsD Tryz.prog g args .returning w fun e u w' => u = .returning ∧ (∃ v, e = .returned v) ∧ w' = w := by
  intro g hg args w
  cases hg
variable [Tabs]
class UDef : Prop where
  ok : ∀ g ∈ ([] : List Nat), g ∈ Tabs.okd
variable [QuietD Tryz.prog] [UDef] [UTabs]
def TT : List (TypeId × Ty) := [(2, .i64), (3, .i64), (4, .bool), (5, .u8), (6, .u8), (9, .str), (10, .str), (11, .str), (12, .u64), (21, .i32), (22, (.lst .val)), (24, .val), (25, .i64), (32, (.lst .node)), (33, (.lst .edg)), (35, .graph), (43, (.lst .u8)), (56, (.lst .str)), (67, (.lst .prp)), (69, .prp), (73, .node), (75, .edg), (94, .u64), (105, .u32), (134, .u64), (144, (.lst .i64)), (195, .i64), (232, (.lst .i64)), (251, .u8), (252, .u8), (254, .i32), (255, .i32), (259, (.lst .u8))]

noncomputable def F_strings_Join : FnT := ⟨2, ⟨[], [(0, (.lst .str)), (1, .str)], [], []⟩, [.v .str], []⟩
noncomputable def F_q6z : FnT := ⟨2, ⟨[(0, .ptr 1000000 0)], [(1, .str)], [(1000000, .box [.ref (.pn 1000000), .ref (.own 1000001)] (some 45)), (1000001, .arr 5 .u8)], []⟩, [.v .i64, .ref (.nili)], [(1000000, .box [.ref (.pn 1000000), .ref (.own 1000001)] (some 45)), (1000001, .arr 5 .u8)]⟩
noncomputable def C_q6z : Code := bodyOf Tryz.f29
noncomputable def M_q6z : List (Nat × ArgM) := [(57, ⟨[0], [], [], false⟩)]
instance : DfOk M_q6z := .none rfl
noncomputable def O_q6z {ρ : Type} : Orc ρ := orcCons 57 F_cc (copyCheckN) (orcNil)
omit [QuietD Tryz.prog] [UDef] [UTabs] in
theorem O_q6z_ok {ρ : Type} : (O_q6z : Orc ρ).ok Tryz.prog := orcCons_ok (by kernel_rfl) (copyCheckN_ok) (orcNil_ok)
noncomputable def L_q6z {ρ : Type} : LOrc ρ := lorcNil
omit [Tabs] [QuietD Tryz.prog] [UDef] [UTabs] in
theorem e_q6z (x) : evF Tryz.prog 19 TT M_q6z F_q6z (O_q6z) (L_q6z) dorcNil ⟨[], [], []⟩ [.tmp 4, .tmp 5] C_q6z x = q6z x := by kernel_rfl
omit [UDef] [UTabs] in
theorem ok_q6z : Contract Tryz.prog 29 F_q6z (q6z) :=
  Contract.of_ev (c := C_q6z) (N := 19) Tryz.func29 (by kernel_rfl) (by kernel_rfl) (by kernel_rfl) (by kernel_rfl) (O_q6z_ok) dorcNil_ok (.of (l := []) (by kernel_rfl) trivial) (e_q6z)

noncomputable def C_strings_Join : Code := bodyOf Tryz.f26
noncomputable def M_strings_Join : List (Nat × ArgM) := [(999999996, ⟨[45, 5], [], [], false⟩), (51, ⟨[0], [], [], false⟩), (29, ⟨[0], [], [], false⟩), (16, ⟨[0], [], [], false⟩)]
instance : DfOk M_strings_Join := .none rfl
noncomputable def O_strings_Join {ρ : Type} (n : Nat) : Orc ρ := orcCons 51 (F_grow 45 5) (growN) (orcCons 29 F_q6z (q6z) (orcCons 16 F_st (stringN) (orcNil)))
omit [UDef] [UTabs] in
theorem O_strings_Join_ok {ρ : Type} (n : Nat) : (O_strings_Join n : Orc ρ).ok Tryz.prog := orcCons_ok (by kernel_rfl) (growN_ok) (orcCons_ok (by kernel_rfl) (ok_q6z) (orcCons_ok (by kernel_rfl) (stringN_ok) (orcNil_ok)))
noncomputable def T_strings_Join_s1 : Tm := ⟨[], [(0, (.lst .str)), (1, .str), (5, .i64), (39, (.lst .str)), (40, .i64), (41, .i64)], [], []⟩
noncomputable def X_strings_Join_s1 : Tm := ⟨[], [(0, (.lst .str)), (1, .str), (5, .i64)], [], []⟩
noncomputable def R_strings_Join_s1 : Tm := ⟨[], [], [], []⟩
noncomputable def L_strings_Join_s1 {ρ : Type} (n : Nat) : LOrc ρ := lorcNil
omit [Tabs] [QuietD Tryz.prog] [UDef] [UTabs] in
theorem s_strings_Join_s1 {ρ : Type} (n : Nat) (rec : T_strings_Join_s1.den → Option ρ) kx kr s : dStep Tryz.prog 75 TT M_strings_Join (O_strings_Join n) (L_strings_Join_s1 n) dorcNil 1 (lbody 1000 C_strings_Join 0) T_strings_Join_s1 X_strings_Join_s1 R_strings_Join_s1 ⟨[], [], []⟩ rec kx kr s = strings_Join_s1 n rec kx kr s := by kernel_rfl
noncomputable def T_strings_Join_s3 : Tm := ⟨[(8, .ptr 8 0)], [(1, .str), (63, (.lst .str)), (64, .i64), (65, .i64)], [(8, .box [.ref (.pn 8), .ref (.own 500008)] (some 45)), (500008, .arr 5 .u8)], []⟩
noncomputable def X_strings_Join_s3 : Tm := ⟨[(8, .ptr 8 0)], [], [(8, .box [.ref (.pn 8), .ref (.own 500008)] (some 45)), (500008, .arr 5 .u8)], []⟩
noncomputable def R_strings_Join_s3 : Tm := ⟨[], [], [], []⟩
noncomputable def L_strings_Join_s3 {ρ : Type} (n : Nat) : LOrc ρ := lorcNil
omit [Tabs] [QuietD Tryz.prog] [UDef] [UTabs] in
theorem s_strings_Join_s3 {ρ : Type} (n : Nat) (rec : T_strings_Join_s3.den → Option ρ) kx kr s : dStep Tryz.prog 75 TT M_strings_Join (O_strings_Join n) (L_strings_Join_s3 n) dorcNil 3 (lbody 1000 C_strings_Join 1) T_strings_Join_s3 X_strings_Join_s3 R_strings_Join_s3 ⟨[], [], []⟩ rec kx kr s = strings_Join_s3 n rec kx kr s := by kernel_rfl
noncomputable def L_strings_Join {ρ : Type} (n : Nat) : LOrc ρ := lorcCons 1 (loopL 75 1 n T_strings_Join_s1 X_strings_Join_s1 R_strings_Join_s1 ⟨[], [], []⟩ (strings_Join_s1 n)) (lorcCons 3 (loopL 75 3 n T_strings_Join_s3 X_strings_Join_s3 R_strings_Join_s3 ⟨[], [], []⟩ (strings_Join_s3 n)) (lorcNil))
omit [Tabs] [QuietD Tryz.prog] [UDef] [UTabs] in
theorem e_strings_Join (n : Nat) (x) : evF Tryz.prog 75 TT M_strings_Join F_strings_Join (O_strings_Join n) (L_strings_Join n) dorcNil ⟨[], [], []⟩ [.tmp 4] C_strings_Join x = strings_Join n x := by kernel_rfl
omit [UDef] [UTabs] in
theorem ok_strings_Join (n : Nat) : Contract Tryz.prog 26 F_strings_Join (strings_Join n) :=
  Contract.of_ev (c := C_strings_Join) (N := 75) Tryz.func26 (by kernel_rfl) (by kernel_rfl) (by kernel_rfl) (by kernel_rfl) (O_strings_Join_ok n) dorcNil_ok (.of (l := [(1, (lbody 1000 C_strings_Join 0)), (3, (lbody 1000 C_strings_Join 1))]) (by kernel_rfl) ⟨.head (loopL_sound (O_strings_Join_ok n) dorcNil_ok (.of (l := []) (by kernel_rfl) trivial) (s_strings_Join_s1 n)), ⟨.tail rfl (.head (loopL_sound (O_strings_Join_ok n) dorcNil_ok (.of (l := []) (by kernel_rfl) trivial) (s_strings_Join_s3 n))), trivial⟩⟩) (e_strings_Join n)

end Go.Proofs.YtffefjmpmgkfoaaGreatDoor.Hi

import Derived.Test.YtmpcgmlknbmpbaaDoorSBase
import Derived.KernelRfl
import Derived.Test.YtmpcgmlknbmpbaaDoorEvDraw
import Derived.Test.YtmpcgmlknbmpbaaDoorPCode
namespace Go.Proofs.YtmpcgmlknbmpbaaDoor
open Go Esp Ev Pure
set_option linter.unusedSimpArgs false
set_option linter.unusedVariables false
set_option maxRecDepth 100000
set_option maxHeartbeats 1000000
def okds : List FuncId := []
theorem quiets : ∀ g ∈ okds, ∀ (args : Array Value) (w : World), (callFunc g args).run Tryd.prog w = .ok (.enter g args) w ∧ CallsD Tryd.prog g args .returning w fun e u w' => u = .returning ∧ (∃ v, e = .returned v) ∧ w' = w := by
 intro g hg args w
 cases hg
variable [Tabs]
class UDef : Prop where
 ok : ∀ g ∈ ([] : List Nat), g ∈ Tabs.okd
variable [QuietD Tryd.prog] [UDef] [UTabs]
def TT : List (TypeId × Ty) := [(2, .i64), (3, .i64), (4, .bool), (5, .u8), (6, .u8), (9, .str), (10, .str), (11, .str), (12, .u64), (21, .i32), (22, (.lst .node)), (23, (.lst .edg)), (25, .graph), (26, (.lst .pair)), (27, .i64), (31, (.map .pair .bool)), (32, .pair), (33, (.lst .i64)), (37, (.lst .prp)), (39, .edg), (43, (.lst .val)), (45, .val), (46, (.lst .str)), (48, .opn), (49, (.lst .opn)), (53, (.lst .dot)), (54, (.lst .arrow)), (55, (.lst .term)), (56, (.lst .item)), (58, .query), (59, (.lst (.lst .i64))), (63, .term), (65, .item), (73, (.lst .pair)), (75, (.map .pair .bool)), (81, (.map .i64 .i64)), (89, (.two .graph)), (90, .pair), (93, (.map .i64 (.lst .i64))), (106, .dot), (108, .arrow), (113, .u64), (116, .node), (140, (.map .str .bool)), (145, (.lst (.map .pair .bool))), (151, (.lst .i64)), (153, .prp), (168, .i64), (175, .u32), (177, .u64), (181, (.map .str .i64)), (183, .envr), (195, .u64), (224, (.lst .i32)), (241, .u8), (242, .u8), (245, .i32), (246, .i32)]
noncomputable def e0j : FnT := ⟨2, ⟨[], [(0, .query), (1, .graph)], [], []⟩, [.v (.lst (.lst .i64)), .v .i64], []⟩
noncomputable def F_q42z : FnT := ⟨1, ⟨[], [(0, .query)], [], []⟩, [.v .i64], []⟩
noncomputable def e0b : FnT := ⟨1, ⟨[], [(0, .str)], [], []⟩, [.v .bool], []⟩
noncomputable def F_q53z : FnT := ⟨1, ⟨[], [(0, .str)], [], []⟩, [.v .bool], []⟩
noncomputable def C_q53z : Code := bodyOf Tryd.f53
noncomputable def M_q53z : List (Nat × ArgM) := []
instance : DfOk M_q53z := .none rfl
noncomputable def O_q53z {ρ : Type} (n : Nat) : Orc ρ := orcNil
omit [QuietD Tryd.prog] [UDef] [UTabs] in
theorem t0i {ρ : Type} (n : Nat) : (O_q53z n : Orc ρ).ok Tryd.prog := a0e
noncomputable def T_q53z_s0 : Tm := ⟨[], [(0, .str), (14, .i64), (15, .i64)], [], []⟩
noncomputable def w0d : Tm := ⟨[], [], [], []⟩
noncomputable def n0d : Tm := ⟨[], [(2, .bool)], [], []⟩
noncomputable def j1e {ρ : Type} (n : Nat) : LOrc ρ := a0c
omit [Tabs] [QuietD Tryd.prog] [UDef] [UTabs] in
theorem e1p {ρ : Type} (n : Nat) (rec : T_q53z_s0.den → Option ρ) kx kr s : dStep Tryd.prog 54 TT M_q53z (O_q53z n) (j1e n) a0g 0 (lbody 1000 C_q53z 0) T_q53z_s0 w0d n0d ⟨[], [], []⟩ rec kx kr s = q0l n rec kx kr s := by kernel_rfl
noncomputable def L_q53z {ρ : Type} (n : Nat) : LOrc ρ := a0i 0 (loopL 54 0 n T_q53z_s0 w0d n0d ⟨[], [], []⟩ (q0l n)) (a0c)
omit [Tabs] [QuietD Tryd.prog] [UDef] [UTabs] in
theorem e_q53z (n : Nat) (x) : evF Tryd.prog 54 TT M_q53z F_q53z (O_q53z n) (L_q53z n) a0g ⟨[], [], []⟩ [.tmp 2] C_q53z x = q53z n x := by kernel_rfl
omit [UDef] [UTabs] in
theorem j0n (n : Nat) : Contract Tryd.prog 53 F_q53z (q53z n) :=
 Contract.of_ev (c := C_q53z) (N := 54) Tryd.func53 (by kernel_rfl) (by kernel_rfl) (by kernel_rfl) (by kernel_rfl) (t0i n) a0b (.of (l := [(0, (lbody 1000 C_q53z 0))]) (by kernel_rfl) ⟨.head (a0f (t0i n) a0b (.of (l := []) (by kernel_rfl) trivial) (e1p n)), trivial⟩) (e_q53z n)
noncomputable def F_q35z : FnT := ⟨1, ⟨[], [(0, .str)], [], []⟩, [.v .bool], []⟩
noncomputable def F_q7z : FnT := ⟨2, ⟨[], [(0, (.lst .str)), (1, .str)], [], []⟩, [.v .bool], []⟩
noncomputable def F_q8z : FnT := ⟨2, ⟨[], [(0, (.lst .str)), (1, .str)], [], []⟩, [.v .i64], []⟩
noncomputable def C_q8z : Code := bodyOf Tryd.f104
noncomputable def M_q8z : List (Nat × ArgM) := []
instance : DfOk M_q8z := .none rfl
noncomputable def O_q8z {ρ : Type} (n : Nat) : Orc ρ := orcNil
omit [QuietD Tryd.prog] [UDef] [UTabs] in
theorem a1t {ρ : Type} (n : Nat) : (O_q8z n : Orc ρ).ok Tryd.prog := a0e
noncomputable def T_q8z_s0 : Tm := ⟨[], [(0, (.lst .str)), (1, .str), (7, .i64), (8, .i64)], [], []⟩
noncomputable def b1e : Tm := ⟨[], [], [], []⟩
noncomputable def p0s : Tm := ⟨[], [(4, .i64)], [], []⟩
noncomputable def l1a {ρ : Type} (n : Nat) : LOrc ρ := a0c
omit [Tabs] [QuietD Tryd.prog] [UDef] [UTabs] in
theorem k1u {ρ : Type} (n : Nat) (rec : T_q8z_s0.den → Option ρ) kx kr s : dStep Tryd.prog 19 TT M_q8z (O_q8z n) (l1a n) a0g 0 (lbody 1000 C_q8z 0) T_q8z_s0 b1e p0s ⟨[], [], []⟩ rec kx kr s = q8z_s0 n rec kx kr s := by kernel_rfl
noncomputable def L_q8z {ρ : Type} (n : Nat) : LOrc ρ := a0i 0 (loopL 19 0 n T_q8z_s0 b1e p0s ⟨[], [], []⟩ (q8z_s0 n)) (a0c)
omit [Tabs] [QuietD Tryd.prog] [UDef] [UTabs] in
theorem e_q8z (n : Nat) (x) : evF Tryd.prog 19 TT M_q8z F_q8z (O_q8z n) (L_q8z n) a0g ⟨[], [], []⟩ [.tmp 4] C_q8z x = q8z n x := by kernel_rfl
omit [UDef] [UTabs] in
theorem ok_q8z (n : Nat) : Contract Tryd.prog 104 F_q8z (q8z n) :=
 Contract.of_ev (c := C_q8z) (N := 19) Tryd.func104 (by kernel_rfl) (by kernel_rfl) (by kernel_rfl) (by kernel_rfl) (a1t n) a0b (.of (l := [(0, (lbody 1000 C_q8z 0))]) (by kernel_rfl) ⟨.head (a0f (a1t n) a0b (.of (l := []) (by kernel_rfl) trivial) (k1u n)), trivial⟩) (e_q8z n)
noncomputable def C_q7z : Code := bodyOf Tryd.f74
noncomputable def M_q7z : List (Nat × ArgM) := [(104, ⟨[], [], [], true⟩)]
instance : DfOk M_q7z := .none rfl
noncomputable def O_q7z {ρ : Type} (n : Nat) : Orc ρ := a0d 104 F_q8z (q8z n) (orcNil)
omit [UDef] [UTabs] in
theorem m1k {ρ : Type} (n : Nat) : (O_q7z n : Orc ρ).ok Tryd.prog := a0a (by kernel_rfl) (ok_q8z n) (a0e)
noncomputable def L_q7z {ρ : Type} (n : Nat) : LOrc ρ := a0c
omit [Tabs] [QuietD Tryd.prog] [UDef] [UTabs] in
theorem e_q7z (n : Nat) (x) : evF Tryd.prog 9 TT M_q7z F_q7z (O_q7z n) (L_q7z n) a0g ⟨[], [], []⟩ [.tmp 4] C_q7z x = q7z n x := by kernel_rfl
omit [UDef] [UTabs] in
theorem ok_q7z (n : Nat) : Contract Tryd.prog 74 F_q7z (q7z n) :=
 Contract.of_ev (c := C_q7z) (N := 9) Tryd.func74 (by kernel_rfl) (by kernel_rfl) (by kernel_rfl) (by kernel_rfl) (m1k n) a0b (.of (l := []) (by kernel_rfl) trivial) (e_q7z n)
noncomputable def C_q35z : Code := bodyOf Tryd.f102
noncomputable def M_q35z : List (Nat × ArgM) := [(74, ⟨[], [], [], true⟩)]
instance : DfOk M_q35z := .none rfl
noncomputable def O_q35z {ρ : Type} (n : Nat) : Orc ρ := a0d 74 F_q7z (q7z n) (orcNil)
omit [UDef] [UTabs] in
theorem f1y {ρ : Type} (n : Nat) : (O_q35z n : Orc ρ).ok Tryd.prog := a0a (by kernel_rfl) (ok_q7z n) (a0e)
noncomputable def L_q35z {ρ : Type} (n : Nat) : LOrc ρ := a0c
omit [Tabs] [QuietD Tryd.prog] [UDef] [UTabs] in
theorem e_q35z (n : Nat) (x) : evF Tryd.prog 6 TT M_q35z F_q35z (O_q35z n) (L_q35z n) a0g ⟨[], [], []⟩ [.tmp 2] C_q35z x = q35z n x := by kernel_rfl
omit [UDef] [UTabs] in
theorem o1x (n : Nat) : Contract Tryd.prog 102 F_q35z (q35z n) :=
 Contract.of_ev (c := C_q35z) (N := 6) Tryd.func102 (by kernel_rfl) (by kernel_rfl) (by kernel_rfl) (by kernel_rfl) (f1y n) a0b (.of (l := []) (by kernel_rfl) trivial) (e_q35z n)
noncomputable def l0i : Code := bodyOf Tryd.f71
noncomputable def l0t : List (Nat × ArgM) := [(53, ⟨[], [], [], true⟩), (102, ⟨[], [], [], true⟩)]
instance : DfOk l0t := .none rfl
noncomputable def m0n {ρ : Type} (n : Nat) : Orc ρ := a0d 53 F_q53z (q53z n) (a0d 102 F_q35z (q35z n) (orcNil))
omit [UDef] [UTabs] in
theorem o0c {ρ : Type} (n : Nat) : (m0n n : Orc ρ).ok Tryd.prog := a0a (by kernel_rfl) (j0n n) (a0a (by kernel_rfl) (o1x n) (a0e))
noncomputable def x0u {ρ : Type} (n : Nat) : LOrc ρ := a0c
omit [Tabs] [QuietD Tryd.prog] [UDef] [UTabs] in
theorem x0h (n : Nat) (x) : evF Tryd.prog 10 TT l0t e0b (m0n n) (x0u n) a0g ⟨[], [], []⟩ [.tmp 2] l0i x = a0y n x := by kernel_rfl
omit [UDef] [UTabs] in
theorem k0m (n : Nat) : Contract Tryd.prog 71 e0b (a0y n) :=
 Contract.of_ev (c := l0i) (N := 10) Tryd.func71 (by kernel_rfl) (by kernel_rfl) (by kernel_rfl) (by kernel_rfl) (o0c n) a0b (.of (l := []) (by kernel_rfl) trivial) (x0h n)
noncomputable def F_q43z : FnT := ⟨1, ⟨[], [(0, .query)], [], []⟩, [.v (.map .str .bool), .v .i64], []⟩
noncomputable def C_q43z : Code := bodyOf Tryd.f72
noncomputable def M_q43z : List (Nat × ArgM) := []
instance : DfOk M_q43z := .none rfl
noncomputable def O_q43z {ρ : Type} (n : Nat) : Orc ρ := orcNil
omit [QuietD Tryd.prog] [UDef] [UTabs] in
theorem m0q {ρ : Type} (n : Nat) : (O_q43z n : Orc ρ).ok Tryd.prog := a0e
noncomputable def T_q43z_s0 : Tm := ⟨[(1, .ptr 1 0), (4, .mpr 11)], [(13, (.lst .dot)), (14, .i64), (15, .i64)], [(1, .box [.d .query]), (11, .mp 140 .str .bool false)], []⟩
noncomputable def v0a : Tm := ⟨[(1, .ptr 1 0), (4, .mpr 11)], [], [(1, .box [.d .query]), (11, .mp 140 .str .bool false)], []⟩
noncomputable def i0e : Tm := ⟨[], [], [], []⟩
noncomputable def k1b {ρ : Type} (n : Nat) : LOrc ρ := a0c
omit [Tabs] [QuietD Tryd.prog] [UDef] [UTabs] in
theorem e1e {ρ : Type} (n : Nat) (rec : T_q43z_s0.den → Option ρ) kx kr s : dStep Tryd.prog 49 TT M_q43z (O_q43z n) (k1b n) a0g 0 (lbody 1000 C_q43z 0) T_q43z_s0 v0a i0e ⟨[], [], []⟩ rec kx kr s = q0v n rec kx kr s := by kernel_rfl
noncomputable def T_q43z_s2 : Tm := ⟨[(4, .mpr 11)], [(27, (.lst .arrow)), (28, .i64), (29, .i64)], [(11, .mp 140 .str .bool false)], []⟩
noncomputable def u0f : Tm := ⟨[(4, .mpr 11)], [], [(11, .mp 140 .str .bool false)], []⟩
noncomputable def h0n : Tm := ⟨[], [(2, (.map .str .bool)), (3, .i64)], [], []⟩
noncomputable def g1c {ρ : Type} (n : Nat) : LOrc ρ := a0c
omit [Tabs] [QuietD Tryd.prog] [UDef] [UTabs] in
theorem g1a {ρ : Type} (n : Nat) (rec : T_q43z_s2.den → Option ρ) kx kr s : dStep Tryd.prog 49 TT M_q43z (O_q43z n) (g1c n) a0g 2 (lbody 1000 C_q43z 1) T_q43z_s2 u0f h0n ⟨[], [], []⟩ rec kx kr s = s0q n rec kx kr s := by kernel_rfl
noncomputable def L_q43z {ρ : Type} (n : Nat) : LOrc ρ := a0i 0 (loopL 49 0 n T_q43z_s0 v0a i0e ⟨[], [], []⟩ (q0v n)) (a0i 2 (loopL 49 2 n T_q43z_s2 u0f h0n ⟨[], [], []⟩ (s0q n)) (a0c))
omit [Tabs] [QuietD Tryd.prog] [UDef] [UTabs] in
theorem e_q43z (n : Nat) (x) : evF Tryd.prog 49 TT M_q43z F_q43z (O_q43z n) (L_q43z n) a0g ⟨[], [], []⟩ [.tmp 2, .tmp 3] C_q43z x = q43z n x := by kernel_rfl
omit [UDef] [UTabs] in
theorem p1o (n : Nat) : Contract Tryd.prog 72 F_q43z (q43z n) :=
 Contract.of_ev (c := C_q43z) (N := 49) Tryd.func72 (by kernel_rfl) (by kernel_rfl) (by kernel_rfl) (by kernel_rfl) (m0q n) a0b (.of (l := [(0, (lbody 1000 C_q43z 0)), (2, (lbody 1000 C_q43z 1))]) (by kernel_rfl) ⟨.head (a0f (m0q n) a0b (.of (l := []) (by kernel_rfl) trivial) (e1e n)), ⟨.tail rfl (.head (a0f (m0q n) a0b (.of (l := []) (by kernel_rfl) trivial) (g1a n))), trivial⟩⟩) (e_q43z n)
noncomputable def F_q54z : FnT := ⟨2, ⟨[], [(0, .term), (1, (.map .str .bool))], [], []⟩, [.v .i64], []⟩
noncomputable def F_q56z : FnT := ⟨3, ⟨[], [(0, .term), (1, (.map .str .bool)), (2, .i64)], [], []⟩, [.v .i64], []⟩
noncomputable def F_q46z : FnT := ⟨1, ⟨[], [(0, .val)], [], []⟩, [.v .i64], []⟩
noncomputable def F_q48z : FnT := ⟨2, ⟨[], [(0, .val), (1, .i64)], [], []⟩, [.v .i64], []⟩
noncomputable def C_q48z : Code := bodyOf Tryd.f82
noncomputable def M_q48z : List (Nat × ArgM) := [(117, ⟨[], [], [], true⟩), (82, ⟨[], [], [], true⟩)]
instance : DfOk M_q48z := .none rfl
noncomputable def O_q48z {ρ : Type} (self_q48z : Ev.Val × Int × Unit → Option (Int × Unit)) (n : Nat) : Orc ρ := a0d 117 j1p (validN) (a0d 82 F_q48z (self_q48z) (orcNil))
omit [QuietD Tryd.prog] [UDef] in
theorem v0v {ρ : Type} (self_q48z : Ev.Val × Int × Unit → Option (Int × Unit)) (h_q48z : Contract Tryd.prog 82 F_q48z self_q48z) (n : Nat) : (O_q48z self_q48z n : Orc ρ).ok Tryd.prog := a0a (by kernel_rfl) (i1v) (a0a (by kernel_rfl) (h_q48z) (a0e))
noncomputable def T_q48z_s1 : Tm := ⟨[(2, .ptr 2 0)], [(1, .i64), (90, (.lst .val)), (91, .i64), (92, .i64)], [(2, .box [.d .val])], []⟩
noncomputable def v0n : Tm := ⟨[(2, .ptr 2 0)], [], [(2, .box [.d .val])], []⟩
noncomputable def m0z : Tm := ⟨[], [(4, .i64)], [], []⟩
noncomputable def h1z {ρ : Type} (self_q48z : Ev.Val × Int × Unit → Option (Int × Unit)) (n : Nat) : LOrc ρ := a0c
omit [Tabs] [QuietD Tryd.prog] [UDef] [UTabs] in
theorem i1l {ρ : Type} (self_q48z : Ev.Val × Int × Unit → Option (Int × Unit)) (n : Nat) (rec : T_q48z_s1.den → Option ρ) kx kr s : dStep Tryd.prog 114 TT M_q48z (O_q48z self_q48z n) (h1z self_q48z n) a0g 1 (lbody 1000 C_q48z 0) T_q48z_s1 v0n m0z ⟨[], [], []⟩ rec kx kr s = g0h self_q48z n rec kx kr s := by kernel_rfl
noncomputable def L_q48z {ρ : Type} (self_q48z : Ev.Val × Int × Unit → Option (Int × Unit)) (n : Nat) : LOrc ρ := a0i 1 (loopL 114 1 n T_q48z_s1 v0n m0z ⟨[], [], []⟩ (g0h self_q48z n)) (a0c)
omit [Tabs] [QuietD Tryd.prog] [UDef] [UTabs] in
theorem e_q48z (self_q48z : Ev.Val × Int × Unit → Option (Int × Unit)) (n : Nat) (x) : evF Tryd.prog 114 TT M_q48z F_q48z (O_q48z self_q48z n) (L_q48z self_q48z n) a0g ⟨[], [], []⟩ [.tmp 4] C_q48z x = q48z_b self_q48z n x := by kernel_rfl
omit [UDef] in
theorem n1l (self_q48z : Ev.Val × Int × Unit → Option (Int × Unit)) (h_q48z : Contract Tryd.prog 82 F_q48z self_q48z) (n : Nat) : Contract Tryd.prog 82 F_q48z (q48z_b self_q48z n) :=
 Contract.of_ev (c := C_q48z) (N := 114) Tryd.func82 (by kernel_rfl) (by kernel_rfl) (by kernel_rfl) (by kernel_rfl) (v0v self_q48z h_q48z n) a0b (.of (l := [(1, (lbody 1000 C_q48z 0))]) (by kernel_rfl) ⟨.head (a0f (v0v self_q48z h_q48z n) a0b (.of (l := []) (by kernel_rfl) trivial) (i1l self_q48z n)), trivial⟩) (e_q48z self_q48z n)
omit [UDef] in
theorem h1j : ∀ n, Contract Tryd.prog 82 F_q48z (q48z n)
 | 0 => fun _ _ h => by cases h
 | n + 1 => n1l _ (h1j n) n
noncomputable def C_q46z : Code := bodyOf Tryd.f64
noncomputable def M_q46z : List (Nat × ArgM) := [(82, ⟨[], [], [], true⟩)]
instance : DfOk M_q46z := .none rfl
noncomputable def O_q46z {ρ : Type} (n : Nat) : Orc ρ := a0d 82 F_q48z (q48z n) (orcNil)
omit [UDef] in
theorem j1z {ρ : Type} (n : Nat) : (O_q46z n : Orc ρ).ok Tryd.prog := a0a (by kernel_rfl) (h1j n) (a0e)
noncomputable def L_q46z {ρ : Type} (n : Nat) : LOrc ρ := a0c
omit [Tabs] [QuietD Tryd.prog] [UDef] [UTabs] in
theorem e_q46z (n : Nat) (x) : evF Tryd.prog 5 TT M_q46z F_q46z (O_q46z n) (L_q46z n) a0g ⟨[], [], []⟩ [.tmp 2] C_q46z x = q46z n x := by kernel_rfl
omit [UDef] in
theorem x0f (n : Nat) : Contract Tryd.prog 64 F_q46z (q46z n) :=
 Contract.of_ev (c := C_q46z) (N := 5) Tryd.func64 (by kernel_rfl) (by kernel_rfl) (by kernel_rfl) (by kernel_rfl) (j1z n) a0b (.of (l := []) (by kernel_rfl) trivial) (e_q46z n)
noncomputable def F_q55z : FnT := ⟨1, ⟨[], [(0, .str)], [], []⟩, [.v .i64, .v .bool], []⟩
noncomputable def C_q55z : Code := bodyOf Tryd.f127
noncomputable def M_q55z : List (Nat × ArgM) := []
instance : DfOk M_q55z := .none rfl
noncomputable def O_q55z {ρ : Type} : Orc ρ := orcNil
omit [QuietD Tryd.prog] [UDef] [UTabs] in
theorem i1m {ρ : Type} : (O_q55z : Orc ρ).ok Tryd.prog := a0e
noncomputable def L_q55z {ρ : Type} : LOrc ρ := a0c
omit [Tabs] [QuietD Tryd.prog] [UDef] [UTabs] in
theorem e_q55z (x) : evF Tryd.prog 25 TT M_q55z F_q55z (O_q55z) (L_q55z) a0g ⟨[], [], []⟩ [.tmp 2, .tmp 3] C_q55z x = q55z x := by kernel_rfl
omit [UDef] [UTabs] in
theorem o1g : Contract Tryd.prog 127 F_q55z (q55z) :=
 Contract.of_ev (c := C_q55z) (N := 25) Tryd.func127 (by kernel_rfl) (by kernel_rfl) (by kernel_rfl) (by kernel_rfl) (i1m) a0b (.of (l := []) (by kernel_rfl) trivial) (e_q55z)
noncomputable def C_q56z : Code := bodyOf Tryd.f103
noncomputable def M_q56z : List (Nat × ArgM) := [(64, ⟨[], [], [], true⟩), (71, ⟨[], [], [], true⟩), (53, ⟨[], [], [], true⟩), (103, ⟨[], [], [], true⟩), (127, ⟨[], [], [], true⟩)]
instance : DfOk M_q56z := .none rfl
noncomputable def O_q56z {ρ : Type} (self_q56z : Ev.Term × (List (ByteArray × Bool)) × Int × Unit → Option (Int × Unit)) (n : Nat) : Orc ρ := a0d 64 F_q46z (q46z n) (a0d 71 e0b (a0y n) (a0d 53 F_q53z (q53z n) (a0d 103 F_q56z (self_q56z) (a0d 127 F_q55z (q55z) (orcNil)))))
omit [UDef] in
theorem t0n {ρ : Type} (self_q56z : Ev.Term × (List (ByteArray × Bool)) × Int × Unit → Option (Int × Unit)) (h_q56z : Contract Tryd.prog 103 F_q56z self_q56z) (n : Nat) : (O_q56z self_q56z n : Orc ρ).ok Tryd.prog := a0a (by kernel_rfl) (x0f n) (a0a (by kernel_rfl) (k0m n) (a0a (by kernel_rfl) (j0n n) (a0a (by kernel_rfl) (h_q56z) (a0a (by kernel_rfl) (o1g) (a0e)))))
noncomputable def T_q56z_s1 : Tm := ⟨[(3, .ptr 3 0)], [(1, (.map .str .bool)), (2, .i64), (147, (.lst .term)), (148, .i64), (149, .i64)], [(3, .box [.d .term])], []⟩
noncomputable def t0t : Tm := ⟨[(3, .ptr 3 0)], [(1, (.map .str .bool))], [(3, .box [.d .term])], []⟩
noncomputable def i0x : Tm := ⟨[], [(6, .i64)], [], []⟩
noncomputable def h1n {ρ : Type} (self_q56z : Ev.Term × (List (ByteArray × Bool)) × Int × Unit → Option (Int × Unit)) (n : Nat) : LOrc ρ := a0c
omit [Tabs] [QuietD Tryd.prog] [UDef] [UTabs] in
theorem k1f {ρ : Type} (self_q56z : Ev.Term × (List (ByteArray × Bool)) × Int × Unit → Option (Int × Unit)) (n : Nat) (rec : T_q56z_s1.den → Option ρ) kx kr s : dStep Tryd.prog 196 TT M_q56z (O_q56z self_q56z n) (h1n self_q56z n) a0g 1 (lbody 1000 C_q56z 0) T_q56z_s1 t0t i0x ⟨[], [], []⟩ rec kx kr s = r0h self_q56z n rec kx kr s := by kernel_rfl
noncomputable def L_q56z {ρ : Type} (self_q56z : Ev.Term × (List (ByteArray × Bool)) × Int × Unit → Option (Int × Unit)) (n : Nat) : LOrc ρ := a0i 1 (loopL 196 1 n T_q56z_s1 t0t i0x ⟨[], [], []⟩ (r0h self_q56z n)) (a0c)
omit [Tabs] [QuietD Tryd.prog] [UDef] [UTabs] in
theorem e_q56z (self_q56z : Ev.Term × (List (ByteArray × Bool)) × Int × Unit → Option (Int × Unit)) (n : Nat) (x) : evF Tryd.prog 196 TT M_q56z F_q56z (O_q56z self_q56z n) (L_q56z self_q56z n) a0g ⟨[], [], []⟩ [.tmp 6] C_q56z x = q56z_b self_q56z n x := by kernel_rfl
omit [UDef] in
theorem l1g (self_q56z : Ev.Term × (List (ByteArray × Bool)) × Int × Unit → Option (Int × Unit)) (h_q56z : Contract Tryd.prog 103 F_q56z self_q56z) (n : Nat) : Contract Tryd.prog 103 F_q56z (q56z_b self_q56z n) :=
 Contract.of_ev (c := C_q56z) (N := 196) Tryd.func103 (by kernel_rfl) (by kernel_rfl) (by kernel_rfl) (by kernel_rfl) (t0n self_q56z h_q56z n) a0b (.of (l := [(1, (lbody 1000 C_q56z 0))]) (by kernel_rfl) ⟨.head (a0f (t0n self_q56z h_q56z n) a0b (.of (l := []) (by kernel_rfl) trivial) (k1f self_q56z n)), trivial⟩) (e_q56z self_q56z n)
omit [UDef] in
theorem f1i : ∀ n, Contract Tryd.prog 103 F_q56z (q56z n)
 | 0 => fun _ _ h => by cases h
 | n + 1 => l1g _ (f1i n) n
noncomputable def C_q54z : Code := bodyOf Tryd.f73
noncomputable def M_q54z : List (Nat × ArgM) := [(103, ⟨[], [], [], true⟩)]
instance : DfOk M_q54z := .none rfl
noncomputable def O_q54z {ρ : Type} (n : Nat) : Orc ρ := a0d 103 F_q56z (q56z n) (orcNil)
omit [UDef] in
theorem i1n {ρ : Type} (n : Nat) : (O_q54z n : Orc ρ).ok Tryd.prog := a0a (by kernel_rfl) (f1i n) (a0e)
noncomputable def L_q54z {ρ : Type} (n : Nat) : LOrc ρ := a0c
omit [Tabs] [QuietD Tryd.prog] [UDef] [UTabs] in
theorem e_q54z (n : Nat) (x) : evF Tryd.prog 8 TT M_q54z F_q54z (O_q54z n) (L_q54z n) a0g ⟨[], [], []⟩ [.tmp 4] C_q54z x = q54z n x := by kernel_rfl
omit [UDef] in
theorem n1u (n : Nat) : Contract Tryd.prog 73 F_q54z (q54z n) :=
 Contract.of_ev (c := C_q54z) (N := 8) Tryd.func73 (by kernel_rfl) (by kernel_rfl) (by kernel_rfl) (by kernel_rfl) (i1n n) a0b (.of (l := []) (by kernel_rfl) trivial) (e_q54z n)
noncomputable def C_q42z : Code := bodyOf Tryd.f39
noncomputable def M_q42z : List (Nat × ArgM) := [(71, ⟨[], [], [], true⟩), (53, ⟨[], [], [], true⟩), (73, ⟨[], [], [], true⟩), (74, ⟨[], [], [], true⟩)]
instance : DfOk M_q42z := .none rfl
noncomputable def O_q42z {ρ : Type} (n : Nat) : Orc ρ := a0d 71 e0b (a0y n) (a0d 53 F_q53z (q53z n) (a0d 72 F_q43z (q43z n) (a0d 73 F_q54z (q54z n) (a0d 74 F_q7z (q7z n) (orcNil)))))
omit [UDef] in
theorem f0h {ρ : Type} (n : Nat) : (O_q42z n : Orc ρ).ok Tryd.prog := a0a (by kernel_rfl) (k0m n) (a0a (by kernel_rfl) (j0n n) (a0a (by kernel_rfl) (p1o n) (a0a (by kernel_rfl) (n1u n) (a0a (by kernel_rfl) (ok_q7z n) (a0e)))))
noncomputable def T_q42z_s0 : Tm := ⟨[(1, .ptr 1 0)], [(53, (.lst .dot)), (54, .i64), (55, .i64)], [(1, .box [.d .query])], []⟩
noncomputable def t0g : Tm := ⟨[(1, .ptr 1 0)], [], [(1, .box [.d .query])], []⟩
noncomputable def h0r : Tm := ⟨[], [(2, .i64)], [], []⟩
noncomputable def h1w {ρ : Type} (n : Nat) : LOrc ρ := a0c
omit [Tabs] [QuietD Tryd.prog] [UDef] [UTabs] in
theorem g1j {ρ : Type} (n : Nat) (rec : T_q42z_s0.den → Option ρ) kx kr s : dStep Tryd.prog 168 TT M_q42z (O_q42z n) (h1w n) a0g 0 (lbody 1000 C_q42z 0) T_q42z_s0 t0g h0r ⟨[], [], []⟩ rec kx kr s = s0m n rec kx kr s := by kernel_rfl
noncomputable def T_q42z_s2 : Tm := ⟨[(1, .ptr 1 0)], [(81, (.lst .arrow)), (82, .i64), (83, .i64)], [(1, .box [.d .query])], []⟩
noncomputable def w0e : Tm := ⟨[(1, .ptr 1 0)], [], [(1, .box [.d .query])], []⟩
noncomputable def i0r : Tm := ⟨[], [(2, .i64)], [], []⟩
noncomputable def h1u {ρ : Type} (n : Nat) : LOrc ρ := a0c
omit [Tabs] [QuietD Tryd.prog] [UDef] [UTabs] in
theorem d1r {ρ : Type} (n : Nat) (rec : T_q42z_s2.den → Option ρ) kx kr s : dStep Tryd.prog 168 TT M_q42z (O_q42z n) (h1u n) a0g 2 (lbody 1000 C_q42z 1) T_q42z_s2 w0e i0r ⟨[], [], []⟩ rec kx kr s = s0d n rec kx kr s := by kernel_rfl
noncomputable def T_q42z_s4 : Tm := ⟨[(1, .ptr 1 0)], [(7, (.map .str .bool)), (121, (.lst .term)), (122, .i64), (123, .i64)], [(1, .box [.d .query])], []⟩
noncomputable def u0n : Tm := ⟨[(1, .ptr 1 0)], [(7, (.map .str .bool))], [(1, .box [.d .query])], []⟩
noncomputable def h0i : Tm := ⟨[], [(2, .i64)], [], []⟩
noncomputable def i1s {ρ : Type} (n : Nat) : LOrc ρ := a0c
omit [Tabs] [QuietD Tryd.prog] [UDef] [UTabs] in
theorem f1g {ρ : Type} (n : Nat) (rec : T_q42z_s4.den → Option ρ) kx kr s : dStep Tryd.prog 168 TT M_q42z (O_q42z n) (i1s n) a0g 4 (lbody 1000 C_q42z 2) T_q42z_s4 u0n h0i ⟨[], [], []⟩ rec kx kr s = r0i n rec kx kr s := by kernel_rfl
noncomputable def T_q42z_s6 : Tm := ⟨[(12, .mpr 134)], [(7, (.map .str .bool)), (136, (.lst .item)), (137, .i64), (138, .i64)], [(134, .mp 140 .str .bool false)], []⟩
noncomputable def w0s : Tm := ⟨[], [], [], []⟩
noncomputable def h0s : Tm := ⟨[], [(2, .i64)], [], []⟩
noncomputable def i1r {ρ : Type} (n : Nat) : LOrc ρ := a0c
omit [Tabs] [QuietD Tryd.prog] [UDef] [UTabs] in
theorem f1l {ρ : Type} (n : Nat) (rec : T_q42z_s6.den → Option ρ) kx kr s : dStep Tryd.prog 168 TT M_q42z (O_q42z n) (i1r n) a0g 6 (lbody 1000 C_q42z 3) T_q42z_s6 w0s h0s ⟨[], [], []⟩ rec kx kr s = p0z n rec kx kr s := by kernel_rfl
noncomputable def L_q42z {ρ : Type} (n : Nat) : LOrc ρ := a0i 0 (loopL 168 0 n T_q42z_s0 t0g h0r ⟨[], [], []⟩ (s0m n)) (a0i 2 (loopL 168 2 n T_q42z_s2 w0e i0r ⟨[], [], []⟩ (s0d n)) (a0i 4 (loopL 168 4 n T_q42z_s4 u0n h0i ⟨[], [], []⟩ (r0i n)) (a0i 6 (loopL 168 6 n T_q42z_s6 w0s h0s ⟨[], [], []⟩ (p0z n)) (a0c))))
omit [Tabs] [QuietD Tryd.prog] [UDef] [UTabs] in
theorem e_q42z (n : Nat) (x) : evF Tryd.prog 168 TT M_q42z F_q42z (O_q42z n) (L_q42z n) a0g ⟨[], [], []⟩ [.tmp 2] C_q42z x = q42z n x := by kernel_rfl
omit [UDef] in
theorem o1y (n : Nat) : Contract Tryd.prog 39 F_q42z (q42z n) :=
 Contract.of_ev (c := C_q42z) (N := 168) Tryd.func39 (by kernel_rfl) (by kernel_rfl) (by kernel_rfl) (by kernel_rfl) (f0h n) a0b (.of (l := [(0, (lbody 1000 C_q42z 0)), (2, (lbody 1000 C_q42z 1)), (4, (lbody 1000 C_q42z 2)), (6, (lbody 1000 C_q42z 3))]) (by kernel_rfl) ⟨.head (a0f (f0h n) a0b (.of (l := []) (by kernel_rfl) trivial) (g1j n)), ⟨.tail rfl (.head (a0f (f0h n) a0b (.of (l := []) (by kernel_rfl) trivial) (d1r n))), ⟨.tail rfl (.tail rfl (.head (a0f (f0h n) a0b (.of (l := []) (by kernel_rfl) trivial) (f1g n)))), ⟨.tail rfl (.tail rfl (.tail rfl (.head (a0f (f0h n) a0b (.of (l := []) (by kernel_rfl) trivial) (f1l n))))), trivial⟩⟩⟩⟩) (e_q42z n)
noncomputable def F_q39z : FnT := ⟨1, ⟨[], [(0, .graph)], [], []⟩, [.v .i64], []⟩
noncomputable def F_q37z : FnT := ⟨1, ⟨[], [(0, (.lst .str))], [], []⟩, [.v .i64], []⟩
noncomputable def C_q37z : Code := bodyOf Tryd.f51
noncomputable def M_q37z : List (Nat × ArgM) := [(53, ⟨[], [], [], true⟩)]
instance : DfOk M_q37z := .none rfl
noncomputable def O_q37z {ρ : Type} (n : Nat) : Orc ρ := a0d 53 F_q53z (q53z n) (orcNil)
omit [UDef] [UTabs] in
theorem t0c {ρ : Type} (n : Nat) : (O_q37z n : Orc ρ).ok Tryd.prog := a0a (by kernel_rfl) (j0n n) (a0e)
noncomputable def T_q37z_s0 : Tm := ⟨[], [(0, (.lst .str)), (8, (.lst .str)), (9, .i64), (10, .i64)], [], []⟩
noncomputable def w0q : Tm := ⟨[], [], [], []⟩
noncomputable def l0u : Tm := ⟨[], [(2, .i64)], [], []⟩
noncomputable def j1m {ρ : Type} (n : Nat) : LOrc ρ := a0c
omit [Tabs] [QuietD Tryd.prog] [UDef] [UTabs] in
theorem f1t {ρ : Type} (n : Nat) (rec : T_q37z_s0.den → Option ρ) kx kr s : dStep Tryd.prog 32 TT M_q37z (O_q37z n) (j1m n) a0g 0 (lbody 1000 C_q37z 0) T_q37z_s0 w0q l0u ⟨[], [], []⟩ rec kx kr s = p0v n rec kx kr s := by kernel_rfl
noncomputable def L_q37z {ρ : Type} (n : Nat) : LOrc ρ := a0i 0 (loopL 32 0 n T_q37z_s0 w0q l0u ⟨[], [], []⟩ (p0v n)) (a0c)
omit [Tabs] [QuietD Tryd.prog] [UDef] [UTabs] in
theorem e_q37z (n : Nat) (x) : evF Tryd.prog 32 TT M_q37z F_q37z (O_q37z n) (L_q37z n) a0g ⟨[], [], []⟩ [.tmp 2] C_q37z x = q37z n x := by kernel_rfl
omit [UDef] [UTabs] in
theorem o1j (n : Nat) : Contract Tryd.prog 51 F_q37z (q37z n) :=
 Contract.of_ev (c := C_q37z) (N := 32) Tryd.func51 (by kernel_rfl) (by kernel_rfl) (by kernel_rfl) (by kernel_rfl) (t0c n) a0b (.of (l := [(0, (lbody 1000 C_q37z 0))]) (by kernel_rfl) ⟨.head (a0f (t0c n) a0b (.of (l := []) (by kernel_rfl) trivial) (f1t n)), trivial⟩) (e_q37z n)
noncomputable def F_q40z : FnT := ⟨1, ⟨[], [(0, (.lst .prp))], [], []⟩, [.v .i64], []⟩
noncomputable def C_q40z : Code := bodyOf Tryd.f52
noncomputable def M_q40z : List (Nat × ArgM) := [(53, ⟨[], [], [], true⟩), (64, ⟨[], [], [], true⟩)]
instance : DfOk M_q40z := .none rfl
noncomputable def O_q40z {ρ : Type} (n : Nat) : Orc ρ := a0d 53 F_q53z (q53z n) (a0d 64 F_q46z (q46z n) (orcNil))
omit [UDef] in
theorem h0x {ρ : Type} (n : Nat) : (O_q40z n : Orc ρ).ok Tryd.prog := a0a (by kernel_rfl) (j0n n) (a0a (by kernel_rfl) (x0f n) (a0e))
noncomputable def T_q40z_s0 : Tm := ⟨[], [(0, (.lst .prp)), (9, (.lst .prp)), (10, .i64), (11, .i64)], [], []⟩
noncomputable def u0y : Tm := ⟨[], [], [], []⟩
noncomputable def l0o : Tm := ⟨[], [(2, .i64)], [], []⟩
noncomputable def f1p {ρ : Type} (n : Nat) : LOrc ρ := a0c
omit [Tabs] [QuietD Tryd.prog] [UDef] [UTabs] in
theorem e1o {ρ : Type} (n : Nat) (rec : T_q40z_s0.den → Option ρ) kx kr s : dStep Tryd.prog 48 TT M_q40z (O_q40z n) (f1p n) (evDraw Tryd.prog 48 TT M_q40z (O_q40z n)) 0 (lbody 1000 C_q40z 0) T_q40z_s0 u0y l0o ⟨[], [], []⟩ rec kx kr s = p0q n rec kx kr s := by kernel_rfl
noncomputable def L_q40z {ρ : Type} (n : Nat) : LOrc ρ := a0i 0 (loopL 48 0 n T_q40z_s0 u0y l0o ⟨[], [], []⟩ (p0q n)) (a0c)
omit [Tabs] [QuietD Tryd.prog] [UDef] [UTabs] in
theorem e_q40z (n : Nat) (x) : evF Tryd.prog 48 TT M_q40z F_q40z (O_q40z n) (L_q40z n) (evDraw Tryd.prog 48 TT M_q40z (O_q40z n)) ⟨[], [], []⟩ [.tmp 2] C_q40z x = q40z n x := by kernel_rfl
omit [UDef] in
theorem n1w (n : Nat) : Contract Tryd.prog 52 F_q40z (q40z n) :=
 Contract.of_ev (c := C_q40z) (N := 48) Tryd.func52 (by kernel_rfl) (by kernel_rfl) (by kernel_rfl) (by kernel_rfl) (h0x n) (a0j (h0x n) (by kernel_rfl)) (.of (l := [(0, (lbody 1000 C_q40z 0))]) (by kernel_rfl) ⟨.head (a0f (h0x n) (a0j (h0x n) (by kernel_rfl)) (.of (l := []) (by kernel_rfl) trivial) (e1o n)), trivial⟩) (e_q40z n)
noncomputable def F_q21z : FnT := ⟨1, ⟨[], [(0, (.lst .i64))], [], []⟩, [.v .i64], []⟩
noncomputable def C_q21z : Code := bodyOf Tryd.f50
noncomputable def M_q21z : List (Nat × ArgM) := []
instance : DfOk M_q21z := .none rfl
noncomputable def O_q21z {ρ : Type} (n : Nat) : Orc ρ := orcNil
omit [QuietD Tryd.prog] [UDef] [UTabs] in
theorem w0a {ρ : Type} (n : Nat) : (O_q21z n : Orc ρ).ok Tryd.prog := a0e
noncomputable def T_q21z_s0 : Tm := ⟨[], [(3, .i64), (6, (.lst .i64)), (7, .i64), (8, .i64)], [], []⟩
noncomputable def t0h : Tm := ⟨[], [(3, .i64)], [], []⟩
noncomputable def n0m : Tm := ⟨[], [(2, .i64)], [], []⟩
noncomputable def g1y {ρ : Type} (n : Nat) : LOrc ρ := a0c
omit [Tabs] [QuietD Tryd.prog] [UDef] [UTabs] in
theorem e1m {ρ : Type} (n : Nat) (rec : T_q21z_s0.den → Option ρ) kx kr s : dStep Tryd.prog 18 TT M_q21z (O_q21z n) (g1y n) a0g 0 (lbody 1000 C_q21z 0) T_q21z_s0 t0h n0m ⟨[], [], []⟩ rec kx kr s = e0o n rec kx kr s := by kernel_rfl
noncomputable def L_q21z {ρ : Type} (n : Nat) : LOrc ρ := a0i 0 (loopL 18 0 n T_q21z_s0 t0h n0m ⟨[], [], []⟩ (e0o n)) (a0c)
omit [Tabs] [QuietD Tryd.prog] [UDef] [UTabs] in
theorem e_q21z (n : Nat) (x) : evF Tryd.prog 18 TT M_q21z F_q21z (O_q21z n) (L_q21z n) a0g ⟨[], [], []⟩ [.tmp 2] C_q21z x = q21z n x := by kernel_rfl
omit [UDef] [UTabs] in
theorem p1f (n : Nat) : Contract Tryd.prog 50 F_q21z (q21z n) :=
 Contract.of_ev (c := C_q21z) (N := 18) Tryd.func50 (by kernel_rfl) (by kernel_rfl) (by kernel_rfl) (by kernel_rfl) (w0a n) a0b (.of (l := [(0, (lbody 1000 C_q21z 0))]) (by kernel_rfl) ⟨.head (a0f (w0a n) a0b (.of (l := []) (by kernel_rfl) trivial) (e1m n)), trivial⟩) (e_q21z n)
noncomputable def F_q52z : FnT := ⟨2, ⟨[], [(0, .graph), (1, .i64)], [], []⟩, [.v .i64], []⟩
noncomputable def F_q2z : FnT := ⟨3, ⟨[(2, .fn 55)], [(0, (.lst .node)), (1, .i64)], [], []⟩, [.v .i64, .v .bool], []⟩
noncomputable def F_q36z : FnT := ⟨2, ⟨[], [(0, .node), (1, .i64)], [], []⟩, [.v .i64], []⟩
noncomputable def F_q25z : FnT := ⟨2, ⟨[], [(0, .i64), (1, .i64)], [], []⟩, [.v .i64], []⟩
noncomputable def F_q33z : FnT := ⟨1, ⟨[], [(0, .i64)], [], []⟩, [.v .bool], []⟩
noncomputable def C_q33z : Code := bodyOf Tryd.f77
noncomputable def M_q33z : List (Nat × ArgM) := []
instance : DfOk M_q33z := .none rfl
noncomputable def O_q33z {ρ : Type} : Orc ρ := orcNil
omit [QuietD Tryd.prog] [UDef] [UTabs] in
theorem g1v {ρ : Type} : (O_q33z : Orc ρ).ok Tryd.prog := a0e
noncomputable def L_q33z {ρ : Type} : LOrc ρ := a0c
omit [Tabs] [QuietD Tryd.prog] [UDef] [UTabs] in
theorem e_q33z (x) : evF Tryd.prog 6 TT M_q33z F_q33z (O_q33z) (L_q33z) a0g ⟨[], [], []⟩ [.tmp 2] C_q33z x = q33z x := by kernel_rfl
omit [UDef] [UTabs] in
theorem p1m : Contract Tryd.prog 77 F_q33z (q33z) :=
 Contract.of_ev (c := C_q33z) (N := 6) Tryd.func77 (by kernel_rfl) (by kernel_rfl) (by kernel_rfl) (by kernel_rfl) (g1v) a0b (.of (l := []) (by kernel_rfl) trivial) (e_q33z)
noncomputable def C_q25z : Code := bodyOf Tryd.f49
noncomputable def M_q25z : List (Nat × ArgM) := [(77, ⟨[], [], [], true⟩)]
instance : DfOk M_q25z := .none rfl
noncomputable def O_q25z {ρ : Type} : Orc ρ := a0d 77 F_q33z (q33z) (orcNil)
omit [UDef] [UTabs] in
theorem h1e {ρ : Type} : (O_q25z : Orc ρ).ok Tryd.prog := a0a (by kernel_rfl) (p1m) (a0e)
noncomputable def L_q25z {ρ : Type} : LOrc ρ := a0c
omit [Tabs] [QuietD Tryd.prog] [UDef] [UTabs] in
theorem e_q25z (x) : evF Tryd.prog 20 TT M_q25z F_q25z (O_q25z) (L_q25z) a0g ⟨[], [], []⟩ [.tmp 4] C_q25z x = q25z x := by kernel_rfl
omit [UDef] [UTabs] in
theorem q0h : Contract Tryd.prog 49 F_q25z (q25z) :=
 Contract.of_ev (c := C_q25z) (N := 20) Tryd.func49 (by kernel_rfl) (by kernel_rfl) (by kernel_rfl) (by kernel_rfl) (h1e) a0b (.of (l := []) (by kernel_rfl) trivial) (e_q25z)
noncomputable def C_q36z : Code := bodyOf Tryd.f55
noncomputable def M_q36z : List (Nat × ArgM) := [(49, ⟨[], [], [], true⟩)]
instance : DfOk M_q36z := .none rfl
noncomputable def O_q36z {ρ : Type} : Orc ρ := a0d 49 F_q25z (q25z) (orcNil)
omit [UDef] [UTabs] in
theorem f1c {ρ : Type} : (O_q36z : Orc ρ).ok Tryd.prog := a0a (by kernel_rfl) (q0h) (a0e)
noncomputable def L_q36z {ρ : Type} : LOrc ρ := a0c
omit [Tabs] [QuietD Tryd.prog] [UDef] [UTabs] in
theorem e_q36z (x) : evF Tryd.prog 9 TT M_q36z F_q36z (O_q36z) (L_q36z) a0g ⟨[], [], []⟩ [.tmp 4] C_q36z x = q36z x := by kernel_rfl
omit [UDef] [UTabs] in
theorem n1r : Contract Tryd.prog 55 F_q36z (q36z) :=
 Contract.of_ev (c := C_q36z) (N := 9) Tryd.func55 (by kernel_rfl) (by kernel_rfl) (by kernel_rfl) (by kernel_rfl) (f1c) a0b (.of (l := []) (by kernel_rfl) trivial) (e_q36z)
noncomputable def C_q2z : Code := bodyOf Tryd.f54
noncomputable def M_q2z : List (Nat × ArgM) := [(55, ⟨[], [], [], true⟩)]
instance : DfOk M_q2z := .none rfl
noncomputable def O_q2z {ρ : Type} (n : Nat) : Orc ρ := a0d 55 F_q36z (q36z) (orcNil)
omit [UDef] [UTabs] in
theorem a1s {ρ : Type} (n : Nat) : (O_q2z n : Orc ρ).ok Tryd.prog := a0a (by kernel_rfl) (n1r) (a0e)
noncomputable def T_q2z_s0 : Tm := ⟨[(2, .fn 55)], [(0, (.lst .node)), (1, .i64), (8, .i64), (9, .i64), (10, .i64)], [], []⟩
noncomputable def a1k : Tm := ⟨[(2, .fn 55)], [(0, (.lst .node)), (1, .i64), (8, .i64), (9, .i64)], [], []⟩
noncomputable def b1u : Tm := ⟨[], [], [], []⟩
noncomputable def k1v {ρ : Type} (n : Nat) : LOrc ρ := a0c
omit [Tabs] [QuietD Tryd.prog] [UDef] [UTabs] in
theorem l1k {ρ : Type} (n : Nat) (rec : T_q2z_s0.den → Option ρ) kx kr s : dStep Tryd.prog 49 TT M_q2z (O_q2z n) (k1v n) a0g 0 (lbody 1000 C_q2z 0) T_q2z_s0 a1k b1u ⟨[], [], []⟩ rec kx kr s = q2z_s0 n rec kx kr s := by kernel_rfl
noncomputable def L_q2z {ρ : Type} (n : Nat) : LOrc ρ := a0i 0 (loopL 49 0 n T_q2z_s0 a1k b1u ⟨[], [], []⟩ (q2z_s0 n)) (a0c)
omit [Tabs] [QuietD Tryd.prog] [UDef] [UTabs] in
theorem e_q2z (n : Nat) (x) : evF Tryd.prog 49 TT M_q2z F_q2z (O_q2z n) (L_q2z n) a0g ⟨[], [], []⟩ [.tmp 6, .tmp 7] C_q2z x = q2z n x := by kernel_rfl
omit [UDef] [UTabs] in
theorem ok_q2z (n : Nat) : Contract Tryd.prog 54 F_q2z (q2z n) :=
 Contract.of_ev (c := C_q2z) (N := 49) Tryd.func54 (by kernel_rfl) (by kernel_rfl) (by kernel_rfl) (by kernel_rfl) (a1s n) a0b (.of (l := [(0, (lbody 1000 C_q2z 0))]) (by kernel_rfl) ⟨.head (a0f (a1s n) a0b (.of (l := []) (by kernel_rfl) trivial) (l1k n)), trivial⟩) (e_q2z n)
noncomputable def C_q52z : Code := bodyOf Tryd.f24
noncomputable def M_q52z : List (Nat × ArgM) := [(54, ⟨[], [], [], true⟩)]
instance : DfOk M_q52z := .none rfl
noncomputable def O_q52z {ρ : Type} (n : Nat) : Orc ρ := a0d 54 F_q2z (q2z n) (orcNil)
omit [UDef] [UTabs] in
theorem g1h {ρ : Type} (n : Nat) : (O_q52z n : Orc ρ).ok Tryd.prog := a0a (by kernel_rfl) (ok_q2z n) (a0e)
noncomputable def L_q52z {ρ : Type} (n : Nat) : LOrc ρ := a0c
omit [Tabs] [QuietD Tryd.prog] [UDef] [UTabs] in
theorem e_q52z (n : Nat) (x) : evF Tryd.prog 17 TT M_q52z F_q52z (O_q52z n) (L_q52z n) a0g ⟨[], [], []⟩ [.tmp 4] C_q52z x = q52z n x := by kernel_rfl
omit [UDef] [UTabs] in
theorem d1t (n : Nat) : Contract Tryd.prog 24 F_q52z (q52z n) :=
 Contract.of_ev (c := C_q52z) (N := 17) Tryd.func24 (by kernel_rfl) (by kernel_rfl) (by kernel_rfl) (by kernel_rfl) (g1h n) a0b (.of (l := []) (by kernel_rfl) trivial) (e_q52z n)
noncomputable def C_q39z : Code := bodyOf Tryd.f17
noncomputable def M_q39z : List (Nat × ArgM) := [(51, ⟨[], [], [], true⟩), (52, ⟨[], [], [], true⟩), (50, ⟨[], [], [], true⟩), (24, ⟨[], [], [], true⟩), (53, ⟨[], [], [], true⟩)]
instance : DfOk M_q39z := .none rfl
noncomputable def O_q39z {ρ : Type} (n : Nat) : Orc ρ := a0d 51 F_q37z (q37z n) (a0d 52 F_q40z (q40z n) (a0d 50 F_q21z (q21z n) (a0d 24 F_q52z (q52z n) (a0d 53 F_q53z (q53z n) (orcNil)))))
omit [UDef] in
theorem d0s {ρ : Type} (n : Nat) : (O_q39z n : Orc ρ).ok Tryd.prog := a0a (by kernel_rfl) (o1j n) (a0a (by kernel_rfl) (n1w n) (a0a (by kernel_rfl) (p1f n) (a0a (by kernel_rfl) (d1t n) (a0a (by kernel_rfl) (j0n n) (a0e)))))
noncomputable def T_q39z_s0 : Tm := ⟨[(1, .ptr 1 0)], [(3, .i64), (22, (.lst .node)), (23, .i64), (24, .i64)], [(1, .box [.d .graph])], []⟩
noncomputable def u0s : Tm := ⟨[(1, .ptr 1 0)], [(3, .i64)], [(1, .box [.d .graph])], []⟩
noncomputable def l0z : Tm := ⟨[], [(2, .i64)], [], []⟩
noncomputable def g1d {ρ : Type} (n : Nat) : LOrc ρ := a0c
omit [Tabs] [QuietD Tryd.prog] [UDef] [UTabs] in
theorem j1g {ρ : Type} (n : Nat) (rec : T_q39z_s0.den → Option ρ) kx kr s : dStep Tryd.prog 103 TT M_q39z (O_q39z n) (g1d n) (evDraw Tryd.prog 103 TT M_q39z (O_q39z n)) 0 (lbody 1000 C_q39z 0) T_q39z_s0 u0s l0z ⟨[], [], []⟩ rec kx kr s = r0v n rec kx kr s := by kernel_rfl
noncomputable def T_q39z_s2 : Tm := ⟨[(1, .ptr 1 0)], [(3, .i64), (7, .i64), (48, (.lst .edg)), (49, .i64), (50, .i64)], [(1, .box [.d .graph])], []⟩
noncomputable def v0f : Tm := ⟨[(1, .ptr 1 0)], [(3, .i64), (7, .i64)], [(1, .box [.d .graph])], []⟩
noncomputable def l0j : Tm := ⟨[], [(2, .i64)], [], []⟩
noncomputable def j1o {ρ : Type} (n : Nat) : LOrc ρ := a0c
omit [Tabs] [QuietD Tryd.prog] [UDef] [UTabs] in
theorem h1a {ρ : Type} (n : Nat) (rec : T_q39z_s2.den → Option ρ) kx kr s : dStep Tryd.prog 103 TT M_q39z (O_q39z n) (j1o n) (evDraw Tryd.prog 103 TT M_q39z (O_q39z n)) 2 (lbody 1000 C_q39z 1) T_q39z_s2 v0f l0j ⟨[], [], []⟩ rec kx kr s = r0d n rec kx kr s := by kernel_rfl
noncomputable def L_q39z {ρ : Type} (n : Nat) : LOrc ρ := a0i 0 (loopL 103 0 n T_q39z_s0 u0s l0z ⟨[], [], []⟩ (r0v n)) (a0i 2 (loopL 103 2 n T_q39z_s2 v0f l0j ⟨[], [], []⟩ (r0d n)) (a0c))
omit [Tabs] [QuietD Tryd.prog] [UDef] [UTabs] in
theorem e_q39z (n : Nat) (x) : evF Tryd.prog 103 TT M_q39z F_q39z (O_q39z n) (L_q39z n) (evDraw Tryd.prog 103 TT M_q39z (O_q39z n)) ⟨[], [], []⟩ [.tmp 2] C_q39z x = q39z n x := by kernel_rfl
omit [UDef] in
theorem n1q (n : Nat) : Contract Tryd.prog 17 F_q39z (q39z n) :=
 Contract.of_ev (c := C_q39z) (N := 103) Tryd.func17 (by kernel_rfl) (by kernel_rfl) (by kernel_rfl) (by kernel_rfl) (d0s n) (a0j (d0s n) (by kernel_rfl)) (.of (l := [(0, (lbody 1000 C_q39z 0)), (2, (lbody 1000 C_q39z 1))]) (by kernel_rfl) ⟨.head (a0f (d0s n) (a0j (d0s n) (by kernel_rfl)) (.of (l := []) (by kernel_rfl) trivial) (j1g n)), ⟨.tail rfl (.head (a0f (d0s n) (a0j (d0s n) (by kernel_rfl)) (.of (l := []) (by kernel_rfl) trivial) (h1a n))), trivial⟩⟩) (e_q39z n)
noncomputable def g0k : FnT := ⟨2, ⟨[], [(0, .graph), (1, .str)], [], []⟩, [.v (.map .pair .bool)], []⟩
noncomputable def F_q9z : FnT := ⟨1, ⟨[], [(0, (.lst .i64))], [], []⟩, [.ref (.own 5)], [(5, .arr 3 .i64)]⟩
noncomputable def C_q9z : Code := bodyOf Tryd.f43
noncomputable def M_q9z : List (Nat × ArgM) := []
instance : DfOk M_q9z := .none rfl
noncomputable def O_q9z {ρ : Type} : Orc ρ := orcNil
omit [QuietD Tryd.prog] [UDef] [UTabs] in
theorem k1s {ρ : Type} : (O_q9z : Orc ρ).ok Tryd.prog := a0e
noncomputable def L_q9z {ρ : Type} : LOrc ρ := a0c
omit [Tabs] [QuietD Tryd.prog] [UDef] [UTabs] in
theorem e_q9z (x) : evF Tryd.prog 8 TT M_q9z F_q9z (O_q9z) (L_q9z) a0g ⟨[], [(2, 5, 3, 1)], []⟩ [.tmp 2] C_q9z x = q9z x := by kernel_rfl
omit [UDef] [UTabs] in
theorem ok_q9z : Contract Tryd.prog 43 F_q9z (q9z) :=
 Contract.of_ev (c := C_q9z) (N := 8) Tryd.func43 (by kernel_rfl) (by kernel_rfl) (by kernel_rfl) (by kernel_rfl) (k1s) a0b (.of (l := []) (by kernel_rfl) trivial) (e_q9z)
noncomputable def c0a : Code := bodyOf Tryd.f20
noncomputable def e0p : List (Nat × ArgM) := [(999999999, ⟨[1], [], [], false⟩), (43, ⟨[], [], [5], false⟩)]
instance : DfOk e0p := .none rfl
noncomputable def e0q {ρ : Type} (n : Nat) : Orc ρ := a0d 35 F_next (nextN) (a0d 43 F_q9z (q9z) (orcNil))
omit [UDef] [UTabs] in
theorem d0j {ρ : Type} (n : Nat) : (e0q n : Orc ρ).ok Tryd.prog := a0a (by kernel_rfl) (k1k) (a0a (by kernel_rfl) (ok_q9z) (a0e))
noncomputable def T_reach_Set_s2 : Tm := ⟨[(6, .mpr 15), (8, .ptr 8 0), (9, .own 27)], [(5, (.map .i64 (.lst .i64))), (17, (.lst .node)), (18, .i64), (19, .i64)], [(8, .box [.d .node]), (15, .mp 75 .pair .bool false), (27, .arr 3 .i64)], []⟩
noncomputable def f0v : Tm := ⟨[(6, .mpr 15)], [(5, (.map .i64 (.lst .i64))), (17, (.lst .node)), (18, .i64), (19, .i64)], [(15, .mp 75 .pair .bool false)], []⟩
noncomputable def f0x : Tm := ⟨[], [], [], []⟩
noncomputable def o0b {ρ : Type} (n : Nat) : LOrc ρ := a0c
omit [Tabs] [QuietD Tryd.prog] [UDef] [UTabs] in
theorem n0x {ρ : Type} (n : Nat) (rec : T_reach_Set_s2.den → Option ρ) kx kr s : dStep Tryd.prog 59 TT e0p (e0q n) (o0b n) a0g 2 (lbody 0 (lbody 1000 c0a 0) 0) T_reach_Set_s2 f0v f0x ⟨[], [(9, 9, 3, 1)], []⟩ rec kx kr s = c0g n rec kx kr s := by kernel_rfl
noncomputable def T_reach_Set_s0 : Tm := ⟨[(6, .mpr 15)], [(5, (.map .i64 (.lst .i64))), (17, (.lst .node)), (18, .i64), (19, .i64)], [(15, .mp 75 .pair .bool false)], []⟩
noncomputable def f0z : Tm := ⟨[(6, .mpr 15)], [], [(15, .mp 75 .pair .bool false)], []⟩
noncomputable def f0y : Tm := ⟨[], [], [], []⟩
noncomputable def o0h {ρ : Type} (n : Nat) : LOrc ρ := a0i 2 (loopL 59 2 n T_reach_Set_s2 f0v f0x ⟨[], [(9, 9, 3, 1)], []⟩ (c0g n)) (a0c)
omit [Tabs] [QuietD Tryd.prog] [UDef] [UTabs] in
theorem o0e {ρ : Type} (n : Nat) (rec : T_reach_Set_s0.den → Option ρ) kx kr s : dStep Tryd.prog 59 TT e0p (e0q n) (o0h n) a0g 0 (lbody 1000 c0a 0) T_reach_Set_s0 f0z f0y ⟨[], [], []⟩ rec kx kr s = b0h n rec kx kr s := by kernel_rfl
noncomputable def x0y {ρ : Type} (n : Nat) : LOrc ρ := a0i 0 (loopL 59 0 n T_reach_Set_s0 f0z f0y ⟨[], [], []⟩ (b0h n)) (a0c)
omit [Tabs] [QuietD Tryd.prog] [UDef] [UTabs] in
theorem y0q (n : Nat) (x) : evF Tryd.prog 59 TT e0p g0k (e0q n) (x0y n) a0g ⟨[], [], []⟩ [.tmp 4] c0a x = b0t n x := by kernel_rfl
omit [UDef] [UTabs] in
theorem t0s (n : Nat) : Contract Tryd.prog 20 g0k (b0t n) :=
 Contract.of_ev (c := c0a) (N := 59) Tryd.func20 (by kernel_rfl) (by kernel_rfl) (by kernel_rfl) (by kernel_rfl) (d0j n) a0b (.of (l := [(0, (lbody 1000 c0a 0))]) (by kernel_rfl) ⟨.head (a0f (d0j n) a0b (.of (l := [(2, (lbody 0 (lbody 1000 c0a 0) 0))]) (by kernel_rfl) ⟨.head (a0f (d0j n) a0b (.of (l := []) (by kernel_rfl) trivial) (n0x n)), trivial⟩) (o0e n)), trivial⟩) (y0q n)
noncomputable def g0l : FnT := ⟨2, ⟨[], [(0, .query), (1, .graph)], [], []⟩, [.ref (.ptr 12 0)], [(12, .box [.d .query, .d .graph, .d (.lst (.map .pair .bool))])]⟩
noncomputable def e0n : Code := bodyOf Tryd.f40
noncomputable def g0n : List (Nat × ArgM) := [(999999999, ⟨[1], [], [], false⟩)]
instance : DfOk g0n := .none rfl
noncomputable def g0f {ρ : Type} (n : Nat) : Orc ρ := a0d 20 g0k (b0t n) (orcNil)
omit [UDef] [UTabs] in
theorem g0c {ρ : Type} (n : Nat) : (g0f n : Orc ρ).ok Tryd.prog := a0a (by kernel_rfl) (t0s n) (a0e)
noncomputable def T_match_New_s0 : Tm := ⟨[(3, .ptr 3 0), (5, .ptr 12 0)], [(14, (.lst .arrow)), (15, .i64), (16, .i64)], [(3, .box [.d .graph]), (12, .box [.d .query, .d .graph, .ref (.own 300488)]), (300488, .arr 75 (.map .pair .bool))], []⟩
noncomputable def f0w : Tm := ⟨[(5, .ptr 12 0)], [], [(12, .box [.d .query, .d .graph, .ref (.own 300488)]), (300488, .arr 75 (.map .pair .bool))], []⟩
noncomputable def c0d : Tm := ⟨[], [], [], []⟩
noncomputable def n0w {ρ : Type} (n : Nat) : LOrc ρ := a0c
omit [Tabs] [QuietD Tryd.prog] [UDef] [UTabs] in
theorem o0f {ρ : Type} (n : Nat) (rec : T_match_New_s0.den → Option ρ) kx kr s : dStep Tryd.prog 38 TT g0n (g0f n) (n0w n) a0g 0 (lbody 1000 e0n 0) T_match_New_s0 f0w c0d ⟨[], [], [(12, 8, 300488, 75, 1)]⟩ rec kx kr s = c0x n rec kx kr s := by kernel_rfl
noncomputable def x0j {ρ : Type} (n : Nat) : LOrc ρ := a0i 0 (loopL 38 0 n T_match_New_s0 f0w c0d ⟨[], [], [(12, 8, 300488, 75, 1)]⟩ (c0x n)) (a0c)
omit [Tabs] [QuietD Tryd.prog] [UDef] [UTabs] in
theorem y0t (n : Nat) (x) : evF Tryd.prog 38 TT g0n g0l (g0f n) (x0j n) a0g ⟨[], [], []⟩ [.tmp 4] e0n x = d0w n x := by kernel_rfl
omit [UDef] [UTabs] in
theorem w0c (n : Nat) : Contract Tryd.prog 40 g0l (d0w n) :=
 Contract.of_ev (c := e0n) (N := 38) Tryd.func40 (by kernel_rfl) (by kernel_rfl) (by kernel_rfl) (by kernel_rfl) (g0c n) a0b (.of (l := [(0, (lbody 1000 e0n 0))]) (by kernel_rfl) ⟨.head (a0f (g0c n) a0b (.of (l := []) (by kernel_rfl) trivial) (o0f n)), trivial⟩) (y0t n)
noncomputable def F_q5z : FnT := ⟨2, ⟨[(0, .ptr 1000000 0), (1, .clo 42 [1000016, 1000018])], [], [(1000000, .box [.d .query, .d .graph, .d (.lst (.map .pair .bool))]), (1000016, .box [.ref (.own 1000017)]), (1000017, .arr 33 (.lst .i64)), (1000018, .box [.d .bool])], []⟩, [], [(1000000, .box [.d .query, .d .graph, .d (.lst (.map .pair .bool))]), (1000016, .box [.ref (.own 1000017)]), (1000017, .arr 33 (.lst .i64)), (1000018, .box [.d .bool])]⟩
noncomputable def F_q6z : FnT := ⟨4, ⟨[(0, .ptr 1000000 0), (2, .own 2000016), (3, .clo 42 [1000032, 1000034])], [(1, .i64)], [(1000000, .box [.d .query, .d .graph, .d (.lst (.map .pair .bool))]), (2000016, .arr 3 .i64), (1000032, .box [.ref (.own 1000033)]), (1000033, .arr 33 (.lst .i64)), (1000034, .box [.d .bool])], []⟩, [], [(1000000, .box [.d .query, .d .graph, .d (.lst (.map .pair .bool))]), (2000016, .arr 3 .i64), (1000032, .box [.ref (.own 1000033)]), (1000033, .arr 33 (.lst .i64)), (1000034, .box [.d .bool])]⟩
noncomputable def F_q20z : FnT := ⟨2, ⟨[(0, .ptr 1000000 0), (1, .own 2000016)], [], [(1000000, .box [.d .query, .d .graph, .d (.lst (.map .pair .bool))]), (2000016, .arr 3 .i64)], []⟩, [.v .envr], [(1000000, .box [.d .query, .d .graph, .d (.lst (.map .pair .bool))]), (2000016, .arr 3 .i64)]⟩
noncomputable def C_q20z : Code := bodyOf Tryd.f105
noncomputable def M_q20z : List (Nat × ArgM) := [(999999999, ⟨[1], [], [], false⟩)]
instance : DfOk M_q20z := .none rfl
noncomputable def O_q20z {ρ : Type} (n : Nat) : Orc ρ := orcNil
omit [QuietD Tryd.prog] [UDef] [UTabs] in
theorem d0m {ρ : Type} (n : Nat) : (O_q20z n : Orc ρ).ok Tryd.prog := a0e
noncomputable def T_q20z_s0 : Tm := ⟨[(0, .ptr 1000000 0), (1, .own 2000016), (4, .ptr 4 0), (5, .mpr 10)], [(15, (.lst .dot)), (16, .i64), (17, .i64)], [(4, .box [.d .envr]), (10, .mp 181 .str .i64 false), (1000000, .box [.d .query, .d .graph, .d (.lst (.map .pair .bool))]), (2000016, .arr 3 .i64)], []⟩
noncomputable def u0b : Tm := ⟨[(0, .ptr 1000000 0), (1, .own 2000016), (4, .ptr 4 0), (5, .mpr 10)], [], [(4, .box [.d .envr]), (10, .mp 181 .str .i64 false), (1000000, .box [.d .query, .d .graph, .d (.lst (.map .pair .bool))]), (2000016, .arr 3 .i64)], []⟩
noncomputable def j0a : Tm := ⟨[], [], [], []⟩
noncomputable def g1r {ρ : Type} (n : Nat) : LOrc ρ := a0c
omit [Tabs] [QuietD Tryd.prog] [UDef] [UTabs] in
theorem e1q {ρ : Type} (n : Nat) (rec : T_q20z_s0.den → Option ρ) kx kr s : dStep Tryd.prog 75 TT M_q20z (O_q20z n) (g1r n) (evDraw Tryd.prog 75 TT M_q20z (O_q20z n)) 0 (lbody 1000 C_q20z 0) T_q20z_s0 u0b j0a ⟨[], [], []⟩ rec kx kr s = s0p n rec kx kr s := by kernel_rfl
noncomputable def T_q20z_s2 : Tm := ⟨[(0, .ptr 1000000 0), (1, .own 2000016), (4, .ptr 4 0), (5, .mpr 10)], [(44, (.lst .arrow)), (45, .i64), (46, .i64)], [(4, .box [.d .envr]), (10, .mp 181 .str .i64 false), (1000000, .box [.d .query, .d .graph, .d (.lst (.map .pair .bool))]), (2000016, .arr 3 .i64)], []⟩
noncomputable def t0a : Tm := ⟨[(0, .ptr 1000000 0), (4, .ptr 4 0), (5, .mpr 10)], [], [(4, .box [.d .envr]), (10, .mp 181 .str .i64 false), (1000000, .box [.d .query, .d .graph, .d (.lst (.map .pair .bool))]), (2000016, .arr 3 .i64)], []⟩
noncomputable def i0d : Tm := ⟨[], [], [], []⟩
noncomputable def k1c {ρ : Type} (n : Nat) : LOrc ρ := a0c
omit [Tabs] [QuietD Tryd.prog] [UDef] [UTabs] in
theorem d1v {ρ : Type} (n : Nat) (rec : T_q20z_s2.den → Option ρ) kx kr s : dStep Tryd.prog 75 TT M_q20z (O_q20z n) (k1c n) (evDraw Tryd.prog 75 TT M_q20z (O_q20z n)) 2 (lbody 1000 C_q20z 1) T_q20z_s2 t0a i0d ⟨[], [], []⟩ rec kx kr s = p0u n rec kx kr s := by kernel_rfl
noncomputable def L_q20z {ρ : Type} (n : Nat) : LOrc ρ := a0i 0 (loopL 75 0 n T_q20z_s0 u0b j0a ⟨[], [], []⟩ (s0p n)) (a0i 2 (loopL 75 2 n T_q20z_s2 t0a i0d ⟨[], [], []⟩ (p0u n)) (a0c))
omit [Tabs] [QuietD Tryd.prog] [UDef] [UTabs] in
theorem e_q20z (n : Nat) (x) : evF Tryd.prog 75 TT M_q20z F_q20z (O_q20z n) (L_q20z n) (evDraw Tryd.prog 75 TT M_q20z (O_q20z n)) ⟨[], [], []⟩ [.cell 4 183] C_q20z x = q20z n x := by kernel_rfl
omit [UDef] [UTabs] in
theorem o1v (n : Nat) : Contract Tryd.prog 105 F_q20z (q20z n) :=
 Contract.of_ev (c := C_q20z) (N := 75) Tryd.func105 (by kernel_rfl) (by kernel_rfl) (by kernel_rfl) (by kernel_rfl) (d0m n) (a0j (d0m n) (by kernel_rfl)) (.of (l := [(0, (lbody 1000 C_q20z 0)), (2, (lbody 1000 C_q20z 1))]) (by kernel_rfl) ⟨.head (a0f (d0m n) (a0j (d0m n) (by kernel_rfl)) (.of (l := []) (by kernel_rfl) trivial) (e1q n)), ⟨.tail rfl (.head (a0f (d0m n) (a0j (d0m n) (by kernel_rfl)) (.of (l := []) (by kernel_rfl) trivial) (d1v n))), trivial⟩⟩) (e_q20z n)
noncomputable def F_q28z : FnT := ⟨2, ⟨[], [(0, .envr), (1, (.lst .term))], [], []⟩, [.v .bool], []⟩
noncomputable def F_q30z : FnT := ⟨2, ⟨[], [(0, .envr), (1, .term)], [], []⟩, [.v .val], []⟩
noncomputable def F_q59z : FnT := ⟨1, ⟨[], [(0, .val)], [], []⟩, [.v .val], []⟩
noncomputable def C_q59z : Code := bodyOf Tryd.f86
noncomputable def M_q59z : List (Nat × ArgM) := []
instance : DfOk M_q59z := .none rfl
noncomputable def O_q59z {ρ : Type} (self_q59z : Ev.Val × Unit → Option (Ev.Val × Unit)) (n : Nat) : Orc ρ := a0d 86 F_q59z (self_q59z) (orcNil)
omit [QuietD Tryd.prog] [UDef] [UTabs] in
theorem i0k {ρ : Type} (self_q59z : Ev.Val × Unit → Option (Ev.Val × Unit)) (h_q59z : Contract Tryd.prog 86 F_q59z self_q59z) (n : Nat) : (O_q59z self_q59z n : Orc ρ).ok Tryd.prog := a0a (by kernel_rfl) (h_q59z) (a0e)
noncomputable def T_q59z_s0 : Tm := ⟨[(1, .ptr 1 0), (2, .ptr 2 0)], [(9, (.lst .val)), (10, .i64), (11, .i64)], [(1, .box [.d .i64, .d .i64, .d .str, .ref (.own 300043)]), (2, .box [.d .val]), (300043, .arr 45 .val)], []⟩
noncomputable def t0k : Tm := ⟨[(1, .ptr 1 0), (2, .ptr 2 0)], [], [(1, .box [.d .i64, .d .i64, .d .str, .ref (.own 300043)]), (2, .box [.d .val]), (300043, .arr 45 .val)], []⟩
noncomputable def m0o : Tm := ⟨[], [], [], []⟩
noncomputable def f1q {ρ : Type} (self_q59z : Ev.Val × Unit → Option (Ev.Val × Unit)) (n : Nat) : LOrc ρ := a0c
omit [Tabs] [QuietD Tryd.prog] [UDef] [UTabs] in
theorem j1q {ρ : Type} (self_q59z : Ev.Val × Unit → Option (Ev.Val × Unit)) (n : Nat) (rec : T_q59z_s0.den → Option ρ) kx kr s : dStep Tryd.prog 24 TT M_q59z (O_q59z self_q59z n) (f1q self_q59z n) (evDraw Tryd.prog 24 TT M_q59z (O_q59z self_q59z n)) 0 (lbody 1000 C_q59z 0) T_q59z_s0 t0k m0o ⟨[], [], [(1, 3, 300043, 45, 4)]⟩ rec kx kr s = l0r self_q59z n rec kx kr s := by kernel_rfl
noncomputable def L_q59z {ρ : Type} (self_q59z : Ev.Val × Unit → Option (Ev.Val × Unit)) (n : Nat) : LOrc ρ := a0i 0 (loopL 24 0 n T_q59z_s0 t0k m0o ⟨[], [], [(1, 3, 300043, 45, 4)]⟩ (l0r self_q59z n)) (a0c)
omit [Tabs] [QuietD Tryd.prog] [UDef] [UTabs] in
theorem e_q59z (self_q59z : Ev.Val × Unit → Option (Ev.Val × Unit)) (n : Nat) (x) : evF Tryd.prog 24 TT M_q59z F_q59z (O_q59z self_q59z n) (L_q59z self_q59z n) (evDraw Tryd.prog 24 TT M_q59z (O_q59z self_q59z n)) ⟨[], [], []⟩ [.cell 2 45] C_q59z x = q59z_b self_q59z n x := by kernel_rfl
omit [UDef] [UTabs] in
theorem m1q (self_q59z : Ev.Val × Unit → Option (Ev.Val × Unit)) (h_q59z : Contract Tryd.prog 86 F_q59z self_q59z) (n : Nat) : Contract Tryd.prog 86 F_q59z (q59z_b self_q59z n) :=
 Contract.of_ev (c := C_q59z) (N := 24) Tryd.func86 (by kernel_rfl) (by kernel_rfl) (by kernel_rfl) (by kernel_rfl) (i0k self_q59z h_q59z n) (a0j (i0k self_q59z h_q59z n) (by kernel_rfl)) (.of (l := [(0, (lbody 1000 C_q59z 0))]) (by kernel_rfl) ⟨.head (a0f (i0k self_q59z h_q59z n) (a0j (i0k self_q59z h_q59z n) (by kernel_rfl)) (.of (l := []) (by kernel_rfl) trivial) (j1q self_q59z n)), trivial⟩) (e_q59z self_q59z n)
omit [UDef] [UTabs] in
theorem q0y : ∀ n, Contract Tryd.prog 86 F_q59z (q59z n)
 | 0 => fun _ _ h => by cases h
 | n + 1 => m1q _ (q0y n) n
noncomputable def F_q31z : FnT := ⟨3, ⟨[], [(0, .envr), (1, .i64), (2, .str)], [], []⟩, [.v .val], []⟩
noncomputable def g0x : FnT := ⟨2, ⟨[], [(0, (.lst .prp)), (1, .str)], [], []⟩, [.v .val], []⟩
noncomputable def e0c : Code := bodyOf Tryd.f141
noncomputable def g0o : List (Nat × ArgM) := []
instance : DfOk g0o := .none rfl
noncomputable def g0u {ρ : Type} (n : Nat) : Orc ρ := a0d 86 F_q59z (q59z n) (orcNil)
omit [UDef] [UTabs] in
theorem g0a {ρ : Type} (n : Nat) : (g0u n : Orc ρ).ok Tryd.prog := a0a (by kernel_rfl) (q0y n) (a0e)
noncomputable def T_graph_Get_s0 : Tm := ⟨[(4, .ptr 4 0)], [(1, .str), (7, (.lst .prp)), (8, .i64), (9, .i64)], [(4, .box [.d .val])], []⟩
noncomputable def f0u : Tm := ⟨[(4, .ptr 4 0)], [], [(4, .box [.d .val])], []⟩
noncomputable def d0g : Tm := ⟨[(4, .ptr 4 0)], [], [(4, .box [.d .val])], []⟩
noncomputable def o0g {ρ : Type} (n : Nat) : LOrc ρ := a0c
omit [Tabs] [QuietD Tryd.prog] [UDef] [UTabs] in
theorem n0y {ρ : Type} (n : Nat) (rec : T_graph_Get_s0.den → Option ρ) kx kr s : dStep Tryd.prog 22 TT g0o (g0u n) (o0g n) a0g 0 (lbody 1000 e0c 0) T_graph_Get_s0 f0u d0g ⟨[], [], []⟩ rec kx kr s = c0h n rec kx kr s := by kernel_rfl
noncomputable def x0t {ρ : Type} (n : Nat) : LOrc ρ := a0i 0 (loopL 22 0 n T_graph_Get_s0 f0u d0g ⟨[], [], []⟩ (c0h n)) (a0c)
omit [Tabs] [QuietD Tryd.prog] [UDef] [UTabs] in
theorem x0k (n : Nat) (x) : evF Tryd.prog 22 TT g0o g0x (g0u n) (x0t n) a0g ⟨[], [], []⟩ [.cell 4 45] e0c x = c0o n x := by kernel_rfl
omit [UDef] [UTabs] in
theorem v0l (n : Nat) : Contract Tryd.prog 141 g0x (c0o n) :=
 Contract.of_ev (c := e0c) (N := 22) Tryd.func141 (by kernel_rfl) (by kernel_rfl) (by kernel_rfl) (by kernel_rfl) (g0a n) a0b (.of (l := [(0, (lbody 1000 e0c 0))]) (by kernel_rfl) ⟨.head (a0f (g0a n) a0b (.of (l := []) (by kernel_rfl) trivial) (n0y n)), trivial⟩) (x0k n)
noncomputable def F_q29z : FnT := ⟨2, ⟨[], [(0, .graph), (1, .i64)], [], []⟩, [.v .i64], []⟩
noncomputable def F_q1z : FnT := ⟨3, ⟨[(2, .fn 81)], [(0, (.lst .edg)), (1, .i64)], [], []⟩, [.v .i64, .v .bool], []⟩
noncomputable def F_q24z : FnT := ⟨2, ⟨[], [(0, .edg), (1, .i64)], [], []⟩, [.v .i64], []⟩
noncomputable def C_q24z : Code := bodyOf Tryd.f81
noncomputable def M_q24z : List (Nat × ArgM) := [(49, ⟨[], [], [], true⟩)]
instance : DfOk M_q24z := .none rfl
noncomputable def O_q24z {ρ : Type} : Orc ρ := a0d 49 F_q25z (q25z) (orcNil)
omit [UDef] [UTabs] in
theorem j1t {ρ : Type} : (O_q24z : Orc ρ).ok Tryd.prog := a0a (by kernel_rfl) (q0h) (a0e)
noncomputable def L_q24z {ρ : Type} : LOrc ρ := a0c
omit [Tabs] [QuietD Tryd.prog] [UDef] [UTabs] in
theorem e_q24z (x) : evF Tryd.prog 9 TT M_q24z F_q24z (O_q24z) (L_q24z) a0g ⟨[], [], []⟩ [.tmp 4] C_q24z x = q24z x := by kernel_rfl
omit [UDef] [UTabs] in
theorem o1i : Contract Tryd.prog 81 F_q24z (q24z) :=
 Contract.of_ev (c := C_q24z) (N := 9) Tryd.func81 (by kernel_rfl) (by kernel_rfl) (by kernel_rfl) (by kernel_rfl) (j1t) a0b (.of (l := []) (by kernel_rfl) trivial) (e_q24z)
noncomputable def C_q1z : Code := bodyOf Tryd.f80
noncomputable def M_q1z : List (Nat × ArgM) := [(81, ⟨[], [], [], true⟩)]
instance : DfOk M_q1z := .none rfl
noncomputable def O_q1z {ρ : Type} (n : Nat) : Orc ρ := a0d 81 F_q24z (q24z) (orcNil)
omit [UDef] [UTabs] in
theorem c1d {ρ : Type} (n : Nat) : (O_q1z n : Orc ρ).ok Tryd.prog := a0a (by kernel_rfl) (o1i) (a0e)
noncomputable def T_q1z_s0 : Tm := ⟨[(2, .fn 81)], [(0, (.lst .edg)), (1, .i64), (8, .i64), (9, .i64), (10, .i64)], [], []⟩
noncomputable def z0y : Tm := ⟨[(2, .fn 81)], [(0, (.lst .edg)), (1, .i64), (8, .i64), (9, .i64)], [], []⟩
noncomputable def a1g : Tm := ⟨[], [], [], []⟩
noncomputable def l1n {ρ : Type} (n : Nat) : LOrc ρ := a0c
omit [Tabs] [QuietD Tryd.prog] [UDef] [UTabs] in
theorem l1j {ρ : Type} (n : Nat) (rec : T_q1z_s0.den → Option ρ) kx kr s : dStep Tryd.prog 49 TT M_q1z (O_q1z n) (l1n n) a0g 0 (lbody 1000 C_q1z 0) T_q1z_s0 z0y a1g ⟨[], [], []⟩ rec kx kr s = q1z_s0 n rec kx kr s := by kernel_rfl
noncomputable def L_q1z {ρ : Type} (n : Nat) : LOrc ρ := a0i 0 (loopL 49 0 n T_q1z_s0 z0y a1g ⟨[], [], []⟩ (q1z_s0 n)) (a0c)
omit [Tabs] [QuietD Tryd.prog] [UDef] [UTabs] in
theorem e_q1z (n : Nat) (x) : evF Tryd.prog 49 TT M_q1z F_q1z (O_q1z n) (L_q1z n) a0g ⟨[], [], []⟩ [.tmp 6, .tmp 7] C_q1z x = q1z n x := by kernel_rfl
omit [UDef] [UTabs] in
theorem ok_q1z (n : Nat) : Contract Tryd.prog 80 F_q1z (q1z n) :=
 Contract.of_ev (c := C_q1z) (N := 49) Tryd.func80 (by kernel_rfl) (by kernel_rfl) (by kernel_rfl) (by kernel_rfl) (c1d n) a0b (.of (l := [(0, (lbody 1000 C_q1z 0))]) (by kernel_rfl) ⟨.head (a0f (c1d n) a0b (.of (l := []) (by kernel_rfl) trivial) (l1j n)), trivial⟩) (e_q1z n)
noncomputable def C_q29z : Code := bodyOf Tryd.f62
noncomputable def M_q29z : List (Nat × ArgM) := [(80, ⟨[], [], [], true⟩)]
instance : DfOk M_q29z := .none rfl
noncomputable def O_q29z {ρ : Type} (n : Nat) : Orc ρ := a0d 80 F_q1z (q1z n) (orcNil)
omit [UDef] [UTabs] in
theorem j1s {ρ : Type} (n : Nat) : (O_q29z n : Orc ρ).ok Tryd.prog := a0a (by kernel_rfl) (ok_q1z n) (a0e)
noncomputable def L_q29z {ρ : Type} (n : Nat) : LOrc ρ := a0c
omit [Tabs] [QuietD Tryd.prog] [UDef] [UTabs] in
theorem e_q29z (n : Nat) (x) : evF Tryd.prog 17 TT M_q29z F_q29z (O_q29z n) (L_q29z n) a0g ⟨[], [], []⟩ [.tmp 4] C_q29z x = q29z n x := by kernel_rfl
omit [UDef] [UTabs] in
theorem i1q (n : Nat) : Contract Tryd.prog 62 F_q29z (q29z n) :=
 Contract.of_ev (c := C_q29z) (N := 17) Tryd.func62 (by kernel_rfl) (by kernel_rfl) (by kernel_rfl) (by kernel_rfl) (j1s n) a0b (.of (l := []) (by kernel_rfl) trivial) (e_q29z n)
noncomputable def C_q31z : Code := bodyOf Tryd.f137
noncomputable def M_q31z : List (Nat × ArgM) := [(24, ⟨[], [], [], true⟩), (62, ⟨[], [], [], true⟩)]
instance : DfOk M_q31z := .none rfl
noncomputable def O_q31z {ρ : Type} (n : Nat) : Orc ρ := a0d 24 F_q52z (q52z n) (a0d 141 g0x (c0o n) (a0d 62 F_q29z (q29z n) (orcNil)))
omit [UDef] [UTabs] in
theorem e1z {ρ : Type} (n : Nat) : (O_q31z n : Orc ρ).ok Tryd.prog := a0a (by kernel_rfl) (d1t n) (a0a (by kernel_rfl) (v0l n) (a0a (by kernel_rfl) (i1q n) (a0e)))
noncomputable def L_q31z {ρ : Type} (n : Nat) : LOrc ρ := a0c
omit [Tabs] [QuietD Tryd.prog] [UDef] [UTabs] in
theorem e_q31z (n : Nat) (x) : evF Tryd.prog 40 TT M_q31z F_q31z (O_q31z n) (L_q31z n) a0g ⟨[], [], []⟩ [.cell 6 45] C_q31z x = q31z n x := by kernel_rfl
omit [UDef] [UTabs] in
theorem o1f (n : Nat) : Contract Tryd.prog 137 F_q31z (q31z n) :=
 Contract.of_ev (c := C_q31z) (N := 40) Tryd.func137 (by kernel_rfl) (by kernel_rfl) (by kernel_rfl) (by kernel_rfl) (e1z n) a0b (.of (l := []) (by kernel_rfl) trivial) (e_q31z n)
noncomputable def F_q34z : FnT := ⟨3, ⟨[], [(0, .envr), (1, .term), (2, (.lst .val))], [], []⟩, [.v .val], []⟩
noncomputable def F_q38z : FnT := ⟨3, ⟨[], [(0, .str), (1, .val), (2, .val)], [], []⟩, [.v .val, .v .i64], []⟩
noncomputable def g0m : FnT := ⟨2, ⟨[], [(0, .i64), (1, .i64)], [], []⟩, [.v .i64, .v .bool], []⟩
noncomputable def l0b : Code := bodyOf Tryd.f148
noncomputable def l0c : List (Nat × ArgM) := []
instance : DfOk l0c := .none rfl
noncomputable def l0l {ρ : Type} : Orc ρ := orcNil
omit [QuietD Tryd.prog] [UDef] [UTabs] in
theorem o0d {ρ : Type} : (l0l : Orc ρ).ok Tryd.prog := a0e
noncomputable def y0u {ρ : Type} : LOrc ρ := a0c
omit [Tabs] [QuietD Tryd.prog] [UDef] [UTabs] in
theorem z0c (x) : evF Tryd.prog 17 TT l0c g0m (l0l) (y0u) a0g ⟨[], [], []⟩ [.tmp 4, .tmp 5] l0b x = d0x x := by kernel_rfl
omit [UDef] [UTabs] in
theorem w0u : Contract Tryd.prog 148 g0m (d0x) :=
 Contract.of_ev (c := l0b) (N := 17) Tryd.func148 (by kernel_rfl) (by kernel_rfl) (by kernel_rfl) (by kernel_rfl) (o0d) a0b (.of (l := []) (by kernel_rfl) trivial) (z0c)
noncomputable def F_q32z : FnT := ⟨1, ⟨[], [(0, .val)], [], []⟩, [.mix [.d .i64, .d .i64, .d .str, .ref (.own 300043)]], [(300043, .arr 45 .val)]⟩
noncomputable def C_q32z : Code := bodyOf Tryd.f86
noncomputable def M_q32z : List (Nat × ArgM) := []
instance : DfOk M_q32z := .none rfl
noncomputable def O_q32z {ρ : Type} (n : Nat) : Orc ρ := a0d 86 F_q59z (q59z n) (orcNil)
omit [UDef] [UTabs] in
theorem i0o {ρ : Type} (n : Nat) : (O_q32z n : Orc ρ).ok Tryd.prog := a0a (by kernel_rfl) (q0y n) (a0e)
noncomputable def T_q32z_s0 : Tm := ⟨[(1, .ptr 1 0), (2, .ptr 2 0)], [(9, (.lst .val)), (10, .i64), (11, .i64)], [(1, .box [.d .i64, .d .i64, .d .str, .ref (.own 300043)]), (2, .box [.d .val]), (300043, .arr 45 .val)], []⟩
noncomputable def s0x : Tm := ⟨[(1, .ptr 1 0), (2, .ptr 2 0)], [], [(1, .box [.d .i64, .d .i64, .d .str, .ref (.own 300043)]), (2, .box [.d .val]), (300043, .arr 45 .val)], []⟩
noncomputable def h0z : Tm := ⟨[], [], [], []⟩
noncomputable def e1n {ρ : Type} (n : Nat) : LOrc ρ := a0c
omit [Tabs] [QuietD Tryd.prog] [UDef] [UTabs] in
theorem e1y {ρ : Type} (n : Nat) (rec : T_q32z_s0.den → Option ρ) kx kr s : dStep Tryd.prog 24 TT M_q32z (O_q32z n) (e1n n) (evDraw Tryd.prog 24 TT M_q32z (O_q32z n)) 0 (lbody 1000 C_q32z 0) T_q32z_s0 s0x h0z ⟨[], [], [(1, 3, 300043, 45, 4)]⟩ rec kx kr s = r0p n rec kx kr s := by kernel_rfl
noncomputable def L_q32z {ρ : Type} (n : Nat) : LOrc ρ := a0i 0 (loopL 24 0 n T_q32z_s0 s0x h0z ⟨[], [], [(1, 3, 300043, 45, 4)]⟩ (r0p n)) (a0c)
omit [Tabs] [QuietD Tryd.prog] [UDef] [UTabs] in
theorem e_q32z (n : Nat) (x) : evF Tryd.prog 24 TT M_q32z F_q32z (O_q32z n) (L_q32z n) (evDraw Tryd.prog 24 TT M_q32z (O_q32z n)) ⟨[], [], []⟩ [.cell 2 45] C_q32z x = q32z n x := by kernel_rfl
omit [UDef] [UTabs] in
theorem o1k (n : Nat) : Contract Tryd.prog 86 F_q32z (q32z n) :=
 Contract.of_ev (c := C_q32z) (N := 24) Tryd.func86 (by kernel_rfl) (by kernel_rfl) (by kernel_rfl) (by kernel_rfl) (i0o n) (a0j (i0o n) (by kernel_rfl)) (.of (l := [(0, (lbody 1000 C_q32z 0))]) (by kernel_rfl) ⟨.head (a0f (i0o n) (a0j (i0o n) (by kernel_rfl)) (.of (l := []) (by kernel_rfl) trivial) (e1y n)), trivial⟩) (e_q32z n)
noncomputable def g0i : FnT := ⟨2, ⟨[], [(0, .i64), (1, .i64)], [], []⟩, [.v .i64, .v .bool], []⟩
noncomputable def m0a : Code := bodyOf Tryd.f149
noncomputable def l0d : List (Nat × ArgM) := []
instance : DfOk l0d := .none rfl
noncomputable def m0b {ρ : Type} : Orc ρ := orcNil
omit [QuietD Tryd.prog] [UDef] [UTabs] in
theorem n0z {ρ : Type} : (m0b : Orc ρ).ok Tryd.prog := a0e
noncomputable def z0m {ρ : Type} : LOrc ρ := a0c
omit [Tabs] [QuietD Tryd.prog] [UDef] [UTabs] in
theorem z0f (x) : evF Tryd.prog 17 TT l0d g0i (m0b) (z0m) a0g ⟨[], [], []⟩ [.tmp 4, .tmp 5] m0a x = d0v x := by kernel_rfl
omit [UDef] [UTabs] in
theorem w0w : Contract Tryd.prog 149 g0i (d0v) :=
 Contract.of_ev (c := m0a) (N := 17) Tryd.func149 (by kernel_rfl) (by kernel_rfl) (by kernel_rfl) (by kernel_rfl) (n0z) a0b (.of (l := []) (by kernel_rfl) trivial) (z0f)
noncomputable def g0g : FnT := ⟨2, ⟨[], [(0, .i64), (1, .i64)], [], []⟩, [.v .i64, .v .bool], []⟩
noncomputable def F_q49z : FnT := ⟨1, ⟨[], [(0, .i64)], [], []⟩, [.v .u64], []⟩
noncomputable def C_q49z : Code := bodyOf Tryd.f153
noncomputable def M_q49z : List (Nat × ArgM) := []
instance : DfOk M_q49z := .none rfl
noncomputable def O_q49z {ρ : Type} : Orc ρ := orcNil
omit [QuietD Tryd.prog] [UDef] [UTabs] in
theorem j1b {ρ : Type} : (O_q49z : Orc ρ).ok Tryd.prog := a0e
noncomputable def L_q49z {ρ : Type} : LOrc ρ := a0c
omit [Tabs] [QuietD Tryd.prog] [UDef] [UTabs] in
theorem e_q49z (x) : evF Tryd.prog 10 TT M_q49z F_q49z (O_q49z) (L_q49z) a0g ⟨[], [], []⟩ [.tmp 2] C_q49z x = q49z x := by kernel_rfl
omit [UDef] [UTabs] in
theorem p1h : Contract Tryd.prog 153 F_q49z (q49z) :=
 Contract.of_ev (c := C_q49z) (N := 10) Tryd.func153 (by kernel_rfl) (by kernel_rfl) (by kernel_rfl) (by kernel_rfl) (j1b) a0b (.of (l := []) (by kernel_rfl) trivial) (e_q49z)
noncomputable def F_q27z : FnT := ⟨2, ⟨[], [(0, .u64), (1, .u64)], [], []⟩, [.v .u64, .v .u64], []⟩
noncomputable def C_q27z : Code := bodyOf Tryd.f154
noncomputable def M_q27z : List (Nat × ArgM) := []
instance : DfOk M_q27z := .none rfl
noncomputable def O_q27z {ρ : Type} : Orc ρ := orcNil
omit [QuietD Tryd.prog] [UDef] [UTabs] in
theorem g1z {ρ : Type} : (O_q27z : Orc ρ).ok Tryd.prog := a0e
noncomputable def L_q27z {ρ : Type} : LOrc ρ := a0c
omit [Tabs] [QuietD Tryd.prog] [UDef] [UTabs] in
theorem e_q27z (x) : evF Tryd.prog 51 TT M_q27z F_q27z (O_q27z) (L_q27z) a0g ⟨[], [], []⟩ [.tmp 4, .tmp 5] C_q27z x = q27z x := by kernel_rfl
omit [UDef] [UTabs] in
theorem n1x : Contract Tryd.prog 154 F_q27z (q27z) :=
 Contract.of_ev (c := C_q27z) (N := 51) Tryd.func154 (by kernel_rfl) (by kernel_rfl) (by kernel_rfl) (by kernel_rfl) (g1z) a0b (.of (l := []) (by kernel_rfl) trivial) (e_q27z)
noncomputable def l0s : Code := bodyOf Tryd.f150
noncomputable def n0b : List (Nat × ArgM) := [(153, ⟨[], [], [], true⟩), (154, ⟨[], [], [], true⟩)]
instance : DfOk n0b := .none rfl
noncomputable def m0c {ρ : Type} : Orc ρ := a0d 153 F_q49z (q49z) (a0d 154 F_q27z (q27z) (orcNil))
omit [UDef] [UTabs] in
theorem o0i {ρ : Type} : (m0c : Orc ρ).ok Tryd.prog := a0a (by kernel_rfl) (p1h) (a0a (by kernel_rfl) (n1x) (a0e))
noncomputable def z0k {ρ : Type} : LOrc ρ := a0c
omit [Tabs] [QuietD Tryd.prog] [UDef] [UTabs] in
theorem y0b (x) : evF Tryd.prog 45 TT n0b g0g (m0c) (z0k) a0g ⟨[], [], []⟩ [.tmp 4, .tmp 5] l0s x = d0k x := by kernel_rfl
omit [UDef] [UTabs] in
theorem t0p : Contract Tryd.prog 150 g0g (d0k) :=
 Contract.of_ev (c := l0s) (N := 45) Tryd.func150 (by kernel_rfl) (by kernel_rfl) (by kernel_rfl) (by kernel_rfl) (o0i) a0b (.of (l := []) (by kernel_rfl) trivial) (y0b)
noncomputable def C_q38z : Code := bodyOf Tryd.f142
noncomputable def M_q38z : List (Nat × ArgM) := [(1500000086, ⟨[4, 3], [], [], false⟩), (999999999, ⟨[1], [], [], false⟩), (148, ⟨[], [], [], true⟩), (86, ⟨[], [], [300043], false⟩), (149, ⟨[], [], [], true⟩), (150, ⟨[], [], [], true⟩)]
instance : DfOk M_q38z := .none rfl
noncomputable def O_q38z {ρ : Type} (n : Nat) : Orc ρ := a0d 148 g0m (d0x) (a0d 86 F_q32z (q32z n) (a0d 149 g0i (d0v) (a0d 150 g0g (d0k) (orcNil))))
omit [UDef] [UTabs] in
theorem s0v {ρ : Type} (n : Nat) : (O_q38z n : Orc ρ).ok Tryd.prog := a0a (by kernel_rfl) (w0u) (a0a (by kernel_rfl) (o1k n) (a0a (by kernel_rfl) (w0w) (a0a (by kernel_rfl) (t0p) (a0e))))
noncomputable def L_q38z {ρ : Type} (n : Nat) : LOrc ρ := a0c
omit [Tabs] [QuietD Tryd.prog] [UDef] [UTabs] in
theorem e_q38z (n : Nat) (x) : evF Tryd.prog 111 TT M_q38z F_q38z (O_q38z n) (L_q38z n) (evDraw Tryd.prog 111 TT M_q38z (O_q38z n)) ⟨[], [], []⟩ [.cell 6 45, .tmp 7] C_q38z x = q38z n x := by kernel_rfl
omit [UDef] [UTabs] in
theorem n1y (n : Nat) : Contract Tryd.prog 142 F_q38z (q38z n) :=
 Contract.of_ev (c := C_q38z) (N := 111) Tryd.func142 (by kernel_rfl) (by kernel_rfl) (by kernel_rfl) (by kernel_rfl) (s0v n) (a0j (s0v n) (by kernel_rfl)) (.of (l := []) (by kernel_rfl) trivial) (e_q38z n)
noncomputable def F_q61z : FnT := ⟨2, ⟨[], [(0, .val), (1, .val)], [], []⟩, [.v .val], []⟩
noncomputable def F_q47z : FnT := ⟨2, ⟨[], [(0, .val), (1, .val)], [], []⟩, [.v .i64], []⟩
noncomputable def F_q16z : FnT := ⟨2, ⟨[], [(0, .str), (1, .str)], [], []⟩, [.v .i64], []⟩
noncomputable def F_q22z : FnT := ⟨1, ⟨[], [(0, .str)], [], []⟩, [.v .bool], []⟩
noncomputable def C_q22z : Code := bodyOf Tryd.f120
noncomputable def M_q22z : List (Nat × ArgM) := []
instance : DfOk M_q22z := .none rfl
noncomputable def O_q22z {ρ : Type} : Orc ρ := orcNil
omit [QuietD Tryd.prog] [UDef] [UTabs] in
theorem i1j {ρ : Type} : (O_q22z : Orc ρ).ok Tryd.prog := a0e
noncomputable def L_q22z {ρ : Type} : LOrc ρ := a0c
omit [Tabs] [QuietD Tryd.prog] [UDef] [UTabs] in
theorem e_q22z (x) : evF Tryd.prog 6 TT M_q22z F_q22z (O_q22z) (L_q22z) a0g ⟨[], [], []⟩ [.tmp 2] C_q22z x = q22z x := by kernel_rfl
omit [UDef] [UTabs] in
theorem n1s : Contract Tryd.prog 120 F_q22z (q22z) :=
 Contract.of_ev (c := C_q22z) (N := 6) Tryd.func120 (by kernel_rfl) (by kernel_rfl) (by kernel_rfl) (by kernel_rfl) (i1j) a0b (.of (l := []) (by kernel_rfl) trivial) (e_q22z)
noncomputable def C_q16z : Code := bodyOf Tryd.f156
noncomputable def M_q16z : List (Nat × ArgM) := [(120, ⟨[], [], [], true⟩)]
instance : DfOk M_q16z := .none rfl
noncomputable def O_q16z {ρ : Type} : Orc ρ := a0d 120 F_q22z (q22z) (orcNil)
omit [UDef] [UTabs] in
theorem k1e {ρ : Type} : (O_q16z : Orc ρ).ok Tryd.prog := a0a (by kernel_rfl) (n1s) (a0e)
noncomputable def L_q16z {ρ : Type} : LOrc ρ := a0c
omit [Tabs] [QuietD Tryd.prog] [UDef] [UTabs] in
theorem e_q16z (x) : evF Tryd.prog 20 TT M_q16z F_q16z (O_q16z) (L_q16z) a0g ⟨[], [], []⟩ [.tmp 4] C_q16z x = q16z x := by kernel_rfl
omit [UDef] [UTabs] in
theorem p1e : Contract Tryd.prog 156 F_q16z (q16z) :=
 Contract.of_ev (c := C_q16z) (N := 20) Tryd.func156 (by kernel_rfl) (by kernel_rfl) (by kernel_rfl) (by kernel_rfl) (k1e) a0b (.of (l := []) (by kernel_rfl) trivial) (e_q16z)
noncomputable def F_q0z : FnT := ⟨3, ⟨[(2, .fn 152)], [(0, (.lst .val)), (1, (.lst .val))], [], []⟩, [.v .i64], []⟩
noncomputable def C_q0z : Code := bodyOf Tryd.f157
noncomputable def M_q0z : List (Nat × ArgM) := [(152, ⟨[], [], [], true⟩)]
instance : DfOk M_q0z := .none rfl
noncomputable def O_q0z {ρ : Type} (self_q47z : Ev.Val × Ev.Val × Unit → Option (Int × Unit)) (n : Nat) : Orc ρ := a0d 152 F_q47z (self_q47z) (orcNil)
omit [QuietD Tryd.prog] [UDef] [UTabs] in
theorem b1i {ρ : Type} (self_q47z : Ev.Val × Ev.Val × Unit → Option (Int × Unit)) (h_q47z : Contract Tryd.prog 152 F_q47z self_q47z) (n : Nat) : (O_q0z self_q47z n : Orc ρ).ok Tryd.prog := a0a (by kernel_rfl) (h_q47z) (a0e)
noncomputable def T_q0z_s0 : Tm := ⟨[(2, .fn 152)], [(0, (.lst .val)), (1, (.lst .val)), (11, (.lst .val)), (12, .i64), (13, .i64)], [], []⟩
noncomputable def b1a : Tm := ⟨[], [(0, (.lst .val)), (1, (.lst .val))], [], []⟩
noncomputable def q0g : Tm := ⟨[], [(6, .i64)], [], []⟩
noncomputable def m1h {ρ : Type} (self_q47z : Ev.Val × Ev.Val × Unit → Option (Int × Unit)) (n : Nat) : LOrc ρ := a0c
omit [Tabs] [QuietD Tryd.prog] [UDef] [UTabs] in
theorem l1f {ρ : Type} (self_q47z : Ev.Val × Ev.Val × Unit → Option (Int × Unit)) (n : Nat) (rec : T_q0z_s0.den → Option ρ) kx kr s : dStep Tryd.prog 39 TT M_q0z (O_q0z self_q47z n) (m1h self_q47z n) a0g 0 (lbody 1000 C_q0z 0) T_q0z_s0 b1a q0g ⟨[], [], []⟩ rec kx kr s = q0z_s0 self_q47z n rec kx kr s := by kernel_rfl
noncomputable def L_q0z {ρ : Type} (self_q47z : Ev.Val × Ev.Val × Unit → Option (Int × Unit)) (n : Nat) : LOrc ρ := a0i 0 (loopL 39 0 n T_q0z_s0 b1a q0g ⟨[], [], []⟩ (q0z_s0 self_q47z n)) (a0c)
omit [Tabs] [QuietD Tryd.prog] [UDef] [UTabs] in
theorem e_q0z (self_q47z : Ev.Val × Ev.Val × Unit → Option (Int × Unit)) (n : Nat) (x) : evF Tryd.prog 39 TT M_q0z F_q0z (O_q0z self_q47z n) (L_q0z self_q47z n) a0g ⟨[], [], []⟩ [.tmp 6] C_q0z x = q0z self_q47z n x := by kernel_rfl
omit [UDef] [UTabs] in
theorem ok_q0z (self_q47z : Ev.Val × Ev.Val × Unit → Option (Int × Unit)) (h_q47z : Contract Tryd.prog 152 F_q47z self_q47z) (n : Nat) : Contract Tryd.prog 157 F_q0z (q0z self_q47z n) :=
 Contract.of_ev (c := C_q0z) (N := 39) Tryd.func157 (by kernel_rfl) (by kernel_rfl) (by kernel_rfl) (by kernel_rfl) (b1i self_q47z h_q47z n) a0b (.of (l := [(0, (lbody 1000 C_q0z 0))]) (by kernel_rfl) ⟨.head (a0f (b1i self_q47z h_q47z n) a0b (.of (l := []) (by kernel_rfl) trivial) (l1f self_q47z n)), trivial⟩) (e_q0z self_q47z n)
noncomputable def F_q51z : FnT := ⟨1, ⟨[], [(0, (.lst .i64))], [], []⟩, [.v .i64], []⟩
noncomputable def C_q51z : Code := bodyOf Tryd.f155
noncomputable def M_q51z : List (Nat × ArgM) := []
instance : DfOk M_q51z := .none rfl
noncomputable def O_q51z {ρ : Type} (n : Nat) : Orc ρ := orcNil
omit [QuietD Tryd.prog] [UDef] [UTabs] in
theorem w0k {ρ : Type} (n : Nat) : (O_q51z n : Orc ρ).ok Tryd.prog := a0e
noncomputable def T_q51z_s0 : Tm := ⟨[], [(3, .i64), (6, (.lst .i64)), (7, .i64), (8, .i64)], [], []⟩
noncomputable def w0l : Tm := ⟨[], [(3, .i64)], [], []⟩
noncomputable def h0k : Tm := ⟨[], [(2, .i64)], [], []⟩
noncomputable def i1a {ρ : Type} (n : Nat) : LOrc ρ := a0c
omit [Tabs] [QuietD Tryd.prog] [UDef] [UTabs] in
theorem i1d {ρ : Type} (n : Nat) (rec : T_q51z_s0.den → Option ρ) kx kr s : dStep Tryd.prog 18 TT M_q51z (O_q51z n) (i1a n) a0g 0 (lbody 1000 C_q51z 0) T_q51z_s0 w0l h0k ⟨[], [], []⟩ rec kx kr s = s0n n rec kx kr s := by kernel_rfl
noncomputable def L_q51z {ρ : Type} (n : Nat) : LOrc ρ := a0i 0 (loopL 18 0 n T_q51z_s0 w0l h0k ⟨[], [], []⟩ (s0n n)) (a0c)
omit [Tabs] [QuietD Tryd.prog] [UDef] [UTabs] in
theorem e_q51z (n : Nat) (x) : evF Tryd.prog 18 TT M_q51z F_q51z (O_q51z n) (L_q51z n) a0g ⟨[], [], []⟩ [.tmp 2] C_q51z x = q51z n x := by kernel_rfl
omit [UDef] [UTabs] in
theorem p1d (n : Nat) : Contract Tryd.prog 155 F_q51z (q51z n) :=
 Contract.of_ev (c := C_q51z) (N := 18) Tryd.func155 (by kernel_rfl) (by kernel_rfl) (by kernel_rfl) (by kernel_rfl) (w0k n) a0b (.of (l := [(0, (lbody 1000 C_q51z 0))]) (by kernel_rfl) ⟨.head (a0f (w0k n) a0b (.of (l := []) (by kernel_rfl) trivial) (i1d n)), trivial⟩) (e_q51z n)
noncomputable def C_q47z : Code := bodyOf Tryd.f152
noncomputable def M_q47z : List (Nat × ArgM) := [(49, ⟨[], [], [], true⟩), (156, ⟨[], [], [], true⟩), (157, ⟨[], [], [], true⟩), (155, ⟨[], [], [], true⟩)]
instance : DfOk M_q47z := .none rfl
noncomputable def O_q47z {ρ : Type} (self_q47z : Ev.Val × Ev.Val × Unit → Option (Int × Unit)) (n : Nat) : Orc ρ := a0d 49 F_q25z (q25z) (a0d 156 F_q16z (q16z) (a0d 157 F_q0z (q0z self_q47z n) (a0d 155 F_q51z (q51z n) (orcNil))))
omit [UDef] [UTabs] in
theorem s0w {ρ : Type} (self_q47z : Ev.Val × Ev.Val × Unit → Option (Int × Unit)) (h_q47z : Contract Tryd.prog 152 F_q47z self_q47z) (n : Nat) : (O_q47z self_q47z n : Orc ρ).ok Tryd.prog := a0a (by kernel_rfl) (q0h) (a0a (by kernel_rfl) (p1e) (a0a (by kernel_rfl) (ok_q0z _ h_q47z n) (a0a (by kernel_rfl) (p1d n) (a0e))))
noncomputable def L_q47z {ρ : Type} (self_q47z : Ev.Val × Ev.Val × Unit → Option (Int × Unit)) (n : Nat) : LOrc ρ := a0c
omit [Tabs] [QuietD Tryd.prog] [UDef] [UTabs] in
theorem e_q47z (self_q47z : Ev.Val × Ev.Val × Unit → Option (Int × Unit)) (n : Nat) (x) : evF Tryd.prog 31 TT M_q47z F_q47z (O_q47z self_q47z n) (L_q47z self_q47z n) (evDraw Tryd.prog 31 TT M_q47z (O_q47z self_q47z n)) ⟨[], [], []⟩ [.tmp 4] C_q47z x = q47z_b self_q47z n x := by kernel_rfl
omit [UDef] [UTabs] in
theorem k1o (self_q47z : Ev.Val × Ev.Val × Unit → Option (Int × Unit)) (h_q47z : Contract Tryd.prog 152 F_q47z self_q47z) (n : Nat) : Contract Tryd.prog 152 F_q47z (q47z_b self_q47z n) :=
 Contract.of_ev (c := C_q47z) (N := 31) Tryd.func152 (by kernel_rfl) (by kernel_rfl) (by kernel_rfl) (by kernel_rfl) (s0w self_q47z h_q47z n) (a0j (s0w self_q47z h_q47z n) (by kernel_rfl)) (.of (l := []) (by kernel_rfl) trivial) (e_q47z self_q47z n)
omit [UDef] [UTabs] in
theorem x0o : ∀ n, Contract Tryd.prog 152 F_q47z (q47z n)
 | 0 => fun _ _ h => by cases h
 | n + 1 => k1o _ (x0o n) n
noncomputable def F_q50z : FnT := ⟨1, ⟨[], [(0, .bool)], [], []⟩, [.v .val], []⟩
noncomputable def C_q50z : Code := bodyOf Tryd.f151
noncomputable def M_q50z : List (Nat × ArgM) := []
instance : DfOk M_q50z := .none rfl
noncomputable def O_q50z {ρ : Type} : Orc ρ := orcNil
omit [QuietD Tryd.prog] [UDef] [UTabs] in
theorem g1e {ρ : Type} : (O_q50z : Orc ρ).ok Tryd.prog := a0e
noncomputable def L_q50z {ρ : Type} : LOrc ρ := a0c
omit [Tabs] [QuietD Tryd.prog] [UDef] [UTabs] in
theorem e_q50z (x) : evF Tryd.prog 8 TT M_q50z F_q50z (O_q50z) (L_q50z) a0g ⟨[], [], []⟩ [.cell 2 45] C_q50z x = q50z x := by kernel_rfl
omit [UDef] [UTabs] in
theorem f1f : Contract Tryd.prog 151 F_q50z (q50z) :=
 Contract.of_ev (c := C_q50z) (N := 8) Tryd.func151 (by kernel_rfl) (by kernel_rfl) (by kernel_rfl) (by kernel_rfl) (g1e) a0b (.of (l := []) (by kernel_rfl) trivial) (e_q50z)
noncomputable def C_q61z : Code := bodyOf Tryd.f143
noncomputable def M_q61z : List (Nat × ArgM) := [(152, ⟨[], [], [], true⟩)]
instance : DfOk M_q61z := .none rfl
noncomputable def O_q61z {ρ : Type} (self_q61z : Ev.Val × Ev.Val × Unit → Option (Ev.Val × Unit)) (n : Nat) : Orc ρ := a0d 152 F_q47z (q47z n) (a0d 151 F_q50z (q50z) (a0d 143 F_q61z (self_q61z) (orcNil)))
omit [UDef] [UTabs] in
theorem i0h {ρ : Type} (self_q61z : Ev.Val × Ev.Val × Unit → Option (Ev.Val × Unit)) (h_q61z : Contract Tryd.prog 143 F_q61z self_q61z) (n : Nat) : (O_q61z self_q61z n : Orc ρ).ok Tryd.prog := a0a (by kernel_rfl) (x0o n) (a0a (by kernel_rfl) (f1f) (a0a (by kernel_rfl) (h_q61z) (a0e)))
noncomputable def T_q61z_s0 : Tm := ⟨[(2, .ptr 2 0), (3, .ptr 3 0), (4, .ptr 4 0), (5, .ptr 5 0)], [(41, .i64), (42, .i64)], [(2, .box [.d .val]), (3, .box [.d .val]), (4, .box [.d .val]), (5, .box [.d .val])], []⟩
noncomputable def v0b : Tm := ⟨[(4, .ptr 4 0), (5, .ptr 5 0)], [], [(4, .box [.d .val]), (5, .box [.d .val])], []⟩
noncomputable def u0u : Tm := ⟨[(4, .ptr 4 0)], [], [(4, .box [.d .val])], []⟩
noncomputable def e1c {ρ : Type} (self_q61z : Ev.Val × Ev.Val × Unit → Option (Ev.Val × Unit)) (n : Nat) : LOrc ρ := a0c
omit [Tabs] [QuietD Tryd.prog] [UDef] [UTabs] in
theorem h1p {ρ : Type} (self_q61z : Ev.Val × Ev.Val × Unit → Option (Ev.Val × Unit)) (n : Nat) (rec : T_q61z_s0.den → Option ρ) kx kr s : dStep Tryd.prog 68 TT M_q61z (O_q61z self_q61z n) (e1c self_q61z n) (evDraw Tryd.prog 68 TT M_q61z (O_q61z self_q61z n)) 0 (lbody 1000 C_q61z 0) T_q61z_s0 v0b u0u ⟨[], [], []⟩ rec kx kr s = g0q self_q61z n rec kx kr s := by kernel_rfl
noncomputable def L_q61z {ρ : Type} (self_q61z : Ev.Val × Ev.Val × Unit → Option (Ev.Val × Unit)) (n : Nat) : LOrc ρ := a0i 0 (loopL 68 0 n T_q61z_s0 v0b u0u ⟨[], [], []⟩ (g0q self_q61z n)) (a0c)
omit [Tabs] [QuietD Tryd.prog] [UDef] [UTabs] in
theorem e_q61z (self_q61z : Ev.Val × Ev.Val × Unit → Option (Ev.Val × Unit)) (n : Nat) (x) : evF Tryd.prog 68 TT M_q61z F_q61z (O_q61z self_q61z n) (L_q61z self_q61z n) (evDraw Tryd.prog 68 TT M_q61z (O_q61z self_q61z n)) ⟨[], [], []⟩ [.cell 4 45] C_q61z x = q61z_b self_q61z n x := by kernel_rfl
omit [UDef] [UTabs] in
theorem n1c (self_q61z : Ev.Val × Ev.Val × Unit → Option (Ev.Val × Unit)) (h_q61z : Contract Tryd.prog 143 F_q61z self_q61z) (n : Nat) : Contract Tryd.prog 143 F_q61z (q61z_b self_q61z n) :=
 Contract.of_ev (c := C_q61z) (N := 68) Tryd.func143 (by kernel_rfl) (by kernel_rfl) (by kernel_rfl) (by kernel_rfl) (i0h self_q61z h_q61z n) (a0j (i0h self_q61z h_q61z n) (by kernel_rfl)) (.of (l := [(0, (lbody 1000 C_q61z 0))]) (by kernel_rfl) ⟨.head (a0f (i0h self_q61z h_q61z n) (a0j (i0h self_q61z h_q61z n) (by kernel_rfl)) (.of (l := []) (by kernel_rfl) trivial) (h1p self_q61z n)), trivial⟩) (e_q61z self_q61z n)
omit [UDef] [UTabs] in
theorem g1q : ∀ n, Contract Tryd.prog 143 F_q61z (q61z n)
 | 0 => fun _ _ h => by cases h
 | n + 1 => n1c _ (g1q n) n
noncomputable def F_q60z : FnT := ⟨2, ⟨[], [(0, .val), (1, .val)], [], []⟩, [.v .val], []⟩
noncomputable def C_q60z : Code := bodyOf Tryd.f144
noncomputable def M_q60z : List (Nat × ArgM) := [(152, ⟨[], [], [], true⟩)]
instance : DfOk M_q60z := .none rfl
noncomputable def O_q60z {ρ : Type} (n : Nat) : Orc ρ := a0d 152 F_q47z (q47z n) (a0d 151 F_q50z (q50z) (orcNil))
omit [UDef] [UTabs] in
theorem h1g {ρ : Type} (n : Nat) : (O_q60z n : Orc ρ).ok Tryd.prog := a0a (by kernel_rfl) (x0o n) (a0a (by kernel_rfl) (f1f) (a0e))
noncomputable def L_q60z {ρ : Type} (n : Nat) : LOrc ρ := a0c
omit [Tabs] [QuietD Tryd.prog] [UDef] [UTabs] in
theorem e_q60z (n : Nat) (x) : evF Tryd.prog 26 TT M_q60z F_q60z (O_q60z n) (L_q60z n) a0g ⟨[], [], []⟩ [.cell 4 45] C_q60z x = q60z n x := by kernel_rfl
omit [UDef] [UTabs] in
theorem p1i (n : Nat) : Contract Tryd.prog 144 F_q60z (q60z n) :=
 Contract.of_ev (c := C_q60z) (N := 26) Tryd.func144 (by kernel_rfl) (by kernel_rfl) (by kernel_rfl) (by kernel_rfl) (h1g n) a0b (.of (l := []) (by kernel_rfl) trivial) (e_q60z n)
noncomputable def F_q45z : FnT := ⟨1, ⟨[], [(0, .val)], [], []⟩, [.v .val], []⟩
noncomputable def F_q57z : FnT := ⟨1, ⟨[], [(0, .val)], [], []⟩, [.v .bool, .v .bool], []⟩
noncomputable def C_q57z : Code := bodyOf Tryd.f128
noncomputable def M_q57z : List (Nat × ArgM) := []
instance : DfOk M_q57z := .none rfl
noncomputable def O_q57z {ρ : Type} : Orc ρ := orcNil
omit [QuietD Tryd.prog] [UDef] [UTabs] in
theorem w0g {ρ : Type} : (O_q57z : Orc ρ).ok Tryd.prog := a0e
noncomputable def L_q57z {ρ : Type} : LOrc ρ := a0c
omit [Tabs] [QuietD Tryd.prog] [UDef] [UTabs] in
theorem e_q57z (x) : evF Tryd.prog 10 TT M_q57z F_q57z (O_q57z) (L_q57z) (evDraw Tryd.prog 10 TT M_q57z (O_q57z)) ⟨[], [], []⟩ [.tmp 2, .tmp 3] C_q57z x = q57z x := by kernel_rfl
omit [UDef] [UTabs] in
theorem y0c : Contract Tryd.prog 128 F_q57z (q57z) :=
 Contract.of_ev (c := C_q57z) (N := 10) Tryd.func128 (by kernel_rfl) (by kernel_rfl) (by kernel_rfl) (by kernel_rfl) (w0g) (a0j (w0g) (by kernel_rfl)) (.of (l := []) (by kernel_rfl) trivial) (e_q57z)
noncomputable def F_q58z : FnT := ⟨1, ⟨[], [(0, .bool)], [], []⟩, [.v .val], []⟩
noncomputable def C_q58z : Code := bodyOf Tryd.f147
noncomputable def M_q58z : List (Nat × ArgM) := []
instance : DfOk M_q58z := .none rfl
noncomputable def O_q58z {ρ : Type} : Orc ρ := orcNil
omit [QuietD Tryd.prog] [UDef] [UTabs] in
theorem d1y {ρ : Type} : (O_q58z : Orc ρ).ok Tryd.prog := a0e
noncomputable def L_q58z {ρ : Type} : LOrc ρ := a0c
omit [Tabs] [QuietD Tryd.prog] [UDef] [UTabs] in
theorem e_q58z (x) : evF Tryd.prog 6 TT M_q58z F_q58z (O_q58z) (L_q58z) a0g ⟨[], [], []⟩ [.cell 2 45] C_q58z x = q58z x := by kernel_rfl
omit [UDef] [UTabs] in
theorem z0j : Contract Tryd.prog 147 F_q58z (q58z) :=
 Contract.of_ev (c := C_q58z) (N := 6) Tryd.func147 (by kernel_rfl) (by kernel_rfl) (by kernel_rfl) (by kernel_rfl) (d1y) a0b (.of (l := []) (by kernel_rfl) trivial) (e_q58z)
noncomputable def C_q45z : Code := bodyOf Tryd.f145
noncomputable def M_q45z : List (Nat × ArgM) := [(128, ⟨[], [], [], true⟩)]
instance : DfOk M_q45z := .none rfl
noncomputable def O_q45z {ρ : Type} : Orc ρ := a0d 128 F_q57z (q57z) (a0d 147 F_q58z (q58z) (orcNil))
omit [UDef] [UTabs] in
theorem g1i {ρ : Type} : (O_q45z : Orc ρ).ok Tryd.prog := a0a (by kernel_rfl) (y0c) (a0a (by kernel_rfl) (z0j) (a0e))
noncomputable def L_q45z {ρ : Type} : LOrc ρ := a0c
omit [Tabs] [QuietD Tryd.prog] [UDef] [UTabs] in
theorem e_q45z (x) : evF Tryd.prog 15 TT M_q45z F_q45z (O_q45z) (L_q45z) a0g ⟨[], [], []⟩ [.cell 2 45] C_q45z x = q45z x := by kernel_rfl
omit [UDef] [UTabs] in
theorem p1l : Contract Tryd.prog 145 F_q45z (q45z) :=
 Contract.of_ev (c := C_q45z) (N := 15) Tryd.func145 (by kernel_rfl) (by kernel_rfl) (by kernel_rfl) (by kernel_rfl) (g1i) a0b (.of (l := []) (by kernel_rfl) trivial) (e_q45z)
noncomputable def F_q44z : FnT := ⟨2, ⟨[], [(0, .val), (1, .val)], [], []⟩, [.v .val], []⟩
noncomputable def C_q44z : Code := bodyOf Tryd.f146
noncomputable def M_q44z : List (Nat × ArgM) := [(128, ⟨[], [], [], true⟩)]
instance : DfOk M_q44z := .none rfl
noncomputable def O_q44z {ρ : Type} : Orc ρ := a0d 128 F_q57z (q57z) (a0d 147 F_q58z (q58z) (orcNil))
omit [UDef] [UTabs] in
theorem k1a {ρ : Type} : (O_q44z : Orc ρ).ok Tryd.prog := a0a (by kernel_rfl) (y0c) (a0a (by kernel_rfl) (z0j) (a0e))
noncomputable def L_q44z {ρ : Type} : LOrc ρ := a0c
omit [Tabs] [QuietD Tryd.prog] [UDef] [UTabs] in
theorem e_q44z (x) : evF Tryd.prog 38 TT M_q44z F_q44z (O_q44z) (L_q44z) a0g ⟨[], [], []⟩ [.cell 4 45] C_q44z x = q44z x := by kernel_rfl
omit [UDef] [UTabs] in
theorem o1o : Contract Tryd.prog 146 F_q44z (q44z) :=
 Contract.of_ev (c := C_q44z) (N := 38) Tryd.func146 (by kernel_rfl) (by kernel_rfl) (by kernel_rfl) (by kernel_rfl) (k1a) a0b (.of (l := []) (by kernel_rfl) trivial) (e_q44z)
noncomputable def C_q34z : Code := bodyOf Tryd.f138
noncomputable def M_q34z : List (Nat × ArgM) := [(64, ⟨[], [], [], true⟩), (62, ⟨[], [], [], true⟩)]
instance : DfOk M_q34z := .none rfl
noncomputable def O_q34z {ρ : Type} (n : Nat) : Orc ρ := a0d 142 F_q38z (q38z n) (a0d 64 F_q46z (q46z n) (a0d 143 F_q61z (q61z n) (a0d 144 F_q60z (q60z n) (a0d 145 F_q45z (q45z) (a0d 146 F_q44z (q44z) (a0d 147 F_q58z (q58z) (a0d 62 F_q29z (q29z n) (orcNil))))))))
omit [UDef] in
theorem d0q {ρ : Type} (n : Nat) : (O_q34z n : Orc ρ).ok Tryd.prog := a0a (by kernel_rfl) (n1y n) (a0a (by kernel_rfl) (x0f n) (a0a (by kernel_rfl) (g1q n) (a0a (by kernel_rfl) (p1i n) (a0a (by kernel_rfl) (p1l) (a0a (by kernel_rfl) (o1o) (a0a (by kernel_rfl) (z0j) (a0a (by kernel_rfl) (i1q n) (a0e))))))))
noncomputable def T_q34z_s1 : Tm := ⟨[(6, .ptr 6 0), (9, .ptr 9 0)], [(2, (.lst .val)), (114, (.lst .val)), (115, .i64), (116, .i64)], [(6, .box [.d .val]), (9, .box [.d .val])], []⟩
noncomputable def w0r : Tm := ⟨[(6, .ptr 6 0), (9, .ptr 9 0)], [], [(6, .box [.d .val]), (9, .box [.d .val])], []⟩
noncomputable def h0j : Tm := ⟨[], [], [], []⟩
noncomputable def i1g {ρ : Type} (n : Nat) : LOrc ρ := a0c
omit [Tabs] [QuietD Tryd.prog] [UDef] [UTabs] in
theorem j1n {ρ : Type} (n : Nat) (rec : T_q34z_s1.den → Option ρ) kx kr s : dStep Tryd.prog 219 TT M_q34z (O_q34z n) (i1g n) (evDraw Tryd.prog 219 TT M_q34z (O_q34z n)) 1 (lbody 1000 C_q34z 0) T_q34z_s1 w0r h0j ⟨[], [], []⟩ rec kx kr s = j0e n rec kx kr s := by kernel_rfl
noncomputable def T_q34z_s4 : Tm := ⟨[(6, .ptr 6 0)], [(175, (.lst .val)), (176, .i64), (177, .i64)], [(6, .box [.d .val])], []⟩
noncomputable def v0y : Tm := ⟨[(6, .ptr 6 0)], [], [(6, .box [.d .val])], []⟩
noncomputable def h0p : Tm := ⟨[(6, .ptr 6 0)], [], [(6, .box [.d .val])], []⟩
noncomputable def j1j {ρ : Type} (n : Nat) : LOrc ρ := a0c
omit [Tabs] [QuietD Tryd.prog] [UDef] [UTabs] in
theorem f1x {ρ : Type} (n : Nat) (rec : T_q34z_s4.den → Option ρ) kx kr s : dStep Tryd.prog 219 TT M_q34z (O_q34z n) (j1j n) (evDraw Tryd.prog 219 TT M_q34z (O_q34z n)) 4 (lbody 1000 C_q34z 1) T_q34z_s4 v0y h0p ⟨[], [], []⟩ rec kx kr s = j0r n rec kx kr s := by kernel_rfl
noncomputable def L_q34z {ρ : Type} (n : Nat) : LOrc ρ := a0i 1 (loopL 219 1 n T_q34z_s1 w0r h0j ⟨[], [], []⟩ (j0e n)) (a0i 4 (loopL 219 4 n T_q34z_s4 v0y h0p ⟨[], [], []⟩ (j0r n)) (a0c))
omit [Tabs] [QuietD Tryd.prog] [UDef] [UTabs] in
theorem e_q34z (n : Nat) (x) : evF Tryd.prog 219 TT M_q34z F_q34z (O_q34z n) (L_q34z n) (evDraw Tryd.prog 219 TT M_q34z (O_q34z n)) ⟨[], [], []⟩ [.cell 6 45] C_q34z x = q34z n x := by kernel_rfl
omit [UDef] in
theorem p1t (n : Nat) : Contract Tryd.prog 138 F_q34z (q34z n) :=
 Contract.of_ev (c := C_q34z) (N := 219) Tryd.func138 (by kernel_rfl) (by kernel_rfl) (by kernel_rfl) (by kernel_rfl) (d0q n) (a0j (d0q n) (by kernel_rfl)) (.of (l := [(1, (lbody 1000 C_q34z 0)), (4, (lbody 1000 C_q34z 1))]) (by kernel_rfl) ⟨.head (a0f (d0q n) (a0j (d0q n) (by kernel_rfl)) (.of (l := []) (by kernel_rfl) trivial) (j1n n)), ⟨.tail rfl (.head (a0f (d0q n) (a0j (d0q n) (by kernel_rfl)) (.of (l := []) (by kernel_rfl) trivial) (f1x n))), trivial⟩⟩) (e_q34z n)
noncomputable def C_q30z : Code := bodyOf Tryd.f129
noncomputable def M_q30z : List (Nat × ArgM) := []
instance : DfOk M_q30z := .none rfl
noncomputable def O_q30z {ρ : Type} (self_q30z : Ev.Envr × Ev.Term × Unit → Option (Ev.Val × Unit)) (n : Nat) : Orc ρ := a0d 86 F_q59z (q59z n) (a0d 137 F_q31z (q31z n) (a0d 129 F_q30z (self_q30z) (a0d 138 F_q34z (q34z n) (orcNil))))
omit [UDef] in
theorem i0u {ρ : Type} (self_q30z : Ev.Envr × Ev.Term × Unit → Option (Ev.Val × Unit)) (h_q30z : Contract Tryd.prog 129 F_q30z self_q30z) (n : Nat) : (O_q30z self_q30z n : Orc ρ).ok Tryd.prog := a0a (by kernel_rfl) (q0y n) (a0a (by kernel_rfl) (o1f n) (a0a (by kernel_rfl) (h_q30z) (a0a (by kernel_rfl) (p1t n) (a0e))))
noncomputable def T_q30z_s1 : Tm := ⟨[(2, .ptr 2 0), (3, .ptr 3 0), (4, .ptr 4 0), (5, .own 5)], [(38, (.lst .term)), (39, .i64), (40, .i64)], [(2, .box [.d .envr]), (3, .box [.d .term]), (4, .box [.d .val]), (5, .arr 45 .val)], []⟩
noncomputable def v0e : Tm := ⟨[(2, .ptr 2 0), (3, .ptr 3 0), (4, .ptr 4 0), (5, .own 5)], [], [(2, .box [.d .envr]), (3, .box [.d .term]), (4, .box [.d .val]), (5, .arr 45 .val)], []⟩
noncomputable def i0c : Tm := ⟨[], [], [], []⟩
noncomputable def h1m {ρ : Type} (self_q30z : Ev.Envr × Ev.Term × Unit → Option (Ev.Val × Unit)) (n : Nat) : LOrc ρ := a0c
omit [Tabs] [QuietD Tryd.prog] [UDef] [UTabs] in
theorem f1d {ρ : Type} (self_q30z : Ev.Envr × Ev.Term × Unit → Option (Ev.Val × Unit)) (n : Nat) (rec : T_q30z_s1.den → Option ρ) kx kr s : dStep Tryd.prog 55 TT M_q30z (O_q30z self_q30z n) (h1m self_q30z n) (evDraw Tryd.prog 55 TT M_q30z (O_q30z self_q30z n)) 1 (lbody 1000 C_q30z 0) T_q30z_s1 v0e i0c ⟨[], [(5, 5, 45, 4)], []⟩ rec kx kr s = q0p self_q30z n rec kx kr s := by kernel_rfl
noncomputable def L_q30z {ρ : Type} (self_q30z : Ev.Envr × Ev.Term × Unit → Option (Ev.Val × Unit)) (n : Nat) : LOrc ρ := a0i 1 (loopL 55 1 n T_q30z_s1 v0e i0c ⟨[], [(5, 5, 45, 4)], []⟩ (q0p self_q30z n)) (a0c)
omit [Tabs] [QuietD Tryd.prog] [UDef] [UTabs] in
theorem e_q30z (self_q30z : Ev.Envr × Ev.Term × Unit → Option (Ev.Val × Unit)) (n : Nat) (x) : evF Tryd.prog 55 TT M_q30z F_q30z (O_q30z self_q30z n) (L_q30z self_q30z n) (evDraw Tryd.prog 55 TT M_q30z (O_q30z self_q30z n)) ⟨[], [], []⟩ [.cell 4 45] C_q30z x = q30z_b self_q30z n x := by kernel_rfl
omit [UDef] in
theorem m1w (self_q30z : Ev.Envr × Ev.Term × Unit → Option (Ev.Val × Unit)) (h_q30z : Contract Tryd.prog 129 F_q30z self_q30z) (n : Nat) : Contract Tryd.prog 129 F_q30z (q30z_b self_q30z n) :=
 Contract.of_ev (c := C_q30z) (N := 55) Tryd.func129 (by kernel_rfl) (by kernel_rfl) (by kernel_rfl) (by kernel_rfl) (i0u self_q30z h_q30z n) (a0j (i0u self_q30z h_q30z n) (by kernel_rfl)) (.of (l := [(1, (lbody 1000 C_q30z 0))]) (by kernel_rfl) ⟨.head (a0f (i0u self_q30z h_q30z n) (a0j (i0u self_q30z h_q30z n) (by kernel_rfl)) (.of (l := []) (by kernel_rfl) trivial) (f1d self_q30z n)), trivial⟩) (e_q30z self_q30z n)
omit [UDef] in
theorem j1l : ∀ n, Contract Tryd.prog 129 F_q30z (q30z n)
 | 0 => fun _ _ h => by cases h
 | n + 1 => m1w _ (j1l n) n
noncomputable def C_q28z : Code := bodyOf Tryd.f106
noncomputable def M_q28z : List (Nat × ArgM) := [(128, ⟨[], [], [], true⟩)]
instance : DfOk M_q28z := .none rfl
noncomputable def O_q28z {ρ : Type} (n : Nat) : Orc ρ := a0d 129 F_q30z (q30z n) (a0d 128 F_q57z (q57z) (orcNil))
omit [UDef] in
theorem u0v {ρ : Type} (n : Nat) : (O_q28z n : Orc ρ).ok Tryd.prog := a0a (by kernel_rfl) (j1l n) (a0a (by kernel_rfl) (y0c) (a0e))
noncomputable def T_q28z_s0 : Tm := ⟨[(2, .ptr 2 0)], [(9, (.lst .term)), (10, .i64), (11, .i64)], [(2, .box [.d .envr])], []⟩
noncomputable def v0x : Tm := ⟨[], [], [], []⟩
noncomputable def i0y : Tm := ⟨[], [(4, .bool)], [], []⟩
noncomputable def e1w {ρ : Type} (n : Nat) : LOrc ρ := a0c
omit [Tabs] [QuietD Tryd.prog] [UDef] [UTabs] in
theorem j1w {ρ : Type} (n : Nat) (rec : T_q28z_s0.den → Option ρ) kx kr s : dStep Tryd.prog 29 TT M_q28z (O_q28z n) (e1w n) a0g 0 (lbody 1000 C_q28z 0) T_q28z_s0 v0x i0y ⟨[], [], []⟩ rec kx kr s = q0o n rec kx kr s := by kernel_rfl
noncomputable def L_q28z {ρ : Type} (n : Nat) : LOrc ρ := a0i 0 (loopL 29 0 n T_q28z_s0 v0x i0y ⟨[], [], []⟩ (q0o n)) (a0c)
omit [Tabs] [QuietD Tryd.prog] [UDef] [UTabs] in
theorem e_q28z (n : Nat) (x) : evF Tryd.prog 29 TT M_q28z F_q28z (O_q28z n) (L_q28z n) a0g ⟨[], [], []⟩ [.tmp 4] C_q28z x = q28z n x := by kernel_rfl
omit [UDef] in
theorem p1a (n : Nat) : Contract Tryd.prog 106 F_q28z (q28z n) :=
 Contract.of_ev (c := C_q28z) (N := 29) Tryd.func106 (by kernel_rfl) (by kernel_rfl) (by kernel_rfl) (by kernel_rfl) (u0v n) a0b (.of (l := [(0, (lbody 1000 C_q28z 0))]) (by kernel_rfl) ⟨.head (a0f (u0v n) a0b (.of (l := []) (by kernel_rfl) trivial) (j1w n)), trivial⟩) (e_q28z n)
noncomputable def F_q41z : FnT := ⟨3, ⟨[(0, .own 2000000), (1, .ptr 1000016 0), (2, .ptr 1000032 0)], [], [(2000000, .arr 3 .i64), (1000016, .box [.ref (.own 1000017)]), (1000017, .arr 33 (.lst .i64)), (1000032, .box [.d .bool])], []⟩, [], [(2000000, .arr 3 .i64), (1000016, .box [.ref (.own 1000017)]), (1000017, .arr 33 (.lst .i64)), (1000032, .box [.d .bool])]⟩
noncomputable def C_q41z : Code := bodyOf Tryd.f42
noncomputable def M_q41z : List (Nat × ArgM) := [(999999999, ⟨[1], [], [], false⟩), (43, ⟨[], [], [], true⟩)]
instance : DfOk M_q41z := .none rfl
noncomputable def O_q41z {ρ : Type} : Orc ρ := a0d 43 F_q9z (q9z) (orcNil)
omit [UDef] [UTabs] in
theorem s0u {ρ : Type} : (O_q41z : Orc ρ).ok Tryd.prog := a0a (by kernel_rfl) (ok_q9z) (a0e)
noncomputable def L_q41z {ρ : Type} : LOrc ρ := a0c
omit [Tabs] [QuietD Tryd.prog] [UDef] [UTabs] in
theorem e_q41z (x) : evF Tryd.prog 12 TT M_q41z F_q41z (O_q41z) (L_q41z) (evDraw Tryd.prog 12 TT M_q41z (O_q41z)) ⟨[], [], []⟩ [] C_q41z x = q41z x := by kernel_rfl
omit [UDef] [UTabs] in
theorem p1k : Contract Tryd.prog 42 F_q41z (q41z) :=
 Contract.of_ev (c := C_q41z) (N := 12) Tryd.func42 (by kernel_rfl) (by kernel_rfl) (by kernel_rfl) (by kernel_rfl) (s0u) (a0j (s0u) (by kernel_rfl)) (.of (l := []) (by kernel_rfl) trivial) (e_q41z)
noncomputable def F_q19z : FnT := ⟨3, ⟨[(0, .ptr 1000000 0)], [(1, .i64), (2, .node)], [(1000000, .box [.d .query, .d .graph, .d (.lst (.map .pair .bool))])], []⟩, [.v .bool], [(1000000, .box [.d .query, .d .graph, .d (.lst (.map .pair .bool))])]⟩
noncomputable def C_q19z : Code := bodyOf Tryd.f107
noncomputable def M_q19z : List (Nat × ArgM) := [(74, ⟨[], [], [], true⟩)]
instance : DfOk M_q19z := .none rfl
noncomputable def O_q19z {ρ : Type} (n : Nat) : Orc ρ := a0d 74 F_q7z (q7z n) (orcNil)
omit [UDef] [UTabs] in
theorem i1z {ρ : Type} (n : Nat) : (O_q19z n : Orc ρ).ok Tryd.prog := a0a (by kernel_rfl) (ok_q7z n) (a0e)
noncomputable def L_q19z {ρ : Type} (n : Nat) : LOrc ρ := a0c
omit [Tabs] [QuietD Tryd.prog] [UDef] [UTabs] in
theorem e_q19z (n : Nat) (x) : evF Tryd.prog 26 TT M_q19z F_q19z (O_q19z n) (L_q19z n) a0g ⟨[], [], []⟩ [.tmp 6] C_q19z x = q19z n x := by kernel_rfl
omit [UDef] [UTabs] in
theorem n1t (n : Nat) : Contract Tryd.prog 107 F_q19z (q19z n) :=
 Contract.of_ev (c := C_q19z) (N := 26) Tryd.func107 (by kernel_rfl) (by kernel_rfl) (by kernel_rfl) (by kernel_rfl) (i1z n) a0b (.of (l := []) (by kernel_rfl) trivial) (e_q19z n)
noncomputable def F_q17z : FnT := ⟨3, ⟨[(0, .ptr 1000000 0), (2, .own 2000016)], [(1, .i64)], [(1000000, .box [.d .query, .d .graph, .d (.lst (.map .pair .bool))]), (2000016, .arr 3 .i64)], []⟩, [.v .bool], [(1000000, .box [.d .query, .d .graph, .d (.lst (.map .pair .bool))]), (2000016, .arr 3 .i64)]⟩
noncomputable def C_q17z : Code := bodyOf Tryd.f108
noncomputable def M_q17z : List (Nat × ArgM) := [(999999999, ⟨[1], [], [], false⟩)]
instance : DfOk M_q17z := .none rfl
noncomputable def O_q17z {ρ : Type} (n : Nat) : Orc ρ := orcNil
omit [QuietD Tryd.prog] [UDef] [UTabs] in
theorem h0b {ρ : Type} (n : Nat) : (O_q17z n : Orc ρ).ok Tryd.prog := a0e
noncomputable def T_q17z_s0 : Tm := ⟨[(0, .ptr 1000000 0), (2, .own 2000016)], [(1, .i64), (8, .i64), (9, .i64)], [(1000000, .box [.d .query, .d .graph, .d (.lst (.map .pair .bool))]), (2000016, .arr 3 .i64)], []⟩
noncomputable def w0z : Tm := ⟨[], [], [(1000000, .box [.d .query, .d .graph, .d (.lst (.map .pair .bool))]), (2000016, .arr 3 .i64)], []⟩
noncomputable def u0j : Tm := ⟨[], [(6, .bool)], [(1000000, .box [.d .query, .d .graph, .d (.lst (.map .pair .bool))]), (2000016, .arr 3 .i64)], []⟩
noncomputable def e1h {ρ : Type} (n : Nat) : LOrc ρ := a0c
omit [Tabs] [QuietD Tryd.prog] [UDef] [UTabs] in
theorem j1y {ρ : Type} (n : Nat) (rec : T_q17z_s0.den → Option ρ) kx kr s : dStep Tryd.prog 55 TT M_q17z (O_q17z n) (e1h n) (evDraw Tryd.prog 55 TT M_q17z (O_q17z n)) 0 (lbody 1000 C_q17z 0) T_q17z_s0 w0z u0j ⟨[], [], []⟩ rec kx kr s = j0h n rec kx kr s := by kernel_rfl
noncomputable def L_q17z {ρ : Type} (n : Nat) : LOrc ρ := a0i 0 (loopL 55 0 n T_q17z_s0 w0z u0j ⟨[], [], []⟩ (j0h n)) (a0c)
omit [Tabs] [QuietD Tryd.prog] [UDef] [UTabs] in
theorem e_q17z (n : Nat) (x) : evF Tryd.prog 55 TT M_q17z F_q17z (O_q17z n) (L_q17z n) (evDraw Tryd.prog 55 TT M_q17z (O_q17z n)) ⟨[], [], []⟩ [.tmp 6] C_q17z x = q17z n x := by kernel_rfl
omit [UDef] [UTabs] in
theorem o1n (n : Nat) : Contract Tryd.prog 108 F_q17z (q17z n) :=
 Contract.of_ev (c := C_q17z) (N := 55) Tryd.func108 (by kernel_rfl) (by kernel_rfl) (by kernel_rfl) (by kernel_rfl) (h0b n) (a0j (h0b n) (by kernel_rfl)) (.of (l := [(0, (lbody 1000 C_q17z 0))]) (by kernel_rfl) ⟨.head (a0f (h0b n) (a0j (h0b n) (by kernel_rfl)) (.of (l := []) (by kernel_rfl) trivial) (j1y n)), trivial⟩) (e_q17z n)
noncomputable def C_q6z : Code := bodyOf Tryd.f75
noncomputable def M_q6z : List (Nat × ArgM) := [(999999999, ⟨[1], [], [], false⟩), (999999992, ⟨[25], [], [], false⟩), (42, ⟨[1000, 1, 2], [], [], false⟩), (75, ⟨[0, 1002, 3], [], [], false⟩), (105, ⟨[0, 1001], [], [], false⟩), (108, ⟨[0, 1002], [], [], false⟩), (107, ⟨[0], [], [], false⟩), (106, ⟨[], [], [], true⟩)]
instance : DfOk M_q6z := .none rfl
noncomputable def O_q6z {ρ : Type} (self_q6z : Int × (Ev.Query × Ev.Graph × (List (List (Ev.Pair × Bool))) × Unit) × (List Int) × Unit × (List (List Int)) × (Bool × Unit) × Unit → Option ((Ev.Query × Ev.Graph × (List (List (Ev.Pair × Bool))) × Unit) × (List Int) × Unit × (List (List Int)) × (Bool × Unit) × Unit)) (n : Nat) : Orc ρ := a0d 105 F_q20z (q20z n) (a0d 106 F_q28z (q28z n) (a0d 42 F_q41z (q41z) (a0d 107 F_q19z (q19z n) (a0d 108 F_q17z (q17z n) (a0d 75 F_q6z (self_q6z) (orcNil))))))
omit [UDef] in
theorem f0p {ρ : Type} (self_q6z : Int × (Ev.Query × Ev.Graph × (List (List (Ev.Pair × Bool))) × Unit) × (List Int) × Unit × (List (List Int)) × (Bool × Unit) × Unit → Option ((Ev.Query × Ev.Graph × (List (List (Ev.Pair × Bool))) × Unit) × (List Int) × Unit × (List (List Int)) × (Bool × Unit) × Unit)) (h_q6z : Contract Tryd.prog 75 F_q6z self_q6z) (n : Nat) : (O_q6z self_q6z n : Orc ρ).ok Tryd.prog := a0a (by kernel_rfl) (o1v n) (a0a (by kernel_rfl) (p1a n) (a0a (by kernel_rfl) (p1k) (a0a (by kernel_rfl) (n1t n) (a0a (by kernel_rfl) (o1n n) (a0a (by kernel_rfl) (h_q6z) (a0e))))))
noncomputable def T_q6z_s2 : Tm := ⟨[(0, .ptr 1000000 0), (2, .own 2000016), (3, .clo 42 [1000032, 1000034]), (11, .ptr 11 0)], [(1, .i64), (8, .i64), (12, .i64), (13, .i64), (41, (.lst .node)), (42, .i64), (43, .i64), (118, (.lst .edg)), (119, .i64), (120, .i64)], [(11, .box [.d .arrow]), (1000000, .box [.d .query, .d .graph, .d (.lst (.map .pair .bool))]), (1000032, .box [.ref (.own 1000033)]), (1000033, .arr 33 (.lst .i64)), (1000034, .box [.d .bool]), (2000016, .arr 3 .i64)], []⟩
noncomputable def b1w : Tm := ⟨[(0, .ptr 1000000 0), (2, .own 2000016), (3, .clo 42 [1000032, 1000034])], [(1, .i64), (8, .i64), (41, (.lst .node)), (42, .i64), (43, .i64)], [(1000000, .box [.d .query, .d .graph, .d (.lst (.map .pair .bool))]), (1000032, .box [.ref (.own 1000033)]), (1000033, .arr 33 (.lst .i64)), (1000034, .box [.d .bool]), (2000016, .arr 3 .i64)], []⟩
noncomputable def h0q : Tm := ⟨[], [], [], []⟩
noncomputable def m1d {ρ : Type} (self_q6z : Int × (Ev.Query × Ev.Graph × (List (List (Ev.Pair × Bool))) × Unit) × (List Int) × Unit × (List (List Int)) × (Bool × Unit) × Unit → Option ((Ev.Query × Ev.Graph × (List (List (Ev.Pair × Bool))) × Unit) × (List Int) × Unit × (List (List Int)) × (Bool × Unit) × Unit)) (n : Nat) : LOrc ρ := a0c
omit [Tabs] [QuietD Tryd.prog] [UDef] [UTabs] in
theorem l1m {ρ : Type} (self_q6z : Int × (Ev.Query × Ev.Graph × (List (List (Ev.Pair × Bool))) × Unit) × (List Int) × Unit × (List (List Int)) × (Bool × Unit) × Unit → Option ((Ev.Query × Ev.Graph × (List (List (Ev.Pair × Bool))) × Unit) × (List Int) × Unit × (List (List Int)) × (Bool × Unit) × Unit)) (n : Nat) (rec : T_q6z_s2.den → Option ρ) kx kr s : dStep Tryd.prog 162 TT M_q6z (O_q6z self_q6z n) (m1d self_q6z n) (evDraw Tryd.prog 162 TT M_q6z (O_q6z self_q6z n)) 2 (lbody 0 (lbody 1000 C_q6z 0) 0) T_q6z_s2 b1w h0q ⟨[], [], []⟩ rec kx kr s = q6z_s2 self_q6z n rec kx kr s := by kernel_rfl
noncomputable def T_q6z_s0 : Tm := ⟨[(0, .ptr 1000000 0), (2, .own 2000016), (3, .clo 42 [1000032, 1000034])], [(1, .i64), (8, .i64), (41, (.lst .node)), (42, .i64), (43, .i64)], [(1000000, .box [.d .query, .d .graph, .d (.lst (.map .pair .bool))]), (1000032, .box [.ref (.own 1000033)]), (1000033, .arr 33 (.lst .i64)), (1000034, .box [.d .bool]), (2000016, .arr 3 .i64)], []⟩
noncomputable def a1q : Tm := ⟨[], [], [(1000000, .box [.d .query, .d .graph, .d (.lst (.map .pair .bool))]), (1000032, .box [.ref (.own 1000033)]), (1000033, .arr 33 (.lst .i64)), (1000034, .box [.d .bool]), (2000016, .arr 3 .i64)], []⟩
noncomputable def a1r : Tm := ⟨[], [], [], []⟩
noncomputable def m1v {ρ : Type} (self_q6z : Int × (Ev.Query × Ev.Graph × (List (List (Ev.Pair × Bool))) × Unit) × (List Int) × Unit × (List (List Int)) × (Bool × Unit) × Unit → Option ((Ev.Query × Ev.Graph × (List (List (Ev.Pair × Bool))) × Unit) × (List Int) × Unit × (List (List Int)) × (Bool × Unit) × Unit)) (n : Nat) : LOrc ρ := a0i 2 (loopL 162 2 n T_q6z_s2 b1w h0q ⟨[], [], []⟩ (q6z_s2 self_q6z n)) (a0c)
omit [Tabs] [QuietD Tryd.prog] [UDef] [UTabs] in
theorem k1n {ρ : Type} (self_q6z : Int × (Ev.Query × Ev.Graph × (List (List (Ev.Pair × Bool))) × Unit) × (List Int) × Unit × (List (List Int)) × (Bool × Unit) × Unit → Option ((Ev.Query × Ev.Graph × (List (List (Ev.Pair × Bool))) × Unit) × (List Int) × Unit × (List (List Int)) × (Bool × Unit) × Unit)) (n : Nat) (rec : T_q6z_s0.den → Option ρ) kx kr s : dStep Tryd.prog 162 TT M_q6z (O_q6z self_q6z n) (m1v self_q6z n) (evDraw Tryd.prog 162 TT M_q6z (O_q6z self_q6z n)) 0 (lbody 1000 C_q6z 0) T_q6z_s0 a1q a1r ⟨[], [], []⟩ rec kx kr s = q6z_s0 self_q6z n rec kx kr s := by kernel_rfl
noncomputable def L_q6z {ρ : Type} (self_q6z : Int × (Ev.Query × Ev.Graph × (List (List (Ev.Pair × Bool))) × Unit) × (List Int) × Unit × (List (List Int)) × (Bool × Unit) × Unit → Option ((Ev.Query × Ev.Graph × (List (List (Ev.Pair × Bool))) × Unit) × (List Int) × Unit × (List (List Int)) × (Bool × Unit) × Unit)) (n : Nat) : LOrc ρ := a0i 0 (loopL 162 0 n T_q6z_s0 a1q a1r ⟨[], [], []⟩ (q6z_s0 self_q6z n)) (a0c)
omit [Tabs] [QuietD Tryd.prog] [UDef] [UTabs] in
theorem e_q6z (self_q6z : Int × (Ev.Query × Ev.Graph × (List (List (Ev.Pair × Bool))) × Unit) × (List Int) × Unit × (List (List Int)) × (Bool × Unit) × Unit → Option ((Ev.Query × Ev.Graph × (List (List (Ev.Pair × Bool))) × Unit) × (List Int) × Unit × (List (List Int)) × (Bool × Unit) × Unit)) (n : Nat) (x) : evF Tryd.prog 162 TT M_q6z F_q6z (O_q6z self_q6z n) (L_q6z self_q6z n) (evDraw Tryd.prog 162 TT M_q6z (O_q6z self_q6z n)) ⟨[], [], []⟩ [] C_q6z x = q6z_b self_q6z n x := by kernel_rfl
omit [UDef] in
theorem o1l (self_q6z : Int × (Ev.Query × Ev.Graph × (List (List (Ev.Pair × Bool))) × Unit) × (List Int) × Unit × (List (List Int)) × (Bool × Unit) × Unit → Option ((Ev.Query × Ev.Graph × (List (List (Ev.Pair × Bool))) × Unit) × (List Int) × Unit × (List (List Int)) × (Bool × Unit) × Unit)) (h_q6z : Contract Tryd.prog 75 F_q6z self_q6z) (n : Nat) : Contract Tryd.prog 75 F_q6z (q6z_b self_q6z n) :=
 Contract.of_ev (c := C_q6z) (N := 162) Tryd.func75 (by kernel_rfl) (by kernel_rfl) (by kernel_rfl) (by kernel_rfl) (f0p self_q6z h_q6z n) (a0j (f0p self_q6z h_q6z n) (by kernel_rfl)) (.of (l := [(0, (lbody 1000 C_q6z 0))]) (by kernel_rfl) ⟨.head (a0f (f0p self_q6z h_q6z n) (a0j (f0p self_q6z h_q6z n) (by kernel_rfl)) (.of (l := [(2, (lbody 0 (lbody 1000 C_q6z 0) 0))]) (by kernel_rfl) ⟨.head (a0f (f0p self_q6z h_q6z n) (a0j (f0p self_q6z h_q6z n) (by kernel_rfl)) (.of (l := []) (by kernel_rfl) trivial) (l1m self_q6z n)), trivial⟩) (k1n self_q6z n)), trivial⟩) (e_q6z self_q6z n)
omit [UDef] in
theorem ok_q6z : ∀ n, Contract Tryd.prog 75 F_q6z (q6z n)
 | 0 => fun _ _ h => by cases h
 | n + 1 => o1l _ (ok_q6z n) n
noncomputable def C_q5z : Code := bodyOf Tryd.f41
noncomputable def M_q5z : List (Nat × ArgM) := [(999999999, ⟨[1], [], [], false⟩), (999999994, ⟨[20], [], [], false⟩), (75, ⟨[0, 1002, 3], [], [], false⟩)]
instance : DfOk M_q5z := .none rfl
noncomputable def O_q5z {ρ : Type} (n : Nat) : Orc ρ := a0d 75 F_q6z (q6z n) (orcNil)
omit [UDef] in
theorem b1b {ρ : Type} (n : Nat) : (O_q5z n : Orc ρ).ok Tryd.prog := a0a (by kernel_rfl) (ok_q6z n) (a0e)
noncomputable def L_q5z {ρ : Type} (n : Nat) : LOrc ρ := a0c
omit [Tabs] [QuietD Tryd.prog] [UDef] [UTabs] in
theorem e_q5z (n : Nat) (x) : evF Tryd.prog 21 TT M_q5z F_q5z (O_q5z n) (L_q5z n) (evDraw Tryd.prog 21 TT M_q5z (O_q5z n)) ⟨[], [], []⟩ [] C_q5z x = q5z n x := by kernel_rfl
omit [UDef] in
theorem ok_q5z (n : Nat) : Contract Tryd.prog 41 F_q5z (q5z n) :=
 Contract.of_ev (c := C_q5z) (N := 21) Tryd.func41 (by kernel_rfl) (by kernel_rfl) (by kernel_rfl) (by kernel_rfl) (b1b n) (a0j (b1b n) (by kernel_rfl)) (.of (l := []) (by kernel_rfl) trivial) (e_q5z n)
noncomputable def n0e : Code := bodyOf Tryd.f12
noncomputable def n0t : List (Nat × ArgM) := [(999999999, ⟨[1], [], [], false⟩), (1700000009, ⟨[8, 0, 600008, 33, 1], [], [], false⟩), (41, ⟨[0, 1], [], [], false⟩), (44, ⟨[1000], [], [], false⟩), (39, ⟨[], [], [], true⟩), (17, ⟨[], [], [], true⟩), (40, ⟨[], [], [12], false⟩)]
instance : DfOk n0t := .none rfl
noncomputable def l0v {ρ : Type} (n : Nat) : Orc ρ := a0d 39 F_q42z (q42z n) (a0d 17 F_q39z (q39z n) (a0d 40 g0l (d0w n) (a0d 41 F_q5z (q5z n) (a0d 44 F_sfLL (sfLL) (orcNil)))))
omit [UDef] in
theorem n0u {ρ : Type} (n : Nat) : (l0v n : Orc ρ).ok Tryd.prog := a0a (by kernel_rfl) (o1y n) (a0a (by kernel_rfl) (n1q n) (a0a (by kernel_rfl) (w0c n) (a0a (by kernel_rfl) (ok_q5z n) (a0a (by kernel_rfl) (m1l) (a0e)))))
noncomputable def z0g {ρ : Type} (n : Nat) : LOrc ρ := a0c
omit [Tabs] [QuietD Tryd.prog] [UDef] [UTabs] in
theorem x0r (n : Nat) (x) : evF Tryd.prog 29 TT n0t e0j (l0v n) (z0g n) a0g ⟨[], [], []⟩ [.tmp 4, .tmp 5] n0e x = a0x n x := by kernel_rfl
omit [UDef] in
theorem k0d (n : Nat) : Contract Tryd.prog 12 e0j (a0x n) :=
 Contract.of_ev (c := n0e) (N := 29) Tryd.func12 (by kernel_rfl) (by kernel_rfl) (by kernel_rfl) (by kernel_rfl) (n0u n) a0b (.of (l := []) (by kernel_rfl) trivial) (x0r n)
noncomputable def F_q15z : FnT := ⟨0, ⟨[], [], [], []⟩, [.v .bool], []⟩
noncomputable def F_q26z : FnT := ⟨1, ⟨[], [(0, .i64)], [], []⟩, [.v .val], []⟩
noncomputable def C_q26z : Code := bodyOf Tryd.f46
noncomputable def M_q26z : List (Nat × ArgM) := []
instance : DfOk M_q26z := .none rfl
noncomputable def O_q26z {ρ : Type} : Orc ρ := orcNil
omit [QuietD Tryd.prog] [UDef] [UTabs] in
theorem g1p {ρ : Type} : (O_q26z : Orc ρ).ok Tryd.prog := a0e
noncomputable def L_q26z {ρ : Type} : LOrc ρ := a0c
omit [Tabs] [QuietD Tryd.prog] [UDef] [UTabs] in
theorem e_q26z (x) : evF Tryd.prog 5 TT M_q26z F_q26z (O_q26z) (L_q26z) a0g ⟨[], [], []⟩ [.cell 2 45] C_q26z x = q26z x := by kernel_rfl
omit [UDef] [UTabs] in
theorem p1p : Contract Tryd.prog 46 F_q26z (q26z) :=
 Contract.of_ev (c := C_q26z) (N := 5) Tryd.func46 (by kernel_rfl) (by kernel_rfl) (by kernel_rfl) (by kernel_rfl) (g1p) a0b (.of (l := []) (by kernel_rfl) trivial) (e_q26z)
noncomputable def F_q23z : FnT := ⟨2, ⟨[], [(0, .str), (1, (.lst .term))], [], []⟩, [.v .term], []⟩
noncomputable def C_q23z : Code := bodyOf Tryd.f45
noncomputable def M_q23z : List (Nat × ArgM) := []
instance : DfOk M_q23z := .none rfl
noncomputable def O_q23z {ρ : Type} : Orc ρ := orcNil
omit [QuietD Tryd.prog] [UDef] [UTabs] in
theorem e1d {ρ : Type} : (O_q23z : Orc ρ).ok Tryd.prog := a0e
noncomputable def L_q23z {ρ : Type} : LOrc ρ := a0c
omit [Tabs] [QuietD Tryd.prog] [UDef] [UTabs] in
theorem e_q23z (x) : evF Tryd.prog 8 TT M_q23z F_q23z (O_q23z) (L_q23z) a0g ⟨[], [], []⟩ [.cell 4 63] C_q23z x = q23z x := by kernel_rfl
omit [UDef] [UTabs] in
theorem p1b : Contract Tryd.prog 45 F_q23z (q23z) :=
 Contract.of_ev (c := C_q23z) (N := 8) Tryd.func45 (by kernel_rfl) (by kernel_rfl) (by kernel_rfl) (by kernel_rfl) (e1d) a0b (.of (l := []) (by kernel_rfl) trivial) (e_q23z)
noncomputable def F_q18z : FnT := ⟨0, ⟨[], [], [], []⟩, [.v .graph], []⟩
noncomputable def C_q18z : Code := bodyOf Tryd.f21
noncomputable def M_q18z : List (Nat × ArgM) := []
instance : DfOk M_q18z := .none rfl
noncomputable def O_q18z {ρ : Type} : Orc ρ := orcNil
omit [QuietD Tryd.prog] [UDef] [UTabs] in
theorem k1j {ρ : Type} : (O_q18z : Orc ρ).ok Tryd.prog := a0e
noncomputable def L_q18z {ρ : Type} : LOrc ρ := a0c
omit [Tabs] [QuietD Tryd.prog] [UDef] [UTabs] in
theorem e_q18z (x) : evF Tryd.prog 10 TT M_q18z F_q18z (O_q18z) (L_q18z) a0g ⟨[], [], []⟩ [.cell 0 25] C_q18z x = q18z x := by kernel_rfl
omit [UDef] [UTabs] in
theorem o1e : Contract Tryd.prog 21 F_q18z (q18z) :=
 Contract.of_ev (c := C_q18z) (N := 10) Tryd.func21 (by kernel_rfl) (by kernel_rfl) (by kernel_rfl) (by kernel_rfl) (k1j) a0b (.of (l := []) (by kernel_rfl) trivial) (e_q18z)
noncomputable def F_q4z : FnT := ⟨3, ⟨[(2, .fn 23)], [(0, (.lst (.lst .i64))), (1, (.lst (.lst .i64)))], [], []⟩, [.v .bool], []⟩
noncomputable def F_q14z : FnT := ⟨2, ⟨[], [(0, (.lst .i64)), (1, (.lst .i64))], [], []⟩, [.v .bool], []⟩
noncomputable def C_q14z : Code := bodyOf Tryd.f23
noncomputable def M_q14z : List (Nat × ArgM) := []
instance : DfOk M_q14z := .none rfl
noncomputable def O_q14z {ρ : Type} (n : Nat) : Orc ρ := orcNil
omit [QuietD Tryd.prog] [UDef] [UTabs] in
theorem i0l {ρ : Type} (n : Nat) : (O_q14z n : Orc ρ).ok Tryd.prog := a0e
noncomputable def T_q14z_s0 : Tm := ⟨[], [(0, (.lst .i64)), (1, (.lst .i64)), (12, .i64), (13, .i64)], [], []⟩
noncomputable def u0r : Tm := ⟨[], [], [], []⟩
noncomputable def m0w : Tm := ⟨[], [(4, .bool)], [], []⟩
noncomputable def f1h {ρ : Type} (n : Nat) : LOrc ρ := a0c
omit [Tabs] [QuietD Tryd.prog] [UDef] [UTabs] in
theorem f1v {ρ : Type} (n : Nat) (rec : T_q14z_s0.den → Option ρ) kx kr s : dStep Tryd.prog 26 TT M_q14z (O_q14z n) (f1h n) (evDraw Tryd.prog 26 TT M_q14z (O_q14z n)) 0 (lbody 1000 C_q14z 0) T_q14z_s0 u0r m0w ⟨[], [], []⟩ rec kx kr s = s0i n rec kx kr s := by kernel_rfl
noncomputable def L_q14z {ρ : Type} (n : Nat) : LOrc ρ := a0i 0 (loopL 26 0 n T_q14z_s0 u0r m0w ⟨[], [], []⟩ (s0i n)) (a0c)
omit [Tabs] [QuietD Tryd.prog] [UDef] [UTabs] in
theorem e_q14z (n : Nat) (x) : evF Tryd.prog 26 TT M_q14z F_q14z (O_q14z n) (L_q14z n) (evDraw Tryd.prog 26 TT M_q14z (O_q14z n)) ⟨[], [], []⟩ [.tmp 4] C_q14z x = q14z n x := by kernel_rfl
omit [UDef] [UTabs] in
theorem o1p (n : Nat) : Contract Tryd.prog 23 F_q14z (q14z n) :=
 Contract.of_ev (c := C_q14z) (N := 26) Tryd.func23 (by kernel_rfl) (by kernel_rfl) (by kernel_rfl) (by kernel_rfl) (i0l n) (a0j (i0l n) (by kernel_rfl)) (.of (l := [(0, (lbody 1000 C_q14z 0))]) (by kernel_rfl) ⟨.head (a0f (i0l n) (a0j (i0l n) (by kernel_rfl)) (.of (l := []) (by kernel_rfl) trivial) (f1v n)), trivial⟩) (e_q14z n)
noncomputable def C_q4z : Code := bodyOf Tryd.f47
noncomputable def M_q4z : List (Nat × ArgM) := [(23, ⟨[], [], [], true⟩)]
instance : DfOk M_q4z := .none rfl
noncomputable def O_q4z {ρ : Type} (n : Nat) : Orc ρ := a0d 23 F_q14z (q14z n) (orcNil)
omit [UDef] [UTabs] in
theorem a1c {ρ : Type} (n : Nat) : (O_q4z n : Orc ρ).ok Tryd.prog := a0a (by kernel_rfl) (o1p n) (a0e)
noncomputable def T_q4z_s0 : Tm := ⟨[(2, .fn 23)], [(1, (.lst (.lst .i64))), (15, (.lst (.lst .i64))), (16, .i64), (17, .i64)], [], []⟩
noncomputable def a1u : Tm := ⟨[], [], [], []⟩
noncomputable def r0o : Tm := ⟨[], [(6, .bool)], [], []⟩
noncomputable def l1e {ρ : Type} (n : Nat) : LOrc ρ := a0c
omit [Tabs] [QuietD Tryd.prog] [UDef] [UTabs] in
theorem l1v {ρ : Type} (n : Nat) (rec : T_q4z_s0.den → Option ρ) kx kr s : dStep Tryd.prog 32 TT M_q4z (O_q4z n) (l1e n) a0g 0 (lbody 1000 C_q4z 0) T_q4z_s0 a1u r0o ⟨[], [], []⟩ rec kx kr s = q4z_s0 n rec kx kr s := by kernel_rfl
noncomputable def L_q4z {ρ : Type} (n : Nat) : LOrc ρ := a0i 0 (loopL 32 0 n T_q4z_s0 a1u r0o ⟨[], [], []⟩ (q4z_s0 n)) (a0c)
omit [Tabs] [QuietD Tryd.prog] [UDef] [UTabs] in
theorem e_q4z (n : Nat) (x) : evF Tryd.prog 32 TT M_q4z F_q4z (O_q4z n) (L_q4z n) a0g ⟨[], [], []⟩ [.tmp 6] C_q4z x = q4z n x := by kernel_rfl
omit [UDef] [UTabs] in
theorem ok_q4z (n : Nat) : Contract Tryd.prog 47 F_q4z (q4z n) :=
 Contract.of_ev (c := C_q4z) (N := 32) Tryd.func47 (by kernel_rfl) (by kernel_rfl) (by kernel_rfl) (by kernel_rfl) (a1c n) a0b (.of (l := [(0, (lbody 1000 C_q4z 0))]) (by kernel_rfl) ⟨.head (a0f (a1c n) a0b (.of (l := []) (by kernel_rfl) trivial) (l1v n)), trivial⟩) (e_q4z n)
noncomputable def C_q15z : Code := bodyOf Tryd.f13
noncomputable def M_q15z : List (Nat × ArgM) := [(47, ⟨[], [], [], true⟩)]
instance : DfOk M_q15z := .none rfl
noncomputable def O_q15z {ρ : Type} (n : Nat) : Orc ρ := a0d 46 F_q26z (q26z) (a0d 45 F_q23z (q23z) (a0d 21 F_q18z (q18z) (a0d 12 e0j (a0x n) (a0d 47 F_q4z (q4z n) (orcNil)))))
omit [UDef] in
theorem f1r {ρ : Type} (n : Nat) : (O_q15z n : Orc ρ).ok Tryd.prog := a0a (by kernel_rfl) (p1p) (a0a (by kernel_rfl) (p1b) (a0a (by kernel_rfl) (o1e) (a0a (by kernel_rfl) (k0d n) (a0a (by kernel_rfl) (ok_q4z n) (a0e)))))
noncomputable def L_q15z {ρ : Type} (n : Nat) : LOrc ρ := a0c
omit [Tabs] [QuietD Tryd.prog] [UDef] [UTabs] in
theorem e_q15z (n : Nat) (x) : evF Tryd.prog 32 TT M_q15z F_q15z (O_q15z n) (L_q15z n) a0g ⟨[], [], []⟩ [.tmp 0] C_q15z x = q15z n x := by kernel_rfl
omit [UDef] in
theorem o1d (n : Nat) : Contract Tryd.prog 13 F_q15z (q15z n) :=
 Contract.of_ev (c := C_q15z) (N := 32) Tryd.func13 (by kernel_rfl) (by kernel_rfl) (by kernel_rfl) (by kernel_rfl) (f1r n) a0b (.of (l := []) (by kernel_rfl) trivial) (e_q15z n)
noncomputable def F_q11z : FnT := ⟨2, ⟨[], [(0, .query), (1, .graph)], [], []⟩, [.v .bool], []⟩
noncomputable def F_q13z : FnT := ⟨1, ⟨[], [(0, (.lst (.lst .i64)))], [], []⟩, [.v (.lst .i64)], []⟩
noncomputable def F_q10z : FnT := ⟨2, ⟨[(0, .nils)], [(1, .i64)], [], []⟩, [.ref (.own 22)], [(22, .arr 3 .i64)]⟩
noncomputable def C_q10z : Code := bodyOf Tryd.f48
noncomputable def M_q10z : List (Nat × ArgM) := [(999999999, ⟨[1], [], [], false⟩)]
instance : DfOk M_q10z := .none rfl
noncomputable def O_q10z {ρ : Type} : Orc ρ := orcNil
omit [QuietD Tryd.prog] [UDef] [UTabs] in
theorem e1u {ρ : Type} : (O_q10z : Orc ρ).ok Tryd.prog := a0e
noncomputable def L_q10z {ρ : Type} : LOrc ρ := a0c
omit [Tabs] [QuietD Tryd.prog] [UDef] [UTabs] in
theorem e_q10z (x) : evF Tryd.prog 27 TT M_q10z F_q10z (O_q10z) (L_q10z) a0g ⟨[], [(4, 22, 3, 1)], []⟩ [.tmp 4] C_q10z x = q10z x := by kernel_rfl
omit [UDef] [UTabs] in
theorem p1g : Contract Tryd.prog 48 F_q10z (q10z) :=
 Contract.of_ev (c := C_q10z) (N := 27) Tryd.func48 (by kernel_rfl) (by kernel_rfl) (by kernel_rfl) (by kernel_rfl) (e1u) a0b (.of (l := []) (by kernel_rfl) trivial) (e_q10z)
noncomputable def C_q13z : Code := bodyOf Tryd.f14
noncomputable def M_q13z : List (Nat × ArgM) := [(48, ⟨[], [], [22], false⟩)]
instance : DfOk M_q13z := .none rfl
noncomputable def O_q13z {ρ : Type} (n : Nat) : Orc ρ := a0d 48 F_q10z (q10z) (orcNil)
omit [UDef] [UTabs] in
theorem m0y {ρ : Type} (n : Nat) : (O_q13z n : Orc ρ).ok Tryd.prog := a0a (by kernel_rfl) (p1g) (a0e)
noncomputable def T_q13z_s0 : Tm := ⟨[], [(0, (.lst (.lst .i64))), (3, .i64), (9, (.lst (.lst .i64))), (10, .i64), (11, .i64)], [], []⟩
noncomputable def t0z : Tm := ⟨[], [(0, (.lst (.lst .i64))), (3, .i64)], [], []⟩
noncomputable def j0b : Tm := ⟨[], [], [], []⟩
noncomputable def j1i {ρ : Type} (n : Nat) : LOrc ρ := a0c
omit [Tabs] [QuietD Tryd.prog] [UDef] [UTabs] in
theorem i1x {ρ : Type} (n : Nat) (rec : T_q13z_s0.den → Option ρ) kx kr s : dStep Tryd.prog 36 TT M_q13z (O_q13z n) (j1i n) a0g 0 (lbody 1000 C_q13z 0) T_q13z_s0 t0z j0b ⟨[], [], []⟩ rec kx kr s = q0t n rec kx kr s := by kernel_rfl
noncomputable def T_q13z_s2 : Tm := ⟨[(6, .own 24)], [(25, (.lst (.lst .i64))), (26, .i64), (27, .i64)], [(24, .arr 3 .i64)], []⟩
noncomputable def t0o : Tm := ⟨[(6, .own 24)], [], [(24, .arr 3 .i64)], []⟩
noncomputable def h0a : Tm := ⟨[], [], [], []⟩
noncomputable def h1k {ρ : Type} (n : Nat) : LOrc ρ := a0c
omit [Tabs] [QuietD Tryd.prog] [UDef] [UTabs] in
theorem g1k {ρ : Type} (n : Nat) (rec : T_q13z_s2.den → Option ρ) kx kr s : dStep Tryd.prog 36 TT M_q13z (O_q13z n) (h1k n) a0g 2 (lbody 1000 C_q13z 1) T_q13z_s2 t0o h0a ⟨[], [(6, 6, 3, 1)], []⟩ rec kx kr s = q0m n rec kx kr s := by kernel_rfl
noncomputable def L_q13z {ρ : Type} (n : Nat) : LOrc ρ := a0i 0 (loopL 36 0 n T_q13z_s0 t0z j0b ⟨[], [], []⟩ (q0t n)) (a0i 2 (loopL 36 2 n T_q13z_s2 t0o h0a ⟨[], [(6, 6, 3, 1)], []⟩ (q0m n)) (a0c))
omit [Tabs] [QuietD Tryd.prog] [UDef] [UTabs] in
theorem e_q13z (n : Nat) (x) : evF Tryd.prog 36 TT M_q13z F_q13z (O_q13z n) (L_q13z n) a0g ⟨[], [], []⟩ [.tmp 2] C_q13z x = q13z n x := by kernel_rfl
omit [UDef] [UTabs] in
theorem n1p (n : Nat) : Contract Tryd.prog 14 F_q13z (q13z n) :=
 Contract.of_ev (c := C_q13z) (N := 36) Tryd.func14 (by kernel_rfl) (by kernel_rfl) (by kernel_rfl) (by kernel_rfl) (m0y n) a0b (.of (l := [(0, (lbody 1000 C_q13z 0)), (2, (lbody 1000 C_q13z 1))]) (by kernel_rfl) ⟨.head (a0f (m0y n) a0b (.of (l := []) (by kernel_rfl) trivial) (i1x n)), ⟨.tail rfl (.head (a0f (m0y n) a0b (.of (l := []) (by kernel_rfl) trivial) (g1k n))), trivial⟩⟩) (e_q13z n)
noncomputable def F_q3z : FnT := ⟨3, ⟨[(2, .fn 16)], [(0, (.lst (.lst .i64))), (1, (.lst .i64))], [], []⟩, [.v .i64, .v .bool], []⟩
noncomputable def F_q12z : FnT := ⟨2, ⟨[], [(0, (.lst .i64)), (1, (.lst .i64))], [], []⟩, [.v .i64], []⟩
noncomputable def C_q12z : Code := bodyOf Tryd.f16
noncomputable def M_q12z : List (Nat × ArgM) := [(49, ⟨[], [], [], true⟩)]
instance : DfOk M_q12z := .none rfl
noncomputable def O_q12z {ρ : Type} (n : Nat) : Orc ρ := a0d 49 F_q25z (q25z) (orcNil)
omit [UDef] [UTabs] in
theorem v0m {ρ : Type} (n : Nat) : (O_q12z n : Orc ρ).ok Tryd.prog := a0a (by kernel_rfl) (q0h) (a0e)
noncomputable def T_q12z_s0 : Tm := ⟨[], [(0, (.lst .i64)), (1, (.lst .i64)), (9, (.lst .i64)), (10, .i64), (11, .i64)], [], []⟩
noncomputable def u0a : Tm := ⟨[], [(0, (.lst .i64)), (1, (.lst .i64))], [], []⟩
noncomputable def i0b : Tm := ⟨[], [(4, .i64)], [], []⟩
noncomputable def j1v {ρ : Type} (n : Nat) : LOrc ρ := a0c
omit [Tabs] [QuietD Tryd.prog] [UDef] [UTabs] in
theorem f1s {ρ : Type} (n : Nat) (rec : T_q12z_s0.den → Option ρ) kx kr s : dStep Tryd.prog 36 TT M_q12z (O_q12z n) (j1v n) a0g 0 (lbody 1000 C_q12z 0) T_q12z_s0 u0a i0b ⟨[], [], []⟩ rec kx kr s = r0m n rec kx kr s := by kernel_rfl
noncomputable def L_q12z {ρ : Type} (n : Nat) : LOrc ρ := a0i 0 (loopL 36 0 n T_q12z_s0 u0a i0b ⟨[], [], []⟩ (r0m n)) (a0c)
omit [Tabs] [QuietD Tryd.prog] [UDef] [UTabs] in
theorem e_q12z (n : Nat) (x) : evF Tryd.prog 36 TT M_q12z F_q12z (O_q12z n) (L_q12z n) a0g ⟨[], [], []⟩ [.tmp 4] C_q12z x = q12z n x := by kernel_rfl
omit [UDef] [UTabs] in
theorem o1b (n : Nat) : Contract Tryd.prog 16 F_q12z (q12z n) :=
 Contract.of_ev (c := C_q12z) (N := 36) Tryd.func16 (by kernel_rfl) (by kernel_rfl) (by kernel_rfl) (by kernel_rfl) (v0m n) a0b (.of (l := [(0, (lbody 1000 C_q12z 0))]) (by kernel_rfl) ⟨.head (a0f (v0m n) a0b (.of (l := []) (by kernel_rfl) trivial) (f1s n)), trivial⟩) (e_q12z n)
noncomputable def C_q3z : Code := bodyOf Tryd.f15
noncomputable def M_q3z : List (Nat × ArgM) := [(16, ⟨[], [], [], true⟩)]
instance : DfOk M_q3z := .none rfl
noncomputable def O_q3z {ρ : Type} (n : Nat) : Orc ρ := a0d 16 F_q12z (q12z n) (orcNil)
omit [UDef] [UTabs] in
theorem a1l {ρ : Type} (n : Nat) : (O_q3z n : Orc ρ).ok Tryd.prog := a0a (by kernel_rfl) (o1b n) (a0e)
noncomputable def T_q3z_s0 : Tm := ⟨[(2, .fn 16)], [(0, (.lst (.lst .i64))), (1, (.lst .i64)), (8, .i64), (9, .i64), (10, .i64)], [], []⟩
noncomputable def a1p : Tm := ⟨[(2, .fn 16)], [(0, (.lst (.lst .i64))), (1, (.lst .i64)), (8, .i64), (9, .i64)], [], []⟩
noncomputable def z0x : Tm := ⟨[], [], [], []⟩
noncomputable def n1f {ρ : Type} (n : Nat) : LOrc ρ := a0c
omit [Tabs] [QuietD Tryd.prog] [UDef] [UTabs] in
theorem l1y {ρ : Type} (n : Nat) (rec : T_q3z_s0.den → Option ρ) kx kr s : dStep Tryd.prog 49 TT M_q3z (O_q3z n) (n1f n) a0g 0 (lbody 1000 C_q3z 0) T_q3z_s0 a1p z0x ⟨[], [], []⟩ rec kx kr s = q3z_s0 n rec kx kr s := by kernel_rfl
noncomputable def L_q3z {ρ : Type} (n : Nat) : LOrc ρ := a0i 0 (loopL 49 0 n T_q3z_s0 a1p z0x ⟨[], [], []⟩ (q3z_s0 n)) (a0c)
omit [Tabs] [QuietD Tryd.prog] [UDef] [UTabs] in
theorem e_q3z (n : Nat) (x) : evF Tryd.prog 49 TT M_q3z F_q3z (O_q3z n) (L_q3z n) a0g ⟨[], [], []⟩ [.tmp 6, .tmp 7] C_q3z x = q3z n x := by kernel_rfl
omit [UDef] [UTabs] in
theorem ok_q3z (n : Nat) : Contract Tryd.prog 15 F_q3z (q3z n) :=
 Contract.of_ev (c := C_q3z) (N := 49) Tryd.func15 (by kernel_rfl) (by kernel_rfl) (by kernel_rfl) (by kernel_rfl) (a1l n) a0b (.of (l := [(0, (lbody 1000 C_q3z 0))]) (by kernel_rfl) ⟨.head (a0f (a1l n) a0b (.of (l := []) (by kernel_rfl) trivial) (l1y n)), trivial⟩) (e_q3z n)
noncomputable def C_q11z : Code := bodyOf Tryd.f4
noncomputable def M_q11z : List (Nat × ArgM) := [(13, ⟨[], [], [], true⟩), (15, ⟨[], [], [], true⟩)]
instance : DfOk M_q11z := .none rfl
noncomputable def O_q11z {ρ : Type} (n : Nat) : Orc ρ := a0d 12 e0j (a0x n) (a0d 13 F_q15z (q15z n) (a0d 14 F_q13z (q13z n) (a0d 15 F_q3z (q3z n) (orcNil))))
omit [UDef] in
theorem h0h {ρ : Type} (n : Nat) : (O_q11z n : Orc ρ).ok Tryd.prog := a0a (by kernel_rfl) (k0d n) (a0a (by kernel_rfl) (o1d n) (a0a (by kernel_rfl) (n1p n) (a0a (by kernel_rfl) (ok_q3z n) (a0e))))
noncomputable def T_q11z_s0 : Tm := ⟨[], [(7, .i64), (9, (.lst (.lst .i64))), (59, (.lst (.lst .i64))), (60, .i64), (61, .i64)], [], []⟩
noncomputable def t0f : Tm := ⟨[], [], [], []⟩
noncomputable def i0f : Tm := ⟨[], [(4, .bool)], [], []⟩
noncomputable def j1x {ρ : Type} (n : Nat) : LOrc ρ := a0c
omit [Tabs] [QuietD Tryd.prog] [UDef] [UTabs] in
theorem k1i {ρ : Type} (n : Nat) (rec : T_q11z_s0.den → Option ρ) kx kr s : dStep Tryd.prog 86 TT M_q11z (O_q11z n) (j1x n) (evDraw Tryd.prog 86 TT M_q11z (O_q11z n)) 0 (lbody 1000 C_q11z 0) T_q11z_s0 t0f i0f ⟨[], [], []⟩ rec kx kr s = s0j n rec kx kr s := by kernel_rfl
noncomputable def L_q11z {ρ : Type} (n : Nat) : LOrc ρ := a0i 0 (loopL 86 0 n T_q11z_s0 t0f i0f ⟨[], [], []⟩ (s0j n)) (a0c)
omit [Tabs] [QuietD Tryd.prog] [UDef] [UTabs] in
theorem e_q11z (n : Nat) (x) : evF Tryd.prog 86 TT M_q11z F_q11z (O_q11z n) (L_q11z n) (evDraw Tryd.prog 86 TT M_q11z (O_q11z n)) ⟨[], [], []⟩ [.tmp 4] C_q11z x = q11z n x := by kernel_rfl
omit [UDef] in
theorem o1h (n : Nat) : Contract Tryd.prog 4 F_q11z (q11z n) :=
 Contract.of_ev (c := C_q11z) (N := 86) Tryd.func4 (by kernel_rfl) (by kernel_rfl) (by kernel_rfl) (by kernel_rfl) (h0h n) (a0j (h0h n) (by kernel_rfl)) (.of (l := [(0, (lbody 1000 C_q11z 0))]) (by kernel_rfl) ⟨.head (a0f (h0h n) (a0j (h0h n) (by kernel_rfl)) (.of (l := []) (by kernel_rfl) trivial) (k1i n)), trivial⟩) (e_q11z n)
end Go.Proofs.YtmpcgmlknbmpbaaDoor

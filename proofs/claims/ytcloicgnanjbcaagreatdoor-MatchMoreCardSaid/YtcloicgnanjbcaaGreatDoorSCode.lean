import Derived.Test.YtcloicgnanjbcaaGreatDoorSBase
import Derived.KernelRfl
import Derived.Test.YtcloicgnanjbcaaGreatDoorEvDraw
import Derived.Test.YtcloicgnanjbcaaGreatDoorPCode
noncomputable section
namespace Go.Proofs.YtcloicgnanjbcaaGreatDoor
open Go Esp Ev Pure
set_option linter.unusedSimpArgs false
set_option linter.unusedVariables false
set_option maxRecDepth 100000
set_option maxHeartbeats 1000000
def okds:List FuncId:= []
theorem t2v: ∀g∈okds,∀(args:Array Value) (w:World),(callFunc g args).run Tryz.prog w= .ok (.enter g args) w∧CallsD Tryz.prog g args .returning w fun e u w' =>u= .returning∧(∃v,e= .returned v)∧w' =w:=by
 intro g hg args w
 cases hg
variable [Tabs]
class UDef:Prop where
 ok: ∀g∈([]:List Nat),g∈Tabs.okd
variable [QuietD Tryz.prog] [UDef] [UTabs]
def TT:List (TypeId×Ty):= [(2, .i64),(3, .i64),(4, .bool),(5, .u8),(6, .u8),(9, .str),(10, .str),(11, .str),(12, .u64),(21, .i32),(22,(.lst .dot)),(23,(.lst .arrow)),(24,(.lst .term)),(25,(.lst .item)),(27, .query),(28,(.lst .node)),(29,(.lst .edg)),(31, .graph),(32,(.lst (.lst .i64))),(33, .i64),(37,(.lst .i64)),(40,(.lst .val)),(42, .val),(43,(.lst .str)),(44,(.lst .prp)),(46, .opn),(47,(.lst .opn)),(67, .dot),(69, .arrow),(71, .term),(73, .item),(84, .u64),(86,(.map .str .i64)),(89,(.lst (.map .pair .bool))),(90,(.map .pair .bool)),(93, .node),(95, .pair),(98, .edg),(103,(.map .str .bool)),(111,(.lst (.map .pair .bool))),(114,(.map .pair .bool)),(150,(.lst .i64)),(152, .prp),(155,(.map .i64 (.lst .i64))),(157, .pair),(159, .envr),(165, .i64),(172, .u32),(174, .u64),(193,(.lst .u32)),(202, .u64),(224,(.lst .u8)),(246,(.lst .i32)),(267, .u8),(268, .u8),(271, .i32),(272, .i32)]
def h2a:FnT:=⟨5,⟨[], [(0, .query),(1, .graph),(2, .i64),(3, .i64),(4, .str)], [], []⟩, [.v .bool], []⟩
def g0g:FnT:=⟨2,⟨[], [(0, .query),(1, .graph)], [], []⟩, [.v (.lst (.lst .i64)), .v .i64], []⟩
def z1z:FnT:=⟨1,⟨[], [(0, .query)], [], []⟩, [.v .i64], []⟩
def g0p:FnT:=⟨1,⟨[], [(0, .str)], [], []⟩, [.v .bool], []⟩
def l0e:FnT:=⟨1,⟨[], [(0, .str)], [], []⟩, [.v .bool], []⟩
def l1w:Code:=a0n Tryz.f41
def q1u:List (Nat×ArgM):= []
instance:DfOk q1u:= .none rfl
def z1h{ρ:Type}(n:Nat):Orc ρ:=a0m
omit [QuietD Tryz.prog] [UDef] [UTabs]in
theorem b1q{ρ:Type}(n:Nat):(z1h n:Orc ρ).ok Tryz.prog:=a0e
def T_q60z_s0:Tm:=⟨[], [(0, .str),(14, .i64),(15, .i64)], [], []⟩
def z0t:Tm:=⟨[], [], [], []⟩
def p0k:Tm:=⟨[], [(2, .bool)], [], []⟩
def s1c{ρ:Type}(n:Nat):LOrc ρ:=a0d
omit [Tabs] [QuietD Tryz.prog] [UDef] [UTabs]in
theorem w1r{ρ:Type}(n:Nat)(rec:T_q60z_s0.den→Option ρ) kx kr s:b0o Tryz.prog 54 TT q1u (z1h n) (s1c n) a0g 0 (a0q 1000 l1w 0) T_q60z_s0 z0t p0k ⟨[], [], []⟩ rec kx kr s=y0x n rec kx kr s:=by kernel_rfl
def p2n{ρ:Type}(n:Nat):LOrc ρ:=a0j 0 (b0m 54 0 n T_q60z_s0 z0t p0k ⟨[], [], []⟩ (y0x n)) (a0d)
omit [Tabs] [QuietD Tryz.prog] [UDef] [UTabs]in
theorem o2l(n:Nat)(x):evF Tryz.prog 54 TT q1u l0e (z1h n) (p2n n) a0g ⟨[], [], []⟩ [.tmp 2] l1w x=q60z n x:=by kernel_rfl
omit [UDef] [UTabs]in
theorem j0x(n:Nat):Contract Tryz.prog 41 l0e (q60z n):=
 Contract.of_ev (c:=l1w) (N:=54) Tryz.func41 (by kernel_rfl) (by kernel_rfl) (by kernel_rfl) (by kernel_rfl) (b1q n) a0b (.of (l:= [(0,(a0q 1000 l1w 0))]) (by kernel_rfl) ⟨.head (a0f (b1q n) a0b (.of (l:= []) (by kernel_rfl) trivial) (w1r n)),trivial⟩) (o2l n)
def w1b:FnT:=⟨1,⟨[], [(0, .str)], [], []⟩, [.v .bool], []⟩
def w1h:FnT:=⟨2,⟨[], [(0,(.lst .str)),(1, .str)], [], []⟩, [.v .bool], []⟩
def l2o:FnT:=⟨2,⟨[], [(0,(.lst .str)),(1, .str)], [], []⟩, [.v .i64], []⟩
def e2h:Code:=a0n Tryz.f73
def l2y:List (Nat×ArgM):= []
instance:DfOk l2y:= .none rfl
def m2z{ρ:Type}(n:Nat):Orc ρ:=a0m
omit [QuietD Tryz.prog] [UDef] [UTabs]in
theorem j1r{ρ:Type}(n:Nat):(m2z n:Orc ρ).ok Tryz.prog:=a0e
def T_q9z_s0:Tm:=⟨[], [(0,(.lst .str)),(1, .str),(7, .i64),(8, .i64)], [], []⟩
def m1o:Tm:=⟨[], [], [], []⟩
def v0w:Tm:=⟨[], [(4, .i64)], [], []⟩
def a2r{ρ:Type}(n:Nat):LOrc ρ:=a0d
omit [Tabs] [QuietD Tryz.prog] [UDef] [UTabs]in
theorem c2n{ρ:Type}(n:Nat)(rec:T_q9z_s0.den→Option ρ) kx kr s:b0o Tryz.prog 19 TT l2y (m2z n) (a2r n) a0g 0 (a0q 1000 e2h 0) T_q9z_s0 m1o v0w ⟨[], [], []⟩ rec kx kr s=j1x n rec kx kr s:=by kernel_rfl
def u2i{ρ:Type}(n:Nat):LOrc ρ:=a0j 0 (b0m 19 0 n T_q9z_s0 m1o v0w ⟨[], [], []⟩ (j1x n)) (a0d)
omit [Tabs] [QuietD Tryz.prog] [UDef] [UTabs]in
theorem u2x(n:Nat)(x):evF Tryz.prog 19 TT l2y l2o (m2z n) (u2i n) a0g ⟨[], [], []⟩ [.tmp 4] e2h x=q9z n x:=by kernel_rfl
omit [UDef] [UTabs]in
theorem r2d(n:Nat):Contract Tryz.prog 73 l2o (q9z n):=
 Contract.of_ev (c:=e2h) (N:=19) Tryz.func73 (by kernel_rfl) (by kernel_rfl) (by kernel_rfl) (by kernel_rfl) (j1r n) a0b (.of (l:= [(0,(a0q 1000 e2h 0))]) (by kernel_rfl) ⟨.head (a0f (j1r n) a0b (.of (l:= []) (by kernel_rfl) trivial) (c2n n)),trivial⟩) (u2x n)
def q2k:Code:=a0n Tryz.f35
def r2v:List (Nat×ArgM):= [(73,⟨[], [], [],true⟩)]
instance:DfOk r2v:= .none rfl
def s2a{ρ:Type}(n:Nat):Orc ρ:=a0c 73 l2o (q9z n) (a0m)
omit [UDef] [UTabs]in
theorem b2z{ρ:Type}(n:Nat):(s2a n:Orc ρ).ok Tryz.prog:=a0a (by kernel_rfl) (r2d n) (a0e)
def u2l{ρ:Type}(n:Nat):LOrc ρ:=a0d
omit [Tabs] [QuietD Tryz.prog] [UDef] [UTabs]in
theorem u2g(n:Nat)(x):evF Tryz.prog 9 TT r2v w1h (s2a n) (u2l n) a0g ⟨[], [], []⟩ [.tmp 4] q2k x=q7z n x:=by kernel_rfl
omit [UDef] [UTabs]in
theorem s1t(n:Nat):Contract Tryz.prog 35 w1h (q7z n):=
 Contract.of_ev (c:=q2k) (N:=9) Tryz.func35 (by kernel_rfl) (by kernel_rfl) (by kernel_rfl) (by kernel_rfl) (b2z n) a0b (.of (l:= []) (by kernel_rfl) trivial) (u2g n)
def h2p:Code:=a0n Tryz.f82
def i2l:List (Nat×ArgM):= [(35,⟨[], [], [],true⟩)]
instance:DfOk i2l:= .none rfl
def i2c{ρ:Type}(n:Nat):Orc ρ:=a0c 35 w1h (q7z n) (a0m)
omit [UDef] [UTabs]in
theorem q1p{ρ:Type}(n:Nat):(i2c n:Orc ρ).ok Tryz.prog:=a0a (by kernel_rfl) (s1t n) (a0e)
def o2s{ρ:Type}(n:Nat):LOrc ρ:=a0d
omit [Tabs] [QuietD Tryz.prog] [UDef] [UTabs]in
theorem t2m(n:Nat)(x):evF Tryz.prog 6 TT i2l w1b (i2c n) (o2s n) a0g ⟨[], [], []⟩ [.tmp 2] h2p x=q40z n x:=by kernel_rfl
omit [UDef] [UTabs]in
theorem l2s(n:Nat):Contract Tryz.prog 82 w1b (q40z n):=
 Contract.of_ev (c:=h2p) (N:=6) Tryz.func82 (by kernel_rfl) (by kernel_rfl) (by kernel_rfl) (by kernel_rfl) (q1p n) a0b (.of (l:= []) (by kernel_rfl) trivial) (t2m n)
def s0m:Code:=a0n Tryz.f40
def r0b:List (Nat×ArgM):= [(41,⟨[], [], [],true⟩),(82,⟨[], [], [],true⟩)]
instance:DfOk r0b:= .none rfl
def p0g{ρ:Type}(n:Nat):Orc ρ:=a0c 41 l0e (q60z n) (a0c 82 w1b (q40z n) (a0m))
omit [UDef] [UTabs]in
theorem t0b{ρ:Type}(n:Nat):(p0g n:Orc ρ).ok Tryz.prog:=a0a (by kernel_rfl) (j0x n) (a0a (by kernel_rfl) (l2s n) (a0e))
def g1f{ρ:Type}(n:Nat):LOrc ρ:=a0d
omit [Tabs] [QuietD Tryz.prog] [UDef] [UTabs]in
theorem g1q(n:Nat)(x):evF Tryz.prog 10 TT r0b g0p (p0g n) (g1f n) a0g ⟨[], [], []⟩ [.tmp 2] s0m x=b0q n x:=by kernel_rfl
omit [UDef] [UTabs]in
theorem o0g(n:Nat):Contract Tryz.prog 40 g0p (b0q n):=
 Contract.of_ev (c:=s0m) (N:=10) Tryz.func40 (by kernel_rfl) (by kernel_rfl) (by kernel_rfl) (by kernel_rfl) (t0b n) a0b (.of (l:= []) (by kernel_rfl) trivial) (g1q n)
def p1t:FnT:=⟨1,⟨[], [(0, .query)], [], []⟩, [.v (.map .str .bool), .v .i64], []⟩
def v0d:Code:=a0n Tryz.f42
def l1q:List (Nat×ArgM):= []
instance:DfOk l1q:= .none rfl
def j1d{ρ:Type}(n:Nat):Orc ρ:=a0m
omit [QuietD Tryz.prog] [UDef] [UTabs]in
theorem r0o{ρ:Type}(n:Nat):(j1d n:Orc ρ).ok Tryz.prog:=a0e
def T_q48z_s0:Tm:=⟨[(1, .ptr 1 0),(4, .mpr 11)], [(13,(.lst .dot)),(14, .i64),(15, .i64)], [(1, .box [.d .query]),(11, .mp 103 .str .bool false)], []⟩
def c1y:Tm:=⟨[(1, .ptr 1 0),(4, .mpr 11)], [], [(1, .box [.d .query]),(11, .mp 103 .str .bool false)], []⟩
def k0p:Tm:=⟨[], [], [], []⟩
def r1j{ρ:Type}(n:Nat):LOrc ρ:=a0d
omit [Tabs] [QuietD Tryz.prog] [UDef] [UTabs]in
theorem y1z{ρ:Type}(n:Nat)(rec:T_q48z_s0.den→Option ρ) kx kr s:b0o Tryz.prog 49 TT l1q (j1d n) (r1j n) a0g 0 (a0q 1000 v0d 0) T_q48z_s0 c1y k0p ⟨[], [], []⟩ rec kx kr s=y0p n rec kx kr s:=by kernel_rfl
def T_q48z_s2:Tm:=⟨[(4, .mpr 11)], [(27,(.lst .arrow)),(28, .i64),(29, .i64)], [(11, .mp 103 .str .bool false)], []⟩
def c1i:Tm:=⟨[(4, .mpr 11)], [], [(11, .mp 103 .str .bool false)], []⟩
def m0l:Tm:=⟨[], [(2,(.map .str .bool)),(3, .i64)], [], []⟩
def v1t{ρ:Type}(n:Nat):LOrc ρ:=a0d
omit [Tabs] [QuietD Tryz.prog] [UDef] [UTabs]in
theorem v1y{ρ:Type}(n:Nat)(rec:T_q48z_s2.den→Option ρ) kx kr s:b0o Tryz.prog 49 TT l1q (j1d n) (v1t n) a0g 2 (a0q 1000 v0d 1) T_q48z_s2 c1i m0l ⟨[], [], []⟩ rec kx kr s=y0g n rec kx kr s:=by kernel_rfl
def p2x{ρ:Type}(n:Nat):LOrc ρ:=a0j 0 (b0m 49 0 n T_q48z_s0 c1y k0p ⟨[], [], []⟩ (y0p n)) (a0j 2 (b0m 49 2 n T_q48z_s2 c1i m0l ⟨[], [], []⟩ (y0g n)) (a0d))
omit [Tabs] [QuietD Tryz.prog] [UDef] [UTabs]in
theorem s2y(n:Nat)(x):evF Tryz.prog 49 TT l1q p1t (j1d n) (p2x n) a0g ⟨[], [], []⟩ [.tmp 2, .tmp 3] v0d x=q48z n x:=by kernel_rfl
omit [UDef] [UTabs]in
theorem l2p(n:Nat):Contract Tryz.prog 42 p1t (q48z n):=
 Contract.of_ev (c:=v0d) (N:=49) Tryz.func42 (by kernel_rfl) (by kernel_rfl) (by kernel_rfl) (by kernel_rfl) (r0o n) a0b (.of (l:= [(0,(a0q 1000 v0d 0)),(2,(a0q 1000 v0d 1))]) (by kernel_rfl) ⟨.head (a0f (r0o n) a0b (.of (l:= []) (by kernel_rfl) trivial) (y1z n)),⟨.tail rfl (.head (a0f (r0o n) a0b (.of (l:= []) (by kernel_rfl) trivial) (v1y n))),trivial⟩⟩) (s2y n)
def w1y:FnT:=⟨2,⟨[], [(0, .term),(1,(.map .str .bool))], [], []⟩, [.v .i64], []⟩
def r0w:FnT:=⟨3,⟨[], [(0, .term),(1,(.map .str .bool)),(2, .i64)], [], []⟩, [.v .i64], []⟩
def e1i:FnT:=⟨1,⟨[], [(0, .val)], [], []⟩, [.v .i64], []⟩
def s0h:FnT:=⟨2,⟨[], [(0, .val),(1, .i64)], [], []⟩, [.v .i64], []⟩
def j1u:Code:=a0n Tryz.f106
def p1c:List (Nat×ArgM):= [(135,⟨[], [], [],true⟩),(106,⟨[], [], [],true⟩)]
instance:DfOk p1c:= .none rfl
def q1y{ρ:Type}(self_q55z:Ev.Val×Int×Unit→Option (Int×Unit))(n:Nat):Orc ρ:=a0c 135 v1z (u0q) (a0c 106 s0h (self_q55z) (a0m))
omit [QuietD Tryz.prog] [UDef]in
theorem d1d{ρ:Type}(self_q55z:Ev.Val×Int×Unit→Option (Int×Unit))(h_q55z:Contract Tryz.prog 106 s0h self_q55z)(n:Nat):(q1y self_q55z n:Orc ρ).ok Tryz.prog:=a0a (by kernel_rfl) (w1n) (a0a (by kernel_rfl) (h_q55z) (a0e))
def T_q55z_s1:Tm:=⟨[(2, .ptr 2 0)], [(1, .i64),(90,(.lst .val)),(91, .i64),(92, .i64)], [(2, .box [.d .val])], []⟩
def b1f:Tm:=⟨[(2, .ptr 2 0)], [], [(2, .box [.d .val])], []⟩
def q0h:Tm:=⟨[], [(4, .i64)], [], []⟩
def v1a{ρ:Type}(self_q55z:Ev.Val×Int×Unit→Option (Int×Unit))(n:Nat):LOrc ρ:=a0d
omit [Tabs] [QuietD Tryz.prog] [UDef] [UTabs]in
theorem a2b{ρ:Type}(self_q55z:Ev.Val×Int×Unit→Option (Int×Unit))(n:Nat)(rec:T_q55z_s1.den→Option ρ) kx kr s:b0o Tryz.prog 114 TT p1c (q1y self_q55z n) (v1a self_q55z n) a0g 1 (a0q 1000 j1u 0) T_q55z_s1 b1f q0h ⟨[], [], []⟩ rec kx kr s=j0d self_q55z n rec kx kr s:=by kernel_rfl
def r2a{ρ:Type}(self_q55z:Ev.Val×Int×Unit→Option (Int×Unit))(n:Nat):LOrc ρ:=a0j 1 (b0m 114 1 n T_q55z_s1 b1f q0h ⟨[], [], []⟩ (j0d self_q55z n)) (a0d)
omit [Tabs] [QuietD Tryz.prog] [UDef] [UTabs]in
theorem s2g(self_q55z:Ev.Val×Int×Unit→Option (Int×Unit))(n:Nat)(x):evF Tryz.prog 114 TT p1c s0h (q1y self_q55z n) (r2a self_q55z n) a0g ⟨[], [], []⟩ [.tmp 4] j1u x=k1t self_q55z n x:=by kernel_rfl
omit [UDef]in
theorem e2q(self_q55z:Ev.Val×Int×Unit→Option (Int×Unit))(h_q55z:Contract Tryz.prog 106 s0h self_q55z)(n:Nat):Contract Tryz.prog 106 s0h (k1t self_q55z n):=
 Contract.of_ev (c:=j1u) (N:=114) Tryz.func106 (by kernel_rfl) (by kernel_rfl) (by kernel_rfl) (by kernel_rfl) (d1d self_q55z h_q55z n) a0b (.of (l:= [(1,(a0q 1000 j1u 0))]) (by kernel_rfl) ⟨.head (a0f (d1d self_q55z h_q55z n) a0b (.of (l:= []) (by kernel_rfl) trivial) (a2b self_q55z n)),trivial⟩) (s2g self_q55z n)
omit [UDef]in
theorem s1k: ∀n,Contract Tryz.prog 106 s0h (q55z n)
 | 0=>fun _ _ h=>by cases h
 | n+1=>e2q _ (s1k n) n
def f2d:Code:=a0n Tryz.f61
def f2u:List (Nat×ArgM):= [(106,⟨[], [], [],true⟩)]
instance:DfOk f2u:= .none rfl
def g2g{ρ:Type}(n:Nat):Orc ρ:=a0c 106 s0h (q55z n) (a0m)
omit [UDef]in
theorem u1h{ρ:Type}(n:Nat):(g2g n:Orc ρ).ok Tryz.prog:=a0a (by kernel_rfl) (s1k n) (a0e)
def n2p{ρ:Type}(n:Nat):LOrc ρ:=a0d
omit [Tabs] [QuietD Tryz.prog] [UDef] [UTabs]in
theorem p2v(n:Nat)(x):evF Tryz.prog 5 TT f2u e1i (g2g n) (n2p n) a0g ⟨[], [], []⟩ [.tmp 2] f2d x=q53z n x:=by kernel_rfl
omit [UDef]in
theorem h1v(n:Nat):Contract Tryz.prog 61 e1i (q53z n):=
 Contract.of_ev (c:=f2d) (N:=5) Tryz.func61 (by kernel_rfl) (by kernel_rfl) (by kernel_rfl) (by kernel_rfl) (u1h n) a0b (.of (l:= []) (by kernel_rfl) trivial) (p2v n)
def z1c:FnT:=⟨1,⟨[], [(0, .str)], [], []⟩, [.v .i64, .v .bool], []⟩
def j2d:Code:=a0n Tryz.f127
def f2h:List (Nat×ArgM):= []
instance:DfOk f2h:= .none rfl
def g2l{ρ:Type}:Orc ρ:=a0m
omit [QuietD Tryz.prog] [UDef] [UTabs]in
theorem s1m{ρ:Type}:(g2l:Orc ρ).ok Tryz.prog:=a0e
def q2i{ρ:Type}:LOrc ρ:=a0d
omit [Tabs] [QuietD Tryz.prog] [UDef] [UTabs]in
theorem o2w(x):evF Tryz.prog 25 TT f2h z1c (g2l) (q2i) a0g ⟨[], [], []⟩ [.tmp 2, .tmp 3] j2d x=q62z x:=by kernel_rfl
omit [UDef] [UTabs]in
theorem k2r:Contract Tryz.prog 127 z1c (q62z):=
 Contract.of_ev (c:=j2d) (N:=25) Tryz.func127 (by kernel_rfl) (by kernel_rfl) (by kernel_rfl) (by kernel_rfl) (s1m) a0b (.of (l:= []) (by kernel_rfl) trivial) (o2w)
def j1e:Code:=a0n Tryz.f83
def t1t:List (Nat×ArgM):= [(61,⟨[], [], [],true⟩),(40,⟨[], [], [],true⟩),(41,⟨[], [], [],true⟩),(83,⟨[], [], [],true⟩),(127,⟨[], [], [],true⟩)]
instance:DfOk t1t:= .none rfl
def y1r{ρ:Type}(self_q63z:Ev.Term×(List (ByteArray×Bool))×Int×Unit→Option (Int×Unit))(n:Nat):Orc ρ:=a0c 61 e1i (q53z n) (a0c 40 g0p (b0q n) (a0c 41 l0e (q60z n) (a0c 83 r0w (self_q63z) (a0c 127 z1c (q62z) (a0m)))))
omit [UDef]in
theorem a1e{ρ:Type}(self_q63z:Ev.Term×(List (ByteArray×Bool))×Int×Unit→Option (Int×Unit))(h_q63z:Contract Tryz.prog 83 r0w self_q63z)(n:Nat):(y1r self_q63z n:Orc ρ).ok Tryz.prog:=a0a (by kernel_rfl) (h1v n) (a0a (by kernel_rfl) (o0g n) (a0a (by kernel_rfl) (j0x n) (a0a (by kernel_rfl) (h_q63z) (a0a (by kernel_rfl) (k2r) (a0e)))))
def T_q63z_s1:Tm:=⟨[(3, .ptr 3 0)], [(1,(.map .str .bool)),(2, .i64),(147,(.lst .term)),(148, .i64),(149, .i64)], [(3, .box [.d .term])], []⟩
def z0p:Tm:=⟨[(3, .ptr 3 0)], [(1,(.map .str .bool))], [(3, .box [.d .term])], []⟩
def m0e:Tm:=⟨[], [(6, .i64)], [], []⟩
def w1w{ρ:Type}(self_q63z:Ev.Term×(List (ByteArray×Bool))×Int×Unit→Option (Int×Unit))(n:Nat):LOrc ρ:=a0d
omit [Tabs] [QuietD Tryz.prog] [UDef] [UTabs]in
theorem t1r{ρ:Type}(self_q63z:Ev.Term×(List (ByteArray×Bool))×Int×Unit→Option (Int×Unit))(n:Nat)(rec:T_q63z_s1.den→Option ρ) kx kr s:b0o Tryz.prog 196 TT t1t (y1r self_q63z n) (w1w self_q63z n) a0g 1 (a0q 1000 j1e 0) T_q63z_s1 z0p m0e ⟨[], [], []⟩ rec kx kr s=w0x self_q63z n rec kx kr s:=by kernel_rfl
def r2p{ρ:Type}(self_q63z:Ev.Term×(List (ByteArray×Bool))×Int×Unit→Option (Int×Unit))(n:Nat):LOrc ρ:=a0j 1 (b0m 196 1 n T_q63z_s1 z0p m0e ⟨[], [], []⟩ (w0x self_q63z n)) (a0d)
omit [Tabs] [QuietD Tryz.prog] [UDef] [UTabs]in
theorem r2f(self_q63z:Ev.Term×(List (ByteArray×Bool))×Int×Unit→Option (Int×Unit))(n:Nat)(x):evF Tryz.prog 196 TT t1t r0w (y1r self_q63z n) (r2p self_q63z n) a0g ⟨[], [], []⟩ [.tmp 6] j1e x=k1i self_q63z n x:=by kernel_rfl
omit [UDef]in
theorem a2w(self_q63z:Ev.Term×(List (ByteArray×Bool))×Int×Unit→Option (Int×Unit))(h_q63z:Contract Tryz.prog 83 r0w self_q63z)(n:Nat):Contract Tryz.prog 83 r0w (k1i self_q63z n):=
 Contract.of_ev (c:=j1e) (N:=196) Tryz.func83 (by kernel_rfl) (by kernel_rfl) (by kernel_rfl) (by kernel_rfl) (a1e self_q63z h_q63z n) a0b (.of (l:= [(1,(a0q 1000 j1e 0))]) (by kernel_rfl) ⟨.head (a0f (a1e self_q63z h_q63z n) a0b (.of (l:= []) (by kernel_rfl) trivial) (t1r self_q63z n)),trivial⟩) (r2f self_q63z n)
omit [UDef]in
theorem y1s: ∀n,Contract Tryz.prog 83 r0w (q63z n)
 | 0=>fun _ _ h=>by cases h
 | n+1=>a2w _ (y1s n) n
def h2o:Code:=a0n Tryz.f43
def g2d:List (Nat×ArgM):= [(83,⟨[], [], [],true⟩)]
instance:DfOk g2d:= .none rfl
def j2e{ρ:Type}(n:Nat):Orc ρ:=a0c 83 r0w (q63z n) (a0m)
omit [UDef]in
theorem y1i{ρ:Type}(n:Nat):(j2e n:Orc ρ).ok Tryz.prog:=a0a (by kernel_rfl) (y1s n) (a0e)
def t2w{ρ:Type}(n:Nat):LOrc ρ:=a0d
omit [Tabs] [QuietD Tryz.prog] [UDef] [UTabs]in
theorem n2w(n:Nat)(x):evF Tryz.prog 8 TT g2d w1y (j2e n) (t2w n) a0g ⟨[], [], []⟩ [.tmp 4] h2o x=q61z n x:=by kernel_rfl
omit [UDef]in
theorem j2n(n:Nat):Contract Tryz.prog 43 w1y (q61z n):=
 Contract.of_ev (c:=h2o) (N:=8) Tryz.func43 (by kernel_rfl) (by kernel_rfl) (by kernel_rfl) (by kernel_rfl) (y1i n) a0b (.of (l:= []) (by kernel_rfl) trivial) (n2w n)
def i0t:Code:=a0n Tryz.f14
def t0y:List (Nat×ArgM):= [(40,⟨[], [], [],true⟩),(41,⟨[], [], [],true⟩),(43,⟨[], [], [],true⟩),(35,⟨[], [], [],true⟩)]
instance:DfOk t0y:= .none rfl
def u0p{ρ:Type}(n:Nat):Orc ρ:=a0c 40 g0p (b0q n) (a0c 41 l0e (q60z n) (a0c 42 p1t (q48z n) (a0c 43 w1y (q61z n) (a0c 35 w1h (q7z n) (a0m)))))
omit [UDef]in
theorem h0o{ρ:Type}(n:Nat):(u0p n:Orc ρ).ok Tryz.prog:=a0a (by kernel_rfl) (o0g n) (a0a (by kernel_rfl) (j0x n) (a0a (by kernel_rfl) (l2p n) (a0a (by kernel_rfl) (j2n n) (a0a (by kernel_rfl) (s1t n) (a0e)))))
def T_q47z_s0:Tm:=⟨[(1, .ptr 1 0)], [(53,(.lst .dot)),(54, .i64),(55, .i64)], [(1, .box [.d .query])], []⟩
def a1y:Tm:=⟨[(1, .ptr 1 0)], [], [(1, .box [.d .query])], []⟩
def l0n:Tm:=⟨[], [(2, .i64)], [], []⟩
def t1q{ρ:Type}(n:Nat):LOrc ρ:=a0d
omit [Tabs] [QuietD Tryz.prog] [UDef] [UTabs]in
theorem q1t{ρ:Type}(n:Nat)(rec:T_q47z_s0.den→Option ρ) kx kr s:b0o Tryz.prog 168 TT t0y (u0p n) (t1q n) a0g 0 (a0q 1000 i0t 0) T_q47z_s0 a1y l0n ⟨[], [], []⟩ rec kx kr s=x0d n rec kx kr s:=by kernel_rfl
def T_q47z_s2:Tm:=⟨[(1, .ptr 1 0)], [(81,(.lst .arrow)),(82, .i64),(83, .i64)], [(1, .box [.d .query])], []⟩
def d1j:Tm:=⟨[(1, .ptr 1 0)], [], [(1, .box [.d .query])], []⟩
def k0g:Tm:=⟨[], [(2, .i64)], [], []⟩
def r1p{ρ:Type}(n:Nat):LOrc ρ:=a0d
omit [Tabs] [QuietD Tryz.prog] [UDef] [UTabs]in
theorem p1k{ρ:Type}(n:Nat)(rec:T_q47z_s2.den→Option ρ) kx kr s:b0o Tryz.prog 168 TT t0y (u0p n) (r1p n) a0g 2 (a0q 1000 i0t 1) T_q47z_s2 d1j k0g ⟨[], [], []⟩ rec kx kr s=w0y n rec kx kr s:=by kernel_rfl
def T_q47z_s4:Tm:=⟨[(1, .ptr 1 0)], [(7,(.map .str .bool)),(121,(.lst .term)),(122, .i64),(123, .i64)], [(1, .box [.d .query])], []⟩
def d1l:Tm:=⟨[(1, .ptr 1 0)], [(7,(.map .str .bool))], [(1, .box [.d .query])], []⟩
def l0l:Tm:=⟨[], [(2, .i64)], [], []⟩
def y1y{ρ:Type}(n:Nat):LOrc ρ:=a0d
omit [Tabs] [QuietD Tryz.prog] [UDef] [UTabs]in
theorem x1b{ρ:Type}(n:Nat)(rec:T_q47z_s4.den→Option ρ) kx kr s:b0o Tryz.prog 168 TT t0y (u0p n) (y1y n) a0g 4 (a0q 1000 i0t 2) T_q47z_s4 d1l l0l ⟨[], [], []⟩ rec kx kr s=y0c n rec kx kr s:=by kernel_rfl
def T_q47z_s6:Tm:=⟨[(12, .mpr 134)], [(7,(.map .str .bool)),(136,(.lst .item)),(137, .i64),(138, .i64)], [(134, .mp 103 .str .bool false)], []⟩
def d1i:Tm:=⟨[], [], [], []⟩
def l0y:Tm:=⟨[], [(2, .i64)], [], []⟩
def y1l{ρ:Type}(n:Nat):LOrc ρ:=a0d
omit [Tabs] [QuietD Tryz.prog] [UDef] [UTabs]in
theorem r1b{ρ:Type}(n:Nat)(rec:T_q47z_s6.den→Option ρ) kx kr s:b0o Tryz.prog 168 TT t0y (u0p n) (y1l n) a0g 6 (a0q 1000 i0t 3) T_q47z_s6 d1i l0y ⟨[], [], []⟩ rec kx kr s=w0o n rec kx kr s:=by kernel_rfl
def p2c{ρ:Type}(n:Nat):LOrc ρ:=a0j 0 (b0m 168 0 n T_q47z_s0 a1y l0n ⟨[], [], []⟩ (x0d n)) (a0j 2 (b0m 168 2 n T_q47z_s2 d1j k0g ⟨[], [], []⟩ (w0y n)) (a0j 4 (b0m 168 4 n T_q47z_s4 d1l l0l ⟨[], [], []⟩ (y0c n)) (a0j 6 (b0m 168 6 n T_q47z_s6 d1i l0y ⟨[], [], []⟩ (w0o n)) (a0d))))
omit [Tabs] [QuietD Tryz.prog] [UDef] [UTabs]in
theorem p2w(n:Nat)(x):evF Tryz.prog 168 TT t0y z1z (u0p n) (p2c n) a0g ⟨[], [], []⟩ [.tmp 2] i0t x=q47z n x:=by kernel_rfl
omit [UDef]in
theorem l2k(n:Nat):Contract Tryz.prog 14 z1z (q47z n):=
 Contract.of_ev (c:=i0t) (N:=168) Tryz.func14 (by kernel_rfl) (by kernel_rfl) (by kernel_rfl) (by kernel_rfl) (h0o n) a0b (.of (l:= [(0,(a0q 1000 i0t 0)),(2,(a0q 1000 i0t 1)),(4,(a0q 1000 i0t 2)),(6,(a0q 1000 i0t 3))]) (by kernel_rfl) ⟨.head (a0f (h0o n) a0b (.of (l:= []) (by kernel_rfl) trivial) (q1t n)),⟨.tail rfl (.head (a0f (h0o n) a0b (.of (l:= []) (by kernel_rfl) trivial) (p1k n))),⟨.tail rfl (.tail rfl (.head (a0f (h0o n) a0b (.of (l:= []) (by kernel_rfl) trivial) (x1b n)))),⟨.tail rfl (.tail rfl (.tail rfl (.head (a0f (h0o n) a0b (.of (l:= []) (by kernel_rfl) trivial) (r1b n))))),trivial⟩⟩⟩⟩) (p2w n)
def k1x:FnT:=⟨1,⟨[], [(0, .graph)], [], []⟩, [.v .i64], []⟩
def m1k:FnT:=⟨1,⟨[], [(0,(.lst .str))], [], []⟩, [.v .i64], []⟩
def m1q:Code:=a0n Tryz.f45
def s1d:List (Nat×ArgM):= [(41,⟨[], [], [],true⟩)]
instance:DfOk s1d:= .none rfl
def x1c{ρ:Type}(n:Nat):Orc ρ:=a0c 41 l0e (q60z n) (a0m)
omit [UDef] [UTabs]in
theorem z0k{ρ:Type}(n:Nat):(x1c n:Orc ρ).ok Tryz.prog:=a0a (by kernel_rfl) (j0x n) (a0e)
def T_q42z_s0:Tm:=⟨[], [(0,(.lst .str)),(8,(.lst .str)),(9, .i64),(10, .i64)], [], []⟩
def d1n:Tm:=⟨[], [], [], []⟩
def s0w:Tm:=⟨[], [(2, .i64)], [], []⟩
def z1m{ρ:Type}(n:Nat):LOrc ρ:=a0d
omit [Tabs] [QuietD Tryz.prog] [UDef] [UTabs]in
theorem x1k{ρ:Type}(n:Nat)(rec:T_q42z_s0.den→Option ρ) kx kr s:b0o Tryz.prog 32 TT s1d (x1c n) (z1m n) a0g 0 (a0q 1000 m1q 0) T_q42z_s0 d1n s0w ⟨[], [], []⟩ rec kx kr s=w0s n rec kx kr s:=by kernel_rfl
def p2u{ρ:Type}(n:Nat):LOrc ρ:=a0j 0 (b0m 32 0 n T_q42z_s0 d1n s0w ⟨[], [], []⟩ (w0s n)) (a0d)
omit [Tabs] [QuietD Tryz.prog] [UDef] [UTabs]in
theorem s2w(n:Nat)(x):evF Tryz.prog 32 TT s1d m1k (x1c n) (p2u n) a0g ⟨[], [], []⟩ [.tmp 2] m1q x=q42z n x:=by kernel_rfl
omit [UDef] [UTabs]in
theorem r1i(n:Nat):Contract Tryz.prog 45 m1k (q42z n):=
 Contract.of_ev (c:=m1q) (N:=32) Tryz.func45 (by kernel_rfl) (by kernel_rfl) (by kernel_rfl) (by kernel_rfl) (z0k n) a0b (.of (l:= [(0,(a0q 1000 m1q 0))]) (by kernel_rfl) ⟨.head (a0f (z0k n) a0b (.of (l:= []) (by kernel_rfl) trivial) (x1k n)),trivial⟩) (s2w n)
def d1b:FnT:=⟨1,⟨[], [(0,(.lst .prp))], [], []⟩, [.v .i64], []⟩
def k1s:Code:=a0n Tryz.f46
def a1p:List (Nat×ArgM):= [(41,⟨[], [], [],true⟩),(61,⟨[], [], [],true⟩)]
instance:DfOk a1p:= .none rfl
def e1e{ρ:Type}(n:Nat):Orc ρ:=a0c 41 l0e (q60z n) (a0c 61 e1i (q53z n) (a0m))
omit [UDef]in
theorem l0g{ρ:Type}(n:Nat):(e1e n:Orc ρ).ok Tryz.prog:=a0a (by kernel_rfl) (j0x n) (a0a (by kernel_rfl) (h1v n) (a0e))
def T_q45z_s0:Tm:=⟨[], [(0,(.lst .prp)),(9,(.lst .prp)),(10, .i64),(11, .i64)], [], []⟩
def c1u:Tm:=⟨[], [], [], []⟩
def s0n:Tm:=⟨[], [(2, .i64)], [], []⟩
def r1w{ρ:Type}(n:Nat):LOrc ρ:=a0d
omit [Tabs] [QuietD Tryz.prog] [UDef] [UTabs]in
theorem z1v{ρ:Type}(n:Nat)(rec:T_q45z_s0.den→Option ρ) kx kr s:b0o Tryz.prog 48 TT a1p (e1e n) (r1w n) (a0y Tryz.prog 48 TT a1p (e1e n)) 0 (a0q 1000 k1s 0) T_q45z_s0 c1u s0n ⟨[], [], []⟩ rec kx kr s=y0l n rec kx kr s:=by kernel_rfl
def q2o{ρ:Type}(n:Nat):LOrc ρ:=a0j 0 (b0m 48 0 n T_q45z_s0 c1u s0n ⟨[], [], []⟩ (y0l n)) (a0d)
omit [Tabs] [QuietD Tryz.prog] [UDef] [UTabs]in
theorem n2f(n:Nat)(x):evF Tryz.prog 48 TT a1p d1b (e1e n) (q2o n) (a0y Tryz.prog 48 TT a1p (e1e n)) ⟨[], [], []⟩ [.tmp 2] k1s x=q45z n x:=by kernel_rfl
omit [UDef]in
theorem h1c(n:Nat):Contract Tryz.prog 46 d1b (q45z n):=
 Contract.of_ev (c:=k1s) (N:=48) Tryz.func46 (by kernel_rfl) (by kernel_rfl) (by kernel_rfl) (by kernel_rfl) (l0g n) (a0o (l0g n) (by kernel_rfl)) (.of (l:= [(0,(a0q 1000 k1s 0))]) (by kernel_rfl) ⟨.head (a0f (l0g n) (a0o (l0g n) (by kernel_rfl)) (.of (l:= []) (by kernel_rfl) trivial) (z1v n)),trivial⟩) (n2f n)
def x1o:FnT:=⟨1,⟨[], [(0,(.lst .i64))], [], []⟩, [.v .i64], []⟩
def l1a:Code:=a0n Tryz.f44
def t1k:List (Nat×ArgM):= []
instance:DfOk t1k:= .none rfl
def v1j{ρ:Type}(n:Nat):Orc ρ:=a0m
omit [QuietD Tryz.prog] [UDef] [UTabs]in
theorem d1q{ρ:Type}(n:Nat):(v1j n:Orc ρ).ok Tryz.prog:=a0e
def T_q21z_s0:Tm:=⟨[], [(3, .i64),(6,(.lst .i64)),(7, .i64),(8, .i64)], [], []⟩
def b1m:Tm:=⟨[], [(3, .i64)], [], []⟩
def p0s:Tm:=⟨[], [(2, .i64)], [], []⟩
def y1n{ρ:Type}(n:Nat):LOrc ρ:=a0d
omit [Tabs] [QuietD Tryz.prog] [UDef] [UTabs]in
theorem r1d{ρ:Type}(n:Nat)(rec:T_q21z_s0.den→Option ρ) kx kr s:b0o Tryz.prog 18 TT t1k (v1j n) (y1n n) a0g 0 (a0q 1000 l1a 0) T_q21z_s0 b1m p0s ⟨[], [], []⟩ rec kx kr s=g0x n rec kx kr s:=by kernel_rfl
def r2x{ρ:Type}(n:Nat):LOrc ρ:=a0j 0 (b0m 18 0 n T_q21z_s0 b1m p0s ⟨[], [], []⟩ (g0x n)) (a0d)
omit [Tabs] [QuietD Tryz.prog] [UDef] [UTabs]in
theorem q2g(n:Nat)(x):evF Tryz.prog 18 TT t1k x1o (v1j n) (r2x n) a0g ⟨[], [], []⟩ [.tmp 2] l1a x=q21z n x:=by kernel_rfl
omit [UDef] [UTabs]in
theorem l2z(n:Nat):Contract Tryz.prog 44 x1o (q21z n):=
 Contract.of_ev (c:=l1a) (N:=18) Tryz.func44 (by kernel_rfl) (by kernel_rfl) (by kernel_rfl) (by kernel_rfl) (d1q n) a0b (.of (l:= [(0,(a0q 1000 l1a 0))]) (by kernel_rfl) ⟨.head (a0f (d1q n) a0b (.of (l:= []) (by kernel_rfl) trivial) (r1d n)),trivial⟩) (q2g n)
def c1x:FnT:=⟨2,⟨[], [(0, .graph),(1, .i64)], [], []⟩, [.v .i64], []⟩
def m2n:FnT:=⟨3,⟨[(2, .fn 85)], [(0,(.lst .node)),(1, .i64)], [], []⟩, [.v .i64, .v .bool], []⟩
def s1n:FnT:=⟨2,⟨[], [(0, .node),(1, .i64)], [], []⟩, [.v .i64], []⟩
def u0u:FnT:=⟨2,⟨[], [(0, .i64),(1, .i64)], [], []⟩, [.v .i64], []⟩
def z1t:FnT:=⟨1,⟨[], [(0, .i64)], [], []⟩, [.v .bool], []⟩
def g2w:Code:=a0n Tryz.f66
def f2x:List (Nat×ArgM):= []
instance:DfOk f2x:= .none rfl
def f2n{ρ:Type}:Orc ρ:=a0m
omit [QuietD Tryz.prog] [UDef] [UTabs]in
theorem z1d{ρ:Type}:(f2n:Orc ρ).ok Tryz.prog:=a0e
def q2a{ρ:Type}:LOrc ρ:=a0d
omit [Tabs] [QuietD Tryz.prog] [UDef] [UTabs]in
theorem q2m(x):evF Tryz.prog 6 TT f2x z1t (f2n) (q2a) a0g ⟨[], [], []⟩ [.tmp 2] g2w x=q38z x:=by kernel_rfl
omit [UDef] [UTabs]in
theorem j2j:Contract Tryz.prog 66 z1t (q38z):=
 Contract.of_ev (c:=g2w) (N:=6) Tryz.func66 (by kernel_rfl) (by kernel_rfl) (by kernel_rfl) (by kernel_rfl) (z1d) a0b (.of (l:= []) (by kernel_rfl) trivial) (q2m)
def g2j:Code:=a0n Tryz.f31
def i2j:List (Nat×ArgM):= [(66,⟨[], [], [],true⟩)]
instance:DfOk i2j:= .none rfl
def g2n{ρ:Type}:Orc ρ:=a0c 66 z1t (q38z) (a0m)
omit [UDef] [UTabs]in
theorem z1g{ρ:Type}:(g2n:Orc ρ).ok Tryz.prog:=a0a (by kernel_rfl) (j2j) (a0e)
def p2m{ρ:Type}:LOrc ρ:=a0d
omit [Tabs] [QuietD Tryz.prog] [UDef] [UTabs]in
theorem o2c(x):evF Tryz.prog 20 TT i2j u0u (g2n) (p2m) a0g ⟨[], [], []⟩ [.tmp 4] g2j x=q25z x:=by kernel_rfl
omit [UDef] [UTabs]in
theorem y0f:Contract Tryz.prog 31 u0u (q25z):=
 Contract.of_ev (c:=g2j) (N:=20) Tryz.func31 (by kernel_rfl) (by kernel_rfl) (by kernel_rfl) (by kernel_rfl) (z1g) a0b (.of (l:= []) (by kernel_rfl) trivial) (o2c)
def i2o:Code:=a0n Tryz.f85
def i2f:List (Nat×ArgM):= [(31,⟨[], [], [],true⟩)]
instance:DfOk i2f:= .none rfl
def h2b{ρ:Type}:Orc ρ:=a0c 31 u0u (q25z) (a0m)
omit [UDef] [UTabs]in
theorem t1e{ρ:Type}:(h2b:Orc ρ).ok Tryz.prog:=a0a (by kernel_rfl) (y0f) (a0e)
def t2b{ρ:Type}:LOrc ρ:=a0d
omit [Tabs] [QuietD Tryz.prog] [UDef] [UTabs]in
theorem s2n(x):evF Tryz.prog 9 TT i2f s1n (h2b) (t2b) a0g ⟨[], [], []⟩ [.tmp 4] i2o x=q41z x:=by kernel_rfl
omit [UDef] [UTabs]in
theorem m2x:Contract Tryz.prog 85 s1n (q41z):=
 Contract.of_ev (c:=i2o) (N:=9) Tryz.func85 (by kernel_rfl) (by kernel_rfl) (by kernel_rfl) (by kernel_rfl) (t1e) a0b (.of (l:= []) (by kernel_rfl) trivial) (s2n)
def a2x:Code:=a0n Tryz.f84
def m2w:List (Nat×ArgM):= [(85,⟨[], [], [],true⟩)]
instance:DfOk m2w:= .none rfl
def j2z{ρ:Type}(n:Nat):Orc ρ:=a0c 85 s1n (q41z) (a0m)
omit [UDef] [UTabs]in
theorem l1d{ρ:Type}(n:Nat):(j2z n:Orc ρ).ok Tryz.prog:=a0a (by kernel_rfl) (m2x) (a0e)
def T_q2z_s0:Tm:=⟨[(2, .fn 85)], [(0,(.lst .node)),(1, .i64),(8, .i64),(9, .i64),(10, .i64)], [], []⟩
def l1p:Tm:=⟨[(2, .fn 85)], [(0,(.lst .node)),(1, .i64),(8, .i64),(9, .i64)], [], []⟩
def l1x:Tm:=⟨[], [], [], []⟩
def e2f{ρ:Type}(n:Nat):LOrc ρ:=a0d
omit [Tabs] [QuietD Tryz.prog] [UDef] [UTabs]in
theorem c2k{ρ:Type}(n:Nat)(rec:T_q2z_s0.den→Option ρ) kx kr s:b0o Tryz.prog 49 TT m2w (j2z n) (e2f n) a0g 0 (a0q 1000 a2x 0) T_q2z_s0 l1p l1x ⟨[], [], []⟩ rec kx kr s=j1p n rec kx kr s:=by kernel_rfl
def u2z{ρ:Type}(n:Nat):LOrc ρ:=a0j 0 (b0m 49 0 n T_q2z_s0 l1p l1x ⟨[], [], []⟩ (j1p n)) (a0d)
omit [Tabs] [QuietD Tryz.prog] [UDef] [UTabs]in
theorem u2e(n:Nat)(x):evF Tryz.prog 49 TT m2w m2n (j2z n) (u2z n) a0g ⟨[], [], []⟩ [.tmp 6, .tmp 7] a2x x=q2z n x:=by kernel_rfl
omit [UDef] [UTabs]in
theorem q2x(n:Nat):Contract Tryz.prog 84 m2n (q2z n):=
 Contract.of_ev (c:=a2x) (N:=49) Tryz.func84 (by kernel_rfl) (by kernel_rfl) (by kernel_rfl) (by kernel_rfl) (l1d n) a0b (.of (l:= [(0,(a0q 1000 a2x 0))]) (by kernel_rfl) ⟨.head (a0f (l1d n) a0b (.of (l:= []) (by kernel_rfl) trivial) (c2k n)),trivial⟩) (u2e n)
def g2r:Code:=a0n Tryz.f47
def h2u:List (Nat×ArgM):= [(84,⟨[], [], [],true⟩)]
instance:DfOk h2u:= .none rfl
def f2m{ρ:Type}(n:Nat):Orc ρ:=a0c 84 m2n (q2z n) (a0m)
omit [UDef] [UTabs]in
theorem x1t{ρ:Type}(n:Nat):(f2m n:Orc ρ).ok Tryz.prog:=a0a (by kernel_rfl) (q2x n) (a0e)
def q2c{ρ:Type}(n:Nat):LOrc ρ:=a0d
omit [Tabs] [QuietD Tryz.prog] [UDef] [UTabs]in
theorem s2q(n:Nat)(x):evF Tryz.prog 17 TT h2u c1x (f2m n) (q2c n) a0g ⟨[], [], []⟩ [.tmp 4] g2r x=q59z n x:=by kernel_rfl
omit [UDef] [UTabs]in
theorem h1w(n:Nat):Contract Tryz.prog 47 c1x (q59z n):=
 Contract.of_ev (c:=g2r) (N:=17) Tryz.func47 (by kernel_rfl) (by kernel_rfl) (by kernel_rfl) (by kernel_rfl) (x1t n) a0b (.of (l:= []) (by kernel_rfl) trivial) (s2q n)
def u0o:Code:=a0n Tryz.f15
def p0a:List (Nat×ArgM):= [(45,⟨[], [], [],true⟩),(46,⟨[], [], [],true⟩),(44,⟨[], [], [],true⟩),(47,⟨[], [], [],true⟩),(41,⟨[], [], [],true⟩)]
instance:DfOk p0a:= .none rfl
def p0m{ρ:Type}(n:Nat):Orc ρ:=a0c 45 m1k (q42z n) (a0c 46 d1b (q45z n) (a0c 44 x1o (q21z n) (a0c 47 c1x (q59z n) (a0c 41 l0e (q60z n) (a0m)))))
omit [UDef]in
theorem f0m{ρ:Type}(n:Nat):(p0m n:Orc ρ).ok Tryz.prog:=a0a (by kernel_rfl) (r1i n) (a0a (by kernel_rfl) (h1c n) (a0a (by kernel_rfl) (l2z n) (a0a (by kernel_rfl) (h1w n) (a0a (by kernel_rfl) (j0x n) (a0e)))))
def T_q44z_s0:Tm:=⟨[(1, .ptr 1 0)], [(3, .i64),(22,(.lst .node)),(23, .i64),(24, .i64)], [(1, .box [.d .graph])], []⟩
def c1a:Tm:=⟨[(1, .ptr 1 0)], [(3, .i64)], [(1, .box [.d .graph])], []⟩
def r0u:Tm:=⟨[], [(2, .i64)], [], []⟩
def a2k{ρ:Type}(n:Nat):LOrc ρ:=a0d
omit [Tabs] [QuietD Tryz.prog] [UDef] [UTabs]in
theorem r1a{ρ:Type}(n:Nat)(rec:T_q44z_s0.den→Option ρ) kx kr s:b0o Tryz.prog 103 TT p0a (p0m n) (a2k n) (a0y Tryz.prog 103 TT p0a (p0m n)) 0 (a0q 1000 u0o 0) T_q44z_s0 c1a r0u ⟨[], [], []⟩ rec kx kr s=x0a n rec kx kr s:=by kernel_rfl
def T_q44z_s2:Tm:=⟨[(1, .ptr 1 0)], [(3, .i64),(7, .i64),(48,(.lst .edg)),(49, .i64),(50, .i64)], [(1, .box [.d .graph])], []⟩
def b1o:Tm:=⟨[(1, .ptr 1 0)], [(3, .i64),(7, .i64)], [(1, .box [.d .graph])], []⟩
def q0b:Tm:=⟨[], [(2, .i64)], [], []⟩
def q1f{ρ:Type}(n:Nat):LOrc ρ:=a0d
omit [Tabs] [QuietD Tryz.prog] [UDef] [UTabs]in
theorem q1w{ρ:Type}(n:Nat)(rec:T_q44z_s2.den→Option ρ) kx kr s:b0o Tryz.prog 103 TT p0a (p0m n) (q1f n) (a0y Tryz.prog 103 TT p0a (p0m n)) 2 (a0q 1000 u0o 1) T_q44z_s2 b1o q0b ⟨[], [], []⟩ rec kx kr s=w0z n rec kx kr s:=by kernel_rfl
def p2i{ρ:Type}(n:Nat):LOrc ρ:=a0j 0 (b0m 103 0 n T_q44z_s0 c1a r0u ⟨[], [], []⟩ (x0a n)) (a0j 2 (b0m 103 2 n T_q44z_s2 b1o q0b ⟨[], [], []⟩ (w0z n)) (a0d))
omit [Tabs] [QuietD Tryz.prog] [UDef] [UTabs]in
theorem q2q(n:Nat)(x):evF Tryz.prog 103 TT p0a k1x (p0m n) (p2i n) (a0y Tryz.prog 103 TT p0a (p0m n)) ⟨[], [], []⟩ [.tmp 2] u0o x=q44z n x:=by kernel_rfl
omit [UDef]in
theorem z1u(n:Nat):Contract Tryz.prog 15 k1x (q44z n):=
 Contract.of_ev (c:=u0o) (N:=103) Tryz.func15 (by kernel_rfl) (by kernel_rfl) (by kernel_rfl) (by kernel_rfl) (f0m n) (a0o (f0m n) (by kernel_rfl)) (.of (l:= [(0,(a0q 1000 u0o 0)),(2,(a0q 1000 u0o 1))]) (by kernel_rfl) ⟨.head (a0f (f0m n) (a0o (f0m n) (by kernel_rfl)) (.of (l:= []) (by kernel_rfl) trivial) (r1a n)),⟨.tail rfl (.head (a0f (f0m n) (a0o (f0m n) (by kernel_rfl)) (.of (l:= []) (by kernel_rfl) trivial) (q1w n))),trivial⟩⟩) (q2q n)
def j0v:FnT:=⟨2,⟨[], [(0, .graph),(1, .str)], [], []⟩, [.v (.map .pair .bool)], []⟩
def i1j:FnT:=⟨1,⟨[], [(0,(.lst .i64))], [], []⟩, [.ref (.own 5)], [(5, .arr 3 .i64)]⟩
def i2q:Code:=a0n Tryz.f19
def h2t:List (Nat×ArgM):= []
instance:DfOk h2t:= .none rfl
def h2h{ρ:Type}:Orc ρ:=a0m
omit [QuietD Tryz.prog] [UDef] [UTabs]in
theorem w1t{ρ:Type}:(h2h:Orc ρ).ok Tryz.prog:=a0e
def n2z{ρ:Type}:LOrc ρ:=a0d
omit [Tabs] [QuietD Tryz.prog] [UDef] [UTabs]in
theorem q2h(x):evF Tryz.prog 8 TT h2t i1j (h2h) (n2z) a0g ⟨[], [(2,5,3,1)], []⟩ [.tmp 2] i2q x=q10z x:=by kernel_rfl
omit [UDef] [UTabs]in
theorem x1r:Contract Tryz.prog 19 i1j (q10z):=
 Contract.of_ev (c:=i2q) (N:=8) Tryz.func19 (by kernel_rfl) (by kernel_rfl) (by kernel_rfl) (by kernel_rfl) (w1t) a0b (.of (l:= []) (by kernel_rfl) trivial) (q2h)
def d0g:Code:=a0n Tryz.f48
def g0d:List (Nat×ArgM):= [(999999999,⟨[1], [], [],false⟩),(19,⟨[], [], [5],false⟩)]
instance:DfOk g0d:= .none rfl
def g0b{ρ:Type}(n:Nat):Orc ρ:=a0c 86 i2a (o1w) (a0c 19 i1j (q10z) (a0m))
omit [UDef] [UTabs]in
theorem f0g{ρ:Type}(n:Nat):(g0b n:Orc ρ).ok Tryz.prog:=a0a (by kernel_rfl) (e2m) (a0a (by kernel_rfl) (x1r) (a0e))
def T_reach_Set_s2:Tm:=⟨[(6, .mpr 15),(8, .ptr 8 0),(9, .own 27)], [(5,(.map .i64 (.lst .i64))),(17,(.lst .node)),(18, .i64),(19, .i64)], [(8, .box [.d .node]),(15, .mp 114 .pair .bool false),(27, .arr 3 .i64)], []⟩
def j0a:Tm:=⟨[(6, .mpr 15)], [(5,(.map .i64 (.lst .i64))),(17,(.lst .node)),(18, .i64),(19, .i64)], [(15, .mp 114 .pair .bool false)], []⟩
def i0q:Tm:=⟨[], [], [], []⟩
def t0l{ρ:Type}(n:Nat):LOrc ρ:=a0d
omit [Tabs] [QuietD Tryz.prog] [UDef] [UTabs]in
theorem t0c{ρ:Type}(n:Nat)(rec:T_reach_Set_s2.den→Option ρ) kx kr s:b0o Tryz.prog 59 TT g0d (g0b n) (t0l n) a0g 2 (a0q 0 (a0q 1000 d0g 0) 0) T_reach_Set_s2 j0a i0q ⟨[], [(9,9,3,1)], []⟩ rec kx kr s=d0r n rec kx kr s:=by kernel_rfl
def T_reach_Set_s0:Tm:=⟨[(6, .mpr 15)], [(5,(.map .i64 (.lst .i64))),(17,(.lst .node)),(18, .i64),(19, .i64)], [(15, .mp 114 .pair .bool false)], []⟩
def i0z:Tm:=⟨[(6, .mpr 15)], [], [(15, .mp 114 .pair .bool false)], []⟩
def i0u:Tm:=⟨[], [], [], []⟩
def t0o{ρ:Type}(n:Nat):LOrc ρ:=a0j 2 (b0m 59 2 n T_reach_Set_s2 j0a i0q ⟨[], [(9,9,3,1)], []⟩ (d0r n)) (a0d)
omit [Tabs] [QuietD Tryz.prog] [UDef] [UTabs]in
theorem t0q{ρ:Type}(n:Nat)(rec:T_reach_Set_s0.den→Option ρ) kx kr s:b0o Tryz.prog 59 TT g0d (g0b n) (t0o n) a0g 0 (a0q 1000 d0g 0) T_reach_Set_s0 i0z i0u ⟨[], [], []⟩ rec kx kr s=b0x n rec kx kr s:=by kernel_rfl
def f1h{ρ:Type}(n:Nat):LOrc ρ:=a0j 0 (b0m 59 0 n T_reach_Set_s0 i0z i0u ⟨[], [], []⟩ (b0x n)) (a0d)
omit [Tabs] [QuietD Tryz.prog] [UDef] [UTabs]in
theorem h1t(n:Nat)(x):evF Tryz.prog 59 TT g0d j0v (g0b n) (f1h n) a0g ⟨[], [], []⟩ [.tmp 4] d0g x=c0t n x:=by kernel_rfl
omit [UDef] [UTabs]in
theorem a1r(n:Nat):Contract Tryz.prog 48 j0v (c0t n):=
 Contract.of_ev (c:=d0g) (N:=59) Tryz.func48 (by kernel_rfl) (by kernel_rfl) (by kernel_rfl) (by kernel_rfl) (f0g n) a0b (.of (l:= [(0,(a0q 1000 d0g 0))]) (by kernel_rfl) ⟨.head (a0f (f0g n) a0b (.of (l:= [(2,(a0q 0 (a0q 1000 d0g 0) 0))]) (by kernel_rfl) ⟨.head (a0f (f0g n) a0b (.of (l:= []) (by kernel_rfl) trivial) (t0c n)),trivial⟩) (t0q n)),trivial⟩) (h1t n)
def k0a:FnT:=⟨2,⟨[], [(0, .query),(1, .graph)], [], []⟩, [.ref (.ptr 12 0)], [(12, .box [.d .query, .d .graph, .d (.lst (.map .pair .bool))])]⟩
def g0o:Code:=a0n Tryz.f16
def j0l:List (Nat×ArgM):= [(999999999,⟨[1], [], [],false⟩)]
instance:DfOk j0l:= .none rfl
def j0o{ρ:Type}(n:Nat):Orc ρ:=a0c 48 j0v (c0t n) (a0m)
omit [UDef] [UTabs]in
theorem i0l{ρ:Type}(n:Nat):(j0o n:Orc ρ).ok Tryz.prog:=a0a (by kernel_rfl) (a1r n) (a0e)
def T_match_New_s0:Tm:=⟨[(3, .ptr 3 0),(5, .ptr 12 0)], [(14,(.lst .arrow)),(15, .i64),(16, .i64)], [(3, .box [.d .graph]),(12, .box [.d .query, .d .graph, .ref (.own 300488)]),(300488, .arr 114 (.map .pair .bool))], []⟩
def j0b:Tm:=⟨[(5, .ptr 12 0)], [], [(12, .box [.d .query, .d .graph, .ref (.own 300488)]),(300488, .arr 114 (.map .pair .bool))], []⟩
def d0m:Tm:=⟨[], [], [], []⟩
def t0m{ρ:Type}(n:Nat):LOrc ρ:=a0d
omit [Tabs] [QuietD Tryz.prog] [UDef] [UTabs]in
theorem t0d{ρ:Type}(n:Nat)(rec:T_match_New_s0.den→Option ρ) kx kr s:b0o Tryz.prog 38 TT j0l (j0o n) (t0m n) a0g 0 (a0q 1000 g0o 0) T_match_New_s0 j0b d0m ⟨[], [], [(12,8,300488,114,1)]⟩ rec kx kr s=f0c n rec kx kr s:=by kernel_rfl
def h1o{ρ:Type}(n:Nat):LOrc ρ:=a0j 0 (b0m 38 0 n T_match_New_s0 j0b d0m ⟨[], [], [(12,8,300488,114,1)]⟩ (f0c n)) (a0d)
omit [Tabs] [QuietD Tryz.prog] [UDef] [UTabs]in
theorem h1q(n:Nat)(x):evF Tryz.prog 38 TT j0l k0a (j0o n) (h1o n) a0g ⟨[], [], []⟩ [.tmp 4] g0o x=f0j n x:=by kernel_rfl
omit [UDef] [UTabs]in
theorem b1c(n:Nat):Contract Tryz.prog 16 k0a (f0j n):=
 Contract.of_ev (c:=g0o) (N:=38) Tryz.func16 (by kernel_rfl) (by kernel_rfl) (by kernel_rfl) (by kernel_rfl) (i0l n) a0b (.of (l:= [(0,(a0q 1000 g0o 0))]) (by kernel_rfl) ⟨.head (a0f (i0l n) a0b (.of (l:= []) (by kernel_rfl) trivial) (t0d n)),trivial⟩) (h1q n)
def k2w:FnT:=⟨2,⟨[(0, .ptr 1000000 0),(1, .clo 18 [1000016,1000018])], [], [(1000000, .box [.d .query, .d .graph, .d (.lst (.map .pair .bool))]),(1000016, .box [.ref (.own 1000017)]),(1000017, .arr 37 (.lst .i64)),(1000018, .box [.d .bool])], []⟩, [], [(1000000, .box [.d .query, .d .graph, .d (.lst (.map .pair .bool))]),(1000016, .box [.ref (.own 1000017)]),(1000017, .arr 37 (.lst .i64)),(1000018, .box [.d .bool])]⟩
def f1o:FnT:=⟨4,⟨[(0, .ptr 1000000 0),(2, .own 2000016),(3, .clo 18 [1000032,1000034])], [(1, .i64)], [(1000000, .box [.d .query, .d .graph, .d (.lst (.map .pair .bool))]),(2000016, .arr 3 .i64),(1000032, .box [.ref (.own 1000033)]),(1000033, .arr 37 (.lst .i64)),(1000034, .box [.d .bool])], []⟩, [], [(1000000, .box [.d .query, .d .graph, .d (.lst (.map .pair .bool))]),(2000016, .arr 3 .i64),(1000032, .box [.ref (.own 1000033)]),(1000033, .arr 37 (.lst .i64)),(1000034, .box [.d .bool])]⟩
def z1k:FnT:=⟨2,⟨[(0, .ptr 1000000 0),(1, .own 2000016)], [], [(1000000, .box [.d .query, .d .graph, .d (.lst (.map .pair .bool))]),(2000016, .arr 3 .i64)], []⟩, [.v .envr], [(1000000, .box [.d .query, .d .graph, .d (.lst (.map .pair .bool))]),(2000016, .arr 3 .i64)]⟩
def v0q:Code:=a0n Tryz.f87
def p0f:List (Nat×ArgM):= [(999999999,⟨[1], [], [],false⟩)]
instance:DfOk p0f:= .none rfl
def q0c{ρ:Type}(n:Nat):Orc ρ:=a0m
omit [QuietD Tryz.prog] [UDef] [UTabs]in
theorem f0t{ρ:Type}(n:Nat):(q0c n:Orc ρ).ok Tryz.prog:=a0e
def T_q19z_s0:Tm:=⟨[(0, .ptr 1000000 0),(1, .own 2000016),(4, .ptr 4 0),(5, .mpr 10)], [(15,(.lst .dot)),(16, .i64),(17, .i64)], [(4, .box [.d .envr]),(10, .mp 86 .str .i64 false),(1000000, .box [.d .query, .d .graph, .d (.lst (.map .pair .bool))]),(2000016, .arr 3 .i64)], []⟩
def z0j:Tm:=⟨[(0, .ptr 1000000 0),(1, .own 2000016),(4, .ptr 4 0),(5, .mpr 10)], [], [(4, .box [.d .envr]),(10, .mp 86 .str .i64 false),(1000000, .box [.d .query, .d .graph, .d (.lst (.map .pair .bool))]),(2000016, .arr 3 .i64)], []⟩
def l0c:Tm:=⟨[], [], [], []⟩
def y1v{ρ:Type}(n:Nat):LOrc ρ:=a0d
omit [Tabs] [QuietD Tryz.prog] [UDef] [UTabs]in
theorem s1z{ρ:Type}(n:Nat)(rec:T_q19z_s0.den→Option ρ) kx kr s:b0o Tryz.prog 75 TT p0f (q0c n) (y1v n) (a0y Tryz.prog 75 TT p0f (q0c n)) 0 (a0q 1000 v0q 0) T_q19z_s0 z0j l0c ⟨[], [], []⟩ rec kx kr s=w0p n rec kx kr s:=by kernel_rfl
def T_q19z_s2:Tm:=⟨[(0, .ptr 1000000 0),(1, .own 2000016),(4, .ptr 4 0),(5, .mpr 10)], [(44,(.lst .arrow)),(45, .i64),(46, .i64)], [(4, .box [.d .envr]),(10, .mp 86 .str .i64 false),(1000000, .box [.d .query, .d .graph, .d (.lst (.map .pair .bool))]),(2000016, .arr 3 .i64)], []⟩
def e1t:Tm:=⟨[(0, .ptr 1000000 0),(4, .ptr 4 0),(5, .mpr 10)], [], [(4, .box [.d .envr]),(10, .mp 86 .str .i64 false),(1000000, .box [.d .query, .d .graph, .d (.lst (.map .pair .bool))]),(2000016, .arr 3 .i64)], []⟩
def k0q:Tm:=⟨[], [], [], []⟩
def q1i{ρ:Type}(n:Nat):LOrc ρ:=a0d
omit [Tabs] [QuietD Tryz.prog] [UDef] [UTabs]in
theorem w1v{ρ:Type}(n:Nat)(rec:T_q19z_s2.den→Option ρ) kx kr s:b0o Tryz.prog 75 TT p0f (q0c n) (q1i n) (a0y Tryz.prog 75 TT p0f (q0c n)) 2 (a0q 1000 v0q 1) T_q19z_s2 e1t k0q ⟨[], [], []⟩ rec kx kr s=x0r n rec kx kr s:=by kernel_rfl
def t2s{ρ:Type}(n:Nat):LOrc ρ:=a0j 0 (b0m 75 0 n T_q19z_s0 z0j l0c ⟨[], [], []⟩ (w0p n)) (a0j 2 (b0m 75 2 n T_q19z_s2 e1t k0q ⟨[], [], []⟩ (x0r n)) (a0d))
omit [Tabs] [QuietD Tryz.prog] [UDef] [UTabs]in
theorem o2z(n:Nat)(x):evF Tryz.prog 75 TT p0f z1k (q0c n) (t2s n) (a0y Tryz.prog 75 TT p0f (q0c n)) ⟨[], [], []⟩ [.cell 4 159] v0q x=q19z n x:=by kernel_rfl
omit [UDef] [UTabs]in
theorem k2d(n:Nat):Contract Tryz.prog 87 z1k (q19z n):=
 Contract.of_ev (c:=v0q) (N:=75) Tryz.func87 (by kernel_rfl) (by kernel_rfl) (by kernel_rfl) (by kernel_rfl) (f0t n) (a0o (f0t n) (by kernel_rfl)) (.of (l:= [(0,(a0q 1000 v0q 0)),(2,(a0q 1000 v0q 1))]) (by kernel_rfl) ⟨.head (a0f (f0t n) (a0o (f0t n) (by kernel_rfl)) (.of (l:= []) (by kernel_rfl) trivial) (s1z n)),⟨.tail rfl (.head (a0f (f0t n) (a0o (f0t n) (by kernel_rfl)) (.of (l:= []) (by kernel_rfl) trivial) (w1v n))),trivial⟩⟩) (o2z n)
def s1h:FnT:=⟨2,⟨[], [(0, .envr),(1,(.lst .term))], [], []⟩, [.v .bool], []⟩
def q0t:FnT:=⟨2,⟨[], [(0, .envr),(1, .term)], [], []⟩, [.v .val], []⟩
def i0o:FnT:=⟨1,⟨[], [(0, .val)], [], []⟩, [.v .val], []⟩
def m1a:Code:=a0n Tryz.f110
def d1p:List (Nat×ArgM):= []
instance:DfOk d1p:= .none rfl
def c1w{ρ:Type}(self_q66z:Ev.Val×Unit→Option (Ev.Val×Unit))(n:Nat):Orc ρ:=a0c 110 i0o (self_q66z) (a0m)
omit [QuietD Tryz.prog] [UDef] [UTabs]in
theorem k0y{ρ:Type}(self_q66z:Ev.Val×Unit→Option (Ev.Val×Unit))(h_q66z:Contract Tryz.prog 110 i0o self_q66z)(n:Nat):(c1w self_q66z n:Orc ρ).ok Tryz.prog:=a0a (by kernel_rfl) (h_q66z) (a0e)
def T_q66z_s0:Tm:=⟨[(1, .ptr 1 0),(2, .ptr 2 0)], [(9,(.lst .val)),(10, .i64),(11, .i64)], [(1, .box [.d .i64, .d .i64, .d .str, .ref (.own 300043)]),(2, .box [.d .val]),(300043, .arr 42 .val)], []⟩
def c1f:Tm:=⟨[(1, .ptr 1 0),(2, .ptr 2 0)], [], [(1, .box [.d .i64, .d .i64, .d .str, .ref (.own 300043)]),(2, .box [.d .val]),(300043, .arr 42 .val)], []⟩
def q0i:Tm:=⟨[], [], [], []⟩
def a2m{ρ:Type}(self_q66z:Ev.Val×Unit→Option (Ev.Val×Unit))(n:Nat):LOrc ρ:=a0d
omit [Tabs] [QuietD Tryz.prog] [UDef] [UTabs]in
theorem w1c{ρ:Type}(self_q66z:Ev.Val×Unit→Option (Ev.Val×Unit))(n:Nat)(rec:T_q66z_s0.den→Option ρ) kx kr s:b0o Tryz.prog 24 TT d1p (c1w self_q66z n) (a2m self_q66z n) (a0y Tryz.prog 24 TT d1p (c1w self_q66z n)) 0 (a0q 1000 m1a 0) T_q66z_s0 c1f q0i ⟨[], [], [(1,3,300043,42,4)]⟩ rec kx kr s=s0d self_q66z n rec kx kr s:=by kernel_rfl
def q2w{ρ:Type}(self_q66z:Ev.Val×Unit→Option (Ev.Val×Unit))(n:Nat):LOrc ρ:=a0j 0 (b0m 24 0 n T_q66z_s0 c1f q0i ⟨[], [], [(1,3,300043,42,4)]⟩ (s0d self_q66z n)) (a0d)
omit [Tabs] [QuietD Tryz.prog] [UDef] [UTabs]in
theorem o2y(self_q66z:Ev.Val×Unit→Option (Ev.Val×Unit))(n:Nat)(x):evF Tryz.prog 24 TT d1p i0o (c1w self_q66z n) (q2w self_q66z n) (a0y Tryz.prog 24 TT d1p (c1w self_q66z n)) ⟨[], [], []⟩ [.cell 2 42] m1a x=m1u self_q66z n x:=by kernel_rfl
omit [UDef] [UTabs]in
theorem b2w(self_q66z:Ev.Val×Unit→Option (Ev.Val×Unit))(h_q66z:Contract Tryz.prog 110 i0o self_q66z)(n:Nat):Contract Tryz.prog 110 i0o (m1u self_q66z n):=
 Contract.of_ev (c:=m1a) (N:=24) Tryz.func110 (by kernel_rfl) (by kernel_rfl) (by kernel_rfl) (by kernel_rfl) (k0y self_q66z h_q66z n) (a0o (k0y self_q66z h_q66z n) (by kernel_rfl)) (.of (l:= [(0,(a0q 1000 m1a 0))]) (by kernel_rfl) ⟨.head (a0f (k0y self_q66z h_q66z n) (a0o (k0y self_q66z h_q66z n) (by kernel_rfl)) (.of (l:= []) (by kernel_rfl) trivial) (w1c self_q66z n)),trivial⟩) (o2y self_q66z n)
omit [UDef] [UTabs]in
theorem r0d: ∀n,Contract Tryz.prog 110 i0o (q66z n)
 | 0=>fun _ _ h=>by cases h
 | n+1=>b2w _ (r0d n) n
def o1t:FnT:=⟨3,⟨[], [(0, .envr),(1, .i64),(2, .str)], [], []⟩, [.v .val], []⟩
def j0r:FnT:=⟨2,⟨[], [(0,(.lst .prp)),(1, .str)], [], []⟩, [.v .val], []⟩
def g0u:Code:=a0n Tryz.f174
def j0g:List (Nat×ArgM):= []
instance:DfOk j0g:= .none rfl
def j0z{ρ:Type}(n:Nat):Orc ρ:=a0c 110 i0o (q66z n) (a0m)
omit [UDef] [UTabs]in
theorem i0p{ρ:Type}(n:Nat):(j0z n:Orc ρ).ok Tryz.prog:=a0a (by kernel_rfl) (r0d n) (a0e)
def T_graph_Get_s0:Tm:=⟨[(4, .ptr 4 0)], [(1, .str),(7,(.lst .prp)),(8, .i64),(9, .i64)], [(4, .box [.d .val])], []⟩
def i0k:Tm:=⟨[(4, .ptr 4 0)], [], [(4, .box [.d .val])], []⟩
def f0f:Tm:=⟨[(4, .ptr 4 0)], [], [(4, .box [.d .val])], []⟩
def t0s{ρ:Type}(n:Nat):LOrc ρ:=a0d
omit [Tabs] [QuietD Tryz.prog] [UDef] [UTabs]in
theorem t0j{ρ:Type}(n:Nat)(rec:T_graph_Get_s0.den→Option ρ) kx kr s:b0o Tryz.prog 22 TT j0g (j0z n) (t0s n) a0g 0 (a0q 1000 g0u 0) T_graph_Get_s0 i0k f0f ⟨[], [], []⟩ rec kx kr s=d0u n rec kx kr s:=by kernel_rfl
def h1f{ρ:Type}(n:Nat):LOrc ρ:=a0j 0 (b0m 22 0 n T_graph_Get_s0 i0k f0f ⟨[], [], []⟩ (d0u n)) (a0d)
omit [Tabs] [QuietD Tryz.prog] [UDef] [UTabs]in
theorem g1v(n:Nat)(x):evF Tryz.prog 22 TT j0g j0r (j0z n) (h1f n) a0g ⟨[], [], []⟩ [.cell 4 42] g0u x=e0i n x:=by kernel_rfl
omit [UDef] [UTabs]in
theorem e1l(n:Nat):Contract Tryz.prog 174 j0r (e0i n):=
 Contract.of_ev (c:=g0u) (N:=22) Tryz.func174 (by kernel_rfl) (by kernel_rfl) (by kernel_rfl) (by kernel_rfl) (i0p n) a0b (.of (l:= [(0,(a0q 1000 g0u 0))]) (by kernel_rfl) ⟨.head (a0f (i0p n) a0b (.of (l:= []) (by kernel_rfl) trivial) (t0j n)),trivial⟩) (g1v n)
def k1y:FnT:=⟨2,⟨[], [(0, .graph),(1, .i64)], [], []⟩, [.v .i64], []⟩
def l2d:FnT:=⟨3,⟨[(2, .fn 105)], [(0,(.lst .edg)),(1, .i64)], [], []⟩, [.v .i64, .v .bool], []⟩
def t1l:FnT:=⟨2,⟨[], [(0, .edg),(1, .i64)], [], []⟩, [.v .i64], []⟩
def i2w:Code:=a0n Tryz.f105
def e2z:List (Nat×ArgM):= [(31,⟨[], [], [],true⟩)]
instance:DfOk e2z:= .none rfl
def f2r{ρ:Type}:Orc ρ:=a0c 31 u0u (q25z) (a0m)
omit [UDef] [UTabs]in
theorem s1l{ρ:Type}:(f2r:Orc ρ).ok Tryz.prog:=a0a (by kernel_rfl) (y0f) (a0e)
def r2o{ρ:Type}:LOrc ρ:=a0d
omit [Tabs] [QuietD Tryz.prog] [UDef] [UTabs]in
theorem r2b(x):evF Tryz.prog 9 TT e2z t1l (f2r) (r2o) a0g ⟨[], [], []⟩ [.tmp 4] i2w x=q24z x:=by kernel_rfl
omit [UDef] [UTabs]in
theorem m2i:Contract Tryz.prog 105 t1l (q24z):=
 Contract.of_ev (c:=i2w) (N:=9) Tryz.func105 (by kernel_rfl) (by kernel_rfl) (by kernel_rfl) (by kernel_rfl) (s1l) a0b (.of (l:= []) (by kernel_rfl) trivial) (r2b)
def a2t:Code:=a0n Tryz.f104
def k2e:List (Nat×ArgM):= [(105,⟨[], [], [],true⟩)]
instance:DfOk k2e:= .none rfl
def k2g{ρ:Type}(n:Nat):Orc ρ:=a0c 105 t1l (q24z) (a0m)
omit [UDef] [UTabs]in
theorem m1e{ρ:Type}(n:Nat):(k2g n:Orc ρ).ok Tryz.prog:=a0a (by kernel_rfl) (m2i) (a0e)
def T_q1z_s0:Tm:=⟨[(2, .fn 105)], [(0,(.lst .edg)),(1, .i64),(8, .i64),(9, .i64),(10, .i64)], [], []⟩
def k1r:Tm:=⟨[(2, .fn 105)], [(0,(.lst .edg)),(1, .i64),(8, .i64),(9, .i64)], [], []⟩
def i1q:Tm:=⟨[], [], [], []⟩
def c2c{ρ:Type}(n:Nat):LOrc ρ:=a0d
omit [Tabs] [QuietD Tryz.prog] [UDef] [UTabs]in
theorem d2k{ρ:Type}(n:Nat)(rec:T_q1z_s0.den→Option ρ) kx kr s:b0o Tryz.prog 49 TT k2e (k2g n) (c2c n) a0g 0 (a0q 1000 a2t 0) T_q1z_s0 k1r i1q ⟨[], [], []⟩ rec kx kr s=j1k n rec kx kr s:=by kernel_rfl
def u2d{ρ:Type}(n:Nat):LOrc ρ:=a0j 0 (b0m 49 0 n T_q1z_s0 k1r i1q ⟨[], [], []⟩ (j1k n)) (a0d)
omit [Tabs] [QuietD Tryz.prog] [UDef] [UTabs]in
theorem u2j(n:Nat)(x):evF Tryz.prog 49 TT k2e l2d (k2g n) (u2d n) a0g ⟨[], [], []⟩ [.tmp 6, .tmp 7] a2t x=q1z n x:=by kernel_rfl
omit [UDef] [UTabs]in
theorem q2b(n:Nat):Contract Tryz.prog 104 l2d (q1z n):=
 Contract.of_ev (c:=a2t) (N:=49) Tryz.func104 (by kernel_rfl) (by kernel_rfl) (by kernel_rfl) (by kernel_rfl) (m1e n) a0b (.of (l:= [(0,(a0q 1000 a2t 0))]) (by kernel_rfl) ⟨.head (a0f (m1e n) a0b (.of (l:= []) (by kernel_rfl) trivial) (d2k n)),trivial⟩) (u2j n)
def i2i:Code:=a0n Tryz.f59
def h2e:List (Nat×ArgM):= [(104,⟨[], [], [],true⟩)]
instance:DfOk h2e:= .none rfl
def h2k{ρ:Type}(n:Nat):Orc ρ:=a0c 104 l2d (q1z n) (a0m)
omit [UDef] [UTabs]in
theorem z1b{ρ:Type}(n:Nat):(h2k n:Orc ρ).ok Tryz.prog:=a0a (by kernel_rfl) (q2b n) (a0e)
def q2t{ρ:Type}(n:Nat):LOrc ρ:=a0d
omit [Tabs] [QuietD Tryz.prog] [UDef] [UTabs]in
theorem o2t(n:Nat)(x):evF Tryz.prog 17 TT h2e k1y (h2k n) (q2t n) a0g ⟨[], [], []⟩ [.tmp 4] i2i x=q33z n x:=by kernel_rfl
omit [UDef] [UTabs]in
theorem z1x(n:Nat):Contract Tryz.prog 59 k1y (q33z n):=
 Contract.of_ev (c:=i2i) (N:=17) Tryz.func59 (by kernel_rfl) (by kernel_rfl) (by kernel_rfl) (by kernel_rfl) (z1b n) a0b (.of (l:= []) (by kernel_rfl) trivial) (o2t n)
def j2g:Code:=a0n Tryz.f156
def j2b:List (Nat×ArgM):= [(47,⟨[], [], [],true⟩),(59,⟨[], [], [],true⟩)]
instance:DfOk j2b:= .none rfl
def f2g{ρ:Type}(n:Nat):Orc ρ:=a0c 47 c1x (q59z n) (a0c 174 j0r (e0i n) (a0c 59 k1y (q33z n) (a0m)))
omit [UDef] [UTabs]in
theorem t1b{ρ:Type}(n:Nat):(f2g n:Orc ρ).ok Tryz.prog:=a0a (by kernel_rfl) (h1w n) (a0a (by kernel_rfl) (e1l n) (a0a (by kernel_rfl) (z1x n) (a0e)))
def p2b{ρ:Type}(n:Nat):LOrc ρ:=a0d
omit [Tabs] [QuietD Tryz.prog] [UDef] [UTabs]in
theorem q2y(n:Nat)(x):evF Tryz.prog 40 TT j2b o1t (f2g n) (p2b n) a0g ⟨[], [], []⟩ [.cell 6 42] j2g x=q36z n x:=by kernel_rfl
omit [UDef] [UTabs]in
theorem m2f(n:Nat):Contract Tryz.prog 156 o1t (q36z n):=
 Contract.of_ev (c:=j2g) (N:=40) Tryz.func156 (by kernel_rfl) (by kernel_rfl) (by kernel_rfl) (by kernel_rfl) (t1b n) a0b (.of (l:= []) (by kernel_rfl) trivial) (q2y n)
def p1z:FnT:=⟨3,⟨[], [(0, .envr),(1, .term),(2,(.lst .val))], [], []⟩, [.v .val], []⟩
def z1q:FnT:=⟨3,⟨[], [(0, .str),(1, .val),(2, .val)], [], []⟩, [.v .val, .v .i64], []⟩
def j0n:FnT:=⟨2,⟨[], [(0, .i64),(1, .i64)], [], []⟩, [.v .i64, .v .bool], []⟩
def q0u:Code:=a0n Tryz.f186
def q0n:List (Nat×ArgM):= []
instance:DfOk q0n:= .none rfl
def q0j{ρ:Type}:Orc ρ:=a0m
omit [QuietD Tryz.prog] [UDef] [UTabs]in
theorem t0n{ρ:Type}:(q0j:Orc ρ).ok Tryz.prog:=a0e
def f1v{ρ:Type}:LOrc ρ:=a0d
omit [Tabs] [QuietD Tryz.prog] [UDef] [UTabs]in
theorem i1b(x):evF Tryz.prog 17 TT q0n j0n (q0j) (f1v) a0g ⟨[], [], []⟩ [.tmp 4, .tmp 5] q0u x=f0s x:=by kernel_rfl
omit [UDef] [UTabs]in
theorem b1p:Contract Tryz.prog 186 j0n (f0s):=
 Contract.of_ev (c:=q0u) (N:=17) Tryz.func186 (by kernel_rfl) (by kernel_rfl) (by kernel_rfl) (by kernel_rfl) (t0n) a0b (.of (l:= []) (by kernel_rfl) trivial) (i1b)
def u1p:FnT:=⟨1,⟨[], [(0, .val)], [], []⟩, [.mix [.d .i64, .d .i64, .d .str, .ref (.own 300043)]], [(300043, .arr 42 .val)]⟩
def i1z:Code:=a0n Tryz.f110
def e1v:List (Nat×ArgM):= []
instance:DfOk e1v:= .none rfl
def c1k{ρ:Type}(n:Nat):Orc ρ:=a0c 110 i0o (q66z n) (a0m)
omit [UDef] [UTabs]in
theorem k0z{ρ:Type}(n:Nat):(c1k n:Orc ρ).ok Tryz.prog:=a0a (by kernel_rfl) (r0d n) (a0e)
def T_q37z_s0:Tm:=⟨[(1, .ptr 1 0),(2, .ptr 2 0)], [(9,(.lst .val)),(10, .i64),(11, .i64)], [(1, .box [.d .i64, .d .i64, .d .str, .ref (.own 300043)]),(2, .box [.d .val]),(300043, .arr 42 .val)], []⟩
def a1q:Tm:=⟨[(1, .ptr 1 0),(2, .ptr 2 0)], [], [(1, .box [.d .i64, .d .i64, .d .str, .ref (.own 300043)]),(2, .box [.d .val]),(300043, .arr 42 .val)], []⟩
def l0i:Tm:=⟨[], [], [], []⟩
def p1l{ρ:Type}(n:Nat):LOrc ρ:=a0d
omit [Tabs] [QuietD Tryz.prog] [UDef] [UTabs]in
theorem v1g{ρ:Type}(n:Nat)(rec:T_q37z_s0.den→Option ρ) kx kr s:b0o Tryz.prog 24 TT e1v (c1k n) (p1l n) (a0y Tryz.prog 24 TT e1v (c1k n)) 0 (a0q 1000 i1z 0) T_q37z_s0 a1q l0i ⟨[], [], [(1,3,300043,42,4)]⟩ rec kx kr s=x0c n rec kx kr s:=by kernel_rfl
def o2n{ρ:Type}(n:Nat):LOrc ρ:=a0j 0 (b0m 24 0 n T_q37z_s0 a1q l0i ⟨[], [], [(1,3,300043,42,4)]⟩ (x0c n)) (a0d)
omit [Tabs] [QuietD Tryz.prog] [UDef] [UTabs]in
theorem n2s(n:Nat)(x):evF Tryz.prog 24 TT e1v u1p (c1k n) (o2n n) (a0y Tryz.prog 24 TT e1v (c1k n)) ⟨[], [], []⟩ [.cell 2 42] i1z x=q37z n x:=by kernel_rfl
omit [UDef] [UTabs]in
theorem m2d(n:Nat):Contract Tryz.prog 110 u1p (q37z n):=
 Contract.of_ev (c:=i1z) (N:=24) Tryz.func110 (by kernel_rfl) (by kernel_rfl) (by kernel_rfl) (by kernel_rfl) (k0z n) (a0o (k0z n) (by kernel_rfl)) (.of (l:= [(0,(a0q 1000 i1z 0))]) (by kernel_rfl) ⟨.head (a0f (k0z n) (a0o (k0z n) (by kernel_rfl)) (.of (l:= []) (by kernel_rfl) trivial) (v1g n)),trivial⟩) (n2s n)
def j0i:FnT:=⟨2,⟨[], [(0, .i64),(1, .i64)], [], []⟩, [.v .i64, .v .bool], []⟩
def r0l:Code:=a0n Tryz.f187
def p0n:List (Nat×ArgM):= []
instance:DfOk p0n:= .none rfl
def r0r{ρ:Type}:Orc ρ:=a0m
omit [QuietD Tryz.prog] [UDef] [UTabs]in
theorem t0h{ρ:Type}:(r0r:Orc ρ).ok Tryz.prog:=a0e
def g1u{ρ:Type}:LOrc ρ:=a0d
omit [Tabs] [QuietD Tryz.prog] [UDef] [UTabs]in
theorem f1s(x):evF Tryz.prog 17 TT p0n j0i (r0r) (g1u) a0g ⟨[], [], []⟩ [.tmp 4, .tmp 5] r0l x=f0u x:=by kernel_rfl
omit [UDef] [UTabs]in
theorem d1h:Contract Tryz.prog 187 j0i (f0u):=
 Contract.of_ev (c:=r0l) (N:=17) Tryz.func187 (by kernel_rfl) (by kernel_rfl) (by kernel_rfl) (by kernel_rfl) (t0h) a0b (.of (l:= []) (by kernel_rfl) trivial) (f1s)
def j0f:FnT:=⟨2,⟨[], [(0, .i64),(1, .i64)], [], []⟩, [.v .i64, .v .bool], []⟩
def o1x:FnT:=⟨1,⟨[], [(0, .i64)], [], []⟩, [.v .u64], []⟩
def h2s:Code:=a0n Tryz.f197
def i2x:List (Nat×ArgM):= []
instance:DfOk i2x:= .none rfl
def f2e{ρ:Type}:Orc ρ:=a0m
omit [QuietD Tryz.prog] [UDef] [UTabs]in
theorem x1p{ρ:Type}:(f2e:Orc ρ).ok Tryz.prog:=a0e
def s2t{ρ:Type}:LOrc ρ:=a0d
omit [Tabs] [QuietD Tryz.prog] [UDef] [UTabs]in
theorem o2f(x):evF Tryz.prog 10 TT i2x o1x (f2e) (s2t) a0g ⟨[], [], []⟩ [.tmp 2] h2s x=q56z x:=by kernel_rfl
omit [UDef] [UTabs]in
theorem k2j:Contract Tryz.prog 197 o1x (q56z):=
 Contract.of_ev (c:=h2s) (N:=10) Tryz.func197 (by kernel_rfl) (by kernel_rfl) (by kernel_rfl) (by kernel_rfl) (x1p) a0b (.of (l:= []) (by kernel_rfl) trivial) (o2f)
def w1j:FnT:=⟨2,⟨[], [(0, .u64),(1, .u64)], [], []⟩, [.v .u64, .v .u64], []⟩
def e2x:Code:=a0n Tryz.f198
def f2o:List (Nat×ArgM):= []
instance:DfOk f2o:= .none rfl
def f2s{ρ:Type}:Orc ρ:=a0m
omit [QuietD Tryz.prog] [UDef] [UTabs]in
theorem t1u{ρ:Type}:(f2s:Orc ρ).ok Tryz.prog:=a0e
def o2j{ρ:Type}:LOrc ρ:=a0d
omit [Tabs] [QuietD Tryz.prog] [UDef] [UTabs]in
theorem o2d(x):evF Tryz.prog 51 TT f2o w1j (f2s) (o2j) a0g ⟨[], [], []⟩ [.tmp 4, .tmp 5] e2x x=q28z x:=by kernel_rfl
omit [UDef] [UTabs]in
theorem j2l:Contract Tryz.prog 198 w1j (q28z):=
 Contract.of_ev (c:=e2x) (N:=51) Tryz.func198 (by kernel_rfl) (by kernel_rfl) (by kernel_rfl) (by kernel_rfl) (t1u) a0b (.of (l:= []) (by kernel_rfl) trivial) (o2d)
def r0n:Code:=a0n Tryz.f188
def q0v:List (Nat×ArgM):= [(197,⟨[], [], [],true⟩),(198,⟨[], [], [],true⟩)]
instance:DfOk q0v:= .none rfl
def r0c{ρ:Type}:Orc ρ:=a0c 197 o1x (q56z) (a0c 198 w1j (q28z) (a0m))
omit [UDef] [UTabs]in
theorem t0a{ρ:Type}:(r0c:Orc ρ).ok Tryz.prog:=a0a (by kernel_rfl) (k2j) (a0a (by kernel_rfl) (j2l) (a0e))
def g1b{ρ:Type}:LOrc ρ:=a0d
omit [Tabs] [QuietD Tryz.prog] [UDef] [UTabs]in
theorem g1o(x):evF Tryz.prog 45 TT q0v j0f (r0c) (g1b) a0g ⟨[], [], []⟩ [.tmp 4, .tmp 5] r0n x=f0n x:=by kernel_rfl
omit [UDef] [UTabs]in
theorem z0w:Contract Tryz.prog 188 j0f (f0n):=
 Contract.of_ev (c:=r0n) (N:=45) Tryz.func188 (by kernel_rfl) (by kernel_rfl) (by kernel_rfl) (by kernel_rfl) (t0a) a0b (.of (l:= []) (by kernel_rfl) trivial) (g1o)
def g2h:Code:=a0n Tryz.f175
def q1s:List (Nat×ArgM):= [(1500000110,⟨[4,3], [], [],false⟩),(999999999,⟨[1], [], [],false⟩),(186,⟨[], [], [],true⟩),(110,⟨[], [], [300043],false⟩),(187,⟨[], [], [],true⟩),(188,⟨[], [], [],true⟩)]
instance:DfOk q1s:= .none rfl
def w1i{ρ:Type}(n:Nat):Orc ρ:=a0c 186 j0n (f0s) (a0c 110 u1p (q37z n) (a0c 187 j0i (f0u) (a0c 188 j0f (f0n) (a0m))))
omit [UDef] [UTabs]in
theorem d1u{ρ:Type}(n:Nat):(w1i n:Orc ρ).ok Tryz.prog:=a0a (by kernel_rfl) (b1p) (a0a (by kernel_rfl) (m2d n) (a0a (by kernel_rfl) (d1h) (a0a (by kernel_rfl) (z0w) (a0e))))
def p2d{ρ:Type}(n:Nat):LOrc ρ:=a0d
omit [Tabs] [QuietD Tryz.prog] [UDef] [UTabs]in
theorem s2i(n:Nat)(x):evF Tryz.prog 111 TT q1s z1q (w1i n) (p2d n) (a0y Tryz.prog 111 TT q1s (w1i n)) ⟨[], [], []⟩ [.cell 6 42, .tmp 7] g2h x=q43z n x:=by kernel_rfl
omit [UDef] [UTabs]in
theorem m2y(n:Nat):Contract Tryz.prog 175 z1q (q43z n):=
 Contract.of_ev (c:=g2h) (N:=111) Tryz.func175 (by kernel_rfl) (by kernel_rfl) (by kernel_rfl) (by kernel_rfl) (d1u n) (a0o (d1u n) (by kernel_rfl)) (.of (l:= []) (by kernel_rfl) trivial) (s2i n)
def p0x:FnT:=⟨2,⟨[], [(0, .val),(1, .val)], [], []⟩, [.v .val], []⟩
def i0w:FnT:=⟨2,⟨[], [(0, .val),(1, .val)], [], []⟩, [.v .i64], []⟩
def p1y:FnT:=⟨2,⟨[], [(0, .str),(1, .str)], [], []⟩, [.v .i64], []⟩
def a2d:FnT:=⟨1,⟨[], [(0, .str)], [], []⟩, [.v .bool], []⟩
def g2y:Code:=a0n Tryz.f138
def e2w:List (Nat×ArgM):= []
instance:DfOk e2w:= .none rfl
def f2f{ρ:Type}:Orc ρ:=a0m
omit [QuietD Tryz.prog] [UDef] [UTabs]in
theorem o1s{ρ:Type}:(f2f:Orc ρ).ok Tryz.prog:=a0e
def r2s{ρ:Type}:LOrc ρ:=a0d
omit [Tabs] [QuietD Tryz.prog] [UDef] [UTabs]in
theorem s2m(x):evF Tryz.prog 6 TT e2w a2d (f2f) (r2s) a0g ⟨[], [], []⟩ [.tmp 2] g2y x=q22z x:=by kernel_rfl
omit [UDef] [UTabs]in
theorem l2n:Contract Tryz.prog 138 a2d (q22z):=
 Contract.of_ev (c:=g2y) (N:=6) Tryz.func138 (by kernel_rfl) (by kernel_rfl) (by kernel_rfl) (by kernel_rfl) (o1s) a0b (.of (l:= []) (by kernel_rfl) trivial) (s2m)
def h2l:Code:=a0n Tryz.f200
def g2u:List (Nat×ArgM):= [(138,⟨[], [], [],true⟩)]
instance:DfOk g2u:= .none rfl
def f2q{ρ:Type}:Orc ρ:=a0c 138 a2d (q22z) (a0m)
omit [UDef] [UTabs]in
theorem x1z{ρ:Type}:(f2q:Orc ρ).ok Tryz.prog:=a0a (by kernel_rfl) (l2n) (a0e)
def t2j{ρ:Type}:LOrc ρ:=a0d
omit [Tabs] [QuietD Tryz.prog] [UDef] [UTabs]in
theorem s2s(x):evF Tryz.prog 20 TT g2u p1y (f2q) (t2j) a0g ⟨[], [], []⟩ [.tmp 4] h2l x=q15z x:=by kernel_rfl
omit [UDef] [UTabs]in
theorem l2t:Contract Tryz.prog 200 p1y (q15z):=
 Contract.of_ev (c:=h2l) (N:=20) Tryz.func200 (by kernel_rfl) (by kernel_rfl) (by kernel_rfl) (by kernel_rfl) (x1z) a0b (.of (l:= []) (by kernel_rfl) trivial) (s2s)
def k2f:FnT:=⟨3,⟨[(2, .fn 190)], [(0,(.lst .val)),(1,(.lst .val))], [], []⟩, [.v .i64], []⟩
def d2s:Code:=a0n Tryz.f201
def l2h:List (Nat×ArgM):= [(190,⟨[], [], [],true⟩)]
instance:DfOk l2h:= .none rfl
def k2t{ρ:Type}(self_q54z:Ev.Val×Ev.Val×Unit→Option (Int×Unit))(n:Nat):Orc ρ:=a0c 190 i0w (self_q54z) (a0m)
omit [QuietD Tryz.prog] [UDef] [UTabs]in
theorem j1v{ρ:Type}(self_q54z:Ev.Val×Ev.Val×Unit→Option (Int×Unit))(h_q54z:Contract Tryz.prog 190 i0w self_q54z)(n:Nat):(k2t self_q54z n:Orc ρ).ok Tryz.prog:=a0a (by kernel_rfl) (h_q54z) (a0e)
def T_q0z_s0:Tm:=⟨[(2, .fn 190)], [(0,(.lst .val)),(1,(.lst .val)),(11,(.lst .val)),(12, .i64),(13, .i64)], [], []⟩
def k1c:Tm:=⟨[], [(0,(.lst .val)),(1,(.lst .val))], [], []⟩
def w0w:Tm:=⟨[], [(6, .i64)], [], []⟩
def c2b{ρ:Type}(self_q54z:Ev.Val×Ev.Val×Unit→Option (Int×Unit))(n:Nat):LOrc ρ:=a0d
omit [Tabs] [QuietD Tryz.prog] [UDef] [UTabs]in
theorem c2y{ρ:Type}(self_q54z:Ev.Val×Ev.Val×Unit→Option (Int×Unit))(n:Nat)(rec:T_q0z_s0.den→Option ρ) kx kr s:b0o Tryz.prog 39 TT l2h (k2t self_q54z n) (c2b self_q54z n) a0g 0 (a0q 1000 d2s 0) T_q0z_s0 k1c w0w ⟨[], [], []⟩ rec kx kr s=z0v self_q54z n rec kx kr s:=by kernel_rfl
def u2p{ρ:Type}(self_q54z:Ev.Val×Ev.Val×Unit→Option (Int×Unit))(n:Nat):LOrc ρ:=a0j 0 (b0m 39 0 n T_q0z_s0 k1c w0w ⟨[], [], []⟩ (z0v self_q54z n)) (a0d)
omit [Tabs] [QuietD Tryz.prog] [UDef] [UTabs]in
theorem v2d(self_q54z:Ev.Val×Ev.Val×Unit→Option (Int×Unit))(n:Nat)(x):evF Tryz.prog 39 TT l2h k2f (k2t self_q54z n) (u2p self_q54z n) a0g ⟨[], [], []⟩ [.tmp 6] d2s x=q0z self_q54z n x:=by kernel_rfl
omit [UDef] [UTabs]in
theorem t2o(self_q54z:Ev.Val×Ev.Val×Unit→Option (Int×Unit))(h_q54z:Contract Tryz.prog 190 i0w self_q54z)(n:Nat):Contract Tryz.prog 201 k2f (q0z self_q54z n):=
 Contract.of_ev (c:=d2s) (N:=39) Tryz.func201 (by kernel_rfl) (by kernel_rfl) (by kernel_rfl) (by kernel_rfl) (j1v self_q54z h_q54z n) a0b (.of (l:= [(0,(a0q 1000 d2s 0))]) (by kernel_rfl) ⟨.head (a0f (j1v self_q54z h_q54z n) a0b (.of (l:= []) (by kernel_rfl) trivial) (c2y self_q54z n)),trivial⟩) (v2d self_q54z n)
def t1v:FnT:=⟨1,⟨[], [(0,(.lst .i64))], [], []⟩, [.v .i64], []⟩
def i1p:Code:=a0n Tryz.f199
def o1q:List (Nat×ArgM):= []
instance:DfOk o1q:= .none rfl
def o1o{ρ:Type}(n:Nat):Orc ρ:=a0m
omit [QuietD Tryz.prog] [UDef] [UTabs]in
theorem e1s{ρ:Type}(n:Nat):(o1o n:Orc ρ).ok Tryz.prog:=a0e
def T_q58z_s0:Tm:=⟨[], [(3, .i64),(6,(.lst .i64)),(7, .i64),(8, .i64)], [], []⟩
def z0f:Tm:=⟨[], [(3, .i64)], [], []⟩
def l0p:Tm:=⟨[], [(2, .i64)], [], []⟩
def v1d{ρ:Type}(n:Nat):LOrc ρ:=a0d
omit [Tabs] [QuietD Tryz.prog] [UDef] [UTabs]in
theorem a2a{ρ:Type}(n:Nat)(rec:T_q58z_s0.den→Option ρ) kx kr s:b0o Tryz.prog 18 TT o1q (o1o n) (v1d n) a0g 0 (a0q 1000 i1p 0) T_q58z_s0 z0f l0p ⟨[], [], []⟩ rec kx kr s=v0v n rec kx kr s:=by kernel_rfl
def n2u{ρ:Type}(n:Nat):LOrc ρ:=a0j 0 (b0m 18 0 n T_q58z_s0 z0f l0p ⟨[], [], []⟩ (v0v n)) (a0d)
omit [Tabs] [QuietD Tryz.prog] [UDef] [UTabs]in
theorem s2b(n:Nat)(x):evF Tryz.prog 18 TT o1q t1v (o1o n) (n2u n) a0g ⟨[], [], []⟩ [.tmp 2] i1p x=q58z n x:=by kernel_rfl
omit [UDef] [UTabs]in
theorem k2z(n:Nat):Contract Tryz.prog 199 t1v (q58z n):=
 Contract.of_ev (c:=i1p) (N:=18) Tryz.func199 (by kernel_rfl) (by kernel_rfl) (by kernel_rfl) (by kernel_rfl) (e1s n) a0b (.of (l:= [(0,(a0q 1000 i1p 0))]) (by kernel_rfl) ⟨.head (a0f (e1s n) a0b (.of (l:= []) (by kernel_rfl) trivial) (a2a n)),trivial⟩) (s2b n)
def h2c:Code:=a0n Tryz.f190
def p1s:List (Nat×ArgM):= [(31,⟨[], [], [],true⟩),(200,⟨[], [], [],true⟩),(201,⟨[], [], [],true⟩),(199,⟨[], [], [],true⟩)]
instance:DfOk p1s:= .none rfl
def t1c{ρ:Type}(self_q54z:Ev.Val×Ev.Val×Unit→Option (Int×Unit))(n:Nat):Orc ρ:=a0c 31 u0u (q25z) (a0c 200 p1y (q15z) (a0c 201 k2f (q0z self_q54z n) (a0c 199 t1v (q58z n) (a0m))))
omit [UDef] [UTabs]in
theorem a1j{ρ:Type}(self_q54z:Ev.Val×Ev.Val×Unit→Option (Int×Unit))(h_q54z:Contract Tryz.prog 190 i0w self_q54z)(n:Nat):(t1c self_q54z n:Orc ρ).ok Tryz.prog:=a0a (by kernel_rfl) (y0f) (a0a (by kernel_rfl) (l2t) (a0a (by kernel_rfl) (t2o _ h_q54z n) (a0a (by kernel_rfl) (k2z n) (a0e))))
def o2b{ρ:Type}(self_q54z:Ev.Val×Ev.Val×Unit→Option (Int×Unit))(n:Nat):LOrc ρ:=a0d
omit [Tabs] [QuietD Tryz.prog] [UDef] [UTabs]in
theorem q2l(self_q54z:Ev.Val×Ev.Val×Unit→Option (Int×Unit))(n:Nat)(x):evF Tryz.prog 31 TT p1s i0w (t1c self_q54z n) (o2b self_q54z n) (a0y Tryz.prog 31 TT p1s (t1c self_q54z n)) ⟨[], [], []⟩ [.tmp 4] h2c x=i1g self_q54z n x:=by kernel_rfl
omit [UDef] [UTabs]in
theorem a2u(self_q54z:Ev.Val×Ev.Val×Unit→Option (Int×Unit))(h_q54z:Contract Tryz.prog 190 i0w self_q54z)(n:Nat):Contract Tryz.prog 190 i0w (i1g self_q54z n):=
 Contract.of_ev (c:=h2c) (N:=31) Tryz.func190 (by kernel_rfl) (by kernel_rfl) (by kernel_rfl) (by kernel_rfl) (a1j self_q54z h_q54z n) (a0o (a1j self_q54z h_q54z n) (by kernel_rfl)) (.of (l:= []) (by kernel_rfl) trivial) (q2l self_q54z n)
omit [UDef] [UTabs]in
theorem f1k: ∀n,Contract Tryz.prog 190 i0w (q54z n)
 | 0=>fun _ _ h=>by cases h
 | n+1=>a2u _ (f1k n) n
def m1j:FnT:=⟨1,⟨[], [(0, .bool)], [], []⟩, [.v .val], []⟩
def e2y:Code:=a0n Tryz.f189
def i2t:List (Nat×ArgM):= []
instance:DfOk i2t:= .none rfl
def i2s{ρ:Type}:Orc ρ:=a0m
omit [QuietD Tryz.prog] [UDef] [UTabs]in
theorem v1b{ρ:Type}:(i2s:Orc ρ).ok Tryz.prog:=a0e
def p2g{ρ:Type}:LOrc ρ:=a0d
omit [Tabs] [QuietD Tryz.prog] [UDef] [UTabs]in
theorem q2j(x):evF Tryz.prog 8 TT i2t m1j (i2s) (p2g) a0g ⟨[], [], []⟩ [.cell 2 42] e2y x=q57z x:=by kernel_rfl
omit [UDef] [UTabs]in
theorem u1x:Contract Tryz.prog 189 m1j (q57z):=
 Contract.of_ev (c:=e2y) (N:=8) Tryz.func189 (by kernel_rfl) (by kernel_rfl) (by kernel_rfl) (by kernel_rfl) (v1b) a0b (.of (l:= []) (by kernel_rfl) trivial) (q2j)
def l1k:Code:=a0n Tryz.f176
def a1u:List (Nat×ArgM):= [(190,⟨[], [], [],true⟩)]
instance:DfOk a1u:= .none rfl
def z0s{ρ:Type}(self_q68z:Ev.Val×Ev.Val×Unit→Option (Ev.Val×Unit))(n:Nat):Orc ρ:=a0c 190 i0w (q54z n) (a0c 189 m1j (q57z) (a0c 176 p0x (self_q68z) (a0m)))
omit [UDef] [UTabs]in
theorem l0o{ρ:Type}(self_q68z:Ev.Val×Ev.Val×Unit→Option (Ev.Val×Unit))(h_q68z:Contract Tryz.prog 176 p0x self_q68z)(n:Nat):(z0s self_q68z n:Orc ρ).ok Tryz.prog:=a0a (by kernel_rfl) (f1k n) (a0a (by kernel_rfl) (u1x) (a0a (by kernel_rfl) (h_q68z) (a0e)))
def T_q68z_s0:Tm:=⟨[(2, .ptr 2 0),(3, .ptr 3 0),(4, .ptr 4 0),(5, .ptr 5 0)], [(41, .i64),(42, .i64)], [(2, .box [.d .val]),(3, .box [.d .val]),(4, .box [.d .val]),(5, .box [.d .val])], []⟩
def b1n:Tm:=⟨[(4, .ptr 4 0),(5, .ptr 5 0)], [], [(4, .box [.d .val]),(5, .box [.d .val])], []⟩
def a1n:Tm:=⟨[(4, .ptr 4 0)], [], [(4, .box [.d .val])], []⟩
def w1q{ρ:Type}(self_q68z:Ev.Val×Ev.Val×Unit→Option (Ev.Val×Unit))(n:Nat):LOrc ρ:=a0d
omit [Tabs] [QuietD Tryz.prog] [UDef] [UTabs]in
theorem u1k{ρ:Type}(self_q68z:Ev.Val×Ev.Val×Unit→Option (Ev.Val×Unit))(n:Nat)(rec:T_q68z_s0.den→Option ρ) kx kr s:b0o Tryz.prog 68 TT a1u (z0s self_q68z n) (w1q self_q68z n) (a0y Tryz.prog 68 TT a1u (z0s self_q68z n)) 0 (a0q 1000 l1k 0) T_q68z_s0 b1n a1n ⟨[], [], []⟩ rec kx kr s=j0t self_q68z n rec kx kr s:=by kernel_rfl
def p2k{ρ:Type}(self_q68z:Ev.Val×Ev.Val×Unit→Option (Ev.Val×Unit))(n:Nat):LOrc ρ:=a0j 0 (b0m 68 0 n T_q68z_s0 b1n a1n ⟨[], [], []⟩ (j0t self_q68z n)) (a0d)
omit [Tabs] [QuietD Tryz.prog] [UDef] [UTabs]in
theorem q2e(self_q68z:Ev.Val×Ev.Val×Unit→Option (Ev.Val×Unit))(n:Nat)(x):evF Tryz.prog 68 TT a1u p0x (z0s self_q68z n) (p2k self_q68z n) (a0y Tryz.prog 68 TT a1u (z0s self_q68z n)) ⟨[], [], []⟩ [.cell 4 42] l1k x=k1v self_q68z n x:=by kernel_rfl
omit [UDef] [UTabs]in
theorem b2h(self_q68z:Ev.Val×Ev.Val×Unit→Option (Ev.Val×Unit))(h_q68z:Contract Tryz.prog 176 p0x self_q68z)(n:Nat):Contract Tryz.prog 176 p0x (k1v self_q68z n):=
 Contract.of_ev (c:=l1k) (N:=68) Tryz.func176 (by kernel_rfl) (by kernel_rfl) (by kernel_rfl) (by kernel_rfl) (l0o self_q68z h_q68z n) (a0o (l0o self_q68z h_q68z n) (by kernel_rfl)) (.of (l:= [(0,(a0q 1000 l1k 0))]) (by kernel_rfl) ⟨.head (a0f (l0o self_q68z h_q68z n) (a0o (l0o self_q68z h_q68z n) (by kernel_rfl)) (.of (l:= []) (by kernel_rfl) trivial) (u1k self_q68z n)),trivial⟩) (q2e self_q68z n)
omit [UDef] [UTabs]in
theorem x1e: ∀n,Contract Tryz.prog 176 p0x (q68z n)
 | 0=>fun _ _ h=>by cases h
 | n+1=>b2h _ (x1e n) n
def s1b:FnT:=⟨2,⟨[], [(0, .val),(1, .val)], [], []⟩, [.v .val], []⟩
def i2z:Code:=a0n Tryz.f177
def g2b:List (Nat×ArgM):= [(190,⟨[], [], [],true⟩)]
instance:DfOk g2b:= .none rfl
def f2t{ρ:Type}(n:Nat):Orc ρ:=a0c 190 i0w (q54z n) (a0c 189 m1j (q57z) (a0m))
omit [UDef] [UTabs]in
theorem y1p{ρ:Type}(n:Nat):(f2t n:Orc ρ).ok Tryz.prog:=a0a (by kernel_rfl) (f1k n) (a0a (by kernel_rfl) (u1x) (a0e))
def s2f{ρ:Type}(n:Nat):LOrc ρ:=a0d
omit [Tabs] [QuietD Tryz.prog] [UDef] [UTabs]in
theorem t2x(n:Nat)(x):evF Tryz.prog 26 TT g2b s1b (f2t n) (s2f n) a0g ⟨[], [], []⟩ [.cell 4 42] i2z x=q67z n x:=by kernel_rfl
omit [UDef] [UTabs]in
theorem j2u(n:Nat):Contract Tryz.prog 177 s1b (q67z n):=
 Contract.of_ev (c:=i2z) (N:=26) Tryz.func177 (by kernel_rfl) (by kernel_rfl) (by kernel_rfl) (by kernel_rfl) (y1p n) a0b (.of (l:= []) (by kernel_rfl) trivial) (t2x n)
def s1o:FnT:=⟨1,⟨[], [(0, .val)], [], []⟩, [.v .val], []⟩
def a1l:FnT:=⟨1,⟨[], [(0, .val)], [], []⟩, [.v .bool, .v .bool], []⟩
def i2u:Code:=a0n Tryz.f128
def y1e:List (Nat×ArgM):= []
instance:DfOk y1e:= .none rfl
def z1o{ρ:Type}:Orc ρ:=a0m
omit [QuietD Tryz.prog] [UDef] [UTabs]in
theorem c1p{ρ:Type}:(z1o:Orc ρ).ok Tryz.prog:=a0e
def p2h{ρ:Type}:LOrc ρ:=a0d
omit [Tabs] [QuietD Tryz.prog] [UDef] [UTabs]in
theorem p2s(x):evF Tryz.prog 10 TT y1e a1l (z1o) (p2h) (a0y Tryz.prog 10 TT y1e (z1o)) ⟨[], [], []⟩ [.tmp 2, .tmp 3] i2u x=q64z x:=by kernel_rfl
omit [UDef] [UTabs]in
theorem g1r:Contract Tryz.prog 128 a1l (q64z):=
 Contract.of_ev (c:=i2u) (N:=10) Tryz.func128 (by kernel_rfl) (by kernel_rfl) (by kernel_rfl) (by kernel_rfl) (c1p) (a0o (c1p) (by kernel_rfl)) (.of (l:= []) (by kernel_rfl) trivial) (p2s)
def c1j:FnT:=⟨1,⟨[], [(0, .bool)], [], []⟩, [.v .val], []⟩
def h2n:Code:=a0n Tryz.f180
def h2w:List (Nat×ArgM):= []
instance:DfOk h2w:= .none rfl
def f2p{ρ:Type}:Orc ρ:=a0m
omit [QuietD Tryz.prog] [UDef] [UTabs]in
theorem q1k{ρ:Type}:(f2p:Orc ρ).ok Tryz.prog:=a0e
def s2d{ρ:Type}:LOrc ρ:=a0d
omit [Tabs] [QuietD Tryz.prog] [UDef] [UTabs]in
theorem r2k(x):evF Tryz.prog 6 TT h2w c1j (f2p) (s2d) a0g ⟨[], [], []⟩ [.cell 2 42] h2n x=q65z x:=by kernel_rfl
omit [UDef] [UTabs]in
theorem h1p:Contract Tryz.prog 180 c1j (q65z):=
 Contract.of_ev (c:=h2n) (N:=6) Tryz.func180 (by kernel_rfl) (by kernel_rfl) (by kernel_rfl) (by kernel_rfl) (q1k) a0b (.of (l:= []) (by kernel_rfl) trivial) (r2k)
def f2a:Code:=a0n Tryz.f178
def i2n:List (Nat×ArgM):= [(128,⟨[], [], [],true⟩)]
instance:DfOk i2n:= .none rfl
def f2z{ρ:Type}:Orc ρ:=a0c 128 a1l (q64z) (a0c 180 c1j (q65z) (a0m))
omit [UDef] [UTabs]in
theorem v1s{ρ:Type}:(f2z:Orc ρ).ok Tryz.prog:=a0a (by kernel_rfl) (g1r) (a0a (by kernel_rfl) (h1p) (a0e))
def o2g{ρ:Type}:LOrc ρ:=a0d
omit [Tabs] [QuietD Tryz.prog] [UDef] [UTabs]in
theorem o2e(x):evF Tryz.prog 15 TT i2n s1o (f2z) (o2g) a0g ⟨[], [], []⟩ [.cell 2 42] f2a x=q50z x:=by kernel_rfl
omit [UDef] [UTabs]in
theorem k2u:Contract Tryz.prog 178 s1o (q50z):=
 Contract.of_ev (c:=f2a) (N:=15) Tryz.func178 (by kernel_rfl) (by kernel_rfl) (by kernel_rfl) (by kernel_rfl) (v1s) a0b (.of (l:= []) (by kernel_rfl) trivial) (o2e)
def w1l:FnT:=⟨2,⟨[], [(0, .val),(1, .val)], [], []⟩, [.v .val], []⟩
def g2t:Code:=a0n Tryz.f179
def i2v:List (Nat×ArgM):= [(128,⟨[], [], [],true⟩)]
instance:DfOk i2v:= .none rfl
def i2e{ρ:Type}:Orc ρ:=a0c 128 a1l (q64z) (a0c 180 c1j (q65z) (a0m))
omit [UDef] [UTabs]in
theorem y1k{ρ:Type}:(i2e:Orc ρ).ok Tryz.prog:=a0a (by kernel_rfl) (g1r) (a0a (by kernel_rfl) (h1p) (a0e))
def t2u{ρ:Type}:LOrc ρ:=a0d
omit [Tabs] [QuietD Tryz.prog] [UDef] [UTabs]in
theorem o2k(x):evF Tryz.prog 38 TT i2v w1l (i2e) (t2u) a0g ⟨[], [], []⟩ [.cell 4 42] g2t x=q49z x:=by kernel_rfl
omit [UDef] [UTabs]in
theorem m2c:Contract Tryz.prog 179 w1l (q49z):=
 Contract.of_ev (c:=g2t) (N:=38) Tryz.func179 (by kernel_rfl) (by kernel_rfl) (by kernel_rfl) (by kernel_rfl) (y1k) a0b (.of (l:= []) (by kernel_rfl) trivial) (o2k)
def t0v:Code:=a0n Tryz.f157
def q0x:List (Nat×ArgM):= [(61,⟨[], [], [],true⟩),(59,⟨[], [], [],true⟩)]
instance:DfOk q0x:= .none rfl
def r0e{ρ:Type}(n:Nat):Orc ρ:=a0c 175 z1q (q43z n) (a0c 61 e1i (q53z n) (a0c 176 p0x (q68z n) (a0c 177 s1b (q67z n) (a0c 178 s1o (q50z) (a0c 179 w1l (q49z) (a0c 180 c1j (q65z) (a0c 59 k1y (q33z n) (a0m))))))))
omit [UDef]in
theorem f0x{ρ:Type}(n:Nat):(r0e n:Orc ρ).ok Tryz.prog:=a0a (by kernel_rfl) (m2y n) (a0a (by kernel_rfl) (h1v n) (a0a (by kernel_rfl) (x1e n) (a0a (by kernel_rfl) (j2u n) (a0a (by kernel_rfl) (k2u) (a0a (by kernel_rfl) (m2c) (a0a (by kernel_rfl) (h1p) (a0a (by kernel_rfl) (z1x n) (a0e))))))))
def T_q39z_s1:Tm:=⟨[(6, .ptr 6 0),(9, .ptr 9 0)], [(2,(.lst .val)),(114,(.lst .val)),(115, .i64),(116, .i64)], [(6, .box [.d .val]),(9, .box [.d .val])], []⟩
def b1v:Tm:=⟨[(6, .ptr 6 0),(9, .ptr 9 0)], [], [(6, .box [.d .val]),(9, .box [.d .val])], []⟩
def m0c:Tm:=⟨[], [], [], []⟩
def z1a{ρ:Type}(n:Nat):LOrc ρ:=a0d
omit [Tabs] [QuietD Tryz.prog] [UDef] [UTabs]in
theorem v1h{ρ:Type}(n:Nat)(rec:T_q39z_s1.den→Option ρ) kx kr s:b0o Tryz.prog 219 TT q0x (r0e n) (z1a n) (a0y Tryz.prog 219 TT q0x (r0e n)) 1 (a0q 1000 t0v 0) T_q39z_s1 b1v m0c ⟨[], [], []⟩ rec kx kr s=n0h n rec kx kr s:=by kernel_rfl
def T_q39z_s4:Tm:=⟨[(6, .ptr 6 0)], [(175,(.lst .val)),(176, .i64),(177, .i64)], [(6, .box [.d .val])], []⟩
def z0l:Tm:=⟨[(6, .ptr 6 0)], [], [(6, .box [.d .val])], []⟩
def l0b:Tm:=⟨[(6, .ptr 6 0)], [], [(6, .box [.d .val])], []⟩
def t1d{ρ:Type}(n:Nat):LOrc ρ:=a0d
omit [Tabs] [QuietD Tryz.prog] [UDef] [UTabs]in
theorem p1q{ρ:Type}(n:Nat)(rec:T_q39z_s4.den→Option ρ) kx kr s:b0o Tryz.prog 219 TT q0x (r0e n) (t1d n) (a0y Tryz.prog 219 TT q0x (r0e n)) 4 (a0q 1000 t0v 1) T_q39z_s4 z0l l0b ⟨[], [], []⟩ rec kx kr s=n0i n rec kx kr s:=by kernel_rfl
def o2i{ρ:Type}(n:Nat):LOrc ρ:=a0j 1 (b0m 219 1 n T_q39z_s1 b1v m0c ⟨[], [], []⟩ (n0h n)) (a0j 4 (b0m 219 4 n T_q39z_s4 z0l l0b ⟨[], [], []⟩ (n0i n)) (a0d))
omit [Tabs] [QuietD Tryz.prog] [UDef] [UTabs]in
theorem n2x(n:Nat)(x):evF Tryz.prog 219 TT q0x p1z (r0e n) (o2i n) (a0y Tryz.prog 219 TT q0x (r0e n)) ⟨[], [], []⟩ [.cell 6 42] t0v x=q39z n x:=by kernel_rfl
omit [UDef]in
theorem j2k(n:Nat):Contract Tryz.prog 157 p1z (q39z n):=
 Contract.of_ev (c:=t0v) (N:=219) Tryz.func157 (by kernel_rfl) (by kernel_rfl) (by kernel_rfl) (by kernel_rfl) (f0x n) (a0o (f0x n) (by kernel_rfl)) (.of (l:= [(1,(a0q 1000 t0v 0)),(4,(a0q 1000 t0v 1))]) (by kernel_rfl) ⟨.head (a0f (f0x n) (a0o (f0x n) (by kernel_rfl)) (.of (l:= []) (by kernel_rfl) trivial) (v1h n)),⟨.tail rfl (.head (a0f (f0x n) (a0o (f0x n) (by kernel_rfl)) (.of (l:= []) (by kernel_rfl) trivial) (p1q n))),trivial⟩⟩) (n2x n)
def j1f:Code:=a0n Tryz.f129
def e1b:List (Nat×ArgM):= []
instance:DfOk e1b:= .none rfl
def e1j{ρ:Type}(self_q35z:Ev.Envr×Ev.Term×Unit→Option (Ev.Val×Unit))(n:Nat):Orc ρ:=a0c 110 i0o (q66z n) (a0c 156 o1t (q36z n) (a0c 129 q0t (self_q35z) (a0c 157 p1z (q39z n) (a0m))))
omit [UDef]in
theorem k0e{ρ:Type}(self_q35z:Ev.Envr×Ev.Term×Unit→Option (Ev.Val×Unit))(h_q35z:Contract Tryz.prog 129 q0t self_q35z)(n:Nat):(e1j self_q35z n:Orc ρ).ok Tryz.prog:=a0a (by kernel_rfl) (r0d n) (a0a (by kernel_rfl) (m2f n) (a0a (by kernel_rfl) (h_q35z) (a0a (by kernel_rfl) (j2k n) (a0e))))
def T_q35z_s1:Tm:=⟨[(2, .ptr 2 0),(3, .ptr 3 0),(4, .ptr 4 0),(5, .own 5)], [(38,(.lst .term)),(39, .i64),(40, .i64)], [(2, .box [.d .envr]),(3, .box [.d .term]),(4, .box [.d .val]),(5, .arr 42 .val)], []⟩
def a1m:Tm:=⟨[(2, .ptr 2 0),(3, .ptr 3 0),(4, .ptr 4 0),(5, .own 5)], [], [(2, .box [.d .envr]),(3, .box [.d .term]),(4, .box [.d .val]),(5, .arr 42 .val)], []⟩
def m0k:Tm:=⟨[], [], [], []⟩
def x1u{ρ:Type}(self_q35z:Ev.Envr×Ev.Term×Unit→Option (Ev.Val×Unit))(n:Nat):LOrc ρ:=a0d
omit [Tabs] [QuietD Tryz.prog] [UDef] [UTabs]in
theorem u1z{ρ:Type}(self_q35z:Ev.Envr×Ev.Term×Unit→Option (Ev.Val×Unit))(n:Nat)(rec:T_q35z_s1.den→Option ρ) kx kr s:b0o Tryz.prog 55 TT e1b (e1j self_q35z n) (x1u self_q35z n) (a0y Tryz.prog 55 TT e1b (e1j self_q35z n)) 1 (a0q 1000 j1f 0) T_q35z_s1 a1m m0k ⟨[], [(5,5,42,4)], []⟩ rec kx kr s=y0m self_q35z n rec kx kr s:=by kernel_rfl
def n2h{ρ:Type}(self_q35z:Ev.Envr×Ev.Term×Unit→Option (Ev.Val×Unit))(n:Nat):LOrc ρ:=a0j 1 (b0m 55 1 n T_q35z_s1 a1m m0k ⟨[], [(5,5,42,4)], []⟩ (y0m self_q35z n)) (a0d)
omit [Tabs] [QuietD Tryz.prog] [UDef] [UTabs]in
theorem p2f(self_q35z:Ev.Envr×Ev.Term×Unit→Option (Ev.Val×Unit))(n:Nat)(x):evF Tryz.prog 55 TT e1b q0t (e1j self_q35z n) (n2h self_q35z n) (a0y Tryz.prog 55 TT e1b (e1j self_q35z n)) ⟨[], [], []⟩ [.cell 4 42] j1f x=u0h self_q35z n x:=by kernel_rfl
omit [UDef]in
theorem d2p(self_q35z:Ev.Envr×Ev.Term×Unit→Option (Ev.Val×Unit))(h_q35z:Contract Tryz.prog 129 q0t self_q35z)(n:Nat):Contract Tryz.prog 129 q0t (u0h self_q35z n):=
 Contract.of_ev (c:=j1f) (N:=55) Tryz.func129 (by kernel_rfl) (by kernel_rfl) (by kernel_rfl) (by kernel_rfl) (k0e self_q35z h_q35z n) (a0o (k0e self_q35z h_q35z n) (by kernel_rfl)) (.of (l:= [(1,(a0q 1000 j1f 0))]) (by kernel_rfl) ⟨.head (a0f (k0e self_q35z h_q35z n) (a0o (k0e self_q35z h_q35z n) (by kernel_rfl)) (.of (l:= []) (by kernel_rfl) trivial) (u1z self_q35z n)),trivial⟩) (p2f self_q35z n)
omit [UDef]in
theorem u1m: ∀n,Contract Tryz.prog 129 q0t (q35z n)
 | 0=>fun _ _ h=>by cases h
 | n+1=>d2p _ (u1m n) n
def l1g:Code:=a0n Tryz.f88
def w1d:List (Nat×ArgM):= [(128,⟨[], [], [],true⟩)]
instance:DfOk w1d:= .none rfl
def x1h{ρ:Type}(n:Nat):Orc ρ:=a0c 129 q0t (q35z n) (a0c 128 a1l (q64z) (a0m))
omit [UDef]in
theorem z0y{ρ:Type}(n:Nat):(x1h n:Orc ρ).ok Tryz.prog:=a0a (by kernel_rfl) (u1m n) (a0a (by kernel_rfl) (g1r) (a0e))
def T_q29z_s0:Tm:=⟨[(2, .ptr 2 0)], [(9,(.lst .term)),(10, .i64),(11, .i64)], [(2, .box [.d .envr])], []⟩
def e1n:Tm:=⟨[], [], [], []⟩
def m0p:Tm:=⟨[], [(4, .bool)], [], []⟩
def a2j{ρ:Type}(n:Nat):LOrc ρ:=a0d
omit [Tabs] [QuietD Tryz.prog] [UDef] [UTabs]in
theorem a2h{ρ:Type}(n:Nat)(rec:T_q29z_s0.den→Option ρ) kx kr s:b0o Tryz.prog 29 TT w1d (x1h n) (a2j n) a0g 0 (a0q 1000 l1g 0) T_q29z_s0 e1n m0p ⟨[], [], []⟩ rec kx kr s=y0o n rec kx kr s:=by kernel_rfl
def q2u{ρ:Type}(n:Nat):LOrc ρ:=a0j 0 (b0m 29 0 n T_q29z_s0 e1n m0p ⟨[], [], []⟩ (y0o n)) (a0d)
omit [Tabs] [QuietD Tryz.prog] [UDef] [UTabs]in
theorem p2e(n:Nat)(x):evF Tryz.prog 29 TT w1d s1h (x1h n) (q2u n) a0g ⟨[], [], []⟩ [.tmp 4] l1g x=q29z n x:=by kernel_rfl
omit [UDef]in
theorem n2d(n:Nat):Contract Tryz.prog 88 s1h (q29z n):=
 Contract.of_ev (c:=l1g) (N:=29) Tryz.func88 (by kernel_rfl) (by kernel_rfl) (by kernel_rfl) (by kernel_rfl) (z0y n) a0b (.of (l:= [(0,(a0q 1000 l1g 0))]) (by kernel_rfl) ⟨.head (a0f (z0y n) a0b (.of (l:= []) (by kernel_rfl) trivial) (a2h n)),trivial⟩) (p2e n)
def s1a:FnT:=⟨3,⟨[(0, .own 2000000),(1, .ptr 1000016 0),(2, .ptr 1000032 0)], [], [(2000000, .arr 3 .i64),(1000016, .box [.ref (.own 1000017)]),(1000017, .arr 37 (.lst .i64)),(1000032, .box [.d .bool])], []⟩, [], [(2000000, .arr 3 .i64),(1000016, .box [.ref (.own 1000017)]),(1000017, .arr 37 (.lst .i64)),(1000032, .box [.d .bool])]⟩
def f2b:Code:=a0n Tryz.f18
def r1t:List (Nat×ArgM):= [(999999999,⟨[1], [], [],false⟩),(19,⟨[], [], [],true⟩)]
instance:DfOk r1t:= .none rfl
def w1p{ρ:Type}:Orc ρ:=a0c 19 i1j (q10z) (a0m)
omit [UDef] [UTabs]in
theorem d1f{ρ:Type}:(w1p:Orc ρ).ok Tryz.prog:=a0a (by kernel_rfl) (x1r) (a0e)
def t2l{ρ:Type}:LOrc ρ:=a0d
omit [Tabs] [QuietD Tryz.prog] [UDef] [UTabs]in
theorem n2k(x):evF Tryz.prog 12 TT r1t s1a (w1p) (t2l) (a0y Tryz.prog 12 TT r1t (w1p)) ⟨[], [], []⟩ [] f2b x=q46z x:=by kernel_rfl
omit [UDef] [UTabs]in
theorem l2e:Contract Tryz.prog 18 s1a (q46z):=
 Contract.of_ev (c:=f2b) (N:=12) Tryz.func18 (by kernel_rfl) (by kernel_rfl) (by kernel_rfl) (by kernel_rfl) (d1f) (a0o (d1f) (by kernel_rfl)) (.of (l:= []) (by kernel_rfl) trivial) (n2k)
def q1x:FnT:=⟨3,⟨[(0, .ptr 1000000 0)], [(1, .i64),(2, .node)], [(1000000, .box [.d .query, .d .graph, .d (.lst (.map .pair .bool))])], []⟩, [.v .bool], [(1000000, .box [.d .query, .d .graph, .d (.lst (.map .pair .bool))])]⟩
def i2r:Code:=a0n Tryz.f89
def h2r:List (Nat×ArgM):= [(35,⟨[], [], [],true⟩)]
instance:DfOk h2r:= .none rfl
def h2j{ρ:Type}(n:Nat):Orc ρ:=a0c 35 w1h (q7z n) (a0m)
omit [UDef] [UTabs]in
theorem r1m{ρ:Type}(n:Nat):(h2j n:Orc ρ).ok Tryz.prog:=a0a (by kernel_rfl) (s1t n) (a0e)
def s2e{ρ:Type}(n:Nat):LOrc ρ:=a0d
omit [Tabs] [QuietD Tryz.prog] [UDef] [UTabs]in
theorem s2j(n:Nat)(x):evF Tryz.prog 26 TT h2r q1x (h2j n) (s2e n) a0g ⟨[], [], []⟩ [.tmp 6] i2r x=q18z n x:=by kernel_rfl
omit [UDef] [UTabs]in
theorem k2h(n:Nat):Contract Tryz.prog 89 q1x (q18z n):=
 Contract.of_ev (c:=i2r) (N:=26) Tryz.func89 (by kernel_rfl) (by kernel_rfl) (by kernel_rfl) (by kernel_rfl) (r1m n) a0b (.of (l:= []) (by kernel_rfl) trivial) (s2j n)
def p1g:FnT:=⟨3,⟨[(0, .ptr 1000000 0),(2, .own 2000016)], [(1, .i64)], [(1000000, .box [.d .query, .d .graph, .d (.lst (.map .pair .bool))]),(2000016, .arr 3 .i64)], []⟩, [.v .bool], [(1000000, .box [.d .query, .d .graph, .d (.lst (.map .pair .bool))]),(2000016, .arr 3 .i64)]⟩
def i1n:Code:=a0n Tryz.f90
def a1f:List (Nat×ArgM):= [(999999999,⟨[1], [], [],false⟩)]
instance:DfOk a1f:= .none rfl
def e1d{ρ:Type}(n:Nat):Orc ρ:=a0m
omit [QuietD Tryz.prog] [UDef] [UTabs]in
theorem m0m{ρ:Type}(n:Nat):(e1d n:Orc ρ).ok Tryz.prog:=a0e
def T_q16z_s0:Tm:=⟨[(0, .ptr 1000000 0),(2, .own 2000016)], [(1, .i64),(8, .i64),(9, .i64)], [(1000000, .box [.d .query, .d .graph, .d (.lst (.map .pair .bool))]),(2000016, .arr 3 .i64)], []⟩
def f1a:Tm:=⟨[], [], [(1000000, .box [.d .query, .d .graph, .d (.lst (.map .pair .bool))]),(2000016, .arr 3 .i64)], []⟩
def b1u:Tm:=⟨[], [(6, .bool)], [(1000000, .box [.d .query, .d .graph, .d (.lst (.map .pair .bool))]),(2000016, .arr 3 .i64)], []⟩
def w1x{ρ:Type}(n:Nat):LOrc ρ:=a0d
omit [Tabs] [QuietD Tryz.prog] [UDef] [UTabs]in
theorem t1s{ρ:Type}(n:Nat)(rec:T_q16z_s0.den→Option ρ) kx kr s:b0o Tryz.prog 55 TT a1f (e1d n) (w1x n) (a0y Tryz.prog 55 TT a1f (e1d n)) 0 (a0q 1000 i1n 0) T_q16z_s0 f1a b1u ⟨[], [], []⟩ rec kx kr s=m0w n rec kx kr s:=by kernel_rfl
def q2r{ρ:Type}(n:Nat):LOrc ρ:=a0j 0 (b0m 55 0 n T_q16z_s0 f1a b1u ⟨[], [], []⟩ (m0w n)) (a0d)
omit [Tabs] [QuietD Tryz.prog] [UDef] [UTabs]in
theorem o2v(n:Nat)(x):evF Tryz.prog 55 TT a1f p1g (e1d n) (q2r n) (a0y Tryz.prog 55 TT a1f (e1d n)) ⟨[], [], []⟩ [.tmp 6] i1n x=q16z n x:=by kernel_rfl
omit [UDef] [UTabs]in
theorem k2n(n:Nat):Contract Tryz.prog 90 p1g (q16z n):=
 Contract.of_ev (c:=i1n) (N:=55) Tryz.func90 (by kernel_rfl) (by kernel_rfl) (by kernel_rfl) (by kernel_rfl) (m0m n) (a0o (m0m n) (by kernel_rfl)) (.of (l:= [(0,(a0q 1000 i1n 0))]) (by kernel_rfl) ⟨.head (a0f (m0m n) (a0o (m0m n) (by kernel_rfl)) (.of (l:= []) (by kernel_rfl) trivial) (t1s n)),trivial⟩) (o2v n)
def n1d:Code:=a0n Tryz.f49
def h1d:List (Nat×ArgM):= [(999999999,⟨[1], [], [],false⟩),(999999992,⟨[25], [], [],false⟩),(18,⟨[1000,1,2], [], [],false⟩),(49,⟨[0,1002,3], [], [],false⟩),(87,⟨[0,1001], [], [],false⟩),(90,⟨[0,1002], [], [],false⟩),(89,⟨[0], [], [],false⟩),(88,⟨[], [], [],true⟩)]
instance:DfOk h1d:= .none rfl
def g1x{ρ:Type}(self_q6z:Int×(Ev.Query×Ev.Graph×(List (List (Ev.Pair×Bool)))×Unit)×(List Int)×Unit×(List (List Int))×(Bool×Unit)×Unit→Option ((Ev.Query×Ev.Graph×(List (List (Ev.Pair×Bool)))×Unit)×(List Int)×Unit×(List (List Int))×(Bool×Unit)×Unit))(n:Nat):Orc ρ:=a0c 87 z1k (q19z n) (a0c 88 s1h (q29z n) (a0c 18 s1a (q46z) (a0c 89 q1x (q18z n) (a0c 90 p1g (q16z n) (a0c 49 f1o (self_q6z) (a0m))))))
omit [UDef]in
theorem i0f{ρ:Type}(self_q6z:Int×(Ev.Query×Ev.Graph×(List (List (Ev.Pair×Bool)))×Unit)×(List Int)×Unit×(List (List Int))×(Bool×Unit)×Unit→Option ((Ev.Query×Ev.Graph×(List (List (Ev.Pair×Bool)))×Unit)×(List Int)×Unit×(List (List Int))×(Bool×Unit)×Unit))(h_q6z:Contract Tryz.prog 49 f1o self_q6z)(n:Nat):(g1x self_q6z n:Orc ρ).ok Tryz.prog:=a0a (by kernel_rfl) (k2d n) (a0a (by kernel_rfl) (n2d n) (a0a (by kernel_rfl) (l2e) (a0a (by kernel_rfl) (k2h n) (a0a (by kernel_rfl) (k2n n) (a0a (by kernel_rfl) (h_q6z) (a0e))))))
def T_q6z_s2:Tm:=⟨[(0, .ptr 1000000 0),(2, .own 2000016),(3, .clo 18 [1000032,1000034]),(11, .ptr 11 0)], [(1, .i64),(8, .i64),(12, .i64),(13, .i64),(41,(.lst .node)),(42, .i64),(43, .i64),(118,(.lst .edg)),(119, .i64),(120, .i64)], [(11, .box [.d .arrow]),(1000000, .box [.d .query, .d .graph, .d (.lst (.map .pair .bool))]),(1000032, .box [.ref (.own 1000033)]),(1000033, .arr 37 (.lst .i64)),(1000034, .box [.d .bool]),(2000016, .arr 3 .i64)], []⟩
def j1q:Tm:=⟨[(0, .ptr 1000000 0),(2, .own 2000016),(3, .clo 18 [1000032,1000034])], [(1, .i64),(8, .i64),(41,(.lst .node)),(42, .i64),(43, .i64)], [(1000000, .box [.d .query, .d .graph, .d (.lst (.map .pair .bool))]),(1000032, .box [.ref (.own 1000033)]),(1000033, .arr 37 (.lst .i64)),(1000034, .box [.d .bool]),(2000016, .arr 3 .i64)], []⟩
def l0k:Tm:=⟨[], [], [], []⟩
def d2u{ρ:Type}(self_q6z:Int×(Ev.Query×Ev.Graph×(List (List (Ev.Pair×Bool)))×Unit)×(List Int)×Unit×(List (List Int))×(Bool×Unit)×Unit→Option ((Ev.Query×Ev.Graph×(List (List (Ev.Pair×Bool)))×Unit)×(List Int)×Unit×(List (List Int))×(Bool×Unit)×Unit))(n:Nat):LOrc ρ:=a0d
omit [Tabs] [QuietD Tryz.prog] [UDef] [UTabs]in
theorem d2q{ρ:Type}(self_q6z:Int×(Ev.Query×Ev.Graph×(List (List (Ev.Pair×Bool)))×Unit)×(List Int)×Unit×(List (List Int))×(Bool×Unit)×Unit→Option ((Ev.Query×Ev.Graph×(List (List (Ev.Pair×Bool)))×Unit)×(List Int)×Unit×(List (List Int))×(Bool×Unit)×Unit))(n:Nat)(rec:T_q6z_s2.den→Option ρ) kx kr s:b0o Tryz.prog 162 TT h1d (g1x self_q6z n) (d2u self_q6z n) (a0y Tryz.prog 162 TT h1d (g1x self_q6z n)) 2 (a0q 0 (a0q 1000 n1d 0) 0) T_q6z_s2 j1q l0k ⟨[], [], []⟩ rec kx kr s=a1k self_q6z n rec kx kr s:=by kernel_rfl
def T_q6z_s0:Tm:=⟨[(0, .ptr 1000000 0),(2, .own 2000016),(3, .clo 18 [1000032,1000034])], [(1, .i64),(8, .i64),(41,(.lst .node)),(42, .i64),(43, .i64)], [(1000000, .box [.d .query, .d .graph, .d (.lst (.map .pair .bool))]),(1000032, .box [.ref (.own 1000033)]),(1000033, .arr 37 (.lst .i64)),(1000034, .box [.d .bool]),(2000016, .arr 3 .i64)], []⟩
def k1n:Tm:=⟨[], [], [(1000000, .box [.d .query, .d .graph, .d (.lst (.map .pair .bool))]),(1000032, .box [.ref (.own 1000033)]),(1000033, .arr 37 (.lst .i64)),(1000034, .box [.d .bool]),(2000016, .arr 3 .i64)], []⟩
def j1n:Tm:=⟨[], [], [], []⟩
def b2d{ρ:Type}(self_q6z:Int×(Ev.Query×Ev.Graph×(List (List (Ev.Pair×Bool)))×Unit)×(List Int)×Unit×(List (List Int))×(Bool×Unit)×Unit→Option ((Ev.Query×Ev.Graph×(List (List (Ev.Pair×Bool)))×Unit)×(List Int)×Unit×(List (List Int))×(Bool×Unit)×Unit))(n:Nat):LOrc ρ:=a0j 2 (b0m 162 2 n T_q6z_s2 j1q l0k ⟨[], [], []⟩ (a1k self_q6z n)) (a0d)
omit [Tabs] [QuietD Tryz.prog] [UDef] [UTabs]in
theorem b2n{ρ:Type}(self_q6z:Int×(Ev.Query×Ev.Graph×(List (List (Ev.Pair×Bool)))×Unit)×(List Int)×Unit×(List (List Int))×(Bool×Unit)×Unit→Option ((Ev.Query×Ev.Graph×(List (List (Ev.Pair×Bool)))×Unit)×(List Int)×Unit×(List (List Int))×(Bool×Unit)×Unit))(n:Nat)(rec:T_q6z_s0.den→Option ρ) kx kr s:b0o Tryz.prog 162 TT h1d (g1x self_q6z n) (b2d self_q6z n) (a0y Tryz.prog 162 TT h1d (g1x self_q6z n)) 0 (a0q 1000 n1d 0) T_q6z_s0 k1n j1n ⟨[], [], []⟩ rec kx kr s=e0n self_q6z n rec kx kr s:=by kernel_rfl
def v2g{ρ:Type}(self_q6z:Int×(Ev.Query×Ev.Graph×(List (List (Ev.Pair×Bool)))×Unit)×(List Int)×Unit×(List (List Int))×(Bool×Unit)×Unit→Option ((Ev.Query×Ev.Graph×(List (List (Ev.Pair×Bool)))×Unit)×(List Int)×Unit×(List (List Int))×(Bool×Unit)×Unit))(n:Nat):LOrc ρ:=a0j 0 (b0m 162 0 n T_q6z_s0 k1n j1n ⟨[], [], []⟩ (e0n self_q6z n)) (a0d)
omit [Tabs] [QuietD Tryz.prog] [UDef] [UTabs]in
theorem u2o(self_q6z:Int×(Ev.Query×Ev.Graph×(List (List (Ev.Pair×Bool)))×Unit)×(List Int)×Unit×(List (List Int))×(Bool×Unit)×Unit→Option ((Ev.Query×Ev.Graph×(List (List (Ev.Pair×Bool)))×Unit)×(List Int)×Unit×(List (List Int))×(Bool×Unit)×Unit))(n:Nat)(x):evF Tryz.prog 162 TT h1d f1o (g1x self_q6z n) (v2g self_q6z n) (a0y Tryz.prog 162 TT h1d (g1x self_q6z n)) ⟨[], [], []⟩ [] n1d x=a2e self_q6z n x:=by kernel_rfl
omit [UDef]in
theorem m2l(self_q6z:Int×(Ev.Query×Ev.Graph×(List (List (Ev.Pair×Bool)))×Unit)×(List Int)×Unit×(List (List Int))×(Bool×Unit)×Unit→Option ((Ev.Query×Ev.Graph×(List (List (Ev.Pair×Bool)))×Unit)×(List Int)×Unit×(List (List Int))×(Bool×Unit)×Unit))(h_q6z:Contract Tryz.prog 49 f1o self_q6z)(n:Nat):Contract Tryz.prog 49 f1o (a2e self_q6z n):=
 Contract.of_ev (c:=n1d) (N:=162) Tryz.func49 (by kernel_rfl) (by kernel_rfl) (by kernel_rfl) (by kernel_rfl) (i0f self_q6z h_q6z n) (a0o (i0f self_q6z h_q6z n) (by kernel_rfl)) (.of (l:= [(0,(a0q 1000 n1d 0))]) (by kernel_rfl) ⟨.head (a0f (i0f self_q6z h_q6z n) (a0o (i0f self_q6z h_q6z n) (by kernel_rfl)) (.of (l:= [(2,(a0q 0 (a0q 1000 n1d 0) 0))]) (by kernel_rfl) ⟨.head (a0f (i0f self_q6z h_q6z n) (a0o (i0f self_q6z h_q6z n) (by kernel_rfl)) (.of (l:= []) (by kernel_rfl) trivial) (d2q self_q6z n)),trivial⟩) (b2n self_q6z n)),trivial⟩) (u2o self_q6z n)
omit [UDef]in
theorem i2p: ∀n,Contract Tryz.prog 49 f1o (q6z n)
 | 0=>fun _ _ h=>by cases h
 | n+1=>m2l _ (i2p n) n
def t2d:Code:=a0n Tryz.f17
def m2u:List (Nat×ArgM):= [(999999999,⟨[1], [], [],false⟩),(999999994,⟨[20], [], [],false⟩),(49,⟨[0,1002,3], [], [],false⟩)]
instance:DfOk m2u:= .none rfl
def j2m{ρ:Type}(n:Nat):Orc ρ:=a0c 49 f1o (q6z n) (a0m)
omit [UDef]in
theorem m1w{ρ:Type}(n:Nat):(j2m n:Orc ρ).ok Tryz.prog:=a0a (by kernel_rfl) (i2p n) (a0e)
def v2c{ρ:Type}(n:Nat):LOrc ρ:=a0d
omit [Tabs] [QuietD Tryz.prog] [UDef] [UTabs]in
theorem u2y(n:Nat)(x):evF Tryz.prog 21 TT m2u k2w (j2m n) (v2c n) (a0y Tryz.prog 21 TT m2u (j2m n)) ⟨[], [], []⟩ [] t2d x=q5z n x:=by kernel_rfl
omit [UDef]in
theorem n2m(n:Nat):Contract Tryz.prog 17 k2w (q5z n):=
 Contract.of_ev (c:=t2d) (N:=21) Tryz.func17 (by kernel_rfl) (by kernel_rfl) (by kernel_rfl) (by kernel_rfl) (m1w n) (a0o (m1w n) (by kernel_rfl)) (.of (l:= []) (by kernel_rfl) trivial) (u2y n)
def s0j:Code:=a0n Tryz.f5
def r0h:List (Nat×ArgM):= [(999999999,⟨[1], [], [],false⟩),(1700000009,⟨[8,0,600008,37,1], [], [],false⟩),(17,⟨[0,1], [], [],false⟩),(20,⟨[1000], [], [],false⟩),(14,⟨[], [], [],true⟩),(15,⟨[], [], [],true⟩),(16,⟨[], [], [12],false⟩)]
instance:DfOk r0h:= .none rfl
def r0y{ρ:Type}(n:Nat):Orc ρ:=a0c 14 z1z (q47z n) (a0c 15 k1x (q44z n) (a0c 16 k0a (f0j n) (a0c 17 k2w (q5z n) (a0c 20 h2g (sfLL) (a0m)))))
omit [UDef]in
theorem t0f{ρ:Type}(n:Nat):(r0y n:Orc ρ).ok Tryz.prog:=a0a (by kernel_rfl) (l2k n) (a0a (by kernel_rfl) (z1u n) (a0a (by kernel_rfl) (b1c n) (a0a (by kernel_rfl) (n2m n) (a0a (by kernel_rfl) (e2j) (a0e)))))
def h1k{ρ:Type}(n:Nat):LOrc ρ:=a0d
omit [Tabs] [QuietD Tryz.prog] [UDef] [UTabs]in
theorem f1g(n:Nat)(x):evF Tryz.prog 29 TT r0h g0g (r0y n) (h1k n) a0g ⟨[], [], []⟩ [.tmp 4, .tmp 5] s0j x=b0p n x:=by kernel_rfl
omit [UDef]in
theorem o0i(n:Nat):Contract Tryz.prog 5 g0g (b0p n):=
 Contract.of_ev (c:=s0j) (N:=29) Tryz.func5 (by kernel_rfl) (by kernel_rfl) (by kernel_rfl) (by kernel_rfl) (t0f n) a0b (.of (l:= []) (by kernel_rfl) trivial) (f1g n)
def y1x:FnT:=⟨0,⟨[], [], [], []⟩, [.v .bool], []⟩
def w1z:FnT:=⟨1,⟨[], [(0, .i64)], [], []⟩, [.v .val], []⟩
def f2y:Code:=a0n Tryz.f22
def g2k:List (Nat×ArgM):= []
instance:DfOk g2k:= .none rfl
def h2y{ρ:Type}:Orc ρ:=a0m
omit [QuietD Tryz.prog] [UDef] [UTabs]in
theorem u1q{ρ:Type}:(h2y:Orc ρ).ok Tryz.prog:=a0e
def p2p{ρ:Type}:LOrc ρ:=a0d
omit [Tabs] [QuietD Tryz.prog] [UDef] [UTabs]in
theorem t2e(x):evF Tryz.prog 5 TT g2k w1z (h2y) (p2p) a0g ⟨[], [], []⟩ [.cell 2 42] f2y x=q26z x:=by kernel_rfl
omit [UDef] [UTabs]in
theorem k2i:Contract Tryz.prog 22 w1z (q26z):=
 Contract.of_ev (c:=f2y) (N:=5) Tryz.func22 (by kernel_rfl) (by kernel_rfl) (by kernel_rfl) (by kernel_rfl) (u1q) a0b (.of (l:= []) (by kernel_rfl) trivial) (t2e)
def u1n:FnT:=⟨2,⟨[], [(0, .str),(1,(.lst .term))], [], []⟩, [.v .term], []⟩
def f2i:Code:=a0n Tryz.f21
def f2w:List (Nat×ArgM):= []
instance:DfOk f2w:= .none rfl
def g2z{ρ:Type}:Orc ρ:=a0m
omit [QuietD Tryz.prog] [UDef] [UTabs]in
theorem r1x{ρ:Type}:(g2z:Orc ρ).ok Tryz.prog:=a0e
def o2h{ρ:Type}:LOrc ρ:=a0d
omit [Tabs] [QuietD Tryz.prog] [UDef] [UTabs]in
theorem p2z(x):evF Tryz.prog 8 TT f2w u1n (g2z) (o2h) a0g ⟨[], [], []⟩ [.cell 4 71] f2i x=q23z x:=by kernel_rfl
omit [UDef] [UTabs]in
theorem l2c:Contract Tryz.prog 21 u1n (q23z):=
 Contract.of_ev (c:=f2i) (N:=8) Tryz.func21 (by kernel_rfl) (by kernel_rfl) (by kernel_rfl) (by kernel_rfl) (r1x) a0b (.of (l:= []) (by kernel_rfl) trivial) (p2z)
def y1a:FnT:=⟨0,⟨[], [], [], []⟩, [.v .graph], []⟩
def j2f:Code:=a0n Tryz.f23
def h2z:List (Nat×ArgM):= []
instance:DfOk h2z:= .none rfl
def i2b{ρ:Type}:Orc ρ:=a0m
omit [QuietD Tryz.prog] [UDef] [UTabs]in
theorem z1i{ρ:Type}:(i2b:Orc ρ).ok Tryz.prog:=a0e
def n2g{ρ:Type}:LOrc ρ:=a0d
omit [Tabs] [QuietD Tryz.prog] [UDef] [UTabs]in
theorem q2n(x):evF Tryz.prog 10 TT h2z y1a (i2b) (n2g) a0g ⟨[], [], []⟩ [.cell 0 31] j2f x=q17z x:=by kernel_rfl
omit [UDef] [UTabs]in
theorem m2e:Contract Tryz.prog 23 y1a (q17z):=
 Contract.of_ev (c:=j2f) (N:=10) Tryz.func23 (by kernel_rfl) (by kernel_rfl) (by kernel_rfl) (by kernel_rfl) (z1i) a0b (.of (l:= []) (by kernel_rfl) trivial) (q2n)
def m2p:FnT:=⟨3,⟨[(2, .fn 13)], [(0,(.lst (.lst .i64))),(1,(.lst (.lst .i64)))], [], []⟩, [.v .bool], []⟩
def w1g:FnT:=⟨2,⟨[], [(0,(.lst .i64)),(1,(.lst .i64))], [], []⟩, [.v .bool], []⟩
def l1j:Code:=a0n Tryz.f13
def b1j:List (Nat×ArgM):= []
instance:DfOk b1j:= .none rfl
def b1a{ρ:Type}(n:Nat):Orc ρ:=a0m
omit [QuietD Tryz.prog] [UDef] [UTabs]in
theorem l0z{ρ:Type}(n:Nat):(b1a n:Orc ρ).ok Tryz.prog:=a0e
def T_q13z_s0:Tm:=⟨[], [(0,(.lst .i64)),(1,(.lst .i64)),(12, .i64),(13, .i64)], [], []⟩
def b1h:Tm:=⟨[], [], [], []⟩
def s0s:Tm:=⟨[], [(4, .bool)], [], []⟩
def p1n{ρ:Type}(n:Nat):LOrc ρ:=a0d
omit [Tabs] [QuietD Tryz.prog] [UDef] [UTabs]in
theorem z1s{ρ:Type}(n:Nat)(rec:T_q13z_s0.den→Option ρ) kx kr s:b0o Tryz.prog 26 TT b1j (b1a n) (p1n n) (a0y Tryz.prog 26 TT b1j (b1a n)) 0 (a0q 1000 l1j 0) T_q13z_s0 b1h s0s ⟨[], [], []⟩ rec kx kr s=y0s n rec kx kr s:=by kernel_rfl
def u2a{ρ:Type}(n:Nat):LOrc ρ:=a0j 0 (b0m 26 0 n T_q13z_s0 b1h s0s ⟨[], [], []⟩ (y0s n)) (a0d)
omit [Tabs] [QuietD Tryz.prog] [UDef] [UTabs]in
theorem p2y(n:Nat)(x):evF Tryz.prog 26 TT b1j w1g (b1a n) (u2a n) (a0y Tryz.prog 26 TT b1j (b1a n)) ⟨[], [], []⟩ [.tmp 4] l1j x=q13z n x:=by kernel_rfl
omit [UDef] [UTabs]in
theorem n2c(n:Nat):Contract Tryz.prog 13 w1g (q13z n):=
 Contract.of_ev (c:=l1j) (N:=26) Tryz.func13 (by kernel_rfl) (by kernel_rfl) (by kernel_rfl) (by kernel_rfl) (l0z n) (a0o (l0z n) (by kernel_rfl)) (.of (l:= [(0,(a0q 1000 l1j 0))]) (by kernel_rfl) ⟨.head (a0f (l0z n) (a0o (l0z n) (by kernel_rfl)) (.of (l:= []) (by kernel_rfl) trivial) (z1s n)),trivial⟩) (p2y n)
def e2k:Code:=a0n Tryz.f12
def m2g:List (Nat×ArgM):= [(13,⟨[], [], [],true⟩)]
instance:DfOk m2g:= .none rfl
def m2h{ρ:Type}(n:Nat):Orc ρ:=a0c 13 w1g (q13z n) (a0m)
omit [UDef] [UTabs]in
theorem i1t{ρ:Type}(n:Nat):(m2h n:Orc ρ).ok Tryz.prog:=a0a (by kernel_rfl) (n2c n) (a0e)
def T_q4z_s0:Tm:=⟨[(2, .fn 13)], [(1,(.lst (.lst .i64))),(15,(.lst (.lst .i64))),(16, .i64),(17, .i64)], [], []⟩
def i1l:Tm:=⟨[], [], [], []⟩
def v0z:Tm:=⟨[], [(6, .bool)], [], []⟩
def c2w{ρ:Type}(n:Nat):LOrc ρ:=a0d
omit [Tabs] [QuietD Tryz.prog] [UDef] [UTabs]in
theorem d2c{ρ:Type}(n:Nat)(rec:T_q4z_s0.den→Option ρ) kx kr s:b0o Tryz.prog 32 TT m2g (m2h n) (c2w n) a0g 0 (a0q 1000 e2k 0) T_q4z_s0 i1l v0z ⟨[], [], []⟩ rec kx kr s=m1m n rec kx kr s:=by kernel_rfl
def u2u{ρ:Type}(n:Nat):LOrc ρ:=a0j 0 (b0m 32 0 n T_q4z_s0 i1l v0z ⟨[], [], []⟩ (m1m n)) (a0d)
omit [Tabs] [QuietD Tryz.prog] [UDef] [UTabs]in
theorem u2r(n:Nat)(x):evF Tryz.prog 32 TT m2g m2p (m2h n) (u2u n) a0g ⟨[], [], []⟩ [.tmp 6] e2k x=q4z n x:=by kernel_rfl
omit [UDef] [UTabs]in
theorem q2s(n:Nat):Contract Tryz.prog 12 m2p (q4z n):=
 Contract.of_ev (c:=e2k) (N:=32) Tryz.func12 (by kernel_rfl) (by kernel_rfl) (by kernel_rfl) (by kernel_rfl) (i1t n) a0b (.of (l:= [(0,(a0q 1000 e2k 0))]) (by kernel_rfl) ⟨.head (a0f (i1t n) a0b (.of (l:= []) (by kernel_rfl) trivial) (d2c n)),trivial⟩) (u2r n)
def f2c:Code:=a0n Tryz.f6
def f2j:List (Nat×ArgM):= [(12,⟨[], [], [],true⟩)]
instance:DfOk f2j:= .none rfl
def h2q{ρ:Type}(n:Nat):Orc ρ:=a0c 22 w1z (q26z) (a0c 21 u1n (q23z) (a0c 23 y1a (q17z) (a0c 5 g0g (b0p n) (a0c 12 m2p (q4z n) (a0m)))))
omit [UDef]in
theorem r1u{ρ:Type}(n:Nat):(h2q n:Orc ρ).ok Tryz.prog:=a0a (by kernel_rfl) (k2i) (a0a (by kernel_rfl) (l2c) (a0a (by kernel_rfl) (m2e) (a0a (by kernel_rfl) (o0i n) (a0a (by kernel_rfl) (q2s n) (a0e)))))
def s2o{ρ:Type}(n:Nat):LOrc ρ:=a0d
omit [Tabs] [QuietD Tryz.prog] [UDef] [UTabs]in
theorem p2o(n:Nat)(x):evF Tryz.prog 32 TT f2j y1x (h2q n) (s2o n) a0g ⟨[], [], []⟩ [.tmp 0] f2c x=q14z n x:=by kernel_rfl
omit [UDef]in
theorem j2y(n:Nat):Contract Tryz.prog 6 y1x (q14z n):=
 Contract.of_ev (c:=f2c) (N:=32) Tryz.func6 (by kernel_rfl) (by kernel_rfl) (by kernel_rfl) (by kernel_rfl) (r1u n) a0b (.of (l:= []) (by kernel_rfl) trivial) (p2o n)
def j0w:FnT:=⟨2,⟨[], [(0, .graph),(1,(.lst .opn))], [], []⟩, [.v .graph, .v (.lst .i64), .v .i64, .v .i64], []⟩
def m1f:FnT:=⟨1,⟨[], [(0, .node)], [], []⟩, [.v .node], []⟩
def m2r:FnT:=⟨1,⟨[], [(0,(.lst .str))], [], []⟩, [.v (.lst .str)], []⟩
def r2r:Code:=a0n Tryz.f101
def r2q:List (Nat×ArgM):= []
instance:DfOk r2q:= .none rfl
def o2u{ρ:Type}:Orc ρ:=a0m
omit [QuietD Tryz.prog] [UDef] [UTabs]in
theorem a2v{ρ:Type}:(o2u:Orc ρ).ok Tryz.prog:=a0e
def v2f{ρ:Type}:LOrc ρ:=a0d
omit [Tabs] [QuietD Tryz.prog] [UDef] [UTabs]in
theorem v2a(x):evF Tryz.prog 8 TT r2q m2r (o2u) (v2f) a0g ⟨[], [], []⟩ [.tmp 2] r2r x=q8z x:=by kernel_rfl
omit [UDef] [UTabs]in
theorem t2h:Contract Tryz.prog 101 m2r (q8z):=
 Contract.of_ev (c:=r2r) (N:=8) Tryz.func101 (by kernel_rfl) (by kernel_rfl) (by kernel_rfl) (by kernel_rfl) (a2v) a0b (.of (l:= []) (by kernel_rfl) trivial) (v2a)
def k1g:FnT:=⟨1,⟨[], [(0,(.lst .prp))], [], []⟩, [.v (.lst .prp)], []⟩
def m1p:Code:=a0n Tryz.f102
def a2f:List (Nat×ArgM):= []
instance:DfOk a2f:= .none rfl
def x1a{ρ:Type}(n:Nat):Orc ρ:=a0c 110 i0o (q66z n) (a0m)
omit [UDef] [UTabs]in
theorem z0i{ρ:Type}(n:Nat):(x1a n:Orc ρ).ok Tryz.prog:=a0a (by kernel_rfl) (r0d n) (a0e)
def T_q27z_s0:Tm:=⟨[(3, .own 3)], [(6,(.lst .prp)),(7, .i64),(8, .i64)], [(3, .arr 152 .prp)], []⟩
def e1c:Tm:=⟨[(3, .own 3)], [], [(3, .arr 152 .prp)], []⟩
def k0k:Tm:=⟨[], [], [], []⟩
def a2c{ρ:Type}(n:Nat):LOrc ρ:=a0d
omit [Tabs] [QuietD Tryz.prog] [UDef] [UTabs]in
theorem p1f{ρ:Type}(n:Nat)(rec:T_q27z_s0.den→Option ρ) kx kr s:b0o Tryz.prog 22 TT a2f (x1a n) (a2c n) a0g 0 (a0q 1000 m1p 0) T_q27z_s0 e1c k0k ⟨[], [(3,3,152,5)], []⟩ rec kx kr s=w0l n rec kx kr s:=by kernel_rfl
def o2o{ρ:Type}(n:Nat):LOrc ρ:=a0j 0 (b0m 22 0 n T_q27z_s0 e1c k0k ⟨[], [(3,3,152,5)], []⟩ (w0l n)) (a0d)
omit [Tabs] [QuietD Tryz.prog] [UDef] [UTabs]in
theorem n2l(n:Nat)(x):evF Tryz.prog 22 TT a2f k1g (x1a n) (o2o n) a0g ⟨[], [], []⟩ [.tmp 2] m1p x=q27z n x:=by kernel_rfl
omit [UDef] [UTabs]in
theorem p1w(n:Nat):Contract Tryz.prog 102 k1g (q27z n):=
 Contract.of_ev (c:=m1p) (N:=22) Tryz.func102 (by kernel_rfl) (by kernel_rfl) (by kernel_rfl) (by kernel_rfl) (z0i n) a0b (.of (l:= [(0,(a0q 1000 m1p 0))]) (by kernel_rfl) ⟨.head (a0f (z0i n) a0b (.of (l:= []) (by kernel_rfl) trivial) (p1f n)),trivial⟩) (n2l n)
def i2h:Code:=a0n Tryz.f52
def i2y:List (Nat×ArgM):= []
instance:DfOk i2y:= .none rfl
def g2c{ρ:Type}(n:Nat):Orc ρ:=a0c 101 m2r (q8z) (a0c 102 k1g (q27z n) (a0m))
omit [UDef] [UTabs]in
theorem r1s{ρ:Type}(n:Nat):(g2c n:Orc ρ).ok Tryz.prog:=a0a (by kernel_rfl) (t2h) (a0a (by kernel_rfl) (p1w n) (a0e))
def t2p{ρ:Type}(n:Nat):LOrc ρ:=a0d
omit [Tabs] [QuietD Tryz.prog] [UDef] [UTabs]in
theorem p2j(n:Nat)(x):evF Tryz.prog 12 TT i2y m1f (g2c n) (t2p n) a0g ⟨[], [], []⟩ [.cell 2 93] i2h x=q31z n x:=by kernel_rfl
omit [UDef] [UTabs]in
theorem u1g(n:Nat):Contract Tryz.prog 52 m1f (q31z n):=
 Contract.of_ev (c:=i2h) (N:=12) Tryz.func52 (by kernel_rfl) (by kernel_rfl) (by kernel_rfl) (by kernel_rfl) (r1s n) a0b (.of (l:= []) (by kernel_rfl) trivial) (p2j n)
def j1m:FnT:=⟨1,⟨[], [(0, .edg)], [], []⟩, [.v .edg], []⟩
def f2v:Code:=a0n Tryz.f53
def h2i:List (Nat×ArgM):= []
instance:DfOk h2i:= .none rfl
def i2m{ρ:Type}(n:Nat):Orc ρ:=a0c 102 k1g (q27z n) (a0m)
omit [UDef] [UTabs]in
theorem u1o{ρ:Type}(n:Nat):(i2m n:Orc ρ).ok Tryz.prog:=a0a (by kernel_rfl) (p1w n) (a0e)
def r2y{ρ:Type}(n:Nat):LOrc ρ:=a0d
omit [Tabs] [QuietD Tryz.prog] [UDef] [UTabs]in
theorem n2n(n:Nat)(x):evF Tryz.prog 8 TT h2i j1m (i2m n) (r2y n) a0g ⟨[], [], []⟩ [.cell 2 98] f2v x=q30z n x:=by kernel_rfl
omit [UDef] [UTabs]in
theorem q1d(n:Nat):Contract Tryz.prog 53 j1m (q30z n):=
 Contract.of_ev (c:=f2v) (N:=8) Tryz.func53 (by kernel_rfl) (by kernel_rfl) (by kernel_rfl) (by kernel_rfl) (u1o n) a0b (.of (l:= []) (by kernel_rfl) trivial) (n2n n)
def y1q:FnT:=⟨1,⟨[], [(0, .graph)], [], []⟩, [.mix [.ref (.own 300120), .ref (.own 300121), .d .i64]], [(300120, .arr 93 .node),(300121, .arr 98 .edg)]⟩
def v0k:Code:=a0n Tryz.f24
def r0m:List (Nat×ArgM):= []
instance:DfOk r0m:= .none rfl
def r0a{ρ:Type}(n:Nat):Orc ρ:=a0c 52 m1f (q31z n) (a0c 53 j1m (q30z n) (a0m))
omit [UDef] [UTabs]in
theorem f0y{ρ:Type}(n:Nat):(r0a n:Orc ρ).ok Tryz.prog:=a0a (by kernel_rfl) (u1g n) (a0a (by kernel_rfl) (q1d n) (a0e))
def T_q32z_s0:Tm:=⟨[(1, .ptr 1 0),(2, .ptr 2 0),(3, .ptr 3 0)], [(12,(.lst .node)),(13, .i64),(14, .i64)], [(1, .box [.d .graph]),(2, .box [.d .graph]),(3, .box [.ref (.own 300120), .ref (.nils), .d .i64]),(300120, .arr 93 .node)], []⟩
def d1s:Tm:=⟨[(1, .ptr 1 0),(2, .ptr 2 0),(3, .ptr 3 0)], [], [(1, .box [.d .graph]),(2, .box [.d .graph]),(3, .box [.ref (.own 300120), .ref (.nils), .d .i64]),(300120, .arr 93 .node)], []⟩
def k0u:Tm:=⟨[], [], [], []⟩
def s1q{ρ:Type}(n:Nat):LOrc ρ:=a0d
omit [Tabs] [QuietD Tryz.prog] [UDef] [UTabs]in
theorem p1d{ρ:Type}(n:Nat)(rec:T_q32z_s0.den→Option ρ) kx kr s:b0o Tryz.prog 42 TT r0m (r0a n) (s1q n) (a0y Tryz.prog 42 TT r0m (r0a n)) 0 (a0q 1000 v0k 0) T_q32z_s0 d1s k0u ⟨[], [], [(3,0,300120,93,3)]⟩ rec kx kr s=x0o n rec kx kr s:=by kernel_rfl
def T_q32z_s2:Tm:=⟨[(2, .ptr 2 0),(3, .ptr 3 0)], [(27,(.lst .edg)),(28, .i64),(29, .i64)], [(2, .box [.d .graph]),(3, .box [.ref (.own 300120), .ref (.own 300121), .d .i64]),(300120, .arr 93 .node),(300121, .arr 98 .edg)], []⟩
def c1q:Tm:=⟨[(2, .ptr 2 0),(3, .ptr 3 0)], [], [(2, .box [.d .graph]),(3, .box [.ref (.own 300120), .ref (.own 300121), .d .i64]),(300120, .arr 93 .node),(300121, .arr 98 .edg)], []⟩
def m0b:Tm:=⟨[], [], [], []⟩
def q1e{ρ:Type}(n:Nat):LOrc ρ:=a0d
omit [Tabs] [QuietD Tryz.prog] [UDef] [UTabs]in
theorem v1x{ρ:Type}(n:Nat)(rec:T_q32z_s2.den→Option ρ) kx kr s:b0o Tryz.prog 42 TT r0m (r0a n) (q1e n) (a0y Tryz.prog 42 TT r0m (r0a n)) 2 (a0q 1000 v0k 1) T_q32z_s2 c1q m0b ⟨[], [], [(3,1,300121,98,5)]⟩ rec kx kr s=x0s n rec kx kr s:=by kernel_rfl
def r2j{ρ:Type}(n:Nat):LOrc ρ:=a0j 0 (b0m 42 0 n T_q32z_s0 d1s k0u ⟨[], [], [(3,0,300120,93,3)]⟩ (x0o n)) (a0j 2 (b0m 42 2 n T_q32z_s2 c1q m0b ⟨[], [], [(3,1,300121,98,5)]⟩ (x0s n)) (a0d))
omit [Tabs] [QuietD Tryz.prog] [UDef] [UTabs]in
theorem q2v(n:Nat)(x):evF Tryz.prog 42 TT r0m y1q (r0a n) (r2j n) (a0y Tryz.prog 42 TT r0m (r0a n)) ⟨[], [], []⟩ [.cell 2 31] v0k x=q32z n x:=by kernel_rfl
omit [UDef] [UTabs]in
theorem m2s(n:Nat):Contract Tryz.prog 24 y1q (q32z n):=
 Contract.of_ev (c:=v0k) (N:=42) Tryz.func24 (by kernel_rfl) (by kernel_rfl) (by kernel_rfl) (by kernel_rfl) (f0y n) (a0o (f0y n) (by kernel_rfl)) (.of (l:= [(0,(a0q 1000 v0k 0)),(2,(a0q 1000 v0k 1))]) (by kernel_rfl) ⟨.head (a0f (f0y n) (a0o (f0y n) (by kernel_rfl)) (.of (l:= []) (by kernel_rfl) trivial) (p1d n)),⟨.tail rfl (.head (a0f (f0y n) (a0o (f0y n) (by kernel_rfl)) (.of (l:= []) (by kernel_rfl) trivial) (v1x n))),trivial⟩⟩) (q2v n)
def u1w:FnT:=⟨2,⟨[(0, .ptr 1000000 0)], [(1, .opn)], [(1000000, .box [.ref (.own 1000001), .ref (.own 1000002), .d .i64, .ref (.own 1000003)]),(1000001, .arr 93 .node),(1000002, .arr 98 .edg),(1000003, .arr 3 .i64)], []⟩, [.v .i64], [(1000000, .box [.ref (.own 1000001), .ref (.own 1000002), .d .i64, .ref (.own 1000003)]),(1000001, .arr 93 .node),(1000002, .arr 98 .edg),(1000003, .arr 3 .i64)]⟩
def y1w:FnT:=⟨2,⟨[], [(1, .i64)], [], [(1000000, [.rp [.graph,(.lst .i64)]])]⟩, [.v .i64], []⟩
def g2s:Code:=a0n Tryz.f55
def g2q:List (Nat×ArgM):= []
instance:DfOk g2q:= .none rfl
def g2i{ρ:Type}:Orc ρ:=a0m
omit [QuietD Tryz.prog] [UDef] [UTabs]in
theorem r1g{ρ:Type}:(g2i:Orc ρ).ok Tryz.prog:=a0e
def r2m{ρ:Type}:LOrc ρ:=a0d
omit [Tabs] [QuietD Tryz.prog] [UDef] [UTabs]in
theorem s2l(x):evF Tryz.prog 27 TT g2q y1w (g2i) (r2m) a0g ⟨[], [], []⟩ [.tmp 4] g2s x=q34z x:=by kernel_rfl
omit [UDef] [UTabs]in
theorem m2b:Contract Tryz.prog 55 y1w (q34z):=
 Contract.of_ev (c:=g2s) (N:=27) Tryz.func55 (by kernel_rfl) (by kernel_rfl) (by kernel_rfl) (by kernel_rfl) (r1g) a0b (.of (l:= []) (by kernel_rfl) trivial) (s2l)
def j1j:FnT:=⟨1,⟨[(0, .ptr 1000000 0)], [], [(1000000, .box [.ref (.own 1000001), .ref (.own 1000002), .d .i64, .ref (.own 1000003)]),(1000001, .arr 93 .node),(1000002, .arr 98 .edg),(1000003, .arr 3 .i64)], []⟩, [.v .i64, .v .i64], [(1000000, .box [.ref (.own 1000001), .ref (.own 1000002), .d .i64, .ref (.own 1000003)]),(1000001, .arr 93 .node),(1000002, .arr 98 .edg),(1000003, .arr 3 .i64)]⟩
def g2m:Code:=a0n Tryz.f54
def i2g:List (Nat×ArgM):= []
instance:DfOk i2g:= .none rfl
def h2x{ρ:Type}:Orc ρ:=a0m
omit [QuietD Tryz.prog] [UDef] [UTabs]in
theorem s1j{ρ:Type}:(h2x:Orc ρ).ok Tryz.prog:=a0e
def s2x{ρ:Type}:LOrc ρ:=a0d
omit [Tabs] [QuietD Tryz.prog] [UDef] [UTabs]in
theorem r2i(x):evF Tryz.prog 36 TT i2g j1j (h2x) (s2x) a0g ⟨[], [], []⟩ [.tmp 2, .tmp 3] g2m x=q20z x:=by kernel_rfl
omit [UDef] [UTabs]in
theorem p1h:Contract Tryz.prog 54 j1j (q20z):=
 Contract.of_ev (c:=g2m) (N:=36) Tryz.func54 (by kernel_rfl) (by kernel_rfl) (by kernel_rfl) (by kernel_rfl) (s1j) a0b (.of (l:= []) (by kernel_rfl) trivial) (r2i)
def g2p:Code:=a0n Tryz.f26
def r1n:List (Nat×ArgM):= [(999999999,⟨[1], [], [],false⟩),(54,⟨[0], [], [],false⟩),(55,⟨[], [], [],true⟩),(47,⟨[], [], [],true⟩),(41,⟨[], [], [],true⟩),(46,⟨[], [], [],true⟩)]
instance:DfOk r1n:= .none rfl
def r1c{ρ:Type}(n:Nat):Orc ρ:=a0c 55 y1w (q34z) (a0c 47 c1x (q59z n) (a0c 41 l0e (q60z n) (a0c 46 d1b (q45z n) (a0c 54 j1j (q20z) (a0c 53 j1m (q30z n) (a0m))))))
omit [UDef]in
theorem z0e{ρ:Type}(n:Nat):(r1c n:Orc ρ).ok Tryz.prog:=a0a (by kernel_rfl) (m2b) (a0a (by kernel_rfl) (h1w n) (a0a (by kernel_rfl) (j0x n) (a0a (by kernel_rfl) (h1c n) (a0a (by kernel_rfl) (p1h) (a0a (by kernel_rfl) (q1d n) (a0e))))))
def r2n{ρ:Type}(n:Nat):LOrc ρ:=a0d
omit [Tabs] [QuietD Tryz.prog] [UDef] [UTabs]in
theorem r2l(n:Nat)(x):evF Tryz.prog 77 TT r1n u1w (r1c n) (r2n n) (a0y Tryz.prog 77 TT r1n (r1c n)) ⟨[], [], []⟩ [.tmp 4] g2p x=q51z n x:=by kernel_rfl
omit [UDef]in
theorem m2v(n:Nat):Contract Tryz.prog 26 u1w (q51z n):=
 Contract.of_ev (c:=g2p) (N:=77) Tryz.func26 (by kernel_rfl) (by kernel_rfl) (by kernel_rfl) (by kernel_rfl) (z0e n) (a0o (z0e n) (by kernel_rfl)) (.of (l:= []) (by kernel_rfl) trivial) (r2l n)
def w1o:FnT:=⟨2,⟨[(0, .ptr 1000000 0)], [(1, .opn)], [(1000000, .box [.ref (.own 1000001), .ref (.own 1000002), .d .i64, .ref (.own 1000003)]),(1000001, .arr 93 .node),(1000002, .arr 98 .edg),(1000003, .arr 3 .i64)], []⟩, [.v .i64], [(1000000, .box [.ref (.own 1000001), .ref (.own 1000002), .d .i64, .ref (.own 1000003)]),(1000001, .arr 93 .node),(1000002, .arr 98 .edg),(1000003, .arr 3 .i64)]⟩
def h2v:Code:=a0n Tryz.f25
def s1e:List (Nat×ArgM):= [(999999999,⟨[1], [], [],false⟩),(54,⟨[0], [], [],false⟩),(45,⟨[], [], [],true⟩),(46,⟨[], [], [],true⟩)]
instance:DfOk s1e:= .none rfl
def v1n{ρ:Type}(n:Nat):Orc ρ:=a0c 45 m1k (q42z n) (a0c 46 d1b (q45z n) (a0c 54 j1j (q20z) (a0c 52 m1f (q31z n) (a0m))))
omit [UDef]in
theorem d1x{ρ:Type}(n:Nat):(v1n n:Orc ρ).ok Tryz.prog:=a0a (by kernel_rfl) (r1i n) (a0a (by kernel_rfl) (h1c n) (a0a (by kernel_rfl) (p1h) (a0a (by kernel_rfl) (u1g n) (a0e))))
def o2q{ρ:Type}(n:Nat):LOrc ρ:=a0d
omit [Tabs] [QuietD Tryz.prog] [UDef] [UTabs]in
theorem s2h(n:Nat)(x):evF Tryz.prog 52 TT s1e w1o (v1n n) (o2q n) (a0y Tryz.prog 52 TT s1e (v1n n)) ⟨[], [], []⟩ [.tmp 4] h2v x=q52z n x:=by kernel_rfl
omit [UDef]in
theorem j2x(n:Nat):Contract Tryz.prog 25 w1o (q52z n):=
 Contract.of_ev (c:=h2v) (N:=52) Tryz.func25 (by kernel_rfl) (by kernel_rfl) (by kernel_rfl) (by kernel_rfl) (d1x n) (a0o (d1x n) (by kernel_rfl)) (.of (l:= []) (by kernel_rfl) trivial) (s2h n)
def g0v:Code:=a0n Tryz.f7
def e0f:List (Nat×ArgM):= [(999999994,⟨[50], [], [],false⟩),(1600000013,⟨[12,0,1,2], [], [],false⟩),(26,⟨[0], [], [],false⟩),(25,⟨[0], [], [],false⟩),(15,⟨[], [], [],true⟩),(24,⟨[], [], [300120,300121],false⟩)]
instance:DfOk e0f:= .none rfl
def e0h{ρ:Type}(n:Nat):Orc ρ:=a0c 15 k1x (q44z n) (a0c 24 y1q (q32z n) (a0c 26 u1w (q51z n) (a0c 25 w1o (q52z n) (a0m))))
omit [UDef]in
theorem d0n{ρ:Type}(n:Nat):(e0h n:Orc ρ).ok Tryz.prog:=a0a (by kernel_rfl) (z1u n) (a0a (by kernel_rfl) (m2s n) (a0a (by kernel_rfl) (m2v n) (a0a (by kernel_rfl) (j2x n) (a0e))))
def T_txn_Apply_s0:Tm:=⟨[(4, .ptr 4 0),(9, .ptr 27 0),(10, .ptr 10 0)], [(29,(.lst .opn)),(30, .i64),(31, .i64)], [(4, .box [.d .graph]),(10, .box [.ref (.nilf), .ref (.fn 25), .ref (.fn 26), .ref (.fn 27), .ref (.fn 28), .ref (.fn 29), .ref (.fn 30), .ref (.fn 30)]),(25, .arr 93 .node),(27, .box [.ref (.own 25), .ref (.own 2025), .d .i64, .ref (.own 301083)]),(2025, .arr 98 .edg),(301083, .arr 3 .i64)], []⟩
def i0y:Tm:=⟨[(4, .ptr 4 0),(9, .ptr 27 0)], [], [(4, .box [.d .graph]),(25, .arr 93 .node),(27, .box [.ref (.own 25), .ref (.own 2025), .d .i64, .ref (.own 301083)]),(2025, .arr 98 .edg),(301083, .arr 3 .i64)], []⟩
def d0o:Tm:=⟨[(4, .ptr 4 0)], [(5,(.lst .i64)),(6, .i64),(7, .i64)], [(4, .box [.d .graph])], []⟩
def t0i{ρ:Type}(n:Nat):LOrc ρ:=a0d
omit [Tabs] [QuietD Tryz.prog] [UDef] [UTabs]in
theorem t0e{ρ:Type}(n:Nat)(rec:T_txn_Apply_s0.den→Option ρ) kx kr s:b0o Tryz.prog 65 TT e0f (e0h n) (t0i n) (a0y Tryz.prog 65 TT e0f (e0h n)) 0 (a0q 1000 g0v 0) T_txn_Apply_s0 i0y d0o ⟨[], [], [(27,3,301083,3,1)]⟩ rec kx kr s=e0w n rec kx kr s:=by kernel_rfl
def i1e{ρ:Type}(n:Nat):LOrc ρ:=a0j 0 (b0m 65 0 n T_txn_Apply_s0 i0y d0o ⟨[], [], [(27,3,301083,3,1)]⟩ (e0w n)) (a0d)
omit [Tabs] [QuietD Tryz.prog] [UDef] [UTabs]in
theorem f1x(n:Nat)(x):evF Tryz.prog 65 TT e0f j0w (e0h n) (i1e n) (a0y Tryz.prog 65 TT e0f (e0h n)) ⟨[], [], []⟩ [.cell 4 31, .tmp 5, .tmp 6, .tmp 7] g0v x=f0k n x:=by kernel_rfl
omit [UDef]in
theorem b1d(n:Nat):Contract Tryz.prog 7 j0w (f0k n):=
 Contract.of_ev (c:=g0v) (N:=65) Tryz.func7 (by kernel_rfl) (by kernel_rfl) (by kernel_rfl) (by kernel_rfl) (d0n n) (a0o (d0n n) (by kernel_rfl)) (.of (l:= [(0,(a0q 1000 g0v 0))]) (by kernel_rfl) ⟨.head (a0f (d0n n) (a0o (d0n n) (by kernel_rfl)) (.of (l:= []) (by kernel_rfl) trivial) (t0e n)),trivial⟩) (f1x n)
def m2j:FnT:=⟨3,⟨[(2, .fn 9)], [(0,(.lst (.lst .i64))),(1,(.lst .i64))], [], []⟩, [.v .i64, .v .bool], []⟩
def s1p:FnT:=⟨2,⟨[], [(0,(.lst .i64)),(1,(.lst .i64))], [], []⟩, [.v .i64], []⟩
def i1k:Code:=a0n Tryz.f9
def s1i:List (Nat×ArgM):= [(31,⟨[], [], [],true⟩)]
instance:DfOk s1i:= .none rfl
def y1m{ρ:Type}(n:Nat):Orc ρ:=a0c 31 u0u (q25z) (a0m)
omit [UDef] [UTabs]in
theorem e1y{ρ:Type}(n:Nat):(y1m n:Orc ρ).ok Tryz.prog:=a0a (by kernel_rfl) (y0f) (a0e)
def T_q11z_s0:Tm:=⟨[], [(0,(.lst .i64)),(1,(.lst .i64)),(9,(.lst .i64)),(10, .i64),(11, .i64)], [], []⟩
def c1v:Tm:=⟨[], [(0,(.lst .i64)),(1,(.lst .i64))], [], []⟩
def k0m:Tm:=⟨[], [(4, .i64)], [], []⟩
def u1c{ρ:Type}(n:Nat):LOrc ρ:=a0d
omit [Tabs] [QuietD Tryz.prog] [UDef] [UTabs]in
theorem x1v{ρ:Type}(n:Nat)(rec:T_q11z_s0.den→Option ρ) kx kr s:b0o Tryz.prog 36 TT s1i (y1m n) (u1c n) a0g 0 (a0q 1000 i1k 0) T_q11z_s0 c1v k0m ⟨[], [], []⟩ rec kx kr s=w0m n rec kx kr s:=by kernel_rfl
def q2p{ρ:Type}(n:Nat):LOrc ρ:=a0j 0 (b0m 36 0 n T_q11z_s0 c1v k0m ⟨[], [], []⟩ (w0m n)) (a0d)
omit [Tabs] [QuietD Tryz.prog] [UDef] [UTabs]in
theorem p2l(n:Nat)(x):evF Tryz.prog 36 TT s1i s1p (y1m n) (q2p n) a0g ⟨[], [], []⟩ [.tmp 4] i1k x=q11z n x:=by kernel_rfl
omit [UDef] [UTabs]in
theorem l2f(n:Nat):Contract Tryz.prog 9 s1p (q11z n):=
 Contract.of_ev (c:=i1k) (N:=36) Tryz.func9 (by kernel_rfl) (by kernel_rfl) (by kernel_rfl) (by kernel_rfl) (e1y n) a0b (.of (l:= [(0,(a0q 1000 i1k 0))]) (by kernel_rfl) ⟨.head (a0f (e1y n) a0b (.of (l:= []) (by kernel_rfl) trivial) (x1v n)),trivial⟩) (p2l n)
def d2o:Code:=a0n Tryz.f8
def j2v:List (Nat×ArgM):= [(9,⟨[], [], [],true⟩)]
instance:DfOk j2v:= .none rfl
def l2w{ρ:Type}(n:Nat):Orc ρ:=a0c 9 s1p (q11z n) (a0m)
omit [UDef] [UTabs]in
theorem i1i{ρ:Type}(n:Nat):(l2w n:Orc ρ).ok Tryz.prog:=a0a (by kernel_rfl) (l2f n) (a0e)
def T_q3z_s0:Tm:=⟨[(2, .fn 9)], [(0,(.lst (.lst .i64))),(1,(.lst .i64)),(8, .i64),(9, .i64),(10, .i64)], [], []⟩
def m1v:Tm:=⟨[(2, .fn 9)], [(0,(.lst (.lst .i64))),(1,(.lst .i64)),(8, .i64),(9, .i64)], [], []⟩
def j1b:Tm:=⟨[], [], [], []⟩
def c2t{ρ:Type}(n:Nat):LOrc ρ:=a0d
omit [Tabs] [QuietD Tryz.prog] [UDef] [UTabs]in
theorem b2m{ρ:Type}(n:Nat)(rec:T_q3z_s0.den→Option ρ) kx kr s:b0o Tryz.prog 49 TT j2v (l2w n) (c2t n) a0g 0 (a0q 1000 d2o 0) T_q3z_s0 m1v j1b ⟨[], [], []⟩ rec kx kr s=e1f n rec kx kr s:=by kernel_rfl
def u2f{ρ:Type}(n:Nat):LOrc ρ:=a0j 0 (b0m 49 0 n T_q3z_s0 m1v j1b ⟨[], [], []⟩ (e1f n)) (a0d)
omit [Tabs] [QuietD Tryz.prog] [UDef] [UTabs]in
theorem u2k(n:Nat)(x):evF Tryz.prog 49 TT j2v m2j (l2w n) (u2f n) a0g ⟨[], [], []⟩ [.tmp 6, .tmp 7] d2o x=q3z n x:=by kernel_rfl
omit [UDef] [UTabs]in
theorem t2t(n:Nat):Contract Tryz.prog 8 m2j (q3z n):=
 Contract.of_ev (c:=d2o) (N:=49) Tryz.func8 (by kernel_rfl) (by kernel_rfl) (by kernel_rfl) (by kernel_rfl) (i1i n) a0b (.of (l:= [(0,(a0q 1000 d2o 0))]) (by kernel_rfl) ⟨.head (a0f (i1i n) a0b (.of (l:= []) (by kernel_rfl) trivial) (b2m n)),trivial⟩) (u2k n)
def k1j:Code:=a0n Tryz.f3
def s1x:List (Nat×ArgM):= [(6,⟨[], [], [],true⟩),(8,⟨[], [], [],true⟩)]
instance:DfOk s1x:= .none rfl
def t1j{ρ:Type}(n:Nat):Orc ρ:=a0c 5 g0g (b0p n) (a0c 6 y1x (q14z n) (a0c 7 j0w (f0k n) (a0c 8 m2j (q3z n) (a0m))))
omit [UDef]in
theorem b1g{ρ:Type}(n:Nat):(t1j n:Orc ρ).ok Tryz.prog:=a0a (by kernel_rfl) (o0i n) (a0a (by kernel_rfl) (j2y n) (a0a (by kernel_rfl) (b1d n) (a0a (by kernel_rfl) (t2t n) (a0e))))
def T_q12z_s0:Tm:=⟨[], [(16,(.lst (.lst .i64))),(59,(.lst (.lst .i64))),(60, .i64),(61, .i64)], [], []⟩
def d1w:Tm:=⟨[], [], [], []⟩
def m0n:Tm:=⟨[], [(10, .bool)], [], []⟩
def z1e{ρ:Type}(n:Nat):LOrc ρ:=a0d
omit [Tabs] [QuietD Tryz.prog] [UDef] [UTabs]in
theorem v1r{ρ:Type}(n:Nat)(rec:T_q12z_s0.den→Option ρ) kx kr s:b0o Tryz.prog 74 TT s1x (t1j n) (z1e n) a0g 0 (a0q 1000 k1j 0) T_q12z_s0 d1w m0n ⟨[], [], []⟩ rec kx kr s=w0f n rec kx kr s:=by kernel_rfl
def o2a{ρ:Type}(n:Nat):LOrc ρ:=a0j 0 (b0m 74 0 n T_q12z_s0 d1w m0n ⟨[], [], []⟩ (w0f n)) (a0d)
omit [Tabs] [QuietD Tryz.prog] [UDef] [UTabs]in
theorem s2z(n:Nat)(x):evF Tryz.prog 74 TT s1x h2a (t1j n) (o2a n) a0g ⟨[], [], []⟩ [.tmp 10] k1j x=q12z n x:=by kernel_rfl
omit [UDef]in
theorem l2b(n:Nat):Contract Tryz.prog 3 h2a (q12z n):=
 Contract.of_ev (c:=k1j) (N:=74) Tryz.func3 (by kernel_rfl) (by kernel_rfl) (by kernel_rfl) (by kernel_rfl) (b1g n) a0b (.of (l:= [(0,(a0q 1000 k1j 0))]) (by kernel_rfl) ⟨.head (a0f (b1g n) a0b (.of (l:= []) (by kernel_rfl) trivial) (v1r n)),trivial⟩) (s2z n)
end Go.Proofs.YtcloicgnanjbcaaGreatDoor

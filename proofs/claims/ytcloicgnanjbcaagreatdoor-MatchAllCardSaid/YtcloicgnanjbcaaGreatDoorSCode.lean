import Derived.Test.YtcloicgnanjbcaaGreatDoorSBase
import Derived.KernelRfl
import Derived.Test.YtcloicgnanjbcaaGreatDoorEvShort
import Derived.Test.YtcloicgnanjbcaaGreatDoorPCode
noncomputable section
namespace Go.Proofs.YtcloicgnanjbcaaGreatDoor
open Go Esp Ev Pure
set_option linter.unusedSimpArgs false
set_option linter.unusedVariables false
set_option maxRecDepth 100000
set_option maxHeartbeats 1000000
def okds:List FuncId:= []
theorem g2o: ∀g∈okds,∀(args:Array Value) (w:World),(callFunc g args).run Tryz.prog w= .ok (.enter g args) w∧CallsD Tryz.prog g args .returning w fun e u w' =>u= .returning∧(∃v,e= .returned v)∧w' =w:=by
 intro g hg args w;cases hg
variable [Tabs]
class UDef:Prop where
 ok: ∀g∈([]:List Nat),g∈Tabs.okd
variable [QuietD Tryz.prog] [UDef] [UTabs]
def TT:List (TypeId×Ty):= [(2, .i64),(3, .i64),(4, .bool),(5, .u8),(6, .u8),(9, .str),(10, .str),(11, .str),(12, .u64),(21, .i32),(22,(.lst .dot)),(23,(.lst .arrow)),(24,(.lst .term)),(25,(.lst .item)),(27, .query),(28,(.lst .node)),(29,(.lst .edg)),(31, .graph),(32,(.lst (.lst .i64))),(33, .i64),(37,(.lst .i64)),(40,(.lst .val)),(42, .val),(43,(.lst .str)),(44,(.lst .prp)),(46, .opn),(47,(.lst .opn)),(67, .dot),(69, .arrow),(71, .term),(73, .item),(84, .u64),(86,(.map .str .i64)),(89,(.lst (.map .pair .bool))),(90,(.map .pair .bool)),(93, .node),(95, .pair),(98, .edg),(103,(.map .str .bool)),(111,(.lst (.map .pair .bool))),(114,(.map .pair .bool)),(150,(.lst .i64)),(152, .prp),(155,(.map .i64 (.lst .i64))),(157, .pair),(159, .envr),(165, .i64),(172, .u32),(174, .u64),(193,(.lst .u32)),(202, .u64),(224,(.lst .u8)),(246,(.lst .i32)),(267, .u8),(268, .u8),(271, .i32),(272, .i32)]
def d2o:FnT:=⟨2,⟨[], [(0, .query),(1, .graph)], [], []⟩, [.v .bool], []⟩
def c1r:FnT:=⟨2,⟨[], [(0, .query),(1, .graph)], [], []⟩, [.v (.lst (.lst .i64)), .v .i64], []⟩
def h2n:FnT:=⟨1,⟨[], [(0, .query)], [], []⟩, [.v .i64], []⟩
def z0t:FnT:=⟨1,⟨[], [(0, .str)], [], []⟩, [.v .bool], []⟩
def d2a:FnT:=⟨1,⟨[], [(0, .str)], [], []⟩, [.v .bool], []⟩
omit [UDef] [UTabs]in
theorem l0v(n:Nat):Contract Tryz.prog 41 d2a (q96z n):=
 ctN Tryz.func41 54 TT [] [.tmp 2] pN (oN) [0] (lC ⟨[], [(0, .str),(14, .i64),(15, .i64)], [], []⟩ ⟨[], [], [], []⟩ ⟨[], [(2, .bool)], [], []⟩ pN n (p1c n) [] lN lN)
def d2c:FnT:=⟨1,⟨[], [(0, .str)], [], []⟩, [.v .bool], []⟩
def j2p:FnT:=⟨2,⟨[], [(0,(.lst .str)),(1, .str)], [], []⟩, [.v .bool], []⟩
def j2f:FnT:=⟨2,⟨[], [(0,(.lst .str)),(1, .str)], [], []⟩, [.v .i64], []⟩
omit [UDef] [UTabs]in
theorem f2h(n:Nat):Contract Tryz.prog 73 j2f (q8z n):=
 ctN Tryz.func73 19 TT [] [.tmp 4] pN (oN) [0] (lC ⟨[], [(0,(.lst .str)),(1, .str),(7, .i64),(8, .i64)], [], []⟩ ⟨[], [], [], []⟩ ⟨[], [(4, .i64)], [], []⟩ pN n (w1u n) [] lN lN)
omit [UDef] [UTabs]in
theorem v0e(n:Nat):Contract Tryz.prog 35 j2p (q7z n):=
 ctN Tryz.func35 9 TT [(73,⟨[], [], [],true⟩)] [.tmp 4] pN (oC (f2h n) (oN)) [] lN
omit [UDef] [UTabs]in
theorem b2e(n:Nat):Contract Tryz.prog 82 d2c (q78z n):=
 ctN Tryz.func82 6 TT [(35,⟨[], [], [],true⟩)] [.tmp 2] pN (oC (v0e n) (oN)) [] lN
omit [UDef] [UTabs]in
theorem m0f(n:Nat):Contract Tryz.prog 40 z0t (d0u n):=
 ctN Tryz.func40 10 TT [(41,⟨[], [], [],true⟩),(82,⟨[], [], [],true⟩)] [.tmp 2] pN (oC (l0v n) (oC (b2e n) (oN))) [] lN
def g2y:FnT:=⟨1,⟨[], [(0, .query)], [], []⟩, [.v (.map .str .bool), .v .i64], []⟩
omit [UDef] [UTabs]in
theorem a2w(n:Nat):Contract Tryz.prog 42 g2y (q86z n):=
 ctN Tryz.func42 49 TT [] [.tmp 2, .tmp 3] pN (oN) [0,2] (lC ⟨[(1, .ptr 1 0),(4, .mpr 11)], [(13,(.lst .dot)),(14, .i64),(15, .i64)], [(1, .box [.d .query]),(11, .mp 103 .str .bool false)], []⟩ ⟨[(1, .ptr 1 0),(4, .mpr 11)], [], [(1, .box [.d .query]),(11, .mp 103 .str .bool false)], []⟩ ⟨[], [], [], []⟩ pN n (c1e n) [] lN (lC ⟨[(4, .mpr 11)], [(27,(.lst .arrow)),(28, .i64),(29, .i64)], [(11, .mp 103 .str .bool false)], []⟩ ⟨[(4, .mpr 11)], [], [(11, .mp 103 .str .bool false)], []⟩ ⟨[], [(2,(.map .str .bool)),(3, .i64)], [], []⟩ pN n (c1f n) [] lN lN))
def d2w:FnT:=⟨2,⟨[], [(0, .term),(1,(.map .str .bool))], [], []⟩, [.v .i64], []⟩
def j1z:FnT:=⟨3,⟨[], [(0, .term),(1,(.map .str .bool)),(2, .i64)], [], []⟩, [.v .i64], []⟩
def h2j:FnT:=⟨1,⟨[], [(0, .val)], [], []⟩, [.v .i64], []⟩
def l1c:FnT:=⟨2,⟨[], [(0, .val),(1, .i64)], [], []⟩, [.v .i64], []⟩
omit [UDef]in
theorem t1v(self_q91z:Ev.Val×Int×Unit→Option Y10)(h_q91z:Contract Tryz.prog 106 l1c self_q91z)(n:Nat):Contract Tryz.prog 106 l1c (o1u self_q91z n):=
 ctN Tryz.func106 114 TT [(135,⟨[], [], [],true⟩),(106,⟨[], [], [],true⟩)] [.tmp 4] pN (oC (y0k) (oC (h_q91z) (oN))) [1] (lC ⟨[(2, .ptr 2 0)], [(1, .i64),(90,(.lst .val)),(91, .i64),(92, .i64)], [(2, .box [.d .val])], []⟩ ⟨[(2, .ptr 2 0)], [], [(2, .box [.d .val])], []⟩ ⟨[], [(4, .i64)], [], []⟩ pN n (n0u self_q91z n) [] lN lN)
omit [UDef]in
theorem j1t: ∀n,Contract Tryz.prog 106 l1c (q91z n)
 | 0=>fun _ _ h=>by cases h
 | n+1=>t1v _ (j1t n) n
omit [UDef]in
theorem z0g(n:Nat):Contract Tryz.prog 61 h2j (q89z n):=
 ctN Tryz.func61 5 TT [(106,⟨[], [], [],true⟩)] [.tmp 2] pN (oC (j1t n) (oN)) [] lN
def g2r:FnT:=⟨1,⟨[], [(0, .str)], [], []⟩, [.v .i64, .v .bool], []⟩
omit [UDef] [UTabs]in
theorem a2c:Contract Tryz.prog 127 g2r (q98z):=
 ctN Tryz.func127 25 TT [] [.tmp 2, .tmp 3] pN (oN) [] lN
omit [UDef]in
theorem s1r(self_q99z:Ev.Term×Y16×Int×Unit→Option Y10)(h_q99z:Contract Tryz.prog 83 j1z self_q99z)(n:Nat):Contract Tryz.prog 83 j1z (p1g self_q99z n):=
 ctN Tryz.func83 196 TT [(61,⟨[], [], [],true⟩),(40,⟨[], [], [],true⟩),(41,⟨[], [], [],true⟩),(83,⟨[], [], [],true⟩),(127,⟨[], [], [],true⟩)] [.tmp 6] pN (oC (z0g n) (oC (m0f n) (oC (l0v n) (oC (h_q99z) (oC (a2c) (oN)))))) [1] (lC ⟨[(3, .ptr 3 0)], [(1,(.map .str .bool)),(2, .i64),(147,(.lst .term)),(148, .i64),(149, .i64)], [(3, .box [.d .term])], []⟩ ⟨[(3, .ptr 3 0)], [(1,(.map .str .bool))], [(3, .box [.d .term])], []⟩ ⟨[], [(6, .i64)], [], []⟩ pN n (a1n self_q99z n) [] lN lN)
omit [UDef]in
theorem p1n: ∀n,Contract Tryz.prog 83 j1z (q99z n)
 | 0=>fun _ _ h=>by cases h
 | n+1=>s1r _ (p1n n) n
omit [UDef]in
theorem b2g(n:Nat):Contract Tryz.prog 43 d2w (q97z n):=
 ctN Tryz.func43 8 TT [(83,⟨[], [], [],true⟩)] [.tmp 4] pN (oC (p1n n) (oN)) [] lN
omit [UDef]in
theorem b2d(n:Nat):Contract Tryz.prog 14 h2n (q85z n):=
 ctN Tryz.func14 168 TT [(40,⟨[], [], [],true⟩),(41,⟨[], [], [],true⟩),(43,⟨[], [], [],true⟩),(35,⟨[], [], [],true⟩)] [.tmp 2] pN (oC (m0f n) (oC (l0v n) (oC (a2w n) (oC (b2g n) (oC (v0e n) (oN)))))) [0,2,4,6] (lC ⟨[(1, .ptr 1 0)], [(53,(.lst .dot)),(54, .i64),(55, .i64)], [(1, .box [.d .query])], []⟩ ⟨[(1, .ptr 1 0)], [], [(1, .box [.d .query])], []⟩ ⟨[], [(2, .i64)], [], []⟩ pN n (b1v n) [] lN (lC ⟨[(1, .ptr 1 0)], [(81,(.lst .arrow)),(82, .i64),(83, .i64)], [(1, .box [.d .query])], []⟩ ⟨[(1, .ptr 1 0)], [], [(1, .box [.d .query])], []⟩ ⟨[], [(2, .i64)], [], []⟩ pN n (d1f n) [] lN (lC ⟨[(1, .ptr 1 0)], [(7,(.map .str .bool)),(121,(.lst .term)),(122, .i64),(123, .i64)], [(1, .box [.d .query])], []⟩ ⟨[(1, .ptr 1 0)], [(7,(.map .str .bool))], [(1, .box [.d .query])], []⟩ ⟨[], [(2, .i64)], [], []⟩ pN n (a1i n) [] lN (lC ⟨[(12, .mpr 134)], [(7,(.map .str .bool)),(136,(.lst .item)),(137, .i64),(138, .i64)], [(134, .mp 103 .str .bool false)], []⟩ ⟨[], [], [], []⟩ ⟨[], [(2, .i64)], [], []⟩ pN n (c1t n) [] lN lN))))
def g2w:FnT:=⟨1,⟨[], [(0, .graph)], [], []⟩, [.v .i64], []⟩
def c2z:FnT:=⟨1,⟨[], [(0,(.lst .str))], [], []⟩, [.v .i64], []⟩
omit [UDef] [UTabs]in
theorem x1n(n:Nat):Contract Tryz.prog 45 c2z (q80z n):=
 ctN Tryz.func45 32 TT [(41,⟨[], [], [],true⟩)] [.tmp 2] pN (oC (l0v n) (oN)) [0] (lC ⟨[], [(0,(.lst .str)),(8,(.lst .str)),(9, .i64),(10, .i64)], [], []⟩ ⟨[], [], [], []⟩ ⟨[], [(2, .i64)], [], []⟩ pN n (l1n n) [] lN lN)
def f2l:FnT:=⟨1,⟨[], [(0,(.lst .prp))], [], []⟩, [.v .i64], []⟩
omit [UDef]in
theorem x1u(n:Nat):Contract Tryz.prog 46 f2l (q83z n):=
 ctD Tryz.func46 48 TT [(41,⟨[], [], [],true⟩),(61,⟨[], [], [],true⟩)] [.tmp 2] pN (oC (l0v n) (oC (z0g n) (oN))) [0] (.none rfl) (by kernel_rfl) (lC ⟨[], [(0,(.lst .prp)),(9,(.lst .prp)),(10, .i64),(11, .i64)], [], []⟩ ⟨[], [], [], []⟩ ⟨[], [(2, .i64)], [], []⟩ pN n (k1t n) [] lN lN)
def f2z:FnT:=⟨1,⟨[], [(0,(.lst .i64))], [], []⟩, [.v .i64], []⟩
omit [UDef] [UTabs]in
theorem y1n(n:Nat):Contract Tryz.prog 44 f2z (q55z n):=
 ctN Tryz.func44 18 TT [] [.tmp 2] pN (oN) [0] (lC ⟨[], [(3, .i64),(6,(.lst .i64)),(7, .i64),(8, .i64)], [], []⟩ ⟨[], [(3, .i64)], [], []⟩ ⟨[], [(2, .i64)], [], []⟩ pN n (i0r n) [] lN lN)
def c2a:FnT:=⟨2,⟨[], [(0, .graph),(1, .i64)], [], []⟩, [.v .i64], []⟩
def i2s:FnT:=⟨3,⟨[(2, .fn 85)], [(0,(.lst .node)),(1, .i64)], [], []⟩, [.v .i64, .v .bool], []⟩
def f2p:FnT:=⟨2,⟨[], [(0, .node),(1, .i64)], [], []⟩, [.v .i64], []⟩
def e2r:FnT:=⟨2,⟨[], [(0, .i64),(1, .i64)], [], []⟩, [.v .i64], []⟩
def e2g:FnT:=⟨1,⟨[], [(0, .i64)], [], []⟩, [.v .bool], []⟩
omit [UDef] [UTabs]in
theorem y1z:Contract Tryz.prog 66 e2g (q76z):=
 ctN Tryz.func66 6 TT [] [.tmp 2] pN (oN) [] lN
omit [UDef] [UTabs]in
theorem b1i:Contract Tryz.prog 31 e2r (q61z):=
 ctN Tryz.func31 20 TT [(66,⟨[], [], [],true⟩)] [.tmp 4] pN (oC (y1z) (oN)) [] lN
omit [UDef] [UTabs]in
theorem b2p:Contract Tryz.prog 85 f2p (q79z):=
 ctN Tryz.func85 9 TT [(31,⟨[], [], [],true⟩)] [.tmp 4] pN (oC (b1i) (oN)) [] lN
omit [UDef] [UTabs]in
theorem f2n(n:Nat):Contract Tryz.prog 84 i2s (q2z n):=
 ctN Tryz.func84 49 TT [(85,⟨[], [], [],true⟩)] [.tmp 6, .tmp 7] pN (oC (b2p) (oN)) [0] (lC ⟨[(2, .fn 85)], [(0,(.lst .node)),(1, .i64),(8, .i64),(9, .i64),(10, .i64)], [], []⟩ ⟨[(2, .fn 85)], [(0,(.lst .node)),(1, .i64),(8, .i64),(9, .i64)], [], []⟩ ⟨[], [], [], []⟩ pN n (r1t n) [] lN lN)
omit [UDef] [UTabs]in
theorem q1s(n:Nat):Contract Tryz.prog 47 c2a (q95z n):=
 ctN Tryz.func47 17 TT [(84,⟨[], [], [],true⟩)] [.tmp 4] pN (oC (f2n n) (oN)) [] lN
omit [UDef]in
theorem y1s(n:Nat):Contract Tryz.prog 15 g2w (q82z n):=
 ctD Tryz.func15 103 TT [(45,⟨[], [], [],true⟩),(46,⟨[], [], [],true⟩),(44,⟨[], [], [],true⟩),(47,⟨[], [], [],true⟩),(41,⟨[], [], [],true⟩)] [.tmp 2] pN (oC (x1n n) (oC (x1u n) (oC (y1n n) (oC (q1s n) (oC (l0v n) (oN)))))) [0,2] (.none rfl) (by kernel_rfl) (lC ⟨[(1, .ptr 1 0)], [(3, .i64),(22,(.lst .node)),(23, .i64),(24, .i64)], [(1, .box [.d .graph])], []⟩ ⟨[(1, .ptr 1 0)], [(3, .i64)], [(1, .box [.d .graph])], []⟩ ⟨[], [(2, .i64)], [], []⟩ pN n (r1u n) [] lN (lC ⟨[(1, .ptr 1 0)], [(3, .i64),(7, .i64),(48,(.lst .edg)),(49, .i64),(50, .i64)], [(1, .box [.d .graph])], []⟩ ⟨[(1, .ptr 1 0)], [(3, .i64),(7, .i64)], [(1, .box [.d .graph])], []⟩ ⟨[], [(2, .i64)], [], []⟩ pN n (p1r n) [] lN lN))
def d1o:FnT:=⟨2,⟨[], [(0, .graph),(1, .str)], [], []⟩, [.v (.map .pair .bool)], []⟩
def g2u:FnT:=⟨1,⟨[], [(0,(.lst .i64))], [], []⟩, [.ref (.own 5)], [(5, .arr 3 .i64)]⟩
omit [UDef] [UTabs]in
theorem m1a:Contract Tryz.prog 19 g2u (q11z):=
 ctN Tryz.func19 8 TT [] [.tmp 2] ⟨[], [(2,5,3,1)], []⟩ (oN) [] lN
omit [UDef] [UTabs]in
theorem x0a(n:Nat):Contract Tryz.prog 48 d1o (f0k n):=
 ctN Tryz.func48 59 TT [(999999999,⟨[1], [], [],false⟩),(19,⟨[], [], [5],false⟩)] [.tmp 4] pN (oC (v1r) (oC (m1a) (oN))) [0] (lC ⟨[(6, .mpr 15)], [(5,(.map .i64 (.lst .i64))),(17,(.lst .node)),(18, .i64),(19, .i64)], [(15, .mp 114 .pair .bool false)], []⟩ ⟨[(6, .mpr 15)], [], [(15, .mp 114 .pair .bool false)], []⟩ ⟨[], [], [], []⟩ pN n (c0d n) [2] (lC ⟨[(6, .mpr 15),(8, .ptr 8 0),(9, .own 27)], [(5,(.map .i64 (.lst .i64))),(17,(.lst .node)),(18, .i64),(19, .i64)], [(8, .box [.d .node]),(15, .mp 114 .pair .bool false),(27, .arr 3 .i64)], []⟩ ⟨[(6, .mpr 15)], [(5,(.map .i64 (.lst .i64))),(17,(.lst .node)),(18, .i64),(19, .i64)], [(15, .mp 114 .pair .bool false)], []⟩ ⟨[], [], [], []⟩ ⟨[], [(9,9,3,1)], []⟩ n (e0n n) [] lN lN) lN)
def a1c:FnT:=⟨2,⟨[], [(0, .query),(1, .graph)], [], []⟩, [.ref (.ptr 12 0)], [(12, .box [.d .query, .d .graph, .d (.lst (.map .pair .bool))])]⟩
omit [UDef] [UTabs]in
theorem y0n(n:Nat):Contract Tryz.prog 16 a1c (j0n n):=
 ctN Tryz.func16 38 TT [(999999999,⟨[1], [], [],false⟩)] [.tmp 4] pN (oC (x0a n) (oN)) [0] (lC ⟨[(3, .ptr 3 0),(5, .ptr 12 0)], [(14,(.lst .arrow)),(15, .i64),(16, .i64)], [(3, .box [.d .graph]),(12, .box [.d .query, .d .graph, .ref (.own 300488)]),(300488, .arr 114 (.map .pair .bool))], []⟩ ⟨[(5, .ptr 12 0)], [], [(12, .box [.d .query, .d .graph, .ref (.own 300488)]),(300488, .arr 114 (.map .pair .bool))], []⟩ ⟨[], [], [], []⟩ ⟨[], [], [(12,8,300488,114,1)]⟩ n (h0g n) [] lN lN)
def i2c:FnT:=⟨2,⟨[(0, .ptr 1000000 0),(1, .clo 18 [1000016,1000018])], [], [(1000000, .box [.d .query, .d .graph, .d (.lst (.map .pair .bool))]),(1000016, .box [.ref (.own 1000017)]),(1000017, .arr 37 (.lst .i64)),(1000018, .box [.d .bool])], []⟩, [], [(1000000, .box [.d .query, .d .graph, .d (.lst (.map .pair .bool))]),(1000016, .box [.ref (.own 1000017)]),(1000017, .arr 37 (.lst .i64)),(1000018, .box [.d .bool])]⟩
def a2f:FnT:=⟨4,⟨[(0, .ptr 1000000 0),(2, .own 2000016),(3, .clo 18 [1000032,1000034])], [(1, .i64)], [(1000000, .box [.d .query, .d .graph, .d (.lst (.map .pair .bool))]),(2000016, .arr 3 .i64),(1000032, .box [.ref (.own 1000033)]),(1000033, .arr 37 (.lst .i64)),(1000034, .box [.d .bool])], []⟩, [], [(1000000, .box [.d .query, .d .graph, .d (.lst (.map .pair .bool))]),(2000016, .arr 3 .i64),(1000032, .box [.ref (.own 1000033)]),(1000033, .arr 37 (.lst .i64)),(1000034, .box [.d .bool])]⟩
def g2t:FnT:=⟨2,⟨[(0, .ptr 1000000 0),(1, .own 2000016)], [], [(1000000, .box [.d .query, .d .graph, .d (.lst (.map .pair .bool))]),(2000016, .arr 3 .i64)], []⟩, [.v .envr], [(1000000, .box [.d .query, .d .graph, .d (.lst (.map .pair .bool))]),(2000016, .arr 3 .i64)]⟩
omit [UDef] [UTabs]in
theorem y1b(n:Nat):Contract Tryz.prog 87 g2t (q54z n):=
 ctD Tryz.func87 75 TT [(999999999,⟨[1], [], [],false⟩)] [.cell 4 159] pN (oN) [0,2] (.none rfl) (by kernel_rfl) (lC ⟨[(0, .ptr 1000000 0),(1, .own 2000016),(4, .ptr 4 0),(5, .mpr 10)], [(15,(.lst .dot)),(16, .i64),(17, .i64)], [(4, .box [.d .envr]),(10, .mp 86 .str .i64 false),(1000000, .box [.d .query, .d .graph, .d (.lst (.map .pair .bool))]),(2000016, .arr 3 .i64)], []⟩ ⟨[(0, .ptr 1000000 0),(1, .own 2000016),(4, .ptr 4 0),(5, .mpr 10)], [], [(4, .box [.d .envr]),(10, .mp 86 .str .i64 false),(1000000, .box [.d .query, .d .graph, .d (.lst (.map .pair .bool))]),(2000016, .arr 3 .i64)], []⟩ ⟨[], [], [], []⟩ pN n (d1a n) [] lN (lC ⟨[(0, .ptr 1000000 0),(1, .own 2000016),(4, .ptr 4 0),(5, .mpr 10)], [(44,(.lst .arrow)),(45, .i64),(46, .i64)], [(4, .box [.d .envr]),(10, .mp 86 .str .i64 false),(1000000, .box [.d .query, .d .graph, .d (.lst (.map .pair .bool))]),(2000016, .arr 3 .i64)], []⟩ ⟨[(0, .ptr 1000000 0),(4, .ptr 4 0),(5, .mpr 10)], [], [(4, .box [.d .envr]),(10, .mp 86 .str .i64 false),(1000000, .box [.d .query, .d .graph, .d (.lst (.map .pair .bool))]),(2000016, .arr 3 .i64)], []⟩ ⟨[], [], [], []⟩ pN n (b1n n) [] lN lN))
def e2u:FnT:=⟨2,⟨[], [(0, .envr),(1,(.lst .term))], [], []⟩, [.v .bool], []⟩
def n1z:FnT:=⟨2,⟨[], [(0, .envr),(1, .term)], [], []⟩, [.v .val], []⟩
def a1p:FnT:=⟨1,⟨[], [(0, .val)], [], []⟩, [.v .val], []⟩
omit [UDef] [UTabs]in
theorem o1x(self_q102z:Ev.Val×Unit→Option Y5)(h_q102z:Contract Tryz.prog 110 a1p self_q102z)(n:Nat):Contract Tryz.prog 110 a1p (z0y self_q102z n):=
 ctD Tryz.func110 24 TT [] [.cell 2 42] pN (oC (h_q102z) (oN)) [0] (.none rfl) (by kernel_rfl) (lC ⟨[(1, .ptr 1 0),(2, .ptr 2 0)], [(9,(.lst .val)),(10, .i64),(11, .i64)], [(1, .box [.d .i64, .d .i64, .d .str, .ref (.own 300043)]),(2, .box [.d .val]),(300043, .arr 42 .val)], []⟩ ⟨[(1, .ptr 1 0),(2, .ptr 2 0)], [], [(1, .box [.d .i64, .d .i64, .d .str, .ref (.own 300043)]),(2, .box [.d .val]),(300043, .arr 42 .val)], []⟩ ⟨[], [], [], []⟩ ⟨[], [], [(1,3,300043,42,4)]⟩ n (t0p self_q102z n) [] lN lN)
omit [UDef] [UTabs]in
theorem n0k: ∀n,Contract Tryz.prog 110 a1p (l0d n)
 | 0=>fun _ _ h=>by cases h
 | n+1=>o1x _ (n0k n) n
def f2u:FnT:=⟨3,⟨[], [(0, .envr),(1, .i64),(2, .str)], [], []⟩, [.v .val], []⟩
def a1s:FnT:=⟨2,⟨[], [(0,(.lst .prp)),(1, .str)], [], []⟩, [.v .val], []⟩
omit [UDef] [UTabs]in
theorem w0m(n:Nat):Contract Tryz.prog 174 a1s (h0r n):=
 ctN Tryz.func174 22 TT [] [.cell 4 42] pN (oC (n0k n) (oN)) [0] (lC ⟨[(4, .ptr 4 0)], [(1, .str),(7,(.lst .prp)),(8, .i64),(9, .i64)], [(4, .box [.d .val])], []⟩ ⟨[(4, .ptr 4 0)], [], [(4, .box [.d .val])], []⟩ ⟨[(4, .ptr 4 0)], [], [(4, .box [.d .val])], []⟩ pN n (g0m n) [] lN lN)
def d2z:FnT:=⟨2,⟨[], [(0, .graph),(1, .i64)], [], []⟩, [.v .i64], []⟩
def j2l:FnT:=⟨3,⟨[(2, .fn 105)], [(0,(.lst .edg)),(1, .i64)], [], []⟩, [.v .i64, .v .bool], []⟩
def f2e:FnT:=⟨2,⟨[], [(0, .edg),(1, .i64)], [], []⟩, [.v .i64], []⟩
omit [UDef] [UTabs]in
theorem b2s:Contract Tryz.prog 105 f2e (q60z):=
 ctN Tryz.func105 9 TT [(31,⟨[], [], [],true⟩)] [.tmp 4] pN (oC (b1i) (oN)) [] lN
omit [UDef] [UTabs]in
theorem e2w(n:Nat):Contract Tryz.prog 104 j2l (q1z n):=
 ctN Tryz.func104 49 TT [(105,⟨[], [], [],true⟩)] [.tmp 6, .tmp 7] pN (oC (b2s) (oN)) [0] (lC ⟨[(2, .fn 105)], [(0,(.lst .edg)),(1, .i64),(8, .i64),(9, .i64),(10, .i64)], [], []⟩ ⟨[(2, .fn 105)], [(0,(.lst .edg)),(1, .i64),(8, .i64),(9, .i64)], [], []⟩ ⟨[], [], [], []⟩ pN n (n1f n) [] lN lN)
omit [UDef] [UTabs]in
theorem k1n(n:Nat):Contract Tryz.prog 59 d2z (q71z n):=
 ctN Tryz.func59 17 TT [(104,⟨[], [], [],true⟩)] [.tmp 4] pN (oC (e2w n) (oN)) [] lN
omit [UDef] [UTabs]in
theorem z1g(n:Nat):Contract Tryz.prog 156 f2u (q73z n):=
 ctN Tryz.func156 40 TT [(47,⟨[], [], [],true⟩),(59,⟨[], [], [],true⟩)] [.cell 6 42] pN (oC (q1s n) (oC (w0m n) (oC (k1n n) (oN)))) [] lN
def g2x:FnT:=⟨3,⟨[], [(0, .envr),(1, .term),(2,(.lst .val))], [], []⟩, [.v .val], []⟩
def e2c:FnT:=⟨3,⟨[], [(0, .str),(1, .val),(2, .val)], [], []⟩, [.v .val, .v .i64], []⟩
def z0v:FnT:=⟨2,⟨[], [(0, .i64),(1, .i64)], [], []⟩, [.v .i64, .v .bool], []⟩
omit [UDef] [UTabs]in
theorem w0f:Contract Tryz.prog 186 z0v (k0r):=
 ctN Tryz.func186 17 TT [] [.tmp 4, .tmp 5] pN (oN) [] lN
def g2n:FnT:=⟨1,⟨[], [(0, .val)], [], []⟩, [.mix [.d .i64, .d .i64, .d .str, .ref (.own 300043)]], [(300043, .arr 42 .val)]⟩
omit [UDef] [UTabs]in
theorem b2w(n:Nat):Contract Tryz.prog 110 g2n (q74z n):=
 ctD Tryz.func110 24 TT [] [.cell 2 42] pN (oC (n0k n) (oN)) [0] (.none rfl) (by kernel_rfl) (lC ⟨[(1, .ptr 1 0),(2, .ptr 2 0)], [(9,(.lst .val)),(10, .i64),(11, .i64)], [(1, .box [.d .i64, .d .i64, .d .str, .ref (.own 300043)]),(2, .box [.d .val]),(300043, .arr 42 .val)], []⟩ ⟨[(1, .ptr 1 0),(2, .ptr 2 0)], [], [(1, .box [.d .i64, .d .i64, .d .str, .ref (.own 300043)]),(2, .box [.d .val]),(300043, .arr 42 .val)], []⟩ ⟨[], [], [], []⟩ ⟨[], [], [(1,3,300043,42,4)]⟩ n (c1o n) [] lN lN)
def z0m:FnT:=⟨2,⟨[], [(0, .i64),(1, .i64)], [], []⟩, [.v .i64, .v .bool], []⟩
omit [UDef] [UTabs]in
theorem y0j:Contract Tryz.prog 187 z0m (k0d):=
 ctN Tryz.func187 17 TT [] [.tmp 4, .tmp 5] pN (oN) [] lN
def b1j:FnT:=⟨2,⟨[], [(0, .i64),(1, .i64)], [], []⟩, [.v .i64, .v .bool], []⟩
def e2z:FnT:=⟨1,⟨[], [(0, .i64)], [], []⟩, [.v .u64], []⟩
omit [UDef] [UTabs]in
theorem a2u:Contract Tryz.prog 197 e2z (q92z):=
 ctN Tryz.func197 10 TT [] [.tmp 2] pN (oN) [] lN
def e2o:FnT:=⟨2,⟨[], [(0, .u64),(1, .u64)], [], []⟩, [.v .u64, .v .u64], []⟩
omit [UDef] [UTabs]in
theorem x1e:Contract Tryz.prog 198 e2o (q69z):=
 ctN Tryz.func198 51 TT [] [.tmp 4, .tmp 5] pN (oN) [] lN
omit [UDef] [UTabs]in
theorem v0z:Contract Tryz.prog 188 b1j (j0c):=
 ctN Tryz.func188 45 TT [(197,⟨[], [], [],true⟩),(198,⟨[], [], [],true⟩)] [.tmp 4, .tmp 5] pN (oC (a2u) (oC (x1e) (oN))) [] lN
omit [UDef] [UTabs]in
theorem x1v(n:Nat):Contract Tryz.prog 175 e2c (q81z n):=
 ctD Tryz.func175 111 TT [(1500000110,⟨[4,3], [], [],false⟩),(999999999,⟨[1], [], [],false⟩),(186,⟨[], [], [],true⟩),(110,⟨[], [], [300043],false⟩),(187,⟨[], [], [],true⟩),(188,⟨[], [], [],true⟩)] [.cell 6 42, .tmp 7] pN (oC (w0f) (oC (b2w n) (oC (y0j) (oC (v0z) (oN))))) [] (.none rfl) (by kernel_rfl) lN
def b1r:FnT:=⟨2,⟨[], [(0, .val),(1, .val)], [], []⟩, [.v .val], []⟩
def d1w:FnT:=⟨2,⟨[], [(0, .val),(1, .val)], [], []⟩, [.v .i64], []⟩
def d2d:FnT:=⟨2,⟨[], [(0, .str),(1, .str)], [], []⟩, [.v .i64], []⟩
def c2i:FnT:=⟨1,⟨[], [(0, .str)], [], []⟩, [.v .bool], []⟩
omit [UDef] [UTabs]in
theorem b2y:Contract Tryz.prog 138 c2i (q56z):=
 ctN Tryz.func138 6 TT [] [.tmp 2] pN (oN) [] lN
omit [UDef] [UTabs]in
theorem x1i:Contract Tryz.prog 200 d2d (q36z):=
 ctN Tryz.func200 20 TT [(138,⟨[], [], [],true⟩)] [.tmp 4] pN (oC (b2y) (oN)) [] lN
def j2m:FnT:=⟨3,⟨[(2, .fn 190)], [(0,(.lst .val)),(1,(.lst .val))], [], []⟩, [.v .i64], []⟩
omit [UDef] [UTabs]in
theorem g2z(self_q90z:Ev.Val×Ev.Val×Unit→Option Y10)(h_q90z:Contract Tryz.prog 190 d1w self_q90z)(n:Nat):Contract Tryz.prog 201 j2m (q0z self_q90z n):=
 ctN Tryz.func201 39 TT [(190,⟨[], [], [],true⟩)] [.tmp 6] pN (oC (h_q90z) (oN)) [0] (lC ⟨[(2, .fn 190)], [(0,(.lst .val)),(1,(.lst .val)),(11,(.lst .val)),(12, .i64),(13, .i64)], [], []⟩ ⟨[], [(0,(.lst .val)),(1,(.lst .val))], [], []⟩ ⟨[], [(6, .i64)], [], []⟩ pN n (r1q self_q90z n) [] lN lN)
def h2o:FnT:=⟨1,⟨[], [(0,(.lst .i64))], [], []⟩, [.v .i64], []⟩
omit [UDef] [UTabs]in
theorem z1w(n:Nat):Contract Tryz.prog 199 h2o (q94z n):=
 ctN Tryz.func199 18 TT [] [.tmp 2] pN (oN) [0] (lC ⟨[], [(3, .i64),(6,(.lst .i64)),(7, .i64),(8, .i64)], [], []⟩ ⟨[], [(3, .i64)], [], []⟩ ⟨[], [(2, .i64)], [], []⟩ pN n (a1b n) [] lN lN)
omit [UDef] [UTabs]in
theorem u1t(self_q90z:Ev.Val×Ev.Val×Unit→Option Y10)(h_q90z:Contract Tryz.prog 190 d1w self_q90z)(n:Nat):Contract Tryz.prog 190 d1w (j1n self_q90z n):=
 ctD Tryz.func190 31 TT [(31,⟨[], [], [],true⟩),(200,⟨[], [], [],true⟩),(201,⟨[], [], [],true⟩),(199,⟨[], [], [],true⟩)] [.tmp 4] pN (oC (b1i) (oC (x1i) (oC (g2z _ h_q90z n) (oC (z1w n) (oN))))) [] (.none rfl) (by kernel_rfl) lN
omit [UDef] [UTabs]in
theorem a1l: ∀n,Contract Tryz.prog 190 d1w (q90z n)
 | 0=>fun _ _ h=>by cases h
 | n+1=>u1t _ (a1l n) n
def c2h:FnT:=⟨1,⟨[], [(0, .bool)], [], []⟩, [.v .val], []⟩
omit [UDef] [UTabs]in
theorem l1z:Contract Tryz.prog 189 c2h (q93z):=
 ctN Tryz.func189 8 TT [] [.cell 2 42] pN (oN) [] lN
omit [UDef] [UTabs]in
theorem p1y(self_q104z:Ev.Val×Ev.Val×Unit→Option Y5)(h_q104z:Contract Tryz.prog 176 b1r self_q104z)(n:Nat):Contract Tryz.prog 176 b1r (c1z self_q104z n):=
 ctD Tryz.func176 68 TT [(190,⟨[], [], [],true⟩)] [.cell 4 42] pN (oC (a1l n) (oC (l1z) (oC (h_q104z) (oN)))) [0] (.none rfl) (by kernel_rfl) (lC ⟨[(2, .ptr 2 0),(3, .ptr 3 0),(4, .ptr 4 0),(5, .ptr 5 0)], [(41, .i64),(42, .i64)], [(2, .box [.d .val]),(3, .box [.d .val]),(4, .box [.d .val]),(5, .box [.d .val])], []⟩ ⟨[(4, .ptr 4 0),(5, .ptr 5 0)], [], [(4, .box [.d .val]),(5, .box [.d .val])], []⟩ ⟨[(4, .ptr 4 0)], [], [(4, .box [.d .val])], []⟩ pN n (i0b self_q104z n) [] lN lN)
omit [UDef] [UTabs]in
theorem g1a: ∀n,Contract Tryz.prog 176 b1r (t0m n)
 | 0=>fun _ _ h=>by cases h
 | n+1=>p1y _ (g1a n) n
def x1o:FnT:=⟨2,⟨[], [(0, .val),(1, .val)], [], []⟩, [.v .val], []⟩
omit [UDef] [UTabs]in
theorem s1d(n:Nat):Contract Tryz.prog 177 x1o (s0y n):=
 ctN Tryz.func177 26 TT [(190,⟨[], [], [],true⟩)] [.cell 4 42] pN (oC (a1l n) (oC (l1z) (oN))) [] lN
def f2x:FnT:=⟨1,⟨[], [(0, .val)], [], []⟩, [.v .val], []⟩
def x1l:FnT:=⟨1,⟨[], [(0, .val)], [], []⟩, [.v .bool, .v .bool], []⟩
omit [UDef] [UTabs]in
theorem u0i:Contract Tryz.prog 128 x1l (v0f):=
 ctD Tryz.func128 10 TT [] [.tmp 2, .tmp 3] pN (oN) [] (.none rfl) (by kernel_rfl) lN
def z1f:FnT:=⟨1,⟨[], [(0, .bool)], [], []⟩, [.v .val], []⟩
omit [UDef] [UTabs]in
theorem t0r:Contract Tryz.prog 180 z1f (p0j):=
 ctN Tryz.func180 6 TT [] [.cell 2 42] pN (oN) [] lN
omit [UDef] [UTabs]in
theorem z1k:Contract Tryz.prog 178 f2x (q88z):=
 ctN Tryz.func178 15 TT [(128,⟨[], [], [],true⟩)] [.cell 2 42] pN (oC (u0i) (oC (t0r) (oN))) [] lN
def g2g:FnT:=⟨2,⟨[], [(0, .val),(1, .val)], [], []⟩, [.v .val], []⟩
omit [UDef] [UTabs]in
theorem y1m:Contract Tryz.prog 179 g2g (q87z):=
 ctN Tryz.func179 38 TT [(128,⟨[], [], [],true⟩)] [.cell 4 42] pN (oC (u0i) (oC (t0r) (oN))) [] lN
omit [UDef]in
theorem a2l(n:Nat):Contract Tryz.prog 157 g2x (q77z n):=
 ctD Tryz.func157 219 TT [(61,⟨[], [], [],true⟩),(59,⟨[], [], [],true⟩)] [.cell 6 42] pN (oC (x1v n) (oC (z0g n) (oC (g1a n) (oC (s1d n) (oC (z1k) (oC (y1m) (oC (t0r) (oC (k1n n) (oN))))))))) [1,4] (.none rfl) (by kernel_rfl) (lC ⟨[(6, .ptr 6 0),(9, .ptr 9 0)], [(2,(.lst .val)),(114,(.lst .val)),(115, .i64),(116, .i64)], [(6, .box [.d .val]),(9, .box [.d .val])], []⟩ ⟨[(6, .ptr 6 0),(9, .ptr 9 0)], [], [(6, .box [.d .val]),(9, .box [.d .val])], []⟩ ⟨[], [], [], []⟩ pN n (o0c n) [] lN (lC ⟨[(6, .ptr 6 0)], [(175,(.lst .val)),(176, .i64),(177, .i64)], [(6, .box [.d .val])], []⟩ ⟨[(6, .ptr 6 0)], [], [(6, .box [.d .val])], []⟩ ⟨[(6, .ptr 6 0)], [], [(6, .box [.d .val])], []⟩ pN n (q0b n) [] lN lN))
omit [UDef]in
theorem s1p(self_q72z:Ev.Envr×Ev.Term×Unit→Option Y5)(h_q72z:Contract Tryz.prog 129 n1z self_q72z)(n:Nat):Contract Tryz.prog 129 n1z (y0d self_q72z n):=
 ctD Tryz.func129 55 TT [] [.cell 4 42] pN (oC (n0k n) (oC (z1g n) (oC (h_q72z) (oC (a2l n) (oN))))) [1] (.none rfl) (by kernel_rfl) (lC ⟨[(2, .ptr 2 0),(3, .ptr 3 0),(4, .ptr 4 0),(5, .own 5)], [(38,(.lst .term)),(39, .i64),(40, .i64)], [(2, .box [.d .envr]),(3, .box [.d .term]),(4, .box [.d .val]),(5, .arr 42 .val)], []⟩ ⟨[(2, .ptr 2 0),(3, .ptr 3 0),(4, .ptr 4 0),(5, .own 5)], [], [(2, .box [.d .envr]),(3, .box [.d .term]),(4, .box [.d .val]),(5, .arr 42 .val)], []⟩ ⟨[], [], [], []⟩ ⟨[], [(5,5,42,4)], []⟩ n (b1o self_q72z n) [] lN lN)
omit [UDef]in
theorem p1l: ∀n,Contract Tryz.prog 129 n1z (q72z n)
 | 0=>fun _ _ h=>by cases h
 | n+1=>s1p _ (p1l n) n
omit [UDef]in
theorem z1i(n:Nat):Contract Tryz.prog 88 e2u (q70z n):=
 ctN Tryz.func88 29 TT [(128,⟨[], [], [],true⟩)] [.tmp 4] pN (oC (p1l n) (oC (u0i) (oN))) [0] (lC ⟨[(2, .ptr 2 0)], [(9,(.lst .term)),(10, .i64),(11, .i64)], [(2, .box [.d .envr])], []⟩ ⟨[], [], [], []⟩ ⟨[], [(4, .bool)], [], []⟩ pN n (z0k n) [] lN lN)
def e2a:FnT:=⟨3,⟨[(0, .own 2000000),(1, .ptr 1000016 0),(2, .ptr 1000032 0)], [], [(2000000, .arr 3 .i64),(1000016, .box [.ref (.own 1000017)]),(1000017, .arr 37 (.lst .i64)),(1000032, .box [.d .bool])], []⟩, [], [(2000000, .arr 3 .i64),(1000016, .box [.ref (.own 1000017)]),(1000017, .arr 37 (.lst .i64)),(1000032, .box [.d .bool])]⟩
omit [UDef] [UTabs]in
theorem b2k:Contract Tryz.prog 18 e2a (q84z):=
 ctD Tryz.func18 12 TT [(999999999,⟨[1], [], [],false⟩),(19,⟨[], [], [],true⟩)] [] pN (oC (m1a) (oN)) [] (.none rfl) (by kernel_rfl) lN
def d2j:FnT:=⟨3,⟨[(0, .ptr 1000000 0)], [(1, .i64),(2, .node)], [(1000000, .box [.d .query, .d .graph, .d (.lst (.map .pair .bool))])], []⟩, [.v .bool], [(1000000, .box [.d .query, .d .graph, .d (.lst (.map .pair .bool))])]⟩
omit [UDef] [UTabs]in
theorem z1x(n:Nat):Contract Tryz.prog 89 d2j (q53z n):=
 ctN Tryz.func89 26 TT [(35,⟨[], [], [],true⟩)] [.tmp 6] pN (oC (v0e n) (oN)) [] lN
def d2s:FnT:=⟨3,⟨[(0, .ptr 1000000 0),(2, .own 2000016)], [(1, .i64)], [(1000000, .box [.d .query, .d .graph, .d (.lst (.map .pair .bool))]),(2000016, .arr 3 .i64)], []⟩, [.v .bool], [(1000000, .box [.d .query, .d .graph, .d (.lst (.map .pair .bool))]),(2000016, .arr 3 .i64)]⟩
omit [UDef] [UTabs]in
theorem z1b(n:Nat):Contract Tryz.prog 90 d2s (q46z n):=
 ctD Tryz.func90 55 TT [(999999999,⟨[1], [], [],false⟩)] [.tmp 6] pN (oN) [0] (.none rfl) (by kernel_rfl) (lC ⟨[(0, .ptr 1000000 0),(2, .own 2000016)], [(1, .i64),(8, .i64),(9, .i64)], [(1000000, .box [.d .query, .d .graph, .d (.lst (.map .pair .bool))]),(2000016, .arr 3 .i64)], []⟩ ⟨[], [], [(1000000, .box [.d .query, .d .graph, .d (.lst (.map .pair .bool))]),(2000016, .arr 3 .i64)], []⟩ ⟨[], [(6, .bool)], [(1000000, .box [.d .query, .d .graph, .d (.lst (.map .pair .bool))]),(2000016, .arr 3 .i64)], []⟩ pN n (p0b n) [] lN lN)
omit [UDef]in
theorem x1k(self_q6z:Int×Y1×Y0×Unit×Y8×Y13×Unit→Option Y23)(h_q6z:Contract Tryz.prog 49 a2f self_q6z)(n:Nat):Contract Tryz.prog 49 a2f (s1a self_q6z n):=
 ctD Tryz.func49 162 TT [(999999999,⟨[1], [], [],false⟩),(999999992,⟨[25], [], [],false⟩),(18,⟨[1000,1,2], [], [],false⟩),(49,⟨[0,1002,3], [], [],false⟩),(87,⟨[0,1001], [], [],false⟩),(90,⟨[0,1002], [], [],false⟩),(89,⟨[0], [], [],false⟩),(88,⟨[], [], [],true⟩)] [] pN (oC (y1b n) (oC (z1i n) (oC (b2k) (oC (z1x n) (oC (z1b n) (oC (h_q6z) (oN))))))) [0] (.none rfl) (by kernel_rfl) (lC ⟨[(0, .ptr 1000000 0),(2, .own 2000016),(3, .clo 18 [1000032,1000034])], [(1, .i64),(8, .i64),(41,(.lst .node)),(42, .i64),(43, .i64)], [(1000000, .box [.d .query, .d .graph, .d (.lst (.map .pair .bool))]),(1000032, .box [.ref (.own 1000033)]),(1000033, .arr 37 (.lst .i64)),(1000034, .box [.d .bool]),(2000016, .arr 3 .i64)], []⟩ ⟨[], [], [(1000000, .box [.d .query, .d .graph, .d (.lst (.map .pair .bool))]),(1000032, .box [.ref (.own 1000033)]),(1000033, .arr 37 (.lst .i64)),(1000034, .box [.d .bool]),(2000016, .arr 3 .i64)], []⟩ ⟨[], [], [], []⟩ pN n (e0h self_q6z n) [2] (lC ⟨[(0, .ptr 1000000 0),(2, .own 2000016),(3, .clo 18 [1000032,1000034]),(11, .ptr 11 0)], [(1, .i64),(8, .i64),(12, .i64),(13, .i64),(41,(.lst .node)),(42, .i64),(43, .i64),(118,(.lst .edg)),(119, .i64),(120, .i64)], [(11, .box [.d .arrow]),(1000000, .box [.d .query, .d .graph, .d (.lst (.map .pair .bool))]),(1000032, .box [.ref (.own 1000033)]),(1000033, .arr 37 (.lst .i64)),(1000034, .box [.d .bool]),(2000016, .arr 3 .i64)], []⟩ ⟨[(0, .ptr 1000000 0),(2, .own 2000016),(3, .clo 18 [1000032,1000034])], [(1, .i64),(8, .i64),(41,(.lst .node)),(42, .i64),(43, .i64)], [(1000000, .box [.d .query, .d .graph, .d (.lst (.map .pair .bool))]),(1000032, .box [.ref (.own 1000033)]),(1000033, .arr 37 (.lst .i64)),(1000034, .box [.d .bool]),(2000016, .arr 3 .i64)], []⟩ ⟨[], [], [], []⟩ pN n (f1d self_q6z n) [] lN lN) lN)
omit [UDef]in
theorem w1g: ∀n,Contract Tryz.prog 49 a2f (q6z n)
 | 0=>fun _ _ h=>by cases h
 | n+1=>x1k _ (w1g n) n
omit [UDef]in
theorem f2q(n:Nat):Contract Tryz.prog 17 i2c (q5z n):=
 ctD Tryz.func17 21 TT [(999999999,⟨[1], [], [],false⟩),(999999994,⟨[20], [], [],false⟩),(49,⟨[0,1002,3], [], [],false⟩)] [] pN (oC (w1g n) (oN)) [] (.none rfl) (by kernel_rfl) lN
omit [UDef]in
theorem m0g(n:Nat):Contract Tryz.prog 5 c1r (d0g n):=
 ctN Tryz.func5 29 TT [(999999999,⟨[1], [], [],false⟩),(1700000009,⟨[8,0,600008,37,1], [], [],false⟩),(17,⟨[0,1], [], [],false⟩),(20,⟨[1000], [], [],false⟩),(14,⟨[], [], [],true⟩),(15,⟨[], [], [],true⟩),(16,⟨[], [], [12],false⟩)] [.tmp 4, .tmp 5] pN (oC (b2d n) (oC (y1s n) (oC (y0n n) (oC (f2q n) (oC (g1d) (oN)))))) [] lN
def h2q:FnT:=⟨2,⟨[], [(0, .query),(1, .graph)], [], []⟩, [.v .i64], []⟩
def e2e:FnT:=⟨1,⟨[], [(0, .query)], [], []⟩, [.v (.map .str .i64), .v .i64], []⟩
def c2v:FnT:=⟨1,⟨[], [(0, .str)], [], []⟩, [.v .bool], []⟩
def d2g:FnT:=⟨1,⟨[], [(0, .str)], [], []⟩, [.v .bool], []⟩
omit [UDef] [UTabs]in
theorem l0q:Contract Tryz.prog 68 d2g (q41z):=
 ctN Tryz.func68 23 TT [(117,⟨[], [], [],true⟩)] [.tmp 2] pN (oC (s1f) (oN)) [] lN
def f2c:FnT:=⟨1,⟨[], [(0, .str)], [], []⟩, [.v .bool], []⟩
omit [UDef]in
theorem y1d:Contract Tryz.prog 116 f2c (q19z):=
 ctN Tryz.func116 16 TT [(140,⟨[], [], [],true⟩)] [.tmp 2] pN (oC (y0t) (oN)) [] lN
omit [UDef]in
theorem m1k:Contract Tryz.prog 67 c2v (q40z):=
 ctN Tryz.func67 10 TT [(68,⟨[], [], [],true⟩),(116,⟨[], [], [],true⟩)] [.tmp 2] pN (oC (l0q) (oC (y1d) (oN))) [] lN
def j1k:FnT:=⟨3,⟨[], [(0, .term),(1,(.map .str .i64)),(2, .i64)], [], []⟩, [.v .i64], []⟩
def h2e:FnT:=⟨2,⟨[], [(0, .val),(1, .val)], [], []⟩, [.v .bool], []⟩
def l1m:FnT:=⟨2,⟨[], [(0, .val),(1, .val)], [], []⟩, [.v .i64], []⟩
def e2q:FnT:=⟨2,⟨[], [(0,(.lst .u8)),(1,(.lst .u8))], [], []⟩, [.v .i64], []⟩
omit [UDef] [UTabs]in
theorem x1b:Contract Tryz.prog 155 e2q (q75z):=
 ctN Tryz.func155 8 TT [] [.tmp 4] pN (oE (h2u) (oN)) [] lN
omit [UDef] [UTabs]in
theorem u1m(self_q34z:Ev.Val×Ev.Val×Unit→Option Y10)(h_q34z:Contract Tryz.prog 126 l1m self_q34z)(n:Nat):Contract Tryz.prog 126 l1m (d1y self_q34z n):=
 ctD Tryz.func126 88 TT [(155,⟨[], [], [],true⟩),(126,⟨[], [], [],true⟩)] [.tmp 4] pN (oC (x1b) (oC (h_q34z) (oN))) [1] (.none rfl) (by kernel_rfl) (lC ⟨[(2, .ptr 2 0),(3, .ptr 3 0)], [(5, .i64)], [(2, .box [.d .val]),(3, .box [.d .val])], []⟩ ⟨[(2, .ptr 2 0),(3, .ptr 3 0)], [], [(2, .box [.d .val]),(3, .box [.d .val])], []⟩ ⟨[], [(4, .i64)], [], []⟩ pN n (i0l self_q34z n) [] lN lN)
omit [UDef] [UTabs]in
theorem a1u: ∀n,Contract Tryz.prog 126 l1m (q34z n)
 | 0=>fun _ _ h=>by cases h
 | n+1=>u1m _ (a1u n) n
omit [UDef] [UTabs]in
theorem p1x(n:Nat):Contract Tryz.prog 118 h2e (q23z n):=
 ctN Tryz.func118 9 TT [(126,⟨[], [], [],true⟩)] [.tmp 4] pN (oC (a1u n) (oN)) [] lN
def j1s:FnT:=⟨2,⟨[], [(0, .val),(1, .i64)], [], []⟩, [.v .i64], []⟩
omit [UDef]in
theorem t1w(self_q18z:Ev.Val×Int×Unit→Option Y10)(h_q18z:Contract Tryz.prog 119 j1s self_q18z)(n:Nat):Contract Tryz.prog 119 j1s (n1u self_q18z n):=
 ctD Tryz.func119 96 TT [(119,⟨[], [], [],true⟩),(135,⟨[], [], [],true⟩)] [.tmp 4] pN (oC (h_q18z) (oC (y0k) (oN))) [1] (.none rfl) (by kernel_rfl) (lC ⟨[], [(1, .i64),(5, .bool),(6, .bool),(34,(.lst .val)),(35, .i64),(36, .i64)], [], []⟩ ⟨[], [(5, .bool),(6, .bool)], [], []⟩ ⟨[], [(4, .i64)], [], []⟩ pN n (o0o self_q18z n) [] lN lN)
omit [UDef]in
theorem t0d: ∀n,Contract Tryz.prog 119 j1s (q18z n)
 | 0=>fun _ _ h=>by cases h
 | n+1=>t1w _ (t0d n) n
omit [UDef]in
theorem v1o(self_q22z:Ev.Term×Y9×Int×Unit→Option Y10)(h_q22z:Contract Tryz.prog 69 j1k self_q22z)(n:Nat):Contract Tryz.prog 69 j1k (p1u self_q22z n):=
 ctN Tryz.func69 173 TT [(118,⟨[], [], [],true⟩),(119,⟨[], [], [],true⟩),(67,⟨[], [], [],true⟩),(68,⟨[], [], [],true⟩),(69,⟨[], [], [],true⟩)] [.tmp 6] pN (oC (p1x n) (oC (t0d n) (oC (m1k) (oC (l0q) (oC (h_q22z) (oN)))))) [1] (lC ⟨[(3, .ptr 3 0)], [(1,(.map .str .i64)),(2, .i64),(124,(.lst .term)),(125, .i64),(126, .i64)], [(3, .box [.d .term])], []⟩ ⟨[(3, .ptr 3 0)], [(1,(.map .str .i64))], [(3, .box [.d .term])], []⟩ ⟨[], [(6, .i64)], [], []⟩ pN n (a1x self_q22z n) [] lN lN)
omit [UDef]in
theorem o1q: ∀n,Contract Tryz.prog 69 j1k (q22z n)
 | 0=>fun _ _ h=>by cases h
 | n+1=>v1o _ (o1q n) n
omit [UDef]in
theorem y1i(n:Nat):Contract Tryz.prog 32 e2e (q17z n):=
 ctN Tryz.func32 206 TT [(67,⟨[], [], [],true⟩),(68,⟨[], [], [],true⟩),(69,⟨[], [], [],true⟩),(35,⟨[], [], [],true⟩)] [.tmp 2, .tmp 3] pN (oC (m1k) (oC (l0q) (oC (o1q n) (oC (v0e n) (oN))))) [0,2,4,6,8] (lC ⟨[(1, .ptr 1 0),(5, .mpr 55)], [(57,(.lst .dot)),(58, .i64),(59, .i64)], [(1, .box [.d .query]),(55, .mp 86 .str .i64 false)], []⟩ ⟨[(1, .ptr 1 0),(5, .mpr 55)], [], [(1, .box [.d .query]),(55, .mp 86 .str .i64 false)], []⟩ ⟨[], [(2,(.map .str .i64)),(3, .i64)], [], []⟩ pN n (d1k n) [] lN (lC ⟨[(1, .ptr 1 0),(5, .mpr 55)], [(88,(.lst .arrow)),(89, .i64),(90, .i64)], [(1, .box [.d .query]),(55, .mp 86 .str .i64 false)], []⟩ ⟨[(1, .ptr 1 0),(5, .mpr 55)], [], [(1, .box [.d .query]),(55, .mp 86 .str .i64 false)], []⟩ ⟨[], [(2,(.map .str .i64)),(3, .i64)], [], []⟩ pN n (z0u n) [] lN (lC ⟨[(1, .ptr 1 0),(5, .mpr 55)], [(126,(.lst .arrow)),(127, .i64),(128, .i64)], [(1, .box [.d .query]),(55, .mp 86 .str .i64 false)], []⟩ ⟨[(1, .ptr 1 0),(5, .mpr 55)], [], [(1, .box [.d .query]),(55, .mp 86 .str .i64 false)], []⟩ ⟨[], [(2,(.map .str .i64)),(3, .i64)], [], []⟩ pN n (a1a n) [] lN (lC ⟨[(1, .ptr 1 0),(5, .mpr 55)], [(150,(.lst .term)),(151, .i64),(152, .i64)], [(1, .box [.d .query]),(55, .mp 86 .str .i64 false)], []⟩ ⟨[(1, .ptr 1 0),(5, .mpr 55)], [], [(1, .box [.d .query]),(55, .mp 86 .str .i64 false)], []⟩ ⟨[], [(2,(.map .str .i64)),(3, .i64)], [], []⟩ pN n (b1g n) [] lN (lC ⟨[(1, .ptr 1 0),(5, .mpr 55)], [(164,(.lst .item)),(165, .i64),(166, .i64)], [(1, .box [.d .query]),(55, .mp 86 .str .i64 false)], []⟩ ⟨[(5, .mpr 55)], [], [(55, .mp 86 .str .i64 false)], []⟩ ⟨[], [(2,(.map .str .i64)),(3, .i64)], [], []⟩ pN n (l0t n) [10] (lC ⟨[(1, .ptr 1 0),(5, .mpr 55),(16, .ptr 16 0)], [(164,(.lst .item)),(165, .i64),(166, .i64),(185,(.lst .item)),(186, .i64),(187, .i64)], [(1, .box [.d .query]),(16, .box [.d .item]),(55, .mp 86 .str .i64 false)], []⟩ ⟨[(1, .ptr 1 0),(5, .mpr 55),(16, .ptr 16 0)], [(164,(.lst .item)),(165, .i64),(166, .i64)], [(1, .box [.d .query]),(16, .box [.d .item]),(55, .mp 86 .str .i64 false)], []⟩ ⟨[], [(2,(.map .str .i64)),(3, .i64)], [], []⟩ pN n (u0k n) [] lN lN) lN)))))
def c2b:FnT:=⟨1,⟨[], [(0, .graph)], [], []⟩, [.v .i64], []⟩
def e2i:FnT:=⟨1,⟨[], [(0,(.lst .str))], [], []⟩, [.v .i64], []⟩
omit [UDef] [UTabs]in
theorem z1e(n:Nat):Contract Tryz.prog 70 e2i (q12z n):=
 ctN Tryz.func70 25 TT [(68,⟨[], [], [],true⟩)] [.tmp 2] pN (oC (l0q) (oN)) [0] (lC ⟨[], [(3, .str),(9,(.lst .str)),(10, .i64),(11, .i64)], [], []⟩ ⟨[], [], [], []⟩ ⟨[], [(2, .i64)], [], []⟩ pN n (k1y n) [] lN lN)
def e2h:FnT:=⟨1,⟨[], [(0,(.lst .prp))], [], []⟩, [.v .i64], []⟩
omit [UDef]in
theorem y1w(n:Nat):Contract Tryz.prog 71 e2h (q16z n):=
 ctN Tryz.func71 41 TT [(68,⟨[], [], [],true⟩),(119,⟨[], [], [],true⟩)] [.tmp 2] pN (oC (l0q) (oC (t0d n) (oN))) [0] (lC ⟨[], [(3, .str),(10,(.lst .prp)),(11, .i64),(12, .i64)], [], []⟩ ⟨[], [], [], []⟩ ⟨[], [(2, .i64)], [], []⟩ pN n (m1s n) [] lN lN)
def c2q:FnT:=⟨2,⟨[], [(0, .graph),(1, .i64)], [], []⟩, [.opt .node], []⟩
omit [UDef] [UTabs]in
theorem l1x(n:Nat):Contract Tryz.prog 72 c2q (q43z n):=
 ctN Tryz.func72 25 TT [] [.tmp 4] pN (oN) [0] (lC ⟨[(2, .ptr 2 0)], [(1, .i64),(8, .i64),(9, .i64)], [(2, .box [.d .graph])], []⟩ ⟨[], [], [], []⟩ ⟨[], [(4,(.ptr .node))], [], []⟩ pN n (k1u n) [] lN lN)
omit [UDef]in
theorem a2p(n:Nat):Contract Tryz.prog 33 c2b (q15z n):=
 ctD Tryz.func33 108 TT [(70,⟨[], [], [],true⟩),(71,⟨[], [], [],true⟩),(68,⟨[], [], [],true⟩)] [.tmp 2] pN (oC (z1e n) (oC (y1w n) (oC (l1x n) (oC (l0q) (oN))))) [0,2] (.none rfl) (by kernel_rfl) (lC ⟨[(1, .ptr 1 0)], [(3, .i64),(4, .i64),(23,(.lst .node)),(24, .i64),(25, .i64)], [(1, .box [.d .graph])], []⟩ ⟨[(1, .ptr 1 0)], [(3, .i64)], [(1, .box [.d .graph])], []⟩ ⟨[], [(2, .i64)], [], []⟩ pN n (n1i n) [] lN (lC ⟨[(1, .ptr 1 0)], [(3, .i64),(4, .i64),(51,(.lst .edg)),(52, .i64),(53, .i64)], [(1, .box [.d .graph])], []⟩ ⟨[(1, .ptr 1 0)], [(3, .i64)], [(1, .box [.d .graph])], []⟩ ⟨[], [(2, .i64)], [], []⟩ pN n (l1o n) [] lN lN))
omit [UDef]in
theorem y1v(n:Nat):Contract Tryz.prog 10 h2q (q21z n):=
 ctN Tryz.func10 17 TT [(33,⟨[], [], [],true⟩)] [.tmp 4] pN (oC (y1i n) (oC (a2p n) (oN))) [] lN
def g2l:FnT:=⟨0,⟨[], [], [], []⟩, [.v .bool], []⟩
def f2v:FnT:=⟨1,⟨[], [(0, .i64)], [], []⟩, [.v .val], []⟩
omit [UDef] [UTabs]in
theorem a2t:Contract Tryz.prog 22 f2v (q68z):=
 ctN Tryz.func22 5 TT [] [.cell 2 42] pN (oN) [] lN
def c2l:FnT:=⟨2,⟨[], [(0, .str),(1,(.lst .term))], [], []⟩, [.v .term], []⟩
omit [UDef] [UTabs]in
theorem a2o:Contract Tryz.prog 21 c2l (q58z):=
 ctN Tryz.func21 8 TT [] [.cell 4 71] pN (oN) [] lN
def h2f:FnT:=⟨0,⟨[], [], [], []⟩, [.v .graph], []⟩
omit [UDef] [UTabs]in
theorem y1a:Contract Tryz.prog 23 h2f (q48z):=
 ctN Tryz.func23 10 TT [] [.cell 0 31] pN (oN) [] lN
def i2h:FnT:=⟨3,⟨[(2, .fn 13)], [(0,(.lst (.lst .i64))),(1,(.lst (.lst .i64)))], [], []⟩, [.v .bool], []⟩
def f2r:FnT:=⟨2,⟨[], [(0,(.lst .i64)),(1,(.lst .i64))], [], []⟩, [.v .bool], []⟩
omit [UDef] [UTabs]in
theorem z1u(n:Nat):Contract Tryz.prog 13 f2r (q32z n):=
 ctD Tryz.func13 26 TT [] [.tmp 4] pN (oN) [0] (.none rfl) (by kernel_rfl) (lC ⟨[], [(0,(.lst .i64)),(1,(.lst .i64)),(12, .i64),(13, .i64)], [], []⟩ ⟨[], [], [], []⟩ ⟨[], [(4, .bool)], [], []⟩ pN n (c1j n) [] lN lN)
omit [UDef] [UTabs]in
theorem w1i(n:Nat):Contract Tryz.prog 12 i2h (q3z n):=
 ctN Tryz.func12 32 TT [(13,⟨[], [], [],true⟩)] [.tmp 6] pN (oC (z1u n) (oN)) [0] (lC ⟨[(2, .fn 13)], [(1,(.lst (.lst .i64))),(15,(.lst (.lst .i64))),(16, .i64),(17, .i64)], [], []⟩ ⟨[], [], [], []⟩ ⟨[], [(6, .bool)], [], []⟩ pN n (m1j n) [] lN lN)
omit [UDef]in
theorem y1r(n:Nat):Contract Tryz.prog 6 g2l (q33z n):=
 ctN Tryz.func6 32 TT [(12,⟨[], [], [],true⟩)] [.tmp 0] pN (oC (a2t) (oC (a2o) (oC (y1a) (oC (m0g n) (oC (w1i n) (oN)))))) [] lN
def c2p:FnT:=⟨2,⟨[], [(0, .query),(1, .graph)], [], []⟩, [.v (.lst (.lst .i64)), .v .bool], []⟩
def d2r:FnT:=⟨2,⟨[], [(0, .graph),(1, .str)], [], []⟩, [.v (.map .pair .bool)], []⟩
omit [UDef] [UTabs]in
theorem x1z(n:Nat):Contract Tryz.prog 34 d2r (q35z n):=
 ctN Tryz.func34 83 TT [] [.tmp 4] pN (oN) [0,2] (lC ⟨[(2, .ptr 2 0),(5, .mpr 14)], [(1, .str),(16,(.lst .edg)),(17, .i64),(18, .i64)], [(2, .box [.d .graph]),(14, .mp 90 .pair .bool false)], []⟩ ⟨[(2, .ptr 2 0),(5, .mpr 14)], [], [(2, .box [.d .graph]),(14, .mp 90 .pair .bool false)], []⟩ ⟨[], [], [], []⟩ pN n (c1y n) [] lN (lC ⟨[(2, .ptr 2 0),(5, .mpr 14)], [(38,(.lst .node)),(39, .i64),(40, .i64)], [(2, .box [.d .graph]),(14, .mp 90 .pair .bool false)], []⟩ ⟨[(5, .mpr 14)], [], [(14, .mp 90 .pair .bool false)], []⟩ ⟨[], [], [], []⟩ pN n (i0u n) [4] (lC ⟨[(2, .ptr 2 0),(5, .mpr 14),(9, .ptr 9 0)], [(38,(.lst .node)),(39, .i64),(40, .i64),(45,(.lst .node)),(46, .i64),(47, .i64)], [(2, .box [.d .graph]),(9, .box [.d .node]),(14, .mp 90 .pair .bool false)], []⟩ ⟨[(2, .ptr 2 0),(5, .mpr 14)], [(38,(.lst .node)),(39, .i64),(40, .i64)], [(2, .box [.d .graph]),(14, .mp 90 .pair .bool false)], []⟩ ⟨[], [], [], []⟩ pN n (l0g n) [6] (lC ⟨[(2, .ptr 2 0),(5, .mpr 14),(9, .ptr 9 0),(11, .ptr 11 0)], [(38,(.lst .node)),(39, .i64),(40, .i64),(45,(.lst .node)),(46, .i64),(47, .i64),(60,(.lst .node)),(61, .i64),(62, .i64)], [(2, .box [.d .graph]),(9, .box [.d .node]),(11, .box [.d .node]),(14, .mp 90 .pair .bool false)], []⟩ ⟨[(2, .ptr 2 0),(5, .mpr 14),(9, .ptr 9 0)], [(38,(.lst .node)),(39, .i64),(40, .i64),(45,(.lst .node)),(46, .i64),(47, .i64)], [(2, .box [.d .graph]),(9, .box [.d .node]),(14, .mp 90 .pair .bool false)], []⟩ ⟨[], [], [], []⟩ pN n (d1m n) [] lN lN) lN) lN))
def c2j:FnT:=⟨1,⟨[], [(0,(.lst (.lst .i64)))], [], []⟩, [.v (.lst .i64)], []⟩
def c2t:FnT:=⟨2,⟨[(0, .nils)], [(1, .i64)], [], []⟩, [.ref (.own 22)], [(22, .arr 3 .i64)]⟩
omit [UDef] [UTabs]in
theorem y1j:Contract Tryz.prog 74 c2t (q14z):=
 ctN Tryz.func74 27 TT [(999999999,⟨[1], [], [],false⟩)] [.tmp 4] ⟨[], [(4,22,3,1)], []⟩ (oN) [] lN
omit [UDef] [UTabs]in
theorem z1m(n:Nat):Contract Tryz.prog 36 c2j (q26z n):=
 ctN Tryz.func36 36 TT [(74,⟨[], [], [22],false⟩)] [.tmp 2] pN (oC (y1j) (oN)) [0,2] (lC ⟨[], [(0,(.lst (.lst .i64))),(3, .i64),(9,(.lst (.lst .i64))),(10, .i64),(11, .i64)], [], []⟩ ⟨[], [(0,(.lst (.lst .i64))),(3, .i64)], [], []⟩ ⟨[], [], [], []⟩ pN n (d1j n) [] lN (lC ⟨[(6, .own 24)], [(25,(.lst (.lst .i64))),(26, .i64),(27, .i64)], [(24, .arr 3 .i64)], []⟩ ⟨[(6, .own 24)], [], [(24, .arr 3 .i64)], []⟩ ⟨[], [], [], []⟩ ⟨[], [(6,6,3,1)], []⟩ n (d1g n) [] lN lN))
def h2s:FnT:=⟨2,⟨[], [(0, .query),(1,(.lst .i64))], [], []⟩, [.v (.map .str .i64)], []⟩
omit [UDef] [UTabs]in
theorem y1k(n:Nat):Contract Tryz.prog 39 h2s (q49z n):=
 ctD Tryz.func39 51 TT [] [.tmp 4] pN (oN) [0,2] (.none rfl) (by kernel_rfl) (lC ⟨[(2, .ptr 2 0),(5, .mpr 10)], [(1,(.lst .i64)),(12,(.lst .dot)),(13, .i64),(14, .i64)], [(2, .box [.d .query]),(10, .mp 86 .str .i64 false)], []⟩ ⟨[(2, .ptr 2 0),(5, .mpr 10)], [(1,(.lst .i64))], [(2, .box [.d .query]),(10, .mp 86 .str .i64 false)], []⟩ ⟨[], [], [], []⟩ pN n (a1f n) [] lN (lC ⟨[(2, .ptr 2 0),(5, .mpr 10)], [(1,(.lst .i64)),(28,(.lst .arrow)),(29, .i64),(30, .i64)], [(2, .box [.d .query]),(10, .mp 86 .str .i64 false)], []⟩ ⟨[(5, .mpr 10)], [], [(10, .mp 86 .str .i64 false)], []⟩ ⟨[], [], [], []⟩ pN n (d1e n) [] lN lN))
def n1e:FnT:=⟨3,⟨[], [(0, .graph),(1,(.map .str .i64)),(2, .term)], [], []⟩, [.v .val], []⟩
def d2f:FnT:=⟨2,⟨[], [(0, .graph),(1, .i64)], [], []⟩, [.opt .edg], []⟩
omit [UDef] [UTabs]in
theorem b2f(n:Nat):Contract Tryz.prog 76 d2f (q39z n):=
 ctN Tryz.func76 25 TT [] [.tmp 4] pN (oN) [0] (lC ⟨[(2, .ptr 2 0)], [(1, .i64),(8, .i64),(9, .i64)], [(2, .box [.d .graph])], []⟩ ⟨[], [], [], []⟩ ⟨[], [(4,(.ptr .edg))], [], []⟩ pN n (l1t n) [] lN lN)
def h2p:FnT:=⟨2,⟨[], [(0,(.lst .prp)),(1, .str)], [], []⟩, [.v .val], []⟩
omit [UDef] [UTabs]in
theorem z1j(n:Nat):Contract Tryz.prog 75 h2p (q44z n):=
 ctN Tryz.func75 21 TT [] [.cell 4 42] pN (oN) [0] (lC ⟨[(4, .ptr 4 0)], [(1, .str),(7,(.lst .prp)),(8, .i64),(9, .i64)], [(4, .box [.d .val])], []⟩ ⟨[(4, .ptr 4 0)], [], [(4, .box [.d .val])], []⟩ ⟨[(4, .ptr 4 0)], [], [(4, .box [.d .val])], []⟩ pN n (b1z n) [] lN lN)
def g2d:FnT:=⟨3,⟨[], [(0, .str),(1, .val),(2, .val)], [], []⟩, [.v .val, .v .i64], []⟩
def i2d:FnT:=⟨2,⟨[(0, .ptr 1000000 0)], [(1, .i64)], [(1000000, .box [.d .bool, .d (.lst .u32)])], []⟩, [.ref (.ptr 1000000 0)], [(1000000, .box [.d .bool, .d (.lst .u32)])]⟩
def d2t:FnT:=⟨1,⟨[], [(0, .u64)], [], []⟩, [.v (.lst .u32)], []⟩
def c2g:FnT:=⟨1,⟨[], [(0,(.lst .u32))], [], []⟩, [.v (.lst .u32)], []⟩
omit [UDef] [UTabs]in
theorem u0d(n:Nat):Contract Tryz.prog 171 c2g (q57z n):=
 ctN Tryz.func171 21 TT [] [.tmp 2] pN (oN) [0] (lC ⟨[], [(0,(.lst .u32)),(3, .i64)], [], []⟩ ⟨[], [(0,(.lst .u32)),(3, .i64)], [], []⟩ ⟨[], [], [], []⟩ pN n (o0x n) [] lN lN)
omit [UDef] [UTabs]in
theorem y1e(n:Nat):Contract Tryz.prog 167 d2t (q47z n):=
 ctN Tryz.func167 10 TT [] [.tmp 2] pN (oC (u0d n) (oN)) [] lN
def g2k:FnT:=⟨3,⟨[(0, .ptr 1000000 0)], [(1, .bool),(2,(.lst .u32))], [(1000000, .box [.d .bool, .d (.lst .u32)])], []⟩, [.ref (.ptr 1000000 0)], [(1000000, .box [.d .bool, .d (.lst .u32)])]⟩
omit [UDef] [UTabs]in
theorem u0g:Contract Tryz.prog 149 g2k (q25z):=
 ctN Tryz.func149 21 TT [(999999999,⟨[1], [], [],false⟩)] [.tmp 6] pN (oN) [] lN
omit [UDef] [UTabs]in
theorem f2m(n:Nat):Contract Tryz.prog 148 i2d (q9z n):=
 ctN Tryz.func148 18 TT [(999999999,⟨[1], [], [],false⟩),(149,⟨[0], [], [],false⟩)] [.tmp 4] pN (oC (y1e n) (oC (u0g) (oN))) [] lN
def f2f:FnT:=⟨1,⟨[], [(0, .i64)], [], []⟩, [.ref (.ptr 3 0)], [(3, .box [.d .bool, .d (.lst .u32)])]⟩
omit [UDef] [UTabs]in
theorem b2r(n:Nat):Contract Tryz.prog 120 f2f (q37z n):=
 ctN Tryz.func120 6 TT [(999999999,⟨[1], [], [],false⟩),(148,⟨[0], [], [],false⟩)] [.tmp 2] pN (oC (f2m n) (oN)) [] lN
def f2o:FnT:=⟨3,⟨[(0, .ptr 1000000 0),(1, .ptr 1000016 0),(2, .ptr 1000032 0)], [], [(1000000, .box [.d .bool, .d (.lst .u32)]),(1000016, .box [.d .bool, .d (.lst .u32)]),(1000032, .box [.d .bool, .d (.lst .u32)])], []⟩, [.ref (.ptr 1000000 0)], [(1000000, .box [.d .bool, .d (.lst .u32)]),(1000016, .box [.d .bool, .d (.lst .u32)]),(1000032, .box [.d .bool, .d (.lst .u32)])]⟩
def e2m:FnT:=⟨4,⟨[], [(0, .bool),(1,(.lst .u32)),(2, .bool),(3,(.lst .u32))], [], []⟩, [.v .bool, .v (.lst .u32)], []⟩
def c2e:FnT:=⟨2,⟨[], [(0,(.lst .u32)),(1,(.lst .u32))], [], []⟩, [.v (.lst .u32)], []⟩
omit [UDef] [UTabs]in
theorem b2l(n:Nat):Contract Tryz.prog 168 c2e (q62z n):=
 ctN Tryz.func168 58 TT [(999999999,⟨[1], [], [],false⟩)] [.tmp 4] pN (oC (u0d n) (oN)) [0] (lC ⟨[(5, .own 18)], [(0,(.lst .u32)),(1,(.lst .u32)),(6, .u64),(7, .i64)], [(18, .arr 172 .u32)], []⟩ ⟨[(5, .own 18)], [(0,(.lst .u32)),(6, .u64)], [(18, .arr 172 .u32)], []⟩ ⟨[], [], [], []⟩ pN n (a1w n) [] lN lN)
def e2k:FnT:=⟨2,⟨[], [(0,(.lst .u32)),(1,(.lst .u32))], [], []⟩, [.v .i64], []⟩
omit [UDef] [UTabs]in
theorem b2m(n:Nat):Contract Tryz.prog 169 e2k (q64z n):=
 ctD Tryz.func169 41 TT [] [.tmp 4] pN (oN) [0] (.none rfl) (by kernel_rfl) (lC ⟨[], [(0,(.lst .u32)),(1,(.lst .u32)),(5, .i64)], [], []⟩ ⟨[], [], [], []⟩ ⟨[], [(4, .i64)], [], []⟩ pN n (l1k n) [] lN lN)
def g2e:FnT:=⟨2,⟨[], [(0,(.lst .u32)),(1,(.lst .u32))], [], []⟩, [.v (.lst .u32)], []⟩
omit [UDef] [UTabs]in
theorem x1j(n:Nat):Contract Tryz.prog 170 g2e (q66z n):=
 ctN Tryz.func170 45 TT [(999999999,⟨[1], [], [],false⟩)] [.tmp 4] pN (oC (u0d n) (oN)) [0] (lC ⟨[(5, .own 11)], [(0,(.lst .u32)),(1,(.lst .u32)),(6, .u64),(7, .i64)], [(11, .arr 172 .u32)], []⟩ ⟨[(5, .own 11)], [], [(11, .arr 172 .u32)], []⟩ ⟨[], [], [], []⟩ pN n (n1y n) [] lN lN)
omit [UDef] [UTabs]in
theorem o1e(n:Nat):Contract Tryz.prog 150 e2m (q67z n):=
 ctN Tryz.func150 29 TT [(169,⟨[], [], [],true⟩)] [.tmp 8, .tmp 9] pN (oC (b2l n) (oC (b2m n) (oC (x1j n) (oN)))) [] lN
omit [UDef] [UTabs]in
theorem b2u(n:Nat):Contract Tryz.prog 121 f2o (q29z n):=
 ctD Tryz.func121 28 TT [(999999999,⟨[1], [], [],false⟩),(149,⟨[0], [], [],false⟩)] [.tmp 6] pN (oC (o1e n) (oC (u0g) (oN))) [] (.none rfl) (by kernel_rfl) lN
def g2q:FnT:=⟨1,⟨[(0, .ptr 1000000 0)], [], [(1000000, .box [.d .bool, .d (.lst .u32)])], []⟩, [.v .bool], [(1000000, .box [.d .bool, .d (.lst .u32)])]⟩
def g2v:FnT:=⟨1,⟨[], [(0,(.lst .u32))], [], []⟩, [.v .i64], []⟩
omit [UDef] [UTabs]in
theorem b2b(n:Nat):Contract Tryz.prog 152 g2v (q38z n):=
 ctN Tryz.func152 26 TT [] [.tmp 2] pN (oN) [0] (lC ⟨[], [(0,(.lst .u32)),(3, .i64),(4, .u32)], [], []⟩ ⟨[], [(0,(.lst .u32)),(3, .i64)], [], []⟩ ⟨[], [], [], []⟩ pN n (l0z n) [] lN lN)
def j2e:FnT:=⟨1,⟨[(0, .ptr 1000000 0)], [], [(1000000, .box [.d .bool, .d (.lst .u32)])], []⟩, [.v .u64], [(1000000, .box [.d .bool, .d (.lst .u32)])]⟩
def e2n:FnT:=⟨2,⟨[], [(0,(.lst .u32)),(1, .i64)], [], []⟩, [.v .u64], []⟩
omit [UDef] [UTabs]in
theorem z1z:Contract Tryz.prog 172 e2n (q63z):=
 ctN Tryz.func172 25 TT [] [.tmp 4] pN (oN) [] lN
omit [UDef] [UTabs]in
theorem e2t(n:Nat):Contract Tryz.prog 153 j2e (q4z n):=
 ctN Tryz.func153 21 TT [(172,⟨[], [], [],true⟩)] [.tmp 2] pN (oC (z1z) (oN)) [0] (lC ⟨[(0, .ptr 1000000 0)], [(3, .u64)], [(1000000, .box [.d .bool, .d (.lst .u32)])], []⟩ ⟨[], [(3, .u64)], [(1000000, .box [.d .bool, .d (.lst .u32)])], []⟩ ⟨[], [], [], []⟩ pN n (r0b n) [] lN lN)
omit [UDef] [UTabs]in
theorem x1p(n:Nat):Contract Tryz.prog 124 g2q (q10z n):=
 ctN Tryz.func124 26 TT [(153,⟨[0], [], [],false⟩),(152,⟨[], [], [],true⟩)] [.tmp 2] pN (oC (b2b n) (oC (e2t n) (oN))) [] lN
def h2w:FnT:=⟨1,⟨[(0, .ptr 1000000 0)], [], [(1000000, .box [.d .bool, .d (.lst .u32)])], []⟩, [.v .i64], [(1000000, .box [.d .bool, .d (.lst .u32)])]⟩
def d2u:FnT:=⟨1,⟨[(0, .ptr 1000000 0)], [], [(1000000, .box [.d .bool, .d (.lst .u32)])], []⟩, [.v .u64], [(1000000, .box [.d .bool, .d (.lst .u32)])]⟩
omit [UDef] [UTabs]in
theorem a2e:Contract Tryz.prog 154 d2u (q13z):=
 ctN Tryz.func154 34 TT [] [.tmp 2] pN (oN) [] lN
omit [UDef] [UTabs]in
theorem a2v:Contract Tryz.prog 125 h2w (q20z):=
 ctN Tryz.func125 14 TT [(154,⟨[0], [], [],false⟩)] [.tmp 2] pN (oC (a2e) (oN)) [] lN
def c2r:FnT:=⟨3,⟨[(0, .ptr 1000000 0),(1, .ptr 1000016 0),(2, .ptr 1000032 0)], [], [(1000000, .box [.d .bool, .d (.lst .u32)]),(1000016, .box [.d .bool, .d (.lst .u32)]),(1000032, .box [.d .bool, .d (.lst .u32)])], []⟩, [.ref (.ptr 1000000 0)], [(1000000, .box [.d .bool, .d (.lst .u32)]),(1000016, .box [.d .bool, .d (.lst .u32)]),(1000032, .box [.d .bool, .d (.lst .u32)])]⟩
omit [UDef] [UTabs]in
theorem x1s(n:Nat):Contract Tryz.prog 122 c2r (q31z n):=
 ctD Tryz.func122 29 TT [(999999999,⟨[1], [], [],false⟩),(149,⟨[0], [], [],false⟩)] [.tmp 6] pN (oC (o1e n) (oC (u0g) (oN))) [] (.none rfl) (by kernel_rfl) lN
def h2d:FnT:=⟨3,⟨[(0, .ptr 1000000 0),(1, .ptr 1000016 0),(2, .ptr 1000032 0)], [], [(1000000, .box [.d .bool, .d (.lst .u32)]),(1000016, .box [.d .bool, .d (.lst .u32)]),(1000032, .box [.d .bool, .d (.lst .u32)])], []⟩, [.ref (.ptr 1000000 0)], [(1000000, .box [.d .bool, .d (.lst .u32)]),(1000016, .box [.d .bool, .d (.lst .u32)]),(1000032, .box [.d .bool, .d (.lst .u32)])]⟩
def e2b:FnT:=⟨2,⟨[], [(0,(.lst .u32)),(1,(.lst .u32))], [], []⟩, [.v (.lst .u32)], []⟩
omit [UDef] [UTabs]in
theorem b2n(n:Nat):Contract Tryz.prog 151 e2b (q65z n):=
 ctD Tryz.func151 75 TT [(999999999,⟨[1], [], [],false⟩)] [.tmp 4] pN (oC (u0d n) (oN)) [0] (.none rfl) (by kernel_rfl) (lC ⟨[(5, .own 22)], [(0,(.lst .u32)),(1,(.lst .u32)),(6, .i64)], [(22, .arr 172 .u32)], []⟩ ⟨[(5, .own 22)], [], [(22, .arr 172 .u32)], []⟩ ⟨[], [], [], []⟩ pN n (o1t n) [2] (lC ⟨[(5, .own 22)], [(0,(.lst .u32)),(1,(.lst .u32)),(6, .i64),(7, .u64),(8, .i64)], [(22, .arr 172 .u32)], []⟩ ⟨[(5, .own 22)], [(0,(.lst .u32)),(1,(.lst .u32)),(6, .i64),(7, .u64)], [(22, .arr 172 .u32)], []⟩ ⟨[], [], [], []⟩ pN n (q1v n) [] lN lN) lN)
omit [UDef] [UTabs]in
theorem a2n(n:Nat):Contract Tryz.prog 123 h2d (q30z n):=
 ctD Tryz.func123 27 TT [(999999999,⟨[1], [], [],false⟩),(149,⟨[0], [], [],false⟩)] [.tmp 6] pN (oC (b2n n) (oC (u0g) (oN))) [] (.none rfl) (by kernel_rfl) lN
omit [UDef] [UTabs]in
theorem z1s(n:Nat):Contract Tryz.prog 77 g2d (q28z n):=
 ctD Tryz.func77 124 TT [(121,⟨[0,1,2], [], [],false⟩),(122,⟨[0,1,2], [], [],false⟩),(123,⟨[0,1,2], [], [],false⟩),(124,⟨[0], [], [],false⟩),(125,⟨[0], [], [],false⟩),(120,⟨[], [], [3],false⟩)] [.cell 6 42, .tmp 7] pN (oC (b2r n) (oC (b2u n) (oC (x1p n) (oC (a2v) (oC (x1s n) (oC (a2n n) (oN))))))) [] (.none rfl) (by kernel_rfl) lN
def h2h:FnT:=⟨1,⟨[], [(0, .val)], [], []⟩, [.v .bool], []⟩
omit [UDef]in
theorem a2x(n:Nat):Contract Tryz.prog 78 h2h (q50z n):=
 ctN Tryz.func78 6 TT [(119,⟨[], [], [],true⟩)] [.tmp 2] pN (oC (t0d n) (oN)) [] lN
def m1b:FnT:=⟨2,⟨[], [(0, .val),(1, .val)], [], []⟩, [.v .val], []⟩
def c2y:FnT:=⟨1,⟨[], [(0, .i64)], [], []⟩, [.v .val], []⟩
omit [UDef] [UTabs]in
theorem z0r:Contract Tryz.prog 81 c2y (q51z):=
 ctN Tryz.func81 8 TT [] [.cell 2 42] pN (oN) [] lN
omit [UDef] [UTabs]in
theorem t1z(self_q45z:Ev.Val×Ev.Val×Unit→Option Y5)(h_q45z:Contract Tryz.prog 79 m1b self_q45z)(n:Nat):Contract Tryz.prog 79 m1b (m1u self_q45z n):=
 ctD Tryz.func79 68 TT [(118,⟨[], [], [],true⟩)] [.cell 4 42] pN (oC (z0r) (oC (h_q45z) (oC (p1x n) (oN)))) [0] (.none rfl) (by kernel_rfl) (lC ⟨[(2, .ptr 2 0),(3, .ptr 3 0),(4, .ptr 4 0)], [(5, .bool),(35, .i64),(36, .i64)], [(2, .box [.d .val]),(3, .box [.d .val]),(4, .box [.d .val])], []⟩ ⟨[(4, .ptr 4 0)], [(5, .bool)], [(4, .box [.d .val])], []⟩ ⟨[(4, .ptr 4 0)], [], [(4, .box [.d .val])], []⟩ pN n (l0h self_q45z n) [] lN lN)
omit [UDef] [UTabs]in
theorem m1h: ∀n,Contract Tryz.prog 79 m1b (q45z n)
 | 0=>fun _ _ h=>by cases h
 | n+1=>t1z _ (m1h n) n
def c2c:FnT:=⟨2,⟨[], [(0, .val),(1, .val)], [], []⟩, [.v .val], []⟩
omit [UDef] [UTabs]in
theorem a2j(n:Nat):Contract Tryz.prog 80 c2c (q42z n):=
 ctN Tryz.func80 27 TT [(126,⟨[], [], [],true⟩)] [.cell 4 42] pN (oC (z0r) (oC (a1u n) (oN))) [] lN
def d2k:FnT:=⟨1,⟨[], [(0, .val)], [], []⟩, [.v .i64], []⟩
omit [UDef] [UTabs]in
theorem j1w:Contract Tryz.prog 37 d2k (q52z):=
 ctN Tryz.func37 8 TT [] [.tmp 2] pN (oN) [] lN
omit [UDef]in
theorem t1a(self_q24z:Ev.Graph×Y9×Ev.Term×Unit→Option Y5)(h_q24z:Contract Tryz.prog 38 n1e self_q24z)(n:Nat):Contract Tryz.prog 38 n1e (y0l self_q24z n):=
 ctD Tryz.func38 324 TT [(78,⟨[], [], [],true⟩),(37,⟨[], [], [],true⟩)] [.cell 6 42] pN (oC (l1x n) (oC (b2f n) (oC (z1j n) (oC (h_q24z) (oC (z1s n) (oC (a2x n) (oC (m1h n) (oC (a2j n) (oC (j1w) (oC (z0r) (oN))))))))))) [0,3,5,7] (.none rfl) (by kernel_rfl) (lC ⟨[(3, .ptr 3 0),(5, .ptr 5 0),(6, .ptr 6 0),(10, .own 10)], [(1,(.map .str .i64)),(73,(.lst .term)),(74, .i64),(75, .i64)], [(3, .box [.d .graph]),(5, .box [.d .term]),(6, .box [.d .val]),(10, .arr 42 .val)], []⟩ ⟨[(3, .ptr 3 0),(5, .ptr 5 0),(6, .ptr 6 0),(10, .own 10)], [], [(3, .box [.d .graph]),(5, .box [.d .term]),(6, .box [.d .val]),(10, .arr 42 .val)], []⟩ ⟨[], [], [], []⟩ ⟨[], [(10,10,42,4)], []⟩ n (a1g self_q24z n) [] lN (lC ⟨[(6, .ptr 6 0)], [(10,(.lst .val)),(13,(.lst .i64)),(14,(.lst .i64)),(17, .i64),(220,(.lst .val)),(221, .i64),(222, .i64)], [(6, .box [.d .val])], []⟩ ⟨[(6, .ptr 6 0)], [(14,(.lst .i64)),(17, .i64)], [(6, .box [.d .val])], []⟩ ⟨[], [], [], []⟩ ⟨[87,88], [], []⟩ n (p0o self_q24z n) [] lN (lC ⟨[(6, .ptr 6 0),(254, .ptr 254 0)], [(20, .i64)], [(6, .box [.d .val]),(254, .it)], []⟩ ⟨[(6, .ptr 6 0)], [(20, .i64)], [(6, .box [.d .val])], []⟩ ⟨[], [], [], []⟩ pN n (g0p self_q24z n) [] lN (lC ⟨[(6, .ptr 6 0)], [(288,(.lst .val)),(289, .i64),(290, .i64)], [(6, .box [.d .val])], []⟩ ⟨[(6, .ptr 6 0)], [], [(6, .box [.d .val])], []⟩ ⟨[(6, .ptr 6 0)], [], [(6, .box [.d .val])], []⟩ ⟨[10], [], []⟩ n (p0q self_q24z n) [] lN lN))))
omit [UDef]in
theorem k1o: ∀n,Contract Tryz.prog 38 n1e (q24z n)
 | 0=>fun _ _ h=>by cases h
 | n+1=>t1a _ (k1o n) n
omit [UDef]in
theorem x1y(n:Nat):Contract Tryz.prog 11 c2p (q59z n):=
 ctD Tryz.func11 290 TT [(999999999,⟨[1], [], [],false⟩),(20,⟨[1000], [], [],false⟩),(35,⟨[], [], [],true⟩),(37,⟨[], [], [],true⟩)] [.tmp 4, .tmp 5] pN (oC (x1z n) (oC (v0e n) (oC (z1m n) (oC (y1k n) (oC (k1o n) (oC (j1w) (oC (g1d) (oN)))))))) [0,2,12] (.none rfl) (by kernel_rfl) (lC ⟨[(2, .ptr 2 0),(3, .ptr 3 0),(7, .own 7)], [(6, .i64),(37,(.lst .arrow)),(38, .i64),(39, .i64)], [(2, .box [.d .query]),(3, .box [.d .graph]),(7, .arr 90 (.map .pair .bool))], []⟩ ⟨[(2, .ptr 2 0),(3, .ptr 3 0),(7, .own 7)], [(6, .i64)], [(2, .box [.d .query]),(3, .box [.d .graph]),(7, .arr 90 (.map .pair .bool))], []⟩ ⟨[], [], [], []⟩ ⟨[], [(7,7,90,1)], []⟩ n (a1v n) [] lN (lC ⟨[(2, .ptr 2 0),(3, .ptr 3 0)], [(6, .i64),(7,(.lst (.map .pair .bool))),(10,(.lst (.lst .i64))),(57, .i64),(58, .i64)], [(2, .box [.d .query]),(3, .box [.d .graph])], []⟩ ⟨[(2, .ptr 2 0),(3, .ptr 3 0)], [(6, .i64),(10,(.lst (.lst .i64)))], [(2, .box [.d .query]),(3, .box [.d .graph])], []⟩ ⟨[], [], [], []⟩ ⟨[12,7,56], [], []⟩ n (h0n n) [4] (lC ⟨[(2, .ptr 2 0),(3, .ptr 3 0),(12, .own 12)], [(6, .i64),(7,(.lst (.map .pair .bool))),(11, .i64),(57, .i64),(58, .i64),(61,(.lst (.lst .i64))),(62, .i64),(63, .i64)], [(2, .box [.d .query]),(3, .box [.d .graph]),(12, .arr 37 (.lst .i64))], []⟩ ⟨[(2, .ptr 2 0),(3, .ptr 3 0),(12, .own 12)], [(6, .i64),(7,(.lst (.map .pair .bool))),(57, .i64),(58, .i64)], [(2, .box [.d .query]),(3, .box [.d .graph]),(12, .arr 37 (.lst .i64))], []⟩ ⟨[], [], [], []⟩ ⟨[], [(12,12,37,1)], []⟩ n (l0y n) [6] (lC ⟨[(2, .ptr 2 0),(3, .ptr 3 0),(12, .own 12)], [(6, .i64),(7,(.lst (.map .pair .bool))),(11, .i64),(14,(.lst .i64)),(57, .i64),(58, .i64),(61,(.lst (.lst .i64))),(62, .i64),(63, .i64),(68,(.lst .node)),(69, .i64),(70, .i64)], [(2, .box [.d .query]),(3, .box [.d .graph]),(12, .arr 37 (.lst .i64))], []⟩ ⟨[(2, .ptr 2 0),(3, .ptr 3 0),(12, .own 12)], [(6, .i64),(7,(.lst (.map .pair .bool))),(11, .i64),(57, .i64),(58, .i64),(61,(.lst (.lst .i64))),(62, .i64),(63, .i64)], [(2, .box [.d .query]),(3, .box [.d .graph]),(12, .arr 37 (.lst .i64))], []⟩ ⟨[], [], [], []⟩ ⟨[], [(12,12,37,1)], []⟩ n (l0o n) [8,10] (lC ⟨[(2, .ptr 2 0),(3, .ptr 3 0),(12, .own 12),(16, .ptr 16 0)], [(6, .i64),(7,(.lst (.map .pair .bool))),(11, .i64),(14,(.lst .i64)),(17, .bool),(57, .i64),(58, .i64),(61,(.lst (.lst .i64))),(62, .i64),(63, .i64),(68,(.lst .node)),(69, .i64),(70, .i64),(93, .i64),(94, .i64)], [(2, .box [.d .query]),(3, .box [.d .graph]),(12, .arr 37 (.lst .i64)),(16, .box [.d .node])], []⟩ ⟨[(2, .ptr 2 0),(3, .ptr 3 0),(12, .own 12),(16, .ptr 16 0)], [(6, .i64),(7,(.lst (.map .pair .bool))),(11, .i64),(14,(.lst .i64)),(17, .bool),(57, .i64),(58, .i64),(61,(.lst (.lst .i64))),(62, .i64),(63, .i64),(68,(.lst .node)),(69, .i64),(70, .i64)], [(2, .box [.d .query]),(3, .box [.d .graph]),(12, .arr 37 (.lst .i64)),(16, .box [.d .node])], []⟩ ⟨[], [], [], []⟩ pN n (g0t n) [] lN (lC ⟨[(2, .ptr 2 0),(3, .ptr 3 0),(12, .own 12),(16, .ptr 16 0),(19, .ptr 19 0)], [(6, .i64),(7,(.lst (.map .pair .bool))),(11, .i64),(14,(.lst .i64)),(20, .i64),(21, .i64),(57, .i64),(58, .i64),(61,(.lst (.lst .i64))),(62, .i64),(63, .i64),(68,(.lst .node)),(69, .i64),(70, .i64),(182,(.lst .edg)),(183, .i64),(184, .i64)], [(2, .box [.d .query]),(3, .box [.d .graph]),(12, .arr 37 (.lst .i64)),(16, .box [.d .node]),(19, .box [.d .arrow])], []⟩ ⟨[(2, .ptr 2 0),(3, .ptr 3 0),(12, .own 12)], [(6, .i64),(7,(.lst (.map .pair .bool))),(11, .i64),(14,(.lst .i64)),(57, .i64),(58, .i64),(61,(.lst (.lst .i64))),(62, .i64),(63, .i64),(68,(.lst .node)),(69, .i64),(70, .i64)], [(2, .box [.d .query]),(3, .box [.d .graph]),(12, .arr 37 (.lst .i64))], []⟩ ⟨[], [], [], []⟩ ⟨[], [(12,12,37,1)], []⟩ n (e0e n) [] lN lN)) lN) lN) (lC ⟨[(2, .ptr 2 0),(3, .ptr 3 0),(24, .own 24)], [(6, .i64),(226,(.lst (.lst .i64))),(227, .i64),(228, .i64)], [(2, .box [.d .query]),(3, .box [.d .graph]),(24, .arr 37 (.lst .i64))], []⟩ ⟨[(24, .own 24)], [], [(24, .arr 37 (.lst .i64))], []⟩ ⟨[], [], [], []⟩ ⟨[], [(24,24,37,1)], []⟩ n (f0n n) [14,16] (lC ⟨[(2, .ptr 2 0),(3, .ptr 3 0),(24, .own 24),(27, .own 235)], [(6, .i64),(226,(.lst (.lst .i64))),(227, .i64),(228, .i64),(236,(.lst .i64)),(237, .i64),(238, .i64)], [(2, .box [.d .query]),(3, .box [.d .graph]),(24, .arr 37 (.lst .i64)),(235, .arr 3 .i64)], []⟩ ⟨[(2, .ptr 2 0),(3, .ptr 3 0),(24, .own 24),(27, .own 235)], [(6, .i64),(226,(.lst (.lst .i64))),(227, .i64),(228, .i64)], [(2, .box [.d .query]),(3, .box [.d .graph]),(24, .arr 37 (.lst .i64)),(235, .arr 3 .i64)], []⟩ ⟨[], [], [], []⟩ pN n (u0n n) [] lN (lC ⟨[(2, .ptr 2 0),(3, .ptr 3 0),(24, .own 24)], [(6, .i64),(27,(.lst .i64)),(30, .bool),(226,(.lst (.lst .i64))),(227, .i64),(228, .i64),(260,(.lst .term)),(261, .i64),(262, .i64)], [(2, .box [.d .query]),(3, .box [.d .graph]),(24, .arr 37 (.lst .i64))], []⟩ ⟨[(2, .ptr 2 0),(3, .ptr 3 0),(24, .own 24)], [(6, .i64),(27,(.lst .i64)),(30, .bool),(226,(.lst (.lst .i64))),(227, .i64),(228, .i64)], [(2, .box [.d .query]),(3, .box [.d .graph]),(24, .arr 37 (.lst .i64))], []⟩ ⟨[], [], [], []⟩ ⟨[235], [], []⟩ n (n0m n) [] lN lN)) lN)))
omit [UDef]in
theorem b2o(n:Nat):Contract Tryz.prog 4 d2o (q27z n):=
 ctN Tryz.func4 58 TT [(10,⟨[], [], [],true⟩),(6,⟨[], [], [],true⟩),(12,⟨[], [], [],true⟩)] [.tmp 4] pN (oC (m0g n) (oC (y1v n) (oC (y1r n) (oC (x1y n) (oC (w1i n) (oN)))))) [] lN
end Go.Proofs.YtcloicgnanjbcaaGreatDoor

import Derived.Test.YtnaeiccibhdknaaGreatDoorSBase
set_option linter.unusedSimpArgs false
set_option linter.unusedVariables false
noncomputable section
namespace Go.Proofs.YtnaeiccibhdknaaGreatDoor
open Go Esp Ev Pure
set_option maxRecDepth 100000
set_option maxHeartbeats 1000000
theorem y1x(args:Array Value)(w:World):(callFunc 87 args).run Tryz.prog w=.ok (.enter 87 args) w/\CallsD Tryz.prog 87 args .returning w λe u w' =>u=.returning/\(∃v,e=.returned v)/\w' =w:=
 y0i (fn:=Tryz.f87) (by kernel_rfl) rfl (by kernel_rfl) (by kernel_rfl) (by kernel_rfl) (by kernel_rfl) args w
def okds:List FuncId:=[87]
theorem n2d:∀g∈okds,∀(args:Array Value) (w:World),(callFunc g args).run Tryz.prog w=.ok (.enter g args) w/\CallsD Tryz.prog g args .returning w λe u w' =>u=.returning/\(∃v,e=.returned v)/\w' =w:=by
 intro g hg args w;simp only[okds,r2s,List.not_mem_nil,or_false]at hg;rcases hg with rfl
 ·exact y1x args w
abbrev aT:ArgM:=⟨[],[],[],true⟩
abbrev a1:ArgM:=⟨[1],[],[],false⟩
abbrev a0:ArgM:=⟨[0],[],[],false⟩
variable [Tabs]
class UDef:Prop where
 ok:∀g∈([87]:List Nat),g∈Tabs.okd
variable [QuietD Tryz.prog]
def TT:List (TypeId×Ty):=[(2,.i64),(3,.i64),(4,.bool),(5,.u8),(6,.u8),(9,.str),(10,.str),(11,.str),(12,.u64),(21,.i32),(22,(.lst .dot)),(23,(.lst .arrow)),(24,(.lst .term)),(25,(.lst .item)),(27,.query),(28,(.lst .node)),(29,(.lst .edg)),(31,.graph),(32,(.lst (.lst .i64))),(33,.i64),(37,(.lst .val)),(39,.val),(42,.term),(44,.item),(45,(.lst .cnt)),(46,(.lst .cnt)),(50,(.lst .val)),(52,.cnt),(62,(.lst .i64)),(71,(.map .str .i64)),(73,.envr),(88,.dot),(91,.arrow),(92,(.map .str .bool)),(97,(.lst .str)),(98,(.lst .prp)),(100,.node),(105,.edg),(107,(.lst (.map .pair .bool))),(110,(.map .pair .bool)),(115,.u64),(121,(.map .str (.lst .cnt))),(129,(.two (.lst .cnt))),(136,(.lst .i64)),(138,.prp),(143,(.map .i64 (.lst .i64))),(145,.pair),(146,.pair),(151,.i64),(158,.u32),(160,.u64),(173,(.lst .u8)),(186,.u64),(205,(.lst .i32)),(245,.i64),(280,.u8),(281,.u8),(283,.i32),(284,.i32)]
def n2p:FnT:=⟨2,⟨[],[(0,.query),(1,.graph)],[],[]⟩,[.v .bool],[]⟩
def f1k:FnT:=⟨2,⟨[],[(0,.query),(1,.graph)],[],[]⟩,[.v (.lst (.lst .i64)),.v .i64],[]⟩
def d2j:FnT:=⟨1,⟨[],[(0,.query)],[],[]⟩,[.v .i64],[]⟩
def e1f:FnT:=⟨1,⟨[],[(0,.str)],[],[]⟩,[.v .bool],[]⟩
def j2d:FnT:=⟨1,⟨[],[(0,.str)],[],[]⟩,[.v .bool],[]⟩
theorem h0n(n:Nat):Contract Tryz.prog 38 j2d (j0a n):=
 ctN Tryz.func38 54 TT [] [.tmp 2] pN (oN) [0] (lC ⟨[],[(0,.str),(14,.i64),(15,.i64)],[],[]⟩ ⟨[],[],[],[]⟩ ⟨[],[(2,.bool)],[],[]⟩ pN n (i1o n) [] lN lN)
def n2o:FnT:=⟨1,⟨[],[(0,.str)],[],[]⟩,[.v .bool],[]⟩
def m2y:FnT:=⟨2,⟨[],[(0,(.lst .str)),(1,.str)],[],[]⟩,[.v .bool],[]⟩
def m2i:FnT:=⟨2,⟨[],[(0,(.lst .str)),(1,.str)],[],[]⟩,[.v .i64],[]⟩
theorem k2i(n:Nat):Contract Tryz.prog 69 m2i (q27z n):=
 ctN Tryz.func69 19 TT [] [.tmp 4] pN (oN) [0] (lC ⟨[],[(0,(.lst .str)),(1,.str),(7,.i64),(8,.i64)],[],[]⟩ ⟨[],[],[],[]⟩ ⟨[],[(4,.i64)],[],[]⟩ pN n (t1w n) [] lN lN)
theorem h0m(n:Nat):Contract Tryz.prog 41 m2y (q26z n):=
 ctN Tryz.func41 9 TT [(69,aT)] [.tmp 4] pN (oC (k2i n) (oN)) [] lN
theorem r1q(n:Nat):Contract Tryz.prog 67 n2o (q82z n):=
 ctN Tryz.func67 6 TT [(41,aT)] [.tmp 2] pN (oC (h0m n) (oN)) [] lN
theorem p0n(n:Nat):Contract Tryz.prog 37 e1f (f0u n):=
 ctN Tryz.func37 10 TT [(38,aT),(67,aT)] [.tmp 2] pN (oC (h0n n) (oC (r1q n) (oN))) [] lN
def l2u:FnT:=⟨1,⟨[],[(0,.query)],[],[]⟩,[.v (.map .str .bool),.v .i64],[]⟩
theorem i2j(n:Nat):Contract Tryz.prog 39 l2u (q99z n):=
 ctN Tryz.func39 49 TT [] [.tmp 2,.tmp 3] pN (oN) [0,2] (lC ⟨[(1,.ptr 1 0),(4,.mpr 11)],[(13,(.lst .dot)),(14,.i64),(15,.i64)],[(1,.box [.d .query]),(11,.mp 92 .str .bool false)],[]⟩ ⟨[(1,.ptr 1 0),(4,.mpr 11)],[],[(1,.box [.d .query]),(11,.mp 92 .str .bool false)],[]⟩ ⟨[],[],[],[]⟩ pN n (g1x n) [] lN (lC ⟨[(4,.mpr 11)],[(27,(.lst .arrow)),(28,.i64),(29,.i64)],[(11,.mp 92 .str .bool false)],[]⟩ ⟨[(4,.mpr 11)],[],[(11,.mp 92 .str .bool false)],[]⟩ ⟨[],[(2,(.map .str .bool)),(3,.i64)],[],[]⟩ pN n (h1r n) [] lN lN))
def f2t:FnT:=⟨2,⟨[],[(0,.term),(1,(.map .str .bool))],[],[]⟩,[.v .i64],[]⟩
def d1k:FnT:=⟨3,⟨[],[(0,.term),(1,(.map .str .bool)),(2,.i64)],[],[]⟩,[.v .i64],[]⟩
def j2v:FnT:=⟨1,⟨[],[(0,.val)],[],[]⟩,[.v .i64],[]⟩
def e1v:FnT:=⟨2,⟨[],[(0,.val),(1,.i64)],[],[]⟩,[.v .i64],[]⟩
theorem q1u [UTabs] (a6:Val×Int×Unit->Option Y5)(h_q105z:Contract Tryz.prog 103 e1v a6)(n:Nat):Contract Tryz.prog 103 e1v (g1l a6 n):=
 ctN Tryz.func103 114 TT [(136,aT),(103,aT)] [.tmp 4] pN (oC (t1t) (oC (h_q105z) (oN))) [1] (lC ⟨[(2,.ptr 2 0)],[(1,.i64),(90,(.lst .val)),(91,.i64),(92,.i64)],[(2,.box [.d .val])],[]⟩ ⟨[(2,.ptr 2 0)],[],[(2,.box [.d .val])],[]⟩ ⟨[],[(4,.i64)],[],[]⟩ pN n (m0n a6 n) [] lN lN)
theorem l1h [UTabs]:∀n,Contract Tryz.prog 103 e1v (m1r n)
 | 0=>λ_ _ h=>by cases h
 |n+1=>q1u _ (l1h n) n
theorem p0x [UTabs] (n:Nat):Contract Tryz.prog 70 j2v (j0k n):=
 ctN Tryz.func70 5 TT [(103,aT)] [.tmp 2] pN (oC (l1h n) (oN)) [] lN
def f2c:FnT:=⟨1,⟨[],[(0,.str)],[],[]⟩,[.v .i64,.v .bool],[]⟩
theorem y1m:Contract Tryz.prog 102 f2c (a2u):=
 ctN Tryz.func102 25 TT [] [.tmp 2,.tmp 3] pN (oN) [] lN
theorem t1y [UTabs] (aL:Term×Y10×Int×Unit->Option Y5)(h_q116z:Contract Tryz.prog 68 d1k aL)(n:Nat):Contract Tryz.prog 68 d1k (h1i aL n):=
 ctN Tryz.func68 196 TT [(70,aT),(37,aT),(38,aT),(68,aT),(102,aT)] [.tmp 6] pN (oC (p0x n) (oC (p0n n) (oC (h0n n) (oC (h_q116z) (oC (y1m) (oN)))))) [1] (lC ⟨[(3,.ptr 3 0)],[(1,(.map .str .bool)),(2,.i64),(147,(.lst .term)),(148,.i64),(149,.i64)],[(3,.box [.d .term])],[]⟩ ⟨[(3,.ptr 3 0)],[(1,(.map .str .bool))],[(3,.box [.d .term])],[]⟩ ⟨[],[(6,.i64)],[],[]⟩ pN n (y0y aL n) [] lN lN)
theorem i1k [UTabs]:∀n,Contract Tryz.prog 68 d1k (o1l n)
 | 0=>λ_ _ h=>by cases h
 |n+1=>t1y _ (i1k n) n
theorem a2o [UTabs] (n:Nat):Contract Tryz.prog 40 f2t (p1r n):=
 ctN Tryz.func40 8 TT [(68,aT)] [.tmp 4] pN (oC (i1k n) (oN)) [] lN
theorem e1x [UTabs] (n:Nat):Contract Tryz.prog 12 d2j (q96z n):=
 ctN Tryz.func12 168 TT [(37,aT),(38,aT),(40,aT),(41,aT)] [.tmp 2] pN (oC (p0n n) (oC (h0n n) (oC (i2j n) (oC (a2o n) (oC (h0m n) (oN)))))) [0,2,4,6] (lC ⟨[(1,.ptr 1 0)],[(53,(.lst .dot)),(54,.i64),(55,.i64)],[(1,.box [.d .query])],[]⟩ ⟨[(1,.ptr 1 0)],[],[(1,.box [.d .query])],[]⟩ ⟨[],[(2,.i64)],[],[]⟩ pN n (g1e n) [] lN (lC ⟨[(1,.ptr 1 0)],[(81,(.lst .arrow)),(82,.i64),(83,.i64)],[(1,.box [.d .query])],[]⟩ ⟨[(1,.ptr 1 0)],[],[(1,.box [.d .query])],[]⟩ ⟨[],[(2,.i64)],[],[]⟩ pN n (g1o n) [] lN (lC ⟨[(1,.ptr 1 0)],[(7,(.map .str .bool)),(121,(.lst .term)),(122,.i64),(123,.i64)],[(1,.box [.d .query])],[]⟩ ⟨[(1,.ptr 1 0)],[(7,(.map .str .bool))],[(1,.box [.d .query])],[]⟩ ⟨[],[(2,.i64)],[],[]⟩ pN n (f1v n) [] lN (lC ⟨[(12,.mpr 134)],[(7,(.map .str .bool)),(136,(.lst .item)),(137,.i64),(138,.i64)],[(134,.mp 92 .str .bool false)],[]⟩ ⟨[],[],[],[]⟩ ⟨[],[(2,.i64)],[],[]⟩ pN n (h1m n) [] lN lN))))
def k2q:FnT:=⟨1,⟨[],[(0,.graph)],[],[]⟩,[.v .i64],[]⟩
def l2f:FnT:=⟨1,⟨[],[(0,(.lst .str))],[],[]⟩,[.v .i64],[]⟩
theorem e2v(n:Nat):Contract Tryz.prog 43 l2f (q87z n):=
 ctN Tryz.func43 32 TT [(38,aT)] [.tmp 2] pN (oC (h0n n) (oN)) [0] (lC ⟨[],[(0,(.lst .str)),(8,(.lst .str)),(9,.i64),(10,.i64)],[],[]⟩ ⟨[],[],[],[]⟩ ⟨[],[(2,.i64)],[],[]⟩ pN n (w1w n) [] lN lN)
def k2s:FnT:=⟨1,⟨[],[(0,(.lst .prp))],[],[]⟩,[.v .i64],[]⟩
theorem j2a [UTabs] (n:Nat):Contract Tryz.prog 44 k2s (q94z n):=
 ctD Tryz.func44 48 TT [(38,aT),(70,aT)] [.tmp 2] pN (oC (h0n n) (oC (p0x n) (oN))) [0] (.none rfl) (by kernel_rfl) (lC ⟨[],[(0,(.lst .prp)),(9,(.lst .prp)),(10,.i64),(11,.i64)],[],[]⟩ ⟨[],[],[],[]⟩ ⟨[],[(2,.i64)],[],[]⟩ pN n (o1p n) [] lN lN)
def o2z:FnT:=⟨1,⟨[],[(0,(.lst .i64))],[],[]⟩,[.v .i64],[]⟩
theorem i2z(n:Nat):Contract Tryz.prog 42 o2z (q62z n):=
 ctN Tryz.func42 18 TT [] [.tmp 2] pN (oN) [0] (lC ⟨[],[(3,.i64),(6,(.lst .i64)),(7,.i64),(8,.i64)],[],[]⟩ ⟨[],[(3,.i64)],[],[]⟩ ⟨[],[(2,.i64)],[],[]⟩ pN n (k0u n) [] lN lN)
def f2x:FnT:=⟨2,⟨[],[(0,.graph),(1,.i64)],[],[]⟩,[.v .i64],[]⟩
def r2c:FnT:=⟨3,⟨[(2,.fn 72)],[(0,(.lst .node)),(1,.i64)],[],[]⟩,[.v .i64,.v .bool],[]⟩
def m2r:FnT:=⟨2,⟨[],[(0,.node),(1,.i64)],[],[]⟩,[.v .i64],[]⟩
def n2b:FnT:=⟨2,⟨[],[(0,.i64),(1,.i64)],[],[]⟩,[.v .i64],[]⟩
def l2a:FnT:=⟨1,⟨[],[(0,.i64)],[],[]⟩,[.v .bool],[]⟩
theorem j2p:Contract Tryz.prog 65 l2a (q79z):=
 ctN Tryz.func65 6 TT [] [.tmp 2] pN (oN) [] lN
theorem d1n:Contract Tryz.prog 33 n2b (q65z):=
 ctN Tryz.func33 20 TT [(65,aT)] [.tmp 4] pN (oC (j2p) (oN)) [] lN
theorem j2q:Contract Tryz.prog 72 m2r (q86z):=
 ctN Tryz.func72 9 TT [(33,aT)] [.tmp 4] pN (oC (d1n) (oN)) [] lN
theorem l2g(n:Nat):Contract Tryz.prog 71 r2c (q4z n):=
 ctN Tryz.func71 49 TT [(72,aT)] [.tmp 6,.tmp 7] pN (oC (j2q) (oN)) [0] (lC ⟨[(2,.fn 72)],[(0,(.lst .node)),(1,.i64),(8,.i64),(9,.i64),(10,.i64)],[],[]⟩ ⟨[(2,.fn 72)],[(0,(.lst .node)),(1,.i64),(8,.i64),(9,.i64)],[],[]⟩ ⟨[],[],[],[]⟩ pN n (s1w n) [] lN lN)
theorem j1l(n:Nat):Contract Tryz.prog 45 f2x (t0p n):=
 ctN Tryz.func45 17 TT [(71,aT)] [.tmp 4] pN (oC (l2g n) (oN)) [] lN
theorem x1k [UTabs] (n:Nat):Contract Tryz.prog 13 k2q (q93z n):=
 ctD Tryz.func13 103 TT [(43,aT),(44,aT),(42,aT),(45,aT),(38,aT)] [.tmp 2] pN (oC (e2v n) (oC (j2a n) (oC (i2z n) (oC (j1l n) (oC (h0n n) (oN)))))) [0,2] (.none rfl) (by kernel_rfl) (lC ⟨[(1,.ptr 1 0)],[(3,.i64),(22,(.lst .node)),(23,.i64),(24,.i64)],[(1,.box [.d .graph])],[]⟩ ⟨[(1,.ptr 1 0)],[(3,.i64)],[(1,.box [.d .graph])],[]⟩ ⟨[],[(2,.i64)],[],[]⟩ pN n (q1i n) [] lN (lC ⟨[(1,.ptr 1 0)],[(3,.i64),(7,.i64),(48,(.lst .edg)),(49,.i64),(50,.i64)],[(1,.box [.d .graph])],[]⟩ ⟨[(1,.ptr 1 0)],[(3,.i64),(7,.i64)],[(1,.box [.d .graph])],[]⟩ ⟨[],[(2,.i64)],[],[]⟩ pN n (u1i n) [] lN lN))
def h1w:FnT:=⟨2,⟨[],[(0,.graph),(1,.str)],[],[]⟩,[.v (.map .pair .bool)],[]⟩
def l2d:FnT:=⟨1,⟨[],[(0,(.lst .i64))],[],[]⟩,[.ref (.own 5)],[(5,.arr 3 .i64)]⟩
theorem u1p:Contract Tryz.prog 17 l2d (q29z):=
 ctN Tryz.func17 8 TT [] [.tmp 2] ⟨[],[(2,5,3,1)],[]⟩ (oN) [] lN
theorem c1d(n:Nat):Contract Tryz.prog 46 h1w (g0o n):=
 ctN Tryz.func46 59 TT [(999999999,a1),(17,⟨[],[],[5],false⟩)] [.tmp 4] pN (oC (y1a) (oC (u1p) (oN))) [0] (lC ⟨[(6,.mpr 15)],[(5,(.map .i64 (.lst .i64))),(17,(.lst .node)),(18,.i64),(19,.i64)],[(15,.mp 110 .pair .bool false)],[]⟩ ⟨[(6,.mpr 15)],[],[(15,.mp 110 .pair .bool false)],[]⟩ ⟨[],[],[],[]⟩ pN n (d0b n) [2] (lC ⟨[(6,.mpr 15),(8,.ptr 8 0),(9,.own 27)],[(5,(.map .i64 (.lst .i64))),(17,(.lst .node)),(18,.i64),(19,.i64)],[(8,.box [.d .node]),(15,.mp 110 .pair .bool false),(27,.arr 3 .i64)],[]⟩ ⟨[(6,.mpr 15)],[(5,(.map .i64 (.lst .i64))),(17,(.lst .node)),(18,.i64),(19,.i64)],[(15,.mp 110 .pair .bool false)],[]⟩ ⟨[],[],[],[]⟩ ⟨[],[(9,9,3,1)],[]⟩ n (f0x n) [] lN lN) lN)
def e1o:FnT:=⟨2,⟨[],[(0,.query),(1,.graph)],[],[]⟩,[.ref (.ptr 12 0)],[(12,.box [.d .query,.d .graph,.d (.lst (.map .pair .bool))])]⟩
theorem o0t(n:Nat):Contract Tryz.prog 14 e1o (i0r n):=
 ctN Tryz.func14 38 TT [(999999999,a1)] [.tmp 4] pN (oC (c1d n) (oN)) [0] (lC ⟨[(3,.ptr 3 0),(5,.ptr 12 0)],[(14,(.lst .arrow)),(15,.i64),(16,.i64)],[(3,.box [.d .graph]),(12,.box [.d .query,.d .graph,.ref (.own 300488)]),(300488,.arr 110 (.map .pair .bool))],[]⟩ ⟨[(5,.ptr 12 0)],[],[(12,.box [.d .query,.d .graph,.ref (.own 300488)]),(300488,.arr 110 (.map .pair .bool))],[]⟩ ⟨[],[],[],[]⟩ ⟨[],[],[(12,8,300488,110,1)]⟩ n (j0t n) [] lN lN)
def m2p:FnT:=⟨2,⟨[(0,.ptr 1000000 0),(1,.clo 16 [1000016,1000018])],[],[(1000000,.box [.d .query,.d .graph,.d (.lst (.map .pair .bool))]),(1000016,.box [.ref (.own 1000017)]),(1000017,.arr 62 (.lst .i64)),(1000018,.box [.d .bool])],[]⟩,[],[(1000000,.box [.d .query,.d .graph,.d (.lst (.map .pair .bool))]),(1000016,.box [.ref (.own 1000017)]),(1000017,.arr 62 (.lst .i64)),(1000018,.box [.d .bool])]⟩
def z0r:FnT:=⟨4,⟨[(0,.ptr 1000000 0),(2,.own 2000016),(3,.clo 16 [1000032,1000034])],[(1,.i64)],[(1000000,.box [.d .query,.d .graph,.d (.lst (.map .pair .bool))]),(2000016,.arr 3 .i64),(1000032,.box [.ref (.own 1000033)]),(1000033,.arr 62 (.lst .i64)),(1000034,.box [.d .bool])],[]⟩,[],[(1000000,.box [.d .query,.d .graph,.d (.lst (.map .pair .bool))]),(2000016,.arr 3 .i64),(1000032,.box [.ref (.own 1000033)]),(1000033,.arr 62 (.lst .i64)),(1000034,.box [.d .bool])]⟩
def m2j:FnT:=⟨2,⟨[(0,.ptr 1000000 0),(1,.own 2000016)],[],[(1000000,.box [.d .query,.d .graph,.d (.lst (.map .pair .bool))]),(2000016,.arr 3 .i64)],[]⟩,[.v .envr],[(1000000,.box [.d .query,.d .graph,.d (.lst (.map .pair .bool))]),(2000016,.arr 3 .i64)]⟩
theorem e1y(n:Nat):Contract Tryz.prog 24 m2j (q56z n):=
 ctD Tryz.func24 75 TT [(999999999,a1)] [.cell 4 73] pN (oN) [0,2] (.none rfl) (by kernel_rfl) (lC ⟨[(0,.ptr 1000000 0),(1,.own 2000016),(4,.ptr 4 0),(5,.mpr 10)],[(15,(.lst .dot)),(16,.i64),(17,.i64)],[(4,.box [.d .envr]),(10,.mp 71 .str .i64 false),(1000000,.box [.d .query,.d .graph,.d (.lst (.map .pair .bool))]),(2000016,.arr 3 .i64)],[]⟩ ⟨[(0,.ptr 1000000 0),(1,.own 2000016),(4,.ptr 4 0),(5,.mpr 10)],[],[(4,.box [.d .envr]),(10,.mp 71 .str .i64 false),(1000000,.box [.d .query,.d .graph,.d (.lst (.map .pair .bool))]),(2000016,.arr 3 .i64)],[]⟩ ⟨[],[],[],[]⟩ pN n (e1e n) [] lN (lC ⟨[(0,.ptr 1000000 0),(1,.own 2000016),(4,.ptr 4 0),(5,.mpr 10)],[(44,(.lst .arrow)),(45,.i64),(46,.i64)],[(4,.box [.d .envr]),(10,.mp 71 .str .i64 false),(1000000,.box [.d .query,.d .graph,.d (.lst (.map .pair .bool))]),(2000016,.arr 3 .i64)],[]⟩ ⟨[(0,.ptr 1000000 0),(4,.ptr 4 0),(5,.mpr 10)],[],[(4,.box [.d .envr]),(10,.mp 71 .str .i64 false),(1000000,.box [.d .query,.d .graph,.d (.lst (.map .pair .bool))]),(2000016,.arr 3 .i64)],[]⟩ ⟨[],[],[],[]⟩ pN n (g1m n) [] lN lN))
def n2z:FnT:=⟨2,⟨[],[(0,.envr),(1,(.lst .term))],[],[]⟩,[.v .bool],[]⟩
def t1d:FnT:=⟨2,⟨[],[(0,.envr),(1,.term)],[],[]⟩,[.v .val],[]⟩
def h1l:FnT:=⟨1,⟨[],[(0,.val)],[],[]⟩,[.v .val],[]⟩
theorem s1l(aY:Val×Unit->Option Y6)(h_q119z:Contract Tryz.prog 64 h1l aY)(n:Nat):Contract Tryz.prog 64 h1l (e1h aY n):=
 ctD Tryz.func64 24 TT [] [.cell 2 39] pN (oC (h_q119z) (oN)) [0] (.none rfl) (by kernel_rfl) (lC ⟨[(1,.ptr 1 0),(2,.ptr 2 0)],[(9,(.lst .val)),(10,.i64),(11,.i64)],[(1,.box [.d .i64,.d .i64,.d .str,.ref (.own 300043)]),(2,.box [.d .val]),(300043,.arr 39 .val)],[]⟩ ⟨[(1,.ptr 1 0),(2,.ptr 2 0)],[],[(1,.box [.d .i64,.d .i64,.d .str,.ref (.own 300043)]),(2,.box [.d .val]),(300043,.arr 39 .val)],[]⟩ ⟨[],[],[],[]⟩ ⟨[],[],[(1,3,300043,39,4)]⟩ n (y0z aY n) [] lN lN)
theorem j0w:∀n,Contract Tryz.prog 64 h1l (i0j n)
 | 0=>λ_ _ h=>by cases h
 |n+1=>s1l _ (j0w n) n
def m2v:FnT:=⟨3,⟨[],[(0,.envr),(1,.i64),(2,.str)],[],[]⟩,[.v .val],[]⟩
def g1a:FnT:=⟨2,⟨[],[(0,(.lst .prp)),(1,.str)],[],[]⟩,[.v .val],[]⟩
theorem a1p(n:Nat):Contract Tryz.prog 120 g1a (j0s n):=
 ctN Tryz.func120 22 TT [] [.cell 4 39] pN (oC (j0w n) (oN)) [0] (lC ⟨[(4,.ptr 4 0)],[(1,.str),(7,(.lst .prp)),(8,.i64),(9,.i64)],[(4,.box [.d .val])],[]⟩ ⟨[(4,.ptr 4 0)],[],[(4,.box [.d .val])],[]⟩ ⟨[(4,.ptr 4 0)],[],[(4,.box [.d .val])],[]⟩ pN n (i0y n) [] lN lN)
def k2n:FnT:=⟨2,⟨[],[(0,.graph),(1,.i64)],[],[]⟩,[.v .i64],[]⟩
def r2b:FnT:=⟨3,⟨[(2,.fn 144)],[(0,(.lst .edg)),(1,.i64)],[],[]⟩,[.v .i64,.v .bool],[]⟩
def o2f:FnT:=⟨2,⟨[],[(0,.edg),(1,.i64)],[],[]⟩,[.v .i64],[]⟩
theorem j2n:Contract Tryz.prog 144 o2f (q64z):=
 ctN Tryz.func144 9 TT [(33,aT)] [.tmp 4] pN (oC (d1n) (oN)) [] lN
theorem l2k(n:Nat):Contract Tryz.prog 143 r2b (q3z n):=
 ctN Tryz.func143 49 TT [(144,aT)] [.tmp 6,.tmp 7] pN (oC (j2n) (oN)) [0] (lC ⟨[(2,.fn 144)],[(0,(.lst .edg)),(1,.i64),(8,.i64),(9,.i64),(10,.i64)],[],[]⟩ ⟨[(2,.fn 144)],[(0,(.lst .edg)),(1,.i64),(8,.i64),(9,.i64)],[],[]⟩ ⟨[],[],[],[]⟩ pN n (o1q n) [] lN lN)
theorem v1n(n:Nat):Contract Tryz.prog 121 k2n (q72z n):=
 ctN Tryz.func121 17 TT [(143,aT)] [.tmp 4] pN (oC (l2k n) (oN)) [] lN
theorem e2y(n:Nat):Contract Tryz.prog 91 m2v (q75z n):=
 ctN Tryz.func91 40 TT [(45,aT),(121,aT)] [.cell 6 39] pN (oC (j1l n) (oC (a1p n) (oC (v1n n) (oN)))) [] lN
def n2m:FnT:=⟨3,⟨[],[(0,.envr),(1,.term),(2,(.lst .val))],[],[]⟩,[.v .val],[]⟩
def o2m:FnT:=⟨3,⟨[],[(0,.str),(1,.val),(2,.val)],[],[]⟩,[.v .val,.v .i64],[]⟩
def e1d:FnT:=⟨2,⟨[],[(0,.i64),(1,.i64)],[],[]⟩,[.v .i64,.v .bool],[]⟩
theorem c1g:Contract Tryz.prog 145 e1d (m0c):=
 ctN Tryz.func145 17 TT [] [.tmp 4,.tmp 5] pN (oN) [] lN
def m2d:FnT:=⟨1,⟨[],[(0,.val)],[],[]⟩,[.mix [.d .i64,.d .i64,.d .str,.ref (.own 300043)]],[(300043,.arr 39 .val)]⟩
theorem g2q(n:Nat):Contract Tryz.prog 64 m2d (q76z n):=
 ctD Tryz.func64 24 TT [] [.cell 2 39] pN (oC (j0w n) (oN)) [0] (.none rfl) (by kernel_rfl) (lC ⟨[(1,.ptr 1 0),(2,.ptr 2 0)],[(9,(.lst .val)),(10,.i64),(11,.i64)],[(1,.box [.d .i64,.d .i64,.d .str,.ref (.own 300043)]),(2,.box [.d .val]),(300043,.arr 39 .val)],[]⟩ ⟨[(1,.ptr 1 0),(2,.ptr 2 0)],[],[(1,.box [.d .i64,.d .i64,.d .str,.ref (.own 300043)]),(2,.box [.d .val]),(300043,.arr 39 .val)],[]⟩ ⟨[],[],[],[]⟩ ⟨[],[],[(1,3,300043,39,4)]⟩ n (h1n n) [] lN lN)
def f1w:FnT:=⟨2,⟨[],[(0,.i64),(1,.i64)],[],[]⟩,[.v .i64,.v .bool],[]⟩
theorem b1p:Contract Tryz.prog 146 f1w (m0u):=
 ctN Tryz.func146 17 TT [] [.tmp 4,.tmp 5] pN (oN) [] lN
def d1o:FnT:=⟨2,⟨[],[(0,.i64),(1,.i64)],[],[]⟩,[.v .i64,.v .bool],[]⟩
def h2o:FnT:=⟨1,⟨[],[(0,.i64)],[],[]⟩,[.v .u64],[]⟩
theorem z1v:Contract Tryz.prog 154 h2o (t1g):=
 ctN Tryz.func154 10 TT [] [.tmp 2] pN (oN) [] lN
def l2t:FnT:=⟨2,⟨[],[(0,.u64),(1,.u64)],[],[]⟩,[.v .u64,.v .u64],[]⟩
theorem s1q:Contract Tryz.prog 130 l2t (q67z):=
 ctN Tryz.func130 51 TT [] [.tmp 4,.tmp 5] pN (oN) [] lN
theorem z0w:Contract Tryz.prog 147 d1o (m0t):=
 ctN Tryz.func147 45 TT [(154,aT),(130,aT)] [.tmp 4,.tmp 5] pN (oC (z1v) (oC (s1q) (oN))) [] lN
theorem g2g(n:Nat):Contract Tryz.prog 122 o2m (q88z n):=
 ctD Tryz.func122 111 TT [(1500000064,⟨[4,3],[],[],false⟩),(999999999,a1),(145,aT),(64,⟨[],[],[300043],false⟩),(146,aT),(147,aT)] [.cell 6 39,.tmp 7] pN (oC (c1g) (oC (g2q n) (oC (b1p) (oC (z0w) (oN))))) [] (.none rfl) (by kernel_rfl) lN
def f1x:FnT:=⟨2,⟨[],[(0,.val),(1,.val)],[],[]⟩,[.v .val],[]⟩
def w0n:FnT:=⟨2,⟨[],[(0,.val),(1,.val)],[],[]⟩,[.v .i64],[]⟩
def m2q:FnT:=⟨2,⟨[],[(0,.str),(1,.str)],[],[]⟩,[.v .i64],[]⟩
def m2a:FnT:=⟨1,⟨[],[(0,.str)],[],[]⟩,[.v .bool],[]⟩
theorem h2a:Contract Tryz.prog 66 m2a (q63z):=
 ctN Tryz.func66 6 TT [] [.tmp 2] pN (oN) [] lN
theorem j2b:Contract Tryz.prog 35 m2q (q43z):=
 ctN Tryz.func35 20 TT [(66,aT)] [.tmp 4] pN (oC (h2a) (oN)) [] lN
def q2l:FnT:=⟨3,⟨[(2,.fn 11)],[(0,(.lst .val)),(1,(.lst .val))],[],[]⟩,[.v .i64],[]⟩
theorem p2p(aM:Val×Val×Unit->Option Y5)(h_q104z:Contract Tryz.prog 11 w0n aM)(n:Nat):Contract Tryz.prog 36 q2l (q1z aM n):=
 ctN Tryz.func36 39 TT [(11,aT)] [.tmp 6] pN (oC (h_q104z) (oN)) [0] (lC ⟨[(2,.fn 11)],[(0,(.lst .val)),(1,(.lst .val)),(11,(.lst .val)),(12,.i64),(13,.i64)],[],[]⟩ ⟨[],[(0,(.lst .val)),(1,(.lst .val))],[],[]⟩ ⟨[],[(6,.i64)],[],[]⟩ pN n (x1s aM n) [] lN lN)
def j2o:FnT:=⟨1,⟨[],[(0,(.lst .i64))],[],[]⟩,[.v .i64],[]⟩
theorem z1e(n:Nat):Contract Tryz.prog 34 j2o (c2w n):=
 ctN Tryz.func34 18 TT [] [.tmp 2] pN (oN) [0] (lC ⟨[],[(3,.i64),(6,(.lst .i64)),(7,.i64),(8,.i64)],[],[]⟩ ⟨[],[(3,.i64)],[],[]⟩ ⟨[],[(2,.i64)],[],[]⟩ pN n (y0j n) [] lN lN)
theorem r1e(aM:Val×Val×Unit->Option Y5)(h_q104z:Contract Tryz.prog 11 w0n aM)(n:Nat):Contract Tryz.prog 11 w0n (h1f aM n):=
 ctD Tryz.func11 31 TT [(33,aT),(35,aT),(36,aT),(34,aT)] [.tmp 4] pN (oC (d1n) (oC (j2b) (oC (p2p _ h_q104z n) (oC (z1e n) (oN))))) [] (.none rfl) (by kernel_rfl) lN
theorem l0z:∀n,Contract Tryz.prog 11 w0n (k0i n)
 | 0=>λ_ _ h=>by cases h
 |n+1=>r1e _ (l0z n) n
def i2v:FnT:=⟨1,⟨[],[(0,.bool)],[],[]⟩,[.v .val],[]⟩
theorem k1y:Contract Tryz.prog 148 i2v (n1i):=
 ctN Tryz.func148 8 TT [] [.cell 2 39] pN (oN) [] lN
theorem t1p(aZ:Val×Val×Unit->Option Y6)(h_q121z:Contract Tryz.prog 123 f1x aZ)(n:Nat):Contract Tryz.prog 123 f1x (h1o aZ n):=
 ctD Tryz.func123 68 TT [(11,aT)] [.cell 4 39] pN (oC (l0z n) (oC (k1y) (oC (h_q121z) (oN)))) [0] (.none rfl) (by kernel_rfl) (lC ⟨[(2,.ptr 2 0),(3,.ptr 3 0),(4,.ptr 4 0),(5,.ptr 5 0)],[(41,.i64),(42,.i64)],[(2,.box [.d .val]),(3,.box [.d .val]),(4,.box [.d .val]),(5,.box [.d .val])],[]⟩ ⟨[(4,.ptr 4 0),(5,.ptr 5 0)],[],[(4,.box [.d .val]),(5,.box [.d .val])],[]⟩ ⟨[(4,.ptr 4 0)],[],[(4,.box [.d .val])],[]⟩ pN n (j0x aZ n) [] lN lN)
theorem i1u:∀n,Contract Tryz.prog 123 f1x (v0v n)
 | 0=>λ_ _ h=>by cases h
 |n+1=>t1p _ (i1u n) n
def f2e:FnT:=⟨2,⟨[],[(0,.val),(1,.val)],[],[]⟩,[.v .val],[]⟩
theorem c2c(n:Nat):Contract Tryz.prog 124 f2e (w0h n):=
 ctN Tryz.func124 26 TT [(11,aT)] [.cell 4 39] pN (oC (l0z n) (oC (k1y) (oN))) [] lN
def k2j:FnT:=⟨1,⟨[],[(0,.val)],[],[]⟩,[.v .val],[]⟩
def i2h:FnT:=⟨1,⟨[],[(0,.val)],[],[]⟩,[.v .bool,.v .bool],[]⟩
theorem x0t:Contract Tryz.prog 104 i2h (c1k):=
 ctD Tryz.func104 10 TT [] [.tmp 2,.tmp 3] pN (oN) [] (.none rfl) (by kernel_rfl) lN
def h2u:FnT:=⟨1,⟨[],[(0,.bool)],[],[]⟩,[.v .val],[]⟩
theorem x0a:Contract Tryz.prog 127 h2u (r0d):=
 ctN Tryz.func127 6 TT [] [.cell 2 39] pN (oN) [] lN
theorem c2z:Contract Tryz.prog 125 k2j (i0g):=
 ctN Tryz.func125 15 TT [(104,aT)] [.cell 2 39] pN (oC (x0t) (oC (x0a) (oN))) [] lN
def i2w:FnT:=⟨2,⟨[],[(0,.val),(1,.val)],[],[]⟩,[.v .val],[]⟩
theorem y1o:Contract Tryz.prog 126 i2w (t0k):=
 ctN Tryz.func126 38 TT [(104,aT)] [.cell 4 39] pN (oC (x0t) (oC (x0a) (oN))) [] lN
theorem h2e [UTabs] (n:Nat):Contract Tryz.prog 92 n2m (q81z n):=
 ctD Tryz.func92 219 TT [(70,aT),(121,aT)] [.cell 6 39] pN (oC (g2g n) (oC (p0x n) (oC (i1u n) (oC (c2c n) (oC (c2z) (oC (y1o) (oC (x0a) (oC (v1n n) (oN))))))))) [1,4] (.none rfl) (by kernel_rfl) (lC ⟨[(6,.ptr 6 0),(9,.ptr 9 0)],[(2,(.lst .val)),(114,(.lst .val)),(115,.i64),(116,.i64)],[(6,.box [.d .val]),(9,.box [.d .val])],[]⟩ ⟨[(6,.ptr 6 0),(9,.ptr 9 0)],[],[(6,.box [.d .val]),(9,.box [.d .val])],[]⟩ ⟨[],[],[],[]⟩ pN n (r0a n) [] lN (lC ⟨[(6,.ptr 6 0)],[(175,(.lst .val)),(176,.i64),(177,.i64)],[(6,.box [.d .val])],[]⟩ ⟨[(6,.ptr 6 0)],[],[(6,.box [.d .val])],[]⟩ ⟨[(6,.ptr 6 0)],[],[(6,.box [.d .val])],[]⟩ pN n (r0p n) [] lN lN))
theorem c2t [UTabs] (aO:Envr×Term×Unit->Option Y6)(h_q74z:Contract Tryz.prog 51 t1d aO)(n:Nat):Contract Tryz.prog 51 t1d (b1q aO n):=
 ctD Tryz.func51 55 TT [] [.cell 4 39] pN (oC (j0w n) (oC (e2y n) (oC (h_q74z) (oC (h2e n) (oN))))) [1] (.none rfl) (by kernel_rfl) (lC ⟨[(2,.ptr 2 0),(3,.ptr 3 0),(4,.ptr 4 0),(5,.own 5)],[(38,(.lst .term)),(39,.i64),(40,.i64)],[(2,.box [.d .envr]),(3,.box [.d .term]),(4,.box [.d .val]),(5,.arr 39 .val)],[]⟩ ⟨[(2,.ptr 2 0),(3,.ptr 3 0),(4,.ptr 4 0),(5,.own 5)],[],[(2,.box [.d .envr]),(3,.box [.d .term]),(4,.box [.d .val]),(5,.arr 39 .val)],[]⟩ ⟨[],[],[],[]⟩ ⟨[],[(5,5,39,4)],[]⟩ n (d1m aO n) [] lN lN)
theorem g1h [UTabs]:∀n,Contract Tryz.prog 51 t1d (q74z n)
 | 0=>λ_ _ h=>by cases h
 |n+1=>c2t _ (g1h n) n
theorem x1n [UTabs] (n:Nat):Contract Tryz.prog 74 n2z (q69z n):=
 ctN Tryz.func74 29 TT [(104,aT)] [.tmp 4] pN (oC (g1h n) (oC (x0t) (oN))) [0] (lC ⟨[(2,.ptr 2 0)],[(9,(.lst .term)),(10,.i64),(11,.i64)],[(2,.box [.d .envr])],[]⟩ ⟨[],[],[],[]⟩ ⟨[],[(4,.bool)],[],[]⟩ pN n (h1p n) [] lN lN)
def n2y:FnT:=⟨3,⟨[(0,.own 2000000),(1,.ptr 1000016 0),(2,.ptr 1000032 0)],[],[(2000000,.arr 3 .i64),(1000016,.box [.ref (.own 1000017)]),(1000017,.arr 62 (.lst .i64)),(1000032,.box [.d .bool])],[]⟩,[],[(2000000,.arr 3 .i64),(1000016,.box [.ref (.own 1000017)]),(1000017,.arr 62 (.lst .i64)),(1000032,.box [.d .bool])]⟩
theorem k2l:Contract Tryz.prog 16 n2y (q95z):=
 ctD Tryz.func16 12 TT [(999999999,a1),(17,aT)] [] pN (oC (u1p) (oN)) [] (.none rfl) (by kernel_rfl) lN
def n2u:FnT:=⟨3,⟨[(0,.ptr 1000000 0)],[(1,.i64),(2,.node)],[(1000000,.box [.d .query,.d .graph,.d (.lst (.map .pair .bool))])],[]⟩,[.v .bool],[(1000000,.box [.d .query,.d .graph,.d (.lst (.map .pair .bool))])]⟩
theorem p1e(n:Nat):Contract Tryz.prog 75 n2u (q55z n):=
 ctN Tryz.func75 26 TT [(41,aT)] [.tmp 6] pN (oC (h0m n) (oN)) [] lN
def o2o:FnT:=⟨3,⟨[(0,.ptr 1000000 0),(2,.own 2000016)],[(1,.i64)],[(1000000,.box [.d .query,.d .graph,.d (.lst (.map .pair .bool))]),(2000016,.arr 3 .i64)],[]⟩,[.v .bool],[(1000000,.box [.d .query,.d .graph,.d (.lst (.map .pair .bool))]),(2000016,.arr 3 .i64)]⟩
theorem t1h(n:Nat):Contract Tryz.prog 76 o2o (q44z n):=
 ctD Tryz.func76 55 TT [(999999999,a1)] [.tmp 6] pN (oN) [0] (.none rfl) (by kernel_rfl) (lC ⟨[(0,.ptr 1000000 0),(2,.own 2000016)],[(1,.i64),(8,.i64),(9,.i64)],[(1000000,.box [.d .query,.d .graph,.d (.lst (.map .pair .bool))]),(2000016,.arr 3 .i64)],[]⟩ ⟨[],[],[(1000000,.box [.d .query,.d .graph,.d (.lst (.map .pair .bool))]),(2000016,.arr 3 .i64)],[]⟩ ⟨[],[(6,.bool)],[(1000000,.box [.d .query,.d .graph,.d (.lst (.map .pair .bool))]),(2000016,.arr 3 .i64)],[]⟩ pN n (s0m n) [] lN lN)
def v0t(aD:Int×Y0×Y2×Unit×Y30×Y11×Unit->Option Y14)(n:Nat):Int×Y0×Y2×Unit×Y30×Y11×Unit->Option Y14:=
 λ(s,a,k,o4,b,c,_)=>let l:=((Query.mk a.1.dots a.1.arrows a.1.wher a.1.items a.1.dist),(Graph.mk a.2.1.nodes a.2.1.edges a.2.1.next),a.2.2.1,());
 (bif (s:Int)==(a.1.dots.length:Int)then
 dem2 (
 (q56z n (l,k,())).bind λ(r,h,x,_)=>let ac:=((Query.mk h.1.dots h.1.arrows h.1.wher h.1.items h.1.dist),(Graph.mk h.2.1.nodes h.2.1.edges h.2.1.next),h.2.2.1,());
 (q69z n ((Envr.mk (Graph.mk r.g.nodes r.g.edges r.g.next) r.at_),h.1.wher,())).bind λ(ay,_)=>
 (bif ay then
 (q95z (x,(()),b,(c.1,()),())).bind λ(ad,bd,ae,ai,_)=>some (ac,ad,(()),ae,(ai.1,()),())
 else some (ac,x,(()),b,(c.1,()),()))) (
 dem2 (
 (q56z n (l,k,())).bind λ(m,d,t,_)=>let y:=((Query.mk d.1.dots d.1.arrows d.1.wher d.1.items d.1.dist),(Graph.mk d.2.1.nodes d.2.1.edges d.2.1.next),d.2.2.1,());
 (q69z n ((Envr.mk (Graph.mk m.g.nodes m.g.edges m.g.next) m.at_),d.1.wher,())).bind λ(az,_)=>
 (bif az then
 (q95z (t,(()),b,(c.1,()),())).bind λ(aj,bf,ak,al,_)=>some (y,aj,(()),ak,(al.1,()),())
 else some (y,t,(()),b,(c.1,()),()))) (
 dem2 (
 (q56z n (l,k,())).bind λ(o,e,u,_)=>let z:=((Query.mk e.1.dots e.1.arrows e.1.wher e.1.items e.1.dist),(Graph.mk e.2.1.nodes e.2.1.edges e.2.1.next),e.2.2.1,());
 (q69z n ((Envr.mk (Graph.mk o.g.nodes o.g.edges o.g.next) o.at_),e.1.wher,())).bind λ(ba,_)=>
 (bif ba then
 (q95z (u,(()),b,(c.1,()),())).bind λ(am,bg,an,ao,_)=>some (z,am,(()),an,(ao.1,()),())
 else some (z,u,(()),b,(c.1,()),()))) (
 dem2 (
 (q56z n (l,k,())).bind λ(p,f,v,_)=>let aa:=((Query.mk f.1.dots f.1.arrows f.1.wher f.1.items f.1.dist),(Graph.mk f.2.1.nodes f.2.1.edges f.2.1.next),f.2.2.1,());
 (q69z n ((Envr.mk (Graph.mk p.g.nodes p.g.edges p.g.next) p.at_),f.1.wher,())).bind λ(bb,_)=>
 (bif bb then
 (q95z (v,(()),b,(c.1,()),())).bind λ(ap,bh,aq,ar,_)=>some (aa,ap,(()),aq,(ar.1,()),())
 else some (aa,v,(()),b,(c.1,()),()))) (
 (q56z n (l,k,())).bind λ(q,j,w,_)=>let ab:=((Query.mk j.1.dots j.1.arrows j.1.wher j.1.items j.1.dist),(Graph.mk j.2.1.nodes j.2.1.edges j.2.1.next),j.2.2.1,());
 (q69z n ((Envr.mk (Graph.mk q.g.nodes q.g.edges q.g.next) q.at_),a.1.wher,())).bind λ(bc,_)=>
 (bif bc then
 (q95z (w,(()),b,(c.1,()),())).bind λ(au,bj,av,aw,_)=>some (ab,au,(()),av,(aw.1,()),())
 else some (ab,w,(()),b,(c.1,()),()))))))
 else
 a0a (λax=>l0e aD n ax (λ(i,be,af,ag,ah,_)=>some (((Query.mk i.1.dots i.1.arrows i.1.wher i.1.items i.1.dist),(Graph.mk i.2.1.nodes i.2.1.edges i.2.1.next),i.2.2.1,()),ah,(()),af,(ag.1,()),())) (λ(_)=>none)) (n) (s,(a.1.dots.length:Int),a.2.1.nodes,(a.2.1.nodes.length:Int),0,l,(()),b,(c.1,()),k,()))
omit [Tabs] [QuietD Tryz.prog]in
theorem f1d(aD:Int×Y0×Y2×Unit×Y30×Y11×Unit->Option Y14)(n:Nat):v0t aD n=t0y aD n:=by
 funext x;unfold v0t t0y
 first|with_reducible rfl|simp only[a0p,b0g]
theorem x1j [UTabs] (aD:Int×Y0×Y2×Unit×Y30×Y11×Unit->Option Y14)(h_q21z:Contract Tryz.prog 47 z0r aD)(n:Nat):Contract Tryz.prog 47 z0r (v0t aD n):=
 ctD Tryz.func47 162 TT [(999999999,a1),(999999992,⟨[25],[],[],false⟩),(16,⟨[1000,1,2],[],[],false⟩),(47,⟨[0,1002,3],[],[],false⟩),(24,⟨[0,1001],[],[],false⟩),(76,⟨[0,1002],[],[],false⟩),(75,a0),(74,aT)] [] pN (oC (e1y n) (oC (x1n n) (oC (k2l) (oC (p1e n) (oC (t1h n) (oC (h_q21z) (oN))))))) [0] (.none rfl) (by kernel_rfl) (lC ⟨[(0,.ptr 1000000 0),(2,.own 2000016),(3,.clo 16 [1000032,1000034])],[(1,.i64),(8,.i64),(41,(.lst .node)),(42,.i64),(43,.i64)],[(1000000,.box [.d .query,.d .graph,.d (.lst (.map .pair .bool))]),(1000032,.box [.ref (.own 1000033)]),(1000033,.arr 62 (.lst .i64)),(1000034,.box [.d .bool]),(2000016,.arr 3 .i64)],[]⟩ ⟨[],[],[(1000000,.box [.d .query,.d .graph,.d (.lst (.map .pair .bool))]),(1000032,.box [.ref (.own 1000033)]),(1000033,.arr 62 (.lst .i64)),(1000034,.box [.d .bool]),(2000016,.arr 3 .i64)],[]⟩ ⟨[],[],[],[]⟩ pN n (l0e aD n) [2] (lC ⟨[(0,.ptr 1000000 0),(2,.own 2000016),(3,.clo 16 [1000032,1000034]),(11,.ptr 11 0)],[(1,.i64),(8,.i64),(12,.i64),(13,.i64),(41,(.lst .node)),(42,.i64),(43,.i64),(118,(.lst .edg)),(119,.i64),(120,.i64)],[(11,.box [.d .arrow]),(1000000,.box [.d .query,.d .graph,.d (.lst (.map .pair .bool))]),(1000032,.box [.ref (.own 1000033)]),(1000033,.arr 62 (.lst .i64)),(1000034,.box [.d .bool]),(2000016,.arr 3 .i64)],[]⟩ ⟨[(0,.ptr 1000000 0),(2,.own 2000016),(3,.clo 16 [1000032,1000034])],[(1,.i64),(8,.i64),(41,(.lst .node)),(42,.i64),(43,.i64)],[(1000000,.box [.d .query,.d .graph,.d (.lst (.map .pair .bool))]),(1000032,.box [.ref (.own 1000033)]),(1000033,.arr 62 (.lst .i64)),(1000034,.box [.d .bool]),(2000016,.arr 3 .i64)],[]⟩ ⟨[],[],[],[]⟩ pN n (x0h aD n) [] lN lN) lN)
theorem b2i [UTabs] (aD:Int×Y0×Y2×Unit×Y30×Y11×Unit->Option Y14)(h_q21z:Contract Tryz.prog 47 z0r aD)(n:Nat):Contract Tryz.prog 47 z0r (t0y aD n):=(f1d aD n)▸x1j aD h_q21z n
theorem t1c [UTabs]:∀n,Contract Tryz.prog 47 z0r (q21z n)
 | 0=>λ_ _ h=>by cases h
 |n+1=>b2i _ (t1c n) n
theorem h2b [UTabs] (n:Nat):Contract Tryz.prog 15 m2p (q20z n):=
 ctD Tryz.func15 21 TT [(999999999,a1),(999999994,⟨[20],[],[],false⟩),(47,⟨[0,1002,3],[],[],false⟩)] [] pN (oC (t1c n) (oN)) [] (.none rfl) (by kernel_rfl) lN
theorem z0x [UTabs] (n:Nat):Contract Tryz.prog 5 f1k (c0n n):=
 ctN Tryz.func5 29 TT [(999999999,a1),(1700000009,⟨[8,0,600008,62,1],[],[],false⟩),(15,⟨[0,1],[],[],false⟩),(18,⟨[1000],[],[],false⟩),(12,aT),(13,aT),(14,⟨[],[],[12],false⟩)] [.tmp 4,.tmp 5] pN (oC (e1x n) (oC (x1k n) (oC (o0t n) (oC (h2b n) (oC (a2h) (oN)))))) [] lN
def p2o:FnT:=⟨0,⟨[],[],[],[]⟩,[.v .bool],[]⟩
def o2w:FnT:=⟨0,⟨[],[],[],[]⟩,[.v .graph],[]⟩
theorem f2b:Contract Tryz.prog 21 o2w (q54z):=
 ctN Tryz.func21 10 TT [] [.cell 0 31] pN (oN) [] lN
def m1s:FnT:=⟨2,⟨[],[(0,.str),(1,.graph)],[],[]⟩,[.v (.lst .cnt),.v .i64,.v .i64],[]⟩
def d2o:FnT:=⟨1,⟨[],[(0,.str)],[],[]⟩,[.v .query,.v .i64,.v .i64],[]⟩
def d2l:FnT:=⟨1,⟨[(0,.ptr 1000000 0)],[],[(1000000,.box [.d .str,.d .i64,.d .str,.d .i64])],[]⟩,[],[(1000000,.box [.d .str,.d .i64,.d .str,.d .i64])]⟩
def k2h:FnT:=⟨1,⟨[],[(0,.u8)],[],[]⟩,[.v .bool],[]⟩
theorem c2l:Contract Tryz.prog 110 k2h (l2p):=
 ctN Tryz.func110 13 TT [] [.tmp 2] pN (oN) [] lN
def n2j:FnT:=⟨1,⟨[],[(0,.u8)],[],[]⟩,[.v .bool],[]⟩
theorem h2k:Contract Tryz.prog 111 n2j (q98z):=
 ctN Tryz.func111 29 TT [] [.tmp 2] pN (oN) [] lN
def d2m:FnT:=⟨2,⟨[(0,.ptr 1000000 0)],[(1,.i64)],[(1000000,.box [.d .str,.d .i64,.d .str,.d .i64])],[]⟩,[],[(1000000,.box [.d .str,.d .i64,.d .str,.d .i64])]⟩
theorem o0l:Contract Tryz.prog 90 d2m (q46z):=
 ctN Tryz.func90 11 TT [] [] pN (oN) [] lN
def o2c:FnT:=⟨2,⟨[],[(0,.str),(1,.str)],[],[]⟩,[.v .bool],[]⟩
def o2y:FnT:=⟨2,⟨[],[(0,.str),(1,.str)],[],[]⟩,[.v .bool],[]⟩
theorem k2g:Contract Tryz.prog 138 o2y (q22z):=
 ctN Tryz.func138 18 TT [] [.tmp 4] pN (oN) [] lN
theorem g2w:Contract Tryz.prog 112 o2c (q60z):=
 ctN Tryz.func112 8 TT [(138,aT)] [.tmp 4] pN (oC (k2g) (oN)) [] lN
def m2s:FnT:=⟨2,⟨[],[(0,.str),(1,.u8)],[],[]⟩,[.v .i64],[]⟩
def l2s:FnT:=⟨2,⟨[],[(0,.str),(1,.u8)],[],[]⟩,[.v .i64],[]⟩
theorem h2y:Contract Tryz.prog 139 l2s (q23z):=
 ctN Tryz.func139 8 TT [] [.tmp 4] pN (oE (p2j) (oN)) [] lN
theorem h2x:Contract Tryz.prog 113 m2s (q61z):=
 ctN Tryz.func113 8 TT [(139,aT)] [.tmp 4] pN (oC (h2y) (oN)) [] lN
theorem g0i(n:Nat):Contract Tryz.prog 88 d2l (q51z n):=
 ctD Tryz.func88 189 TT [(90,a0),(110,aT),(111,aT),(112,aT),(113,aT)] [] pN (oC (c2l) (oC (h2k) (oC (o0l) (oC (g2w) (oC (h2x) (oN)))))) [0,3,5] (.none rfl) (by kernel_rfl) (lC ⟨[(0,.ptr 1000000 0)],[],[(1000000,.box [.d .str,.d .i64,.d .str,.d .i64])],[]⟩ ⟨[(0,.ptr 1000000 0)],[],[(1000000,.box [.d .str,.d .i64,.d .str,.d .i64])],[]⟩ ⟨[],[],[],[]⟩ pN n (u1v n) [] lN (lC ⟨[(0,.ptr 1000000 0)],[(2,.i64)],[(1000000,.box [.d .str,.d .i64,.d .str,.d .i64])],[]⟩ ⟨[(0,.ptr 1000000 0)],[(2,.i64)],[(1000000,.box [.d .str,.d .i64,.d .str,.d .i64])],[]⟩ ⟨[],[],[],[]⟩ pN n (p1y n) [] lN (lC ⟨[(0,.ptr 1000000 0)],[(2,.i64)],[(1000000,.box [.d .str,.d .i64,.d .str,.d .i64])],[]⟩ ⟨[(0,.ptr 1000000 0)],[(2,.i64)],[(1000000,.box [.d .str,.d .i64,.d .str,.d .i64])],[]⟩ ⟨[],[],[],[]⟩ pN n (s1o n) [] lN lN)))
def e2s:FnT:=⟨1,⟨[(0,.ptr 1000000 0)],[],[(1000000,.box [.d .str,.d .i64,.d .str,.d .i64])],[]⟩,[.v .query],[(1000000,.box [.d .str,.d .i64,.d .str,.d .i64])]⟩
def p2h:FnT:=⟨2,⟨[(0,.ptr 1000000 0)],[(1,.str)],[(1000000,.box [.d .str,.d .i64,.d .str,.d .i64])],[]⟩,[],[(1000000,.box [.d .str,.d .i64,.d .str,.d .i64])]⟩
def p2e:FnT:=⟨2,⟨[(0,.ptr 1000000 0)],[(1,.str)],[(1000000,.box [.d .str,.d .i64,.d .str,.d .i64])],[]⟩,[.v .bool],[(1000000,.box [.d .str,.d .i64,.d .str,.d .i64])]⟩
theorem o0g(n:Nat):Contract Tryz.prog 117 p2e (q58z n):=
 ctN Tryz.func117 17 TT [(88,a0)] [.tmp 4] pN (oC (g0i n) (oN)) [] lN
theorem o0b(n:Nat):Contract Tryz.prog 114 p2h (q49z n):=
 ctN Tryz.func114 10 TT [(117,a0),(90,a0)] [] pN (oC (o0g n) (oC (o0l) (oN))) [] lN
def n2s:FnT:=⟨1,⟨[(0,.ptr 1000000 0)],[],[(1000000,.box [.d .str,.d .i64,.d .str,.d .i64])],[]⟩,[.v .dot],[(1000000,.box [.d .str,.d .i64,.d .str,.d .i64])]⟩
def l2r:FnT:=⟨2,⟨[(0,.ptr 1000000 0)],[(1,.bool)],[(1000000,.box [.d .str,.d .i64,.d .str,.d .i64])],[]⟩,[.v .str],[(1000000,.box [.d .str,.d .i64,.d .str,.d .i64])]⟩
theorem d1u(n:Nat):Contract Tryz.prog 140 l2r (q50z n):=
 ctN Tryz.func140 32 TT [(90,a0),(88,a0),(38,aT),(67,aT)] [.tmp 4] pN (oC (h0n n) (oC (o0l) (oC (g0i n) (oC (r1q n) (oN))))) [] lN
theorem j2h(n:Nat):Contract Tryz.prog 115 n2s (q57z n):=
 ctN Tryz.func115 29 TT [(114,a0),(140,a0),(117,a0)] [.cell 2 88] pN (oC (o0b n) (oC (d1u n) (oC (o0g n) (oN)))) [] lN
def o2r:FnT:=⟨1,⟨[(0,.ptr 1000000 0)],[],[(1000000,.box [.d .str,.d .i64,.d .str,.d .i64])],[]⟩,[.v .arrow],[(1000000,.box [.d .str,.d .i64,.d .str,.d .i64])]⟩
omit [QuietD Tryz.prog]in
theorem h2s:Contract Tryz.prog 116 o2r q40z:=λ_ _ h=>by cases h
def c0z:FnT:=⟨2,⟨[(0,.ptr 1000000 0)],[(1,.i64)],[(1000000,.box [.d .str,.d .i64,.d .str,.d .i64])],[]⟩,[.v .term],[(1000000,.box [.d .str,.d .i64,.d .str,.d .i64])]⟩
def d2r:FnT:=⟨4,⟨[(0,.ptr 1000000 0),(2,.bnd 142 [1000000])],[(1,.i64),(3,(.lst .str))],[(1000000,.box [.d .str,.d .i64,.d .str,.d .i64])],[]⟩,[.v .term],[(1000000,.box [.d .str,.d .i64,.d .str,.d .i64])]⟩
def p2s:FnT:=⟨2,⟨[(0,.ptr 1000000 0)],[(1,.i64)],[(1000000,.box [.d .str,.d .i64,.d .str,.d .i64])],[]⟩,[.v .term],[(1000000,.box [.d .str,.d .i64,.d .str,.d .i64])]⟩
def d2p:FnT:=⟨4,⟨[(0,.ptr 1000000 0),(2,.bnd 153 [1000000])],[(1,.i64),(3,(.lst .str))],[(1000000,.box [.d .str,.d .i64,.d .str,.d .i64])],[]⟩,[.v .term],[(1000000,.box [.d .str,.d .i64,.d .str,.d .i64])]⟩
def v1e:FnT:=⟨2,⟨[(0,.ptr 1000000 0)],[(1,.i64)],[(1000000,.box [.d .str,.d .i64,.d .str,.d .i64])],[]⟩,[.v .term],[(1000000,.box [.d .str,.d .i64,.d .str,.d .i64])]⟩
def i2n:FnT:=⟨2,⟨[],[(0,.str),(1,(.lst .term))],[],[]⟩,[.v .term],[]⟩
theorem h0h:Contract Tryz.prog 152 i2n (c0x):=
 ctN Tryz.func152 8 TT [] [.cell 4 42] pN (oN) [] lN
def e2a:FnT:=⟨2,⟨[(0,.ptr 1000000 0)],[(1,.i64)],[(1000000,.box [.d .str,.d .i64,.d .str,.d .i64])],[]⟩,[.v .term],[(1000000,.box [.d .str,.d .i64,.d .str,.d .i64])]⟩
def l2q:FnT:=⟨2,⟨[(0,.ptr 1000000 0)],[(1,.i64)],[(1000000,.box [.d .str,.d .i64,.d .str,.d .i64])],[]⟩,[.v .term],[(1000000,.box [.d .str,.d .i64,.d .str,.d .i64])]⟩
def e2m:FnT:=⟨4,⟨[(0,.ptr 1000000 0),(2,.bnd 158 [1000000])],[(1,.i64),(3,(.lst .str))],[(1000000,.box [.d .str,.d .i64,.d .str,.d .i64])],[]⟩,[.v .term],[(1000000,.box [.d .str,.d .i64,.d .str,.d .i64])]⟩
def l2v:FnT:=⟨2,⟨[(0,.ptr 1000000 0)],[(1,.i64)],[(1000000,.box [.d .str,.d .i64,.d .str,.d .i64])],[]⟩,[.v .term],[(1000000,.box [.d .str,.d .i64,.d .str,.d .i64])]⟩
def e2r:FnT:=⟨4,⟨[(0,.ptr 1000000 0),(2,.bnd 159 [1000000])],[(1,.i64),(3,(.lst .str))],[(1000000,.box [.d .str,.d .i64,.d .str,.d .i64])],[]⟩,[.v .term],[(1000000,.box [.d .str,.d .i64,.d .str,.d .i64])]⟩
def m2e:FnT:=⟨2,⟨[(0,.ptr 1000000 0)],[(1,.i64)],[(1000000,.box [.d .str,.d .i64,.d .str,.d .i64])],[]⟩,[.v .term],[(1000000,.box [.d .str,.d .i64,.d .str,.d .i64])]⟩
def o2p:FnT:=⟨3,⟨[(0,.ptr 1000000 0)],[(1,.i64),(2,.str)],[(1000000,.box [.d .str,.d .i64,.d .str,.d .i64])],[]⟩,[.v (.lst .term)],[(1000000,.box [.d .str,.d .i64,.d .str,.d .i64])]⟩
theorem i2x(aA:Int×Y1×Unit->Option Y8)(h_q35z:Contract Tryz.prog 118 c0z aA)(n:Nat):Contract Tryz.prog 160 o2p (q48z aA n):=
 ctN Tryz.func160 24 TT [(117,a0),(118,a0),(114,a0)] [.tmp 6] pN (oC (o0g n) (oC (h_q35z) (oC (o0b n) (oN)))) [0] (lC ⟨[(0,.ptr 1000000 0),(7,.own 7)],[(1,.i64),(2,.str)],[(7,.arr 42 .term),(1000000,.box [.d .str,.d .i64,.d .str,.d .i64])],[]⟩ ⟨[],[],[],[]⟩ ⟨[(6,.own 7)],[],[(7,.arr 42 .term),(1000000,.box [.d .str,.d .i64,.d .str,.d .i64])],[]⟩ ⟨[],[(7,7,42,7)],[]⟩ n (s1t aA n) [] lN lN)
def n2a:FnT:=⟨1,⟨[],[(0,.val)],[],[]⟩,[.v .term],[]⟩
theorem f2s:Contract Tryz.prog 161 n2a (q73z):=
 ctN Tryz.func161 5 TT [] [.cell 2 42] pN (oN) [] lN
def p2d:FnT:=⟨1,⟨[(0,.ptr 1000000 0)],[],[(1000000,.box [.d .str,.d .i64,.d .str,.d .i64])],[]⟩,[.v .term],[(1000000,.box [.d .str,.d .i64,.d .str,.d .i64])]⟩
omit [QuietD Tryz.prog]in
theorem h2m:Contract Tryz.prog 162 p2d q36z:=λ_ _ h=>by cases h
def k2z:FnT:=⟨1,⟨[(0,.ptr 1000000 0)],[],[(1000000,.box [.d .str,.d .i64,.d .str,.d .i64])],[]⟩,[.v .term],[(1000000,.box [.d .str,.d .i64,.d .str,.d .i64])]⟩
omit [QuietD Tryz.prog]in
theorem h2r:Contract Tryz.prog 163 k2z q52z:=λ_ _ h=>by cases h
theorem i2d(aA:Int×Y1×Unit->Option Y8)(h_q35z:Contract Tryz.prog 118 c0z aA)(n:Nat):Contract Tryz.prog 159 m2e (q41z aA n):=
 ctD Tryz.func159 108 TT [(90,a0),(117,a0),(118,a0),(114,a0),(160,a0),(88,a0),(162,a0),(163,a0),(140,a0),(41,aT)] [.cell 4 42] pN (oC (o0l) (oC (o0g n) (oC (h_q35z) (oC (o0b n) (oC (i2x _ h_q35z n) (oC (h0h) (oC (f2s) (oC (g0i n) (oC (h0m n) (oC (h2m) (oC (h2r) (oC (d1u n) (oN))))))))))))) [] (.none rfl) (by kernel_rfl) lN
def m0d{ρ:Type}(aA:Int×Y1×Unit->Option Y8)(n:Nat)(rec:Int×Y15×Y12×Y12×Y1×Unit->Option ρ)(kx:Y12×Y12×Y1×Unit->Option ρ)(kr:Unit->Option ρ):Int×Y15×Y12×Y12×Y1×Unit->Option ρ:=
 λ(i,j,b,c,f,_)=>let h:=(Term.mk c.1.kind (Val.mk c.1.v.kind c.1.v.n c.1.v.s c.1.v.l) c.1.name c.1.a);let g:=((Term.mk b.1.kind (Val.mk b.1.v.kind b.1.v.n b.1.v.s b.1.v.l) b.1.name b.1.a),());
 (q26z n (j,f.2.2.1,())).bind λ(o,_)=>
 (bif o then
 (q51z n (f,())).bind λ(k,_)=>
 (let z1q:=(
 (q41z aA n (i,k,())).bind λ(d,m,_)=>
 (c0x (f.2.2.1,([h,(Term.mk d.kind (Val.mk d.v.kind d.v.n d.v.s d.v.l) d.name d.a)]:List Term),())).bind λ(e,_)=>rec (i,j,g,((Term.mk e.kind (Val.mk e.v.kind e.v.n e.v.s e.v.l) e.name e.a),()),m,()))
 dem2 z1q z1q)
 else kx (g,(h,()),f,()))
omit [Tabs] [QuietD Tryz.prog]in
theorem b1f{ρ:Type}(aA:Int×Y1×Unit->Option Y8)(n:Nat): @m0d ρ aA n= @g1v ρ aA n:=by
 funext rec kx kr s;unfold m0d g1v
 first|with_reducible rfl|simp only[a0p,b0g]
def v1t(aA:Int×Y1×Unit->Option Y8)(n:Nat):Int×Y15×Y1×Unit->Option Y8:=
 λ(d,e,g,_)=>
 (q41z aA n (d,g,())).bind λ(c,h,_)=>
 a0a (λi=>m0d aA n i (λ(j,b,f,_)=>some ((Term.mk b.1.kind (Val.mk b.1.v.kind b.1.v.n b.1.v.s b.1.v.l) b.1.name b.1.a),f,())) (λ(_)=>none)) (n) (d,e,((Term.mk 0 (Val.mk 0 0 (⟨#[]⟩:Bt) ([]:List Val)) (⟨#[]⟩:Bt) ([]:List Term)),()),((Term.mk c.kind (Val.mk c.v.kind c.v.n c.v.s c.v.l) c.name c.a),()),h,())
omit [Tabs] [QuietD Tryz.prog]in
theorem w1d(aA:Int×Y1×Unit->Option Y8)(n:Nat):v1t aA n=q17z aA n:=by
 funext x;unfold v1t q17z
 first|with_reducible rfl|simp only[a0p,b0g,b1f]
theorem b2q(aA:Int×Y1×Unit->Option Y8)(h_q35z:Contract Tryz.prog 118 c0z aA)(n:Nat):Contract Tryz.prog 141 e2r (v1t aA n):=
 ctD Tryz.func141 34 TT [(999999992,⟨[26],[],[],false⟩),(159,a0),(88,a0),(41,aT)] [.cell 8 42] pN (oC (i2d _ h_q35z n) (oC (h0m n) (oC (g0i n) (oC (h0h) (oN))))) [0] (.none rfl) (by kernel_rfl) (lC ⟨[(0,.ptr 1000000 0),(2,.bnd 159 [1000000]),(8,.ptr 8 0),(9,.ptr 9 0)],[(1,.i64),(3,(.lst .str))],[(8,.box [.d .term]),(9,.box [.d .term]),(1000000,.box [.d .str,.d .i64,.d .str,.d .i64])],[]⟩ ⟨[(8,.ptr 8 0),(9,.ptr 9 0)],[],[(8,.box [.d .term]),(9,.box [.d .term]),(1000000,.box [.d .str,.d .i64,.d .str,.d .i64])],[]⟩ ⟨[],[],[],[]⟩ pN n (m0d aA n) [] lN lN)
theorem h2l(aA:Int×Y1×Unit->Option Y8)(h_q35z:Contract Tryz.prog 118 c0z aA)(n:Nat):Contract Tryz.prog 141 e2r (q17z aA n):=(w1d aA n)▸b2q aA h_q35z n
theorem h2v(aA:Int×Y1×Unit->Option Y8)(h_q35z:Contract Tryz.prog 118 c0z aA)(n:Nat):Contract Tryz.prog 158 l2v (q34z aA n):=
 ctN Tryz.func158 11 TT [(141,⟨[0,2],[],[],false⟩)] [.cell 4 42] pN (oC (h2l _ h_q35z n) (oN)) [] lN
def l0n{ρ:Type}(aA:Int×Y1×Unit->Option Y8)(n:Nat)(rec:Int×Y15×Y12×Y12×Y1×Unit->Option ρ)(kx:Y12×Y12×Y1×Unit->Option ρ)(kr:Unit->Option ρ):Int×Y15×Y12×Y12×Y1×Unit->Option ρ:=
 λ(i,j,b,c,f,_)=>let h:=(Term.mk c.1.kind (Val.mk c.1.v.kind c.1.v.n c.1.v.s c.1.v.l) c.1.name c.1.a);let g:=((Term.mk b.1.kind (Val.mk b.1.v.kind b.1.v.n b.1.v.s b.1.v.l) b.1.name b.1.a),());
 (q26z n (j,f.2.2.1,())).bind λ(o,_)=>
 (bif o then
 (q51z n (f,())).bind λ(k,_)=>
 (let z1q:=(
 (q34z aA n (i,k,())).bind λ(d,m,_)=>
 (c0x (f.2.2.1,([h,(Term.mk d.kind (Val.mk d.v.kind d.v.n d.v.s d.v.l) d.name d.a)]:List Term),())).bind λ(e,_)=>rec (i,j,g,((Term.mk e.kind (Val.mk e.v.kind e.v.n e.v.s e.v.l) e.name e.a),()),m,()))
 dem2 z1q z1q)
 else kx (g,(h,()),f,()))
omit [Tabs] [QuietD Tryz.prog]in
theorem d1c{ρ:Type}(aA:Int×Y1×Unit->Option Y8)(n:Nat): @l0n ρ aA n= @g1q ρ aA n:=by
 funext rec kx kr s;unfold l0n g1q
 first|with_reducible rfl|simp only[a0p,b0g]
def r1v(aA:Int×Y1×Unit->Option Y8)(n:Nat):Int×Y15×Y1×Unit->Option Y8:=
 λ(d,e,g,_)=>
 (q34z aA n (d,g,())).bind λ(c,h,_)=>
 a0a (λi=>l0n aA n i (λ(j,b,f,_)=>some ((Term.mk b.1.kind (Val.mk b.1.v.kind b.1.v.n b.1.v.s b.1.v.l) b.1.name b.1.a),f,())) (λ(_)=>none)) (n) (d,e,((Term.mk 0 (Val.mk 0 0 (⟨#[]⟩:Bt) ([]:List Val)) (⟨#[]⟩:Bt) ([]:List Term)),()),((Term.mk c.kind (Val.mk c.v.kind c.v.n c.v.s c.v.l) c.name c.a),()),h,())
omit [Tabs] [QuietD Tryz.prog]in
theorem s1i(aA:Int×Y1×Unit->Option Y8)(n:Nat):r1v aA n=q13z aA n:=by
 funext x;unfold r1v q13z
 first|with_reducible rfl|simp only[a0p,b0g,d1c]
theorem b2t(aA:Int×Y1×Unit->Option Y8)(h_q35z:Contract Tryz.prog 118 c0z aA)(n:Nat):Contract Tryz.prog 141 e2m (r1v aA n):=
 ctD Tryz.func141 34 TT [(999999992,⟨[26],[],[],false⟩),(158,a0),(88,a0),(41,aT)] [.cell 8 42] pN (oC (h2v _ h_q35z n) (oC (h0m n) (oC (g0i n) (oC (h0h) (oN))))) [0] (.none rfl) (by kernel_rfl) (lC ⟨[(0,.ptr 1000000 0),(2,.bnd 158 [1000000]),(8,.ptr 8 0),(9,.ptr 9 0)],[(1,.i64),(3,(.lst .str))],[(8,.box [.d .term]),(9,.box [.d .term]),(1000000,.box [.d .str,.d .i64,.d .str,.d .i64])],[]⟩ ⟨[(8,.ptr 8 0),(9,.ptr 9 0)],[],[(8,.box [.d .term]),(9,.box [.d .term]),(1000000,.box [.d .str,.d .i64,.d .str,.d .i64])],[]⟩ ⟨[],[],[],[]⟩ pN n (l0n aA n) [] lN lN)
theorem f2a(aA:Int×Y1×Unit->Option Y8)(h_q35z:Contract Tryz.prog 118 c0z aA)(n:Nat):Contract Tryz.prog 141 e2m (q13z aA n):=(s1i aA n)▸b2t aA h_q35z n
theorem i2o(aA:Int×Y1×Unit->Option Y8)(h_q35z:Contract Tryz.prog 118 c0z aA)(n:Nat):Contract Tryz.prog 157 l2q (q59z aA n):=
 ctN Tryz.func157 11 TT [(141,⟨[0,2],[],[],false⟩)] [.cell 4 42] pN (oC (f2a _ h_q35z n) (oN)) [] lN
def o1x(aA:Int×Y1×Unit->Option Y8)(n:Nat):Int×Y1×Unit->Option Y8:=
 λ(t,z,_)=>
 (q59z aA n (t,z,())).bind λ(j,b,_)=>let c:=(Term.mk j.kind (Val.mk j.v.kind j.v.n j.v.s j.v.l) j.name j.a);
 (bif seq b.2.2.1 (⟨#[61]⟩:Bt)then
 (bif seq b.2.2.1 (⟨#[61]⟩:Bt)then
 (q51z n (b,())).bind λ(o5,_)=>
 (let z1q:=(
 (q59z aA n (t,o5,())).bind λ(q,o7,_)=>
 (c0x (b.2.2.1,([c,(Term.mk q.kind (Val.mk q.v.kind q.v.n q.v.s q.v.l) q.name q.a)]:List Term),())).bind λ(r,_)=>some ((Term.mk r.kind (Val.mk r.v.kind r.v.n r.v.s r.v.l) r.name r.a),o7,()))
 dem2 z1q z1q)
 else
 (bif seq b.2.2.1 (⟨#[105,115]⟩:Bt)then
 (q51z n (b,())).bind λ(u,_)=>
 (q49z n ((⟨#[110,117,108,108]⟩:Bt),u,())).bind λ(w,_)=>
 (c0x ((⟨#[110,117,108,108]⟩:Bt),([c]:List Term),())).bind λ(d,_)=>some ((Term.mk d.kind (Val.mk d.v.kind d.v.n d.v.s d.v.l) d.name d.a),w,())
 else some (c,b,())))
 else
 (bif seq b.2.2.1 (⟨#[60]⟩:Bt)then
 (bif seq b.2.2.1 (⟨#[60]⟩:Bt)then
 (q51z n (b,())).bind λ(x,_)=>
 (let z2q:=(
 (q59z aA n (t,x,())).bind λ(e,y,_)=>
 (c0x (b.2.2.1,([c,(Term.mk e.kind (Val.mk e.v.kind e.v.n e.v.s e.v.l) e.name e.a)]:List Term),())).bind λ(f,_)=>some ((Term.mk f.kind (Val.mk f.v.kind f.v.n f.v.s f.v.l) f.name f.a),y,()))
 dem2 z2q z2q)
 else
 (bif seq b.2.2.1 (⟨#[105,115]⟩:Bt)then
 (q51z n (b,())).bind λ(aa,_)=>
 (q49z n ((⟨#[110,117,108,108]⟩:Bt),aa,())).bind λ(ab,_)=>
 (c0x ((⟨#[110,117,108,108]⟩:Bt),([c]:List Term),())).bind λ(g,_)=>some ((Term.mk g.kind (Val.mk g.v.kind g.v.n g.v.s g.v.l) g.name g.a),ab,())
 else some (c,b,())))
 else
 (bif seq b.2.2.1 (⟨#[60,61]⟩:Bt)then
 (bif seq b.2.2.1 (⟨#[60,61]⟩:Bt)then
 (q51z n (b,())).bind λ(ac,_)=>
 (let z3q:=(
 (q59z aA n (t,ac,())).bind λ(h,ad,_)=>
 (c0x (b.2.2.1,([c,(Term.mk h.kind (Val.mk h.v.kind h.v.n h.v.s h.v.l) h.name h.a)]:List Term),())).bind λ(i,_)=>some ((Term.mk i.kind (Val.mk i.v.kind i.v.n i.v.s i.v.l) i.name i.a),ad,()))
 dem2 z3q z3q)
 else
 (bif seq b.2.2.1 (⟨#[105,115]⟩:Bt)then
 (q51z n (b,())).bind λ(ae,_)=>
 (q49z n ((⟨#[110,117,108,108]⟩:Bt),ae,())).bind λ(af,_)=>
 (c0x ((⟨#[110,117,108,108]⟩:Bt),([c]:List Term),())).bind λ(k,_)=>some ((Term.mk k.kind (Val.mk k.v.kind k.v.n k.v.s k.v.l) k.name k.a),af,())
 else some (c,b,())))
 else
 (bif seq b.2.2.1 (⟨#[105,110]⟩:Bt)then
 (q51z n (b,())).bind λ(ag,_)=>
 (let z4q:=(
 (q59z aA n (t,ag,())).bind λ(m,ah,_)=>
 (c0x (b.2.2.1,([c,(Term.mk m.kind (Val.mk m.v.kind m.v.n m.v.s m.v.l) m.name m.a)]:List Term),())).bind λ(o,_)=>some ((Term.mk o.kind (Val.mk o.v.kind o.v.n o.v.s o.v.l) o.name o.a),ah,()))
 dem2 z4q z4q)
 else
 (bif seq b.2.2.1 (⟨#[105,115]⟩:Bt)then
 (q51z n (b,())).bind λ(ai,_)=>
 (q49z n ((⟨#[110,117,108,108]⟩:Bt),ai,())).bind λ(aj,_)=>
 (c0x ((⟨#[110,117,108,108]⟩:Bt),([c]:List Term),())).bind λ(p,_)=>some ((Term.mk p.kind (Val.mk p.v.kind p.v.n p.v.s p.v.l) p.name p.a),aj,())
 else some (c,b,()))))))
omit [Tabs] [QuietD Tryz.prog]in
theorem p1i(aA:Int×Y1×Unit->Option Y8)(n:Nat):o1x aA n=q33z aA n:=by
 funext x;unfold o1x q33z
 first|with_reducible rfl|simp only[a0p,b0g]
theorem z1s(aA:Int×Y1×Unit->Option Y8)(h_q35z:Contract Tryz.prog 118 c0z aA)(n:Nat):Contract Tryz.prog 156 e2a (o1x aA n):=
 ctD Tryz.func156 42 TT [(999999992,⟨[25],[],[],false⟩),(157,a0),(88,a0),(114,a0)] [.cell 4 42] pN (oC (i2o _ h_q35z n) (oC (g0i n) (oC (h0h) (oC (o0b n) (oN))))) [] (.none rfl) (by kernel_rfl) lN
theorem h2n(aA:Int×Y1×Unit->Option Y8)(h_q35z:Contract Tryz.prog 118 c0z aA)(n:Nat):Contract Tryz.prog 156 e2a (q33z aA n):=(p1i aA n)▸z1s aA h_q35z n
theorem c2k(aA:Int×Y1×Unit->Option Y8)(bM:Int×Y1×Unit->Option Y8)(h_q35z:Contract Tryz.prog 118 c0z aA)(h_q37z:Contract Tryz.prog 153 v1e bM)(n:Nat):Contract Tryz.prog 153 v1e (d2t aA bM n):=
 ctN Tryz.func153 20 TT [(90,a0),(117,a0),(153,a0),(156,a0)] [.cell 4 42] pN (oC (o0l) (oC (o0g n) (oC (h_q37z) (oC (h0h) (oC (h2n _ h_q35z n) (oN)))))) [] lN
theorem q1r(aA:Int×Y1×Unit->Option Y8)(h_q35z:Contract Tryz.prog 118 c0z aA):∀n,Contract Tryz.prog 153 v1e (q37z aA n)
 | 0=>λ_ _ h=>by cases h
 |n+1=>c2k aA _ h_q35z (q1r aA h_q35z n) n
def n0d{ρ:Type}(aA:Int×Y1×Unit->Option Y8)(n:Nat)(rec:Int×Y15×Y12×Y12×Y1×Unit->Option ρ)(kx:Y12×Y12×Y1×Unit->Option ρ)(kr:Unit->Option ρ):Int×Y15×Y12×Y12×Y1×Unit->Option ρ:=
 λ(i,j,b,c,f,_)=>let h:=(Term.mk c.1.kind (Val.mk c.1.v.kind c.1.v.n c.1.v.s c.1.v.l) c.1.name c.1.a);let g:=((Term.mk b.1.kind (Val.mk b.1.v.kind b.1.v.n b.1.v.s b.1.v.l) b.1.name b.1.a),());
 (q26z n (j,f.2.2.1,())).bind λ(o,_)=>
 (bif o then
 (q51z n (f,())).bind λ(k,_)=>
 (let z1q:=(
 (q37z aA n (i,k,())).bind λ(d,m,_)=>
 (c0x (f.2.2.1,([h,(Term.mk d.kind (Val.mk d.v.kind d.v.n d.v.s d.v.l) d.name d.a)]:List Term),())).bind λ(e,_)=>rec (i,j,g,((Term.mk e.kind (Val.mk e.v.kind e.v.n e.v.s e.v.l) e.name e.a),()),m,()))
 dem2 z1q z1q)
 else kx (g,(h,()),f,()))
omit [Tabs] [QuietD Tryz.prog]in
theorem c1y{ρ:Type}(aA:Int×Y1×Unit->Option Y8)(n:Nat): @n0d ρ aA n= @f1l ρ aA n:=by
 funext rec kx kr s;unfold n0d f1l
 first|with_reducible rfl|simp only[a0p,b0g]
def x1t(aA:Int×Y1×Unit->Option Y8)(n:Nat):Int×Y15×Y1×Unit->Option Y8:=
 λ(d,e,g,_)=>
 (q37z aA n (d,g,())).bind λ(c,h,_)=>
 a0a (λi=>n0d aA n i (λ(j,b,f,_)=>some ((Term.mk b.1.kind (Val.mk b.1.v.kind b.1.v.n b.1.v.s b.1.v.l) b.1.name b.1.a),f,())) (λ(_)=>none)) (n) (d,e,((Term.mk 0 (Val.mk 0 0 (⟨#[]⟩:Bt) ([]:List Val)) (⟨#[]⟩:Bt) ([]:List Term)),()),((Term.mk c.kind (Val.mk c.v.kind c.v.n c.v.s c.v.l) c.name c.a),()),h,())
omit [Tabs] [QuietD Tryz.prog]in
theorem r1z(aA:Int×Y1×Unit->Option Y8)(n:Nat):x1t aA n=q16z aA n:=by
 funext x;unfold x1t q16z
 first|with_reducible rfl|simp only[a0p,b0g,c1y]
theorem c2x(aA:Int×Y1×Unit->Option Y8)(h_q35z:Contract Tryz.prog 118 c0z aA)(n:Nat):Contract Tryz.prog 141 d2p (x1t aA n):=
 ctD Tryz.func141 34 TT [(999999992,⟨[26],[],[],false⟩),(153,a0),(88,a0),(41,aT)] [.cell 8 42] pN (oC (q1r _ h_q35z n) (oC (h0m n) (oC (g0i n) (oC (h0h) (oN))))) [0] (.none rfl) (by kernel_rfl) (lC ⟨[(0,.ptr 1000000 0),(2,.bnd 153 [1000000]),(8,.ptr 8 0),(9,.ptr 9 0)],[(1,.i64),(3,(.lst .str))],[(8,.box [.d .term]),(9,.box [.d .term]),(1000000,.box [.d .str,.d .i64,.d .str,.d .i64])],[]⟩ ⟨[(8,.ptr 8 0),(9,.ptr 9 0)],[],[(8,.box [.d .term]),(9,.box [.d .term]),(1000000,.box [.d .str,.d .i64,.d .str,.d .i64])],[]⟩ ⟨[],[],[],[]⟩ pN n (n0d aA n) [] lN lN)
theorem e2x(aA:Int×Y1×Unit->Option Y8)(h_q35z:Contract Tryz.prog 118 c0z aA)(n:Nat):Contract Tryz.prog 141 d2p (q16z aA n):=(r1z aA n)▸c2x aA h_q35z n
theorem j2f(aA:Int×Y1×Unit->Option Y8)(h_q35z:Contract Tryz.prog 118 c0z aA)(n:Nat):Contract Tryz.prog 142 p2s (q45z aA n):=
 ctN Tryz.func142 11 TT [(141,⟨[0,2],[],[],false⟩)] [.cell 4 42] pN (oC (e2x _ h_q35z n) (oN)) [] lN
def n0h{ρ:Type}(aA:Int×Y1×Unit->Option Y8)(n:Nat)(rec:Int×Y15×Y12×Y12×Y1×Unit->Option ρ)(kx:Y12×Y12×Y1×Unit->Option ρ)(kr:Unit->Option ρ):Int×Y15×Y12×Y12×Y1×Unit->Option ρ:=
 λ(i,j,b,c,f,_)=>let h:=(Term.mk c.1.kind (Val.mk c.1.v.kind c.1.v.n c.1.v.s c.1.v.l) c.1.name c.1.a);let g:=((Term.mk b.1.kind (Val.mk b.1.v.kind b.1.v.n b.1.v.s b.1.v.l) b.1.name b.1.a),());
 (q26z n (j,f.2.2.1,())).bind λ(o,_)=>
 (bif o then
 (q51z n (f,())).bind λ(k,_)=>
 (let z1q:=(
 (q45z aA n (i,k,())).bind λ(d,m,_)=>
 (c0x (f.2.2.1,([h,(Term.mk d.kind (Val.mk d.v.kind d.v.n d.v.s d.v.l) d.name d.a)]:List Term),())).bind λ(e,_)=>rec (i,j,g,((Term.mk e.kind (Val.mk e.v.kind e.v.n e.v.s e.v.l) e.name e.a),()),m,()))
 dem2 z1q z1q)
 else kx (g,(h,()),f,()))
omit [Tabs] [QuietD Tryz.prog]in
theorem b1u{ρ:Type}(aA:Int×Y1×Unit->Option Y8)(n:Nat): @n0h ρ aA n= @e1n ρ aA n:=by
 funext rec kx kr s;unfold n0h e1n
 first|with_reducible rfl|simp only[a0p,b0g]
def s1n(aA:Int×Y1×Unit->Option Y8)(n:Nat):Int×Y15×Y1×Unit->Option Y8:=
 λ(d,e,g,_)=>
 (q45z aA n (d,g,())).bind λ(c,h,_)=>
 a0a (λi=>n0h aA n i (λ(j,b,f,_)=>some ((Term.mk b.1.kind (Val.mk b.1.v.kind b.1.v.n b.1.v.s b.1.v.l) b.1.name b.1.a),f,())) (λ(_)=>none)) (n) (d,e,((Term.mk 0 (Val.mk 0 0 (⟨#[]⟩:Bt) ([]:List Val)) (⟨#[]⟩:Bt) ([]:List Term)),()),((Term.mk c.kind (Val.mk c.v.kind c.v.n c.v.s c.v.l) c.name c.a),()),h,())
omit [Tabs] [QuietD Tryz.prog]in
theorem x1u(aA:Int×Y1×Unit->Option Y8)(n:Nat):s1n aA n=q18z aA n:=by
 funext x;unfold s1n q18z
 first|with_reducible rfl|simp only[a0p,b0g,b1u]
theorem b2h(aA:Int×Y1×Unit->Option Y8)(h_q35z:Contract Tryz.prog 118 c0z aA)(n:Nat):Contract Tryz.prog 141 d2r (s1n aA n):=
 ctD Tryz.func141 34 TT [(999999992,⟨[26],[],[],false⟩),(142,a0),(88,a0),(41,aT)] [.cell 8 42] pN (oC (j2f _ h_q35z n) (oC (h0m n) (oC (g0i n) (oC (h0h) (oN))))) [0] (.none rfl) (by kernel_rfl) (lC ⟨[(0,.ptr 1000000 0),(2,.bnd 142 [1000000]),(8,.ptr 8 0),(9,.ptr 9 0)],[(1,.i64),(3,(.lst .str))],[(8,.box [.d .term]),(9,.box [.d .term]),(1000000,.box [.d .str,.d .i64,.d .str,.d .i64])],[]⟩ ⟨[(8,.ptr 8 0),(9,.ptr 9 0)],[],[(8,.box [.d .term]),(9,.box [.d .term]),(1000000,.box [.d .str,.d .i64,.d .str,.d .i64])],[]⟩ ⟨[],[],[],[]⟩ pN n (n0h aA n) [] lN lN)
theorem k2c(aA:Int×Y1×Unit->Option Y8)(h_q35z:Contract Tryz.prog 118 c0z aA)(n:Nat):Contract Tryz.prog 141 d2r (q18z aA n):=(x1u aA n)▸b2h aA h_q35z n
theorem a2n(aA:Int×Y1×Unit->Option Y8)(h_q35z:Contract Tryz.prog 118 c0z aA)(n:Nat):Contract Tryz.prog 118 c0z (d2g aA n):=
 ctN Tryz.func118 11 TT [(141,⟨[0,2],[],[],false⟩)] [.cell 4 42] pN (oC (k2c _ h_q35z n) (oN)) [] lN
theorem h1a:∀n,Contract Tryz.prog 118 c0z (q35z n)
 | 0=>λ_ _ h=>by cases h
 |n+1=>a2n _ (h1a n) n
def p2k:FnT:=⟨1,⟨[(0,.ptr 1000000 0)],[],[(1000000,.box [.d .str,.d .i64,.d .str,.d .i64])],[]⟩,[.v .item],[(1000000,.box [.d .str,.d .i64,.d .str,.d .i64])]⟩
theorem k2b(n:Nat):Contract Tryz.prog 119 p2k (q47z n):=
 ctN Tryz.func119 33 TT [(88,a0),(114,a0),(118,a0),(140,a0),(41,aT)] [.cell 2 44] pN (oC (h0m n) (oC (g0i n) (oC (o0b n) (oC (h1a n) (oC (d1u n) (oN)))))) [] lN
theorem k2d(n:Nat):Contract Tryz.prog 89 e2s (q42z n):=
 ctD Tryz.func89 64 TT [(999999999,a1),(1700000007,⟨[3,2,620003,42,7],[],[],false⟩),(114,a0),(115,a0),(116,a0),(117,a0),(118,a0),(119,a0)] [.cell 2 27] pN (oC (o0b n) (oC (j2h n) (oC (h2s) (oC (o0g n) (oC (h1a n) (oC (k2b n) (oN))))))) [0,2] (.none rfl) (by kernel_rfl) (lC ⟨[(0,.ptr 1000000 0),(2,.ptr 2 0),(3,.ptr 3 0)],[],[(2,.box [.d .query]),(3,.box [.ref (.own 11),.ref (.own 300121),.ref (.nils),.ref (.nils),.d .bool]),(11,.arr 88 .dot),(300121,.arr 91 .arrow),(1000000,.box [.d .str,.d .i64,.d .str,.d .i64])],[]⟩ ⟨[(0,.ptr 1000000 0),(2,.ptr 2 0),(3,.ptr 3 0)],[],[(2,.box [.d .query]),(3,.box [.ref (.own 11),.ref (.own 300121),.ref (.nils),.ref (.nils),.d .bool]),(11,.arr 88 .dot),(300121,.arr 91 .arrow),(1000000,.box [.d .str,.d .i64,.d .str,.d .i64])],[]⟩ ⟨[],[],[],[]⟩ ⟨[],[],[(3,1,300121,91,4),(3,0,300120,88,2)]⟩ n (x1b n) [] lN (lC ⟨[(0,.ptr 1000000 0),(2,.ptr 2 0),(3,.ptr 3 0)],[],[(2,.box [.d .query]),(3,.box [.ref (.own 11),.ref (.own 300121),.ref (.own 620003),.ref (.own 300123),.d .bool]),(11,.arr 88 .dot),(300121,.arr 91 .arrow),(300123,.arr 44 .item),(620003,.arr 42 .term),(1000000,.box [.d .str,.d .i64,.d .str,.d .i64])],[]⟩ ⟨[],[],[],[]⟩ ⟨[(2,.ptr 2 0)],[],[(2,.box [.ref (.own 11),.ref (.own 300121),.ref (.own 620003),.ref (.own 300123),.d .bool]),(11,.arr 88 .dot),(300121,.arr 91 .arrow),(300123,.arr 44 .item),(620003,.arr 42 .term),(1000000,.box [.d .str,.d .i64,.d .str,.d .i64])],[]⟩ ⟨[],[],[(3,3,300123,44,9)]⟩ n (e1k n) [] lN lN))
def d2s:Code:=h0c Tryz.f50
def d2h:List (Nat×ArgM):=[(999999997,⟨[87],[],[],false⟩),(88,a0),(89,a0),(90,a0),(12,aT)]
instance [UDef]:DfOk d2h:=⟨λg hg=>⟨UDef.ok g ((show ∀x∈([87]:List Nat),x∈([87]:List Nat)by decide) g hg),QuietD.free Tryz.prog⟩⟩
def e2u{ρ:Type}(n:Nat):Orc ρ:=g0j 88 d2l (q51z n) (g0j 89 e2s (q42z n) (g0j 90 d2m (q46z) (g0j 12 d2j (q96z n) (q1e))))
theorem s1d [UTabs] {ρ:Type}(n:Nat):(e2u n:Orc ρ).ok Tryz.prog:=g0y (by kernel_rfl) (g0i n) (g0y (by kernel_rfl) (k2d n) (g0y (by kernel_rfl) (o0l) (g0y (by kernel_rfl) (e1x n) (b1v))))
def o2s{ρ:Type}(n:Nat):LOrc ρ:=p1u
omit [Tabs] [QuietD Tryz.prog]in
theorem m2t(n:Nat)(x):evF Tryz.prog 33 TT d2h d2o (e2u n) (o2s n) x0y ⟨[],[],[]⟩ [.cell 2 27,.cell 3 3,.cell 4 33] d2s x=q97z n x:=by kernel_rfl
theorem e2z [UDef] [UTabs] (n:Nat):Contract Tryz.prog 50 d2o (q97z n):=
 Contract.of_ev (c:=d2s) (N:=33) Tryz.func50 (by kernel_rfl) (by kernel_rfl) (by kernel_rfl) (by kernel_rfl) (s1d n) n0m (.of (l:=[]) (by kernel_rfl) trivial) (m2t n)
def u1b:FnT:=⟨2,⟨[],[(0,.query),(1,.graph)],[],[]⟩,[.v (.lst .cnt),.v .i64],[]⟩
def l2j:FnT:=⟨2,⟨[(0,.ptr 1000000 0),(1,.clo 22 [1000016,1000017,1000019,1000020])],[],[(1000000,.box [.d .query,.d .graph,.d (.lst (.map .pair .bool))]),(1000016,.box [.d .i64]),(1000017,.box [.ref (.own 1000018)]),(1000018,.arr 52 .cnt),(1000019,.box [.d .query]),(1000020,.box [.ref (.ptr 1000000 0)])],[]⟩,[],[(1000000,.box [.d .query,.d .graph,.d (.lst (.map .pair .bool))]),(1000016,.box [.d .i64]),(1000017,.box [.ref (.own 1000018)]),(1000018,.arr 52 .cnt),(1000019,.box [.d .query]),(1000020,.box [.ref (.ptr 1000000 0)])]⟩
def c1q:FnT:=⟨4,⟨[(0,.ptr 1000000 0),(2,.own 2000016),(3,.clo 22 [1000032,1000033,1000035,1000036])],[(1,.i64)],[(1000000,.box [.d .query,.d .graph,.d (.lst (.map .pair .bool))]),(2000016,.arr 3 .i64),(1000032,.box [.d .i64]),(1000033,.box [.ref (.own 1000034)]),(1000034,.arr 52 .cnt),(1000035,.box [.d .query]),(1000036,.box [.ref (.ptr 1000000 0)])],[]⟩,[],[(1000000,.box [.d .query,.d .graph,.d (.lst (.map .pair .bool))]),(2000016,.arr 3 .i64),(1000032,.box [.d .i64]),(1000033,.box [.ref (.own 1000034)]),(1000034,.arr 52 .cnt),(1000035,.box [.d .query]),(1000036,.box [.ref (.ptr 1000000 0)])]⟩
def q0y:FnT:=⟨5,⟨[(0,.own 2000000),(1,.ptr 1000016 0),(2,.ptr 1000032 0),(3,.ptr 1000048 0),(4,.ptr 1000064 0)],[],[(2000000,.arr 3 .i64),(1000016,.box [.d .i64]),(1000032,.box [.ref (.own 1000033)]),(1000033,.arr 52 .cnt),(1000048,.box [.d .query]),(1000064,.box [.ref (.ptr 1000065 0)]),(1000065,.box [.d .query,.d .graph,.d (.lst (.map .pair .bool))])],[]⟩,[],[(2000000,.arr 3 .i64),(1000016,.box [.d .i64]),(1000032,.box [.ref (.own 1000033)]),(1000033,.arr 52 .cnt),(1000048,.box [.d .query]),(1000064,.box [.ref (.ptr 1000065 0)]),(1000065,.box [.d .query,.d .graph,.d (.lst (.map .pair .bool))])]⟩
def x1x:FnT:=⟨2,⟨[],[(0,.query),(1,.envr)],[],[]⟩,[.v (.lst .val)],[]⟩
theorem m1i [UTabs] (n:Nat):Contract Tryz.prog 23 x1x (c0d n):=
 ctN Tryz.func23 24 TT [] [.tmp 4] pN (oC (g1h n) (oN)) [0] (lC ⟨[(3,.ptr 3 0),(5,.own 5)],[(9,(.lst .item)),(10,.i64),(11,.i64)],[(3,.box [.d .envr]),(5,.arr 39 .val)],[]⟩ ⟨[(5,.own 5)],[],[(5,.arr 39 .val)],[]⟩ ⟨[],[],[],[]⟩ ⟨[],[(5,5,39,4)],[]⟩ n (n0p n) [] lN lN)
def k0w(n:Nat):Y2×Y5×Unit×Y3×Y4×Unit×Y0×Unit->Option (Y2×Y5×Unit×Y3×Y4×Unit×Y0×Unit):=
 λ(d,c,o3,a,b,o6,e,_)=>
 (bif decide ((wI (c.1+1):Int)<=2000)then
 dem2 (
 (let z1q:=(
 (q56z n (e,d,())).bind λ(am,ac,ad,_)=>
 (c0d n (b.1,am,())).bind λ(o,_)=>
 ck (room (a++([(Cnt.mk o 1)]:List Cnt)).length 32) (some (ad,(wI (c.1+1),()),(()),a++([(Cnt.mk o 1)]:List Cnt),b,(()),ac,())))
 dem2 z1q (dem2 z1q z1q))) (
 dem2 (
 dem2 (
 (q56z n (e,d,())).bind λ(an,ae,af,_)=>
 (c0d n (b.1,an,())).bind λ(p,_)=>
 ck (room (a++([(Cnt.mk p 1)]:List Cnt)).length 32) (some (af,(wI (c.1+1),()),(()),a++([(Cnt.mk p 1)]:List Cnt),b,(()),ae,()))) (
 dem2 (
 (q56z n (e,d,())).bind λ(ao,ag,ah,_)=>
 (c0d n (b.1,ao,())).bind λ(q,_)=>
 ck (room (a++([(Cnt.mk q 1)]:List Cnt)).length 32) (some (ah,(wI (c.1+1),()),(()),a++([(Cnt.mk q 1)]:List Cnt),b,(()),ag,()))) (
 (q56z n (e,d,())).bind λ(r,j,k,_)=>
 dem2 (
 (c0d n (b.1,r,())).bind λ(s,_)=>
 ck (room (a++([(Cnt.mk s 1)]:List Cnt)).length 32) (some (k,(wI (c.1+1),()),(()),a++([(Cnt.mk s 1)]:List Cnt),b,(()),j,()))) (
 (c0d n (b.1,r,())).bind λ(t,_)=>
 (let z2q:=(
 ck (room (a++([(Cnt.mk t 1)]:List Cnt)).length 32) (some (k,(wI (c.1+1),()),(()),a++([(Cnt.mk t 1)]:List Cnt),b,(()),j,())))
 dem2 z2q (dem2 z2q z2q)))))) (
 dem2 (
 (let z3q:=(
 (q56z n (e,d,())).bind λ(ap,ai,aj,_)=>
 (c0d n (b.1,ap,())).bind λ(u,_)=>
 ck (room (a++([(Cnt.mk u 1)]:List Cnt)).length 32) (some (aj,(wI (c.1+1),()),(()),a++([(Cnt.mk u 1)]:List Cnt),b,(()),ai,())))
 dem2 z3q z3q)) (
 dem2 (
 dem2 (
 (q56z n (e,d,())).bind λ(aq,ak,al,_)=>
 (c0d n (b.1,aq,())).bind λ(v,_)=>
 ck (room (a++([(Cnt.mk v 1)]:List Cnt)).length 32) (some (al,(wI (c.1+1),()),(()),a++([(Cnt.mk v 1)]:List Cnt),b,(()),ak,()))) (
 (q56z n (e,d,())).bind λ(w,l,m,_)=>
 dem2 (
 (c0d n (b.1,w,())).bind λ(x,_)=>
 ck (room (a++([(Cnt.mk x 1)]:List Cnt)).length 32) (some (m,(wI (c.1+1),()),(()),a++([(Cnt.mk x 1)]:List Cnt),b,(()),l,()))) (
 (c0d n (b.1,w,())).bind λ(y,_)=>
 (let z4q:=(
 ck (room (a++([(Cnt.mk y 1)]:List Cnt)).length 32) (some (m,(wI (c.1+1),()),(()),a++([(Cnt.mk y 1)]:List Cnt),b,(()),l,())))
 dem2 z4q (dem2 z4q z4q))))) (
 (q56z n (e,d,())).bind λ(h,f,g,_)=>
 dem2 (
 (c0d n (b.1,h,())).bind λ(z,_)=>
 ck (room (a++([(Cnt.mk z 1)]:List Cnt)).length 32) (some (g,(wI (c.1+1),()),(()),a++([(Cnt.mk z 1)]:List Cnt),b,(()),f,()))) (
 dem2 (
 (c0d n (b.1,h,())).bind λ(aa,_)=>
 ck (room (a++([(Cnt.mk aa 1)]:List Cnt)).length 32) (some (g,(wI (c.1+1),()),(()),a++([(Cnt.mk aa 1)]:List Cnt),b,(()),f,()))) (
 (c0d n (b.1,h,())).bind λ(ab,_)=>
 (let z5q:=(
 ck (room (a++([(Cnt.mk ab 1)]:List Cnt)).length 32) (some (g,(wI (c.1+1),()),(()),a++([(Cnt.mk ab 1)]:List Cnt),b,(()),f,())))
 dem2 z5q (dem2 z5q z5q))))))))
 else some (d,(wI (c.1+1),()),(()),a,b,(()),e,()))
omit [Tabs] [QuietD Tryz.prog]in
theorem t0n(n:Nat):k0w n=b0q n:=by
 funext x;unfold k0w b0q
 first|with_reducible rfl|simp only[a0p,b0g]
theorem x0k [UTabs] (n:Nat):Contract Tryz.prog 22 q0y (k0w n):=
 ctD Tryz.func22 19 TT [(999999999,a1),(999999992,⟨[10],[],[],false⟩),(24,⟨[0,1001],[],[],false⟩)] [] pN (oC (e1y n) (oC (m1i n) (oN))) [] (.none rfl) (by kernel_rfl) lN
theorem a1y [UTabs] (n:Nat):Contract Tryz.prog 22 q0y (b0q n):=(t0n n)▸x0k n
def x0x(aE:Int×Y0×Y2×Y5×Unit×Y3×Y4×Unit×Unit->Option Y13)(n:Nat):Int×Y0×Y2×Y5×Unit×Y3×Y4×Unit×Unit->Option Y13:=
 λ(a1,a,r,b,o5,c,z,o8,_)=>let s:=((Query.mk a.1.dots a.1.arrows a.1.wher a.1.items a.1.dist),(Graph.mk a.2.1.nodes a.2.1.edges a.2.1.next),a.2.2.1,());let d:=((Query.mk z.1.dots z.1.arrows z.1.wher z.1.items z.1.dist),());
 (bif (a1:Int)==(a.1.dots.length:Int)then
 dem2 (
 (q56z n (s,r,())).bind λ(y9,e,ag,_)=>let al:=((Query.mk e.1.dots e.1.arrows e.1.wher e.1.items e.1.dist),(Graph.mk e.2.1.nodes e.2.1.edges e.2.1.next),e.2.2.1,());
 (q69z n ((Envr.mk (Graph.mk y9.g.nodes y9.g.edges y9.g.next) y9.at_),e.1.wher,())).bind λ(bl,_)=>
 (bif bl then
 (b0q n (ag,(b.1,()),(()),c,d,(()),al,())).bind λ(aq,ar,bq,au,u,bt,k,_)=>some (((Query.mk k.1.dots k.1.arrows k.1.wher k.1.items k.1.dist),(Graph.mk k.2.1.nodes k.2.1.edges k.2.1.next),k.2.2.1,()),aq,(ar.1,()),(()),au,((Query.mk u.1.dots u.1.arrows u.1.wher u.1.items u.1.dist),()),(()),())
 else some (al,ag,(b.1,()),(()),c,d,(()),()))) (
 dem2 (
 (q56z n (s,r,())).bind λ(aa,f,ah,_)=>let am:=((Query.mk f.1.dots f.1.arrows f.1.wher f.1.items f.1.dist),(Graph.mk f.2.1.nodes f.2.1.edges f.2.1.next),f.2.2.1,());
 (q69z n ((Envr.mk (Graph.mk aa.g.nodes aa.g.edges aa.g.next) aa.at_),f.1.wher,())).bind λ(bm,_)=>
 (bif bm then
 (b0q n (ah,(b.1,()),(()),c,d,(()),am,())).bind λ(ay,az,bu,ba,v,bv,l,_)=>some (((Query.mk l.1.dots l.1.arrows l.1.wher l.1.items l.1.dist),(Graph.mk l.2.1.nodes l.2.1.edges l.2.1.next),l.2.2.1,()),ay,(az.1,()),(()),ba,((Query.mk v.1.dots v.1.arrows v.1.wher v.1.items v.1.dist),()),(()),())
 else some (am,ah,(b.1,()),(()),c,d,(()),()))) (
 dem2 (
 (q56z n (s,r,())).bind λ(ab,h,ai,_)=>let an:=((Query.mk h.1.dots h.1.arrows h.1.wher h.1.items h.1.dist),(Graph.mk h.2.1.nodes h.2.1.edges h.2.1.next),h.2.2.1,());
 (q69z n ((Envr.mk (Graph.mk ab.g.nodes ab.g.edges ab.g.next) ab.at_),h.1.wher,())).bind λ(bn,_)=>
 (bif bn then
 (b0q n (ai,(b.1,()),(()),c,d,(()),an,())).bind λ(bb,bc,bw,bd,w,bx,m,_)=>some (((Query.mk m.1.dots m.1.arrows m.1.wher m.1.items m.1.dist),(Graph.mk m.2.1.nodes m.2.1.edges m.2.1.next),m.2.2.1,()),bb,(bc.1,()),(()),bd,((Query.mk w.1.dots w.1.arrows w.1.wher w.1.items w.1.dist),()),(()),())
 else some (an,ai,(b.1,()),(()),c,d,(()),()))) (
 dem2 (
 (q56z n (s,r,())).bind λ(ac,i,aj,_)=>let ao:=((Query.mk i.1.dots i.1.arrows i.1.wher i.1.items i.1.dist),(Graph.mk i.2.1.nodes i.2.1.edges i.2.1.next),i.2.2.1,());
 (q69z n ((Envr.mk (Graph.mk ac.g.nodes ac.g.edges ac.g.next) ac.at_),i.1.wher,())).bind λ(bo,_)=>
 (bif bo then
 (b0q n (aj,(b.1,()),(()),c,d,(()),ao,())).bind λ(be,bf,bz,bg,x,cb,o,_)=>some (((Query.mk o.1.dots o.1.arrows o.1.wher o.1.items o.1.dist),(Graph.mk o.2.1.nodes o.2.1.edges o.2.1.next),o.2.2.1,()),be,(bf.1,()),(()),bg,((Query.mk x.1.dots x.1.arrows x.1.wher x.1.items x.1.dist),()),(()),())
 else some (ao,aj,(b.1,()),(()),c,d,(()),()))) (
 (q56z n (s,r,())).bind λ(ad,p,ak,_)=>let ap:=((Query.mk p.1.dots p.1.arrows p.1.wher p.1.items p.1.dist),(Graph.mk p.2.1.nodes p.2.1.edges p.2.1.next),p.2.2.1,());
 (q69z n ((Envr.mk (Graph.mk ad.g.nodes ad.g.edges ad.g.next) ad.at_),a.1.wher,())).bind λ(bp,_)=>
 (bif bp then
 (b0q n (ak,(b.1,()),(()),c,d,(()),ap,())).bind λ(bh,bi,cc,bj,y,cd,q,_)=>some (((Query.mk q.1.dots q.1.arrows q.1.wher q.1.items q.1.dist),(Graph.mk q.2.1.nodes q.2.1.edges q.2.1.next),q.2.2.1,()),bh,(bi.1,()),(()),bj,((Query.mk y.1.dots y.1.arrows y.1.wher y.1.items y.1.dist),()),(()),())
 else some (ap,ak,(b.1,()),(()),c,d,(()),()))))))
 else
 a0a (λbk=>l0g aE n bk (λ(j,av,br,aw,t,bs,ax,_)=>some (((Query.mk j.1.dots j.1.arrows j.1.wher j.1.items j.1.dist),(Graph.mk j.2.1.nodes j.2.1.edges j.2.1.next),j.2.2.1,()),ax,(av.1,()),(()),aw,((Query.mk t.1.dots t.1.arrows t.1.wher t.1.items t.1.dist),()),(()),())) (λ(_)=>none)) (n) (a1,(a.1.dots.length:Int),a.2.1.nodes,(a.2.1.nodes.length:Int),0,s,(b.1,()),(()),c,d,(()),r,()))
omit [Tabs] [QuietD Tryz.prog]in
theorem f1b(aE:Int×Y0×Y2×Y5×Unit×Y3×Y4×Unit×Unit->Option Y13)(n:Nat):x0x aE n=t0q aE n:=by
 funext x;unfold x0x t0q
 first|with_reducible rfl|simp only[a0p,b0g]
theorem s1v [UTabs] (aE:Int×Y0×Y2×Y5×Unit×Y3×Y4×Unit×Unit->Option Y13)(h_q25z:Contract Tryz.prog 47 c1q aE)(n:Nat):Contract Tryz.prog 47 c1q (x0x aE n):=
 ctD Tryz.func47 162 TT [(999999999,a1),(999999992,⟨[25],[],[],false⟩),(22,⟨[1000,1,2,3,4],[],[],false⟩),(47,⟨[0,1002,3],[],[],false⟩),(24,⟨[0,1001],[],[],false⟩),(76,⟨[0,1002],[],[],false⟩),(75,a0),(74,aT)] [] pN (oC (e1y n) (oC (x1n n) (oC (a1y n) (oC (p1e n) (oC (t1h n) (oC (h_q25z) (oN))))))) [0] (.none rfl) (by kernel_rfl) (lC ⟨[(0,.ptr 1000000 0),(2,.own 2000016),(3,.clo 22 [1000032,1000033,1000035,1000036])],[(1,.i64),(8,.i64),(41,(.lst .node)),(42,.i64),(43,.i64)],[(1000000,.box [.d .query,.d .graph,.d (.lst (.map .pair .bool))]),(1000032,.box [.d .i64]),(1000033,.box [.ref (.own 1000034)]),(1000034,.arr 52 .cnt),(1000035,.box [.d .query]),(1000036,.box [.ref (.ptr 1000000 0)]),(2000016,.arr 3 .i64)],[]⟩ ⟨[],[],[(1000000,.box [.d .query,.d .graph,.d (.lst (.map .pair .bool))]),(1000032,.box [.d .i64]),(1000033,.box [.ref (.own 1000034)]),(1000034,.arr 52 .cnt),(1000035,.box [.d .query]),(1000036,.box [.ref (.ptr 1000000 0)]),(2000016,.arr 3 .i64)],[]⟩ ⟨[],[],[],[]⟩ pN n (l0g aE n) [2] (lC ⟨[(0,.ptr 1000000 0),(2,.own 2000016),(3,.clo 22 [1000032,1000033,1000035,1000036]),(11,.ptr 11 0)],[(1,.i64),(8,.i64),(12,.i64),(13,.i64),(41,(.lst .node)),(42,.i64),(43,.i64),(118,(.lst .edg)),(119,.i64),(120,.i64)],[(11,.box [.d .arrow]),(1000000,.box [.d .query,.d .graph,.d (.lst (.map .pair .bool))]),(1000032,.box [.d .i64]),(1000033,.box [.ref (.own 1000034)]),(1000034,.arr 52 .cnt),(1000035,.box [.d .query]),(1000036,.box [.ref (.ptr 1000000 0)]),(2000016,.arr 3 .i64)],[]⟩ ⟨[(0,.ptr 1000000 0),(2,.own 2000016),(3,.clo 22 [1000032,1000033,1000035,1000036])],[(1,.i64),(8,.i64),(41,(.lst .node)),(42,.i64),(43,.i64)],[(1000000,.box [.d .query,.d .graph,.d (.lst (.map .pair .bool))]),(1000032,.box [.d .i64]),(1000033,.box [.ref (.own 1000034)]),(1000034,.arr 52 .cnt),(1000035,.box [.d .query]),(1000036,.box [.ref (.ptr 1000000 0)]),(2000016,.arr 3 .i64)],[]⟩ ⟨[],[],[],[]⟩ pN n (y0k aE n) [] lN lN) lN)
theorem a2w [UTabs] (aE:Int×Y0×Y2×Y5×Unit×Y3×Y4×Unit×Unit->Option Y13)(h_q25z:Contract Tryz.prog 47 c1q aE)(n:Nat):Contract Tryz.prog 47 c1q (t0q aE n):=(f1b aE n)▸s1v aE h_q25z n
theorem w1l [UTabs]:∀n,Contract Tryz.prog 47 c1q (q25z n)
 | 0=>λ_ _ h=>by cases h
 |n+1=>a2w _ (w1l n) n
theorem i2r [UTabs] (n:Nat):Contract Tryz.prog 15 l2j (q24z n):=
 ctD Tryz.func15 21 TT [(999999999,a1),(999999994,⟨[20],[],[],false⟩),(47,⟨[0,1002,3],[],[],false⟩)] [] pN (oC (w1l n) (oN)) [] (.none rfl) (by kernel_rfl) lN
def f2j:FnT:=⟨1,⟨[],[(0,(.lst .cnt))],[],[]⟩,[.v (.lst .cnt)],[]⟩
def m2k:FnT:=⟨1,⟨[],[(0,(.lst .cnt))],[],[]⟩,[.ref (.own 5)],[(5,.arr 52 .cnt)]⟩
theorem p1v:Contract Tryz.prog 56 m2k (q19z):=
 ctN Tryz.func56 8 TT [] [.tmp 2] ⟨[],[(2,5,52,2)],[]⟩ (oN) [] lN
def q2v:FnT:=⟨2,⟨[(0,.own 2000000),(1,.fn 58)],[],[(2000000,.arr 52 .cnt)],[]⟩,[],[(2000000,.arr 52 .cnt)]⟩
def k2r:FnT:=⟨3,⟨[(0,.own 2000000),(2,.fn 58)],[(1,.i64)],[(2000000,.arr 52 .cnt)],[]⟩,[],[(2000000,.arr 52 .cnt)]⟩
def q2k:FnT:=⟨4,⟨[(0,.own 2000000),(3,.fn 58)],[(1,.i64),(2,.i64)],[(2000000,.arr 52 .cnt)],[]⟩,[],[(2000000,.arr 52 .cnt)]⟩
def m2o:FnT:=⟨2,⟨[],[(0,.cnt),(1,.cnt)],[],[]⟩,[.v .i64],[]⟩
def o2k:FnT:=⟨2,⟨[],[(0,(.lst .val)),(1,(.lst .val))],[],[]⟩,[.v .i64],[]⟩
def r2a:FnT:=⟨3,⟨[(2,.fn 11)],[(0,(.lst .val)),(1,(.lst .val))],[],[]⟩,[.v .i64],[]⟩
theorem p2i(n:Nat):Contract Tryz.prog 99 r2a (q2z n):=
 ctN Tryz.func99 39 TT [(11,aT)] [.tmp 6] pN (oC (l0z n) (oN)) [0] (lC ⟨[(2,.fn 11)],[(0,(.lst .val)),(1,(.lst .val)),(11,(.lst .val)),(12,.i64),(13,.i64)],[],[]⟩ ⟨[],[(0,(.lst .val)),(1,(.lst .val))],[],[]⟩ ⟨[],[(6,.i64)],[],[]⟩ pN n (r1m n) [] lN lN)
theorem w0e(n:Nat):Contract Tryz.prog 59 o2k (q90z n):=
 ctN Tryz.func59 8 TT [(99,aT)] [.tmp 4] pN (oC (p2i n) (oN)) [] lN
theorem v1d(n:Nat):Contract Tryz.prog 58 m2o (q84z n):=
 ctN Tryz.func58 10 TT [(59,aT)] [.tmp 4] pN (oC (w0e n) (oN)) [] lN
theorem o2v(n:Nat):Contract Tryz.prog 133 q2k (q7z n):=
 ctD Tryz.func133 53 TT [(999999999,a1),(58,aT)] [] pN (oC (v1d n) (oN)) [0] (.none rfl) (by kernel_rfl) (lC ⟨[(0,.own 2000000),(3,.fn 58)],[(1,.i64),(2,.i64),(8,.i64)],[(2000000,.arr 52 .cnt)],[]⟩ ⟨[],[],[(2000000,.arr 52 .cnt)],[]⟩ ⟨[],[],[],[]⟩ pN n (d2k n) [2] (lC ⟨[(0,.own 2000000),(3,.fn 58)],[(1,.i64),(2,.i64),(8,.i64),(9,.i64)],[(2000000,.arr 52 .cnt)],[]⟩ ⟨[(0,.own 2000000),(3,.fn 58)],[(1,.i64),(2,.i64),(8,.i64)],[(2000000,.arr 52 .cnt)],[]⟩ ⟨[],[],[],[]⟩ pN n (e2n n) [] lN lN) lN)
def x1e:FnT:=⟨5,⟨[(0,.own 2000000),(4,.fn 58)],[(1,.i64),(2,.i64),(3,.i64)],[(2000000,.arr 52 .cnt)],[]⟩,[],[(2000000,.arr 52 .cnt)]⟩
def k2u:FnT:=⟨5,⟨[(0,.own 2000000),(4,.fn 58)],[(1,.i64),(2,.i64),(3,.i64)],[(2000000,.arr 52 .cnt)],[]⟩,[],[(2000000,.arr 52 .cnt)]⟩
def n2r:FnT:=⟨5,⟨[(0,.own 2000000),(4,.fn 58)],[(1,.i64),(2,.i64),(3,.i64)],[(2000000,.arr 52 .cnt)],[]⟩,[],[(2000000,.arr 52 .cnt)]⟩
theorem j2g(n:Nat):Contract Tryz.prog 155 n2r (q11z n):=
 ctD Tryz.func155 38 TT [(999999999,a1)] [] pN (oN) [0] (.none rfl) (by kernel_rfl) (lC ⟨[(0,.own 2000000)],[(1,.i64),(2,.i64),(3,.i64),(10,.i64)],[(2000000,.arr 52 .cnt)],[]⟩ ⟨[],[],[(2000000,.arr 52 .cnt)],[]⟩ ⟨[],[],[],[]⟩ pN n (v1m n) [] lN lN)
theorem f2u(n:Nat):Contract Tryz.prog 149 k2u (q14z n):=
 ctN Tryz.func149 58 TT [(999999999,a1),(155,⟨[1000],[],[],false⟩)] [] pN (oC (j2g n) (oN)) [0] (lC ⟨[(0,.own 2000000),(4,.fn 58)],[(2,.i64),(10,.i64),(11,.i64)],[(2000000,.arr 52 .cnt)],[]⟩ ⟨[(0,.own 2000000),(4,.fn 58)],[(2,.i64),(10,.i64)],[(2000000,.arr 52 .cnt)],[]⟩ ⟨[],[],[],[]⟩ pN n (p1h n) [] lN lN)
theorem a2d(aC:Int×Int×Int×Y3×Unit->Option Y22)(h_q12z:Contract Tryz.prog 134 x1e aC)(n:Nat):Contract Tryz.prog 134 x1e (e2j aC n):=
 ctD Tryz.func134 220 TT [(999999999,a1),(149,⟨[1000],[],[],false⟩),(134,⟨[1000],[],[],false⟩),(58,aT)] [] pN (oC (v1d n) (oC (f2u n) (oC (h_q12z) (oN)))) [0,2,4,6,8] (.none rfl) (by kernel_rfl) (lC ⟨[(0,.own 2000000),(4,.fn 58)],[(1,.i64),(10,.i64),(11,.i64)],[(2000000,.arr 52 .cnt)],[]⟩ ⟨[(0,.own 2000000)],[(1,.i64),(10,.i64)],[(2000000,.arr 52 .cnt)],[]⟩ ⟨[],[],[],[]⟩ pN n (s1a aC n) [] lN (lC ⟨[(0,.own 2000000)],[(10,.i64),(13,.i64)],[(2000000,.arr 52 .cnt)],[]⟩ ⟨[],[],[(2000000,.arr 52 .cnt)],[]⟩ ⟨[],[],[],[]⟩ pN n (r1y aC n) [] lN (lC ⟨[(0,.own 2000000),(4,.fn 58)],[(2,.i64),(14,.i64),(15,.i64)],[(2000000,.arr 52 .cnt)],[]⟩ ⟨[(0,.own 2000000)],[(2,.i64),(14,.i64)],[(2000000,.arr 52 .cnt)],[]⟩ ⟨[],[],[],[]⟩ pN n (w1c aC n) [] lN (lC ⟨[(0,.own 2000000)],[(14,.i64),(17,.i64)],[(2000000,.arr 52 .cnt)],[]⟩ ⟨[],[],[(2000000,.arr 52 .cnt)],[]⟩ ⟨[],[],[],[]⟩ pN n (o1r aC n) [] lN (lC ⟨[(0,.own 2000000),(4,.fn 58)],[(1,.i64),(2,.i64),(3,.i64),(18,.i64),(19,.i64),(20,.i64),(21,.i64),(22,.i64)],[(2000000,.arr 52 .cnt)],[]⟩ ⟨[(0,.own 2000000),(4,.fn 58)],[(1,.i64),(2,.i64),(3,.i64),(18,.i64),(19,.i64),(20,.i64)],[(2000000,.arr 52 .cnt)],[]⟩ ⟨[],[],[],[]⟩ pN n (g1i aC n) [] lN lN)))))
theorem q1n:∀n,Contract Tryz.prog 134 x1e (q12z n)
 | 0=>λ_ _ h=>by cases h
 |n+1=>a2d _ (q1n n) n
theorem g2n(n:Nat):Contract Tryz.prog 98 k2r (q15z n):=
 ctN Tryz.func98 63 TT [(999999999,a1),(133,⟨[1000],[],[],false⟩),(134,⟨[1000],[],[],false⟩)] [] pN (oC (o2v n) (oC (q1n n) (oN))) [0,2] (lC ⟨[(0,.own 2000000),(2,.fn 58)],[(1,.i64),(6,.i64),(7,.i64),(8,.i64)],[(2000000,.arr 52 .cnt)],[]⟩ ⟨[(0,.own 2000000),(2,.fn 58)],[(1,.i64),(6,.i64),(7,.i64)],[(2000000,.arr 52 .cnt)],[]⟩ ⟨[],[],[],[]⟩ pN n (x1l n) [] lN (lC ⟨[(0,.own 2000000),(2,.fn 58)],[(1,.i64),(6,.i64)],[(2000000,.arr 52 .cnt)],[]⟩ ⟨[],[],[(2000000,.arr 52 .cnt)],[]⟩ ⟨[],[],[],[]⟩ pN n (p1o n) [4] (lC ⟨[(0,.own 2000000),(2,.fn 58)],[(1,.i64),(6,.i64),(7,.i64),(8,.i64)],[(2000000,.arr 52 .cnt)],[]⟩ ⟨[(0,.own 2000000),(2,.fn 58)],[(1,.i64),(6,.i64),(7,.i64)],[(2000000,.arr 52 .cnt)],[]⟩ ⟨[],[],[],[]⟩ pN n (u1r n) [] lN lN) lN))
theorem d2e(n:Nat):Contract Tryz.prog 57 q2v (q5z n):=
 ctN Tryz.func57 9 TT [(999999999,a1),(98,⟨[1000],[],[],false⟩)] [] pN (oC (g2n n) (oN)) [] lN
def n2c:FnT:=⟨1,⟨[],[(0,(.lst .val))],[],[]⟩,[.v (.lst .val)],[]⟩
theorem h1d(n:Nat):Contract Tryz.prog 32 n2c (q91z n):=
 ctN Tryz.func32 19 TT [] [.tmp 2] pN (oC (j0w n) (oN)) [0] (lC ⟨[(3,.own 3)],[(6,(.lst .val)),(7,.i64),(8,.i64)],[(3,.arr 39 .val)],[]⟩ ⟨[(3,.own 3)],[],[(3,.arr 39 .val)],[]⟩ ⟨[],[],[],[]⟩ ⟨[],[(3,3,39,4)],[]⟩ n (g1n n) [] lN lN)
def q2s:FnT:=⟨2,⟨[(0,.own 1000000),(1,.fn 61)],[],[(1000000,.arr 52 .cnt)],[]⟩,[.ref (.own 1000000)],[(1000000,.arr 52 .cnt)]⟩
def p2y:FnT:=⟨2,⟨[(1,.fn 61)],[(0,(.lst .cnt))],[],[]⟩,[.v .i64],[]⟩
def n2f:FnT:=⟨1,⟨[],[(0,.cnt)],[],[]⟩,[.v .bool],[]⟩
theorem w1u:Contract Tryz.prog 61 n2f (q85z):=
 ctN Tryz.func61 6 TT [] [.tmp 2] pN (oN) [] lN
theorem g2k(n:Nat):Contract Tryz.prog 100 p2y (q10z n):=
 ctN Tryz.func100 19 TT [(61,aT)] [.tmp 4] pN (oC (w1u) (oN)) [0] (lC ⟨[(1,.fn 61)],[(0,(.lst .cnt)),(7,.i64),(8,.i64)],[],[]⟩ ⟨[],[],[],[]⟩ ⟨[],[(4,.i64)],[],[]⟩ pN n (d1v n) [] lN lN)
theorem e2p(n:Nat):Contract Tryz.prog 60 q2s (q8z n):=
 ctN Tryz.func60 42 TT [(999999999,a1),(100,aT),(61,aT)] [.tmp 4] pN (oC (g2k n) (oC (w1u) (oN))) [0] (lC ⟨[(0,.own 1000000),(1,.fn 61)],[(5,.i64),(6,.i64)],[(1000000,.arr 52 .cnt)],[]⟩ ⟨[(0,.own 1000000)],[(5,.i64)],[(1000000,.arr 52 .cnt)],[]⟩ ⟨[],[],[],[]⟩ pN n (v0i n) [] lN lN)
theorem z1o(n:Nat):Contract Tryz.prog 26 f2j (a1o n):=
 ctD Tryz.func26 55 TT [(999999999,a1),(57,⟨[1000],[],[],false⟩),(60,⟨[0],[⟨0,1000000,52,2⟩],[],false⟩),(56,⟨[],[],[5],false⟩),(59,aT)] [.tmp 2] pN (oC (p1v) (oC (d2e n) (oC (w0e n) (oC (h1d n) (oC (e2p n) (oN)))))) [0] (.none rfl) (by kernel_rfl) (lC ⟨[(3,.own 3)],[(11,(.lst .cnt)),(12,.i64),(13,.i64)],[(3,.arr 52 .cnt)],[]⟩ ⟨[(3,.own 3)],[],[(3,.arr 52 .cnt)],[]⟩ ⟨[],[],[],[]⟩ ⟨[8],[(3,3,52,2)],[]⟩ n (x0c n) [] lN lN)
def u0z:FnT:=⟨2,⟨[],[(0,.query),(1,(.lst .cnt))],[],[]⟩,[.v (.lst .cnt)],[]⟩
def o2e:FnT:=⟨1,⟨[],[(0,.query)],[],[]⟩,[.v .bool],[]⟩
def q2r:FnT:=⟨2,⟨[(1,.fn 94)],[(0,(.lst .item))],[],[]⟩,[.v .bool],[]⟩
def q2y:FnT:=⟨2,⟨[(1,.fn 94)],[(0,(.lst .item))],[],[]⟩,[.v .i64],[]⟩
def l2y:FnT:=⟨1,⟨[],[(0,.item)],[],[]⟩,[.v .bool],[]⟩
theorem g2r:Contract Tryz.prog 94 l2y (q77z):=
 ctN Tryz.func94 6 TT [] [.tmp 2] pN (oN) [] lN
theorem q2c(n:Nat):Contract Tryz.prog 128 q2y (q9z n):=
 ctN Tryz.func128 19 TT [(94,aT)] [.tmp 4] pN (oC (g2r) (oN)) [0] (lC ⟨[(1,.fn 94)],[(0,(.lst .item)),(7,.i64),(8,.i64)],[],[]⟩ ⟨[],[],[],[]⟩ ⟨[],[(4,.i64)],[],[]⟩ pN n (t1l n) [] lN lN)
theorem p2c(n:Nat):Contract Tryz.prog 93 q2r (q6z n):=
 ctN Tryz.func93 9 TT [(128,aT)] [.tmp 4] pN (oC (q2c n) (oN)) [] lN
theorem h2j(n:Nat):Contract Tryz.prog 52 o2e (q89z n):=
 ctN Tryz.func52 6 TT [(93,aT)] [.tmp 2] pN (oC (p2c n) (oN)) [] lN
def l2o:FnT:=⟨1,⟨[],[(0,(.lst .cnt))],[],[]⟩,[.ref (.own 3)],[(3,.arr 52 .cnt)]⟩
theorem i2k(n:Nat):Contract Tryz.prog 26 l2o (q71z n):=
 ctD Tryz.func26 55 TT [(999999999,a1),(57,⟨[1000],[],[],false⟩),(60,⟨[0],[⟨0,1000000,52,2⟩],[],false⟩),(56,⟨[],[],[5],false⟩),(59,aT)] [.tmp 2] ⟨[],[(2,3,52,2)],[]⟩ (oC (p1v) (oC (d2e n) (oC (w0e n) (oC (h1d n) (oC (e2p n) (oN)))))) [0] (.none rfl) (by kernel_rfl) (lC ⟨[(3,.own 3)],[(11,(.lst .cnt)),(12,.i64),(13,.i64)],[(3,.arr 52 .cnt)],[]⟩ ⟨[(3,.own 3)],[],[(3,.arr 52 .cnt)],[]⟩ ⟨[],[],[],[]⟩ ⟨[8],[(3,3,52,2)],[]⟩ n (q1d n) [] lN lN)
def g2l:FnT:=⟨2,⟨[],[(0,(.lst .val)),(1,(.lst .i64))],[],[]⟩,[.v (.lst .val)],[]⟩
theorem z1x(n:Nat):Contract Tryz.prog 53 g2l (b2n n):=
 ctN Tryz.func53 23 TT [] [.tmp 4] pN (oN) [0] (lC ⟨[(5,.own 5)],[(0,(.lst .val)),(8,(.lst .i64)),(9,.i64),(10,.i64)],[(5,.arr 39 .val)],[]⟩ ⟨[(5,.own 5)],[],[(5,.arr 39 .val)],[]⟩ ⟨[],[],[],[]⟩ ⟨[],[(5,5,39,4)],[]⟩ n (w0z n) [] lN lN)
def m1w:FnT:=⟨1,⟨[],[(0,(.lst .val))],[],[]⟩,[.v .str],[]⟩
def o0h:FnT:=⟨2,⟨[(0,.own 1000000)],[(1,.val)],[(1000000,.arr 5 .u8)],[]⟩,[.ref (.own 1000000)],[(1000000,.arr 5 .u8)]⟩
def l2z:FnT:=⟨3,⟨[(0,.own 1000000)],[(1,.u64),(2,.i64)],[(1000000,.arr 5 .u8)],[]⟩,[.ref (.own 1000000)],[(1000000,.arr 5 .u8)]⟩
theorem h2i(n:Nat):Contract Tryz.prog 129 l2z (q92z n):=
 ctN Tryz.func129 23 TT [] [.tmp 6] pN (oN) [0] (lC ⟨[(0,.own 1000000)],[(1,.u64),(7,.i64)],[(1000000,.arr 5 .u8)],[]⟩ ⟨[(0,.own 1000000)],[],[(1000000,.arr 5 .u8)],[]⟩ ⟨[],[],[],[]⟩ ⟨[],[(0,0,5,1)],[]⟩ n (r0l n) [] lN lN)
theorem b1s(aN:Val×Y2×Unit->Option Y44)(h_code_Put:Contract Tryz.prog 95 o0h aN)(n:Nat):Contract Tryz.prog 95 o0h (e0k aN n):=
 ctN Tryz.func95 57 TT [(129,⟨[0],[⟨0,1000000,5,1⟩],[],false⟩),(95,⟨[0],[⟨0,1000000,5,1⟩],[],false⟩)] [.tmp 4] pN (oC (h2i n) (oC (h_code_Put) (oN))) [1] (lC ⟨[(0,.own 1000000)],[(46,(.lst .val)),(47,.i64),(48,.i64)],[(1000000,.arr 5 .u8)],[]⟩ ⟨[(0,.own 1000000)],[],[(1000000,.arr 5 .u8)],[]⟩ ⟨[],[],[],[]⟩ pN n (e0l aN n) [] lN lN)
theorem r0r:∀n,Contract Tryz.prog 95 o0h (d0k n)
 | 0=>λ_ _ h=>by cases h
 |n+1=>b1s _ (r0r n) n
theorem d1x(n:Nat):Contract Tryz.prog 54 m1w (q0k n):=
 ctN Tryz.func54 18 TT [(95,⟨[0],[⟨0,1000000,5,1⟩],[],false⟩)] [.tmp 2] pN (oC (r0r n) (oN)) [0] (lC ⟨[(3,.own 3)],[(6,(.lst .val)),(7,.i64),(8,.i64)],[(3,.arr 5 .u8)],[]⟩ ⟨[(3,.own 3)],[],[(3,.arr 5 .u8)],[]⟩ ⟨[],[],[],[]⟩ ⟨[],[(3,3,5,1)],[]⟩ n (k0r n) [] lN lN)
def n1u:FnT:=⟨2,⟨[],[(0,.str),(1,(.lst .cnt))],[],[]⟩,[.v .val],[]⟩
def p2b:FnT:=⟨3,⟨[(0,.ptr 1000000 0)],[(1,.i64),(2,.i64)],[(1000000,.box [.d .u64,.d .u64])],[]⟩,[],[(1000000,.box [.d .u64,.d .u64])]⟩
theorem j2y:Contract Tryz.prog 96 p2b (q80z):=
 ctN Tryz.func96 75 TT [(130,aT),(131,aT),(132,aT)] [] pN (oC (s1q) (oE (t1o) (oE (u1e) (oN)))) [] lN
def k2p:FnT:=⟨1,⟨[(0,.ptr 1000000 0)],[],[(1000000,.box [.d .u64,.d .u64])],[]⟩,[.v .i64,.v .bool],[(1000000,.box [.d .u64,.d .u64])]⟩
theorem j2m:Contract Tryz.prog 97 k2p (q68z):=
 ctD Tryz.func97 19 TT [] [.tmp 2,.tmp 3] pN (oN) [] (.none rfl) (by kernel_rfl) lN
theorem e1c(n:Nat):Contract Tryz.prog 55 n1u (l0j n):=
 ctN Tryz.func55 80 TT [(96,a0),(97,a0),(11,aT)] [.cell 4 39] pN (oC (j2y) (oC (l0z n) (oC (j2m) (oC (j0w n) (oN))))) [0] (lC ⟨[(4,.ptr 4 0),(5,.ptr 5 0),(7,.ptr 7 0)],[(0,.str),(6,.i64),(14,(.lst .cnt)),(15,.i64),(16,.i64)],[(4,.box [.d .val]),(5,.box [.d .val]),(7,.box [.d .u64,.d .u64])],[]⟩ ⟨[(4,.ptr 4 0),(5,.ptr 5 0),(7,.ptr 7 0)],[(0,.str),(6,.i64)],[(4,.box [.d .val]),(5,.box [.d .val]),(7,.box [.d .u64,.d .u64])],[]⟩ ⟨[],[],[],[]⟩ pN n (l0c n) [] lN lN)
def e0n{ρ:Type}(n:Nat)(rec:Y2×Y2×Y19×Bt×Int×Y15×Int×Int×Y2×Int×Int×Y3×Int×Int×Y4×Y3×Y3×Y9×Unit->Option ρ)(kx:Y2×Y2×Y19×Bt×Int×Y15×Int×Int×Y2×Int×Int×Y4×Y3×Y3×Y9×Unit->Option ρ)(kr:Unit->Option ρ):Y2×Y2×Y19×Bt×Int×Y15×Int×Int×Y2×Int×Int×Y3×Int×Int×Y4×Y3×Y3×Y9×Unit->Option ρ:=
 λ(q,t,u,v,b,w,x,h,j,k,m,o,p,d,e,f,a,g,_)=>
 (bif decide ((d:Int)<p)then
 (ix o d).bind λc=>
 dem2 (
 dem2 (
 dem2 (
 (ix c.r b).bind λy=>let ar:=(Cnt.mk ([(Val.mk y.kind y.n y.s y.l)]:List Val) c.n);let ai:Option ρ:=(
 ck (room (a++([ar]:List Cnt)).length 32) (rec (q,t,u,v,b,w,x,h,j,k,m,o,p,wI (d+1),e,f,a++([ar]:List Cnt),g,())));
 dem2 (
 (let z1q:=ai
 dem2 z1q (dem2 z1q z1q))) (
 dem2 (
 (let z2q:=ai
 dem2 z2q z2q)) ai)) (
 dem2 (
 (ix c.r b).bind λz=>let au:=(Cnt.mk ([(Val.mk z.kind z.n z.s z.l)]:List Val) c.n);let ao:Option ρ:=(
 ck (room (a++([au]:List Cnt)).length 32) (rec (q,t,u,v,b,w,x,h,j,k,m,o,p,wI (d+1),e,f,a++([au]:List Cnt),g,())));
 dem2 (
 (let z3q:=ao
 dem2 z3q z3q)) ao) (
 (ix c.r b).bind λaa=>let av:=(Cnt.mk ([(Val.mk aa.kind aa.n aa.s aa.l)]:List Val) c.n);
 ck (room (a++([av]:List Cnt)).length 32) (rec (q,t,u,v,b,w,x,h,j,k,m,o,p,wI (d+1),e,f,a++([av]:List Cnt),g,()))))) (
 dem2 (
 dem2 (
 (ix c.r b).bind λab=>let aw:=(Cnt.mk ([(Val.mk ab.kind ab.n ab.s ab.l)]:List Val) c.n);let ap:Option ρ:=(
 ck (room (a++([aw]:List Cnt)).length 32) (rec (q,t,u,v,b,w,x,h,j,k,m,o,p,wI (d+1),e,f,a++([aw]:List Cnt),g,())));
 dem2 (
 (let z4q:=ap
 dem2 z4q z4q)) ap) (
 (ix c.r b).bind λac=>let ax:=(Cnt.mk ([(Val.mk ac.kind ac.n ac.s ac.l)]:List Val) c.n);
 ck (room (a++([ax]:List Cnt)).length 32) (rec (q,t,u,v,b,w,x,h,j,k,m,o,p,wI (d+1),e,f,a++([ax]:List Cnt),g,())))) (
 (ix c.r b).bind λad=>let aj:=(Cnt.mk ([(Val.mk ad.kind ad.n ad.s ad.l)]:List Val) c.n);
 ck (room (a++([aj]:List Cnt)).length 32) (rec (q,t,u,v,b,w,x,h,j,k,m,o,p,wI (d+1),e,f,a++([aj]:List Cnt),g,()))))) (
 dem2 (
 dem2 (
 dem2 (
 (ix c.r b).bind λae=>let ak:=(Cnt.mk ([(Val.mk ae.kind ae.n ae.s ae.l)]:List Val) c.n);let aq:Option ρ:=(
 ck (room (a++([ak]:List Cnt)).length 32) (rec (q,t,u,v,b,w,x,h,j,k,m,o,p,wI (d+1),e,f,a++([ak]:List Cnt),g,())));
 dem2 (
 (let z5q:=aq
 dem2 z5q z5q)) aq) (
 (ix c.r b).bind λaf=>let al:=(Cnt.mk ([(Val.mk af.kind af.n af.s af.l)]:List Val) c.n);
 ck (room (a++([al]:List Cnt)).length 32) (rec (q,t,u,v,b,w,x,h,j,k,m,o,p,wI (d+1),e,f,a++([al]:List Cnt),g,())))) (
 (ix c.r b).bind λag=>let am:=(Cnt.mk ([(Val.mk ag.kind ag.n ag.s ag.l)]:List Val) c.n);
 ck (room (a++([am]:List Cnt)).length 32) (rec (q,t,u,v,b,w,x,h,j,k,m,o,p,wI (d+1),e,f,a++([am]:List Cnt),g,())))) (
 (ix c.r b).bind λah=>let an:=(Cnt.mk ([(Val.mk ah.kind ah.n ah.s ah.l)]:List Val) c.n);
 ck (room (a++([an]:List Cnt)).length 32) (rec (q,t,u,v,b,w,x,h,j,k,m,o,p,wI (d+1),e,f,a++([an]:List Cnt),g,()))))
 else kx (q,t,u,v,b,w,x,h,j,k,m,e,f,a,g,()))
omit [Tabs] [QuietD Tryz.prog]in
theorem e0a{ρ:Type}(n:Nat): @e0n ρ n= @f0z ρ n:=by
 funext rec kx kr s;unfold e0n f0z b0t
 first|with_reducible rfl|simp only[a0p,b0g]
def d0w{ρ:Type}(n:Nat)(rec:Y2×Y2×Y19×Bt×Y15×Int×Int×Y2×Int×Int×Y4×Y3×Y9×Unit->Option ρ)(kx:Y2×Y2×Y19×Y15×Int×Int×Y4×Y3×Y9×Unit->Option ρ)(kr:Unit->Option ρ):Y2×Y2×Y19×Bt×Y15×Int×Int×Y2×Int×Int×Y4×Y3×Y9×Unit->Option ρ:=
 λ(m,o,b,e,p,q,r,t,u,f,h,j,k,_)=>
 (bif decide ((f:Int)<u)then
 (ix t f).bind λaj=>
 a0a (λx=>e0n n x (λ(y,z,aa,ab,a,ac,ad,ae,af,ag,ah,g,v,w,d,_)=>
 (ix g.1.items a).bind λai=>
 (l0j n (ai.agg,w,())).bind λ(c,_)=>
 (ix d a).bind λ_=>
 ((d)[(a:Int).toNat]?).bind λak=>rec (y,z,aa,ab,ac,ad,ae,af,ag,wI (ah+1),g,v,(d).set ((a:Int).toNat) (Val.mk c.kind c.n c.s c.l),())) (λ(_)=>none)) (n) (m,o,b,e,aj,p,q,r,t,u,f,(a0k .str (.lst .cnt) ([]:List Cnt) b e),((a0k .str (.lst .cnt) ([]:List Cnt) b e).length:Int),0,h,j,([]:List Cnt),k,())
 else kx (m,o,b,p,q,r,h,j,k,()))
omit [Tabs] [QuietD Tryz.prog]in
theorem i0d{ρ:Type}(n:Nat): @d0w ρ n= @c0f ρ n:=by
 funext rec kx kr s;unfold d0w c0f
 first|with_reducible rfl|simp only[a0p,b0g,e0a]
def d0g{ρ:Type}(n:Nat)(rec:Y2×Y2×Y19×Y15×Int×Int×Y4×Y3×Unit->Option ρ)(kx:Y4×Y3×Unit->Option ρ)(kr:Unit->Option ρ):Y2×Y2×Y19×Y15×Int×Int×Y4×Y3×Unit->Option ρ:=
 λ(b,c,d,j,k,e,a,h,_)=>let r:=(Val.mk 0 0 (⟨#[]⟩:Bt) ([]:List Val));
 (bif decide ((e:Int)<k)then
 (ix j e).bind λf=>
 (cnt? (a.1.items.length:Int)).bind λg=>
 ck (room g 56) (
 (bif decide ((((a0k .str (.lst .cnt) ([]:List Cnt) d f).length:Int):Int) >0)then
 a0a (λy=>h0l n y (λ(am,l,an,ao,ap,aq,ar,u,v,w,_)=>
 a0a (λx=>d0w n x (λ(aa,ab,ac,ad,ae,af,s,m,o,_)=>
 ck (room (m++([(Cnt.mk o 1)]:List Cnt)).length 32) (rec (aa,ab,ac,ad,ae,wI (af+1),s,m++([(Cnt.mk o 1)]:List Cnt),()))) (λ(_)=>none)) (n) (am,l,an,ao,ap,aq,ar,l,(l.length:Int),0,u,v,w,())) (λ(_)=>none)) (n) (b,c,d,f,(a0k .str (.lst .cnt) ([]:List Cnt) d f),j,k,e,b,(b.length:Int),0,a,h,(List.replicate g r),())
 else
 a0a (λz=>d0w n z (λ(ag,ah,ai,aj,ak,al,t,p,q,_)=>
 ck (room (p++([(Cnt.mk q 1)]:List Cnt)).length 32) (rec (ag,ah,ai,aj,ak,wI (al+1),t,p++([(Cnt.mk q 1)]:List Cnt),()))) (λ(_)=>none)) (n) (b,c,d,f,j,k,e,c,(c.length:Int),0,a,h,(List.replicate g r),())))
 else kx (a,h,()))
omit [Tabs] [QuietD Tryz.prog]in
theorem p0q{ρ:Type}(n:Nat): @d0g ρ n= @c0a ρ n:=by
 funext rec kx kr s;unfold d0g c0a
 first|with_reducible rfl|simp only[a0p,b0g,e0a,i0d]
def o0a(n:Nat):Query×Y3×Unit->Option Y22:=
 λ(a,g,_)=>
 (q89z n (a,())).bind λ(y3,_)=>
 (bif !y3 then
 (q71z n (g,())).bind λ(d,_)=>
 (bif a.dist then
 a0a (λw=>a0n n w (λ(v,_)=>some (v,())) (λ(_)=>none)) (n) ((d.length:Int),0,d,())
 else some (d,()))
 else
 a0a (λac=>h0i n ac (λ(e,s,t,u,_)=>
 a0a (λab=>h0z n ab (λ(ad,f,h,i,j,k,_)=>
 (bif (((f.length:Int):Int)==0)&& (((ad.length:Int):Int)==0)then
 a0a (λy=>d0g n y (λ(l,m,_)=>
 (q71z n (m,())).bind λ(b,_)=>
 (bif l.1.dist then
 a0a (λx=>a0n n x (λ(o,_)=>some (o,())) (λ(_)=>none)) (n) ((b.length:Int),0,b,())
 else some (b,()))) (λ(_)=>none)) (n) (f,i,b0d .str (.lst .cnt) k (⟨#[]⟩:Bt) ([]:List Cnt),([(⟨#[]⟩:Bt)]:List Bt),(([(⟨#[]⟩:Bt)]:List Bt).length:Int),0,h,([]:List Cnt),())
 else
 a0a (λaa=>d0g n aa (λ(p,q,_)=>
 (q71z n (q,())).bind λ(c,_)=>
 (bif p.1.dist then
 a0a (λz=>a0n n z (λ(r,_)=>some (r,())) (λ(_)=>none)) (n) ((c.length:Int),0,c,())
 else some (c,()))) (λ(_)=>none)) (n) (f,i,k,j,(j.length:Int),0,h,([]:List Cnt),()))) (λ(_)=>none)) (n) (e,t,e,(e.length:Int),0,s,u,([]:List Bt),([]:List (Bt×Y3)),())) (λ(_)=>none)) (n) (g,a.items,(a.items.length:Int),0,(a,()),([]:List Int),([]:List Int),()))
omit [Tabs] [QuietD Tryz.prog]in
theorem v0z(n:Nat):o0a n=h0u n:=by
 funext x;unfold o0a h0u
 first|with_reducible rfl|simp only[a0p,b0g,e0a,i0d,p0q]
theorem z0g(n:Nat):Contract Tryz.prog 25 u0z (o0a n):=
 ctD Tryz.func25 186 TT [(999999999,a1),(999999992,⟨[140],[],[],false⟩),(999999991,⟨[53,52],[],[],false⟩),(52,aT),(26,⟨[],[],[3],false⟩),(54,aT)] [.tmp 4] pN (oC (h2j n) (oC (i2k n) (oC (z1x n) (oC (d1x n) (oC (e1c n) (oN)))))) [0,2,4,12] (.none rfl) (by kernel_rfl) (lC ⟨[(2,.ptr 2 0),(5,.nils),(6,.own 6),(7,.own 7)],[(1,(.lst .cnt)),(34,(.lst .item)),(35,.i64),(36,.i64)],[(2,.box [.d .query]),(6,.arr 3 .i64),(7,.arr 3 .i64)],[]⟩ ⟨[(2,.ptr 2 0),(5,.nils),(6,.own 6),(7,.own 7)],[(1,(.lst .cnt))],[(2,.box [.d .query]),(6,.arr 3 .i64),(7,.arr 3 .i64)],[]⟩ ⟨[],[],[],[]⟩ ⟨[],[(6,6,3,1),(7,7,3,1)],[]⟩ n (h0i n) [] lN (lC ⟨[(2,.ptr 2 0),(5,.nils),(7,.own 7),(10,.fn 53),(11,.mpr 53),(12,.own 12)],[(1,(.lst .cnt)),(6,(.lst .i64)),(54,(.lst .cnt)),(55,.i64),(56,.i64)],[(2,.box [.d .query]),(7,.arr 3 .i64),(12,.arr 9 .str),(53,.mr 121 52 .str .cnt)],[]⟩ ⟨[(2,.ptr 2 0),(5,.nils),(7,.own 7),(11,.mpr 53),(12,.own 12)],[(1,(.lst .cnt)),(6,(.lst .i64))],[(2,.box [.d .query]),(7,.arr 3 .i64),(12,.arr 9 .str),(53,.mr 121 52 .str .cnt)],[]⟩ ⟨[],[],[],[]⟩ ⟨[6],[(12,12,9,1)],[]⟩ n (h0z n) [] lN (lC ⟨[(2,.ptr 2 0),(5,.own 5)],[(6,(.lst .i64)),(7,(.lst .i64)),(11,(.map .str (.lst .cnt))),(93,(.lst .str)),(94,.i64),(95,.i64)],[(2,.box [.d .query]),(5,.arr 52 .cnt)],[]⟩ ⟨[(2,.ptr 2 0),(5,.own 5)],[],[(2,.box [.d .query]),(5,.arr 52 .cnt)],[]⟩ ⟨[],[],[],[]⟩ ⟨[12,92,53,53,7],[(5,5,52,2)],[]⟩ n (d0g n) [6,8] (lC ⟨[(2,.ptr 2 0),(5,.own 5),(18,.own 102)],[(6,(.lst .i64)),(7,(.lst .i64)),(11,(.map .str (.lst .cnt))),(17,.str),(19,(.lst .cnt)),(93,(.lst .str)),(94,.i64),(95,.i64),(109,(.lst .i64)),(110,.i64),(111,.i64)],[(2,.box [.d .query]),(5,.arr 52 .cnt),(102,.arr 39 .val)],[]⟩ ⟨[(2,.ptr 2 0),(5,.own 5),(18,.own 102)],[(6,(.lst .i64)),(7,(.lst .i64)),(11,(.map .str (.lst .cnt))),(17,.str),(93,(.lst .str)),(94,.i64),(95,.i64)],[(2,.box [.d .query]),(5,.arr 52 .cnt),(102,.arr 39 .val)],[]⟩ ⟨[],[],[],[]⟩ pN n (h0l n) [] lN (lC ⟨[(2,.ptr 2 0),(5,.own 5),(18,.own 102)],[(6,(.lst .i64)),(7,(.lst .i64)),(11,(.map .str (.lst .cnt))),(17,.str),(93,(.lst .str)),(94,.i64),(95,.i64),(126,(.lst .i64)),(127,.i64),(128,.i64)],[(2,.box [.d .query]),(5,.arr 52 .cnt),(102,.arr 39 .val)],[]⟩ ⟨[(2,.ptr 2 0),(5,.own 5),(18,.own 102)],[(6,(.lst .i64)),(7,(.lst .i64)),(11,(.map .str (.lst .cnt))),(93,(.lst .str)),(94,.i64),(95,.i64)],[(2,.box [.d .query]),(5,.arr 52 .cnt),(102,.arr 39 .val)],[]⟩ ⟨[],[],[],[]⟩ pN n (d0w n) [10] (lC ⟨[(2,.ptr 2 0),(5,.own 5),(18,.own 102),(24,.own 24)],[(6,(.lst .i64)),(7,(.lst .i64)),(11,(.map .str (.lst .cnt))),(17,.str),(23,.i64),(93,(.lst .str)),(94,.i64),(95,.i64),(126,(.lst .i64)),(127,.i64),(128,.i64),(134,(.lst .cnt)),(135,.i64),(136,.i64)],[(2,.box [.d .query]),(5,.arr 52 .cnt),(24,.arr 52 .cnt),(102,.arr 39 .val)],[]⟩ ⟨[(2,.ptr 2 0),(5,.own 5),(18,.own 102),(24,.own 24)],[(6,(.lst .i64)),(7,(.lst .i64)),(11,(.map .str (.lst .cnt))),(17,.str),(23,.i64),(93,(.lst .str)),(94,.i64),(95,.i64),(126,(.lst .i64)),(127,.i64),(128,.i64)],[(2,.box [.d .query]),(5,.arr 52 .cnt),(24,.arr 52 .cnt),(102,.arr 39 .val)],[]⟩ ⟨[],[],[],[]⟩ ⟨[],[(24,24,52,2)],[]⟩ n (e0n n) [] lN lN) lN)) (lC ⟨[(27,.own 172)],[(176,.i64),(177,.i64)],[(172,.arr 52 .cnt)],[]⟩ ⟨[(27,.own 172)],[],[(172,.arr 52 .cnt)],[]⟩ ⟨[],[],[],[]⟩ pN n (a0n n) [] lN lN))))
theorem g1c(n:Nat):Contract Tryz.prog 25 u0z (h0u n):=(v0z n)▸z0g n
theorem u0e [UTabs] (n:Nat):Contract Tryz.prog 8 u1b (h0t n):=
 ctD Tryz.func8 33 TT [(999999999,a1),(1700000010,⟨[8,0,600008,52,2],[],[],false⟩),(15,⟨[0,1],[],[],false⟩),(12,aT),(13,aT),(14,⟨[],[],[12],false⟩)] [.tmp 4,.tmp 5] pN (oC (e1x n) (oC (x1k n) (oC (o0t n) (oC (i2r n) (oC (z1o n) (oC (g1c n) (oN))))))) [] (.none rfl) (by kernel_rfl) lN
theorem f1o [UDef] [UTabs] (n:Nat):Contract Tryz.prog 20 m1s (w0j n):=
 ctN Tryz.func20 26 TT [] [.tmp 4,.tmp 5,.tmp 6] pN (oC (e2z n) (oC (u0e n) (oN))) [] lN
def o2l:FnT:=⟨1,⟨[],[(0,.i64)],[],[]⟩,[.v .val],[]⟩
theorem v1w:Contract Tryz.prog 7 o2l (q66z):=
 ctN Tryz.func7 5 TT [] [.cell 2 39] pN (oN) [] lN
def p2u:FnT:=⟨2,⟨[],[(0,(.lst .cnt)),(1,(.lst .cnt))],[],[]⟩,[.v .bool],[]⟩
def q2g:FnT:=⟨3,⟨[(2,.fn 28)],[(0,(.lst .cnt)),(1,(.lst .cnt))],[],[]⟩,[.v .bool],[]⟩
def p2r:FnT:=⟨2,⟨[],[(0,.cnt),(1,.cnt)],[],[]⟩,[.v .bool],[]⟩
def k2w:FnT:=⟨2,⟨[],[(0,(.lst .val)),(1,(.lst .val))],[],[]⟩,[.v .i64],[]⟩
def v1g:FnT:=⟨2,⟨[],[(0,.val),(1,.val)],[],[]⟩,[.v .i64],[]⟩
def o2q:FnT:=⟨2,⟨[],[(0,(.lst .u8)),(1,(.lst .u8))],[],[]⟩,[.v .i64],[]⟩
theorem g2p:Contract Tryz.prog 101 o2q (q78z):=
 ctN Tryz.func101 8 TT [] [.tmp 4] pN (oE (l2e) (oN)) [] lN
theorem y1n(bA:Val×Val×Unit->Option Y5)(h_q38z:Contract Tryz.prog 62 v1g bA)(n:Nat):Contract Tryz.prog 62 v1g (p1l bA n):=
 ctD Tryz.func62 88 TT [(101,aT),(62,aT)] [.tmp 4] pN (oC (g2p) (oC (h_q38z) (oN))) [1] (.none rfl) (by kernel_rfl) (lC ⟨[(2,.ptr 2 0),(3,.ptr 3 0)],[(5,.i64)],[(2,.box [.d .val]),(3,.box [.d .val])],[]⟩ ⟨[(2,.ptr 2 0),(3,.ptr 3 0)],[],[(2,.box [.d .val]),(3,.box [.d .val])],[]⟩ ⟨[],[(4,.i64)],[],[]⟩ pN n (n0v bA n) [] lN lN)
theorem u1y:∀n,Contract Tryz.prog 62 v1g (q38z n)
 | 0=>λ_ _ h=>by cases h
 |n+1=>y1n _ (u1y n) n
theorem j2j(n:Nat):Contract Tryz.prog 29 k2w (q30z n):=
 ctN Tryz.func29 10 TT [(62,aT)] [.tmp 4] pN (oC (u1y n) (oN)) [] lN
theorem h2t(n:Nat):Contract Tryz.prog 28 p2r (q32z n):=
 ctN Tryz.func28 18 TT [(29,aT)] [.tmp 4] pN (oC (j2j n) (oN)) [] lN
theorem n2x(n:Nat):Contract Tryz.prog 27 q2g (q0z n):=
 ctN Tryz.func27 32 TT [(28,aT)] [.tmp 6] pN (oC (h2t n) (oN)) [0] (lC ⟨[(2,.fn 28)],[(1,(.lst .cnt)),(15,(.lst .cnt)),(16,.i64),(17,.i64)],[],[]⟩ ⟨[],[],[],[]⟩ ⟨[],[(6,.bool)],[],[]⟩ pN n (d2w n) [] lN lN)
theorem q1a(n:Nat):Contract Tryz.prog 9 p2u (q39z n):=
 ctN Tryz.func9 8 TT [(27,aT)] [.tmp 4] pN (oC (n2x n) (oN)) [] lN
theorem j2k [UDef] [UTabs] (n:Nat):Contract Tryz.prog 6 p2o (q53z n):=
 ctN Tryz.func6 24 TT [(9,aT)] [.tmp 0] pN (oC (f2b) (oC (f1o n) (oC (v1w) (oC (q1a n) (oN))))) [] lN
def o2n:FnT:=⟨1,⟨[],[(0,(.lst .cnt))],[],[]⟩,[.v (.lst .cnt),.v .i64],[]⟩
def n2q:FnT:=⟨3,⟨[(2,.clo 31 [1000000])],[(0,(.lst .cnt)),(1,(.lst .cnt))],[(1000000,.box [.d (.lst .cnt)])],[]⟩,[.v (.lst .cnt),.v .i64],[(1000000,.box [.d (.lst .cnt)])]⟩
def g1y:FnT:=⟨1,⟨[],[(0,(.lst .cnt))],[],[]⟩,[.v .i64],[]⟩
theorem a1k [UTabs] (n:Nat):Contract Tryz.prog 63 g1y (g0v n):=
 ctD Tryz.func63 63 TT [(70,aT),(59,aT)] [.tmp 2] pN (oC (p0x n) (oC (w0e n) (oN))) [0] (.none rfl) (by kernel_rfl) (lC ⟨[],[(0,(.lst .cnt)),(11,(.lst .cnt)),(12,.i64),(13,.i64)],[],[]⟩ ⟨[],[],[],[]⟩ ⟨[],[(2,.i64)],[],[]⟩ pN n (i0i n) [2] (lC ⟨[(4,.ptr 4 0)],[(0,(.lst .cnt)),(3,.i64),(11,(.lst .cnt)),(12,.i64),(13,.i64),(23,(.lst .val)),(24,.i64),(25,.i64)],[(4,.box [.d .cnt])],[]⟩ ⟨[(4,.ptr 4 0)],[(0,(.lst .cnt)),(3,.i64),(11,(.lst .cnt)),(12,.i64),(13,.i64)],[(4,.box [.d .cnt])],[]⟩ ⟨[],[(2,.i64)],[],[]⟩ pN n (g0a n) [] lN lN) lN)
def p2f:FnT:=⟨1,⟨[(0,.ptr 1000000 0)],[],[(1000000,.box [.d (.lst .cnt)])],[]⟩,[.v (.lst .cnt)],[(1000000,.box [.d (.lst .cnt)])]⟩
theorem j2t(n:Nat):Contract Tryz.prog 31 p2f (q70z n):=
 ctN Tryz.func31 23 TT [] [.tmp 1] pN (oC (h1d n) (oN)) [0] (lC ⟨[(2,.own 2)],[(5,(.lst .cnt)),(6,.i64),(7,.i64)],[(2,.arr 52 .cnt),(1000000,.box [.d (.lst .cnt)])],[]⟩ ⟨[(2,.own 2)],[],[(2,.arr 52 .cnt),(1000000,.box [.d (.lst .cnt)])],[]⟩ ⟨[],[],[],[]⟩ ⟨[],[(2,2,52,2)],[]⟩ n (h1c n) [] lN lN)
theorem g2c [UTabs] (n:Nat):Contract Tryz.prog 30 n2q (q28z n):=
 ctN Tryz.func30 33 TT [(31,a0),(63,aT)] [.tmp 6,.tmp 7] pN (oC (a1k n) (oC (j2t n) (oN))) [0] (lC ⟨[(2,.clo 31 [1000000])],[(15,(.two (.lst .cnt))),(16,.i64)],[(1000000,.box [.d (.lst .cnt)])],[]⟩ ⟨[(2,.clo 31 [1000000])],[],[(1000000,.box [.d (.lst .cnt)])],[]⟩ ⟨[],[(6,(.lst .cnt)),(7,.i64)],[(1000000,.box [.d (.lst .cnt)])],[]⟩ pN n (e1q n) [] lN lN)
theorem g2y [UTabs] (n:Nat):Contract Tryz.prog 10 o2n (q83z n):=
 ctN Tryz.func10 9 TT [(30,⟨[2],[],[],false⟩)] [.tmp 2,.tmp 3] pN (oC (g2c n) (oN)) [] lN
theorem f2z [UDef] [UTabs] (n:Nat):Contract Tryz.prog 3 n2p (q31z n):=
 ctN Tryz.func3 87 TT [(6,aT),(9,aT)] [.tmp 4] pN (oC (z0x n) (oC (j2k n) (oC (v1w) (oC (u0e n) (oC (q1a n) (oC (g2y n) (oN))))))) [] lN
end Go.Proofs.YtnaeiccibhdknaaGreatDoor

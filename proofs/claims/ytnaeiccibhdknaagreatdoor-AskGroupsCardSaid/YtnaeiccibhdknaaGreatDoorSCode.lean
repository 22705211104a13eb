import Derived.Test.YtnaeiccibhdknaaGreatDoorSBase
set_option linter.unusedSimpArgs false
set_option linter.unusedVariables false
noncomputable section
namespace Go.Proofs.YtnaeiccibhdknaaGreatDoor
open Go Esp Ev Pure
set_option maxRecDepth 100000
set_option maxHeartbeats 1000000
theorem b2s(args:Array Value)(w:World):(callFunc 87 args).run Tryz.prog w=.ok (.enter 87 args) w/\CallsD Tryz.prog 87 args .returning w λe u w' =>u=.returning/\(∃v,e=.returned v)/\w' =w:=
 x0t (fn:=Tryz.f87) (by kernel_rfl) rfl (by kernel_rfl) (by kernel_rfl) (by kernel_rfl) (by kernel_rfl) args w
def okds:List FuncId:=[87]
theorem l2f:∀g∈okds,∀(args:Array Value) (w:World),(callFunc g args).run Tryz.prog w=.ok (.enter g args) w/\CallsD Tryz.prog g args .returning w λe u w' =>u=.returning/\(∃v,e=.returned v)/\w' =w:=by
 intro g hg args w;simp only[okds,r2g,List.not_mem_nil,or_false]at hg;rcases hg with rfl
 ·exact b2s args w
abbrev aT:ArgM:=⟨[],[],[],true⟩
abbrev a1:ArgM:=⟨[1],[],[],false⟩
abbrev a0:ArgM:=⟨[0],[],[],false⟩
variable [Tabs]
class UDef:Prop where
 ok:∀g∈([87]:List Nat),g∈Tabs.okd
variable [QuietD Tryz.prog]
def TT:List (TypeId×Ty):=[(2,.i64),(3,.i64),(4,.bool),(5,.u8),(6,.u8),(9,.str),(10,.str),(11,.str),(12,.u64),(21,.i32),(22,(.lst .dot)),(23,(.lst .arrow)),(24,(.lst .term)),(25,(.lst .item)),(27,.query),(28,(.lst .node)),(29,(.lst .edg)),(31,.graph),(32,(.lst (.lst .i64))),(33,.i64),(37,(.lst .val)),(39,.val),(42,.term),(44,.item),(45,(.lst .cnt)),(46,(.lst .cnt)),(50,(.lst .val)),(52,.cnt),(62,(.lst .i64)),(71,(.map .str .i64)),(73,.envr),(88,.dot),(91,.arrow),(92,(.map .str .bool)),(97,(.lst .str)),(98,(.lst .prp)),(100,.node),(105,.edg),(107,(.lst (.map .pair .bool))),(110,(.map .pair .bool)),(115,.u64),(121,(.map .str (.lst .cnt))),(129,(.two (.lst .cnt))),(136,(.lst .i64)),(138,.prp),(143,(.map .i64 (.lst .i64))),(145,.pair),(146,.pair),(151,.i64),(158,.u32),(160,.u64),(173,(.lst .u8)),(186,.u64),(205,(.lst .i32)),(245,.i64),(280,.u8),(281,.u8),(283,.i32),(284,.i32)]
def o2v:FnT:=⟨3,⟨[],[(0,.query),(1,.graph),(2,.term)],[],[]⟩,[.v .bool],[]⟩
def e1x:FnT:=⟨2,⟨[],[(0,.query),(1,.graph)],[],[]⟩,[.v (.lst (.lst .i64)),.v .i64],[]⟩
def e2n:FnT:=⟨1,⟨[],[(0,.query)],[],[]⟩,[.v .i64],[]⟩
def e1y:FnT:=⟨1,⟨[],[(0,.str)],[],[]⟩,[.v .bool],[]⟩
def j2u:FnT:=⟨1,⟨[],[(0,.str)],[],[]⟩,[.v .bool],[]⟩
theorem h0l(n:Nat):Contract Tryz.prog 38 j2u (i0w n):=
 ctN Tryz.func38 54 TT [] [.tmp 2] pN (oN) [0] (lC ⟨[],[(0,.str),(14,.i64),(15,.i64)],[],[]⟩ ⟨[],[],[],[]⟩ ⟨[],[(2,.bool)],[],[]⟩ pN n (j1d n) [] lN lN)
def p2n:FnT:=⟨1,⟨[],[(0,.str)],[],[]⟩,[.v .bool],[]⟩
def o2g:FnT:=⟨2,⟨[],[(0,(.lst .str)),(1,.str)],[],[]⟩,[.v .bool],[]⟩
def m2x:FnT:=⟨2,⟨[],[(0,(.lst .str)),(1,.str)],[],[]⟩,[.v .i64],[]⟩
theorem i2v(n:Nat):Contract Tryz.prog 69 m2x (q27z n):=
 ctN Tryz.func69 19 TT [] [.tmp 4] pN (oN) [0] (lC ⟨[],[(0,(.lst .str)),(1,.str),(7,.i64),(8,.i64)],[],[]⟩ ⟨[],[],[],[]⟩ ⟨[],[(4,.i64)],[],[]⟩ pN n (w1q n) [] lN lN)
theorem h0w(n:Nat):Contract Tryz.prog 41 o2g (q26z n):=
 ctN Tryz.func41 9 TT [(69,aT)] [.tmp 4] pN (oC (i2v n) (oN)) [] lN
theorem w1u(n:Nat):Contract Tryz.prog 67 p2n (q80z n):=
 ctN Tryz.func67 6 TT [(41,aT)] [.tmp 2] pN (oC (h0w n) (oN)) [] lN
theorem p0g(n:Nat):Contract Tryz.prog 37 e1y (f0u n):=
 ctN Tryz.func37 10 TT [(38,aT),(67,aT)] [.tmp 2] pN (oC (h0l n) (oC (w1u n) (oN))) [] lN
def l2z:FnT:=⟨1,⟨[],[(0,.query)],[],[]⟩,[.v (.map .str .bool),.v .i64],[]⟩
theorem j2v(n:Nat):Contract Tryz.prog 39 l2z (q96z n):=
 ctN Tryz.func39 49 TT [] [.tmp 2,.tmp 3] pN (oN) [0,2] (lC ⟨[(1,.ptr 1 0),(4,.mpr 11)],[(13,(.lst .dot)),(14,.i64),(15,.i64)],[(1,.box [.d .query]),(11,.mp 92 .str .bool false)],[]⟩ ⟨[(1,.ptr 1 0),(4,.mpr 11)],[],[(1,.box [.d .query]),(11,.mp 92 .str .bool false)],[]⟩ ⟨[],[],[],[]⟩ pN n (e1m n) [] lN (lC ⟨[(4,.mpr 11)],[(27,(.lst .arrow)),(28,.i64),(29,.i64)],[(11,.mp 92 .str .bool false)],[]⟩ ⟨[(4,.mpr 11)],[],[(11,.mp 92 .str .bool false)],[]⟩ ⟨[],[(2,(.map .str .bool)),(3,.i64)],[],[]⟩ pN n (d1x n) [] lN lN))
def g2n:FnT:=⟨2,⟨[],[(0,.term),(1,(.map .str .bool))],[],[]⟩,[.v .i64],[]⟩
def h1r:FnT:=⟨3,⟨[],[(0,.term),(1,(.map .str .bool)),(2,.i64)],[],[]⟩,[.v .i64],[]⟩
def h2a:FnT:=⟨1,⟨[],[(0,.val)],[],[]⟩,[.v .i64],[]⟩
def f1v:FnT:=⟨2,⟨[],[(0,.val),(1,.i64)],[],[]⟩,[.v .i64],[]⟩
theorem r1z [UTabs] (aY:Val×Int×Unit->Option Y5)(h_q102z:Contract Tryz.prog 103 f1v aY)(n:Nat):Contract Tryz.prog 103 f1v (h1i aY n):=
 ctN Tryz.func103 114 TT [(136,aT),(103,aT)] [.tmp 4] pN (oC (s1y) (oC (h_q102z) (oN))) [1] (lC ⟨[(2,.ptr 2 0)],[(1,.i64),(90,(.lst .val)),(91,.i64),(92,.i64)],[(2,.box [.d .val])],[]⟩ ⟨[(2,.ptr 2 0)],[],[(2,.box [.d .val])],[]⟩ ⟨[],[(4,.i64)],[],[]⟩ pN n (m0g aY n) [] lN lN)
theorem i1h [UTabs]:∀n,Contract Tryz.prog 103 f1v (l1v n)
 | 0=>λ_ _ h=>by cases h
 |n+1=>r1z _ (i1h n) n
theorem y0u [UTabs] (n:Nat):Contract Tryz.prog 70 h2a (k0v n):=
 ctN Tryz.func70 5 TT [(103,aT)] [.tmp 2] pN (oC (i1h n) (oN)) [] lN
def g2x:FnT:=⟨1,⟨[],[(0,.str)],[],[]⟩,[.v .i64,.v .bool],[]⟩
theorem b2w:Contract Tryz.prog 102 g2x (x1y):=
 ctN Tryz.func102 25 TT [] [.tmp 2,.tmp 3] pN (oN) [] lN
theorem t1s [UTabs] (aL:Term×Y10×Int×Unit->Option Y5)(h_q113z:Contract Tryz.prog 68 h1r aL)(n:Nat):Contract Tryz.prog 68 h1r (h1l aL n):=
 ctN Tryz.func68 196 TT [(70,aT),(37,aT),(38,aT),(68,aT),(102,aT)] [.tmp 6] pN (oC (y0u n) (oC (p0g n) (oC (h0l n) (oC (h_q113z) (oC (b2w) (oN)))))) [1] (lC ⟨[(3,.ptr 3 0)],[(1,(.map .str .bool)),(2,.i64),(147,(.lst .term)),(148,.i64),(149,.i64)],[(3,.box [.d .term])],[]⟩ ⟨[(3,.ptr 3 0)],[(1,(.map .str .bool))],[(3,.box [.d .term])],[]⟩ ⟨[],[(6,.i64)],[],[]⟩ pN n (v0l aL n) [] lN lN)
theorem k1w [UTabs]:∀n,Contract Tryz.prog 68 h1r (m1a n)
 | 0=>λ_ _ h=>by cases h
 |n+1=>t1s _ (k1w n) n
theorem y1e [UTabs] (n:Nat):Contract Tryz.prog 40 g2n (p1r n):=
 ctN Tryz.func40 8 TT [(68,aT)] [.tmp 4] pN (oC (k1w n) (oN)) [] lN
theorem g1x [UTabs] (n:Nat):Contract Tryz.prog 12 e2n (q93z n):=
 ctN Tryz.func12 168 TT [(37,aT),(38,aT),(40,aT),(41,aT)] [.tmp 2] pN (oC (p0g n) (oC (h0l n) (oC (j2v n) (oC (y1e n) (oC (h0w n) (oN)))))) [0,2,4,6] (lC ⟨[(1,.ptr 1 0)],[(53,(.lst .dot)),(54,.i64),(55,.i64)],[(1,.box [.d .query])],[]⟩ ⟨[(1,.ptr 1 0)],[],[(1,.box [.d .query])],[]⟩ ⟨[],[(2,.i64)],[],[]⟩ pN n (f1l n) [] lN (lC ⟨[(1,.ptr 1 0)],[(81,(.lst .arrow)),(82,.i64),(83,.i64)],[(1,.box [.d .query])],[]⟩ ⟨[(1,.ptr 1 0)],[],[(1,.box [.d .query])],[]⟩ ⟨[],[(2,.i64)],[],[]⟩ pN n (f1o n) [] lN (lC ⟨[(1,.ptr 1 0)],[(7,(.map .str .bool)),(121,(.lst .term)),(122,.i64),(123,.i64)],[(1,.box [.d .query])],[]⟩ ⟨[(1,.ptr 1 0)],[(7,(.map .str .bool))],[(1,.box [.d .query])],[]⟩ ⟨[],[(2,.i64)],[],[]⟩ pN n (h1a n) [] lN (lC ⟨[(12,.mpr 134)],[(7,(.map .str .bool)),(136,(.lst .item)),(137,.i64),(138,.i64)],[(134,.mp 92 .str .bool false)],[]⟩ ⟨[],[],[],[]⟩ ⟨[],[(2,.i64)],[],[]⟩ pN n (h1h n) [] lN lN))))
def p2a:FnT:=⟨1,⟨[],[(0,.graph)],[],[]⟩,[.v .i64],[]⟩
def l2h:FnT:=⟨1,⟨[],[(0,(.lst .str))],[],[]⟩,[.v .i64],[]⟩
theorem i2h(n:Nat):Contract Tryz.prog 43 l2h (q84z n):=
 ctN Tryz.func43 32 TT [(38,aT)] [.tmp 2] pN (oC (h0l n) (oN)) [0] (lC ⟨[],[(0,(.lst .str)),(8,(.lst .str)),(9,.i64),(10,.i64)],[],[]⟩ ⟨[],[],[],[]⟩ ⟨[],[(2,.i64)],[],[]⟩ pN n (r1k n) [] lN lN)
def k2n:FnT:=⟨1,⟨[],[(0,(.lst .prp))],[],[]⟩,[.v .i64],[]⟩
theorem g2u [UTabs] (n:Nat):Contract Tryz.prog 44 k2n (q91z n):=
 ctD Tryz.func44 48 TT [(38,aT),(70,aT)] [.tmp 2] pN (oC (h0l n) (oC (y0u n) (oN))) [0] (.none rfl) (by kernel_rfl) (lC ⟨[],[(0,(.lst .prp)),(9,(.lst .prp)),(10,.i64),(11,.i64)],[],[]⟩ ⟨[],[],[],[]⟩ ⟨[],[(2,.i64)],[],[]⟩ pN n (t1t n) [] lN lN)
def o2n:FnT:=⟨1,⟨[],[(0,(.lst .i64))],[],[]⟩,[.v .i64],[]⟩
theorem e2p(n:Nat):Contract Tryz.prog 42 o2n (q61z n):=
 ctN Tryz.func42 18 TT [] [.tmp 2] pN (oN) [0] (lC ⟨[],[(3,.i64),(6,(.lst .i64)),(7,.i64),(8,.i64)],[],[]⟩ ⟨[],[(3,.i64)],[],[]⟩ ⟨[],[(2,.i64)],[],[]⟩ pN n (l0j n) [] lN lN)
def f2m:FnT:=⟨2,⟨[],[(0,.graph),(1,.i64)],[],[]⟩,[.v .i64],[]⟩
def q2f:FnT:=⟨3,⟨[(2,.fn 72)],[(0,(.lst .node)),(1,.i64)],[],[]⟩,[.v .i64,.v .bool],[]⟩
def l2g:FnT:=⟨2,⟨[],[(0,.node),(1,.i64)],[],[]⟩,[.v .i64],[]⟩
def n2h:FnT:=⟨2,⟨[],[(0,.i64),(1,.i64)],[],[]⟩,[.v .i64],[]⟩
def o2o:FnT:=⟨1,⟨[],[(0,.i64)],[],[]⟩,[.v .bool],[]⟩
theorem j2h:Contract Tryz.prog 65 o2o (q77z):=
 ctN Tryz.func65 6 TT [] [.tmp 2] pN (oN) [] lN
theorem d1p:Contract Tryz.prog 33 n2h (q64z):=
 ctN Tryz.func33 20 TT [(65,aT)] [.tmp 4] pN (oC (j2h) (oN)) [] lN
theorem f2r:Contract Tryz.prog 72 l2g (q83z):=
 ctN Tryz.func72 9 TT [(33,aT)] [.tmp 4] pN (oC (d1p) (oN)) [] lN
theorem m2d(n:Nat):Contract Tryz.prog 71 q2f (q4z n):=
 ctN Tryz.func71 49 TT [(72,aT)] [.tmp 6,.tmp 7] pN (oC (f2r) (oN)) [0] (lC ⟨[(2,.fn 72)],[(0,(.lst .node)),(1,.i64),(8,.i64),(9,.i64),(10,.i64)],[],[]⟩ ⟨[(2,.fn 72)],[(0,(.lst .node)),(1,.i64),(8,.i64),(9,.i64)],[],[]⟩ ⟨[],[],[],[]⟩ pN n (x1a n) [] lN lN)
theorem i1t(n:Nat):Contract Tryz.prog 45 f2m (t0e n):=
 ctN Tryz.func45 17 TT [(71,aT)] [.tmp 4] pN (oC (m2d n) (oN)) [] lN
theorem w1i [UTabs] (n:Nat):Contract Tryz.prog 13 p2a (q90z n):=
 ctD Tryz.func13 103 TT [(43,aT),(44,aT),(42,aT),(45,aT),(38,aT)] [.tmp 2] pN (oC (i2h n) (oC (g2u n) (oC (e2p n) (oC (i1t n) (oC (h0l n) (oN)))))) [0,2] (.none rfl) (by kernel_rfl) (lC ⟨[(1,.ptr 1 0)],[(3,.i64),(22,(.lst .node)),(23,.i64),(24,.i64)],[(1,.box [.d .graph])],[]⟩ ⟨[(1,.ptr 1 0)],[(3,.i64)],[(1,.box [.d .graph])],[]⟩ ⟨[],[(2,.i64)],[],[]⟩ pN n (v1g n) [] lN (lC ⟨[(1,.ptr 1 0)],[(3,.i64),(7,.i64),(48,(.lst .edg)),(49,.i64),(50,.i64)],[(1,.box [.d .graph])],[]⟩ ⟨[(1,.ptr 1 0)],[(3,.i64),(7,.i64)],[(1,.box [.d .graph])],[]⟩ ⟨[],[(2,.i64)],[],[]⟩ pN n (q1d n) [] lN lN))
def e1w:FnT:=⟨2,⟨[],[(0,.graph),(1,.str)],[],[]⟩,[.v (.map .pair .bool)],[]⟩
def j2y:FnT:=⟨1,⟨[],[(0,(.lst .i64))],[],[]⟩,[.ref (.own 5)],[(5,.arr 3 .i64)]⟩
theorem q1k:Contract Tryz.prog 17 j2y (q28z):=
 ctN Tryz.func17 8 TT [] [.tmp 2] ⟨[],[(2,5,3,1)],[]⟩ (oN) [] lN
theorem b1c(n:Nat):Contract Tryz.prog 46 e1w (h0a n):=
 ctN Tryz.func46 59 TT [(999999999,a1),(17,⟨[],[],[5],false⟩)] [.tmp 4] pN (oC (c2k) (oC (q1k) (oN))) [0] (lC ⟨[(6,.mpr 15)],[(5,(.map .i64 (.lst .i64))),(17,(.lst .node)),(18,.i64),(19,.i64)],[(15,.mp 110 .pair .bool false)],[]⟩ ⟨[(6,.mpr 15)],[],[(15,.mp 110 .pair .bool false)],[]⟩ ⟨[],[],[],[]⟩ pN n (d0c n) [2] (lC ⟨[(6,.mpr 15),(8,.ptr 8 0),(9,.own 27)],[(5,(.map .i64 (.lst .i64))),(17,(.lst .node)),(18,.i64),(19,.i64)],[(8,.box [.d .node]),(15,.mp 110 .pair .bool false),(27,.arr 3 .i64)],[]⟩ ⟨[(6,.mpr 15)],[(5,(.map .i64 (.lst .i64))),(17,(.lst .node)),(18,.i64),(19,.i64)],[(15,.mp 110 .pair .bool false)],[]⟩ ⟨[],[],[],[]⟩ ⟨[],[(9,9,3,1)],[]⟩ n (g0f n) [] lN lN) lN)
def e1a:FnT:=⟨2,⟨[],[(0,.query),(1,.graph)],[],[]⟩,[.ref (.ptr 12 0)],[(12,.box [.d .query,.d .graph,.d (.lst (.map .pair .bool))])]⟩
theorem p0a(n:Nat):Contract Tryz.prog 14 e1a (i0q n):=
 ctN Tryz.func14 38 TT [(999999999,a1)] [.tmp 4] pN (oC (b1c n) (oN)) [0] (lC ⟨[(3,.ptr 3 0),(5,.ptr 12 0)],[(14,(.lst .arrow)),(15,.i64),(16,.i64)],[(3,.box [.d .graph]),(12,.box [.d .query,.d .graph,.ref (.own 300488)]),(300488,.arr 110 (.map .pair .bool))],[]⟩ ⟨[(5,.ptr 12 0)],[],[(12,.box [.d .query,.d .graph,.ref (.own 300488)]),(300488,.arr 110 (.map .pair .bool))],[]⟩ ⟨[],[],[],[]⟩ ⟨[],[],[(12,8,300488,110,1)]⟩ n (j0o n) [] lN lN)
def n2z:FnT:=⟨2,⟨[(0,.ptr 1000000 0),(1,.clo 16 [1000016,1000018])],[],[(1000000,.box [.d .query,.d .graph,.d (.lst (.map .pair .bool))]),(1000016,.box [.ref (.own 1000017)]),(1000017,.arr 62 (.lst .i64)),(1000018,.box [.d .bool])],[]⟩,[],[(1000000,.box [.d .query,.d .graph,.d (.lst (.map .pair .bool))]),(1000016,.box [.ref (.own 1000017)]),(1000017,.arr 62 (.lst .i64)),(1000018,.box [.d .bool])]⟩
def z0z:FnT:=⟨4,⟨[(0,.ptr 1000000 0),(2,.own 2000016),(3,.clo 16 [1000032,1000034])],[(1,.i64)],[(1000000,.box [.d .query,.d .graph,.d (.lst (.map .pair .bool))]),(2000016,.arr 3 .i64),(1000032,.box [.ref (.own 1000033)]),(1000033,.arr 62 (.lst .i64)),(1000034,.box [.d .bool])],[]⟩,[],[(1000000,.box [.d .query,.d .graph,.d (.lst (.map .pair .bool))]),(2000016,.arr 3 .i64),(1000032,.box [.ref (.own 1000033)]),(1000033,.arr 62 (.lst .i64)),(1000034,.box [.d .bool])]⟩
def p2e:FnT:=⟨2,⟨[(0,.ptr 1000000 0),(1,.own 2000016)],[],[(1000000,.box [.d .query,.d .graph,.d (.lst (.map .pair .bool))]),(2000016,.arr 3 .i64)],[]⟩,[.v .envr],[(1000000,.box [.d .query,.d .graph,.d (.lst (.map .pair .bool))]),(2000016,.arr 3 .i64)]⟩
theorem h1g(n:Nat):Contract Tryz.prog 24 p2e (q55z n):=
 ctD Tryz.func24 75 TT [(999999999,a1)] [.cell 4 73] pN (oN) [0,2] (.none rfl) (by kernel_rfl) (lC ⟨[(0,.ptr 1000000 0),(1,.own 2000016),(4,.ptr 4 0),(5,.mpr 10)],[(15,(.lst .dot)),(16,.i64),(17,.i64)],[(4,.box [.d .envr]),(10,.mp 71 .str .i64 false),(1000000,.box [.d .query,.d .graph,.d (.lst (.map .pair .bool))]),(2000016,.arr 3 .i64)],[]⟩ ⟨[(0,.ptr 1000000 0),(1,.own 2000016),(4,.ptr 4 0),(5,.mpr 10)],[],[(4,.box [.d .envr]),(10,.mp 71 .str .i64 false),(1000000,.box [.d .query,.d .graph,.d (.lst (.map .pair .bool))]),(2000016,.arr 3 .i64)],[]⟩ ⟨[],[],[],[]⟩ pN n (h1k n) [] lN (lC ⟨[(0,.ptr 1000000 0),(1,.own 2000016),(4,.ptr 4 0),(5,.mpr 10)],[(44,(.lst .arrow)),(45,.i64),(46,.i64)],[(4,.box [.d .envr]),(10,.mp 71 .str .i64 false),(1000000,.box [.d .query,.d .graph,.d (.lst (.map .pair .bool))]),(2000016,.arr 3 .i64)],[]⟩ ⟨[(0,.ptr 1000000 0),(4,.ptr 4 0),(5,.mpr 10)],[],[(4,.box [.d .envr]),(10,.mp 71 .str .i64 false),(1000000,.box [.d .query,.d .graph,.d (.lst (.map .pair .bool))]),(2000016,.arr 3 .i64)],[]⟩ ⟨[],[],[],[]⟩ pN n (e1r n) [] lN lN))
def o2k:FnT:=⟨2,⟨[],[(0,.envr),(1,(.lst .term))],[],[]⟩,[.v .bool],[]⟩
def w1c:FnT:=⟨2,⟨[],[(0,.envr),(1,.term)],[],[]⟩,[.v .val],[]⟩
def g1n:FnT:=⟨1,⟨[],[(0,.val)],[],[]⟩,[.v .val],[]⟩
theorem v1n(a6:Val×Unit->Option Y6)(h_q116z:Contract Tryz.prog 64 g1n a6)(n:Nat):Contract Tryz.prog 64 g1n (f1h a6 n):=
 ctD Tryz.func64 24 TT [] [.cell 2 39] pN (oC (h_q116z) (oN)) [0] (.none rfl) (by kernel_rfl) (lC ⟨[(1,.ptr 1 0),(2,.ptr 2 0)],[(9,(.lst .val)),(10,.i64),(11,.i64)],[(1,.box [.d .i64,.d .i64,.d .str,.ref (.own 300043)]),(2,.box [.d .val]),(300043,.arr 39 .val)],[]⟩ ⟨[(1,.ptr 1 0),(2,.ptr 2 0)],[],[(1,.box [.d .i64,.d .i64,.d .str,.ref (.own 300043)]),(2,.box [.d .val]),(300043,.arr 39 .val)],[]⟩ ⟨[],[],[],[]⟩ ⟨[],[],[(1,3,300043,39,4)]⟩ n (v0x a6 n) [] lN lN)
theorem k0a:∀n,Contract Tryz.prog 64 g1n (i0n n)
 | 0=>λ_ _ h=>by cases h
 |n+1=>v1n _ (k0a n) n
def m2p:FnT:=⟨3,⟨[],[(0,.envr),(1,.i64),(2,.str)],[],[]⟩,[.v .val],[]⟩
def h1t:FnT:=⟨2,⟨[],[(0,(.lst .prp)),(1,.str)],[],[]⟩,[.v .val],[]⟩
theorem b1l(n:Nat):Contract Tryz.prog 120 h1t (j0d n):=
 ctN Tryz.func120 22 TT [] [.cell 4 39] pN (oC (k0a n) (oN)) [0] (lC ⟨[(4,.ptr 4 0)],[(1,.str),(7,(.lst .prp)),(8,.i64),(9,.i64)],[(4,.box [.d .val])],[]⟩ ⟨[(4,.ptr 4 0)],[],[(4,.box [.d .val])],[]⟩ ⟨[(4,.ptr 4 0)],[],[(4,.box [.d .val])],[]⟩ pN n (i0m n) [] lN lN)
def o2h:FnT:=⟨2,⟨[],[(0,.graph),(1,.i64)],[],[]⟩,[.v .i64],[]⟩
def p2v:FnT:=⟨3,⟨[(2,.fn 144)],[(0,(.lst .edg)),(1,.i64)],[],[]⟩,[.v .i64,.v .bool],[]⟩
def p2c:FnT:=⟨2,⟨[],[(0,.edg),(1,.i64)],[],[]⟩,[.v .i64],[]⟩
theorem g2r:Contract Tryz.prog 144 p2c (q63z):=
 ctN Tryz.func144 9 TT [(33,aT)] [.tmp 4] pN (oC (d1p) (oN)) [] lN
theorem o2j(n:Nat):Contract Tryz.prog 143 p2v (q3z n):=
 ctN Tryz.func143 49 TT [(144,aT)] [.tmp 6,.tmp 7] pN (oC (g2r) (oN)) [0] (lC ⟨[(2,.fn 144)],[(0,(.lst .edg)),(1,.i64),(8,.i64),(9,.i64),(10,.i64)],[],[]⟩ ⟨[(2,.fn 144)],[(0,(.lst .edg)),(1,.i64),(8,.i64),(9,.i64)],[],[]⟩ ⟨[],[],[],[]⟩ pN n (q1o n) [] lN lN)
theorem u1a(n:Nat):Contract Tryz.prog 121 o2h (q70z n):=
 ctN Tryz.func121 17 TT [(143,aT)] [.tmp 4] pN (oC (o2j n) (oN)) [] lN
theorem h2r(n:Nat):Contract Tryz.prog 91 m2p (q73z n):=
 ctN Tryz.func91 40 TT [(45,aT),(121,aT)] [.cell 6 39] pN (oC (i1t n) (oC (b1l n) (oC (u1a n) (oN)))) [] lN
def l2l:FnT:=⟨3,⟨[],[(0,.envr),(1,.term),(2,(.lst .val))],[],[]⟩,[.v .val],[]⟩
def n2r:FnT:=⟨3,⟨[],[(0,.str),(1,.val),(2,.val)],[],[]⟩,[.v .val,.v .i64],[]⟩
def e1b:FnT:=⟨2,⟨[],[(0,.i64),(1,.i64)],[],[]⟩,[.v .i64,.v .bool],[]⟩
theorem z0l:Contract Tryz.prog 145 e1b (l0u):=
 ctN Tryz.func145 17 TT [] [.tmp 4,.tmp 5] pN (oN) [] lN
def o2d:FnT:=⟨1,⟨[],[(0,.val)],[],[]⟩,[.mix [.d .i64,.d .i64,.d .str,.ref (.own 300043)]],[(300043,.arr 39 .val)]⟩
theorem e2w(n:Nat):Contract Tryz.prog 64 o2d (q74z n):=
 ctD Tryz.func64 24 TT [] [.cell 2 39] pN (oC (k0a n) (oN)) [0] (.none rfl) (by kernel_rfl) (lC ⟨[(1,.ptr 1 0),(2,.ptr 2 0)],[(9,(.lst .val)),(10,.i64),(11,.i64)],[(1,.box [.d .i64,.d .i64,.d .str,.ref (.own 300043)]),(2,.box [.d .val]),(300043,.arr 39 .val)],[]⟩ ⟨[(1,.ptr 1 0),(2,.ptr 2 0)],[],[(1,.box [.d .i64,.d .i64,.d .str,.ref (.own 300043)]),(2,.box [.d .val]),(300043,.arr 39 .val)],[]⟩ ⟨[],[],[],[]⟩ ⟨[],[],[(1,3,300043,39,4)]⟩ n (d1l n) [] lN lN)
def g1y:FnT:=⟨2,⟨[],[(0,.i64),(1,.i64)],[],[]⟩,[.v .i64,.v .bool],[]⟩
theorem a1g:Contract Tryz.prog 146 g1y (m0c):=
 ctN Tryz.func146 17 TT [] [.tmp 4,.tmp 5] pN (oN) [] lN
def d1o:FnT:=⟨2,⟨[],[(0,.i64),(1,.i64)],[],[]⟩,[.v .i64,.v .bool],[]⟩
def j2x:FnT:=⟨1,⟨[],[(0,.i64)],[],[]⟩,[.v .u64],[]⟩
theorem z1n:Contract Tryz.prog 154 j2x (s1v):=
 ctN Tryz.func154 10 TT [] [.tmp 2] pN (oN) [] lN
def k2h:FnT:=⟨2,⟨[],[(0,.u64),(1,.u64)],[],[]⟩,[.v .u64,.v .u64],[]⟩
theorem v1a:Contract Tryz.prog 130 k2h (q66z):=
 ctN Tryz.func130 51 TT [] [.tmp 4,.tmp 5] pN (oN) [] lN
theorem a1x:Contract Tryz.prog 147 d1o (l0r):=
 ctN Tryz.func147 45 TT [(154,aT),(130,aT)] [.tmp 4,.tmp 5] pN (oC (z1n) (oC (v1a) (oN))) [] lN
theorem f2g(n:Nat):Contract Tryz.prog 122 n2r (q85z n):=
 ctD Tryz.func122 111 TT [(1500000064,⟨[4,3],[],[],false⟩),(999999999,a1),(145,aT),(64,⟨[],[],[300043],false⟩),(146,aT),(147,aT)] [.cell 6 39,.tmp 7] pN (oC (z0l) (oC (e2w n) (oC (a1g) (oC (a1x) (oN))))) [] (.none rfl) (by kernel_rfl) lN
def g1j:FnT:=⟨2,⟨[],[(0,.val),(1,.val)],[],[]⟩,[.v .val],[]⟩
def w0p:FnT:=⟨2,⟨[],[(0,.val),(1,.val)],[],[]⟩,[.v .i64],[]⟩
def p2h:FnT:=⟨2,⟨[],[(0,.str),(1,.str)],[],[]⟩,[.v .i64],[]⟩
def n2b:FnT:=⟨1,⟨[],[(0,.str)],[],[]⟩,[.v .bool],[]⟩
theorem j2c:Contract Tryz.prog 66 n2b (q62z):=
 ctN Tryz.func66 6 TT [] [.tmp 2] pN (oN) [] lN
theorem g2m:Contract Tryz.prog 35 p2h (q42z):=
 ctN Tryz.func35 20 TT [(66,aT)] [.tmp 4] pN (oC (j2c) (oN)) [] lN
def p2y:FnT:=⟨3,⟨[(2,.fn 11)],[(0,(.lst .val)),(1,(.lst .val))],[],[]⟩,[.v .i64],[]⟩
theorem n2t(aM:Val×Val×Unit->Option Y5)(h_q101z:Contract Tryz.prog 11 w0p aM)(n:Nat):Contract Tryz.prog 36 p2y (q1z aM n):=
 ctN Tryz.func36 39 TT [(11,aT)] [.tmp 6] pN (oC (h_q101z) (oN)) [0] (lC ⟨[(2,.fn 11)],[(0,(.lst .val)),(1,(.lst .val)),(11,(.lst .val)),(12,.i64),(13,.i64)],[],[]⟩ ⟨[],[(0,(.lst .val)),(1,(.lst .val))],[],[]⟩ ⟨[],[(6,.i64)],[],[]⟩ pN n (t1x aM n) [] lN lN)
def g2l:FnT:=⟨1,⟨[],[(0,(.lst .i64))],[],[]⟩,[.v .i64],[]⟩
theorem b2h(n:Nat):Contract Tryz.prog 34 g2l (y1q n):=
 ctN Tryz.func34 18 TT [] [.tmp 2] pN (oN) [0] (lC ⟨[],[(3,.i64),(6,(.lst .i64)),(7,.i64),(8,.i64)],[],[]⟩ ⟨[],[(3,.i64)],[],[]⟩ ⟨[],[(2,.i64)],[],[]⟩ pN n (w0k n) [] lN lN)
theorem u1d(aM:Val×Val×Unit->Option Y5)(h_q101z:Contract Tryz.prog 11 w0p aM)(n:Nat):Contract Tryz.prog 11 w0p (e1q aM n):=
 ctD Tryz.func11 31 TT [(33,aT),(35,aT),(36,aT),(34,aT)] [.tmp 4] pN (oC (d1p) (oC (g2m) (oC (n2t _ h_q101z n) (oC (b2h n) (oN))))) [] (.none rfl) (by kernel_rfl) lN
theorem k0f:∀n,Contract Tryz.prog 11 w0p (j0w n)
 | 0=>λ_ _ h=>by cases h
 |n+1=>u1d _ (k0f n) n
def i2o:FnT:=⟨1,⟨[],[(0,.bool)],[],[]⟩,[.v .val],[]⟩
theorem j1b:Contract Tryz.prog 148 i2o (m1l):=
 ctN Tryz.func148 8 TT [] [.cell 2 39] pN (oN) [] lN
theorem s1h(aZ:Val×Val×Unit->Option Y6)(h_q118z:Contract Tryz.prog 123 g1j aZ)(n:Nat):Contract Tryz.prog 123 g1j (h1b aZ n):=
 ctD Tryz.func123 68 TT [(11,aT)] [.cell 4 39] pN (oC (k0f n) (oC (j1b) (oC (h_q118z) (oN)))) [0] (.none rfl) (by kernel_rfl) (lC ⟨[(2,.ptr 2 0),(3,.ptr 3 0),(4,.ptr 4 0),(5,.ptr 5 0)],[(41,.i64),(42,.i64)],[(2,.box [.d .val]),(3,.box [.d .val]),(4,.box [.d .val]),(5,.box [.d .val])],[]⟩ ⟨[(4,.ptr 4 0),(5,.ptr 5 0)],[],[(4,.box [.d .val]),(5,.box [.d .val])],[]⟩ ⟨[(4,.ptr 4 0)],[],[(4,.box [.d .val])],[]⟩ pN n (k0c aZ n) [] lN lN)
theorem i1g:∀n,Contract Tryz.prog 123 g1j (w0m n)
 | 0=>λ_ _ h=>by cases h
 |n+1=>s1h _ (i1g n) n
def j2a:FnT:=⟨2,⟨[],[(0,.val),(1,.val)],[],[]⟩,[.v .val],[]⟩
theorem z1r(n:Nat):Contract Tryz.prog 124 j2a (x0f n):=
 ctN Tryz.func124 26 TT [(11,aT)] [.cell 4 39] pN (oC (k0f n) (oC (j1b) (oN))) [] lN
def p2i:FnT:=⟨1,⟨[],[(0,.val)],[],[]⟩,[.v .val],[]⟩
def f2n:FnT:=⟨1,⟨[],[(0,.val)],[],[]⟩,[.v .bool,.v .bool],[]⟩
theorem x0m:Contract Tryz.prog 104 f2n (d1b):=
 ctD Tryz.func104 10 TT [] [.tmp 2,.tmp 3] pN (oN) [] (.none rfl) (by kernel_rfl) lN
def f2l:FnT:=⟨1,⟨[],[(0,.bool)],[],[]⟩,[.v .val],[]⟩
theorem v0r:Contract Tryz.prog 127 f2l (r0r):=
 ctN Tryz.func127 6 TT [] [.cell 2 39] pN (oN) [] lN
theorem f2w:Contract Tryz.prog 125 p2i (q99z):=
 ctN Tryz.func125 15 TT [(104,aT)] [.cell 2 39] pN (oC (x0m) (oC (v0r) (oN))) [] lN
def n2a:FnT:=⟨2,⟨[],[(0,.val),(1,.val)],[],[]⟩,[.v .val],[]⟩
theorem h2d:Contract Tryz.prog 126 n2a (q98z):=
 ctN Tryz.func126 38 TT [(104,aT)] [.cell 4 39] pN (oC (x0m) (oC (v0r) (oN))) [] lN
theorem j2e [UTabs] (n:Nat):Contract Tryz.prog 92 l2l (q79z n):=
 ctD Tryz.func92 219 TT [(70,aT),(121,aT)] [.cell 6 39] pN (oC (f2g n) (oC (y0u n) (oC (i1g n) (oC (z1r n) (oC (f2w) (oC (h2d) (oC (v0r) (oC (u1a n) (oN))))))))) [1,4] (.none rfl) (by kernel_rfl) (lC ⟨[(6,.ptr 6 0),(9,.ptr 9 0)],[(2,(.lst .val)),(114,(.lst .val)),(115,.i64),(116,.i64)],[(6,.box [.d .val]),(9,.box [.d .val])],[]⟩ ⟨[(6,.ptr 6 0),(9,.ptr 9 0)],[],[(6,.box [.d .val]),(9,.box [.d .val])],[]⟩ ⟨[],[],[],[]⟩ pN n (r0e n) [] lN (lC ⟨[(6,.ptr 6 0)],[(175,(.lst .val)),(176,.i64),(177,.i64)],[(6,.box [.d .val])],[]⟩ ⟨[(6,.ptr 6 0)],[],[(6,.box [.d .val])],[]⟩ ⟨[(6,.ptr 6 0)],[],[(6,.box [.d .val])],[]⟩ pN n (r0d n) [] lN lN))
theorem b2l [UTabs] (aO:Envr×Term×Unit->Option Y6)(h_q72z:Contract Tryz.prog 51 w1c aO)(n:Nat):Contract Tryz.prog 51 w1c (b1k aO n):=
 ctD Tryz.func51 55 TT [] [.cell 4 39] pN (oC (k0a n) (oC (h2r n) (oC (h_q72z) (oC (j2e n) (oN))))) [1] (.none rfl) (by kernel_rfl) (lC ⟨[(2,.ptr 2 0),(3,.ptr 3 0),(4,.ptr 4 0),(5,.own 5)],[(38,(.lst .term)),(39,.i64),(40,.i64)],[(2,.box [.d .envr]),(3,.box [.d .term]),(4,.box [.d .val]),(5,.arr 39 .val)],[]⟩ ⟨[(2,.ptr 2 0),(3,.ptr 3 0),(4,.ptr 4 0),(5,.own 5)],[],[(2,.box [.d .envr]),(3,.box [.d .term]),(4,.box [.d .val]),(5,.arr 39 .val)],[]⟩ ⟨[],[],[],[]⟩ ⟨[],[(5,5,39,4)],[]⟩ n (e1u aO n) [] lN lN)
theorem f1z [UTabs]:∀n,Contract Tryz.prog 51 w1c (q72z n)
 | 0=>λ_ _ h=>by cases h
 |n+1=>b2l _ (f1z n) n
theorem p1d [UTabs] (n:Nat):Contract Tryz.prog 74 o2k (q68z n):=
 ctN Tryz.func74 29 TT [(104,aT)] [.tmp 4] pN (oC (f1z n) (oC (x0m) (oN))) [0] (lC ⟨[(2,.ptr 2 0)],[(9,(.lst .term)),(10,.i64),(11,.i64)],[(2,.box [.d .envr])],[]⟩ ⟨[],[],[],[]⟩ ⟨[],[(4,.bool)],[],[]⟩ pN n (e1f n) [] lN lN)
def m2r:FnT:=⟨3,⟨[(0,.own 2000000),(1,.ptr 1000016 0),(2,.ptr 1000032 0)],[],[(2000000,.arr 3 .i64),(1000016,.box [.ref (.own 1000017)]),(1000017,.arr 62 (.lst .i64)),(1000032,.box [.d .bool])],[]⟩,[],[(2000000,.arr 3 .i64),(1000016,.box [.ref (.own 1000017)]),(1000017,.arr 62 (.lst .i64)),(1000032,.box [.d .bool])]⟩
theorem i2k:Contract Tryz.prog 16 m2r (q92z):=
 ctD Tryz.func16 12 TT [(999999999,a1),(17,aT)] [] pN (oC (q1k) (oN)) [] (.none rfl) (by kernel_rfl) lN
def m2v:FnT:=⟨3,⟨[(0,.ptr 1000000 0)],[(1,.i64),(2,.node)],[(1000000,.box [.d .query,.d .graph,.d (.lst (.map .pair .bool))])],[]⟩,[.v .bool],[(1000000,.box [.d .query,.d .graph,.d (.lst (.map .pair .bool))])]⟩
theorem p1a(n:Nat):Contract Tryz.prog 75 m2v (q54z n):=
 ctN Tryz.func75 26 TT [(41,aT)] [.tmp 6] pN (oC (h0w n) (oN)) [] lN
def o2b:FnT:=⟨3,⟨[(0,.ptr 1000000 0),(2,.own 2000016)],[(1,.i64)],[(1000000,.box [.d .query,.d .graph,.d (.lst (.map .pair .bool))]),(2000016,.arr 3 .i64)],[]⟩,[.v .bool],[(1000000,.box [.d .query,.d .graph,.d (.lst (.map .pair .bool))]),(2000016,.arr 3 .i64)]⟩
theorem s1k(n:Nat):Contract Tryz.prog 76 o2b (q43z n):=
 ctD Tryz.func76 55 TT [(999999999,a1)] [.tmp 6] pN (oN) [0] (.none rfl) (by kernel_rfl) (lC ⟨[(0,.ptr 1000000 0),(2,.own 2000016)],[(1,.i64),(8,.i64),(9,.i64)],[(1000000,.box [.d .query,.d .graph,.d (.lst (.map .pair .bool))]),(2000016,.arr 3 .i64)],[]⟩ ⟨[],[],[(1000000,.box [.d .query,.d .graph,.d (.lst (.map .pair .bool))]),(2000016,.arr 3 .i64)],[]⟩ ⟨[],[(6,.bool)],[(1000000,.box [.d .query,.d .graph,.d (.lst (.map .pair .bool))]),(2000016,.arr 3 .i64)],[]⟩ pN n (r0a n) [] lN lN)
def y0j(aD:Int×Y0×Y2×Unit×Y25×Y11×Unit->Option Y14)(n:Nat):Int×Y0×Y2×Unit×Y25×Y11×Unit->Option Y14:=
 λ(s,a,k,o4,b,c,_)=>let l:=((Query.mk a.1.dots a.1.arrows a.1.wher a.1.items a.1.dist),(Graph.mk a.2.1.nodes a.2.1.edges a.2.1.next),a.2.2.1,());
 (bif (s:Int)==(a.1.dots.length:Int)then
 dem2 (
 (q55z n (l,k,())).bind λ(r,h,x,_)=>let ac:=((Query.mk h.1.dots h.1.arrows h.1.wher h.1.items h.1.dist),(Graph.mk h.2.1.nodes h.2.1.edges h.2.1.next),h.2.2.1,());
 (q68z n ((Envr.mk (Graph.mk r.g.nodes r.g.edges r.g.next) r.at_),h.1.wher,())).bind λ(ay,_)=>
 (bif ay then
 (q92z (x,(()),b,(c.1,()),())).bind λ(ad,bd,ae,ai,_)=>some (ac,ad,(()),ae,(ai.1,()),())
 else some (ac,x,(()),b,(c.1,()),()))) (
 dem2 (
 (q55z n (l,k,())).bind λ(m,d,t,_)=>let y:=((Query.mk d.1.dots d.1.arrows d.1.wher d.1.items d.1.dist),(Graph.mk d.2.1.nodes d.2.1.edges d.2.1.next),d.2.2.1,());
 (q68z n ((Envr.mk (Graph.mk m.g.nodes m.g.edges m.g.next) m.at_),d.1.wher,())).bind λ(az,_)=>
 (bif az then
 (q92z (t,(()),b,(c.1,()),())).bind λ(aj,bf,ak,al,_)=>some (y,aj,(()),ak,(al.1,()),())
 else some (y,t,(()),b,(c.1,()),()))) (
 dem2 (
 (q55z n (l,k,())).bind λ(o,e,u,_)=>let z:=((Query.mk e.1.dots e.1.arrows e.1.wher e.1.items e.1.dist),(Graph.mk e.2.1.nodes e.2.1.edges e.2.1.next),e.2.2.1,());
 (q68z n ((Envr.mk (Graph.mk o.g.nodes o.g.edges o.g.next) o.at_),e.1.wher,())).bind λ(ba,_)=>
 (bif ba then
 (q92z (u,(()),b,(c.1,()),())).bind λ(am,bg,an,ao,_)=>some (z,am,(()),an,(ao.1,()),())
 else some (z,u,(()),b,(c.1,()),()))) (
 dem2 (
 (q55z n (l,k,())).bind λ(p,f,v,_)=>let aa:=((Query.mk f.1.dots f.1.arrows f.1.wher f.1.items f.1.dist),(Graph.mk f.2.1.nodes f.2.1.edges f.2.1.next),f.2.2.1,());
 (q68z n ((Envr.mk (Graph.mk p.g.nodes p.g.edges p.g.next) p.at_),f.1.wher,())).bind λ(bb,_)=>
 (bif bb then
 (q92z (v,(()),b,(c.1,()),())).bind λ(ap,bh,aq,ar,_)=>some (aa,ap,(()),aq,(ar.1,()),())
 else some (aa,v,(()),b,(c.1,()),()))) (
 (q55z n (l,k,())).bind λ(q,j,w,_)=>let ab:=((Query.mk j.1.dots j.1.arrows j.1.wher j.1.items j.1.dist),(Graph.mk j.2.1.nodes j.2.1.edges j.2.1.next),j.2.2.1,());
 (q68z n ((Envr.mk (Graph.mk q.g.nodes q.g.edges q.g.next) q.at_),a.1.wher,())).bind λ(bc,_)=>
 (bif bc then
 (q92z (w,(()),b,(c.1,()),())).bind λ(au,bj,av,aw,_)=>some (ab,au,(()),av,(aw.1,()),())
 else some (ab,w,(()),b,(c.1,()),()))))))
 else
 a0a (λax=>l0h aD n ax (λ(i,be,af,ag,ah,_)=>some (((Query.mk i.1.dots i.1.arrows i.1.wher i.1.items i.1.dist),(Graph.mk i.2.1.nodes i.2.1.edges i.2.1.next),i.2.2.1,()),ah,(()),af,(ag.1,()),())) (λ(_)=>none)) (n) (s,(a.1.dots.length:Int),a.2.1.nodes,(a.2.1.nodes.length:Int),0,l,(()),b,(c.1,()),k,()))
omit [Tabs] [QuietD Tryz.prog]in
theorem d1s(aD:Int×Y0×Y2×Unit×Y25×Y11×Unit->Option Y14)(n:Nat):y0j aD n=u0z aD n:=by
 funext x;unfold y0j u0z
 first|with_reducible rfl|simp only[a0p,b0h]
theorem t1p [UTabs] (aD:Int×Y0×Y2×Unit×Y25×Y11×Unit->Option Y14)(h_q21z:Contract Tryz.prog 47 z0z aD)(n:Nat):Contract Tryz.prog 47 z0z (y0j aD n):=
 ctD Tryz.func47 162 TT [(999999999,a1),(999999992,⟨[25],[],[],false⟩),(16,⟨[1000,1,2],[],[],false⟩),(47,⟨[0,1002,3],[],[],false⟩),(24,⟨[0,1001],[],[],false⟩),(76,⟨[0,1002],[],[],false⟩),(75,a0),(74,aT)] [] pN (oC (h1g n) (oC (p1d n) (oC (i2k) (oC (p1a n) (oC (s1k n) (oC (h_q21z) (oN))))))) [0] (.none rfl) (by kernel_rfl) (lC ⟨[(0,.ptr 1000000 0),(2,.own 2000016),(3,.clo 16 [1000032,1000034])],[(1,.i64),(8,.i64),(41,(.lst .node)),(42,.i64),(43,.i64)],[(1000000,.box [.d .query,.d .graph,.d (.lst (.map .pair .bool))]),(1000032,.box [.ref (.own 1000033)]),(1000033,.arr 62 (.lst .i64)),(1000034,.box [.d .bool]),(2000016,.arr 3 .i64)],[]⟩ ⟨[],[],[(1000000,.box [.d .query,.d .graph,.d (.lst (.map .pair .bool))]),(1000032,.box [.ref (.own 1000033)]),(1000033,.arr 62 (.lst .i64)),(1000034,.box [.d .bool]),(2000016,.arr 3 .i64)],[]⟩ ⟨[],[],[],[]⟩ pN n (l0h aD n) [2] (lC ⟨[(0,.ptr 1000000 0),(2,.own 2000016),(3,.clo 16 [1000032,1000034]),(11,.ptr 11 0)],[(1,.i64),(8,.i64),(12,.i64),(13,.i64),(41,(.lst .node)),(42,.i64),(43,.i64),(118,(.lst .edg)),(119,.i64),(120,.i64)],[(11,.box [.d .arrow]),(1000000,.box [.d .query,.d .graph,.d (.lst (.map .pair .bool))]),(1000032,.box [.ref (.own 1000033)]),(1000033,.arr 62 (.lst .i64)),(1000034,.box [.d .bool]),(2000016,.arr 3 .i64)],[]⟩ ⟨[(0,.ptr 1000000 0),(2,.own 2000016),(3,.clo 16 [1000032,1000034])],[(1,.i64),(8,.i64),(41,(.lst .node)),(42,.i64),(43,.i64)],[(1000000,.box [.d .query,.d .graph,.d (.lst (.map .pair .bool))]),(1000032,.box [.ref (.own 1000033)]),(1000033,.arr 62 (.lst .i64)),(1000034,.box [.d .bool]),(2000016,.arr 3 .i64)],[]⟩ ⟨[],[],[],[]⟩ pN n (x0c aD n) [] lN lN) lN)
theorem c2m [UTabs] (aD:Int×Y0×Y2×Unit×Y25×Y11×Unit->Option Y14)(h_q21z:Contract Tryz.prog 47 z0z aD)(n:Nat):Contract Tryz.prog 47 z0z (u0z aD n):=(d1s aD n)▸t1p aD h_q21z n
theorem r1b [UTabs]:∀n,Contract Tryz.prog 47 z0z (q21z n)
 | 0=>λ_ _ h=>by cases h
 |n+1=>c2m _ (r1b n) n
theorem h2j [UTabs] (n:Nat):Contract Tryz.prog 15 n2z (q20z n):=
 ctD Tryz.func15 21 TT [(999999999,a1),(999999994,⟨[20],[],[],false⟩),(47,⟨[0,1002,3],[],[],false⟩)] [] pN (oC (r1b n) (oN)) [] (.none rfl) (by kernel_rfl) lN
theorem d1a [UTabs] (n:Nat):Contract Tryz.prog 5 e1x (c0t n):=
 ctN Tryz.func5 29 TT [(999999999,a1),(1700000009,⟨[8,0,600008,62,1],[],[],false⟩),(15,⟨[0,1],[],[],false⟩),(18,⟨[1000],[],[],false⟩),(12,aT),(13,aT),(14,⟨[],[],[12],false⟩)] [.tmp 4,.tmp 5] pN (oC (g1x n) (oC (w1i n) (oC (p0a n) (oC (h2j n) (oC (z1s) (oN)))))) [] lN
def n2i:FnT:=⟨0,⟨[],[],[],[]⟩,[.v .bool],[]⟩
def m2q:FnT:=⟨0,⟨[],[],[],[]⟩,[.v .graph],[]⟩
theorem h2x:Contract Tryz.prog 21 m2q (q53z):=
 ctN Tryz.func21 10 TT [] [.cell 0 31] pN (oN) [] lN
def l1l:FnT:=⟨2,⟨[],[(0,.str),(1,.graph)],[],[]⟩,[.v (.lst .cnt),.v .i64,.v .i64],[]⟩
def d2w:FnT:=⟨1,⟨[],[(0,.str)],[],[]⟩,[.v .query,.v .i64,.v .i64],[]⟩
def d2v:FnT:=⟨1,⟨[(0,.ptr 1000000 0)],[],[(1000000,.box [.d .str,.d .i64,.d .str,.d .i64])],[]⟩,[],[(1000000,.box [.d .str,.d .i64,.d .str,.d .i64])]⟩
def m2u:FnT:=⟨1,⟨[],[(0,.u8)],[],[]⟩,[.v .bool],[]⟩
theorem i2n:Contract Tryz.prog 110 m2u (q97z):=
 ctN Tryz.func110 13 TT [] [.tmp 2] pN (oN) [] lN
def o2z:FnT:=⟨1,⟨[],[(0,.u8)],[],[]⟩,[.v .bool],[]⟩
theorem g2w:Contract Tryz.prog 111 o2z (q95z):=
 ctN Tryz.func111 29 TT [] [.tmp 2] pN (oN) [] lN
def d2o:FnT:=⟨2,⟨[(0,.ptr 1000000 0)],[(1,.i64)],[(1000000,.box [.d .str,.d .i64,.d .str,.d .i64])],[]⟩,[],[(1000000,.box [.d .str,.d .i64,.d .str,.d .i64])]⟩
theorem o0k:Contract Tryz.prog 90 d2o (q45z):=
 ctN Tryz.func90 11 TT [] [] pN (oN) [] lN
def n2p:FnT:=⟨2,⟨[],[(0,.str),(1,.str)],[],[]⟩,[.v .bool],[]⟩
def p2m:FnT:=⟨2,⟨[],[(0,.str),(1,.str)],[],[]⟩,[.v .bool],[]⟩
theorem f2e:Contract Tryz.prog 138 p2m (q22z):=
 ctN Tryz.func138 18 TT [] [.tmp 4] pN (oN) [] lN
theorem g2s:Contract Tryz.prog 112 n2p (q59z):=
 ctN Tryz.func112 8 TT [(138,aT)] [.tmp 4] pN (oC (f2e) (oN)) [] lN
def p2j:FnT:=⟨2,⟨[],[(0,.str),(1,.u8)],[],[]⟩,[.v .i64],[]⟩
def k2j:FnT:=⟨2,⟨[],[(0,.str),(1,.u8)],[],[]⟩,[.v .i64],[]⟩
theorem i2b:Contract Tryz.prog 139 k2j (q23z):=
 ctN Tryz.func139 8 TT [] [.tmp 4] pN (oE (n2g) (oN)) [] lN
theorem g2z:Contract Tryz.prog 113 p2j (q60z):=
 ctN Tryz.func113 8 TT [(139,aT)] [.tmp 4] pN (oC (i2b) (oN)) [] lN
theorem g0k(n:Nat):Contract Tryz.prog 88 d2v (q50z n):=
 ctD Tryz.func88 189 TT [(90,a0),(110,aT),(111,aT),(112,aT),(113,aT)] [] pN (oC (i2n) (oC (g2w) (oC (o0k) (oC (g2s) (oC (g2z) (oN)))))) [0,3,5] (.none rfl) (by kernel_rfl) (lC ⟨[(0,.ptr 1000000 0)],[],[(1000000,.box [.d .str,.d .i64,.d .str,.d .i64])],[]⟩ ⟨[(0,.ptr 1000000 0)],[],[(1000000,.box [.d .str,.d .i64,.d .str,.d .i64])],[]⟩ ⟨[],[],[],[]⟩ pN n (w1d n) [] lN (lC ⟨[(0,.ptr 1000000 0)],[(2,.i64)],[(1000000,.box [.d .str,.d .i64,.d .str,.d .i64])],[]⟩ ⟨[(0,.ptr 1000000 0)],[(2,.i64)],[(1000000,.box [.d .str,.d .i64,.d .str,.d .i64])],[]⟩ ⟨[],[],[],[]⟩ pN n (w1n n) [] lN (lC ⟨[(0,.ptr 1000000 0)],[(2,.i64)],[(1000000,.box [.d .str,.d .i64,.d .str,.d .i64])],[]⟩ ⟨[(0,.ptr 1000000 0)],[(2,.i64)],[(1000000,.box [.d .str,.d .i64,.d .str,.d .i64])],[]⟩ ⟨[],[],[],[]⟩ pN n (x1c n) [] lN lN)))
def d2i:FnT:=⟨1,⟨[(0,.ptr 1000000 0)],[],[(1000000,.box [.d .str,.d .i64,.d .str,.d .i64])],[]⟩,[.v .query],[(1000000,.box [.d .str,.d .i64,.d .str,.d .i64])]⟩
def p2k:FnT:=⟨2,⟨[(0,.ptr 1000000 0)],[(1,.str)],[(1000000,.box [.d .str,.d .i64,.d .str,.d .i64])],[]⟩,[],[(1000000,.box [.d .str,.d .i64,.d .str,.d .i64])]⟩
def k2r:FnT:=⟨2,⟨[(0,.ptr 1000000 0)],[(1,.str)],[(1000000,.box [.d .str,.d .i64,.d .str,.d .i64])],[]⟩,[.v .bool],[(1000000,.box [.d .str,.d .i64,.d .str,.d .i64])]⟩
theorem n0t(n:Nat):Contract Tryz.prog 117 k2r (q57z n):=
 ctN Tryz.func117 17 TT [(88,a0)] [.tmp 4] pN (oC (g0k n) (oN)) [] lN
theorem n0m(n:Nat):Contract Tryz.prog 114 p2k (q48z n):=
 ctN Tryz.func114 10 TT [(117,a0),(90,a0)] [] pN (oC (n0t n) (oC (o0k) (oN))) [] lN
def n2j:FnT:=⟨1,⟨[(0,.ptr 1000000 0)],[],[(1000000,.box [.d .str,.d .i64,.d .str,.d .i64])],[]⟩,[.v .dot],[(1000000,.box [.d .str,.d .i64,.d .str,.d .i64])]⟩
def n2u:FnT:=⟨2,⟨[(0,.ptr 1000000 0)],[(1,.bool)],[(1000000,.box [.d .str,.d .i64,.d .str,.d .i64])],[]⟩,[.v .str],[(1000000,.box [.d .str,.d .i64,.d .str,.d .i64])]⟩
theorem d1y(n:Nat):Contract Tryz.prog 140 n2u (q49z n):=
 ctN Tryz.func140 32 TT [(90,a0),(88,a0),(38,aT),(67,aT)] [.tmp 4] pN (oC (h0l n) (oC (o0k) (oC (g0k n) (oC (w1u n) (oN))))) [] lN
theorem i2u(n:Nat):Contract Tryz.prog 115 n2j (q56z n):=
 ctN Tryz.func115 29 TT [(114,a0),(140,a0),(117,a0)] [.cell 2 88] pN (oC (n0m n) (oC (d1y n) (oC (n0t n) (oN)))) [] lN
def k2y:FnT:=⟨1,⟨[(0,.ptr 1000000 0)],[],[(1000000,.box [.d .str,.d .i64,.d .str,.d .i64])],[]⟩,[.v .arrow],[(1000000,.box [.d .str,.d .i64,.d .str,.d .i64])]⟩
omit [QuietD Tryz.prog]in
theorem g2t:Contract Tryz.prog 116 k2y q39z:=λ_ _ h=>by cases h
def d0i:FnT:=⟨2,⟨[(0,.ptr 1000000 0)],[(1,.i64)],[(1000000,.box [.d .str,.d .i64,.d .str,.d .i64])],[]⟩,[.v .term],[(1000000,.box [.d .str,.d .i64,.d .str,.d .i64])]⟩
def e2i:FnT:=⟨4,⟨[(0,.ptr 1000000 0),(2,.bnd 142 [1000000])],[(1,.i64),(3,(.lst .str))],[(1000000,.box [.d .str,.d .i64,.d .str,.d .i64])],[]⟩,[.v .term],[(1000000,.box [.d .str,.d .i64,.d .str,.d .i64])]⟩
def k2x:FnT:=⟨2,⟨[(0,.ptr 1000000 0)],[(1,.i64)],[(1000000,.box [.d .str,.d .i64,.d .str,.d .i64])],[]⟩,[.v .term],[(1000000,.box [.d .str,.d .i64,.d .str,.d .i64])]⟩
def d2c:FnT:=⟨4,⟨[(0,.ptr 1000000 0),(2,.bnd 153 [1000000])],[(1,.i64),(3,(.lst .str))],[(1000000,.box [.d .str,.d .i64,.d .str,.d .i64])],[]⟩,[.v .term],[(1000000,.box [.d .str,.d .i64,.d .str,.d .i64])]⟩
def u1b:FnT:=⟨2,⟨[(0,.ptr 1000000 0)],[(1,.i64)],[(1000000,.box [.d .str,.d .i64,.d .str,.d .i64])],[]⟩,[.v .term],[(1000000,.box [.d .str,.d .i64,.d .str,.d .i64])]⟩
def j2s:FnT:=⟨2,⟨[],[(0,.str),(1,(.lst .term))],[],[]⟩,[.v .term],[]⟩
theorem i0a:Contract Tryz.prog 152 j2s (c0x):=
 ctN Tryz.func152 8 TT [] [.cell 4 42] pN (oN) [] lN
def e2e:FnT:=⟨2,⟨[(0,.ptr 1000000 0)],[(1,.i64)],[(1000000,.box [.d .str,.d .i64,.d .str,.d .i64])],[]⟩,[.v .term],[(1000000,.box [.d .str,.d .i64,.d .str,.d .i64])]⟩
def n2w:FnT:=⟨2,⟨[(0,.ptr 1000000 0)],[(1,.i64)],[(1000000,.box [.d .str,.d .i64,.d .str,.d .i64])],[]⟩,[.v .term],[(1000000,.box [.d .str,.d .i64,.d .str,.d .i64])]⟩
def e2l:FnT:=⟨4,⟨[(0,.ptr 1000000 0),(2,.bnd 158 [1000000])],[(1,.i64),(3,(.lst .str))],[(1000000,.box [.d .str,.d .i64,.d .str,.d .i64])],[]⟩,[.v .term],[(1000000,.box [.d .str,.d .i64,.d .str,.d .i64])]⟩
def o2x:FnT:=⟨2,⟨[(0,.ptr 1000000 0)],[(1,.i64)],[(1000000,.box [.d .str,.d .i64,.d .str,.d .i64])],[]⟩,[.v .term],[(1000000,.box [.d .str,.d .i64,.d .str,.d .i64])]⟩
def e2d:FnT:=⟨4,⟨[(0,.ptr 1000000 0),(2,.bnd 159 [1000000])],[(1,.i64),(3,(.lst .str))],[(1000000,.box [.d .str,.d .i64,.d .str,.d .i64])],[]⟩,[.v .term],[(1000000,.box [.d .str,.d .i64,.d .str,.d .i64])]⟩
def k2v:FnT:=⟨2,⟨[(0,.ptr 1000000 0)],[(1,.i64)],[(1000000,.box [.d .str,.d .i64,.d .str,.d .i64])],[]⟩,[.v .term],[(1000000,.box [.d .str,.d .i64,.d .str,.d .i64])]⟩
def m2h:FnT:=⟨3,⟨[(0,.ptr 1000000 0)],[(1,.i64),(2,.str)],[(1000000,.box [.d .str,.d .i64,.d .str,.d .i64])],[]⟩,[.v (.lst .term)],[(1000000,.box [.d .str,.d .i64,.d .str,.d .i64])]⟩
theorem h2k(aA:Int×Y1×Unit->Option Y8)(h_q34z:Contract Tryz.prog 118 d0i aA)(n:Nat):Contract Tryz.prog 160 m2h (q47z aA n):=
 ctN Tryz.func160 24 TT [(117,a0),(118,a0),(114,a0)] [.tmp 6] pN (oC (n0t n) (oC (h_q34z) (oC (n0m n) (oN)))) [0] (lC ⟨[(0,.ptr 1000000 0),(7,.own 7)],[(1,.i64),(2,.str)],[(7,.arr 42 .term),(1000000,.box [.d .str,.d .i64,.d .str,.d .i64])],[]⟩ ⟨[],[],[],[]⟩ ⟨[(6,.own 7)],[],[(7,.arr 42 .term),(1000000,.box [.d .str,.d .i64,.d .str,.d .i64])],[]⟩ ⟨[],[(7,7,42,7)],[]⟩ n (o1q aA n) [] lN lN)
def k2t:FnT:=⟨1,⟨[],[(0,.val)],[],[]⟩,[.v .term],[]⟩
theorem h2l:Contract Tryz.prog 161 k2t (q71z):=
 ctN Tryz.func161 5 TT [] [.cell 2 42] pN (oN) [] lN
def l2x:FnT:=⟨1,⟨[(0,.ptr 1000000 0)],[],[(1000000,.box [.d .str,.d .i64,.d .str,.d .i64])],[]⟩,[.v .term],[(1000000,.box [.d .str,.d .i64,.d .str,.d .i64])]⟩
omit [QuietD Tryz.prog]in
theorem h2i:Contract Tryz.prog 162 l2x q35z:=λ_ _ h=>by cases h
def n2k:FnT:=⟨1,⟨[(0,.ptr 1000000 0)],[],[(1000000,.box [.d .str,.d .i64,.d .str,.d .i64])],[]⟩,[.v .term],[(1000000,.box [.d .str,.d .i64,.d .str,.d .i64])]⟩
omit [QuietD Tryz.prog]in
theorem i2t:Contract Tryz.prog 163 n2k q51z:=λ_ _ h=>by cases h
theorem h2e(aA:Int×Y1×Unit->Option Y8)(h_q34z:Contract Tryz.prog 118 d0i aA)(n:Nat):Contract Tryz.prog 159 k2v (q40z aA n):=
 ctD Tryz.func159 108 TT [(90,a0),(117,a0),(118,a0),(114,a0),(160,a0),(88,a0),(162,a0),(163,a0),(140,a0),(41,aT)] [.cell 4 42] pN (oC (o0k) (oC (n0t n) (oC (h_q34z) (oC (n0m n) (oC (h2k _ h_q34z n) (oC (i0a) (oC (h2l) (oC (g0k n) (oC (h0w n) (oC (h2i) (oC (i2t) (oC (d1y n) (oN))))))))))))) [] (.none rfl) (by kernel_rfl) lN
def m0t{ρ:Type}(aA:Int×Y1×Unit->Option Y8)(n:Nat)(rec:Int×Y15×Y12×Y12×Y1×Unit->Option ρ)(kx:Y12×Y12×Y1×Unit->Option ρ)(kr:Unit->Option ρ):Int×Y15×Y12×Y12×Y1×Unit->Option ρ:=
 λ(i,j,b,c,f,_)=>let h:=(Term.mk c.1.kind (Val.mk c.1.v.kind c.1.v.n c.1.v.s c.1.v.l) c.1.name c.1.a);let g:=((Term.mk b.1.kind (Val.mk b.1.v.kind b.1.v.n b.1.v.s b.1.v.l) b.1.name b.1.a),());
 (q26z n (j,f.2.2.1,())).bind λ(o,_)=>
 (bif o then
 (q50z n (f,())).bind λ(k,_)=>
 (let z1q:=(
 (q40z aA n (i,k,())).bind λ(d,m,_)=>
 (c0x (f.2.2.1,([h,(Term.mk d.kind (Val.mk d.v.kind d.v.n d.v.s d.v.l) d.name d.a)]:List Term),())).bind λ(e,_)=>rec (i,j,g,((Term.mk e.kind (Val.mk e.v.kind e.v.n e.v.s e.v.l) e.name e.a),()),m,()))
 dem2 z1q z1q)
 else kx (g,(h,()),f,()))
omit [Tabs] [QuietD Tryz.prog]in
theorem z0f{ρ:Type}(aA:Int×Y1×Unit->Option Y8)(n:Nat): @m0t ρ aA n= @g1r ρ aA n:=by
 funext rec kx kr s;unfold m0t g1r
 first|with_reducible rfl|simp only[a0p,b0h]
def u1p(aA:Int×Y1×Unit->Option Y8)(n:Nat):Int×Y15×Y1×Unit->Option Y8:=
 λ(d,e,g,_)=>
 (q40z aA n (d,g,())).bind λ(c,h,_)=>
 a0a (λi=>m0t aA n i (λ(j,b,f,_)=>some ((Term.mk b.1.kind (Val.mk b.1.v.kind b.1.v.n b.1.v.s b.1.v.l) b.1.name b.1.a),f,())) (λ(_)=>none)) (n) (d,e,((Term.mk 0 (Val.mk 0 0 (⟨#[]⟩:Bt) ([]:List Val)) (⟨#[]⟩:Bt) ([]:List Term)),()),((Term.mk c.kind (Val.mk c.v.kind c.v.n c.v.s c.v.l) c.name c.a),()),h,())
omit [Tabs] [QuietD Tryz.prog]in
theorem p1p(aA:Int×Y1×Unit->Option Y8)(n:Nat):u1p aA n=q17z aA n:=by
 funext x;unfold u1p q17z
 first|with_reducible rfl|simp only[a0p,b0h,z0f]
theorem y1j(aA:Int×Y1×Unit->Option Y8)(h_q34z:Contract Tryz.prog 118 d0i aA)(n:Nat):Contract Tryz.prog 141 e2d (u1p aA n):=
 ctD Tryz.func141 34 TT [(999999992,⟨[26],[],[],false⟩),(159,a0),(88,a0),(41,aT)] [.cell 8 42] pN (oC (h2e _ h_q34z n) (oC (h0w n) (oC (g0k n) (oC (i0a) (oN))))) [0] (.none rfl) (by kernel_rfl) (lC ⟨[(0,.ptr 1000000 0),(2,.bnd 159 [1000000]),(8,.ptr 8 0),(9,.ptr 9 0)],[(1,.i64),(3,(.lst .str))],[(8,.box [.d .term]),(9,.box [.d .term]),(1000000,.box [.d .str,.d .i64,.d .str,.d .i64])],[]⟩ ⟨[(8,.ptr 8 0),(9,.ptr 9 0)],[],[(8,.box [.d .term]),(9,.box [.d .term]),(1000000,.box [.d .str,.d .i64,.d .str,.d .i64])],[]⟩ ⟨[],[],[],[]⟩ pN n (m0t aA n) [] lN lN)
theorem f2k(aA:Int×Y1×Unit->Option Y8)(h_q34z:Contract Tryz.prog 118 d0i aA)(n:Nat):Contract Tryz.prog 141 e2d (q17z aA n):=(p1p aA n)▸y1j aA h_q34z n
theorem g2o(aA:Int×Y1×Unit->Option Y8)(h_q34z:Contract Tryz.prog 118 d0i aA)(n:Nat):Contract Tryz.prog 158 o2x (q33z aA n):=
 ctN Tryz.func158 11 TT [(141,⟨[0,2],[],[],false⟩)] [.cell 4 42] pN (oC (f2k _ h_q34z n) (oN)) [] lN
def m0v{ρ:Type}(aA:Int×Y1×Unit->Option Y8)(n:Nat)(rec:Int×Y15×Y12×Y12×Y1×Unit->Option ρ)(kx:Y12×Y12×Y1×Unit->Option ρ)(kr:Unit->Option ρ):Int×Y15×Y12×Y12×Y1×Unit->Option ρ:=
 λ(i,j,b,c,f,_)=>let h:=(Term.mk c.1.kind (Val.mk c.1.v.kind c.1.v.n c.1.v.s c.1.v.l) c.1.name c.1.a);let g:=((Term.mk b.1.kind (Val.mk b.1.v.kind b.1.v.n b.1.v.s b.1.v.l) b.1.name b.1.a),());
 (q26z n (j,f.2.2.1,())).bind λ(o,_)=>
 (bif o then
 (q50z n (f,())).bind λ(k,_)=>
 (let z1q:=(
 (q33z aA n (i,k,())).bind λ(d,m,_)=>
 (c0x (f.2.2.1,([h,(Term.mk d.kind (Val.mk d.v.kind d.v.n d.v.s d.v.l) d.name d.a)]:List Term),())).bind λ(e,_)=>rec (i,j,g,((Term.mk e.kind (Val.mk e.v.kind e.v.n e.v.s e.v.l) e.name e.a),()),m,()))
 dem2 z1q z1q)
 else kx (g,(h,()),f,()))
omit [Tabs] [QuietD Tryz.prog]in
theorem b1y{ρ:Type}(aA:Int×Y1×Unit->Option Y8)(n:Nat): @m0v ρ aA n= @f1r ρ aA n:=by
 funext rec kx kr s;unfold m0v f1r
 first|with_reducible rfl|simp only[a0p,b0h]
def u1j(aA:Int×Y1×Unit->Option Y8)(n:Nat):Int×Y15×Y1×Unit->Option Y8:=
 λ(d,e,g,_)=>
 (q33z aA n (d,g,())).bind λ(c,h,_)=>
 a0a (λi=>m0v aA n i (λ(j,b,f,_)=>some ((Term.mk b.1.kind (Val.mk b.1.v.kind b.1.v.n b.1.v.s b.1.v.l) b.1.name b.1.a),f,())) (λ(_)=>none)) (n) (d,e,((Term.mk 0 (Val.mk 0 0 (⟨#[]⟩:Bt) ([]:List Val)) (⟨#[]⟩:Bt) ([]:List Term)),()),((Term.mk c.kind (Val.mk c.v.kind c.v.n c.v.s c.v.l) c.name c.a),()),h,())
omit [Tabs] [QuietD Tryz.prog]in
theorem w1h(aA:Int×Y1×Unit->Option Y8)(n:Nat):u1j aA n=q13z aA n:=by
 funext x;unfold u1j q13z
 first|with_reducible rfl|simp only[a0p,b0h,b1y]
theorem b2f(aA:Int×Y1×Unit->Option Y8)(h_q34z:Contract Tryz.prog 118 d0i aA)(n:Nat):Contract Tryz.prog 141 e2l (u1j aA n):=
 ctD Tryz.func141 34 TT [(999999992,⟨[26],[],[],false⟩),(158,a0),(88,a0),(41,aT)] [.cell 8 42] pN (oC (g2o _ h_q34z n) (oC (h0w n) (oC (g0k n) (oC (i0a) (oN))))) [0] (.none rfl) (by kernel_rfl) (lC ⟨[(0,.ptr 1000000 0),(2,.bnd 158 [1000000]),(8,.ptr 8 0),(9,.ptr 9 0)],[(1,.i64),(3,(.lst .str))],[(8,.box [.d .term]),(9,.box [.d .term]),(1000000,.box [.d .str,.d .i64,.d .str,.d .i64])],[]⟩ ⟨[(8,.ptr 8 0),(9,.ptr 9 0)],[],[(8,.box [.d .term]),(9,.box [.d .term]),(1000000,.box [.d .str,.d .i64,.d .str,.d .i64])],[]⟩ ⟨[],[],[],[]⟩ pN n (m0v aA n) [] lN lN)
theorem h2h(aA:Int×Y1×Unit->Option Y8)(h_q34z:Contract Tryz.prog 118 d0i aA)(n:Nat):Contract Tryz.prog 141 e2l (q13z aA n):=(w1h aA n)▸b2f aA h_q34z n
theorem e2o(aA:Int×Y1×Unit->Option Y8)(h_q34z:Contract Tryz.prog 118 d0i aA)(n:Nat):Contract Tryz.prog 157 n2w (q58z aA n):=
 ctN Tryz.func157 11 TT [(141,⟨[0,2],[],[],false⟩)] [.cell 4 42] pN (oC (h2h _ h_q34z n) (oN)) [] lN
def x1s(aA:Int×Y1×Unit->Option Y8)(n:Nat):Int×Y1×Unit->Option Y8:=
 λ(t,z,_)=>
 (q58z aA n (t,z,())).bind λ(j,b,_)=>let c:=(Term.mk j.kind (Val.mk j.v.kind j.v.n j.v.s j.v.l) j.name j.a);
 (bif seq b.2.2.1 (⟨#[61]⟩:Bt)then
 (bif seq b.2.2.1 (⟨#[61]⟩:Bt)then
 (q50z n (b,())).bind λ(o5,_)=>
 (let z1q:=(
 (q58z aA n (t,o5,())).bind λ(q,o7,_)=>
 (c0x (b.2.2.1,([c,(Term.mk q.kind (Val.mk q.v.kind q.v.n q.v.s q.v.l) q.name q.a)]:List Term),())).bind λ(r,_)=>some ((Term.mk r.kind (Val.mk r.v.kind r.v.n r.v.s r.v.l) r.name r.a),o7,()))
 dem2 z1q z1q)
 else
 (bif seq b.2.2.1 (⟨#[105,115]⟩:Bt)then
 (q50z n (b,())).bind λ(u,_)=>
 (q48z n ((⟨#[110,117,108,108]⟩:Bt),u,())).bind λ(w,_)=>
 (c0x ((⟨#[110,117,108,108]⟩:Bt),([c]:List Term),())).bind λ(d,_)=>some ((Term.mk d.kind (Val.mk d.v.kind d.v.n d.v.s d.v.l) d.name d.a),w,())
 else some (c,b,())))
 else
 (bif seq b.2.2.1 (⟨#[60]⟩:Bt)then
 (bif seq b.2.2.1 (⟨#[60]⟩:Bt)then
 (q50z n (b,())).bind λ(x,_)=>
 (let z2q:=(
 (q58z aA n (t,x,())).bind λ(e,y,_)=>
 (c0x (b.2.2.1,([c,(Term.mk e.kind (Val.mk e.v.kind e.v.n e.v.s e.v.l) e.name e.a)]:List Term),())).bind λ(f,_)=>some ((Term.mk f.kind (Val.mk f.v.kind f.v.n f.v.s f.v.l) f.name f.a),y,()))
 dem2 z2q z2q)
 else
 (bif seq b.2.2.1 (⟨#[105,115]⟩:Bt)then
 (q50z n (b,())).bind λ(aa,_)=>
 (q48z n ((⟨#[110,117,108,108]⟩:Bt),aa,())).bind λ(ab,_)=>
 (c0x ((⟨#[110,117,108,108]⟩:Bt),([c]:List Term),())).bind λ(g,_)=>some ((Term.mk g.kind (Val.mk g.v.kind g.v.n g.v.s g.v.l) g.name g.a),ab,())
 else some (c,b,())))
 else
 (bif seq b.2.2.1 (⟨#[60,61]⟩:Bt)then
 (bif seq b.2.2.1 (⟨#[60,61]⟩:Bt)then
 (q50z n (b,())).bind λ(ac,_)=>
 (let z3q:=(
 (q58z aA n (t,ac,())).bind λ(h,ad,_)=>
 (c0x (b.2.2.1,([c,(Term.mk h.kind (Val.mk h.v.kind h.v.n h.v.s h.v.l) h.name h.a)]:List Term),())).bind λ(i,_)=>some ((Term.mk i.kind (Val.mk i.v.kind i.v.n i.v.s i.v.l) i.name i.a),ad,()))
 dem2 z3q z3q)
 else
 (bif seq b.2.2.1 (⟨#[105,115]⟩:Bt)then
 (q50z n (b,())).bind λ(ae,_)=>
 (q48z n ((⟨#[110,117,108,108]⟩:Bt),ae,())).bind λ(af,_)=>
 (c0x ((⟨#[110,117,108,108]⟩:Bt),([c]:List Term),())).bind λ(k,_)=>some ((Term.mk k.kind (Val.mk k.v.kind k.v.n k.v.s k.v.l) k.name k.a),af,())
 else some (c,b,())))
 else
 (bif seq b.2.2.1 (⟨#[105,110]⟩:Bt)then
 (q50z n (b,())).bind λ(ag,_)=>
 (let z4q:=(
 (q58z aA n (t,ag,())).bind λ(m,ah,_)=>
 (c0x (b.2.2.1,([c,(Term.mk m.kind (Val.mk m.v.kind m.v.n m.v.s m.v.l) m.name m.a)]:List Term),())).bind λ(o,_)=>some ((Term.mk o.kind (Val.mk o.v.kind o.v.n o.v.s o.v.l) o.name o.a),ah,()))
 dem2 z4q z4q)
 else
 (bif seq b.2.2.1 (⟨#[105,115]⟩:Bt)then
 (q50z n (b,())).bind λ(ai,_)=>
 (q48z n ((⟨#[110,117,108,108]⟩:Bt),ai,())).bind λ(aj,_)=>
 (c0x ((⟨#[110,117,108,108]⟩:Bt),([c]:List Term),())).bind λ(p,_)=>some ((Term.mk p.kind (Val.mk p.v.kind p.v.n p.v.s p.v.l) p.name p.a),aj,())
 else some (c,b,()))))))
omit [Tabs] [QuietD Tryz.prog]in
theorem p1q(aA:Int×Y1×Unit->Option Y8)(n:Nat):x1s aA n=q32z aA n:=by
 funext x;unfold x1s q32z
 first|with_reducible rfl|simp only[a0p,b0h]
theorem c2n(aA:Int×Y1×Unit->Option Y8)(h_q34z:Contract Tryz.prog 118 d0i aA)(n:Nat):Contract Tryz.prog 156 e2e (x1s aA n):=
 ctD Tryz.func156 42 TT [(999999992,⟨[25],[],[],false⟩),(157,a0),(88,a0),(114,a0)] [.cell 4 42] pN (oC (e2o _ h_q34z n) (oC (g0k n) (oC (i0a) (oC (n0m n) (oN))))) [] (.none rfl) (by kernel_rfl) lN
theorem e2t(aA:Int×Y1×Unit->Option Y8)(h_q34z:Contract Tryz.prog 118 d0i aA)(n:Nat):Contract Tryz.prog 156 e2e (q32z aA n):=(p1q aA n)▸c2n aA h_q34z n
theorem z1u(aA:Int×Y1×Unit->Option Y8)(bM:Int×Y1×Unit->Option Y8)(h_q34z:Contract Tryz.prog 118 d0i aA)(h_q36z:Contract Tryz.prog 153 u1b bM)(n:Nat):Contract Tryz.prog 153 u1b (d2x aA bM n):=
 ctN Tryz.func153 20 TT [(90,a0),(117,a0),(153,a0),(156,a0)] [.cell 4 42] pN (oC (o0k) (oC (n0t n) (oC (h_q36z) (oC (i0a) (oC (e2t _ h_q34z n) (oN)))))) [] lN
theorem w1a(aA:Int×Y1×Unit->Option Y8)(h_q34z:Contract Tryz.prog 118 d0i aA):∀n,Contract Tryz.prog 153 u1b (q36z aA n)
 | 0=>λ_ _ h=>by cases h
 |n+1=>z1u aA _ h_q34z (w1a aA h_q34z n) n
def l0x{ρ:Type}(aA:Int×Y1×Unit->Option Y8)(n:Nat)(rec:Int×Y15×Y12×Y12×Y1×Unit->Option ρ)(kx:Y12×Y12×Y1×Unit->Option ρ)(kr:Unit->Option ρ):Int×Y15×Y12×Y12×Y1×Unit->Option ρ:=
 λ(i,j,b,c,f,_)=>let h:=(Term.mk c.1.kind (Val.mk c.1.v.kind c.1.v.n c.1.v.s c.1.v.l) c.1.name c.1.a);let g:=((Term.mk b.1.kind (Val.mk b.1.v.kind b.1.v.n b.1.v.s b.1.v.l) b.1.name b.1.a),());
 (q26z n (j,f.2.2.1,())).bind λ(o,_)=>
 (bif o then
 (q50z n (f,())).bind λ(k,_)=>
 (let z1q:=(
 (q36z aA n (i,k,())).bind λ(d,m,_)=>
 (c0x (f.2.2.1,([h,(Term.mk d.kind (Val.mk d.v.kind d.v.n d.v.s d.v.l) d.name d.a)]:List Term),())).bind λ(e,_)=>rec (i,j,g,((Term.mk e.kind (Val.mk e.v.kind e.v.n e.v.s e.v.l) e.name e.a),()),m,()))
 dem2 z1q z1q)
 else kx (g,(h,()),f,()))
omit [Tabs] [QuietD Tryz.prog]in
theorem c1d{ρ:Type}(aA:Int×Y1×Unit->Option Y8)(n:Nat): @l0x ρ aA n= @e1e ρ aA n:=by
 funext rec kx kr s;unfold l0x e1e
 first|with_reducible rfl|simp only[a0p,b0h]
def r1f(aA:Int×Y1×Unit->Option Y8)(n:Nat):Int×Y15×Y1×Unit->Option Y8:=
 λ(d,e,g,_)=>
 (q36z aA n (d,g,())).bind λ(c,h,_)=>
 a0a (λi=>l0x aA n i (λ(j,b,f,_)=>some ((Term.mk b.1.kind (Val.mk b.1.v.kind b.1.v.n b.1.v.s b.1.v.l) b.1.name b.1.a),f,())) (λ(_)=>none)) (n) (d,e,((Term.mk 0 (Val.mk 0 0 (⟨#[]⟩:Bt) ([]:List Val)) (⟨#[]⟩:Bt) ([]:List Term)),()),((Term.mk c.kind (Val.mk c.v.kind c.v.n c.v.s c.v.l) c.name c.a),()),h,())
omit [Tabs] [QuietD Tryz.prog]in
theorem r1y(aA:Int×Y1×Unit->Option Y8)(n:Nat):r1f aA n=q16z aA n:=by
 funext x;unfold r1f q16z
 first|with_reducible rfl|simp only[a0p,b0h,c1d]
theorem a2l(aA:Int×Y1×Unit->Option Y8)(h_q34z:Contract Tryz.prog 118 d0i aA)(n:Nat):Contract Tryz.prog 141 d2c (r1f aA n):=
 ctD Tryz.func141 34 TT [(999999992,⟨[26],[],[],false⟩),(153,a0),(88,a0),(41,aT)] [.cell 8 42] pN (oC (w1a _ h_q34z n) (oC (h0w n) (oC (g0k n) (oC (i0a) (oN))))) [0] (.none rfl) (by kernel_rfl) (lC ⟨[(0,.ptr 1000000 0),(2,.bnd 153 [1000000]),(8,.ptr 8 0),(9,.ptr 9 0)],[(1,.i64),(3,(.lst .str))],[(8,.box [.d .term]),(9,.box [.d .term]),(1000000,.box [.d .str,.d .i64,.d .str,.d .i64])],[]⟩ ⟨[(8,.ptr 8 0),(9,.ptr 9 0)],[],[(8,.box [.d .term]),(9,.box [.d .term]),(1000000,.box [.d .str,.d .i64,.d .str,.d .i64])],[]⟩ ⟨[],[],[],[]⟩ pN n (l0x aA n) [] lN lN)
theorem e2x(aA:Int×Y1×Unit->Option Y8)(h_q34z:Contract Tryz.prog 118 d0i aA)(n:Nat):Contract Tryz.prog 141 d2c (q16z aA n):=(r1y aA n)▸a2l aA h_q34z n
theorem i2w(aA:Int×Y1×Unit->Option Y8)(h_q34z:Contract Tryz.prog 118 d0i aA)(n:Nat):Contract Tryz.prog 142 k2x (q44z aA n):=
 ctN Tryz.func142 11 TT [(141,⟨[0,2],[],[],false⟩)] [.cell 4 42] pN (oC (e2x _ h_q34z n) (oN)) [] lN
def m0k{ρ:Type}(aA:Int×Y1×Unit->Option Y8)(n:Nat)(rec:Int×Y15×Y12×Y12×Y1×Unit->Option ρ)(kx:Y12×Y12×Y1×Unit->Option ρ)(kr:Unit->Option ρ):Int×Y15×Y12×Y12×Y1×Unit->Option ρ:=
 λ(i,j,b,c,f,_)=>let h:=(Term.mk c.1.kind (Val.mk c.1.v.kind c.1.v.n c.1.v.s c.1.v.l) c.1.name c.1.a);let g:=((Term.mk b.1.kind (Val.mk b.1.v.kind b.1.v.n b.1.v.s b.1.v.l) b.1.name b.1.a),());
 (q26z n (j,f.2.2.1,())).bind λ(o,_)=>
 (bif o then
 (q50z n (f,())).bind λ(k,_)=>
 (let z1q:=(
 (q44z aA n (i,k,())).bind λ(d,m,_)=>
 (c0x (f.2.2.1,([h,(Term.mk d.kind (Val.mk d.v.kind d.v.n d.v.s d.v.l) d.name d.a)]:List Term),())).bind λ(e,_)=>rec (i,j,g,((Term.mk e.kind (Val.mk e.v.kind e.v.n e.v.s e.v.l) e.name e.a),()),m,()))
 dem2 z1q z1q)
 else kx (g,(h,()),f,()))
omit [Tabs] [QuietD Tryz.prog]in
theorem c1l{ρ:Type}(aA:Int×Y1×Unit->Option Y8)(n:Nat): @m0k ρ aA n= @h1p ρ aA n:=by
 funext rec kx kr s;unfold m0k h1p
 first|with_reducible rfl|simp only[a0p,b0h]
def r1x(aA:Int×Y1×Unit->Option Y8)(n:Nat):Int×Y15×Y1×Unit->Option Y8:=
 λ(d,e,g,_)=>
 (q44z aA n (d,g,())).bind λ(c,h,_)=>
 a0a (λi=>m0k aA n i (λ(j,b,f,_)=>some ((Term.mk b.1.kind (Val.mk b.1.v.kind b.1.v.n b.1.v.s b.1.v.l) b.1.name b.1.a),f,())) (λ(_)=>none)) (n) (d,e,((Term.mk 0 (Val.mk 0 0 (⟨#[]⟩:Bt) ([]:List Val)) (⟨#[]⟩:Bt) ([]:List Term)),()),((Term.mk c.kind (Val.mk c.v.kind c.v.n c.v.s c.v.l) c.name c.a),()),h,())
omit [Tabs] [QuietD Tryz.prog]in
theorem w1j(aA:Int×Y1×Unit->Option Y8)(n:Nat):r1x aA n=q18z aA n:=by
 funext x;unfold r1x q18z
 first|with_reducible rfl|simp only[a0p,b0h,c1l]
theorem z1g(aA:Int×Y1×Unit->Option Y8)(h_q34z:Contract Tryz.prog 118 d0i aA)(n:Nat):Contract Tryz.prog 141 e2i (r1x aA n):=
 ctD Tryz.func141 34 TT [(999999992,⟨[26],[],[],false⟩),(142,a0),(88,a0),(41,aT)] [.cell 8 42] pN (oC (i2w _ h_q34z n) (oC (h0w n) (oC (g0k n) (oC (i0a) (oN))))) [0] (.none rfl) (by kernel_rfl) (lC ⟨[(0,.ptr 1000000 0),(2,.bnd 142 [1000000]),(8,.ptr 8 0),(9,.ptr 9 0)],[(1,.i64),(3,(.lst .str))],[(8,.box [.d .term]),(9,.box [.d .term]),(1000000,.box [.d .str,.d .i64,.d .str,.d .i64])],[]⟩ ⟨[(8,.ptr 8 0),(9,.ptr 9 0)],[],[(8,.box [.d .term]),(9,.box [.d .term]),(1000000,.box [.d .str,.d .i64,.d .str,.d .i64])],[]⟩ ⟨[],[],[],[]⟩ pN n (m0k aA n) [] lN lN)
theorem j2i(aA:Int×Y1×Unit->Option Y8)(h_q34z:Contract Tryz.prog 118 d0i aA)(n:Nat):Contract Tryz.prog 141 e2i (q18z aA n):=(w1j aA n)▸z1g aA h_q34z n
theorem b2n(aA:Int×Y1×Unit->Option Y8)(h_q34z:Contract Tryz.prog 118 d0i aA)(n:Nat):Contract Tryz.prog 118 d0i (d2m aA n):=
 ctN Tryz.func118 11 TT [(141,⟨[0,2],[],[],false⟩)] [.cell 4 42] pN (oC (j2i _ h_q34z n) (oN)) [] lN
theorem h1q:∀n,Contract Tryz.prog 118 d0i (q34z n)
 | 0=>λ_ _ h=>by cases h
 |n+1=>b2n _ (h1q n) n
def n2l:FnT:=⟨1,⟨[(0,.ptr 1000000 0)],[],[(1000000,.box [.d .str,.d .i64,.d .str,.d .i64])],[]⟩,[.v .item],[(1000000,.box [.d .str,.d .i64,.d .str,.d .i64])]⟩
theorem f2o(n:Nat):Contract Tryz.prog 119 n2l (q46z n):=
 ctN Tryz.func119 33 TT [(88,a0),(114,a0),(118,a0),(140,a0),(41,aT)] [.cell 2 44] pN (oC (h0w n) (oC (g0k n) (oC (n0m n) (oC (h1q n) (oC (d1y n) (oN)))))) [] lN
theorem j2b(n:Nat):Contract Tryz.prog 89 d2i (q41z n):=
 ctD Tryz.func89 64 TT [(999999999,a1),(1700000007,⟨[3,2,620003,42,7],[],[],false⟩),(114,a0),(115,a0),(116,a0),(117,a0),(118,a0),(119,a0)] [.cell 2 27] pN (oC (n0m n) (oC (i2u n) (oC (g2t) (oC (n0t n) (oC (h1q n) (oC (f2o n) (oN))))))) [0,2] (.none rfl) (by kernel_rfl) (lC ⟨[(0,.ptr 1000000 0),(2,.ptr 2 0),(3,.ptr 3 0)],[],[(2,.box [.d .query]),(3,.box [.ref (.own 11),.ref (.own 300121),.ref (.nils),.ref (.nils),.d .bool]),(11,.arr 88 .dot),(300121,.arr 91 .arrow),(1000000,.box [.d .str,.d .i64,.d .str,.d .i64])],[]⟩ ⟨[(0,.ptr 1000000 0),(2,.ptr 2 0),(3,.ptr 3 0)],[],[(2,.box [.d .query]),(3,.box [.ref (.own 11),.ref (.own 300121),.ref (.nils),.ref (.nils),.d .bool]),(11,.arr 88 .dot),(300121,.arr 91 .arrow),(1000000,.box [.d .str,.d .i64,.d .str,.d .i64])],[]⟩ ⟨[],[],[],[]⟩ ⟨[],[],[(3,1,300121,91,4),(3,0,300120,88,2)]⟩ n (t1w n) [] lN (lC ⟨[(0,.ptr 1000000 0),(2,.ptr 2 0),(3,.ptr 3 0)],[],[(2,.box [.d .query]),(3,.box [.ref (.own 11),.ref (.own 300121),.ref (.own 620003),.ref (.own 300123),.d .bool]),(11,.arr 88 .dot),(300121,.arr 91 .arrow),(300123,.arr 44 .item),(620003,.arr 42 .term),(1000000,.box [.d .str,.d .i64,.d .str,.d .i64])],[]⟩ ⟨[],[],[],[]⟩ ⟨[(2,.ptr 2 0)],[],[(2,.box [.ref (.own 11),.ref (.own 300121),.ref (.own 620003),.ref (.own 300123),.d .bool]),(11,.arr 88 .dot),(300121,.arr 91 .arrow),(300123,.arr 44 .item),(620003,.arr 42 .term),(1000000,.box [.d .str,.d .i64,.d .str,.d .i64])],[]⟩ ⟨[],[],[(3,3,300123,44,9)]⟩ n (e1h n) [] lN lN))
def d2j:Code:=g0x Tryz.f50
def d2z:List (Nat×ArgM):=[(999999997,⟨[87],[],[],false⟩),(88,a0),(89,a0),(90,a0),(12,aT)]
instance [UDef]:DfOk d2z:=⟨λg hg=>⟨UDef.ok g ((show ∀x∈([87]:List Nat),x∈([87]:List Nat)by decide) g hg),QuietD.free Tryz.prog⟩⟩
def e2k{ρ:Type}(n:Nat):Orc ρ:=g0p 88 d2v (q50z n) (g0p 89 d2i (q41z n) (g0p 90 d2o (q45z) (g0p 12 e2n (q93z n) (r1e))))
theorem r1v [UTabs] {ρ:Type}(n:Nat):(e2k n:Orc ρ).ok Tryz.prog:=g0v (by kernel_rfl) (g0k n) (g0v (by kernel_rfl) (j2b n) (g0v (by kernel_rfl) (o0k) (g0v (by kernel_rfl) (g1x n) (a1z))))
def o2a{ρ:Type}(n:Nat):LOrc ρ:=t1o
omit [Tabs] [QuietD Tryz.prog]in
theorem l2r(n:Nat)(x):evF Tryz.prog 33 TT d2z d2w (e2k n) (o2a n) x0y ⟨[],[],[]⟩ [.cell 2 27,.cell 3 3,.cell 4 33] d2j x=q94z n x:=by kernel_rfl
theorem j2p [UDef] [UTabs] (n:Nat):Contract Tryz.prog 50 d2w (q94z n):=
 Contract.of_ev (c:=d2j) (N:=33) Tryz.func50 (by kernel_rfl) (by kernel_rfl) (by kernel_rfl) (by kernel_rfl) (r1v n) n0o (.of (l:=[]) (by kernel_rfl) trivial) (l2r n)
def w1l:FnT:=⟨2,⟨[],[(0,.query),(1,.graph)],[],[]⟩,[.v (.lst .cnt),.v .i64],[]⟩
def k2u:FnT:=⟨2,⟨[(0,.ptr 1000000 0),(1,.clo 22 [1000016,1000017,1000019,1000020])],[],[(1000000,.box [.d .query,.d .graph,.d (.lst (.map .pair .bool))]),(1000016,.box [.d .i64]),(1000017,.box [.ref (.own 1000018)]),(1000018,.arr 52 .cnt),(1000019,.box [.d .query]),(1000020,.box [.ref (.ptr 1000000 0)])],[]⟩,[],[(1000000,.box [.d .query,.d .graph,.d (.lst (.map .pair .bool))]),(1000016,.box [.d .i64]),(1000017,.box [.ref (.own 1000018)]),(1000018,.arr 52 .cnt),(1000019,.box [.d .query]),(1000020,.box [.ref (.ptr 1000000 0)])]⟩
def b1b:FnT:=⟨4,⟨[(0,.ptr 1000000 0),(2,.own 2000016),(3,.clo 22 [1000032,1000033,1000035,1000036])],[(1,.i64)],[(1000000,.box [.d .query,.d .graph,.d (.lst (.map .pair .bool))]),(2000016,.arr 3 .i64),(1000032,.box [.d .i64]),(1000033,.box [.ref (.own 1000034)]),(1000034,.arr 52 .cnt),(1000035,.box [.d .query]),(1000036,.box [.ref (.ptr 1000000 0)])],[]⟩,[],[(1000000,.box [.d .query,.d .graph,.d (.lst (.map .pair .bool))]),(2000016,.arr 3 .i64),(1000032,.box [.d .i64]),(1000033,.box [.ref (.own 1000034)]),(1000034,.arr 52 .cnt),(1000035,.box [.d .query]),(1000036,.box [.ref (.ptr 1000000 0)])]⟩
def q0u:FnT:=⟨5,⟨[(0,.own 2000000),(1,.ptr 1000016 0),(2,.ptr 1000032 0),(3,.ptr 1000048 0),(4,.ptr 1000064 0)],[],[(2000000,.arr 3 .i64),(1000016,.box [.d .i64]),(1000032,.box [.ref (.own 1000033)]),(1000033,.arr 52 .cnt),(1000048,.box [.d .query]),(1000064,.box [.ref (.ptr 1000065 0)]),(1000065,.box [.d .query,.d .graph,.d (.lst (.map .pair .bool))])],[]⟩,[],[(2000000,.arr 3 .i64),(1000016,.box [.d .i64]),(1000032,.box [.ref (.own 1000033)]),(1000033,.arr 52 .cnt),(1000048,.box [.d .query]),(1000064,.box [.ref (.ptr 1000065 0)]),(1000065,.box [.d .query,.d .graph,.d (.lst (.map .pair .bool))])]⟩
def x1q:FnT:=⟨2,⟨[],[(0,.query),(1,.envr)],[],[]⟩,[.v (.lst .val)],[]⟩
theorem n1l [UTabs] (n:Nat):Contract Tryz.prog 23 x1q (c0c n):=
 ctN Tryz.func23 24 TT [] [.tmp 4] pN (oC (f1z n) (oN)) [0] (lC ⟨[(3,.ptr 3 0),(5,.own 5)],[(9,(.lst .item)),(10,.i64),(11,.i64)],[(3,.box [.d .envr]),(5,.arr 39 .val)],[]⟩ ⟨[(5,.own 5)],[],[(5,.arr 39 .val)],[]⟩ ⟨[],[],[],[]⟩ ⟨[],[(5,5,39,4)],[]⟩ n (o0b n) [] lN lN)
def l0b(n:Nat):Y2×Y5×Unit×Y3×Y4×Unit×Y0×Unit->Option (Y2×Y5×Unit×Y3×Y4×Unit×Y0×Unit):=
 λ(d,c,o3,a,b,o6,e,_)=>
 (bif decide ((wI (c.1+1):Int)<=2000)then
 dem2 (
 (let z1q:=(
 (q55z n (e,d,())).bind λ(am,ac,ad,_)=>
 (c0c n (b.1,am,())).bind λ(o,_)=>
 ck (room (a++([(Cnt.mk o 1)]:List Cnt)).length 32) (some (ad,(wI (c.1+1),()),(()),a++([(Cnt.mk o 1)]:List Cnt),b,(()),ac,())))
 dem2 z1q (dem2 z1q z1q))) (
 dem2 (
 dem2 (
 (q55z n (e,d,())).bind λ(an,ae,af,_)=>
 (c0c n (b.1,an,())).bind λ(p,_)=>
 ck (room (a++([(Cnt.mk p 1)]:List Cnt)).length 32) (some (af,(wI (c.1+1),()),(()),a++([(Cnt.mk p 1)]:List Cnt),b,(()),ae,()))) (
 dem2 (
 (q55z n (e,d,())).bind λ(ao,ag,ah,_)=>
 (c0c n (b.1,ao,())).bind λ(q,_)=>
 ck (room (a++([(Cnt.mk q 1)]:List Cnt)).length 32) (some (ah,(wI (c.1+1),()),(()),a++([(Cnt.mk q 1)]:List Cnt),b,(()),ag,()))) (
 (q55z n (e,d,())).bind λ(r,j,k,_)=>
 dem2 (
 (c0c n (b.1,r,())).bind λ(s,_)=>
 ck (room (a++([(Cnt.mk s 1)]:List Cnt)).length 32) (some (k,(wI (c.1+1),()),(()),a++([(Cnt.mk s 1)]:List Cnt),b,(()),j,()))) (
 (c0c n (b.1,r,())).bind λ(t,_)=>
 (let z2q:=(
 ck (room (a++([(Cnt.mk t 1)]:List Cnt)).length 32) (some (k,(wI (c.1+1),()),(()),a++([(Cnt.mk t 1)]:List Cnt),b,(()),j,())))
 dem2 z2q (dem2 z2q z2q)))))) (
 dem2 (
 (let z3q:=(
 (q55z n (e,d,())).bind λ(ap,ai,aj,_)=>
 (c0c n (b.1,ap,())).bind λ(u,_)=>
 ck (room (a++([(Cnt.mk u 1)]:List Cnt)).length 32) (some (aj,(wI (c.1+1),()),(()),a++([(Cnt.mk u 1)]:List Cnt),b,(()),ai,())))
 dem2 z3q z3q)) (
 dem2 (
 dem2 (
 (q55z n (e,d,())).bind λ(aq,ak,al,_)=>
 (c0c n (b.1,aq,())).bind λ(v,_)=>
 ck (room (a++([(Cnt.mk v 1)]:List Cnt)).length 32) (some (al,(wI (c.1+1),()),(()),a++([(Cnt.mk v 1)]:List Cnt),b,(()),ak,()))) (
 (q55z n (e,d,())).bind λ(w,l,m,_)=>
 dem2 (
 (c0c n (b.1,w,())).bind λ(x,_)=>
 ck (room (a++([(Cnt.mk x 1)]:List Cnt)).length 32) (some (m,(wI (c.1+1),()),(()),a++([(Cnt.mk x 1)]:List Cnt),b,(()),l,()))) (
 (c0c n (b.1,w,())).bind λ(y,_)=>
 (let z4q:=(
 ck (room (a++([(Cnt.mk y 1)]:List Cnt)).length 32) (some (m,(wI (c.1+1),()),(()),a++([(Cnt.mk y 1)]:List Cnt),b,(()),l,())))
 dem2 z4q (dem2 z4q z4q))))) (
 (q55z n (e,d,())).bind λ(h,f,g,_)=>
 dem2 (
 (c0c n (b.1,h,())).bind λ(z,_)=>
 ck (room (a++([(Cnt.mk z 1)]:List Cnt)).length 32) (some (g,(wI (c.1+1),()),(()),a++([(Cnt.mk z 1)]:List Cnt),b,(()),f,()))) (
 dem2 (
 (c0c n (b.1,h,())).bind λ(aa,_)=>
 ck (room (a++([(Cnt.mk aa 1)]:List Cnt)).length 32) (some (g,(wI (c.1+1),()),(()),a++([(Cnt.mk aa 1)]:List Cnt),b,(()),f,()))) (
 (c0c n (b.1,h,())).bind λ(ab,_)=>
 (let z5q:=(
 ck (room (a++([(Cnt.mk ab 1)]:List Cnt)).length 32) (some (g,(wI (c.1+1),()),(()),a++([(Cnt.mk ab 1)]:List Cnt),b,(()),f,())))
 dem2 z5q (dem2 z5q z5q))))))))
 else some (d,(wI (c.1+1),()),(()),a,b,(()),e,()))
omit [Tabs] [QuietD Tryz.prog]in
theorem t0n(n:Nat):l0b n=b0r n:=by
 funext x;unfold l0b b0r
 first|with_reducible rfl|simp only[a0p,b0h]
theorem v0k [UTabs] (n:Nat):Contract Tryz.prog 22 q0u (l0b n):=
 ctD Tryz.func22 19 TT [(999999999,a1),(999999992,⟨[10],[],[],false⟩),(24,⟨[0,1001],[],[],false⟩)] [] pN (oC (h1g n) (oC (n1l n) (oN))) [] (.none rfl) (by kernel_rfl) lN
theorem b1w [UTabs] (n:Nat):Contract Tryz.prog 22 q0u (b0r n):=(t0n n)▸v0k n
def y0y(aE:Int×Y0×Y2×Y5×Unit×Y3×Y4×Unit×Unit->Option Y13)(n:Nat):Int×Y0×Y2×Y5×Unit×Y3×Y4×Unit×Unit->Option Y13:=
 λ(a1,a,r,b,o5,c,z,o8,_)=>let s:=((Query.mk a.1.dots a.1.arrows a.1.wher a.1.items a.1.dist),(Graph.mk a.2.1.nodes a.2.1.edges a.2.1.next),a.2.2.1,());let d:=((Query.mk z.1.dots z.1.arrows z.1.wher z.1.items z.1.dist),());
 (bif (a1:Int)==(a.1.dots.length:Int)then
 dem2 (
 (q55z n (s,r,())).bind λ(y9,e,ag,_)=>let al:=((Query.mk e.1.dots e.1.arrows e.1.wher e.1.items e.1.dist),(Graph.mk e.2.1.nodes e.2.1.edges e.2.1.next),e.2.2.1,());
 (q68z n ((Envr.mk (Graph.mk y9.g.nodes y9.g.edges y9.g.next) y9.at_),e.1.wher,())).bind λ(bl,_)=>
 (bif bl then
 (b0r n (ag,(b.1,()),(()),c,d,(()),al,())).bind λ(aq,ar,bq,au,u,bt,k,_)=>some (((Query.mk k.1.dots k.1.arrows k.1.wher k.1.items k.1.dist),(Graph.mk k.2.1.nodes k.2.1.edges k.2.1.next),k.2.2.1,()),aq,(ar.1,()),(()),au,((Query.mk u.1.dots u.1.arrows u.1.wher u.1.items u.1.dist),()),(()),())
 else some (al,ag,(b.1,()),(()),c,d,(()),()))) (
 dem2 (
 (q55z n (s,r,())).bind λ(aa,f,ah,_)=>let am:=((Query.mk f.1.dots f.1.arrows f.1.wher f.1.items f.1.dist),(Graph.mk f.2.1.nodes f.2.1.edges f.2.1.next),f.2.2.1,());
 (q68z n ((Envr.mk (Graph.mk aa.g.nodes aa.g.edges aa.g.next) aa.at_),f.1.wher,())).bind λ(bm,_)=>
 (bif bm then
 (b0r n (ah,(b.1,()),(()),c,d,(()),am,())).bind λ(ay,az,bu,ba,v,bv,l,_)=>some (((Query.mk l.1.dots l.1.arrows l.1.wher l.1.items l.1.dist),(Graph.mk l.2.1.nodes l.2.1.edges l.2.1.next),l.2.2.1,()),ay,(az.1,()),(()),ba,((Query.mk v.1.dots v.1.arrows v.1.wher v.1.items v.1.dist),()),(()),())
 else some (am,ah,(b.1,()),(()),c,d,(()),()))) (
 dem2 (
 (q55z n (s,r,())).bind λ(ab,h,ai,_)=>let an:=((Query.mk h.1.dots h.1.arrows h.1.wher h.1.items h.1.dist),(Graph.mk h.2.1.nodes h.2.1.edges h.2.1.next),h.2.2.1,());
 (q68z n ((Envr.mk (Graph.mk ab.g.nodes ab.g.edges ab.g.next) ab.at_),h.1.wher,())).bind λ(bn,_)=>
 (bif bn then
 (b0r n (ai,(b.1,()),(()),c,d,(()),an,())).bind λ(bb,bc,bw,bd,w,bx,m,_)=>some (((Query.mk m.1.dots m.1.arrows m.1.wher m.1.items m.1.dist),(Graph.mk m.2.1.nodes m.2.1.edges m.2.1.next),m.2.2.1,()),bb,(bc.1,()),(()),bd,((Query.mk w.1.dots w.1.arrows w.1.wher w.1.items w.1.dist),()),(()),())
 else some (an,ai,(b.1,()),(()),c,d,(()),()))) (
 dem2 (
 (q55z n (s,r,())).bind λ(ac,i,aj,_)=>let ao:=((Query.mk i.1.dots i.1.arrows i.1.wher i.1.items i.1.dist),(Graph.mk i.2.1.nodes i.2.1.edges i.2.1.next),i.2.2.1,());
 (q68z n ((Envr.mk (Graph.mk ac.g.nodes ac.g.edges ac.g.next) ac.at_),i.1.wher,())).bind λ(bo,_)=>
 (bif bo then
 (b0r n (aj,(b.1,()),(()),c,d,(()),ao,())).bind λ(be,bf,bz,bg,x,cb,o,_)=>some (((Query.mk o.1.dots o.1.arrows o.1.wher o.1.items o.1.dist),(Graph.mk o.2.1.nodes o.2.1.edges o.2.1.next),o.2.2.1,()),be,(bf.1,()),(()),bg,((Query.mk x.1.dots x.1.arrows x.1.wher x.1.items x.1.dist),()),(()),())
 else some (ao,aj,(b.1,()),(()),c,d,(()),()))) (
 (q55z n (s,r,())).bind λ(ad,p,ak,_)=>let ap:=((Query.mk p.1.dots p.1.arrows p.1.wher p.1.items p.1.dist),(Graph.mk p.2.1.nodes p.2.1.edges p.2.1.next),p.2.2.1,());
 (q68z n ((Envr.mk (Graph.mk ad.g.nodes ad.g.edges ad.g.next) ad.at_),a.1.wher,())).bind λ(bp,_)=>
 (bif bp then
 (b0r n (ak,(b.1,()),(()),c,d,(()),ap,())).bind λ(bh,bi,cc,bj,y,cd,q,_)=>some (((Query.mk q.1.dots q.1.arrows q.1.wher q.1.items q.1.dist),(Graph.mk q.2.1.nodes q.2.1.edges q.2.1.next),q.2.2.1,()),bh,(bi.1,()),(()),bj,((Query.mk y.1.dots y.1.arrows y.1.wher y.1.items y.1.dist),()),(()),())
 else some (ap,ak,(b.1,()),(()),c,d,(()),()))))))
 else
 a0a (λbk=>l0f aE n bk (λ(j,av,br,aw,t,bs,ax,_)=>some (((Query.mk j.1.dots j.1.arrows j.1.wher j.1.items j.1.dist),(Graph.mk j.2.1.nodes j.2.1.edges j.2.1.next),j.2.2.1,()),ax,(av.1,()),(()),aw,((Query.mk t.1.dots t.1.arrows t.1.wher t.1.items t.1.dist),()),(()),())) (λ(_)=>none)) (n) (a1,(a.1.dots.length:Int),a.2.1.nodes,(a.2.1.nodes.length:Int),0,s,(b.1,()),(()),c,d,(()),r,()))
omit [Tabs] [QuietD Tryz.prog]in
theorem g1u(aE:Int×Y0×Y2×Y5×Unit×Y3×Y4×Unit×Unit->Option Y13)(n:Nat):y0y aE n=u0h aE n:=by
 funext x;unfold y0y u0h
 first|with_reducible rfl|simp only[a0p,b0h]
theorem v1p [UTabs] (aE:Int×Y0×Y2×Y5×Unit×Y3×Y4×Unit×Unit->Option Y13)(h_q25z:Contract Tryz.prog 47 b1b aE)(n:Nat):Contract Tryz.prog 47 b1b (y0y aE n):=
 ctD Tryz.func47 162 TT [(999999999,a1),(999999992,⟨[25],[],[],false⟩),(22,⟨[1000,1,2,3,4],[],[],false⟩),(47,⟨[0,1002,3],[],[],false⟩),(24,⟨[0,1001],[],[],false⟩),(76,⟨[0,1002],[],[],false⟩),(75,a0),(74,aT)] [] pN (oC (h1g n) (oC (p1d n) (oC (b1w n) (oC (p1a n) (oC (s1k n) (oC (h_q25z) (oN))))))) [0] (.none rfl) (by kernel_rfl) (lC ⟨[(0,.ptr 1000000 0),(2,.own 2000016),(3,.clo 22 [1000032,1000033,1000035,1000036])],[(1,.i64),(8,.i64),(41,(.lst .node)),(42,.i64),(43,.i64)],[(1000000,.box [.d .query,.d .graph,.d (.lst (.map .pair .bool))]),(1000032,.box [.d .i64]),(1000033,.box [.ref (.own 1000034)]),(1000034,.arr 52 .cnt),(1000035,.box [.d .query]),(1000036,.box [.ref (.ptr 1000000 0)]),(2000016,.arr 3 .i64)],[]⟩ ⟨[],[],[(1000000,.box [.d .query,.d .graph,.d (.lst (.map .pair .bool))]),(1000032,.box [.d .i64]),(1000033,.box [.ref (.own 1000034)]),(1000034,.arr 52 .cnt),(1000035,.box [.d .query]),(1000036,.box [.ref (.ptr 1000000 0)]),(2000016,.arr 3 .i64)],[]⟩ ⟨[],[],[],[]⟩ pN n (l0f aE n) [2] (lC ⟨[(0,.ptr 1000000 0),(2,.own 2000016),(3,.clo 22 [1000032,1000033,1000035,1000036]),(11,.ptr 11 0)],[(1,.i64),(8,.i64),(12,.i64),(13,.i64),(41,(.lst .node)),(42,.i64),(43,.i64),(118,(.lst .edg)),(119,.i64),(120,.i64)],[(11,.box [.d .arrow]),(1000000,.box [.d .query,.d .graph,.d (.lst (.map .pair .bool))]),(1000032,.box [.d .i64]),(1000033,.box [.ref (.own 1000034)]),(1000034,.arr 52 .cnt),(1000035,.box [.d .query]),(1000036,.box [.ref (.ptr 1000000 0)]),(2000016,.arr 3 .i64)],[]⟩ ⟨[(0,.ptr 1000000 0),(2,.own 2000016),(3,.clo 22 [1000032,1000033,1000035,1000036])],[(1,.i64),(8,.i64),(41,(.lst .node)),(42,.i64),(43,.i64)],[(1000000,.box [.d .query,.d .graph,.d (.lst (.map .pair .bool))]),(1000032,.box [.d .i64]),(1000033,.box [.ref (.own 1000034)]),(1000034,.arr 52 .cnt),(1000035,.box [.d .query]),(1000036,.box [.ref (.ptr 1000000 0)]),(2000016,.arr 3 .i64)],[]⟩ ⟨[],[],[],[]⟩ pN n (y0n aE n) [] lN lN) lN)
theorem c2i [UTabs] (aE:Int×Y0×Y2×Y5×Unit×Y3×Y4×Unit×Unit->Option Y13)(h_q25z:Contract Tryz.prog 47 b1b aE)(n:Nat):Contract Tryz.prog 47 b1b (u0h aE n):=(g1u aE n)▸v1p aE h_q25z n
theorem p1y [UTabs]:∀n,Contract Tryz.prog 47 b1b (q25z n)
 | 0=>λ_ _ h=>by cases h
 |n+1=>c2i _ (p1y n) n
theorem g2j [UTabs] (n:Nat):Contract Tryz.prog 15 k2u (q24z n):=
 ctD Tryz.func15 21 TT [(999999999,a1),(999999994,⟨[20],[],[],false⟩),(47,⟨[0,1002,3],[],[],false⟩)] [] pN (oC (p1y n) (oN)) [] (.none rfl) (by kernel_rfl) lN
def j2t:FnT:=⟨1,⟨[],[(0,(.lst .cnt))],[],[]⟩,[.v (.lst .cnt)],[]⟩
def k2k:FnT:=⟨1,⟨[],[(0,(.lst .cnt))],[],[]⟩,[.ref (.own 5)],[(5,.arr 52 .cnt)]⟩
theorem w1x:Contract Tryz.prog 56 k2k (q19z):=
 ctN Tryz.func56 8 TT [] [.tmp 2] ⟨[],[(2,5,52,2)],[]⟩ (oN) [] lN
def q2r:FnT:=⟨2,⟨[(0,.own 2000000),(1,.fn 58)],[],[(2000000,.arr 52 .cnt)],[]⟩,[],[(2000000,.arr 52 .cnt)]⟩
def l2n:FnT:=⟨3,⟨[(0,.own 2000000),(2,.fn 58)],[(1,.i64)],[(2000000,.arr 52 .cnt)],[]⟩,[],[(2000000,.arr 52 .cnt)]⟩
def q2c:FnT:=⟨4,⟨[(0,.own 2000000),(3,.fn 58)],[(1,.i64),(2,.i64)],[(2000000,.arr 52 .cnt)],[]⟩,[],[(2000000,.arr 52 .cnt)]⟩
def o2c:FnT:=⟨2,⟨[],[(0,.cnt),(1,.cnt)],[],[]⟩,[.v .i64],[]⟩
def l2a:FnT:=⟨2,⟨[],[(0,(.lst .val)),(1,(.lst .val))],[],[]⟩,[.v .i64],[]⟩
def p2z:FnT:=⟨3,⟨[(2,.fn 11)],[(0,(.lst .val)),(1,(.lst .val))],[],[]⟩,[.v .i64],[]⟩
theorem k2l(n:Nat):Contract Tryz.prog 99 p2z (q2z n):=
 ctN Tryz.func99 39 TT [(11,aT)] [.tmp 6] pN (oC (k0f n) (oN)) [0] (lC ⟨[(2,.fn 11)],[(0,(.lst .val)),(1,(.lst .val)),(11,(.lst .val)),(12,.i64),(13,.i64)],[],[]⟩ ⟨[],[(0,(.lst .val)),(1,(.lst .val))],[],[]⟩ ⟨[],[(6,.i64)],[],[]⟩ pN n (w1z n) [] lN lN)
theorem d1q(n:Nat):Contract Tryz.prog 59 l2a (q87z n):=
 ctN Tryz.func59 8 TT [(99,aT)] [.tmp 4] pN (oC (k2l n) (oN)) [] lN
theorem t1m(n:Nat):Contract Tryz.prog 58 o2c (q81z n):=
 ctN Tryz.func58 10 TT [(59,aT)] [.tmp 4] pN (oC (d1q n) (oN)) [] lN
theorem l2v(n:Nat):Contract Tryz.prog 133 q2c (q7z n):=
 ctD Tryz.func133 53 TT [(999999999,a1),(58,aT)] [] pN (oC (t1m n) (oN)) [0] (.none rfl) (by kernel_rfl) (lC ⟨[(0,.own 2000000),(3,.fn 58)],[(1,.i64),(2,.i64),(8,.i64)],[(2000000,.arr 52 .cnt)],[]⟩ ⟨[],[],[(2000000,.arr 52 .cnt)],[]⟩ ⟨[],[],[],[]⟩ pN n (d2f n) [2] (lC ⟨[(0,.own 2000000),(3,.fn 58)],[(1,.i64),(2,.i64),(8,.i64),(9,.i64)],[(2000000,.arr 52 .cnt)],[]⟩ ⟨[(0,.own 2000000),(3,.fn 58)],[(1,.i64),(2,.i64),(8,.i64)],[(2000000,.arr 52 .cnt)],[]⟩ ⟨[],[],[],[]⟩ pN n (d2q n) [] lN lN) lN)
def o1v:FnT:=⟨5,⟨[(0,.own 2000000),(4,.fn 58)],[(1,.i64),(2,.i64),(3,.i64)],[(2000000,.arr 52 .cnt)],[]⟩,[],[(2000000,.arr 52 .cnt)]⟩
def n2y:FnT:=⟨5,⟨[(0,.own 2000000),(4,.fn 58)],[(1,.i64),(2,.i64),(3,.i64)],[(2000000,.arr 52 .cnt)],[]⟩,[],[(2000000,.arr 52 .cnt)]⟩
def k2s:FnT:=⟨5,⟨[(0,.own 2000000),(4,.fn 58)],[(1,.i64),(2,.i64),(3,.i64)],[(2000000,.arr 52 .cnt)],[]⟩,[],[(2000000,.arr 52 .cnt)]⟩
theorem f2c(n:Nat):Contract Tryz.prog 155 k2s (q11z n):=
 ctD Tryz.func155 38 TT [(999999999,a1)] [] pN (oN) [0] (.none rfl) (by kernel_rfl) (lC ⟨[(0,.own 2000000)],[(1,.i64),(2,.i64),(3,.i64),(10,.i64)],[(2000000,.arr 52 .cnt)],[]⟩ ⟨[],[],[(2000000,.arr 52 .cnt)],[]⟩ ⟨[],[],[],[]⟩ pN n (v1i n) [] lN lN)
theorem h2t(n:Nat):Contract Tryz.prog 149 n2y (q14z n):=
 ctN Tryz.func149 58 TT [(999999999,a1),(155,⟨[1000],[],[],false⟩)] [] pN (oC (f2c n) (oN)) [0] (lC ⟨[(0,.own 2000000),(4,.fn 58)],[(2,.i64),(10,.i64),(11,.i64)],[(2000000,.arr 52 .cnt)],[]⟩ ⟨[(0,.own 2000000),(4,.fn 58)],[(2,.i64),(10,.i64)],[(2000000,.arr 52 .cnt)],[]⟩ ⟨[],[],[],[]⟩ pN n (p1j n) [] lN lN)
theorem z1m(aC:Int×Int×Int×Y3×Unit->Option Y29)(h_q12z:Contract Tryz.prog 134 o1v aC)(n:Nat):Contract Tryz.prog 134 o1v (d2e aC n):=
 ctD Tryz.func134 220 TT [(999999999,a1),(149,⟨[1000],[],[],false⟩),(134,⟨[1000],[],[],false⟩),(58,aT)] [] pN (oC (t1m n) (oC (h2t n) (oC (h_q12z) (oN)))) [0,2,4,6,8] (.none rfl) (by kernel_rfl) (lC ⟨[(0,.own 2000000),(4,.fn 58)],[(1,.i64),(10,.i64),(11,.i64)],[(2000000,.arr 52 .cnt)],[]⟩ ⟨[(0,.own 2000000)],[(1,.i64),(10,.i64)],[(2000000,.arr 52 .cnt)],[]⟩ ⟨[],[],[],[]⟩ pN n (x1h aC n) [] lN (lC ⟨[(0,.own 2000000)],[(10,.i64),(13,.i64)],[(2000000,.arr 52 .cnt)],[]⟩ ⟨[],[],[(2000000,.arr 52 .cnt)],[]⟩ ⟨[],[],[],[]⟩ pN n (q1h aC n) [] lN (lC ⟨[(0,.own 2000000),(4,.fn 58)],[(2,.i64),(14,.i64),(15,.i64)],[(2000000,.arr 52 .cnt)],[]⟩ ⟨[(0,.own 2000000)],[(2,.i64),(14,.i64)],[(2000000,.arr 52 .cnt)],[]⟩ ⟨[],[],[],[]⟩ pN n (s1z aC n) [] lN (lC ⟨[(0,.own 2000000)],[(14,.i64),(17,.i64)],[(2000000,.arr 52 .cnt)],[]⟩ ⟨[],[],[(2000000,.arr 52 .cnt)],[]⟩ ⟨[],[],[],[]⟩ pN n (r1p aC n) [] lN (lC ⟨[(0,.own 2000000),(4,.fn 58)],[(1,.i64),(2,.i64),(3,.i64),(18,.i64),(19,.i64),(20,.i64),(21,.i64),(22,.i64)],[(2000000,.arr 52 .cnt)],[]⟩ ⟨[(0,.own 2000000),(4,.fn 58)],[(1,.i64),(2,.i64),(3,.i64),(18,.i64),(19,.i64),(20,.i64)],[(2000000,.arr 52 .cnt)],[]⟩ ⟨[],[],[],[]⟩ pN n (e1n aC n) [] lN lN)))))
theorem o1w:∀n,Contract Tryz.prog 134 o1v (q12z n)
 | 0=>λ_ _ h=>by cases h
 |n+1=>z1m _ (o1w n) n
theorem h2w(n:Nat):Contract Tryz.prog 98 l2n (q15z n):=
 ctN Tryz.func98 63 TT [(999999999,a1),(133,⟨[1000],[],[],false⟩),(134,⟨[1000],[],[],false⟩)] [] pN (oC (l2v n) (oC (o1w n) (oN))) [0,2] (lC ⟨[(0,.own 2000000),(2,.fn 58)],[(1,.i64),(6,.i64),(7,.i64),(8,.i64)],[(2000000,.arr 52 .cnt)],[]⟩ ⟨[(0,.own 2000000),(2,.fn 58)],[(1,.i64),(6,.i64),(7,.i64)],[(2000000,.arr 52 .cnt)],[]⟩ ⟨[],[],[],[]⟩ pN n (w1f n) [] lN (lC ⟨[(0,.own 2000000),(2,.fn 58)],[(1,.i64),(6,.i64)],[(2000000,.arr 52 .cnt)],[]⟩ ⟨[],[],[(2000000,.arr 52 .cnt)],[]⟩ ⟨[],[],[],[]⟩ pN n (u1k n) [4] (lC ⟨[(0,.own 2000000),(2,.fn 58)],[(1,.i64),(6,.i64),(7,.i64),(8,.i64)],[(2000000,.arr 52 .cnt)],[]⟩ ⟨[(0,.own 2000000),(2,.fn 58)],[(1,.i64),(6,.i64),(7,.i64)],[(2000000,.arr 52 .cnt)],[]⟩ ⟨[],[],[],[]⟩ pN n (v1f n) [] lN lN) lN))
theorem d2d(n:Nat):Contract Tryz.prog 57 q2r (q5z n):=
 ctN Tryz.func57 9 TT [(999999999,a1),(98,⟨[1000],[],[],false⟩)] [] pN (oC (h2w n) (oN)) [] lN
def o2l:FnT:=⟨1,⟨[],[(0,(.lst .val))],[],[]⟩,[.v (.lst .val)],[]⟩
theorem v1y(n:Nat):Contract Tryz.prog 32 o2l (q88z n):=
 ctN Tryz.func32 19 TT [] [.tmp 2] pN (oC (k0a n) (oN)) [0] (lC ⟨[(3,.own 3)],[(6,(.lst .val)),(7,.i64),(8,.i64)],[(3,.arr 39 .val)],[]⟩ ⟨[(3,.own 3)],[],[(3,.arr 39 .val)],[]⟩ ⟨[],[],[],[]⟩ ⟨[],[(3,3,39,4)],[]⟩ n (f1k n) [] lN lN)
def q2b:FnT:=⟨2,⟨[(0,.own 1000000),(1,.fn 61)],[],[(1000000,.arr 52 .cnt)],[]⟩,[.ref (.own 1000000)],[(1000000,.arr 52 .cnt)]⟩
def k2a:FnT:=⟨2,⟨[(1,.fn 61)],[(0,(.lst .cnt))],[],[]⟩,[.v .i64],[]⟩
def m2l:FnT:=⟨1,⟨[],[(0,.cnt)],[],[]⟩,[.v .bool],[]⟩
theorem o1s:Contract Tryz.prog 61 m2l (q82z):=
 ctN Tryz.func61 6 TT [] [.tmp 2] pN (oN) [] lN
theorem f2x(n:Nat):Contract Tryz.prog 100 k2a (q10z n):=
 ctN Tryz.func100 19 TT [(61,aT)] [.tmp 4] pN (oC (o1s) (oN)) [0] (lC ⟨[(1,.fn 61)],[(0,(.lst .cnt)),(7,.i64),(8,.i64)],[],[]⟩ ⟨[],[],[],[]⟩ ⟨[],[(4,.i64)],[],[]⟩ pN n (h1o n) [] lN lN)
theorem e2f(n:Nat):Contract Tryz.prog 60 q2b (q8z n):=
 ctN Tryz.func60 42 TT [(999999999,a1),(100,aT),(61,aT)] [.tmp 4] pN (oC (f2x n) (oC (o1s) (oN))) [0] (lC ⟨[(0,.own 1000000),(1,.fn 61)],[(5,.i64),(6,.i64)],[(1000000,.arr 52 .cnt)],[]⟩ ⟨[(0,.own 1000000)],[(5,.i64)],[(1000000,.arr 52 .cnt)],[]⟩ ⟨[],[],[],[]⟩ pN n (t0s n) [] lN lN)
theorem b2e(n:Nat):Contract Tryz.prog 26 j2t (b1a n):=
 ctD Tryz.func26 55 TT [(999999999,a1),(57,⟨[1000],[],[],false⟩),(60,⟨[0],[⟨0,1000000,52,2⟩],[],false⟩),(56,⟨[],[],[5],false⟩),(59,aT)] [.tmp 2] pN (oC (w1x) (oC (d2d n) (oC (d1q n) (oC (v1y n) (oC (e2f n) (oN)))))) [0] (.none rfl) (by kernel_rfl) (lC ⟨[(3,.own 3)],[(11,(.lst .cnt)),(12,.i64),(13,.i64)],[(3,.arr 52 .cnt)],[]⟩ ⟨[(3,.own 3)],[],[(3,.arr 52 .cnt)],[]⟩ ⟨[],[],[],[]⟩ ⟨[8],[(3,3,52,2)],[]⟩ n (v0t n) [] lN lN)
def u0k:FnT:=⟨2,⟨[],[(0,.query),(1,(.lst .cnt))],[],[]⟩,[.v (.lst .cnt)],[]⟩
def k2e:FnT:=⟨1,⟨[],[(0,.query)],[],[]⟩,[.v .bool],[]⟩
def q2p:FnT:=⟨2,⟨[(1,.fn 94)],[(0,(.lst .item))],[],[]⟩,[.v .bool],[]⟩
def q2q:FnT:=⟨2,⟨[(1,.fn 94)],[(0,(.lst .item))],[],[]⟩,[.v .i64],[]⟩
def k2f:FnT:=⟨1,⟨[],[(0,.item)],[],[]⟩,[.v .bool],[]⟩
theorem e2s:Contract Tryz.prog 94 k2f (q75z):=
 ctN Tryz.func94 6 TT [] [.tmp 2] pN (oN) [] lN
theorem k2m(n:Nat):Contract Tryz.prog 128 q2q (q9z n):=
 ctN Tryz.func128 19 TT [(94,aT)] [.tmp 4] pN (oC (e2s) (oN)) [0] (lC ⟨[(1,.fn 94)],[(0,(.lst .item)),(7,.i64),(8,.i64)],[],[]⟩ ⟨[],[],[],[]⟩ ⟨[],[(4,.i64)],[],[]⟩ pN n (w1w n) [] lN lN)
theorem k2z(n:Nat):Contract Tryz.prog 93 q2p (q6z n):=
 ctN Tryz.func93 9 TT [(128,aT)] [.tmp 4] pN (oC (k2m n) (oN)) [] lN
theorem g2h(n:Nat):Contract Tryz.prog 52 k2e (q86z n):=
 ctN Tryz.func52 6 TT [(93,aT)] [.tmp 2] pN (oC (k2z n) (oN)) [] lN
def l2s:FnT:=⟨1,⟨[],[(0,(.lst .cnt))],[],[]⟩,[.ref (.own 3)],[(3,.arr 52 .cnt)]⟩
theorem i2c(n:Nat):Contract Tryz.prog 26 l2s (q69z n):=
 ctD Tryz.func26 55 TT [(999999999,a1),(57,⟨[1000],[],[],false⟩),(60,⟨[0],[⟨0,1000000,52,2⟩],[],false⟩),(56,⟨[],[],[5],false⟩),(59,aT)] [.tmp 2] ⟨[],[(2,3,52,2)],[]⟩ (oC (w1x) (oC (d2d n) (oC (d1q n) (oC (v1y n) (oC (e2f n) (oN)))))) [0] (.none rfl) (by kernel_rfl) (lC ⟨[(3,.own 3)],[(11,(.lst .cnt)),(12,.i64),(13,.i64)],[(3,.arr 52 .cnt)],[]⟩ ⟨[(3,.own 3)],[],[(3,.arr 52 .cnt)],[]⟩ ⟨[],[],[],[]⟩ ⟨[8],[(3,3,52,2)],[]⟩ n (s1m n) [] lN lN)
def h2c:FnT:=⟨2,⟨[],[(0,(.lst .val)),(1,(.lst .i64))],[],[]⟩,[.v (.lst .val)],[]⟩
theorem z1o(n:Nat):Contract Tryz.prog 53 h2c (c2s n):=
 ctN Tryz.func53 23 TT [] [.tmp 4] pN (oN) [0] (lC ⟨[(5,.own 5)],[(0,(.lst .val)),(8,(.lst .i64)),(9,.i64),(10,.i64)],[(5,.arr 39 .val)],[]⟩ ⟨[(5,.own 5)],[],[(5,.arr 39 .val)],[]⟩ ⟨[],[],[],[]⟩ ⟨[],[(5,5,39,4)],[]⟩ n (x0n n) [] lN lN)
def n1q:FnT:=⟨1,⟨[],[(0,(.lst .val))],[],[]⟩,[.v .str],[]⟩
def o0e:FnT:=⟨2,⟨[(0,.own 1000000)],[(1,.val)],[(1000000,.arr 5 .u8)],[]⟩,[.ref (.own 1000000)],[(1000000,.arr 5 .u8)]⟩
def o2m:FnT:=⟨3,⟨[(0,.own 1000000)],[(1,.u64),(2,.i64)],[(1000000,.arr 5 .u8)],[]⟩,[.ref (.own 1000000)],[(1000000,.arr 5 .u8)]⟩
theorem j2q(n:Nat):Contract Tryz.prog 129 o2m (q89z n):=
 ctN Tryz.func129 23 TT [] [.tmp 6] pN (oN) [0] (lC ⟨[(0,.own 1000000)],[(1,.u64),(7,.i64)],[(1000000,.arr 5 .u8)],[]⟩ ⟨[(0,.own 1000000)],[],[(1000000,.arr 5 .u8)],[]⟩ ⟨[],[],[],[]⟩ ⟨[],[(0,0,5,1)],[]⟩ n (q0o n) [] lN lN)
theorem c1f(aN:Val×Y2×Unit->Option Y43)(h_code_Put:Contract Tryz.prog 95 o0e aN)(n:Nat):Contract Tryz.prog 95 o0e (e0m aN n):=
 ctN Tryz.func95 57 TT [(129,⟨[0],[⟨0,1000000,5,1⟩],[],false⟩),(95,⟨[0],[⟨0,1000000,5,1⟩],[],false⟩)] [.tmp 4] pN (oC (j2q n) (oC (h_code_Put) (oN))) [1] (lC ⟨[(0,.own 1000000)],[(46,(.lst .val)),(47,.i64),(48,.i64)],[(1000000,.arr 5 .u8)],[]⟩ ⟨[(0,.own 1000000)],[],[(1000000,.arr 5 .u8)],[]⟩ ⟨[],[],[],[]⟩ pN n (e0n aN n) [] lN lN)
theorem r0t:∀n,Contract Tryz.prog 95 o0e (d0y n)
 | 0=>λ_ _ h=>by cases h
 |n+1=>c1f _ (r0t n) n
theorem g1s(n:Nat):Contract Tryz.prog 54 n1q (q0m n):=
 ctN Tryz.func54 18 TT [(95,⟨[0],[⟨0,1000000,5,1⟩],[],false⟩)] [.tmp 2] pN (oC (r0t n) (oN)) [0] (lC ⟨[(3,.own 3)],[(6,(.lst .val)),(7,.i64),(8,.i64)],[(3,.arr 5 .u8)],[]⟩ ⟨[(3,.own 3)],[],[(3,.arr 5 .u8)],[]⟩ ⟨[],[],[],[]⟩ ⟨[],[(3,3,5,1)],[]⟩ n (l0e n) [] lN lN)
def n1b:FnT:=⟨2,⟨[],[(0,.str),(1,(.lst .cnt))],[],[]⟩,[.v .val],[]⟩
def m2k:FnT:=⟨3,⟨[(0,.ptr 1000000 0)],[(1,.i64),(2,.i64)],[(1000000,.box [.d .u64,.d .u64])],[]⟩,[],[(1000000,.box [.d .u64,.d .u64])]⟩
theorem e2z:Contract Tryz.prog 96 m2k (q78z):=
 ctN Tryz.func96 75 TT [(130,aT),(131,aT),(132,aT)] [] pN (oC (v1a) (oE (v1s) (oE (q1t) (oN)))) [] lN
def l2k:FnT:=⟨1,⟨[(0,.ptr 1000000 0)],[],[(1000000,.box [.d .u64,.d .u64])],[]⟩,[.v .i64,.v .bool],[(1000000,.box [.d .u64,.d .u64])]⟩
theorem i2f:Contract Tryz.prog 97 l2k (q67z):=
 ctD Tryz.func97 19 TT [] [.tmp 2,.tmp 3] pN (oN) [] (.none rfl) (by kernel_rfl) lN
theorem d1t(n:Nat):Contract Tryz.prog 55 n1b (l0t n):=
 ctN Tryz.func55 80 TT [(96,a0),(97,a0),(11,aT)] [.cell 4 39] pN (oC (e2z) (oC (k0f n) (oC (i2f) (oC (k0a n) (oN))))) [0] (lC ⟨[(4,.ptr 4 0),(5,.ptr 5 0),(7,.ptr 7 0)],[(0,.str),(6,.i64),(14,(.lst .cnt)),(15,.i64),(16,.i64)],[(4,.box [.d .val]),(5,.box [.d .val]),(7,.box [.d .u64,.d .u64])],[]⟩ ⟨[(4,.ptr 4 0),(5,.ptr 5 0),(7,.ptr 7 0)],[(0,.str),(6,.i64)],[(4,.box [.d .val]),(5,.box [.d .val]),(7,.box [.d .u64,.d .u64])],[]⟩ ⟨[],[],[],[]⟩ pN n (l0c n) [] lN lN)
def e0t{ρ:Type}(n:Nat)(rec:Y2×Y2×Y20×Bt×Int×Y15×Int×Int×Y2×Int×Int×Y3×Int×Int×Y4×Y3×Y3×Y9×Unit->Option ρ)(kx:Y2×Y2×Y20×Bt×Int×Y15×Int×Int×Y2×Int×Int×Y4×Y3×Y3×Y9×Unit->Option ρ)(kr:Unit->Option ρ):Y2×Y2×Y20×Bt×Int×Y15×Int×Int×Y2×Int×Int×Y3×Int×Int×Y4×Y3×Y3×Y9×Unit->Option ρ:=
 λ(q,t,u,v,b,w,x,h,j,k,m,o,p,d,e,f,a,g,_)=>
 (bif decide ((d:Int)<p)then
 (ix o d).bind λc=>
 dem2 (
 dem2 (
 dem2 (
 (ix c.r b).bind λy=>let ar:=(Cnt.mk ([(Val.mk y.kind y.n y.s y.l)]:List Val) c.n);let ai:Option ρ:=(
 ck (room (a++([ar]:List Cnt)).length 32) (rec (q,t,u,v,b,w,x,h,j,k,m,o,p,wI (d+1),e,f,a++([ar]:List Cnt),g,())));
 dem2 (
 (let z1q:=ai
 dem2 z1q (dem2 z1q z1q))) (
 dem2 (
 (let z2q:=ai
 dem2 z2q z2q)) ai)) (
 dem2 (
 (ix c.r b).bind λz=>let au:=(Cnt.mk ([(Val.mk z.kind z.n z.s z.l)]:List Val) c.n);let ao:Option ρ:=(
 ck (room (a++([au]:List Cnt)).length 32) (rec (q,t,u,v,b,w,x,h,j,k,m,o,p,wI (d+1),e,f,a++([au]:List Cnt),g,())));
 dem2 (
 (let z3q:=ao
 dem2 z3q z3q)) ao) (
 (ix c.r b).bind λaa=>let av:=(Cnt.mk ([(Val.mk aa.kind aa.n aa.s aa.l)]:List Val) c.n);
 ck (room (a++([av]:List Cnt)).length 32) (rec (q,t,u,v,b,w,x,h,j,k,m,o,p,wI (d+1),e,f,a++([av]:List Cnt),g,()))))) (
 dem2 (
 dem2 (
 (ix c.r b).bind λab=>let aw:=(Cnt.mk ([(Val.mk ab.kind ab.n ab.s ab.l)]:List Val) c.n);let ap:Option ρ:=(
 ck (room (a++([aw]:List Cnt)).length 32) (rec (q,t,u,v,b,w,x,h,j,k,m,o,p,wI (d+1),e,f,a++([aw]:List Cnt),g,())));
 dem2 (
 (let z4q:=ap
 dem2 z4q z4q)) ap) (
 (ix c.r b).bind λac=>let ax:=(Cnt.mk ([(Val.mk ac.kind ac.n ac.s ac.l)]:List Val) c.n);
 ck (room (a++([ax]:List Cnt)).length 32) (rec (q,t,u,v,b,w,x,h,j,k,m,o,p,wI (d+1),e,f,a++([ax]:List Cnt),g,())))) (
 (ix c.r b).bind λad=>let aj:=(Cnt.mk ([(Val.mk ad.kind ad.n ad.s ad.l)]:List Val) c.n);
 ck (room (a++([aj]:List Cnt)).length 32) (rec (q,t,u,v,b,w,x,h,j,k,m,o,p,wI (d+1),e,f,a++([aj]:List Cnt),g,()))))) (
 dem2 (
 dem2 (
 dem2 (
 (ix c.r b).bind λae=>let ak:=(Cnt.mk ([(Val.mk ae.kind ae.n ae.s ae.l)]:List Val) c.n);let aq:Option ρ:=(
 ck (room (a++([ak]:List Cnt)).length 32) (rec (q,t,u,v,b,w,x,h,j,k,m,o,p,wI (d+1),e,f,a++([ak]:List Cnt),g,())));
 dem2 (
 (let z5q:=aq
 dem2 z5q z5q)) aq) (
 (ix c.r b).bind λaf=>let al:=(Cnt.mk ([(Val.mk af.kind af.n af.s af.l)]:List Val) c.n);
 ck (room (a++([al]:List Cnt)).length 32) (rec (q,t,u,v,b,w,x,h,j,k,m,o,p,wI (d+1),e,f,a++([al]:List Cnt),g,())))) (
 (ix c.r b).bind λag=>let am:=(Cnt.mk ([(Val.mk ag.kind ag.n ag.s ag.l)]:List Val) c.n);
 ck (room (a++([am]:List Cnt)).length 32) (rec (q,t,u,v,b,w,x,h,j,k,m,o,p,wI (d+1),e,f,a++([am]:List Cnt),g,())))) (
 (ix c.r b).bind λah=>let an:=(Cnt.mk ([(Val.mk ah.kind ah.n ah.s ah.l)]:List Val) c.n);
 ck (room (a++([an]:List Cnt)).length 32) (rec (q,t,u,v,b,w,x,h,j,k,m,o,p,wI (d+1),e,f,a++([an]:List Cnt),g,()))))
 else kx (q,t,u,v,b,w,x,h,j,k,m,e,f,a,g,()))
omit [Tabs] [QuietD Tryz.prog]in
theorem e0g{ρ:Type}(n:Nat): @e0t ρ n= @g0d ρ n:=by
 funext rec kx kr s;unfold e0t g0d b0t
 first|with_reducible rfl|simp only[a0p,b0h]
def d0w{ρ:Type}(n:Nat)(rec:Y2×Y2×Y20×Bt×Y15×Int×Int×Y2×Int×Int×Y4×Y3×Y9×Unit->Option ρ)(kx:Y2×Y2×Y20×Y15×Int×Int×Y4×Y3×Y9×Unit->Option ρ)(kr:Unit->Option ρ):Y2×Y2×Y20×Bt×Y15×Int×Int×Y2×Int×Int×Y4×Y3×Y9×Unit->Option ρ:=
 λ(m,o,b,e,p,q,r,t,u,f,h,j,k,_)=>
 (bif decide ((f:Int)<u)then
 (ix t f).bind λaj=>
 a0a (λx=>e0t n x (λ(y,z,aa,ab,a,ac,ad,ae,af,ag,ah,g,v,w,d,_)=>
 (ix g.1.items a).bind λai=>
 (l0t n (ai.agg,w,())).bind λ(c,_)=>
 (ix d a).bind λ_=>
 ((d)[(a:Int).toNat]?).bind λak=>rec (y,z,aa,ab,ac,ad,ae,af,ag,wI (ah+1),g,v,(d).set ((a:Int).toNat) (Val.mk c.kind c.n c.s c.l),())) (λ(_)=>none)) (n) (m,o,b,e,aj,p,q,r,t,u,f,(a0k .str (.lst .cnt) ([]:List Cnt) b e),((a0k .str (.lst .cnt) ([]:List Cnt) b e).length:Int),0,h,j,([]:List Cnt),k,())
 else kx (m,o,b,p,q,r,h,j,k,()))
omit [Tabs] [QuietD Tryz.prog]in
theorem i0e{ρ:Type}(n:Nat): @d0w ρ n= @c0b ρ n:=by
 funext rec kx kr s;unfold d0w c0b
 first|with_reducible rfl|simp only[a0p,b0h,e0g]
def d0z{ρ:Type}(n:Nat)(rec:Y2×Y2×Y20×Y15×Int×Int×Y4×Y3×Unit->Option ρ)(kx:Y4×Y3×Unit->Option ρ)(kr:Unit->Option ρ):Y2×Y2×Y20×Y15×Int×Int×Y4×Y3×Unit->Option ρ:=
 λ(b,c,d,j,k,e,a,h,_)=>let r:=(Val.mk 0 0 (⟨#[]⟩:Bt) ([]:List Val));
 (bif decide ((e:Int)<k)then
 (ix j e).bind λf=>
 (cnt? (a.1.items.length:Int)).bind λg=>
 ck (room g 56) (
 (bif decide ((((a0k .str (.lst .cnt) ([]:List Cnt) d f).length:Int):Int) >0)then
 a0a (λy=>h0u n y (λ(am,l,an,ao,ap,aq,ar,u,v,w,_)=>
 a0a (λx=>d0w n x (λ(aa,ab,ac,ad,ae,af,s,m,o,_)=>
 ck (room (m++([(Cnt.mk o 1)]:List Cnt)).length 32) (rec (aa,ab,ac,ad,ae,wI (af+1),s,m++([(Cnt.mk o 1)]:List Cnt),()))) (λ(_)=>none)) (n) (am,l,an,ao,ap,aq,ar,l,(l.length:Int),0,u,v,w,())) (λ(_)=>none)) (n) (b,c,d,f,(a0k .str (.lst .cnt) ([]:List Cnt) d f),j,k,e,b,(b.length:Int),0,a,h,(List.replicate g r),())
 else
 a0a (λz=>d0w n z (λ(ag,ah,ai,aj,ak,al,t,p,q,_)=>
 ck (room (p++([(Cnt.mk q 1)]:List Cnt)).length 32) (rec (ag,ah,ai,aj,ak,wI (al+1),t,p++([(Cnt.mk q 1)]:List Cnt),()))) (λ(_)=>none)) (n) (b,c,d,f,j,k,e,c,(c.length:Int),0,a,h,(List.replicate g r),())))
 else kx (a,h,()))
omit [Tabs] [QuietD Tryz.prog]in
theorem p0r{ρ:Type}(n:Nat): @d0z ρ n= @c0f ρ n:=by
 funext rec kx kr s;unfold d0z c0f
 first|with_reducible rfl|simp only[a0p,b0h,e0g,i0e]
def n0s(n:Nat):Query×Y3×Unit->Option Y29:=
 λ(a,g,_)=>
 (q86z n (a,())).bind λ(y3,_)=>
 (bif !y3 then
 (q69z n (g,())).bind λ(d,_)=>
 (bif a.dist then
 a0a (λw=>a0o n w (λ(v,_)=>some (v,())) (λ(_)=>none)) (n) ((d.length:Int),0,d,())
 else some (d,()))
 else
 a0a (λac=>h0z n ac (λ(e,s,t,u,_)=>
 a0a (λab=>h0t n ab (λ(ad,f,h,i,j,k,_)=>
 (bif (((f.length:Int):Int)==0)&& (((ad.length:Int):Int)==0)then
 a0a (λy=>d0z n y (λ(l,m,_)=>
 (q69z n (m,())).bind λ(b,_)=>
 (bif l.1.dist then
 a0a (λx=>a0o n x (λ(o,_)=>some (o,())) (λ(_)=>none)) (n) ((b.length:Int),0,b,())
 else some (b,()))) (λ(_)=>none)) (n) (f,i,b0d .str (.lst .cnt) k (⟨#[]⟩:Bt) ([]:List Cnt),([(⟨#[]⟩:Bt)]:List Bt),(([(⟨#[]⟩:Bt)]:List Bt).length:Int),0,h,([]:List Cnt),())
 else
 a0a (λaa=>d0z n aa (λ(p,q,_)=>
 (q69z n (q,())).bind λ(c,_)=>
 (bif p.1.dist then
 a0a (λz=>a0o n z (λ(r,_)=>some (r,())) (λ(_)=>none)) (n) ((c.length:Int),0,c,())
 else some (c,()))) (λ(_)=>none)) (n) (f,i,k,j,(j.length:Int),0,h,([]:List Cnt),()))) (λ(_)=>none)) (n) (e,t,e,(e.length:Int),0,s,u,([]:List Bt),([]:List (Bt×Y3)),())) (λ(_)=>none)) (n) (g,a.items,(a.items.length:Int),0,(a,()),([]:List Int),([]:List Int),()))
omit [Tabs] [QuietD Tryz.prog]in
theorem y0l(n:Nat):n0s n=h0o n:=by
 funext x;unfold n0s h0o
 first|with_reducible rfl|simp only[a0p,b0h,e0g,i0e,p0r]
theorem a1l(n:Nat):Contract Tryz.prog 25 u0k (n0s n):=
 ctD Tryz.func25 186 TT [(999999999,a1),(999999992,⟨[140],[],[],false⟩),(999999991,⟨[53,52],[],[],false⟩),(52,aT),(26,⟨[],[],[3],false⟩),(54,aT)] [.tmp 4] pN (oC (g2h n) (oC (i2c n) (oC (z1o n) (oC (g1s n) (oC (d1t n) (oN)))))) [0,2,4,12] (.none rfl) (by kernel_rfl) (lC ⟨[(2,.ptr 2 0),(5,.nils),(6,.own 6),(7,.own 7)],[(1,(.lst .cnt)),(34,(.lst .item)),(35,.i64),(36,.i64)],[(2,.box [.d .query]),(6,.arr 3 .i64),(7,.arr 3 .i64)],[]⟩ ⟨[(2,.ptr 2 0),(5,.nils),(6,.own 6),(7,.own 7)],[(1,(.lst .cnt))],[(2,.box [.d .query]),(6,.arr 3 .i64),(7,.arr 3 .i64)],[]⟩ ⟨[],[],[],[]⟩ ⟨[],[(6,6,3,1),(7,7,3,1)],[]⟩ n (h0z n) [] lN (lC ⟨[(2,.ptr 2 0),(5,.nils),(7,.own 7),(10,.fn 53),(11,.mpr 53),(12,.own 12)],[(1,(.lst .cnt)),(6,(.lst .i64)),(54,(.lst .cnt)),(55,.i64),(56,.i64)],[(2,.box [.d .query]),(7,.arr 3 .i64),(12,.arr 9 .str),(53,.mr 121 52 .str .cnt)],[]⟩ ⟨[(2,.ptr 2 0),(5,.nils),(7,.own 7),(11,.mpr 53),(12,.own 12)],[(1,(.lst .cnt)),(6,(.lst .i64))],[(2,.box [.d .query]),(7,.arr 3 .i64),(12,.arr 9 .str),(53,.mr 121 52 .str .cnt)],[]⟩ ⟨[],[],[],[]⟩ ⟨[6],[(12,12,9,1)],[]⟩ n (h0t n) [] lN (lC ⟨[(2,.ptr 2 0),(5,.own 5)],[(6,(.lst .i64)),(7,(.lst .i64)),(11,(.map .str (.lst .cnt))),(93,(.lst .str)),(94,.i64),(95,.i64)],[(2,.box [.d .query]),(5,.arr 52 .cnt)],[]⟩ ⟨[(2,.ptr 2 0),(5,.own 5)],[],[(2,.box [.d .query]),(5,.arr 52 .cnt)],[]⟩ ⟨[],[],[],[]⟩ ⟨[12,92,53,53,7],[(5,5,52,2)],[]⟩ n (d0z n) [6,8] (lC ⟨[(2,.ptr 2 0),(5,.own 5),(18,.own 102)],[(6,(.lst .i64)),(7,(.lst .i64)),(11,(.map .str (.lst .cnt))),(17,.str),(19,(.lst .cnt)),(93,(.lst .str)),(94,.i64),(95,.i64),(109,(.lst .i64)),(110,.i64),(111,.i64)],[(2,.box [.d .query]),(5,.arr 52 .cnt),(102,.arr 39 .val)],[]⟩ ⟨[(2,.ptr 2 0),(5,.own 5),(18,.own 102)],[(6,(.lst .i64)),(7,(.lst .i64)),(11,(.map .str (.lst .cnt))),(17,.str),(93,(.lst .str)),(94,.i64),(95,.i64)],[(2,.box [.d .query]),(5,.arr 52 .cnt),(102,.arr 39 .val)],[]⟩ ⟨[],[],[],[]⟩ pN n (h0u n) [] lN (lC ⟨[(2,.ptr 2 0),(5,.own 5),(18,.own 102)],[(6,(.lst .i64)),(7,(.lst .i64)),(11,(.map .str (.lst .cnt))),(17,.str),(93,(.lst .str)),(94,.i64),(95,.i64),(126,(.lst .i64)),(127,.i64),(128,.i64)],[(2,.box [.d .query]),(5,.arr 52 .cnt),(102,.arr 39 .val)],[]⟩ ⟨[(2,.ptr 2 0),(5,.own 5),(18,.own 102)],[(6,(.lst .i64)),(7,(.lst .i64)),(11,(.map .str (.lst .cnt))),(93,(.lst .str)),(94,.i64),(95,.i64)],[(2,.box [.d .query]),(5,.arr 52 .cnt),(102,.arr 39 .val)],[]⟩ ⟨[],[],[],[]⟩ pN n (d0w n) [10] (lC ⟨[(2,.ptr 2 0),(5,.own 5),(18,.own 102),(24,.own 24)],[(6,(.lst .i64)),(7,(.lst .i64)),(11,(.map .str (.lst .cnt))),(17,.str),(23,.i64),(93,(.lst .str)),(94,.i64),(95,.i64),(126,(.lst .i64)),(127,.i64),(128,.i64),(134,(.lst .cnt)),(135,.i64),(136,.i64)],[(2,.box [.d .query]),(5,.arr 52 .cnt),(24,.arr 52 .cnt),(102,.arr 39 .val)],[]⟩ ⟨[(2,.ptr 2 0),(5,.own 5),(18,.own 102),(24,.own 24)],[(6,(.lst .i64)),(7,(.lst .i64)),(11,(.map .str (.lst .cnt))),(17,.str),(23,.i64),(93,(.lst .str)),(94,.i64),(95,.i64),(126,(.lst .i64)),(127,.i64),(128,.i64)],[(2,.box [.d .query]),(5,.arr 52 .cnt),(24,.arr 52 .cnt),(102,.arr 39 .val)],[]⟩ ⟨[],[],[],[]⟩ ⟨[],[(24,24,52,2)],[]⟩ n (e0t n) [] lN lN) lN)) (lC ⟨[(27,.own 172)],[(176,.i64),(177,.i64)],[(172,.arr 52 .cnt)],[]⟩ ⟨[(27,.own 172)],[],[(172,.arr 52 .cnt)],[]⟩ ⟨[],[],[],[]⟩ pN n (a0o n) [] lN lN))))
theorem h1d(n:Nat):Contract Tryz.prog 25 u0k (h0o n):=(y0l n)▸a1l n
theorem u0o [UTabs] (n:Nat):Contract Tryz.prog 8 w1l (g0m n):=
 ctD Tryz.func8 33 TT [(999999999,a1),(1700000010,⟨[8,0,600008,52,2],[],[],false⟩),(15,⟨[0,1],[],[],false⟩),(12,aT),(13,aT),(14,⟨[],[],[12],false⟩)] [.tmp 4,.tmp 5] pN (oC (g1x n) (oC (w1i n) (oC (p0a n) (oC (g2j n) (oC (b2e n) (oC (h1d n) (oN))))))) [] (.none rfl) (by kernel_rfl) lN
theorem g1g [UDef] [UTabs] (n:Nat):Contract Tryz.prog 20 l1l (w0g n):=
 ctN Tryz.func20 26 TT [] [.tmp 4,.tmp 5,.tmp 6] pN (oC (j2p n) (oC (u0o n) (oN))) [] lN
def n2n:FnT:=⟨1,⟨[],[(0,.i64)],[],[]⟩,[.v .val],[]⟩
theorem o1n:Contract Tryz.prog 7 n2n (q65z):=
 ctN Tryz.func7 5 TT [] [.cell 2 39] pN (oN) [] lN
def k2b:FnT:=⟨2,⟨[],[(0,(.lst .cnt)),(1,(.lst .cnt))],[],[]⟩,[.v .bool],[]⟩
def q2m:FnT:=⟨3,⟨[(2,.fn 28)],[(0,(.lst .cnt)),(1,(.lst .cnt))],[],[]⟩,[.v .bool],[]⟩
def m2s:FnT:=⟨2,⟨[],[(0,.cnt),(1,.cnt)],[],[]⟩,[.v .bool],[]⟩
def l2y:FnT:=⟨2,⟨[],[(0,(.lst .val)),(1,(.lst .val))],[],[]⟩,[.v .i64],[]⟩
def v1h:FnT:=⟨2,⟨[],[(0,.val),(1,.val)],[],[]⟩,[.v .i64],[]⟩
def l2b:FnT:=⟨2,⟨[],[(0,(.lst .u8)),(1,(.lst .u8))],[],[]⟩,[.v .i64],[]⟩
theorem i2z:Contract Tryz.prog 101 l2b (q76z):=
 ctN Tryz.func101 8 TT [] [.tmp 4] pN (oE (k2d) (oN)) [] lN
theorem y1l(a8:Val×Val×Unit->Option Y5)(h_q37z:Contract Tryz.prog 62 v1h a8)(n:Nat):Contract Tryz.prog 62 v1h (u1f a8 n):=
 ctD Tryz.func62 88 TT [(101,aT),(62,aT)] [.tmp 4] pN (oC (i2z) (oC (h_q37z) (oN))) [1] (.none rfl) (by kernel_rfl) (lC ⟨[(2,.ptr 2 0),(3,.ptr 3 0)],[(5,.i64)],[(2,.box [.d .val]),(3,.box [.d .val])],[]⟩ ⟨[(2,.ptr 2 0),(3,.ptr 3 0)],[],[(2,.box [.d .val]),(3,.box [.d .val])],[]⟩ ⟨[],[(4,.i64)],[],[]⟩ pN n (n0x a8 n) [] lN lN)
theorem q1i:∀n,Contract Tryz.prog 62 v1h (q37z n)
 | 0=>λ_ _ h=>by cases h
 |n+1=>y1l _ (q1i n) n
theorem f2q(n:Nat):Contract Tryz.prog 29 l2y (q29z n):=
 ctN Tryz.func29 10 TT [(62,aT)] [.tmp 4] pN (oC (q1i n) (oN)) [] lN
theorem h2m(n:Nat):Contract Tryz.prog 28 m2s (q31z n):=
 ctN Tryz.func28 18 TT [(29,aT)] [.tmp 4] pN (oC (f2q n) (oN)) [] lN
theorem l2i(n:Nat):Contract Tryz.prog 27 q2m (q0z n):=
 ctN Tryz.func27 32 TT [(28,aT)] [.tmp 6] pN (oC (h2m n) (oN)) [0] (lC ⟨[(2,.fn 28)],[(1,(.lst .cnt)),(15,(.lst .cnt)),(16,.i64),(17,.i64)],[],[]⟩ ⟨[],[],[],[]⟩ ⟨[],[(6,.bool)],[],[]⟩ pN n (c2z n) [] lN lN)
theorem g2q(n:Nat):Contract Tryz.prog 9 k2b (q38z n):=
 ctN Tryz.func9 8 TT [(27,aT)] [.tmp 4] pN (oC (l2i n) (oN)) [] lN
theorem i2a [UDef] [UTabs] (n:Nat):Contract Tryz.prog 6 n2i (q52z n):=
 ctN Tryz.func6 24 TT [(9,aT)] [.tmp 0] pN (oC (h2x) (oC (g1g n) (oC (o1n) (oC (g2q n) (oN))))) [] lN
theorem i2m [UDef] [UTabs] (n:Nat):Contract Tryz.prog 4 o2v (q30z n):=
 ctD Tryz.func4 125 TT [(6,aT),(11,aT)] [.tmp 6] pN (oC (d1a n) (oC (i2a n) (oC (o1n) (oC (u0o n) (oC (k0f n) (oN)))))) [0] (.none rfl) (by kernel_rfl) (lC ⟨[],[(7,(.lst (.lst .i64))),(11,.i64),(60,(.lst .cnt)),(61,.i64),(62,.i64)],[],[]⟩ ⟨[],[(7,(.lst (.lst .i64))),(11,.i64)],[],[]⟩ ⟨[],[(6,.bool)],[],[]⟩ pN n (y0p n) [] lN lN)
end Go.Proofs.YtnaeiccibhdknaaGreatDoor

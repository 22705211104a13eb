import Derived.Test.YtcloicgnanjbcaaGreatDoorPA
import Derived.Test.YtcloicgnanjbcaaGreatDoorPMX
namespace Pure
open Esp Ev Go
set_option linter.unusedSimpArgs false
set_option linter.unusedVariables false
end Pure
namespace Pure
open Esp Ev Go
set_option linter.unusedSimpArgs false
set_option linter.unusedVariables false
theorem Grant.eta(g:Grant):Grant.mk g.who g.labels=g:=rfl
structure nodeS(x:Ev.Node):Prop where
 lab:x.labels.length≤4
 prp:prpE x.props=0
structure graphS(g:Graph):Prop where
 nl:g.nodes.length≤40
 el:g.edges.length≤60
 nd: ∀x∈g.nodes,nodeS x
 ed: ∀x∈g.edges,prpE x.props=0
theorem w1s{g:Graph}(h:chkG g=0):graphS g:=by
 obtain⟨h1,h2,h3,h4⟩:=f0d h
 exact⟨h1,h2,fun x hx=>⟨n2q (c1r h3 x hx).1,(c1r h3 x hx).2⟩,fun x hx=>(b1r h4 x hx).1⟩
theorem j1z(l:List Prp)(n:Nat)(hn:60≤n)(h:prpE l=0):q27z n (l,())=some (l,()):=by
 obtain⟨h6,hc⟩:=r1k h
 unfold q27z
 dsimp only
 rw [k0k n _ _ l n [] (by omega) (by omega)]
 have key: ∀(r p:List Prp) (i:Int),(∀x∈r,chk x.val 1=0)→p.length+r.length≤30→a0i (p0o n (fun _=>none)) (fun s=>some (s.1,())) i r (p,())=some (p++r,()):=by
  intro r
  induction r with
  | nil=>intro p i _ _;simp [a0i]
  | cons x r ih=>
   intro p i hx hl
   rw [a0i]
   unfold p0o
   dsimp only
   rw [Val.eta,w0i x.val 1 n (by omega) (by omega) (by omega) (hx x (by simp)),Option.bind_some]
   dsimp only
   rw [Val.eta,h0j (d0d (by simp at hl⊢;omega) (by omega))]
   refine(ih (p++ [x]) (i+1) (fun y hy=>hx y (by simp [hy])) (by simp at hl⊢;omega)).trans ?_
   simp
 exact(key l [] 0 hc (by simp;omega))
theorem d2y(l:List ByteArray)(h:l.length≤4):q8z (l,())=some (l,()):=by
 unfold q8z nilq
 dsimp only
 rw [List.nil_append,h0j (d0d (by omega) (by omega))]
 cases l with
 | nil=>exact q0e _
 | cons a r=>rfl
theorem a2p(x:Ev.Node)(n:Nat)(hn:60≤n)(h:nodeS x):q31z n (x,())=some (x,()):=by
 unfold q31z
 dsimp only
 rw [d2y x.labels h.lab,Option.bind_some]
 dsimp only
 rw [j1z x.props n hn h.prp]
 rfl
theorem m1b(x:Edg)(n:Nat)(hn:60≤n)(h:prpE x.props=0):q30z n (x,())=some (x,()):=by
 unfold q30z
 dsimp only
 rw [j1z x.props n hn h]
 rfl
def both(l:List Ev.Node)(e:Edg):Bool:=(b0a l e.src).isSome&& (b0a l e.dst).isSome
def g0:Graph:=⟨[], [],0⟩
end Pure
namespace Pure
open Esp Ev Go
set_option linter.unusedSimpArgs false
set_option linter.unusedVariables false
theorem s0o{α σ ρ:Type}{F:Int→α→σ→(σ→Option ρ)→Option ρ}{k:σ→Option ρ}(mk:List α→σ)(ok:α→Prop)(h: ∀i x acc rec,ok x→acc.length≤500→F i x (mk acc) rec=rec (mk (acc++ [x]))):
  ∀(l:List α) (i:Int) (acc:List α),(∀x∈l,ok x)→acc.length+l.length≤500→a0i F k i l (mk acc)=k (mk (acc++l))
 | [],i,acc,_,_=>by rw [List.append_nil];rfl
 | x::r,i,acc,hx,hl=>by
  rw [a0i,h i x acc _ (hx x (by simp)) (by omega),s0o mk ok h r (i+1) (acc++ [x]) (fun y hy=>hx y (by simp [hy])) (by simp at hl⊢;omega)]
  simp
theorem aNode.eta(x:Ev.Node):Ev.Node.mk x.id x.labels x.props=x:=rfl
theorem aEdg.eta(x:Edg):Ev.Edg.mk x.id x.src x.dst x.type x.props=x:=rfl
theorem o1c(g:Graph)(n:Nat)(hn:80≤n)(h:graphS g):q32z n (g,())=some ((g.next,()),g.nodes,g.edges,()):=by
 have h1:=h.nl
 have h2:=h.el
 unfold q32z
 dsimp only
 rw [k0u n _ _ g.nodes n _ _ _ _ (by omega) (by omega)]
 refine(s0o (F:=p0d n _) (fun a=>((Ev.Graph.mk g.nodes g.edges g.next,()),(Ev.Graph.mk [] [] 0,()),(g.next,()),a,())) nodeS (fun i x acc rec hx ha=> ?_) g.nodes 0 [] h.nd (by simp;omega)).trans ?_
 ·unfold p0d
  dsimp only
  rw [aNode.eta,a2p x n (by omega) hx,Option.bind_some]
  dsimp only
  rw [aNode.eta,h0j (d0d (by simp;omega) (by omega))]
 dsimp only
 rw [m0b n _ _ g.edges n _ _ _ _ (by omega) (by omega)]
 refine(s0o (F:=r0x n _) (fun a=>((Ev.Graph.mk [] [] 0,()),(g.next,()), []++g.nodes,a,())) (fun x:Edg=>prpE x.props=0) (fun i x acc rec hx ha=> ?_) g.edges 0 [] h.ed (by simp;omega)).trans ?_
 ·unfold r0x
  dsimp only
  rw [aEdg.eta,m1b x n (by omega) hx,Option.bind_some]
  dsimp only
  rw [aEdg.eta,h0j (d0d (by simp;omega) (by omega))]
 rfl
theorem p1j: ∀{l:List Ev.Node} {last:Int},nodF last l=0→∀x∈l,x.id≤nodL last l
 | [],_,_=>fun x hx=>by cases hx
 | y::r,last,h=>by
  rw [nodF]at h
  cases h1:decide (y.id≤last)with
  | true=>rw [h1]at h;cases h
  | false=>
   rw [h1,cond_false]at h
   cases h2:orE (labE y.labels) (prpE y.props) !=0 with
   | true=>rw [h2,cond_true]at h;rw [h]at h2;cases h2
   | false=>
    rw [h2,cond_false]at h
    intro x hx
    rw [nodL]
    rcases List.mem_cons.1 hx with rfl | hx
    ·exact(f0w h).2.2
    ·exact p1j h x hx
theorem e1m{nodes:List Ev.Node}(x:Edg)(h2:(b0a nodes x.id).isSome=false)(h3:nmB x.type=true)(h4:(b0a nodes x.src).isNone=false)(h5:(b0a nodes x.dst).isNone=false)(h6:prpE x.props=0):
  ∀(l:List Edg) (last:Int),edgF nodes last l=0→edgL last l<x.id→edgF nodes last (l++ [x])=0∧edgL last (l++ [x])=x.id
 | [],last,_,h1=>by
  rw [edgL]at h1
  refine⟨?_,rfl⟩
  show edgF nodes last [x]=0
  rw [edgF,decide_eq_false (by omega),h2,h3,h4,h5,h6]
  rfl
 | y::r,last,h,h1=>by
  rw [edgL]at h1
  rw [edgF]at h
  cases k1:decide (y.id≤last)with
  | true=>rw [k1]at h;cases h
  | false=>
  cases k2:(b0a nodes y.id).isSome with
  | true=>rw [k1,k2]at h;cases h
  | false=>
  cases k3: !(nmB y.type)with
  | true=>rw [k1,k2,k3]at h;cases h
  | false=>
  cases k4:(b0a nodes y.src).isNone with
  | true=>rw [k1,k2,k3,k4]at h;cases h
  | false=>
  cases k5:(b0a nodes y.dst).isNone with
  | true=>rw [k1,k2,k3,k4,k5]at h;cases h
  | false=>
  cases k6:prpE y.props !=0 with
  | true=>rw [k1,k2,k3,k4,k5,k6]at h;simp only [cond_false,cond_true]at h;rw [h]at k6;cases k6
  | false=>
  rw [k1,k2,k3,k4,k5,k6]at h
  simp only [cond_false]at h
  obtain⟨q1,q2⟩:=e1m x h2 h3 h4 h5 h6 r y.id h h1
  refine⟨?_,q2⟩
  rw [List.cons_append,edgF,k1,k2,k3,k4,k5,k6]
  simp only [cond_false]
  exact q1
theorem a2y{g:Graph}(h:chkG g=0):maxI (edgL 0 g.edges) (nodL 0 g.nodes)<g.next∧g.next≤1099511627776:=by
 obtain⟨h1,h2,h3,h4⟩:=f0d h
 unfold chkG at h
 rw [show((decide ((g.nodes.length:Int) >40)) || (decide ((g.edges.length:Int) >60)))=false by rw [decide_eq_false (by omega),decide_eq_false (by omega)];rfl,h3,h4]at h
 simp only [cond_false,show((0:Int) !=0)=false from rfl]at h
 cases hb:(decide ((g.next:Int)≤maxI (edgL 0 g.edges) (nodL 0 g.nodes))) || (decide ((g.next:Int) >1099511627776))with
 | true=>rw [hb]at h;cases h
 | false=>
  have h5:=of_decide_eq_false (Bool.or_eq_false_iff.1 hb).1
  have h6:=of_decide_eq_false (Bool.or_eq_false_iff.1 hb).2
  omega
theorem e1a{nodes:List Ev.Node}: ∀{l:List Edg} {last:Int},edgF nodes last l=0→last≤edgL last l
 | [],_,_=>Int.le_refl _
 | y::r,last,h=>by
  have h1:=(p0b h).1 y (by simp)
  rw [edgF]at h
  rw [edgL]
  have h2:edgF nodes y.id r=0:=by
   cases k1:decide (y.id≤last)with
   | true=>rw [k1]at h;cases h
   | false=>
   cases k2:(b0a nodes y.id).isSome with
   | true=>rw [k1,k2]at h;cases h
   | false=>
   cases k3: !(nmB y.type)with
   | true=>rw [k1,k2,k3]at h;cases h
   | false=>
   cases k4:(b0a nodes y.src).isNone with
   | true=>rw [k1,k2,k3,k4]at h;cases h
   | false=>
   cases k5:(b0a nodes y.dst).isNone with
   | true=>rw [k1,k2,k3,k4,k5]at h;cases h
   | false=>
   cases k6:prpE y.props !=0 with
   | true=>rw [k1,k2,k3,k4,k5,k6]at h;simp only [cond_false,cond_true]at h;rw [h]at k6;cases k6
   | false=>
   rw [k1,k2,k3,k4,k5,k6]at h
   simpa only [cond_false]using h
  have:=e1a h2
  omega
theorem g1z{l:List Ev.Node}{t:Int}(h: ∀x∈l,x.id<t):(b0a l t).isSome=false:=by
 unfold b0a
 cases hf:l.find? fun y=>y.id==t with
 | none=>rfl
 | some x=>
  have h1:=h x (List.mem_of_find?_eq_some hf)
  have h2:=List.find?_some hf
  simp only [beq_iff_eq]at h2
  omega
def newE(g:Graph)(s d:Int)(k:ByteArray):Edg:= .mk g.next s d k []
theorem t1a(g:Graph)(hc:chkG g=0)(s d:Int)(k:ByteArray)(v:Val)(ls:List ByteArray)(n:Nat)(hn:200≤n):
  ∃h md t e,f0k n (g, [Ev.Opn.mk 2 0 s d k v ls []],())=some (h,md,t,e,())∧(e≠0∨(e=0∧chkG h=0∧h.nodes=g.nodes∧h.edges=g.edges++ [newE g s d k])):=by
 obtain⟨c1,c2,c3,c4⟩:=f0d hc
 obtain⟨c5,c6⟩:=a2y hc
 have hr:=(f0w c3).2.1
 obtain⟨k1,f1,g1⟩:=m0t g s n hr c1 (by omega)
 obtain⟨k2,f2,g2⟩:=m0t g d n hr c1 (by omega)
 have hid: ∀(t:Int),q34z (t,(((Ev.Graph.mk g.nodes g.edges g.next), [],()),()),())=some (t,()):=fun t=>by
  unfold q34z
  dsimp only
  have:((decide ((t:Int)<0))&& (decide ((t:Int) ≥(IntKind.wrap .i64 (0 - (([]:List Int).length:Int))))))=false:=by
   rw [show IntKind.wrap .i64 (0 - (([]:List Int).length:Int))=0 from rfl]
   by_cases h:t<0
   ·rw [decide_eq_false (show ¬t≥0 by omega),Bool.and_false]
   ·rw [decide_eq_false h,Bool.false_and]
  rw [this]
  rfl
 unfold f0k
 dsimp only
 rw [Graph.eta,s0i g n (by omega),hc,Option.bind_some]
 dsimp only
 rw [show((0:Int) !=0)=false from rfl,cond_false,show decide (((([Ev.Opn.mk 2 0 s d k v ls []]:List Ev.Opn).length:Int):Int) >20)=false from rfl,cond_false,o1c g n (by omega) (w1s hc),Option.bind_some]
 dsimp only
 rw [d0o n _ _ [Ev.Opn.mk 2 0 s d k v ls []] n _ _ _ _ _ _ (by simp) (by simp;omega),a0i]
 unfold i0r
 dsimp only
 rw [show((decide ((2:Int) >0))&& (decide ((2:Int)<8)))=true from rfl,cond_true,show((2:Int)==(1:Int))=false from rfl,cond_false,show((2:Int)==(2:Int))=true from rfl,cond_true]
 unfold q51z
 dsimp only
 rw [hid s,Option.bind_some]
 dsimp only
 rw [hid d,Option.bind_some]
 dsimp only
 rw [show Ev.Graph.mk g.nodes g.edges g.next=g from rfl,f1,Option.bind_some]
 dsimp only
 rw [g1.lt]
 cases q1:(b0a g.nodes s).isNone with
 | true=>exact⟨_,_,_,5,rfl, .inl (by decide)⟩
 | false=>
 rw [cond_false,f2,Option.bind_some]
 dsimp only
 rw [g2.lt]
 cases q2:(b0a g.nodes d).isNone with
 | true=>exact⟨_,_,_,5,rfl, .inl (by decide)⟩
 | false=>
 rw [cond_false,h0x k n (by omega),Option.bind_some]
 dsimp only
 cases q3:nmB k with
 | false=>exact⟨_,_,_,6,rfl, .inl (by decide)⟩
 | true=>
 rw [show(!true)=false from rfl,cond_false,y0t [] n (by omega),Option.bind_some]
 dsimp only
 rw [show(prpE [] !=0)=false from rfl,cond_false]
 by_cases q4:(g.edges.length:Int)=60
 ·rw [show(((g.edges.length:Int):Int)==60)=true by simpa using q4]
  exact⟨_,_,_,10,rfl, .inl (by decide)⟩
 rw [show(((g.edges.length:Int):Int)==60)=false by simpa using q4,cond_false]
 have hce: ∀t,q30z n (Ev.Edg.mk t s d k [],())=some (Ev.Edg.mk t s d k [],()):=fun t=>m1b (Ev.Edg.mk t s d k []) n (by omega) rfl
 by_cases q5:g.next≥1099511627776
 ·unfold q20z
  dsimp only
  rw [decide_eq_true q5,cond_true,Option.bind_some]
  dsimp only
  rw [hce,Option.bind_some]
  dsimp only
  rw [h0j (d0d (by simp;omega) (by omega)),Option.bind_some]
  exact⟨_,_,_,10,rfl, .inl (by decide)⟩
 unfold q20z
 dsimp only
 rw [decide_eq_false q5,cond_false,h0j (d0d (by simp) (by omega)),Option.bind_some]
 dsimp only
 rw [hce,Option.bind_some]
 dsimp only
 rw [h0j (d0d (by simp;omega) (by omega)),Option.bind_some]
 dsimp only
 rw [show((0:Int) !=0)=false from rfl,cond_false,a0i]
 dsimp only
 have hnl:=(f0w c3).2.2
 have hel:=e1a c4
 have hmx:edgL 0 g.edges<g.next∧nodL 0 g.nodes<g.next:=by
  unfold maxI at c5
  split at c5<;>omega
 have hw:IntKind.wrap .i64 (g.next+1)=g.next+1:=b0i (by omega) (by omega)
 obtain⟨s1,s2⟩:=e1m (newE g s d k) (g1z fun x hx=>by have:=p1j c3 x hx;show x.id<g.next;omega) q3 q1 q2 rfl g.edges 0 c4 hmx.1
 refine⟨Ev.Graph.mk g.nodes (g.edges++ [newE g s d k]) (g.next+1), [g.next],0,0,by rw [hw];rfl, .inr ⟨rfl, ?_,rfl,rfl⟩⟩
 unfold chkG
 dsimp only
 rw [show((decide ((g.nodes.length:Int) >40)) || (decide (((g.edges++ [newE g s d k]).length:Int) >60)))=false by rw [decide_eq_false (by omega),decide_eq_false (by rw [List.length_append,List.length_singleton];omega)];rfl,c3,s1,s2]
 simp only [cond_false,show((0:Int) !=0)=false from rfl]
 have hm2:maxI (newE g s d k).id (nodL 0 g.nodes)=g.next:=by
  show maxI g.next (nodL 0 g.nodes)=g.next
  unfold maxI
  split<;>omega
 rw [hm2,decide_eq_false (by omega),decide_eq_false (by omega)]
 rfl
end Pure
namespace Pure
open Esp Ev Go
set_option linter.unusedSimpArgs false
set_option linter.unusedVariables false
theorem z1p(q:Query)(g:Graph)(n:Nat)(hn:400≤n)(h:chkQ q≠0):b0p n (q,g,())=some ([],chkQ q,()):=by
 unfold b0p
 dsimp only
 rw [c0f,h0q q n hn,Option.bind_some]
 dsimp only
 rw [show(chkQ q !=0)=true by simpa [bne]using h,cond_true]
theorem x1y(q:Query)(g:Graph)(n:Nat)(hn:400≤n)(hq:chkQ q=0)(h:chkG g≠0):b0p n (q,g,())=some ([],chkG g,()):=by
 unfold b0p
 dsimp only
 rw [c0f,h0q q n hn,Option.bind_some,hq]
 dsimp only
 rw [show((0:Int) !=0)=false from rfl,cond_false,b0r,s0i g n (by omega),Option.bind_some]
 dsimp only
 rw [show(chkG g !=0)=true by simpa [bne]using h,cond_true]
theorem k1l{q:Query}{g:Graph}(hw:q.wher= [])(hN:q.dots.length≤100)(ha:q.arrows.length+1=q.dots.length): ∀R,u0k q g R 1100 (fun _=>true):=by
 intro R f hl hf n hn
 refine⟨q0r q g f,s1y q g R f hN ha hl n (by omega), ?_⟩
 rw [hw]
 exact e1k n (q0r q g f) [] (fun _=> .mk 0 0 ⟨#[]⟩ []) (fun t h=>by cases h) (by simp) (by simp;omega)
theorem w1m{g h:Graph}{a:Ev.Arrow}{ks ks' :List Ev.Pair}(he: ∀x∈g.edges,x∈h.edges)(hk: ∀k∈ks,k∈ks'){x y e:Int}(hm:e∈n0e g a ks x y):e∈n0e h a ks' x y:=by
 have key: ∀{fr tg:Int},e∈r0g g a ks fr tg→e∈r0g h a ks' fr tg:=by
  intro fr tg hm
  unfold r0g at hm⊢
  cases hma:a.many with
  | true=>
   rw [hma,cond_true]at hm
   rw [cond_true]
   cases hd:decide (Ev.Pair.mk fr tg∈ks)with
   | true=>rw [hd,cond_true]at hm;rw [decide_eq_true (hk _ (of_decide_eq_true hd)),cond_true];exact hm
   | false=>rw [hd,cond_false]at hm;cases hm
  | false=>
   rw [hma,cond_false]at hm
   rw [cond_false]
   obtain⟨z,hz,rfl⟩:=List.mem_map.1 hm
   have hz:=List.mem_filter.1 hz
   exact List.mem_map.2 ⟨z,List.mem_filter.2 ⟨he z hz.1,hz.2⟩,rfl⟩
 unfold n0e at hm⊢
 cases hb:a.back with
 | true=>rw [hb,cond_true]at hm;rw [cond_true];exact key hm
 | false=>rw [hb,cond_false]at hm;rw [cond_false];exact key hm
theorem e1x{g h:Graph}(hn:h.nodes=g.nodes)(he: ∀x∈g.edges,x∈h.edges)(fin:List Int→List Int→List (List Int))(F F' :Ev.Arrow→List Ev.Pair)(hF: ∀a,∀k∈F a,k∈F' a):
  ∀(l:List (Ev.Dot×Ev.Arrow)) (pre:List Ev.Dot) (ds es:List Int),∀w∈j0m g fin (l.map fun z=>(z.1,z.2,F z.2)) pre ds es,w∈j0m h fin (l.map fun z=>(z.1,z.2,F' z.2)) pre ds es
 | [],pre,ds,es,w,hw=>hw
 | (d,a)::r,pre,ds,es,w,hw=>by
  rw [List.map_cons,j0m]at hw⊢
  rw [hn]
  obtain⟨x,hx,hw⟩:=List.mem_flatMap.1 hw
  refine List.mem_flatMap.2 ⟨x,hx, ?_⟩
  cases hc:dotB d x&&fitL pre ds d.name x.id with
  | false=>rw [hc,cond_false]at hw;cases hw
  | true=>
   rw [hc,cond_true]at hw
   rw [cond_true]
   obtain⟨e,he',hw⟩:=List.mem_flatMap.1 hw
   exact List.mem_flatMap.2 ⟨e,w1m he (hF a) he',e1x hn he fin F F' hF r _ _ _ w hw⟩
theorem n1u{g h:Graph}(hc:chkG g=0)(hc' :chkG h=0)(hn:h.nodes=g.nodes)(he: ∀x∈g.edges,x∈h.edges)(q:Query)(n:Nat)(hN:100100≤n)(pass:List Int→Bool): ∀w∈k0c n q g pass,w∈k0c n q h pass:=by
 intro w hw
 unfold k0c at hw⊢
 cases hd:q.dots with
 | nil=>rw [hd]at hw;exact hw
 | cons d r=>
  rw [hd]at hw
  dsimp only at hw⊢
  unfold x0y at hw⊢
  rw [hn]
  obtain⟨x,hx,hw⟩:=List.mem_flatMap.1 hw
  refine List.mem_flatMap.2 ⟨x,hx, ?_⟩
  cases hcc:dotB d x&&fitL [] [] d.name x.id with
  | false=>rw [hcc,cond_false]at hw;cases hw
  | true=>
   rw [hcc,cond_true]at hw
   rw [cond_true]
   refine e1x hn he _ (rk n g) (rk n h) (fun a k hk=> ?_) _ _ _ _ w hw
   unfold rk at hk⊢
   cases hm:a.many with
   | false=>rw [hm,cond_false]at hk;cases hk
   | true=>
    rw [hm,cond_true]at hk
    rw [cond_true]
    refine((i1s n hN h a.type hc').2 k).2 (W.rel (fun x y hxy=> ?_) (((i1s n hN g a.type hc).2 k).1 hk))
    obtain⟨z,hz,hz2⟩:=hxy
    exact⟨z,he z hz,hz2⟩
theorem b1w(n:Nat)(m:List (List Int))(hn:5000≤n)(hs:m.Pairwise (fun x y=>ltLL y x=false))(hl:m.length≤2000)(hr: ∀w∈m,w.length≤1000)
  (K:(List (List Int))×Unit→Option (Bool×Unit)): ∀(l:List (List Int)) (i:Int),(∀w∈l,w∈m)→
   a0i (s0a n (fun(v26,_)=>some (v26,()))) K i l (m,())=K (m,())
 | [],i,h=>by rw [a0i]
 | w::r,i,h=>by
  have ih:=b1w n m hn hs hl hr K r (i+1) fun w hw=>h w (by simp [hw])
  have hm:=h w (by simp)
  obtain⟨k,ek⟩:=s2c n m hs (by omega) hr w (hr w hm) hm (by omega)
  rw [a0i]
  unfold s0a at ih⊢
  dsimp only
  rw [ek,Option.bind_some]
  dsimp only
  rw [Bool.not_true,cond_false]
  exact ih
theorem c1e(q:Query)(g:Graph)(a b:Int)(kind:ByteArray): ∃N,∀n,N≤n→q12z n (q,g,a,b,kind,())=some (true,()):=by
 obtain⟨N1,hm⟩:=n1q
 generalize hq0:Ev.Query.mk q.dots q.arrows [] q.items q.dist=q0
 have hw0:q0.wher= []:=by rw [←hq0]
 have early: ∀n,N1≤n→∀(l:List (List Int)) (e:Int),b0p n (q0,g,())=some (l,e,())→e≠0→q12z n (q,g,a,b,kind,())=some (true,()):=by
  intro n hn l e he h
  unfold q12z
  dsimp only
  rw [hq0,b0r,he,Option.bind_some]
  dsimp only
  rw [hm n hn,Option.bind_some]
  dsimp only
  rw [show(e !=0)=true by simpa [bne]using h,Bool.or_true,cond_true]
  rfl
 refine⟨N1+120000,fun n hn=> ?_⟩
 have hn1:N1≤n:=Nat.le_trans (Nat.le_add_right _ _) hn
 have hn2:120000≤n:=Nat.le_trans (Nat.le_add_left _ _) hn
 clear hn
 by_cases hq:chkQ q0=0
 ·by_cases hc:chkG g=0
  ·obtain⟨⟨h1,h5⟩,hw,ha,_,_,_,_,_⟩:=h2f hq
   have em:=j0s q0 g hc (fun _=>true) 1100 (by decide) (k1l hw0 (by omega) ha) (by omega) h1 ha n (by omega) (by rw [h0q q0 n (by omega),hq])
   cases hle:decide ((k0c n q0 g (fun _=>true)).length≤2000)with
   | false=>rw [hle,cond_false]at em;exact early n hn1 _ _ em (by decide)
   | true=>
    rw [hle,cond_true]at em
    have hle:=of_decide_eq_true hle
    obtain⟨h,md,t,e,hap,hcase⟩:=t1a g hc a b kind (Ev.Val.mk 0 0 (⟨#[]⟩:ByteArray) ([]:List Ev.Val)) [] n (by omega)
    unfold q12z
    dsimp only
    rw [hq0,b0r,em,Option.bind_some]
    dsimp only
    rw [hm n hn1,Option.bind_some]
    dsimp only
    rw [show((!true) || ((0:Int) !=0))=false from rfl,cond_false,hap,Option.bind_some]
    dsimp only
    rcases hcase with he | ⟨he,hch,hnd,hed⟩
    ·rw [show(e !=0)=true by simpa [bne]using he,cond_true]
    ·rw [he,show((0:Int) !=0)=false from rfl,cond_false,b0r]
     have em2:=j0s q0 h hch (fun _=>true) 1100 (by decide) (k1l hw0 (by omega) ha) (by omega) h1 ha n (by omega) (by rw [h0q q0 n (by omega),hq])
     rw [em2]
     cases hle2:decide ((k0c n q0 h (fun _=>true)).length≤2000)with
     | false=>rfl
     | true=>
      have hle2:=of_decide_eq_true hle2
      rw [cond_true,Option.bind_some]
      dsimp only
      rw [show((0:Int) !=0)=false from rfl,cond_false,m0n n _ _ _ n _ (by rw [e0z];omega) (by rw [e0z];omega)]
      have hrow: ∀w∈h0u ltLL (k0c n q0 h (fun _=>true)),w.length≤1000:=by
       intro w hw
       have hw:=(f0z ltLL _).mem_iff.1 hw
       unfold k0c at hw
       cases hd:q0.dots with
       | nil=>rw [hd]at hw;cases hw
       | cons d r=>
        rw [hd]at hw
        dsimp only at hw
        rw [a1g h _ d _ w hw]
        unfold t0t
        rw [List.length_map,List.length_zip]
        omega
      refine Eq.trans (b1w n _ (by omega) (t0z ltLL_ok _) (by rw [e0z];exact hle2) hrow _ _ 0 fun w hw=> ?_) rfl
      have hw:=(f0z ltLL _).mem_iff.1 hw
      refine(f0z ltLL _).mem_iff.2 (n1u hc hch hnd (fun x hx=> ?_) q0 n (by omega) _ w hw)
      rw [hed]
      exact List.mem_append_left _ hx
  ·exact early n hn1 _ _ (x1y q0 g n (by omega) hq hc) hc
 ·exact early n hn1 _ _ (z1p q0 g n (by omega) hq) hq
end Pure

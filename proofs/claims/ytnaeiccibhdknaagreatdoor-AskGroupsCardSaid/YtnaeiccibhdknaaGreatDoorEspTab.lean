import Derived.Test.YtnaeiccibhdknaaGreatDoorEspQ
import Derived.Carry
import Derived.ProofKit
import Derived.OpenShut
import Derived.Laws.Concat
import Derived.ChangeArms
import Derived.DataReads
set_option linter.unusedSimpArgs false
set_option linter.unusedVariables false
namespace Esp
open Go
variable [Tabs]
end Esp
namespace Esp
open Go Go.ChangeShapes Go.RowKit
variable [Tabs]
omit [Tabs]in
theorem x0j{H:Type}{enc:TypeId×Value->H}{P:Program}{f:Func}{s:ChangeSpec}{apart fresh handsOn again:Bool}{W W' :World}{args:Array Value}{v:Value}{ds gs:List (DataW H)}{before pa pv:List MemPlace}
  (hW:DataW.Whole enc P f.params.toList s.vars apart W args.toList ds gs before)
  (hres:∀(b:Nat) (sp:Nat->Bool) (hd:Bool),DataW.TrodAll enc P W' b sp hd f.resultTypes.toList (v.resultList f.resultTypes.size) (s.fn H (ds++gs)).results [])
  (hargs:∀sp:Nat->Bool,(∀p∈before,sp p.block=true)->DataW.TrodAll enc P W' 0 sp true f.params.toList args.toList (s.fn H (ds++gs)).args pa)
  (hQ:∀sp:Nat->Bool,(∀p∈before,sp p.block=true)->DataW.TrodVars enc P W' sp s.vars (s.fn H (ds++gs)).vars pv)
  (k7:before=pa++pv)(hb:Below W.heap.size W W')
  (bY:∀(j:Nat) (t:TypeId) (r:Value),f.resultTypes[j]?=some t->(v.resultList f.resultTypes.size)[j]?=some r->Value.okWide P W' .any 0 t r):
  s.post enc P f apart fresh handsOn again W args v W' :=by
 have hold:∀p∈before,(λb=>decide (b<W.heap.size)) p.block=true:=λp hp=>by simpa using hW.lt p hp
 have aJ:=hW.lt;refine⟨ds,gs,before,[],pa,pv,hW,hres _ _ _,hargs _ hold,hQ _ hold,World.keptBut_mono (λp hp=>⟨hp,?_⟩) (hb.frame (· ∈before)),λ_=>?_⟩
 ·rw[k7,r2x]at hp
  exact Or.inr hp
 ·obtain⟨_,_,_,_,_,hz,hn⟩:=hW
  refine⟨bY,_,_,([]++pa)++pv,⟨[]++pa,pv,trodAll_append (hargs _ (λ_ _=>rfl)) (hres _ _ _),hQ _ (λ_ _=>rfl),rfl,?_,?_⟩,?_⟩
  ·intro b off hp
   have hm:MemPlace.cell b off∈before:=by rw[k7];simpa using hp
   rw[hb.frozen (aJ _ hm)];exact hz b off hm
  ·intro ha
   have:=hn ha;rw[k7]at this;simpa using this
  ·intro p hp _
   rw[k7];simpa using hp
omit [Tabs]in
theorem l0m{H:Type}{enc:TypeId×Value->H}{P:Program}(hl:laidOutB P=true){W W' :World}(hb:Below W.heap.size W W'):
  ∀{ts:List TypeId} {vs:List Value} {ds:List (DataW H)} {ps:List MemPlace},(∀t∈ts,P.readableRec t=true/\t<P.types.size)->
   DataW.TrodAll enc P W 0 (λ_=>true) true ts vs ds ps->(∀x∈ps,x.block<W.heap.size)-> ∀sp:Nat->Bool,(∀x∈ps,sp x.block=true)->DataW.TrodAll enc P W' 0 sp true ts vs ds ps
 |[],_,_,_,_,h,_,_,_=>by
  obtain⟨rfl,rfl,rfl⟩:=trodAll_nil h;rfl
 |t::ts,_,_,_,ht,h,aJ,sp,jx=>by
  obtain⟨v,vs,d,ds,p,q,rfl,rfl,rfl,h1,h2⟩:=trodAll_cons h;refine⟨p,q,?_,l0m hl hb (λt h=>ht t (by simp[h])) h2 (λx hx=>aJ x (by simp[hx])) sp (λx hx=>jx x (by simp[hx])),rfl⟩;have h3:=ht t (by simp);exact Go.WideElems.Trod_stays hl h3.1 h3.2 h1 (λx hx=>hb.same (aJ x (by simp[hx]))) (λx hx=>jx x (by simp[hx]))
omit [Tabs]in
theorem y1u{H:Type}{enc:TypeId×Value->H}{P:Program}{f:Func}{s:ChangeSpec}{apart fresh handsOn again:Bool}{W W' :World}{args:Array Value}{ds gs:List (DataW H)}{before:List MemPlace}{tb:TypeId}
  (hW:DataW.Whole enc P f.params.toList s.vars apart W args.toList ds gs before)(hb:Below W.heap.size W W')(hv:s.vars=[])
  (cL:(s.fn H ds)={results:=[.lit (.bool true)],args:=ds})(ht:f.resultTypes=#[tb])(hu:P.underlying tb=some .bool)
  (hl:laidOutB P=true)(hr:(f.params.toList.all λt=>P.readableRec t&&decide (t<P.types.size))=true):
  s.post enc P f apart fresh handsOn again W args (.bool true) W' :=by
 have hW' :=hW;obtain⟨p,q,hA,hV,rfl,qm,eM⟩:=hW;rw[hv]at hV;obtain⟨rfl,rfl⟩:=trodVars_none hV;have aJ:=hW'.lt;refine x0j (pa:=p) (pv:=[]) hW' (λb sp hd=>?_) (λsp jx=>?_) (λsp _=>?_) rfl hb ?_
 ·rw[ht,r2p,cL]
  exact trodAll_cons_mk (shut_bool hu _) trodAll_mk0
 ·rw[r2p,cL]
  refine l0m hl hb (λt h=>?_) hA (λx hx=>aJ x (by simp[hx])) sp (λx hx=>jx x (by simp[hx]));have:=r2r.1 hr t h;simpa using this
 ·rw[hv,r2p,cL]
  rfl
 ·exact ok_one ht rfl (okWide_bool_mk hu _)
end Esp
namespace Esp
open Go
variable [Tabs]
mutual
def AC.ren (g:Nat->Option Nat):AC->AC
 |.d x=>.d x
 |.own k=>match g k with
  |some j=>.own j
  |none=>.junk
 |.ptr k off=>match g k with
  |some j=>.ptr j off
  |none=>.junk
 |.elt _ _ _ _=>.junk
 |.osl _ _ _ _=>.junk
 |.pn k=>match g k with
  |some j=>.pn j
  |none=>.junk
 |.ifo t k=>match g k with
  |some j=>.ifo t j
  |none=>.junk
 |.mpr k=>match g k with
  |some j=>.mpr j
  |none=>.junk
 |.row _ _=>.junk
 |.fn f fs cs=>.fn f (AC.renL g fs) (AC.renL g cs)
 |.junk=>.junk
def AC.renL (g:Nat->Option Nat):List AC->List AC
 |[]=>[]
 |c::r=>AC.ren g c::AC.renL g r
end
mutual
def AV.ren (g:Nat->Option Nat):AV->AV
 |.cell c=>.cell (c.ren g)
 |.agg cs=>.agg (AC.renL g cs)
 |.aggD cs=>.aggD cs
 |.tup vs=>.tup (AV.renL g vs)
 |.whn h w x=>.whn h w (AV.ren g x)
 |.junk=>.junk
def AV.renL (g:Nat->Option Nat):List AV->List AV
 |[]=>[]
 |v::r=>AV.ren g v::AV.renL g r
end
def AObj.ren (g:Nat->Option Nat):AObj->AObj
 |.box cs ty=>.box (AC.renL g cs) ty
 |o=>o
omit [Tabs]in
theorem AC.renL_eq (g:Nat->Option Nat)(l:List AC):AC.renL g l=l.map (AC.ren g):=by
 induction l with
 |nil=>rfl
 |cons v r ih=>simp[AC.renL,ih]
omit [Tabs]in
theorem AV.renL_eq (g:Nat->Option Nat)(l:List AV):AV.renL g l=l.map (AV.ren g):=by
 induction l with
 |nil=>rfl
 |cons v r ih=>simp[AV.renL,ih]
def w0u(g:Nat->Option Nat)(ρ ρ' :Env):Prop:=∀k j l,g k=some j->ρ' j=some l->ρ k=some l
section
variable{w w' :World}{F F' :Nat->Prop}{ρ ρ' :Env}{tm:Array Value}{g:Nat->Option Nat}
omit [Tabs]in
theorem RelAC.ren (hg:w0u g ρ ρ'){x:AC}{v:Value}(h:RelAC w F ρ x v):RelAC w F ρ' (x.ren g) v:=by
 induction h with
 |d x v h=>exact .d x v h
 |own k v h=>
  simp only[AC.ren];cases e:g k with
  |none=>exact .junk v
  |some j=>exact .own j v λu hu=>h u (hg k j _ e hu)
 |ptr k off v h=>
  simp only[AC.ren];cases e:g k with
  |none=>exact .junk v
  |some j=>exact .ptr j off v λb hb=>h b (hg k j _ e hb)
 |elt=>exact .junk _
 |osl=>exact .junk _
 |pn k v h=>
  simp only[AC.ren];cases e:g k with
  |none=>exact .junk v
  |some j=>exact .pn j v λb hb=>h b (hg k j _ e hb)
 |ifo t k v h=>
  simp only[AC.ren];cases e:g k with
  |none=>exact .junk v
  |some j=>exact .ifo t j v λb hb=>h b (hg k j _ e hb)
 |mpr k v h=>
  simp only[AC.ren];cases e:g k with
  |none=>exact .junk v
  |some j=>exact .mpr j v λl b hb=>h l b (hg k j _ e hb)
 |row k i v h=>
  simp only[AC.ren];exact .junk v
 |fn f fs cs vs us h1 h2 hf hc ih1 ih2=>
  simp only[AC.ren,AC.renL_eq];exact .fn f _ _ vs us (by simpa using h1) (by simpa using h2) (λi hi=>by simpa using ih1 i (by simpa using hi)) (λi hi=>by simpa using ih2 i (by simpa using hi))
 |junk v=>exact .junk v
omit [Tabs]in
theorem RelAV.ren (hg:w0u g ρ ρ'){x:AV}{v:Value}(h:RelAV w F ρ tm x v):RelAV w F ρ' tm (x.ren g) v:=by
 induction h with
 |cell c v h=>exact .cell _ v (h.ren hg)
 |agg cs arr hz h=>
  simp only[AV.ren,AC.renL_eq];exact .agg _ arr (by simpa using hz) λi hi=>by simpa using(h i (by simpa using hi)).ren hg
 |aggD cs arr hz h=>exact .aggD cs arr hz h
 |tup vs arr hz h ih=>
  simp only[AV.ren,AV.renL_eq];exact .tup _ arr (by simpa using hz) λi hi=>by simpa using ih i (by simpa using hi)
 |whn g' want x v h h' ih=>exact .whn g' want _ v ih h'
 |junk v=>exact .junk v
omit [Tabs]in
theorem RelOb.ren (hg:w0u g ρ ρ'){k j:Nat}(hk:ρ' j=ρ k){o:AObj}(h:RelOb w F ρ k o):RelOb w F ρ' j (o.ren g):=by
 induction h with
 |gone h=>exact .gone (hk.trans h)
 |na t ee xs h ih=>exact .na t ee xs ih
 |any o h ih=>exact .any _ ih
 |box cs oty b c t aQ aG hb hs h=>
  simp only[AObj.ren,AC.renL_eq];exact .box _ _ b c t aQ (hk.trans aG) hb (by simpa using hs) λi hi=>by simpa using(h i (by simpa using hi)).ren hg
 |arr t e n cs u xs aG ho hs h=>exact .arr t e n cs u xs (hk.trans aG) ho hs h
 |tab b o aG hF hb=>exact .tab b o (hk.trans aG) hF hb
 |it s pos b aG hb=>exact .it s pos b (hk.trans aG) hb
 |fz t xs u aG h=>exact .fz t xs u (hk.trans aG) h
 |mi kt vt l cur b mo si se la aG hb hm=>exact .mi kt vt l cur b mo si se la (hk.trans aG) hb hm
 |mp t kt vt l b es c aG hb hs h dn hd=>exact .mp t kt vt l b es c (hk.trans aG) hb hs h dn hd
 |mr tm te kt e l pd b es c pv us aG hb hM=>exact .mr tm te kt e l pd b es c pv us (hk.trans aG) hb hM
end
def fwd(m:List (Nat×Nat))(k:Nat):Option Nat:=
 match m with
 |[]=>none
 |(a,b)::r=>bif Nat.beq k a then some b else fwd r k
def bwd(m:List (Nat×Nat))(k:Nat):Option Nat:=
 match m with
 |[]=>none
 |(a,b)::r=>bif Nat.beq k b then some a else bwd r k
def once:List (Nat×Nat)->Bool
 |[]=>true
 |(a,b)::r=>r.all (λp=> !Nat.beq p.1 a&& !Nat.beq p.2 b)&&once r
omit [Tabs]in
theorem v0u:∀{m:List (Nat×Nat)} {a b:Nat},fwd m a=some b->(a,b)∈m
 |(x,y)::r,a,b,h=>by
  simp only[fwd]at h;cases hb:Nat.beq a x with
  |true=>rw[hb]at h;cases h;rw[q2v hb];simp
  |false=>rw[hb]at h;exact s2m _ (v0u h)
omit [Tabs]in
theorem l0a:∀{m:List (Nat×Nat)} {a b:Nat},bwd m b=some a->(a,b)∈m
 |(x,y)::r,a,b,h=>by
  simp only[bwd]at h;cases hb:Nat.beq b y with
  |true=>rw[hb]at h;cases h;rw[q2v hb];simp
  |false=>rw[hb]at h;exact s2m _ (l0a h)
omit [Tabs]in
theorem z0b:∀{m:List (Nat×Nat)} (_:once m=true) {a b b' :Nat},(a,b)∈m->(a,b')∈m->b=b'
 |(x,y)::r,h,a,b,b',h1,h2=>by
  simp only[once,q2w,r2r,s2k]at h;rcases r2g.1 h1 with e1|e1<;>rcases r2g.1 h2 with e2|e2
  ·cases e1;cases e2;rfl
  ·cases e1
   have:=(h.1 _ e2).1;simp at this
  ·cases e2
   have:=(h.1 _ e1).1;simp at this
  ·exact z0b h.2 e1 e2
omit [Tabs]in
theorem v0w:∀{m:List (Nat×Nat)} (_:once m=true) {a a' b:Nat},(a,b)∈m->(a',b)∈m->a=a'
 |(x,y)::r,h,a,a',b,h1,h2=>by
  simp only[once,q2w,r2r,s2k]at h;rcases r2g.1 h1 with e1|e1<;>rcases r2g.1 h2 with e2|e2
  ·cases e1;cases e2;rfl
  ·cases e1
   have:=(h.1 _ e2).2;simp at this
  ·cases e2
   have:=(h.1 _ e1).2;simp at this
  ·exact v0w h.2 e1 e2
omit [Tabs]in
theorem j1i:∀{m:List (Nat×Nat)} {a:Nat},fwd m a=none->∀b,(a,b) ∉m
 |(x,y)::r,a,h,b,hm=>by
  simp only[fwd]at h;cases hb:Nat.beq a x with
  |true=>rw[hb]at h;cases h
  |false=>
   rw[hb]at h;rcases r2g.1 hm with e|e
   ·cases e
    simp at hb
   ·exact j1i h b e
omit [Tabs]in
theorem x0q:∀{m:List (Nat×Nat)} {b:Nat},bwd m b=none->∀a,(a,b) ∉m
 |(x,y)::r,b,h,a,hm=>by
  simp only[bwd]at h;cases hb:Nat.beq b y with
  |true=>rw[hb]at h;cases h
  |false=>
   rw[hb]at h;rcases r2g.1 hm with e|e
   ·cases e
    simp at hb
   ·exact x0q h a e
omit [Tabs]in
theorem x0i{m:List (Nat×Nat)}(ho:once m=true){a b:Nat}(h:(a,b)∈m):fwd m a=some b:=by
 cases e:fwd m a with
 |none=>exact absurd h (j1i e b)
 |some b' =>rw[z0b ho (v0u e) h]
omit [Tabs]in
theorem z1v{m:List (Nat×Nat)}(ho:once m=true){a b:Nat}(h:(a,b)∈m):bwd m b=some a:=by
 cases e:bwd m b with
 |none=>exact absurd h (x0q e a)
 |some a' =>rw[v0w ho (l0a e) h]
structure NilArg where
 pos:Nat
 kk:Nat
 te:TypeId
 e:Nat
def c2b(m:List (Nat×Nat))(ns:List NilArg)(i:Nat)(x:AV):AV:=
 match ns.find? (λn=>Nat.beq n.pos i),x with
 |some n,.cell (.d (.sc (.slice none 0 0)))=>.cell (.own n.kk)
 |_,x=>x.ren (bwd m)
def f0z(m:List (Nat×Nat))(ns:List NilArg):Nat->List AV->List AV
 |_,[]=>[]
 |i,x::r=>c2b m ns i x::f0z m ns (i+1) r
def t0h(ob:List (Nat×AObj))(m:List (Nat×Nat))(ns:List NilArg):List (Nat×AObj):=
 m.map (λp=>(p.1,(lkO ob p.2).ren (bwd m)))++ns.map λn=>(n.kk,.arr n.te n.e 0 [])
def h0d:AObj->Bool
 |.box _ _=>false
 |.gone=>false
 |.tab _ _=>false
 |.it _ _=>false
 |.mi _ _ _ _=>false
 |.mp _ _ _ _ _=>false
 |_=>true
def goes(ob:List (Nat×AObj))(m nw:List (Nat×Nat)):List Nat:=(m.filter λp=>h0d (lkO ob p.2)&&Nat.blt p.1 2000000).map (·.2)++nw.map (·.2)
def stay(l:List Nat)(k:Nat):Option Nat:=bif memB k l then none else some k
def f0y(m nw:List (Nat×Nat))(d:Option Tmp)(x:AV)(bH:List (Nat×AObj))(st:ASt):ASt:=
 ASt.put {fr:=st.fr.map λp=>(p.1,p.2.ren (stay (goes st.ob m nw)))
          ob:=(m++nw).map (λp=>(p.2,(lkO bH p.1).ren (fwd (m++nw))))++st.ob.map λp=>(p.1,p.2.ren (stay (goes st.ob m nw)))} d (x.ren (fwd (m++nw)))
def k0p(N:Nat)(ob:List (Nat×AObj))(m nw:List (Nat×Nat))(ns:List NilArg)(d:Option Tmp):Bool:=
 once (m++nw)&&nw.all (λp=>Nat.blt p.2 1000000)&&m.all (λp=>Nat.ble 1000000 p.1&& (Nat.blt p.2 2000000 || Nat.ble 2000000 p.1))&&ns.all (λn=>(fwd m n.kk).isNone&& (fwd nw n.kk).isSome)&&
  (match d with|some d=>Nat.blt d N|none=>true)
omit [Tabs]in
theorem x1v(f:Nat->AObj)(r:List (Nat×AObj)):∀(m:List (Nat×Nat)) (k:Nat),lkO (m.map (λp=>(p.1,f p.2))++r) k=match fwd m k with|some j=>f j|none=>lkO r k
 |[],k=>rfl
 |(a,b)::m,k=>by
  simp only[r2k,List.cons_append,lkO,fwd];cases hb:Nat.beq k a with
  |true=>rfl
  |false=>simpa using x1v f r m k
omit [Tabs]in
theorem t1k(f:Nat->AObj)(r:List (Nat×AObj)):∀(m:List (Nat×Nat)) (k:Nat),lkO (m.map (λp=>(p.2,f p.1))++r) k=match bwd m k with|some j=>f j|none=>lkO r k
 |[],k=>rfl
 |(a,b)::m,k=>by
  simp only[r2k,List.cons_append,lkO,bwd];cases hb:Nat.beq k b with
  |true=>rfl
  |false=>simpa using t1k f r m k
omit [Tabs]in
theorem i1r:∀(ns:List NilArg) (k:Nat),lkO (ns.map λn=>(n.kk,.arr n.te n.e 0 [])) k=match ns.find? (λn=>Nat.beq k n.kk)with|some n=>.arr n.te n.e 0 []| none=>.gone
 |[],k=>rfl
 |n::r,k=>by
  simp only[r2k,lkO,List.find?_cons];cases hb:Nat.beq k n.kk with
  |true=>rfl
  |false=>simpa using i1r r k
omit [Tabs]in
theorem b0k(m:List (Nat×Nat))(ns:List NilArg):∀(l:List AV) (i:Nat),(f0z m ns i l).length=l.length
 |[],_=>rfl
 |x::r,i=>by simp[f0z,b0k m ns r (i+1)]
omit [Tabs]in
theorem k0d(m:List (Nat×Nat))(ns:List NilArg):∀(l:List AV) (i j:Nat) (h:j<l.length) (h' :j<(f0z m ns i l).length),(f0z m ns i l)[j]=c2b m ns (i+j) l[j]
 |[],_,j,h,_=>by simp at h
 |x::r,i,j,h,h' =>by
  cases j with
  |zero=>simp[f0z]
  |succ j=>
   simp only[f0z,List.getElem_cons_succ];rw[k0d m ns r (i+1) j (by simpa using h)];congr 1;omega
def f0d(ρ:Env)(m:List (Nat×Nat))(ns:List NilArg):Env:=λk=>
 match fwd m k with
 |some j=>ρ j
 |none=>match ns.find? (λn=>Nat.beq k n.kk)with
  |some _=>some (.arr (.slice none 0 0))
  |none=>none
def e0f(ρ ρ' :Env)(m2:List (Nat×Nat)):Env:=λk=>
 match bwd m2 k with
 |some j=>ρ' j
 |none=>ρ k
def e0c(P:Program)(ops:Array Oper)(i:Nat)(st:ASt):Option (Option Tmp×FuncId×List AV):=
 match opK ops st.fr i with
 |some ⟨d,.call c,_,_,_,_⟩=>match b0v st.fr c with
  |some (f,args)=>bif a0m P f then some (d,f,args)else none
  |none=>none
 |_=>none
section
variable{P:Program}{N:Nat}{ops:Array Oper}{Q:Exit->ASt->Prop}{st st' :ASt}{l:List Nat}
omit [Tabs]in
theorem z0a{m nw:List (Nat×Nat)}(h:once (m++nw)=true):once m=true:=by
 induction m with
 |nil=>rfl
 |cons p m ih=>
  simp only[List.cons_append,once,q2w,List.all_append]at h⊢;exact⟨h.1.1,ih h.2⟩
omit [Tabs]in
theorem e0j{ρ:Env}{m:List (Nat×Nat)}{ns:List NilArg}{k:Nat}{lo:Loc}{b:Nat}(h:f0d ρ m ns k=some lo)(hb:lo.has b):∃j,(k,j)∈m/\ρ j=some lo:=by
 unfold f0d at h;split at h
 ·rename_i j e
  exact⟨j,v0u e,h⟩
 ·split at h
  ·cases h
   cases hb
  ·cases h
theorem k0w{F:Nat->Prop}{ρ:Env}{a:Act}{w:World}(h:Rel N F ρ st a w){m:List (Nat×Nat)}{ns:List NilArg}(ho:once m=true):
  RelW F (f0d ρ m ns) w/\(∀k,(fwd m k=none\/ns.all (λn=>(fwd m n.kk).isNone)=true)->RelOb w F (f0d ρ m ns) k (lkO (t0h st.ob m ns) k))/\w0u (bwd m) ρ (f0d ρ m ns):=by
 have cD:w0u (bwd m) ρ (f0d ρ m ns):=by
  intro k j lo hb he;unfold f0d at he;rw[x0i ho (l0a hb)]at he;exact he
 refine⟨⟨?_,h.rw.lt,?_,h.rw.tab⟩,?_,cD⟩
 ·rintro b hb ⟨k,lo,hk,hl⟩
  obtain⟨j,_,hj⟩:=e0j hk hl;exact h.rw.dis b hb ⟨j,lo,hj,hl⟩
 ·intro k k' lo ku b hk aG hb hb'
  obtain⟨j,hm,hj⟩:=e0j hk hb;obtain⟨j',mQ,bN⟩:=e0j aG hb';have:=h.rw.inj _ _ _ _ b hj bN hb hb';subst this;exact v0w ho hm mQ
 ·intro k _
  unfold t0h;rw[x1v (λj=>(lkO st.ob j).ren (bwd m)),i1r];cases e:fwd m k with
  |some j=>
   exact(h.ob j).ren cD (by unfold f0d;rw[e])
  |none=>
   cases e2:ns.find? (λn=>Nat.beq k n.kk)with
   |some n=>
    exact .arr _ _ _ _ (.slice none 0 0) [] (by unfold f0d;rw[e];simp only[e2]) (World.ownsRow_nil w 0 n.te n.e) rfl λi hi=>by simp at hi
   |none=>exact .gone (by unfold f0d;rw[e];simp only[e2])
omit [Tabs]in
theorem o0j{F:Nat->Prop}{ρ:Env}{tm:Array Value}{w:World}{m:List (Nat×Nat)}{ns:List NilArg}(cD:w0u (bwd m) ρ (f0d ρ m ns))(cZ:ns.all (λn=>(fwd m n.kk).isNone)=true)
  {i:Nat}{x:AV}{v:Value}(h:RelAV w F ρ tm x v):RelAV w F (f0d ρ m ns) tm (c2b m ns i x) v:=by
 unfold c2b;split
 ·rename_i n hf
  have hv:=(a0i h (u:=.slice none 0 0) rfl).1;subst hv;refine .cell _ _ (.own _ _ λu hu=>?_);have hn:=List.mem_of_find?_eq_some hf;have h1:=r2r.1 cZ n hn;unfold f0d at hu;cases e:fwd m n.kk with
  |some j=>rw[e]at h1;cases h1
  |none=>
   rw[e]at hu;simp only at hu;split at hu
   ·cases hu;rfl
   ·cases hu
 ·exact h.ren cD
omit [Tabs]in
theorem j1w:∀{l:List Nat} {k:Nat},memB k l=false->k∉l
 |[],_,_=>by simp
 |j::r,k,h=>by
  simp only[memB,r2o]at h;intro hm;rcases r2g.1 hm with e|e
  ·subst e;simp at h
  ·exact j1w h.2 e
theorem v0d{F:Nat->Prop}{ρ:Env}{a:Act}{w:World}(h:Rel N F ρ st a w){m nw:List (Nat×Nat)}{ns:List NilArg}{d:Option Tmp}(bY:k0p N st.ob m nw ns d=true)
  {w' :World}{F' :Nat->Prop}{ρ' :Env}(hrw:RelW F' ρ' w'){bH:List (Nat×AObj)}(aH:∀k,RelOb w' F' ρ' k (lkO bH k))(hfr:Fr F (f0d ρ m ns) w F' ρ' w')
  {x:AV}{v:Value}(hx:RelAV w' F' ρ' #[] x v)(hp:x.plain=true):
  Rel N F' (e0f ρ ρ' (m++nw)) (f0y m nw d x bH st) (a.put d v) w' /\Fr F ρ w F' (e0f ρ ρ' (m++nw)) w' :=by
 simp only[k0p,q2w]at bY;obtain⟨⟨⟨⟨iM,pK⟩,hm⟩,cZ⟩,hd⟩:=bY;have gN:=z0a iM;have bL:∀k lo b,ρ k=some lo->lo.has b->bwd (m++nw) k=none->¬live (f0d ρ m ns) b:=by
  rintro k lo b hk hb hn ⟨kk,ku,aX,hb'⟩;obtain⟨j,aS,hj⟩:=e0j aX hb';have:=h.rw.inj _ _ _ _ b hk hj hb hb';subst this;exact x0q hn kk (List.mem_append_left _ aS)
 have hFk:∀b,F b->w'.heap[b]?=w.heap[b]?:=λb hb=>hfr.keep b (h.rw.lt b hb) λ⟨kk,lo,aX,hl⟩=>by
  obtain⟨j,_,hj⟩:=e0j aX hl;exact h.rw.dis b hb ⟨j,lo,hj,hl⟩
 have gO:w0u (stay (goes st.ob m nw)) ρ (e0f ρ ρ' (m++nw)):=by
  intro k j lo hs hl;unfold stay at hs;cases hI:memB k (goes st.ob m nw)with
  |true=>rw[hI]at hs;cases hs
  |false=>
   rw[hI]at hs;cases hs;have kC:=j1w hI;unfold e0f at hl;cases e:bwd (m++nw) k with
   |none=>rw[e]at hl;exact hl
   |some kk=>
    rw[e]at hl;simp only at hl;have aS:=l0a e;rcases r2x.1 aS with h1|h1
    ·have h2:=r2r.1 hm _ h1
     simp only[q2w]at h2;have bB:(h0d (lkO st.ob k)&&Nat.blt kk 2000000)=false:=by
      cases e3:(h0d (lkO st.ob k)&&Nat.blt kk 2000000)with
      |false=>rfl
      |true=>exact absurd (List.mem_append_left _ (r2s.2 ⟨(kk,k),t2a.2 ⟨h1,e3⟩,rfl⟩)) kC
     have dW:=r2i h2.1;have hst:=hfr.stab kk dW;have e4:f0d ρ m ns kk=ρ k:=by unfold f0d;rw[x0i gN h1]
     rw[e4,hl]at hst;cases e5:ρ k with
     |none=>rw[e5]at hst;simp[Stab]at hst
     |some l0=>
      rw[e5]at hst;cases l0 with
      |box b=>cases lo<;>simp_all[Stab]
      |arr u=>
       cases hb2:Nat.blt kk 2000000 with
       |false=>
        have iN:2000000<=kk:=Nat.not_lt.1 λh=>by
         rw[show Nat.blt kk 2000000=true from r2n h]at hb2
         cases hb2
        cases lo with
        |box b=>simp[Stab]at hst
        |many b us=>simp[Stab]at hst
        |arr u' =>rw[show u' =u from hst iN]
       |true=>
       rw[hb2,Bool.and_true]at bB;have ho:=h.ob k;generalize lkO st.ob k=o at ho bB;cases ho with
       |gone hg=>rw[hg]at e5;cases e5
       |na t ee xs hg=>simp[h0d]at bB
       |any=>simp[h0d]at bB
       |tab b o hg=>rw[hg]at e5;cases e5
       |it s pos b aG=>rw[aG]at e5;cases e5
       |fz=>simp[h0d]at bB
       |mi kt vt l cur b mo si se la aG=>rw[aG]at e5;cases e5
       |mp t kt vt l b es c aG=>rw[aG]at e5;cases e5
       |mr=>simp[h0d]at bB
       |box cs oty b c t aQ aG=>rw[aG]at e5;cases e5
       |arr=>simp[h0d]at bB
      |many b us=>
       cases hb2:Nat.blt kk 2000000 with
       |false=>
        have iN:2000000<=kk:=Nat.not_lt.1 λh=>by
         rw[show Nat.blt kk 2000000=true from r2n h]at hb2
         cases hb2
        cases lo with
        |box b=>simp[Stab]at hst
        |arr u' =>simp[Stab]at hst
        |many b' us' =>obtain⟨rfl,rfl⟩:=hst iN;rfl
       |true=>
       rw[hb2,Bool.and_true]at bB;have ho:=h.ob k;generalize lkO st.ob k=o at ho bB;cases ho with
       |gone hg=>rw[hg]at e5;cases e5
       |na t ee xs hg=>simp[h0d]at bB
       |any=>simp[h0d]at bB
       |tab b o hg=>rw[hg]at e5;cases e5
       |it s pos b aG=>rw[aG]at e5;cases e5
       |fz=>simp[h0d]at bB
       |mi kt vt l cur b mo si se la aG=>rw[aG]at e5;cases e5
       |mp t kt vt l b es c aG=>rw[aG]at e5;cases e5
       |mr=>simp[h0d]at bB
       |box cs oty b c t aQ aG=>rw[aG]at e5;cases e5
       |arr=>simp[h0d]at bB
    ·exact absurd (List.mem_append_right _ (r2s.2 ⟨(kk,k),h1,rfl⟩)) kC
 have j5:w0u (fwd (m++nw)) ρ' (e0f ρ ρ' (m++nw)):=by
  intro k j lo hf hl;unfold e0f at hl;rw[z1v iM (v0u hf)]at hl;exact hl
 have base:Rel N F' (e0f ρ ρ' (m++nw))
   {fr:=st.fr.map λp=>(p.1,p.2.ren (stay (goes st.ob m nw)))
    ob:=(m++nw).map (λp=>(p.2,(lkO bH p.1).ren (fwd (m++nw))))++st.ob.map λp=>(p.1,p.2.ren (stay (goes st.ob m nw)))} a w' :=by
  refine⟨⟨?_,hrw.lt,?_,hrw.tab⟩,λi=>?_,λk=>?_,h.sz,h.df⟩
  ·rintro b hb ⟨k,lo,hk,hl⟩
   unfold e0f at hk;cases e:bwd (m++nw) k with
   |some kk=>rw[e]at hk;exact hrw.dis b hb ⟨kk,lo,hk,hl⟩
   |none=>
    rw[e]at hk;simp only at hk;rcases hfr.old b ((h.ob k).lt hk hl) (.inl hb)with h1|h1
    ·exact h.rw.dis b h1 ⟨k,lo,hk,hl⟩
    ·exact bL k lo b hk hl e h1
  ·intro k k' lo ku b hk aG hb hb'
   unfold e0f at hk aG;cases e:bwd (m++nw) k with
   |some kk=>
    rw[e]at hk;simp only at hk;cases e' :bwd (m++nw) k' with
    |some jo=>
     rw[e']at aG;simp only at aG;have:=hrw.inj _ _ _ _ b hk aG hb hb';subst this;exact z0b iM (l0a e) (l0a e')
    |none=>
     rw[e']at aG;simp only at aG;rcases hfr.old b ((h.ob k').lt aG hb') (.inr ⟨kk,lo,hk,hb⟩)with h1|h1
     ·exact absurd ⟨k',ku,aG,hb'⟩ (h.rw.dis b h1)
     ·exact absurd h1 (bL k' ku b aG hb' e')
   |none=>
    rw[e]at hk;simp only at hk;cases e' :bwd (m++nw) k' with
    |some jo=>
     rw[e']at aG;simp only at aG;rcases hfr.old b ((h.ob k).lt hk hb) (.inr ⟨jo,ku,aG,hb'⟩)with h1|h1
     ·exact absurd ⟨k,lo,hk,hb⟩ (h.rw.dis b h1)
     ·exact absurd h1 (bL k lo b hk hb e)
    |none=>
     rw[e']at aG;simp only at aG;exact h.rw.inj _ _ _ _ b hk aG hb hb'
  ·rw[d0l (AV.ren (stay (goes st.ob m nw))) rfl]
   exact((h.fr i).mono hFk hfr.sub (λ_ _ h=>h)).ren gO
  ·simp only
   rw[t1k (λj=>(lkO bH j).ren (fwd (m++nw))),e0i (AObj.ren (stay (goes st.ob m nw))) rfl];cases e:bwd (m++nw) k with
   |some kk=>exact(aH kk).ren j5 (by unfold e0f;rw[e])
   |none=>
    have h1:RelOb w' F' ρ k (lkO st.ob k):=(h.ob k).through hFk hfr.sub λlo b hl hb=>hfr.keep b ((h.ob k).lt hl hb) (bL k lo b hl hb e);exact h1.ren gO (by unfold e0f;rw[e])
 refine⟨?_,hfr.os,hfr.tape,hfr.output,hfr.size,hfr.sub,λb hb hl=>hfr.keep b hb ?_,?_,?_⟩
 ·cases d with
  |none=>exact base
  |some d=>exact base.put d (a0e hd) ((hx.retm hp).ren j5)
 ·rintro⟨kk,lo,hk,hb'⟩
  obtain⟨j,_,hj⟩:=e0j hk hb';exact hl ⟨j,lo,hj,hb'⟩
 ·intro b hb hh
  have key:F' b\/live ρ' b->F b\/live ρ b:=λh1=>(hfr.old b hb h1).imp id λ⟨kk,lo,hk,hl⟩=>by
   obtain⟨j,_,hj⟩:=e0j hk hl;exact⟨j,lo,hj,hl⟩
  rcases hh with h1|⟨k,lo,hk,hl⟩
  ·exact key (.inl h1)
  ·unfold e0f at hk
   cases e:bwd (m++nw) k with
   |some kk=>rw[e]at hk;exact key (.inr ⟨kk,lo,hk,hl⟩)
   |none=>rw[e]at hk;exact .inr ⟨k,lo,hk,hl⟩
 ·intro k hk
  unfold e0f;cases e:bwd (m++nw) k with
  |none=>exact Stab.refl _ _
  |some kk=>
   simp only;rcases r2x.1 (l0a e)with h1|h1
   ·have e4:f0d ρ m ns kk=ρ k:=by unfold f0d;rw[x0i gN h1]
    have h2:=r2r.1 hm _ h1;simp only[q2w,t2n]at h2;have:=hfr.stab kk (r2i h2.1);rw[e4]at this;cases hl:ρ' kk with
    |none=>cases ρ k<;>trivial
    |some l' =>
     rw[hl]at this;cases dV:ρ k with
     |none=>rw[dV]at this;simp[Stab]at this
     |some l=>
      rw[dV]at this;cases l with
      |box b=>cases l' with
       |box b' =>exact this
       |arr u' =>simp[Stab]at this
       |many b' us' =>simp[Stab]at this
      |many b us=>cases l' with
       |box b' =>simp[Stab]at this
       |arr u' =>simp[Stab]at this
       |many b' us' =>
        intro h3;refine this ?_;rcases h2.2 with h4|h4
        ·exact absurd (a0e h4) (by omega)
        ·exact r2i h4
      |arr u=>cases l' with
       |box b' =>simp[Stab]at this
       |many b' us' =>simp[Stab]at this
       |arr u' =>
        intro h3;refine this ?_;rcases h2.2 with h4|h4
        ·exact absurd (a0e h4) (by omega)
        ·exact r2i h4
   ·have:=r2r.1 pK _ h1
    have:=a0e this;simp only at this;omega
theorem AOps.ocall {i n r i' :Nat}{d:Option Tmp}{f:FuncId}{cargs pargs:List AV}{pob:List (Nat×AObj)}{R:AEnd->List (Nat×AObj)->Prop}(h:e0c P ops i st=some (d,f,cargs))
  (m nw:List (Nat×Nat))(ns:List NilArg)(bY:k0p N st.ob m nw ns d=true)(ha:f0z m ns 0 cargs=pargs)(aH:t0h st.ob m ns=pob)(b8:AV.plainL cargs=true)
  (spec:ACalls P f pargs pob R)(hR:∀e o,R e o->∃x,e=.ret x/\x.plain=true)(hn:n=r+1)(hi:i' =i+1)
  (k:∀x bH,R (.ret x) bH->AOps P N ops (List.range' i' r) (f0y m nw d x bH st) Q):AOps P N ops (List.range' i n) st Q:=by
 subst hn;subst hi;subst ha;subst aH;rw[s2z];unfold e0c at h;split at h
 ·rename_i d' c ty pos after guard ho
  split at h
  ·rename_i f' args' hc
   cases hb:a0m P f' with
   |false=>rw[hb]at h;cases h
   |true=>
    rw[hb]at h;cases h;intro F ρ a w hr;rw[wpOps_cons];obtain⟨e,hw⟩:=a0x hr ho;obtain⟨vs,hrun,aR,hrel⟩:=d0a hr hc hb ty;simp only[wpOp,e];rw[if_pos hw];left;have bD:(execOp a.eval ⟨d,.call c,ty,pos,after,guard⟩).run P w=.ok (.enter f vs) w:=hrun;simp only[Oper.wp,Oper.upon,bD];have hok' :=bY;simp only[k0p,q2w]at hok';have gN:=z0a hok'.1.1.1.1;have cZ:ns.all (λn=>(fwd m n.kk).isNone)=true:=by
     rw[r2r];intro n hn;have:=r2r.1 hok'.1.2 n hn;simp only[q2w]at this;exact this.1
    obtain⟨e1,e2,cD⟩:=k0w hr (m:=m) (ns:=ns) gN;refine(spec F (f0d ρ m ns) vs w e1 (λk=>e2 k (.inr cZ)) ⟨by rw[b0k];exact aR,λj hj=>?_⟩).mono λen w' ⟨F',ρ',rr,bH,hq,hre,hrw,bQ,hfr⟩=>?_
    ·have bN:j<cargs.length:=by rw[b0k]at hj;exact hj
     rw[k0d _ _ _ _ _ bN hj];exact o0j cD cZ ((hrel j bN).retm (AV.plainL_get b8 j bN))
    ·obtain⟨x,rfl,hp⟩:=hR _ _ hq
     cases en with
     |returned v=>
      obtain⟨h1,h2⟩:=v0d hr bY hrw bQ hfr hre hp;exact(k x bH hq).after h1 h2
     |panicked chain=>exact hre.elim
     |outgrown=>exact hre.elim
  ·cases h
 ·cases h
def has:List (Nat×AObj)->Nat->Bool
 |[],_=>false
 |p::r,k=>Nat.beq k p.1 || has r k
end
end Esp
namespace Esp
open Go
variable [Tabs]
def qBin(N:Nat)(ops:Array Oper)(i:Nat)(st:ASt):Option (Tmp×BinOp×Value×Value):=
 match opK ops st.fr i with
 |some ⟨some d,.binOp op t x y _,_,_,_,_⟩=>match scV (ev st.fr x),scV (ev st.fr y)with
  |some u,some v=>bif Nat.blt d N then some (d,op,u,v)else none
  |_,_=>none
 |_=>none
section
variable{P:Program}{N:Nat}{ops:Array Oper}{Q:Exit->ASt->Prop}{st st' :ASt}{l:List Nat}
theorem IEff.qbin {i d:Nat}{op:BinOp}{u v r:Value}(h:qBin N ops i st=some (d,op,u,v))
  (hr:∀(t:TypeId) (x y:Operand) w,(do eqGuard op t x y u v;binOp op t u v:Sem Value).run P w=.ok r w)(h1:r.oneCell' =true):IEff P N ops i st (.put d (.cell (.d (.sc r)))):=by
 unfold qBin at h;split at h
 ·rename_i d' jv t' x' y' yt ty pos after guard ho
  split at h
  ·rename_i u' v' hu hv
   cases hb:Nat.blt d' N with
   |false=>rw[hb]at h;cases h
   |true=>
    rw[hb]at h;cases h;refine .of_opK ho ⟨rfl,λF ρ a w hr' =>?_⟩;have e1:=(a0i (a0d hr' x') hu).1;have e2:=(a0i (a0d hr' y') hv).1;refine⟨r,w,F,ρ,.inl ?_,hr'.put d (a0e hb) (.cell _ _ (.d _ _ (.sc r h1))),Fr.refl F ρ w,.none λ_ _=>rfl⟩;have:=hr t' x' y' w;simp only[execOp,e1,e2];simp only[Sem.run_bind]at this⊢;rw[this];rfl
  ·cases h
 ·cases h
theorem IEff.qshr {i d:Nat}{k k2:IntKind}{x y:Int}(h:qBin N ops i st=some (d,.shr,.int k x,.int k2 y))(h0:0<=y):
  IEff P N ops i st (.put d (.cell (.d (.sc (.int k (bshr k x y)))))):=by
 refine .qbin h (λt p q w=>?_) rfl;have lk:¬y<0:=by omega
 simp[eqGuard,binOp,Op.shift,lk,bshr]
theorem IEff.qshl {i d:Nat}{k k2:IntKind}{x y:Int}(h:qBin N ops i st=some (d,.shl,.int k x,.int k2 y))(h0:0<=y):
  IEff P N ops i st (.put d (.cell (.d (.sc (.int k (bshl k x y)))))):=by
 refine .qbin h (λt p q w=>?_) rfl;have lk:¬y<0:=by omega
 simp[eqGuard,binOp,Op.shift,lk,bshl]
theorem IEff.qquo {i d:Nat}{k:IntKind}{x y:Int}(h:qBin N ops i st=some (d,.quo,.int k x,.int k y))(h0:y≠0):
  IEff P N ops i st (.put d (.cell (.d (.sc (.int k (bquo k x y)))))):=by
 refine .qbin h (λt p q w=>?_) rfl;simp[eqGuard,binOp,Op.intDiv,h0,bquo]
theorem IEff.qrem {i d:Nat}{k:IntKind}{x y:Int}(h:qBin N ops i st=some (d,.rem,.int k x,.int k y))(h0:y≠0):
  IEff P N ops i st (.put d (.cell (.d (.sc (.int k (brem k x y)))))):=by
 refine .qbin h (λt p q w=>?_) rfl;simp[eqGuard,binOp,Op.intDiv,h0,brem]
theorem IEff.qcat {i d:Nat}{a b r:Bt}(h:qBin N ops i st=some (d,.add,.string a,.string b))(h0:a.size+b.size<=9223372036854775807)(hr:a++b=r):
  IEff P N ops i st (.put d (.cell (.d (.sc (.string r))))):=by
 subst hr;refine .qbin h (λt p q w=>?_) rfl;have:=run_string_add_sum (P:=P) w a b h0;simp[eqGuard,binOp,this]
end
end Esp
namespace Esp
open Go Go.ChangeShapes Go.RowKit
variable [Tabs]
def inW(w:World)(b:Nat):Prop:=b<w.heap.size
def Held(w:World)(vs:List Value)(ds:List D):Prop:=vs.length=ds.length/\∀i (h:i<ds.length),RelD w (inW w) ds[i] (vs.getD i undef)
mutual
def k0y{H:Type}:DataW H->Nat
 |.lit (.string bytes)=>bytes.length+1
 |.lit _=>1
 |.nil=>1
 |.ptr d=>k0y d+1
 |.slice elems spare=>k0u elems+k0u spare+1
 |.agg parts=>k0u parts+1
 |.iface _ d=>k0y d+1
 |.map entries=>e2g entries+1
 |.held _=>1
def k0u{H:Type}:List (DataW H)->Nat
 |[]=>0
 |d::r=>k0y d+k0u r
def e2g{H:Type}:List (Lit×DataW H)->Nat
 |[]=>0
 |x::r=>q2h x+e2g r
def q2h{H:Type}:Lit×DataW H->Nat
 |(.string bytes,d)=>bytes.length+k0y d+1
 |(_,d)=>k0y d+1
end
def Rd(P:Program)(t:TypeId){α:Type}(enc:α->List D)(J:α->Prop)(bk:α->Nat)(fuel:Nat):Prop:=
 ∀{H:Type} (e:TypeId×Value->H) (w:World) (vs:List Value) (d:DataW H) (ps:List MemPlace),DataW.trod e P w 0 (λ_=>true) true fuel t vs=some (d,ps)-> ∃x,J x/\Held w vs (enc x)/\bk x<=k0y d
def wfI(k:IntKind)(n:Int):Prop:=(Lit.int k n).wf=true
variable{P:Program}{t:TypeId}{α β:Type}
omit [Tabs]in
theorem m0w{w:World}{v:Value}{x:D}(h:RelD w (inW w) x v):Held w [v] [x]:=⟨rfl,λi hi=>by
 obtain rfl:i=0:=by simp at hi;omega
 exact h⟩
omit [Tabs]in
theorem Rd.int {k:IntKind}(ht:P.underlying t=some (.int k))(fuel:Nat):Rd P t (λn:Int=>[.sc (.int k n)]) (wfI k) (λ_=>1) fuel:=by
 intro H e w vs d ps h;obtain⟨n,rfl,hx,hw⟩:=DataW.trod_int ht h;cases hx;exact⟨n,hw,m0w (.sc _ rfl),by simp[k0y]⟩
omit [Tabs]in
theorem Rd.bool (ht:P.underlying t=some .bool)(fuel:Nat):Rd P t (λb:Bool=>[.sc (.bool b)]) (λ_=>True) (λ_=>1) fuel:=by
 intro H e w vs d ps h;obtain⟨n,rfl,hx⟩:=DataW.trod_bool ht h;cases hx;exact⟨n,trivial,m0w (.sc _ rfl),by simp[k0y]⟩
omit [Tabs]in
theorem Rd.string (ht:P.underlying t=some .string)(fuel:Nat):Rd P t (λs:Bt=>[.sc (.string s)]) (λs=>s.size<=maxLen) (λs=>s.size+1) fuel:=by
 intro H e w vs d ps h;obtain⟨s,rfl,hx,hs⟩:=DataW.trod_string ht h;cases hx;refine⟨s,hs,m0w (.sc _ rfl),?_⟩;simp only[k0y,s2d];exact r2f _
def t0m(f:α->Nat):List α->Nat
 |[]=>0
 |x::r=>f x+t0m f r
omit [Tabs]in
theorem k0z{H:Type}(d:DataW H)(r:List (DataW H)):k0u (d::r)=k0y d+k0u r:=by simp[k0u]
omit [Tabs]in
theorem u0s{enc:α->List D}{J:α->Prop}{bk:α->Nat}{n e z:Nat}(hz:P.cellsOf e=z)(hp:0<z)(he:∀x,(enc x).length=z)(hr:Rd P e enc J bk n){H:Type}(en:TypeId×Value->H)(w:World)(a:Addr):
  ∀(elems:List (DataW H×List MemPlace)) (k:Nat),(∀i,i<elems.length->(w.cells? 0 (a.add ((k+i)*z)) z).bind (DataW.trod en P w 0 (λ_=>true) true n e)=elems[i]?)->
   ∃l:List α,l.length=elems.length/\(∀x∈l,J x)/\t0m bk l<=k0u (elems.map (·.1))/\
    ∀i (h:i<(l.flatMap enc).length),∃v,w.cell? (a.add (k*z+i))=some v/\RelD w (inW w) (l.flatMap enc)[i] v
 |[],k,_=>⟨[],rfl,by simp,by simp[t0m],by simp⟩
 |x::r,k,h=>by
  obtain⟨l,h1,h2,h3,h4⟩:=u0s hz hp he hr en w a r (k+1) (λi hi=>by
   have:=h (i+1) (by simpa using hi);rw[show k+(i+1)=k+1+i by omega]at this;simpa using this)
  have h0:=h 0 (by simp);simp only[t2u,t2e,r2b]at h0;obtain⟨cs,bE,hx⟩:=h0;obtain⟨y,hJ,hh,hb⟩:=hr en w cs x.1 x.2 hx;obtain⟨_,bU,gA⟩:=World.cells?_some bE;refine⟨y::l,by simp[h1],by simpa using⟨hJ,h2⟩,by simp only[t0m,r2k,k0z];omega,λi hi=>?_⟩;have nM:=he y;have e1:((y::l).flatMap enc)=enc y++l.flatMap enc:=by simp
  by_cases hiz:i<z
  ·have hi2:i<(enc y).length:=by omega
   have e2:((y::l).flatMap enc)[i]=(enc y)[i]:=by
    simp only[e1];rw[s2r hi2]
   rw[e2];refine⟨cs.getD i undef,?_,hh.2 i hi2⟩;have:=gA i (by omega);have e3:(a.add (k*z)).add i=a.add (k*z+i):=by
    unfold Addr.add;by_cases h5:k*z=0
    ·simp[h5]
    ·by_cases h6:i=0
     ·simp[h6]
     ·simp[h5,h6,t2y]
   rw[e3]at this;rw[this,r2d,q2y (by omega)];rfl
  ·have nX:i - z<(l.flatMap enc).length:=by rw[e1,r2j]at hi;omega
   obtain⟨v,hv,mu⟩:=h4 (i - z) nX;have e2:((y::l).flatMap enc)[i]=(l.flatMap enc)[i - z]:=by
    simp only[e1];rw[List.getElem_append_right (by omega)];congr 1;omega
   rw[e2];refine⟨v,?_,mu⟩;rw [<-hv];congr 2;rw[Nat.succ_mul];omega
omit [Tabs]in
theorem Rd.slice {enc:α->List D}{J:α->Prop}{bk:α->Nat}{e z fuel:Nat}(ht:P.underlying t=some (.slice e))(hz:P.cellsOf e=z)(hp:0<z)(he:∀x,(enc x).length=z)(hr:∀n,n<fuel->Rd P e enc J bk n):
  Rd P t (λl:List α=>[.sl z l.length (l.flatMap enc)]) (λl=>l.length<=maxLen/\∀x∈l,J x) (λl=>t0m bk l+1) fuel:=by
 intro H en w vs d ps h;rcases DataW.trod_slice ht h with⟨rfl,hx⟩| ⟨a,len,cap,elems,rest,n,rfl,rfl,hx,_,kY,dJ,hel,iq,_⟩
 ·cases hx
  exact⟨[],⟨by simp,by simp⟩,m0w (.nil _ _ _),by simp[t0m,k0y]⟩
 ·cases hx
  rw[hz]at iq;obtain⟨l,h1,h2,h3,h4⟩:=u0s hz hp he (hr n (by omega)) en w a elems 0 (λi hi=>by rw[s2j];exact iq i (by omega));refine⟨l,⟨by omega,h2⟩,m0w ?_,by simp only[k0y];omega⟩;have hlen:(l.flatMap enc).length=l.length*z:=by
   clear h4 h2 h3 h1
   induction l with
   |nil=>simp
   |cons x r ih=>simp[he,ih,Nat.succ_mul];omega
  by_cases h0:l.length=0
  ·have hl:l=[]:=r2q h0
   subst hl;have:len=0:=by simp at h1;omega
   subst this;exact .nil _ _ _
  ·have gp:0<(l.flatMap enc).length:=by rw[hlen];exact Nat.mul_pos (by omega) hp
   obtain⟨v0,dQ,_⟩:=h4 0 gp;have ea:a.add (0*z+0)=a:=by simp[Addr.add]
   rw[ea]at dQ;obtain⟨b,off,spot⟩:=a;have jx:spot=none/\b<w.heap.size:=by
    unfold World.cell? at dQ;split at dQ
    ·rename_i c _ _ hb
     refine⟨?_,(r2h.1 hb).1⟩;cases spot with
     |none=>rfl
     |some _=>simp at dQ
    ·cases dQ
   obtain⟨rfl,cH⟩:=jx;have jT:∀i,(⟨b,off,none⟩:Addr).add (0*z+i)=⟨b,off+i,none⟩:=by
    intro i;unfold Addr.add;by_cases h6:i=0
    ·simp[h6]
    ·simp[h6]
   have iv:l.length=len:=by omega
   rw[iv]at hlen⊢;refine .sl z len _ b off cap (λi=>(w.cell? ⟨b,off+i,none⟩).getD undef) cH hlen kY (λi hi=>?_) (λi hi=>?_)
   ·obtain⟨v,hv,_⟩:=h4 i hi
    rw[jT]at hv;rw[hv];rfl
   ·obtain⟨v,hv,mu⟩:=h4 i hi
    rw[jT]at hv;simp only[hv];exact mu
def RdS(P:Program)(fs:List (TypeId×Nat))(off tot:Nat)(enc:α->List D)(J:α->Prop)(bk:α->Nat)(fuel:Nat):Prop:=
 ∀{H:Type} (e:TypeId×Value->H) (w:World) (cs:List Value) (xs:List (DataW H×List MemPlace)),cs.length=off+tot->xs.length=fs.length->
  (∀(i:Nat) (f:TypeId×Nat),fs[i]?=some f->DataW.trod e P w 0 (λ_=>true) true fuel f.1 ((cs.drop f.2).take (P.cellsOf f.1))=xs[i]?)->
  ∃x,J x/\Held w (cs.drop off) (enc x)/\bk x<=k0u (xs.map (·.1))
omit [Tabs]in
theorem Rd.struct {enc:α->List D}{J:α->Prop}{bk:α->Nat}{fs:Array Field}{l:List (TypeId×Nat)}{tot fuel:Nat}(ht:P.underlying t=some (.struct fs))(hf:fs.toList.map (λf=>(f.type,f.offset))=l)(hz:P.cellsOf t=tot)
  (hr:∀n,n<fuel->RdS P l 0 tot enc J bk n):Rd P t enc J (λx=>bk x+1) fuel:=by
 intro H e w vs d ps h;obtain⟨xs,n,rfl,hx,hl,kO,hg⟩:=DataW.trod_struct ht h;cases hx;subst hf;obtain⟨x,h1,h2,h3⟩:=hr n (by omega) e w vs xs (by omega) (by simp[kO]) (λi f hi=>by
  rw[s2p]at hi;cases e2:fs.toList[i]? with
  |none=>rw[e2]at hi;cases hi
  |some g=>
   rw[e2]at hi;cases hi;exact hg i g (by simpa using e2))
 exact⟨x,h1,by simpa using h2,by simp only[k0y];omega⟩
omit [Tabs]in
theorem e1j{w:World}{vs us:List Value}{ds es:List D}(h:Held w vs ds)(k:Held w us es):Held w (vs++us) (ds++es):=by
 refine⟨by simp[h.1,k.1],λi hi=>?_⟩;by_cases h1:i<ds.length
 ·rw[s2r h1,r2d,s2l (by rw[h.1];exact h1), <-r2d]
  exact h.2 i h1
 ·rw[List.getElem_append_right (by omega),r2d,s2q (by rw[h.1];omega), <-r2d,h.1]
  exact k.2 _ _
omit [Tabs]in
theorem RdS.nil {off fuel:Nat}:RdS P [] off 0 (λ_:Unit=>[]) (λ_=>True) (λ_=>0) fuel:=by
 intro H e w cs xs h1 h2 _;exact⟨(),trivial,⟨by simp;omega,λi hi=>by simp at hi⟩,by simp⟩
omit [Tabs]in
theorem RdS.cons {enc1:α->List D}{J1:α->Prop}{bk1:α->Nat}{enc2:β->List D}{J2:β->Prop}{bk2:β->Nat}{ft:TypeId}{fs:List (TypeId×Nat)}{off off2 z tot tot2 fuel:Nat}(hz:P.cellsOf ft=z)
  (ho:off2=off+z)(l4:tot=z+tot2)(h1:Rd P ft enc1 J1 bk1 fuel)(h2:RdS P fs off2 tot2 enc2 J2 bk2 fuel):
  RdS P ((ft,off)::fs) off tot (λx:α×β=>enc1 x.1++enc2 x.2) (λx=>J1 x.1/\J2 x.2) (λx=>bk1 x.1+bk2 x.2) fuel:=by
 subst ho;subst l4;intro H e w cs xs hl hx hg;cases xs with
 |nil=>simp at hx
 |cons x xs=>
  have g0:=hg 0 (ft,off) (by simp);simp only[t2e,hz]at g0;obtain⟨y1,j1,k1,b1⟩:=h1 e w _ x.1 x.2 g0;obtain⟨y2,j2,k2,b2⟩:=h2 e w cs xs (by omega) (by simpa using hx) (λi f hi=>by
   have:=hg (i+1) f (by simpa using hi);simpa using this)
  refine⟨(y1,y2),⟨j1,j2⟩,?_,by simp only[r2k,k0z];omega⟩;have e1:cs.drop off=(cs.drop off).take z++cs.drop (off+z):=by
   rw [<-List.drop_drop,t2q]
  rw[e1];exact e1j k1 k2
omit [Tabs]in
theorem Rd.map {enc:α->List D}{J:α->Prop}{bk:α->Nat}{fuel:Nat}(h:Rd P t enc J bk fuel)(g:α->β){enc' :β->List D}{J' :β->Prop}{bk' :β->Nat}(he:∀x,enc x=enc' (g x))(hJ:∀x,J x->J' (g x))(hb:∀x,bk' (g x)<=bk x):
  Rd P t enc' J' bk' fuel:=by
 intro H e w vs d ps hh;obtain⟨x,h1,h2,h3⟩:=h e w vs d ps hh;exact⟨g x,hJ x h1,he x▸h2,t2f (hb x) h3⟩
def isAgg(P:Program)(t:TypeId):Bool:=match P.underlying t with|some (.struct _)| some (.array _ _)=>true|_=>false
def RdArgs(P:Program)(ts:List TypeId)(args:α->List AV)(J:α->Prop)(bk:α->Nat):Prop:=
 ∀{H:Type} (e:TypeId×Value->H) (w:World) (base:Nat) (vs:List Value) (ds:List (DataW H)) (ps:List MemPlace),(∀(j:Nat) t v,ts[j]?=some t->vs[j]?=some v->Value.okWide P w .any base t v)->
  DataW.TrodAll e P w 0 (λ_=>true) true ts vs ds ps->∃x,J x/\bk x<=k0u ds/\vs.length=(args x).length/\∀i (h:i<(args x).length),RelAV w (inW w) (λ_=>none) #[] (args x)[i] (vs.getD i undef)
omit [Tabs]in
theorem k0r{H:Type}{e:TypeId×Value->H}{w:World}:∀{ts:List TypeId} {vs:List Value} {ds:List (DataW H)} {ps:List MemPlace},DataW.TrodAll e P w 0 (λ_=>true) true ts vs ds ps->ds.length=ts.length
 |[],_,_,_,h=>by
  obtain⟨rfl,rfl,rfl⟩:=trodAll_nil h;rfl
 |t::ts,_,_,_,h=>by
  obtain⟨v,vs,d,ds,p,q,rfl,rfl,rfl,h1,h2⟩:=trodAll_cons h;simp[k0r h2]
omit [Tabs]in
theorem RdArgs.nil:RdArgs P [] (λ_:Unit=>[]) (λ_=>True) (λ_=>0):=by
 intro H e w base vs ds ps _ h;obtain⟨rfl,rfl,rfl⟩:=trodAll_nil h;exact⟨(),trivial,by simp,rfl,λi hi=>by simp at hi⟩
omit [Tabs]in
theorem RdArgs.step {args:β->List AV}{J2:β->Prop}{bk2:β->Nat}{ts:List TypeId}(enc:α->AV){J:α->Prop}{bk:α->Nat}
  (hr:∀{H:Type} (e:TypeId×Value->H) (w:World) (base:Nat) (v:Value) (d:DataW H) (ps:List MemPlace),Value.okWide P w .any base t v->DataW.Trod e P w 0 (λ_=>true) true t v d ps->∃x,J x/\bk x<=k0y d/\RelAV w (inW w) (λ_=>none) #[] (enc x) v)
  (h2:RdArgs P ts args J2 bk2):RdArgs P (t::ts) (λx:α×β=>enc x.1::args x.2) (λx=>J x.1/\J2 x.2) (λx=>bk x.1+bk2 x.2):=by
 intro H e w base vs ds ps hv h;obtain⟨v,vs,d,ds,p,q,rfl,rfl,rfl,h3,h4⟩:=trodAll_cons h;obtain⟨x,j1,b1,r1⟩:=hr e w base v d p (hv 0 t v rfl rfl) h3;obtain⟨y,j2,b2,l2,r2⟩:=h2 e w base vs ds q (λj t' v' h5 h6=>hv (j+1) t' v' (by simpa using h5) (by simpa using h6)) h4;refine⟨(x,y),⟨j1,j2⟩,by rw[k0z];exact Nat.add_le_add b1 b2,by simp[l2],λi hi=>?_⟩;cases i with
 |zero=>simpa using r1
 |succ i=>simpa using r2 i (by simpa using hi)
omit [Tabs]in
theorem RdArgs.agg {enc:α->List D}{J:α->Prop}{bk:α->Nat}(hs:isAgg P t=true)(hr:∀n,Rd P t enc J bk n){H:Type}(e:TypeId×Value->H)(w:World)(base:Nat)(v:Value)(d:DataW H)(ps:List MemPlace)
  (hv:Value.okWide P w .any base t v)(h:DataW.Trod e P w 0 (λ_=>true) true t v d ps):∃x,J x/\bk x<=k0y d/\RelAV w (inW w) (λ_=>none) #[] (.aggD (enc x)) v:=by
 obtain⟨fuel,hf⟩:=h;obtain⟨x,h1,h2,h3⟩:=hr fuel e w _ d ps hf;have i7:∃cs,v=.agg cs:=by
  unfold Value.okWide at hv;unfold isAgg at hs;split at hv
  ·obtain⟨cs,rfl,_⟩:=hv;exact⟨cs,rfl⟩
  ·obtain⟨cs,rfl,_⟩:=hv;exact⟨cs,rfl⟩
  ·rename_i ha hb
   split at hs
   ·rename_i hu;exact absurd hu (ha _)
   ·rename_i hu;exact absurd hu (hb _ _)
   ·cases hs
 obtain⟨cs,rfl⟩:=i7;refine⟨x,h1,h3,.aggD _ _ (by simpa[Value.cells]using h2.1) λi hi=>?_⟩;have:=h2.2 i hi;simp only[Value.cells]at this;rw[r2d]at this;rw[q2x, <-s2u];exact this
omit [Tabs]in
theorem m1v{args:List AV}{vs:Array Value}{W:World}(hlen:vs.toList.length=args.length)(hrel:∀i (h:i<args.length),RelAV W (inW W) (λ_=>none) #[] args[i] (vs.toList.getD i undef)):
  RelArgs W (λb=>b<W.heap.size) (λ_=>none) args vs:=⟨by simpa using hlen,λi hi=>by
 have:=hrel i hi;rw[r2d]at this;rw[q2x, <-s2u];exact this⟩
omit [Tabs]in
theorem a2u{f:α->D}(l:List α):l.flatMap (λx=>[f x])=l.map f:=by
 induction l with
 |nil=>rfl
 |cons x r ih=>rw[s2b,ih];rfl
end Esp
namespace Esp
open Go
variable [Tabs]
inductive DLe:D->D->Prop
 |refl (x:D):DLe x x
 |nil (e:Nat):DLe (.sc (.slice none 0 0)) (.sl e 0 [])
inductive DsLe:List D->List D->Prop
 |refl (l:List D):DsLe l l
 |cons {x y:D} {l m:List D} (h:DLe x y) (k:DsLe l m):DsLe (x::l) (y::m)
inductive AVle:AV->AV->Prop
 |refl (x:AV):AVle x x
 |cell {x y:D} (h:DLe x y):AVle (.cell (.d x)) (.cell (.d y))
 |agg {l m:List D} (h:DsLe l m):AVle (.aggD l) (.aggD m)
inductive AVsLe:List AV->List AV->Prop
 |refl (l:List AV):AVsLe l l
 |cons {x y:AV} {l m:List AV} (h:AVle x y) (k:AVsLe l m):AVsLe (x::l) (y::m)
inductive TLe:AV->AV->Prop
 |one {x y:AV} (h:AVle x y):TLe x y
 |tup {l m:List AV} (h:AVsLe l m):TLe (.tup l) (.tup m)
section
variable{w:World}{F:Nat->Prop}{ρ:Env}{tm:Array Value}
end
section
variable{P:Program}{N:Nat}{ops:Array Oper}{Q:Exit->ASt->Prop}{st st' :ASt}{l:List Nat}
end
end Esp
namespace Esp
open Go Go.RowKit
variable [Tabs]
section
variable{P:Program}
end
end Esp

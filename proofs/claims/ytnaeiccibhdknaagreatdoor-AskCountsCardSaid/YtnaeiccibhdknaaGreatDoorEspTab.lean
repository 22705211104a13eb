import Derived.Test.YtnaeiccibhdknaaGreatDoorEspQ
import Derived.Carry
import Derived.ProofKit
import Derived.OpenShut
import Derived.Laws.Concat
import Derived.ChangeArms
import Derived.DataReads
set_option linter.unusedSimpArgs false
set_option linter.unusedVariables false
namespace Esp
open Go
variable [Tabs]
end Esp
namespace Esp
open Go Go.ChangeShapes Go.RowKit
variable [Tabs]
omit [Tabs]in
theorem y0p{H:Type}{enc:TypeId×Value->H}{P:Program}{f:Func}{s:ChangeSpec}{apart fresh handsOn again:Bool}{W W' :World}{args:Array Value}{v:Value}{ds gs:List (DataW H)}{before pa pv:List MemPlace}
  (hW:DataW.Whole enc P f.params.toList s.vars apart W args.toList ds gs before)
  (hres:∀(b:Nat) (sp:Nat->Bool) (hd:Bool),DataW.TrodAll enc P W' b sp hd f.resultTypes.toList (v.resultList f.resultTypes.size) (s.fn H (ds++gs)).results [])
  (hargs:∀sp:Nat->Bool,(∀p∈before,sp p.block=true)->DataW.TrodAll enc P W' 0 sp true f.params.toList args.toList (s.fn H (ds++gs)).args pa)
  (gO:∀sp:Nat->Bool,(∀p∈before,sp p.block=true)->DataW.TrodVars enc P W' sp s.vars (s.fn H (ds++gs)).vars pv)
  (kO:before=pa++pv)(hb:Below W.heap.size W W')
  (bY:∀(j:Nat) (t:TypeId) (r:Value),f.resultTypes[j]?=some t->(v.resultList f.resultTypes.size)[j]?=some r->Value.okWide P W' .any 0 t r):
  s.post enc P f apart fresh handsOn again W args v W' :=by
 have hold:∀p∈before,(λb=>decide (b<W.heap.size)) p.block=true:=λp hp=>by simpa using hW.lt p hp
 have aJ:=hW.lt;refine⟨ds,gs,before,[],pa,pv,hW,hres _ _ _,hargs _ hold,gO _ hold,World.keptBut_mono (λp hp=>⟨hp,?_⟩) (hb.frame (· ∈before)),λ_=>?_⟩
 ·rw[kO,s2j]at hp
  exact Or.inr hp
 ·obtain⟨_,_,_,_,_,hz,hn⟩:=hW
  refine⟨bY,_,_,([]++pa)++pv,⟨[]++pa,pv,trodAll_append (hargs _ (λ_ _=>rfl)) (hres _ _ _),gO _ (λ_ _=>rfl),rfl,?_,?_⟩,?_⟩
  ·intro b off hp
   have hm:MemPlace.cell b off∈before:=by rw[kO];simpa using hp
   rw[hb.frozen (aJ _ hm)];exact hz b off hm
  ·intro ha
   have:=hn ha;rw[kO]at this;simpa using this
  ·intro p hp _
   rw[kO];simpa using hp
omit [Tabs]in
theorem l0l{H:Type}{enc:TypeId×Value->H}{P:Program}(hl:laidOutB P=true){W W' :World}(hb:Below W.heap.size W W'):
  ∀{ts:List TypeId} {vs:List Value} {ds:List (DataW H)} {ps:List MemPlace},(∀t∈ts,P.readableRec t=true/\t<P.types.size)->
   DataW.TrodAll enc P W 0 (λ_=>true) true ts vs ds ps->(∀x∈ps,x.block<W.heap.size)-> ∀sp:Nat->Bool,(∀x∈ps,sp x.block=true)->DataW.TrodAll enc P W' 0 sp true ts vs ds ps
 |[],_,_,_,_,h,_,_,_=>by
  obtain⟨rfl,rfl,rfl⟩:=trodAll_nil h;rfl
 |t::ts,_,_,_,ht,h,aJ,sp,jk=>by
  obtain⟨v,vs,d,ds,p,q,rfl,rfl,rfl,h1,h2⟩:=trodAll_cons h;refine⟨p,q,?_,l0l hl hb (λt h=>ht t (by simp[h])) h2 (λx hx=>aJ x (by simp[hx])) sp (λx hx=>jk x (by simp[hx])),rfl⟩;have h3:=ht t (by simp);exact Go.WideElems.Trod_stays hl h3.1 h3.2 h1 (λx hx=>hb.same (aJ x (by simp[hx]))) (λx hx=>jk x (by simp[hx]))
omit [Tabs]in
theorem a2s{H:Type}{enc:TypeId×Value->H}{P:Program}{f:Func}{s:ChangeSpec}{apart fresh handsOn again:Bool}{W W' :World}{args:Array Value}{ds gs:List (DataW H)}{before:List MemPlace}{tb:TypeId}
  (hW:DataW.Whole enc P f.params.toList s.vars apart W args.toList ds gs before)(hb:Below W.heap.size W W')(hv:s.vars=[])
  (cJ:(s.fn H ds)={results:=[.lit (.bool true)],args:=ds})(ht:f.resultTypes=#[tb])(hu:P.underlying tb=some .bool)
  (hl:laidOutB P=true)(hr:(f.params.toList.all λt=>P.readableRec t&&decide (t<P.types.size))=true):
  s.post enc P f apart fresh handsOn again W args (.bool true) W' :=by
 have hW' :=hW;obtain⟨p,q,hA,hV,rfl,pK,eO⟩:=hW;rw[hv]at hV;obtain⟨rfl,rfl⟩:=trodVars_none hV;have aJ:=hW'.lt;refine y0p (pa:=p) (pv:=[]) hW' (λb sp hd=>?_) (λsp jk=>?_) (λsp _=>?_) rfl hb ?_
 ·rw[ht,s2a,cJ]
  exact trodAll_cons_mk (shut_bool hu _) trodAll_mk0
 ·rw[s2a,cJ]
  refine l0l hl hb (λt h=>?_) hA (λx hx=>aJ x (by simp[hx])) sp (λx hx=>jk x (by simp[hx]));have:=s2b.1 hr t h;simpa using this
 ·rw[hv,s2a,cJ]
  rfl
 ·exact ok_one ht rfl (okWide_bool_mk hu _)
end Esp
namespace Esp
open Go
variable [Tabs]
mutual
def AC.ren (g:Nat->Option Nat):AC->AC
 |.d x=>.d x
 |.own k=>match g k with
  |some j=>.own j
  |none=>.junk
 |.ptr k off=>match g k with
  |some j=>.ptr j off
  |none=>.junk
 |.elt _ _ _ _=>.junk
 |.osl _ _ _ _=>.junk
 |.pn k=>match g k with
  |some j=>.pn j
  |none=>.junk
 |.ifo t k=>match g k with
  |some j=>.ifo t j
  |none=>.junk
 |.mpr k=>match g k with
  |some j=>.mpr j
  |none=>.junk
 |.row _ _=>.junk
 |.fn f fs cs=>.fn f (AC.renL g fs) (AC.renL g cs)
 |.junk=>.junk
def AC.renL (g:Nat->Option Nat):List AC->List AC
 |[]=>[]
 |c::r=>AC.ren g c::AC.renL g r
end
mutual
def AV.ren (g:Nat->Option Nat):AV->AV
 |.cell c=>.cell (c.ren g)
 |.agg cs=>.agg (AC.renL g cs)
 |.aggD cs=>.aggD cs
 |.tup vs=>.tup (AV.renL g vs)
 |.whn h w x=>.whn h w (AV.ren g x)
 |.junk=>.junk
def AV.renL (g:Nat->Option Nat):List AV->List AV
 |[]=>[]
 |v::r=>AV.ren g v::AV.renL g r
end
def AObj.ren (g:Nat->Option Nat):AObj->AObj
 |.box cs ty=>.box (AC.renL g cs) ty
 |o=>o
omit [Tabs]in
theorem AC.renL_eq (g:Nat->Option Nat)(l:List AC):AC.renL g l=l.map (AC.ren g):=by
 induction l with
 |nil=>rfl
 |cons v r ih=>simp[AC.renL,ih]
omit [Tabs]in
theorem AV.renL_eq (g:Nat->Option Nat)(l:List AV):AV.renL g l=l.map (AV.ren g):=by
 induction l with
 |nil=>rfl
 |cons v r ih=>simp[AV.renL,ih]
def y0v(g:Nat->Option Nat)(ρ ρ' :Env):Prop:=∀k j l,g k=some j->ρ' j=some l->ρ k=some l
section
variable{w w' :World}{F F' :Nat->Prop}{ρ ρ' :Env}{tm:Array Value}{g:Nat->Option Nat}
omit [Tabs]in
theorem RelAC.ren (hg:y0v g ρ ρ'){x:AC}{v:Value}(h:RelAC w F ρ x v):RelAC w F ρ' (x.ren g) v:=by
 induction h with
 |d x v h=>exact .d x v h
 |own k v h=>
  simp only[AC.ren];cases e:g k with
  |none=>exact .junk v
  |some j=>exact .own j v λu hu=>h u (hg k j _ e hu)
 |ptr k off v h=>
  simp only[AC.ren];cases e:g k with
  |none=>exact .junk v
  |some j=>exact .ptr j off v λb hb=>h b (hg k j _ e hb)
 |elt=>exact .junk _
 |osl=>exact .junk _
 |pn k v h=>
  simp only[AC.ren];cases e:g k with
  |none=>exact .junk v
  |some j=>exact .pn j v λb hb=>h b (hg k j _ e hb)
 |ifo t k v h=>
  simp only[AC.ren];cases e:g k with
  |none=>exact .junk v
  |some j=>exact .ifo t j v λb hb=>h b (hg k j _ e hb)
 |mpr k v h=>
  simp only[AC.ren];cases e:g k with
  |none=>exact .junk v
  |some j=>exact .mpr j v λl b hb=>h l b (hg k j _ e hb)
 |row k i v h=>
  simp only[AC.ren];exact .junk v
 |fn f fs cs vs us h1 h2 hf hc ih1 ih2=>
  simp only[AC.ren,AC.renL_eq];exact .fn f _ _ vs us (by simpa using h1) (by simpa using h2) (λi hi=>by simpa using ih1 i (by simpa using hi)) (λi hi=>by simpa using ih2 i (by simpa using hi))
 |junk v=>exact .junk v
omit [Tabs]in
theorem RelAV.ren (hg:y0v g ρ ρ'){x:AV}{v:Value}(h:RelAV w F ρ tm x v):RelAV w F ρ' tm (x.ren g) v:=by
 induction h with
 |cell c v h=>exact .cell _ v (h.ren hg)
 |agg cs arr hz h=>
  simp only[AV.ren,AC.renL_eq];exact .agg _ arr (by simpa using hz) λi hi=>by simpa using(h i (by simpa using hi)).ren hg
 |aggD cs arr hz h=>exact .aggD cs arr hz h
 |tup vs arr hz h ih=>
  simp only[AV.ren,AV.renL_eq];exact .tup _ arr (by simpa using hz) λi hi=>by simpa using ih i (by simpa using hi)
 |whn g' want x v h h' ih=>exact .whn g' want _ v ih h'
 |junk v=>exact .junk v
omit [Tabs]in
theorem RelOb.ren (hg:y0v g ρ ρ'){k j:Nat}(hk:ρ' j=ρ k){o:AObj}(h:RelOb w F ρ k o):RelOb w F ρ' j (o.ren g):=by
 induction h with
 |gone h=>exact .gone (hk.trans h)
 |na t ee xs h ih=>exact .na t ee xs ih
 |any o h ih=>exact .any _ ih
 |box cs oty b c t aQ aG hb hs h=>
  simp only[AObj.ren,AC.renL_eq];exact .box _ _ b c t aQ (hk.trans aG) hb (by simpa using hs) λi hi=>by simpa using(h i (by simpa using hi)).ren hg
 |arr t e n cs u xs aG ho hs h=>exact .arr t e n cs u xs (hk.trans aG) ho hs h
 |tab b o aG hF hb=>exact .tab b o (hk.trans aG) hF hb
 |it s pos b aG hb=>exact .it s pos b (hk.trans aG) hb
 |fz t xs u aG h=>exact .fz t xs u (hk.trans aG) h
 |mi kt vt l cur b mo si se la aG hb hm=>exact .mi kt vt l cur b mo si se la (hk.trans aG) hb hm
 |mp t kt vt l b es c aG hb hs h dn hd=>exact .mp t kt vt l b es c (hk.trans aG) hb hs h dn hd
 |mr tm te kt e l pd b es c pv us aG hb hM=>exact .mr tm te kt e l pd b es c pv us (hk.trans aG) hb hM
end
def fwd(m:List (Nat×Nat))(k:Nat):Option Nat:=
 match m with
 |[]=>none
 |(a,b)::r=>bif Nat.beq k a then some b else fwd r k
def bwd(m:List (Nat×Nat))(k:Nat):Option Nat:=
 match m with
 |[]=>none
 |(a,b)::r=>bif Nat.beq k b then some a else bwd r k
def once:List (Nat×Nat)->Bool
 |[]=>true
 |(a,b)::r=>r.all (λp=> !Nat.beq p.1 a&& !Nat.beq p.2 b)&&once r
omit [Tabs]in
theorem x0l:∀{m:List (Nat×Nat)} {a b:Nat},fwd m a=some b->(a,b)∈m
 |(x,y)::r,a,b,h=>by
  simp only[fwd]at h;cases hb:Nat.beq a x with
  |true=>rw[hb]at h;cases h;rw[r2h hb];simp
  |false=>rw[hb]at h;exact s2x _ (x0l h)
omit [Tabs]in
theorem k0s:∀{m:List (Nat×Nat)} {a b:Nat},bwd m b=some a->(a,b)∈m
 |(x,y)::r,a,b,h=>by
  simp only[bwd]at h;cases hb:Nat.beq b y with
  |true=>rw[hb]at h;cases h;rw[r2h hb];simp
  |false=>rw[hb]at h;exact s2x _ (k0s h)
omit [Tabs]in
theorem z0d:∀{m:List (Nat×Nat)} (_:once m=true) {a b b' :Nat},(a,b)∈m->(a,b')∈m->b=b'
 |(x,y)::r,h,a,b,b',h1,h2=>by
  simp only[once,r2i,s2b,s2v]at h;rcases r2s.1 h1 with e1|e1<;>rcases r2s.1 h2 with e2|e2
  ·cases e1;cases e2;rfl
  ·cases e1
   have:=(h.1 _ e2).1;simp at this
  ·cases e2
   have:=(h.1 _ e1).1;simp at this
  ·exact z0d h.2 e1 e2
omit [Tabs]in
theorem z0b:∀{m:List (Nat×Nat)} (_:once m=true) {a a' b:Nat},(a,b)∈m->(a',b)∈m->a=a'
 |(x,y)::r,h,a,a',b,h1,h2=>by
  simp only[once,r2i,s2b,s2v]at h;rcases r2s.1 h1 with e1|e1<;>rcases r2s.1 h2 with e2|e2
  ·cases e1;cases e2;rfl
  ·cases e1
   have:=(h.1 _ e2).2;simp at this
  ·cases e2
   have:=(h.1 _ e1).2;simp at this
  ·exact z0b h.2 e1 e2
omit [Tabs]in
theorem k1j:∀{m:List (Nat×Nat)} {a:Nat},fwd m a=none->∀b,(a,b) ∉m
 |(x,y)::r,a,h,b,hm=>by
  simp only[fwd]at h;cases hb:Nat.beq a x with
  |true=>rw[hb]at h;cases h
  |false=>
   rw[hb]at h;rcases r2s.1 hm with e|e
   ·cases e
    simp at hb
   ·exact k1j h b e
omit [Tabs]in
theorem v0u:∀{m:List (Nat×Nat)} {b:Nat},bwd m b=none->∀a,(a,b) ∉m
 |(x,y)::r,b,h,a,hm=>by
  simp only[bwd]at h;cases hb:Nat.beq b y with
  |true=>rw[hb]at h;cases h
  |false=>
   rw[hb]at h;rcases r2s.1 hm with e|e
   ·cases e
    simp at hb
   ·exact v0u h a e
omit [Tabs]in
theorem x0r{m:List (Nat×Nat)}(ho:once m=true){a b:Nat}(h:(a,b)∈m):fwd m a=some b:=by
 cases e:fwd m a with
 |none=>exact absurd h (k1j e b)
 |some b' =>rw[z0d ho (x0l e) h]
omit [Tabs]in
theorem y1j{m:List (Nat×Nat)}(ho:once m=true){a b:Nat}(h:(a,b)∈m):bwd m b=some a:=by
 cases e:bwd m b with
 |none=>exact absurd h (v0u e a)
 |some a' =>rw[z0b ho (k0s e) h]
structure NilArg where
 pos:Nat
 kk:Nat
 te:TypeId
 e:Nat
def a2p(m:List (Nat×Nat))(ns:List NilArg)(i:Nat)(x:AV):AV:=
 match ns.find? (λn=>Nat.beq n.pos i),x with
 |some n,.cell (.d (.sc (.slice none 0 0)))=>.cell (.own n.kk)
 |_,x=>x.ren (bwd m)
def f0r(m:List (Nat×Nat))(ns:List NilArg):Nat->List AV->List AV
 |_,[]=>[]
 |i,x::r=>a2p m ns i x::f0r m ns (i+1) r
def t0o(ob:List (Nat×AObj))(m:List (Nat×Nat))(ns:List NilArg):List (Nat×AObj):=
 m.map (λp=>(p.1,(lkO ob p.2).ren (bwd m)))++ns.map λn=>(n.kk,.arr n.te n.e 0 [])
def g0q:AObj->Bool
 |.box _ _=>false
 |.gone=>false
 |.tab _ _=>false
 |.it _ _=>false
 |.mi _ _ _ _=>false
 |.mp _ _ _ _ _=>false
 |_=>true
def goes(ob:List (Nat×AObj))(m nw:List (Nat×Nat)):List Nat:=(m.filter λp=>g0q (lkO ob p.2)&&Nat.blt p.1 2000000).map (·.2)++nw.map (·.2)
def stay(l:List Nat)(k:Nat):Option Nat:=bif memB k l then none else some k
def f0i(m nw:List (Nat×Nat))(d:Option Tmp)(x:AV)(bG:List (Nat×AObj))(st:ASt):ASt:=
 ASt.put {fr:=st.fr.map λp=>(p.1,p.2.ren (stay (goes st.ob m nw)))
          ob:=(m++nw).map (λp=>(p.2,(lkO bG p.1).ren (fwd (m++nw))))++st.ob.map λp=>(p.1,p.2.ren (stay (goes st.ob m nw)))} d (x.ren (fwd (m++nw)))
def k0k(N:Nat)(ob:List (Nat×AObj))(m nw:List (Nat×Nat))(ns:List NilArg)(d:Option Tmp):Bool:=
 once (m++nw)&&nw.all (λp=>Nat.blt p.2 1000000)&&m.all (λp=>Nat.ble 1000000 p.1&& (Nat.blt p.2 2000000 || Nat.ble 2000000 p.1))&&ns.all (λn=>(fwd m n.kk).isNone&& (fwd nw n.kk).isSome)&&
  (match d with|some d=>Nat.blt d N|none=>true)
omit [Tabs]in
theorem u1t(f:Nat->AObj)(r:List (Nat×AObj)):∀(m:List (Nat×Nat)) (k:Nat),lkO (m.map (λp=>(p.1,f p.2))++r) k=match fwd m k with|some j=>f j|none=>lkO r k
 |[],k=>rfl
 |(a,b)::m,k=>by
  simp only[r2z,List.cons_append,lkO,fwd];cases hb:Nat.beq k a with
  |true=>rfl
  |false=>simpa using u1t f r m k
omit [Tabs]in
theorem v1k(f:Nat->AObj)(r:List (Nat×AObj)):∀(m:List (Nat×Nat)) (k:Nat),lkO (m.map (λp=>(p.2,f p.1))++r) k=match bwd m k with|some j=>f j|none=>lkO r k
 |[],k=>rfl
 |(a,b)::m,k=>by
  simp only[r2z,List.cons_append,lkO,bwd];cases hb:Nat.beq k b with
  |true=>rfl
  |false=>simpa using v1k f r m k
omit [Tabs]in
theorem k1g:∀(ns:List NilArg) (k:Nat),lkO (ns.map λn=>(n.kk,.arr n.te n.e 0 [])) k=match ns.find? (λn=>Nat.beq k n.kk)with|some n=>.arr n.te n.e 0 []| none=>.gone
 |[],k=>rfl
 |n::r,k=>by
  simp only[r2z,lkO,List.find?_cons];cases hb:Nat.beq k n.kk with
  |true=>rfl
  |false=>simpa using k1g r k
omit [Tabs]in
theorem b0n(m:List (Nat×Nat))(ns:List NilArg):∀(l:List AV) (i:Nat),(f0r m ns i l).length=l.length
 |[],_=>rfl
 |x::r,i=>by simp[f0r,b0n m ns r (i+1)]
omit [Tabs]in
theorem k0a(m:List (Nat×Nat))(ns:List NilArg):∀(l:List AV) (i j:Nat) (h:j<l.length) (h' :j<(f0r m ns i l).length),(f0r m ns i l)[j]=a2p m ns (i+j) l[j]
 |[],_,j,h,_=>by simp at h
 |x::r,i,j,h,h' =>by
  cases j with
  |zero=>simp[f0r]
  |succ j=>
   simp only[f0r,List.getElem_cons_succ];rw[k0a m ns r (i+1) j (by simpa using h)];congr 1;omega
def e0y(ρ:Env)(m:List (Nat×Nat))(ns:List NilArg):Env:=λk=>
 match fwd m k with
 |some j=>ρ j
 |none=>match ns.find? (λn=>Nat.beq k n.kk)with
  |some _=>some (.arr (.slice none 0 0))
  |none=>none
def e0g(ρ ρ' :Env)(m2:List (Nat×Nat)):Env:=λk=>
 match bwd m2 k with
 |some j=>ρ' j
 |none=>ρ k
def d0z(P:Program)(ops:Array Oper)(i:Nat)(st:ASt):Option (Option Tmp×FuncId×List AV):=
 match opK ops st.fr i with
 |some ⟨d,.call c,_,_,_,_⟩=>match b0u st.fr c with
  |some (f,args)=>bif a0m P f then some (d,f,args)else none
  |none=>none
 |_=>none
section
variable{P:Program}{N:Nat}{ops:Array Oper}{Q:Exit->ASt->Prop}{st st' :ASt}{l:List Nat}
omit [Tabs]in
theorem z0c{m nw:List (Nat×Nat)}(h:once (m++nw)=true):once m=true:=by
 induction m with
 |nil=>rfl
 |cons p m ih=>
  simp only[List.cons_append,once,r2i,List.all_append]at h⊢;exact⟨h.1.1,ih h.2⟩
omit [Tabs]in
theorem e0i{ρ:Env}{m:List (Nat×Nat)}{ns:List NilArg}{k:Nat}{lo:Loc}{b:Nat}(h:e0y ρ m ns k=some lo)(hb:lo.has b):∃j,(k,j)∈m/\ρ j=some lo:=by
 unfold e0y at h;split at h
 ·rename_i j e
  exact⟨j,x0l e,h⟩
 ·split at h
  ·cases h
   cases hb
  ·cases h
theorem k0x{F:Nat->Prop}{ρ:Env}{a:Act}{w:World}(h:Rel N F ρ st a w){m:List (Nat×Nat)}{ns:List NilArg}(ho:once m=true):
  RelW F (e0y ρ m ns) w/\(∀k,(fwd m k=none\/ns.all (λn=>(fwd m n.kk).isNone)=true)->RelOb w F (e0y ρ m ns) k (lkO (t0o st.ob m ns) k))/\y0v (bwd m) ρ (e0y ρ m ns):=by
 have cC:y0v (bwd m) ρ (e0y ρ m ns):=by
  intro k j lo hb he;unfold e0y at he;rw[x0r ho (k0s hb)]at he;exact he
 refine⟨⟨?_,h.rw.lt,?_,h.rw.tab⟩,?_,cC⟩
 ·rintro b hb ⟨k,lo,hk,hl⟩
  obtain⟨j,_,hj⟩:=e0i hk hl;exact h.rw.dis b hb ⟨j,lo,hj,hl⟩
 ·intro k k' lo jG b hk aG hb hb'
  obtain⟨j,hm,hj⟩:=e0i hk hb;obtain⟨j',ni,bN⟩:=e0i aG hb';have:=h.rw.inj _ _ _ _ b hj bN hb hb';subst this;exact z0b ho hm ni
 ·intro k _
  unfold t0o;rw[u1t (λj=>(lkO st.ob j).ren (bwd m)),k1g];cases e:fwd m k with
  |some j=>
   exact(h.ob j).ren cC (by unfold e0y;rw[e])
  |none=>
   cases e2:ns.find? (λn=>Nat.beq k n.kk)with
   |some n=>
    exact .arr _ _ _ _ (.slice none 0 0) [] (by unfold e0y;rw[e];simp only[e2]) (World.ownsRow_nil w 0 n.te n.e) rfl λi hi=>by simp at hi
   |none=>exact .gone (by unfold e0y;rw[e];simp only[e2])
omit [Tabs]in
theorem o0n{F:Nat->Prop}{ρ:Env}{tm:Array Value}{w:World}{m:List (Nat×Nat)}{ns:List NilArg}(cC:y0v (bwd m) ρ (e0y ρ m ns))(dB:ns.all (λn=>(fwd m n.kk).isNone)=true)
  {i:Nat}{x:AV}{v:Value}(h:RelAV w F ρ tm x v):RelAV w F (e0y ρ m ns) tm (a2p m ns i x) v:=by
 unfold a2p;split
 ·rename_i n hf
  have hv:=(a0i h (u:=.slice none 0 0) rfl).1;subst hv;refine .cell _ _ (.own _ _ λu hu=>?_);have hn:=List.mem_of_find?_eq_some hf;have h1:=s2b.1 dB n hn;unfold e0y at hu;cases e:fwd m n.kk with
  |some j=>rw[e]at h1;cases h1
  |none=>
   rw[e]at hu;simp only at hu;split at hu
   ·cases hu;rfl
   ·cases hu
 ·exact h.ren cC
omit [Tabs]in
theorem k1q:∀{l:List Nat} {k:Nat},memB k l=false->k∉l
 |[],_,_=>by simp
 |j::r,k,h=>by
  simp only[memB,r2x]at h;intro hm;rcases r2s.1 hm with e|e
  ·subst e;simp at h
  ·exact k1q h.2 e
theorem v0g{F:Nat->Prop}{ρ:Env}{a:Act}{w:World}(h:Rel N F ρ st a w){m nw:List (Nat×Nat)}{ns:List NilArg}{d:Option Tmp}(bY:k0k N st.ob m nw ns d=true)
  {w' :World}{F' :Nat->Prop}{ρ' :Env}(hrw:RelW F' ρ' w'){bG:List (Nat×AObj)}(aH:∀k,RelOb w' F' ρ' k (lkO bG k))(hfr:Fr F (e0y ρ m ns) w F' ρ' w')
  {x:AV}{v:Value}(hx:RelAV w' F' ρ' #[] x v)(hp:x.plain=true):
  Rel N F' (e0g ρ ρ' (m++nw)) (f0i m nw d x bG st) (a.put d v) w' /\Fr F ρ w F' (e0g ρ ρ' (m++nw)) w' :=by
 simp only[k0k,r2i]at bY;obtain⟨⟨⟨⟨fW,pV⟩,hm⟩,dB⟩,hd⟩:=bY;have hU:=z0c fW;have bL:∀k lo b,ρ k=some lo->lo.has b->bwd (m++nw) k=none->¬live (e0y ρ m ns) b:=by
  rintro k lo b hk hb hn ⟨kk,jG,aV,hb'⟩;obtain⟨j,aX,hj⟩:=e0i aV hb';have:=h.rw.inj _ _ _ _ b hk hj hb hb';subst this;exact v0u hn kk (List.mem_append_left _ aX)
 have hFk:∀b,F b->w'.heap[b]?=w.heap[b]?:=λb hb=>hfr.keep b (h.rw.lt b hb) λ⟨kk,lo,aV,hl⟩=>by
  obtain⟨j,_,hj⟩:=e0i aV hl;exact h.rw.dis b hb ⟨j,lo,hj,hl⟩
 have il:y0v (stay (goes st.ob m nw)) ρ (e0g ρ ρ' (m++nw)):=by
  intro k j lo hs hl;unfold stay at hs;cases hI:memB k (goes st.ob m nw)with
  |true=>rw[hI]at hs;cases hs
  |false=>
   rw[hI]at hs;cases hs;have jW:=k1q hI;unfold e0g at hl;cases e:bwd (m++nw) k with
   |none=>rw[e]at hl;exact hl
   |some kk=>
    rw[e]at hl;simp only at hl;have aX:=k0s e;rcases s2j.1 aX with h1|h1
    ·have h2:=s2b.1 hm _ h1
     simp only[r2i]at h2;have a8:(g0q (lkO st.ob k)&&Nat.blt kk 2000000)=false:=by
      cases e3:(g0q (lkO st.ob k)&&Nat.blt kk 2000000)with
      |false=>rfl
      |true=>exact absurd (List.mem_append_left _ (s2c.2 ⟨(kk,k),t2s.2 ⟨h1,e3⟩,rfl⟩)) jW
     have dT:=r2u h2.1;have hst:=hfr.stab kk dT;have e4:e0y ρ m ns kk=ρ k:=by unfold e0y;rw[x0r hU h1]
     rw[e4,hl]at hst;cases e5:ρ k with
     |none=>rw[e5]at hst;simp[Stab]at hst
     |some l0=>
      rw[e5]at hst;cases l0 with
      |box b=>cases lo<;>simp_all[Stab]
      |arr u=>
       cases hb2:Nat.blt kk 2000000 with
       |false=>
        have iQ:2000000<=kk:=Nat.not_lt.1 λh=>by
         rw[show Nat.blt kk 2000000=true from r2y h]at hb2
         cases hb2
        cases lo with
        |box b=>simp[Stab]at hst
        |many b us=>simp[Stab]at hst
        |arr u' =>rw[show u' =u from hst iQ]
       |true=>
       rw[hb2,Bool.and_true]at a8;have ho:=h.ob k;generalize lkO st.ob k=o at ho a8;cases ho with
       |gone hg=>rw[hg]at e5;cases e5
       |na t ee xs hg=>simp[g0q]at a8
       |any=>simp[g0q]at a8
       |tab b o hg=>rw[hg]at e5;cases e5
       |it s pos b aG=>rw[aG]at e5;cases e5
       |fz=>simp[g0q]at a8
       |mi kt vt l cur b mo si se la aG=>rw[aG]at e5;cases e5
       |mp t kt vt l b es c aG=>rw[aG]at e5;cases e5
       |mr=>simp[g0q]at a8
       |box cs oty b c t aQ aG=>rw[aG]at e5;cases e5
       |arr=>simp[g0q]at a8
      |many b us=>
       cases hb2:Nat.blt kk 2000000 with
       |false=>
        have iQ:2000000<=kk:=Nat.not_lt.1 λh=>by
         rw[show Nat.blt kk 2000000=true from r2y h]at hb2
         cases hb2
        cases lo with
        |box b=>simp[Stab]at hst
        |arr u' =>simp[Stab]at hst
        |many b' us' =>obtain⟨rfl,rfl⟩:=hst iQ;rfl
       |true=>
       rw[hb2,Bool.and_true]at a8;have ho:=h.ob k;generalize lkO st.ob k=o at ho a8;cases ho with
       |gone hg=>rw[hg]at e5;cases e5
       |na t ee xs hg=>simp[g0q]at a8
       |any=>simp[g0q]at a8
       |tab b o hg=>rw[hg]at e5;cases e5
       |it s pos b aG=>rw[aG]at e5;cases e5
       |fz=>simp[g0q]at a8
       |mi kt vt l cur b mo si se la aG=>rw[aG]at e5;cases e5
       |mp t kt vt l b es c aG=>rw[aG]at e5;cases e5
       |mr=>simp[g0q]at a8
       |box cs oty b c t aQ aG=>rw[aG]at e5;cases e5
       |arr=>simp[g0q]at a8
    ·exact absurd (List.mem_append_right _ (s2c.2 ⟨(kk,k),h1,rfl⟩)) jW
 have jD:y0v (fwd (m++nw)) ρ' (e0g ρ ρ' (m++nw)):=by
  intro k j lo hf hl;unfold e0g at hl;rw[y1j fW (x0l hf)]at hl;exact hl
 have base:Rel N F' (e0g ρ ρ' (m++nw))
   {fr:=st.fr.map λp=>(p.1,p.2.ren (stay (goes st.ob m nw)))
    ob:=(m++nw).map (λp=>(p.2,(lkO bG p.1).ren (fwd (m++nw))))++st.ob.map λp=>(p.1,p.2.ren (stay (goes st.ob m nw)))} a w' :=by
  refine⟨⟨?_,hrw.lt,?_,hrw.tab⟩,λi=>?_,λk=>?_,h.sz,h.df⟩
  ·rintro b hb ⟨k,lo,hk,hl⟩
   unfold e0g at hk;cases e:bwd (m++nw) k with
   |some kk=>rw[e]at hk;exact hrw.dis b hb ⟨kk,lo,hk,hl⟩
   |none=>
    rw[e]at hk;simp only at hk;rcases hfr.old b ((h.ob k).lt hk hl) (.inl hb)with h1|h1
    ·exact h.rw.dis b h1 ⟨k,lo,hk,hl⟩
    ·exact bL k lo b hk hl e h1
  ·intro k k' lo jG b hk aG hb hb'
   unfold e0g at hk aG;cases e:bwd (m++nw) k with
   |some kk=>
    rw[e]at hk;simp only at hk;cases e' :bwd (m++nw) k' with
    |some jn=>
     rw[e']at aG;simp only at aG;have:=hrw.inj _ _ _ _ b hk aG hb hb';subst this;exact z0d fW (k0s e) (k0s e')
    |none=>
     rw[e']at aG;simp only at aG;rcases hfr.old b ((h.ob k').lt aG hb') (.inr ⟨kk,lo,hk,hb⟩)with h1|h1
     ·exact absurd ⟨k',jG,aG,hb'⟩ (h.rw.dis b h1)
     ·exact absurd h1 (bL k' jG b aG hb' e')
   |none=>
    rw[e]at hk;simp only at hk;cases e' :bwd (m++nw) k' with
    |some jn=>
     rw[e']at aG;simp only at aG;rcases hfr.old b ((h.ob k).lt hk hb) (.inr ⟨jn,jG,aG,hb'⟩)with h1|h1
     ·exact absurd ⟨k,lo,hk,hb⟩ (h.rw.dis b h1)
     ·exact absurd h1 (bL k lo b hk hb e)
    |none=>
     rw[e']at aG;simp only at aG;exact h.rw.inj _ _ _ _ b hk aG hb hb'
  ·rw[d0i (AV.ren (stay (goes st.ob m nw))) rfl]
   exact((h.fr i).mono hFk hfr.sub (λ_ _ h=>h)).ren il
  ·simp only
   rw[v1k (λj=>(lkO bG j).ren (fwd (m++nw))),e0b (AObj.ren (stay (goes st.ob m nw))) rfl];cases e:bwd (m++nw) k with
   |some kk=>exact(aH kk).ren jD (by unfold e0g;rw[e])
   |none=>
    have h1:RelOb w' F' ρ k (lkO st.ob k):=(h.ob k).through hFk hfr.sub λlo b hl hb=>hfr.keep b ((h.ob k).lt hl hb) (bL k lo b hl hb e);exact h1.ren il (by unfold e0g;rw[e])
 refine⟨?_,hfr.os,hfr.tape,hfr.output,hfr.size,hfr.sub,λb hb hl=>hfr.keep b hb ?_,?_,?_⟩
 ·cases d with
  |none=>exact base
  |some d=>exact base.put d (a0e hd) ((hx.retm hp).ren jD)
 ·rintro⟨kk,lo,hk,hb'⟩
  obtain⟨j,_,hj⟩:=e0i hk hb';exact hl ⟨j,lo,hj,hb'⟩
 ·intro b hb hh
  have key:F' b\/live ρ' b->F b\/live ρ b:=λh1=>(hfr.old b hb h1).imp id λ⟨kk,lo,hk,hl⟩=>by
   obtain⟨j,_,hj⟩:=e0i hk hl;exact⟨j,lo,hj,hl⟩
  rcases hh with h1|⟨k,lo,hk,hl⟩
  ·exact key (.inl h1)
  ·unfold e0g at hk
   cases e:bwd (m++nw) k with
   |some kk=>rw[e]at hk;exact key (.inr ⟨kk,lo,hk,hl⟩)
   |none=>rw[e]at hk;exact .inr ⟨k,lo,hk,hl⟩
 ·intro k hk
  unfold e0g;cases e:bwd (m++nw) k with
  |none=>exact Stab.refl _ _
  |some kk=>
   simp only;rcases s2j.1 (k0s e)with h1|h1
   ·have e4:e0y ρ m ns kk=ρ k:=by unfold e0y;rw[x0r hU h1]
    have h2:=s2b.1 hm _ h1;simp only[r2i,u2c]at h2;have:=hfr.stab kk (r2u h2.1);rw[e4]at this;cases hl:ρ' kk with
    |none=>cases ρ k<;>trivial
    |some l' =>
     rw[hl]at this;cases dU:ρ k with
     |none=>rw[dU]at this;simp[Stab]at this
     |some l=>
      rw[dU]at this;cases l with
      |box b=>cases l' with
       |box b' =>exact this
       |arr u' =>simp[Stab]at this
       |many b' us' =>simp[Stab]at this
      |many b us=>cases l' with
       |box b' =>simp[Stab]at this
       |arr u' =>simp[Stab]at this
       |many b' us' =>
        intro h3;refine this ?_;rcases h2.2 with h4|h4
        ·exact absurd (a0e h4) (by omega)
        ·exact r2u h4
      |arr u=>cases l' with
       |box b' =>simp[Stab]at this
       |many b' us' =>simp[Stab]at this
       |arr u' =>
        intro h3;refine this ?_;rcases h2.2 with h4|h4
        ·exact absurd (a0e h4) (by omega)
        ·exact r2u h4
   ·have:=s2b.1 pV _ h1
    have:=a0e this;simp only at this;omega
theorem AOps.ocall {i n r i' :Nat}{d:Option Tmp}{f:FuncId}{cargs pargs:List AV}{pob:List (Nat×AObj)}{R:AEnd->List (Nat×AObj)->Prop}(h:d0z P ops i st=some (d,f,cargs))
  (m nw:List (Nat×Nat))(ns:List NilArg)(bY:k0k N st.ob m nw ns d=true)(ha:f0r m ns 0 cargs=pargs)(aH:t0o st.ob m ns=pob)(b7:AV.plainL cargs=true)
  (spec:ACalls P f pargs pob R)(hR:∀e o,R e o->∃x,e=.ret x/\x.plain=true)(hn:n=r+1)(hi:i' =i+1)
  (k:∀x bG,R (.ret x) bG->AOps P N ops (List.range' i' r) (f0i m nw d x bG st) Q):AOps P N ops (List.range' i n) st Q:=by
 subst hn;subst hi;subst ha;subst aH;rw[t2j];unfold d0z at h;split at h
 ·rename_i d' c ty pos after guard ho
  split at h
  ·rename_i f' args' hc
   cases hb:a0m P f' with
   |false=>rw[hb]at h;cases h
   |true=>
    rw[hb]at h;cases h;intro F ρ a w hr;rw[wpOps_cons];obtain⟨e,hw⟩:=a0x hr ho;obtain⟨vs,hrun,aR,hrel⟩:=c0t hr hc hb ty;simp only[wpOp,e];rw[if_pos hw];left;have bD:(execOp a.eval ⟨d,.call c,ty,pos,after,guard⟩).run P w=.ok (.enter f vs) w:=hrun;simp only[Oper.wp,Oper.upon,bD];have hok' :=bY;simp only[k0k,r2i]at hok';have hU:=z0c hok'.1.1.1.1;have dB:ns.all (λn=>(fwd m n.kk).isNone)=true:=by
     rw[s2b];intro n hn;have:=s2b.1 hok'.1.2 n hn;simp only[r2i]at this;exact this.1
    obtain⟨e1,e2,cC⟩:=k0x hr (m:=m) (ns:=ns) hU;refine(spec F (e0y ρ m ns) vs w e1 (λk=>e2 k (.inr dB)) ⟨by rw[b0n];exact aR,λj hj=>?_⟩).mono λen w' ⟨F',ρ',rr,bG,hq,hre,hrw,bR,hfr⟩=>?_
    ·have bN:j<cargs.length:=by rw[b0n]at hj;exact hj
     rw[k0a _ _ _ _ _ bN hj];exact o0n cC dB ((hrel j bN).retm (AV.plainL_get b7 j bN))
    ·obtain⟨x,rfl,hp⟩:=hR _ _ hq
     cases en with
     |returned v=>
      obtain⟨h1,h2⟩:=v0g hr bY hrw bR hfr hre hp;exact(k x bG hq).after h1 h2
     |panicked chain=>exact hre.elim
     |outgrown=>exact hre.elim
  ·cases h
 ·cases h
def has:List (Nat×AObj)->Nat->Bool
 |[],_=>false
 |p::r,k=>Nat.beq k p.1 || has r k
end
end Esp
namespace Esp
open Go
variable [Tabs]
def qBin(N:Nat)(ops:Array Oper)(i:Nat)(st:ASt):Option (Tmp×BinOp×Value×Value):=
 match opK ops st.fr i with
 |some ⟨some d,.binOp op t x y _,_,_,_,_⟩=>match scV (ev st.fr x),scV (ev st.fr y)with
  |some u,some v=>bif Nat.blt d N then some (d,op,u,v)else none
  |_,_=>none
 |_=>none
section
variable{P:Program}{N:Nat}{ops:Array Oper}{Q:Exit->ASt->Prop}{st st' :ASt}{l:List Nat}
theorem IEff.qbin {i d:Nat}{op:BinOp}{u v r:Value}(h:qBin N ops i st=some (d,op,u,v))
  (hr:∀(t:TypeId) (x y:Operand) w,(do eqGuard op t x y u v;binOp op t u v:Sem Value).run P w=.ok r w)(h1:r.oneCell' =true):IEff P N ops i st (.put d (.cell (.d (.sc r)))):=by
 unfold qBin at h;split at h
 ·rename_i d' jq t' x' y' yt ty pos after guard ho
  split at h
  ·rename_i u' v' hu hv
   cases hb:Nat.blt d' N with
   |false=>rw[hb]at h;cases h
   |true=>
    rw[hb]at h;cases h;refine .of_opK ho ⟨rfl,λF ρ a w hr' =>?_⟩;have e1:=(a0i (a0d hr' x') hu).1;have e2:=(a0i (a0d hr' y') hv).1;refine⟨r,w,F,ρ,.inl ?_,hr'.put d (a0e hb) (.cell _ _ (.d _ _ (.sc r h1))),Fr.refl F ρ w,.none λ_ _=>rfl⟩;have:=hr t' x' y' w;simp only[execOp,e1,e2];simp only[Sem.run_bind]at this⊢;rw[this];rfl
  ·cases h
 ·cases h
theorem IEff.qshr {i d:Nat}{k k2:IntKind}{x y:Int}(h:qBin N ops i st=some (d,.shr,.int k x,.int k2 y))(h0:0<=y):
  IEff P N ops i st (.put d (.cell (.d (.sc (.int k (bshr k x y)))))):=by
 refine .qbin h (λt p q w=>?_) rfl;have lJ:¬y<0:=by omega
 simp[eqGuard,binOp,Op.shift,lJ,bshr]
theorem IEff.qshl {i d:Nat}{k k2:IntKind}{x y:Int}(h:qBin N ops i st=some (d,.shl,.int k x,.int k2 y))(h0:0<=y):
  IEff P N ops i st (.put d (.cell (.d (.sc (.int k (bshl k x y)))))):=by
 refine .qbin h (λt p q w=>?_) rfl;have lJ:¬y<0:=by omega
 simp[eqGuard,binOp,Op.shift,lJ,bshl]
theorem IEff.qquo {i d:Nat}{k:IntKind}{x y:Int}(h:qBin N ops i st=some (d,.quo,.int k x,.int k y))(h0:y≠0):
  IEff P N ops i st (.put d (.cell (.d (.sc (.int k (bquo k x y)))))):=by
 refine .qbin h (λt p q w=>?_) rfl;simp[eqGuard,binOp,Op.intDiv,h0,bquo]
theorem IEff.qrem {i d:Nat}{k:IntKind}{x y:Int}(h:qBin N ops i st=some (d,.rem,.int k x,.int k y))(h0:y≠0):
  IEff P N ops i st (.put d (.cell (.d (.sc (.int k (brem k x y)))))):=by
 refine .qbin h (λt p q w=>?_) rfl;simp[eqGuard,binOp,Op.intDiv,h0,brem]
theorem IEff.qcat {i d:Nat}{a b r:Bt}(h:qBin N ops i st=some (d,.add,.string a,.string b))(h0:a.size+b.size<=9223372036854775807)(hr:a++b=r):
  IEff P N ops i st (.put d (.cell (.d (.sc (.string r))))):=by
 subst hr;refine .qbin h (λt p q w=>?_) rfl;have:=run_string_add_sum (P:=P) w a b h0;simp[eqGuard,binOp,this]
end
end Esp
namespace Esp
open Go Go.ChangeShapes Go.RowKit
variable [Tabs]
def inW(w:World)(b:Nat):Prop:=b<w.heap.size
def Held(w:World)(vs:List Value)(ds:List D):Prop:=vs.length=ds.length/\∀i (h:i<ds.length),RelD w (inW w) ds[i] (vs.getD i undef)
mutual
def l0a{H:Type}:DataW H->Nat
 |.lit (.string bytes)=>bytes.length+1
 |.lit _=>1
 |.nil=>1
 |.ptr d=>l0a d+1
 |.slice elems spare=>k0l elems+k0l spare+1
 |.agg parts=>k0l parts+1
 |.iface _ d=>l0a d+1
 |.map entries=>d2q entries+1
 |.held _=>1
def k0l{H:Type}:List (DataW H)->Nat
 |[]=>0
 |d::r=>l0a d+k0l r
def d2q{H:Type}:List (Lit×DataW H)->Nat
 |[]=>0
 |x::r=>q2q x+d2q r
def q2q{H:Type}:Lit×DataW H->Nat
 |(.string bytes,d)=>bytes.length+l0a d+1
 |(_,d)=>l0a d+1
end
def Rd(P:Program)(t:TypeId){α:Type}(enc:α->List D)(J:α->Prop)(bk:α->Nat)(fuel:Nat):Prop:=
 ∀{H:Type} (e:TypeId×Value->H) (w:World) (vs:List Value) (d:DataW H) (ps:List MemPlace),DataW.trod e P w 0 (λ_=>true) true fuel t vs=some (d,ps)-> ∃x,J x/\Held w vs (enc x)/\bk x<=l0a d
def wfI(k:IntKind)(n:Int):Prop:=(Lit.int k n).wf=true
variable{P:Program}{t:TypeId}{α β:Type}
omit [Tabs]in
theorem l0t{w:World}{v:Value}{x:D}(h:RelD w (inW w) x v):Held w [v] [x]:=⟨rfl,λi hi=>by
 obtain rfl:i=0:=by simp at hi;omega
 exact h⟩
omit [Tabs]in
theorem Rd.int {k:IntKind}(ht:P.underlying t=some (.int k))(fuel:Nat):Rd P t (λn:Int=>[.sc (.int k n)]) (wfI k) (λ_=>1) fuel:=by
 intro H e w vs d ps h;obtain⟨n,rfl,hx,hw⟩:=DataW.trod_int ht h;cases hx;exact⟨n,hw,l0t (.sc _ rfl),by simp[l0a]⟩
omit [Tabs]in
theorem Rd.bool (ht:P.underlying t=some .bool)(fuel:Nat):Rd P t (λb:Bool=>[.sc (.bool b)]) (λ_=>True) (λ_=>1) fuel:=by
 intro H e w vs d ps h;obtain⟨n,rfl,hx⟩:=DataW.trod_bool ht h;cases hx;exact⟨n,trivial,l0t (.sc _ rfl),by simp[l0a]⟩
omit [Tabs]in
theorem Rd.string (ht:P.underlying t=some .string)(fuel:Nat):Rd P t (λs:Bt=>[.sc (.string s)]) (λs=>s.size<=maxLen) (λs=>s.size+1) fuel:=by
 intro H e w vs d ps h;obtain⟨s,rfl,hx,hs⟩:=DataW.trod_string ht h;cases hx;refine⟨s,hs,l0t (.sc _ rfl),?_⟩;simp only[l0a,s2p];exact r2q _
def t0e(f:α->Nat):List α->Nat
 |[]=>0
 |x::r=>f x+t0e f r
omit [Tabs]in
theorem l0b{H:Type}(d:DataW H)(r:List (DataW H)):k0l (d::r)=l0a d+k0l r:=by simp[k0l]
omit [Tabs]in
theorem v0c{enc:α->List D}{J:α->Prop}{bk:α->Nat}{n e z:Nat}(hz:P.cellsOf e=z)(hp:0<z)(he:∀x,(enc x).length=z)(hr:Rd P e enc J bk n){H:Type}(en:TypeId×Value->H)(w:World)(a:Addr):
  ∀(elems:List (DataW H×List MemPlace)) (k:Nat),(∀i,i<elems.length->(w.cells? 0 (a.add ((k+i)*z)) z).bind (DataW.trod en P w 0 (λ_=>true) true n e)=elems[i]?)->
   ∃l:List α,l.length=elems.length/\(∀x∈l,J x)/\t0e bk l<=k0l (elems.map (·.1))/\
    ∀i (h:i<(l.flatMap enc).length),∃v,w.cell? (a.add (k*z+i))=some v/\RelD w (inW w) (l.flatMap enc)[i] v
 |[],k,_=>⟨[],rfl,by simp,by simp[t0e],by simp⟩
 |x::r,k,h=>by
  obtain⟨l,h1,h2,h3,h4⟩:=v0c hz hp he hr en w a r (k+1) (λi hi=>by
   have:=h (i+1) (by simpa using hi);rw[show k+(i+1)=k+1+i by omega]at this;simpa using this)
  have h0:=h 0 (by simp);simp only[u2e,t2o,r2m]at h0;obtain⟨cs,bE,hx⟩:=h0;obtain⟨y,hJ,hh,hb⟩:=hr en w cs x.1 x.2 hx;obtain⟨_,bU,gj⟩:=World.cells?_some bE;refine⟨y::l,by simp[h1],by simpa using⟨hJ,h2⟩,by simp only[t0e,r2z,l0b];omega,λi hi=>?_⟩;have ou:=he y;have e1:((y::l).flatMap enc)=enc y++l.flatMap enc:=by simp
  by_cases hiz:i<z
  ·have hi2:i<(enc y).length:=by omega
   have e2:((y::l).flatMap enc)[i]=(enc y)[i]:=by
    simp only[e1];rw[t2e hi2]
   rw[e2];refine⟨cs.getD i undef,?_,hh.2 i hi2⟩;have:=gj i (by omega);have e3:(a.add (k*z)).add i=a.add (k*z+i):=by
    unfold Addr.add;by_cases h5:k*z=0
    ·simp[h5]
    ·by_cases h6:i=0
     ·simp[h6]
     ·simp[h5,h6,u2h]
   rw[e3]at this;rw[this,r2o,r2k (by omega)];rfl
  ·have nB:i - z<(l.flatMap enc).length:=by rw[e1,r2t]at hi;omega
   obtain⟨v,hv,nu⟩:=h4 (i - z) nB;have e2:((y::l).flatMap enc)[i]=(l.flatMap enc)[i - z]:=by
    simp only[e1];rw[List.getElem_append_right (by omega)];congr 1;omega
   rw[e2];refine⟨v,?_,nu⟩;rw [<-hv];congr 2;rw[Nat.succ_mul];omega
omit [Tabs]in
theorem Rd.slice {enc:α->List D}{J:α->Prop}{bk:α->Nat}{e z fuel:Nat}(ht:P.underlying t=some (.slice e))(hz:P.cellsOf e=z)(hp:0<z)(he:∀x,(enc x).length=z)(hr:∀n,n<fuel->Rd P e enc J bk n):
  Rd P t (λl:List α=>[.sl z l.length (l.flatMap enc)]) (λl=>l.length<=maxLen/\∀x∈l,J x) (λl=>t0e bk l+1) fuel:=by
 intro H en w vs d ps h;rcases DataW.trod_slice ht h with⟨rfl,hx⟩| ⟨a,len,cap,elems,rest,n,rfl,rfl,hx,_,kJ,dX,hel,gV,_⟩
 ·cases hx
  exact⟨[],⟨by simp,by simp⟩,l0t (.nil _ _ _),by simp[t0e,l0a]⟩
 ·cases hx
  rw[hz]at gV;obtain⟨l,h1,h2,h3,h4⟩:=v0c hz hp he (hr n (by omega)) en w a elems 0 (λi hi=>by rw[s2u];exact gV i (by omega));refine⟨l,⟨by omega,h2⟩,l0t ?_,by simp only[l0a];omega⟩;have hlen:(l.flatMap enc).length=l.length*z:=by
   clear h4 h2 h3 h1
   induction l with
   |nil=>simp
   |cons x r ih=>simp[he,ih,Nat.succ_mul];omega
  by_cases h0:l.length=0
  ·have hl:l=[]:=s2f h0
   subst hl;have:len=0:=by simp at h1;omega
   subst this;exact .nil _ _ _
  ·have gn:0<(l.flatMap enc).length:=by rw[hlen];exact Nat.mul_pos (by omega) hp
   obtain⟨v0,dP,_⟩:=h4 0 gn;have ea:a.add (0*z+0)=a:=by simp[Addr.add]
   rw[ea]at dP;obtain⟨b,off,spot⟩:=a;have jk:spot=none/\b<w.heap.size:=by
    unfold World.cell? at dP;split at dP
    ·rename_i c _ _ hb
     refine⟨?_,(r2r.1 hb).1⟩;cases spot with
     |none=>rfl
     |some _=>simp at dP
    ·cases dP
   obtain⟨rfl,cG⟩:=jk;have jT:∀i,(⟨b,off,none⟩:Addr).add (0*z+i)=⟨b,off+i,none⟩:=by
    intro i;unfold Addr.add;by_cases h6:i=0
    ·simp[h6]
    ·simp[h6]
   have iN:l.length=len:=by omega
   rw[iN]at hlen⊢;refine .sl z len _ b off cap (λi=>(w.cell? ⟨b,off+i,none⟩).getD undef) cG hlen kJ (λi hi=>?_) (λi hi=>?_)
   ·obtain⟨v,hv,_⟩:=h4 i hi
    rw[jT]at hv;rw[hv];rfl
   ·obtain⟨v,hv,nu⟩:=h4 i hi
    rw[jT]at hv;simp only[hv];exact nu
def RdS(P:Program)(fs:List (TypeId×Nat))(off tot:Nat)(enc:α->List D)(J:α->Prop)(bk:α->Nat)(fuel:Nat):Prop:=
 ∀{H:Type} (e:TypeId×Value->H) (w:World) (cs:List Value) (xs:List (DataW H×List MemPlace)),cs.length=off+tot->xs.length=fs.length->
  (∀(i:Nat) (f:TypeId×Nat),fs[i]?=some f->DataW.trod e P w 0 (λ_=>true) true fuel f.1 ((cs.drop f.2).take (P.cellsOf f.1))=xs[i]?)->
  ∃x,J x/\Held w (cs.drop off) (enc x)/\bk x<=k0l (xs.map (·.1))
omit [Tabs]in
theorem Rd.struct {enc:α->List D}{J:α->Prop}{bk:α->Nat}{fs:Array Field}{l:List (TypeId×Nat)}{tot fuel:Nat}(ht:P.underlying t=some (.struct fs))(hf:fs.toList.map (λf=>(f.type,f.offset))=l)(hz:P.cellsOf t=tot)
  (hr:∀n,n<fuel->RdS P l 0 tot enc J bk n):Rd P t enc J (λx=>bk x+1) fuel:=by
 intro H e w vs d ps h;obtain⟨xs,n,rfl,hx,hl,kQ,hg⟩:=DataW.trod_struct ht h;cases hx;subst hf;obtain⟨x,h1,h2,h3⟩:=hr n (by omega) e w vs xs (by omega) (by simp[kQ]) (λi f hi=>by
  rw[t2a]at hi;cases e2:fs.toList[i]? with
  |none=>rw[e2]at hi;cases hi
  |some g=>
   rw[e2]at hi;cases hi;exact hg i g (by simpa using e2))
 exact⟨x,h1,by simpa using h2,by simp only[l0a];omega⟩
omit [Tabs]in
theorem f1c{w:World}{vs us:List Value}{ds es:List D}(h:Held w vs ds)(k:Held w us es):Held w (vs++us) (ds++es):=by
 refine⟨by simp[h.1,k.1],λi hi=>?_⟩;by_cases h1:i<ds.length
 ·rw[t2e h1,r2o,s2w (by rw[h.1];exact h1), <-r2o]
  exact h.2 i h1
 ·rw[List.getElem_append_right (by omega),r2o,t2c (by rw[h.1];omega), <-r2o,h.1]
  exact k.2 _ _
omit [Tabs]in
theorem RdS.nil {off fuel:Nat}:RdS P [] off 0 (λ_:Unit=>[]) (λ_=>True) (λ_=>0) fuel:=by
 intro H e w cs xs h1 h2 _;exact⟨(),trivial,⟨by simp;omega,λi hi=>by simp at hi⟩,by simp⟩
omit [Tabs]in
theorem RdS.cons {enc1:α->List D}{J1:α->Prop}{bk1:α->Nat}{enc2:β->List D}{J2:β->Prop}{bk2:β->Nat}{ft:TypeId}{fs:List (TypeId×Nat)}{off off2 z tot tot2 fuel:Nat}(hz:P.cellsOf ft=z)
  (ho:off2=off+z)(lv:tot=z+tot2)(h1:Rd P ft enc1 J1 bk1 fuel)(h2:RdS P fs off2 tot2 enc2 J2 bk2 fuel):
  RdS P ((ft,off)::fs) off tot (λx:α×β=>enc1 x.1++enc2 x.2) (λx=>J1 x.1/\J2 x.2) (λx=>bk1 x.1+bk2 x.2) fuel:=by
 subst ho;subst lv;intro H e w cs xs hl hx hg;cases xs with
 |nil=>simp at hx
 |cons x xs=>
  have g0:=hg 0 (ft,off) (by simp);simp only[t2o,hz]at g0;obtain⟨y1,j1,k1,b1⟩:=h1 e w _ x.1 x.2 g0;obtain⟨y2,j2,k2,b2⟩:=h2 e w cs xs (by omega) (by simpa using hx) (λi f hi=>by
   have:=hg (i+1) f (by simpa using hi);simpa using this)
  refine⟨(y1,y2),⟨j1,j2⟩,?_,by simp only[r2z,l0b];omega⟩;have e1:cs.drop off=(cs.drop off).take z++cs.drop (off+z):=by
   rw [<-List.drop_drop,t2z]
  rw[e1];exact f1c k1 k2
omit [Tabs]in
theorem Rd.map {enc:α->List D}{J:α->Prop}{bk:α->Nat}{fuel:Nat}(h:Rd P t enc J bk fuel)(g:α->β){enc' :β->List D}{J' :β->Prop}{bk' :β->Nat}(he:∀x,enc x=enc' (g x))(hJ:∀x,J x->J' (g x))(hb:∀x,bk' (g x)<=bk x):
  Rd P t enc' J' bk' fuel:=by
 intro H e w vs d ps hh;obtain⟨x,h1,h2,h3⟩:=h e w vs d ps hh;exact⟨g x,hJ x h1,he x▸h2,t2p (hb x) h3⟩
def isAgg(P:Program)(t:TypeId):Bool:=match P.underlying t with|some (.struct _)| some (.array _ _)=>true|_=>false
def RdArgs(P:Program)(ts:List TypeId)(args:α->List AV)(J:α->Prop)(bk:α->Nat):Prop:=
 ∀{H:Type} (e:TypeId×Value->H) (w:World) (base:Nat) (vs:List Value) (ds:List (DataW H)) (ps:List MemPlace),(∀(j:Nat) t v,ts[j]?=some t->vs[j]?=some v->Value.okWide P w .any base t v)->
  DataW.TrodAll e P w 0 (λ_=>true) true ts vs ds ps->∃x,J x/\bk x<=k0l ds/\vs.length=(args x).length/\∀i (h:i<(args x).length),RelAV w (inW w) (λ_=>none) #[] (args x)[i] (vs.getD i undef)
omit [Tabs]in
theorem k0o{H:Type}{e:TypeId×Value->H}{w:World}:∀{ts:List TypeId} {vs:List Value} {ds:List (DataW H)} {ps:List MemPlace},DataW.TrodAll e P w 0 (λ_=>true) true ts vs ds ps->ds.length=ts.length
 |[],_,_,_,h=>by
  obtain⟨rfl,rfl,rfl⟩:=trodAll_nil h;rfl
 |t::ts,_,_,_,h=>by
  obtain⟨v,vs,d,ds,p,q,rfl,rfl,rfl,h1,h2⟩:=trodAll_cons h;simp[k0o h2]
omit [Tabs]in
theorem RdArgs.nil:RdArgs P [] (λ_:Unit=>[]) (λ_=>True) (λ_=>0):=by
 intro H e w base vs ds ps _ h;obtain⟨rfl,rfl,rfl⟩:=trodAll_nil h;exact⟨(),trivial,by simp,rfl,λi hi=>by simp at hi⟩
omit [Tabs]in
theorem RdArgs.step {args:β->List AV}{J2:β->Prop}{bk2:β->Nat}{ts:List TypeId}(enc:α->AV){J:α->Prop}{bk:α->Nat}
  (hr:∀{H:Type} (e:TypeId×Value->H) (w:World) (base:Nat) (v:Value) (d:DataW H) (ps:List MemPlace),Value.okWide P w .any base t v->DataW.Trod e P w 0 (λ_=>true) true t v d ps->∃x,J x/\bk x<=l0a d/\RelAV w (inW w) (λ_=>none) #[] (enc x) v)
  (h2:RdArgs P ts args J2 bk2):RdArgs P (t::ts) (λx:α×β=>enc x.1::args x.2) (λx=>J x.1/\J2 x.2) (λx=>bk x.1+bk2 x.2):=by
 intro H e w base vs ds ps hv h;obtain⟨v,vs,d,ds,p,q,rfl,rfl,rfl,h3,h4⟩:=trodAll_cons h;obtain⟨x,j1,b1,r1⟩:=hr e w base v d p (hv 0 t v rfl rfl) h3;obtain⟨y,j2,b2,l2,r2⟩:=h2 e w base vs ds q (λj t' v' h5 h6=>hv (j+1) t' v' (by simpa using h5) (by simpa using h6)) h4;refine⟨(x,y),⟨j1,j2⟩,by rw[l0b];exact Nat.add_le_add b1 b2,by simp[l2],λi hi=>?_⟩;cases i with
 |zero=>simpa using r1
 |succ i=>simpa using r2 i (by simpa using hi)
omit [Tabs]in
theorem RdArgs.agg {enc:α->List D}{J:α->Prop}{bk:α->Nat}(hs:isAgg P t=true)(hr:∀n,Rd P t enc J bk n){H:Type}(e:TypeId×Value->H)(w:World)(base:Nat)(v:Value)(d:DataW H)(ps:List MemPlace)
  (hv:Value.okWide P w .any base t v)(h:DataW.Trod e P w 0 (λ_=>true) true t v d ps):∃x,J x/\bk x<=l0a d/\RelAV w (inW w) (λ_=>none) #[] (.aggD (enc x)) v:=by
 obtain⟨fuel,hf⟩:=h;obtain⟨x,h1,h2,h3⟩:=hr fuel e w _ d ps hf;have iG:∃cs,v=.agg cs:=by
  unfold Value.okWide at hv;unfold isAgg at hs;split at hv
  ·obtain⟨cs,rfl,_⟩:=hv;exact⟨cs,rfl⟩
  ·obtain⟨cs,rfl,_⟩:=hv;exact⟨cs,rfl⟩
  ·rename_i ha hb
   split at hs
   ·rename_i hu;exact absurd hu (ha _)
   ·rename_i hu;exact absurd hu (hb _ _)
   ·cases hs
 obtain⟨cs,rfl⟩:=iG;refine⟨x,h1,h3,.aggD _ _ (by simpa[Value.cells]using h2.1) λi hi=>?_⟩;have:=h2.2 i hi;simp only[Value.cells]at this;rw[r2o]at this;rw[r2j, <-t2g];exact this
omit [Tabs]in
theorem n1t{args:List AV}{vs:Array Value}{W:World}(hlen:vs.toList.length=args.length)(hrel:∀i (h:i<args.length),RelAV W (inW W) (λ_=>none) #[] args[i] (vs.toList.getD i undef)):
  RelArgs W (λb=>b<W.heap.size) (λ_=>none) args vs:=⟨by simpa using hlen,λi hi=>by
 have:=hrel i hi;rw[r2o]at this;rw[r2j, <-t2g];exact this⟩
omit [Tabs]in
theorem c2i{f:α->D}(l:List α):l.flatMap (λx=>[f x])=l.map f:=by
 induction l with
 |nil=>rfl
 |cons x r ih=>rw[s2o,ih];rfl
end Esp
namespace Esp
open Go
variable [Tabs]
inductive DLe:D->D->Prop
 |refl (x:D):DLe x x
 |nil (e:Nat):DLe (.sc (.slice none 0 0)) (.sl e 0 [])
inductive DsLe:List D->List D->Prop
 |refl (l:List D):DsLe l l
 |cons {x y:D} {l m:List D} (h:DLe x y) (k:DsLe l m):DsLe (x::l) (y::m)
inductive AVle:AV->AV->Prop
 |refl (x:AV):AVle x x
 |cell {x y:D} (h:DLe x y):AVle (.cell (.d x)) (.cell (.d y))
 |agg {l m:List D} (h:DsLe l m):AVle (.aggD l) (.aggD m)
inductive AVsLe:List AV->List AV->Prop
 |refl (l:List AV):AVsLe l l
 |cons {x y:AV} {l m:List AV} (h:AVle x y) (k:AVsLe l m):AVsLe (x::l) (y::m)
inductive TLe:AV->AV->Prop
 |one {x y:AV} (h:AVle x y):TLe x y
 |tup {l m:List AV} (h:AVsLe l m):TLe (.tup l) (.tup m)
section
variable{w:World}{F:Nat->Prop}{ρ:Env}{tm:Array Value}
end
section
variable{P:Program}{N:Nat}{ops:Array Oper}{Q:Exit->ASt->Prop}{st st' :ASt}{l:List Nat}
end
end Esp
namespace Esp
open Go Go.RowKit
variable [Tabs]
section
variable{P:Program}
end
end Esp

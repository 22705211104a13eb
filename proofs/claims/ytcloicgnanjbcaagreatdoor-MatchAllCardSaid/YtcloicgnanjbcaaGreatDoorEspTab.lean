import Derived.Test.YtcloicgnanjbcaaGreatDoorEspQ
import Derived.Carry
import Derived.ProofKit
import Derived.OpenShut
import Derived.Laws.Concat
import Derived.ChangeArms
import Derived.DataReads
namespace Esp
open Go
set_option linter.unusedSimpArgs false
set_option linter.unusedVariables false
variable [Tabs]
def encI(l:List Int):List D:=l.map fun n=> .sc (.int .i64 n)
def encS(l:List ByteArray):List D:=l.map fun n=> .sc (.string n)
end Esp
namespace Esp
open Go Go.ChangeShapes Go.RowKit
set_option linter.unusedSimpArgs false
set_option linter.unusedVariables false
variable [Tabs]
omit [Tabs]in
theorem s0v{H:Type}{enc:TypeId×Value→H}{P:Program}{f:Func}{s:ChangeSpec}{apart fresh handsOn again:Bool}{W W' :World}{args:Array Value}{v:Value}{ds gs:List (DataW H)}{before pa pv:List MemPlace}
  (hW:DataW.Whole enc P f.params.toList s.vars apart W args.toList ds gs before)
  (hres: ∀(b:Nat) (sp:Nat→Bool) (hd:Bool),DataW.TrodAll enc P W' b sp hd f.resultTypes.toList (v.resultList f.resultTypes.size) (s.fn H (ds++gs)).results [])
  (hargs: ∀sp:Nat→Bool,(∀p∈before,sp p.block=true)→DataW.TrodAll enc P W' 0 sp true f.params.toList args.toList (s.fn H (ds++gs)).args pa)
  (hvars: ∀sp:Nat→Bool,(∀p∈before,sp p.block=true)→DataW.TrodVars enc P W' sp s.vars (s.fn H (ds++gs)).vars pv)
  (hps:before=pa++pv)(hb:Below W.heap.size W W')
  (hok: ∀(j:Nat) (t:TypeId) (r:Value),f.resultTypes[j]? =some t→(v.resultList f.resultTypes.size)[j]? =some r→Value.okWide P W' .any 0 t r):
  s.post enc P f apart fresh handsOn again W args v W' :=by
 have hold: ∀p∈before,(fun b=>decide (b<W.heap.size)) p.block=true:=fun p hp=>by simpa using hW.lt p hp
 have hlt:=hW.lt;refine⟨ds,gs,before, [],pa,pv,hW,hres _ _ _,hargs _ hold,hvars _ hold,World.keptBut_mono (fun p hp=>⟨hp, ?_⟩) (hb.frame (· ∈before)),fun _=> ?_⟩
 ·rw [hps,l2v]at hp
  exact Or.inr hp
 ·obtain⟨_,_,_,_,_,hz,hn⟩:=hW
  refine⟨hok,_,_,([]++pa)++pv,⟨[]++pa,pv,trodAll_append (hargs _ (fun _ _=>rfl)) (hres _ _ _),hvars _ (fun _ _=>rfl),rfl, ?_, ?_⟩, ?_⟩
  ·intro b off hp
   have hm:MemPlace.cell b off∈before:=by rw [hps];simpa using hp
   rw [hb.frozen (hlt _ hm)];exact hz b off hm
  ·intro ha
   have:=hn ha;rw [hps]at this;simpa using this
  ·intro p hp _
   rw [hps];simpa using hp
omit [Tabs]in
theorem j0f{H:Type}{enc:TypeId×Value→H}{P:Program}(hl:laidOutB P=true){W W' :World}(hb:Below W.heap.size W W'):
  ∀{ts:List TypeId} {vs:List Value} {ds:List (DataW H)} {ps:List MemPlace},(∀t∈ts,P.readableRec t=true∧t<P.types.size)→
   DataW.TrodAll enc P W 0 (fun _=>true) true ts vs ds ps→(∀x∈ps,x.block<W.heap.size)→ ∀sp:Nat→Bool,(∀x∈ps,sp x.block=true)→DataW.TrodAll enc P W' 0 sp true ts vs ds ps
 | [],_,_,_,_,h,_,_,_=>by
  obtain⟨rfl,rfl,rfl⟩:=trodAll_nil h;rfl
 | t::ts,_,_,_,ht,h,hlt,sp,hsp=>by
  obtain⟨v,vs,d,ds,p,q,rfl,rfl,rfl,h1,h2⟩:=trodAll_cons h;refine⟨p,q, ?_,j0f hl hb (fun t h=>ht t (by simp [h])) h2 (fun x hx=>hlt x (by simp [hx])) sp (fun x hx=>hsp x (by simp [hx])),rfl⟩;have h3:=ht t (by simp);exact Go.WideElems.Trod_stays hl h3.1 h3.2 h1 (fun x hx=>hb.same (hlt x (by simp [hx]))) (fun x hx=>hsp x (by simp [hx]))
omit [Tabs]in
theorem v1a{H:Type}{enc:TypeId×Value→H}{P:Program}{f:Func}{s:ChangeSpec}{apart fresh handsOn again:Bool}{W W' :World}{args:Array Value}{ds gs:List (DataW H)}{before:List MemPlace}{tb:TypeId}
  (hW:DataW.Whole enc P f.params.toList s.vars apart W args.toList ds gs before)(hb:Below W.heap.size W W')(hv:s.vars= [])
  (hfn:(s.fn H ds)={results:= [.lit (.bool true)],args:=ds})(ht:f.resultTypes= #[tb])(hu:P.underlying tb=some .bool)
  (hl:laidOutB P=true)(hr:(f.params.toList.all fun t=>P.readableRec t&&decide (t<P.types.size))=true):
  s.post enc P f apart fresh handsOn again W args (.bool true) W' :=by
 have hW' :=hW;obtain⟨p,q,hA,hV,rfl,hfz,hnd⟩:=hW;rw [hv]at hV;obtain⟨rfl,rfl⟩:=trodVars_none hV;have hlt:=hW'.lt;refine s0v (pa:=p) (pv:= []) hW' (fun b sp hd=> ?_) (fun sp hsp=> ?_) (fun sp _=> ?_) rfl hb ?_
 ·rw [ht,k2y,hfn]
  exact trodAll_cons_mk (shut_bool hu _) trodAll_mk0
 ·rw [k2y,hfn]
  refine j0f hl hb (fun t h=> ?_) hA (fun x hx=>hlt x (by simp [hx])) sp (fun x hx=>hsp x (by simp [hx]));have:=k2f.1 hr t h;simpa using this
 ·rw [hv,k2y,hfn]
  rfl
 ·exact ok_one ht rfl (okWide_bool_mk hu _)
end Esp
namespace Esp
open Go
set_option linter.unusedSimpArgs false
set_option linter.unusedVariables false
variable [Tabs]
mutual
def AC.ren(g:Nat→Option Nat):AC→AC
 | .d x=> .d x
 | .own k=>match g k with
  | some j=> .own j
  | none=> .junk
 | .ptr k off=>match g k with
  | some j=> .ptr j off
  | none=> .junk
 | .elt _ _ _ _=> .junk
 | .osl _ _ _ _=> .junk
 | .pn k=>match g k with
  | some j=> .pn j
  | none=> .junk
 | .ifo t k=>match g k with
  | some j=> .ifo t j
  | none=> .junk
 | .mpr k=>match g k with
  | some j=> .mpr j
  | none=> .junk
 | .fn f fs cs=> .fn f (AC.renL g fs) (AC.renL g cs)
 | .junk=> .junk
def AC.renL(g:Nat→Option Nat):List AC→List AC
 | []=> []
 | c::r=>AC.ren g c::AC.renL g r
end
mutual
def AV.ren(g:Nat→Option Nat):AV→AV
 | .cell c=> .cell (c.ren g)
 | .agg cs=> .agg (AC.renL g cs)
 | .aggD cs=> .aggD cs
 | .tup vs=> .tup (AV.renL g vs)
 | .whn h w x=> .whn h w (AV.ren g x)
 | .junk=> .junk
def AV.renL(g:Nat→Option Nat):List AV→List AV
 | []=> []
 | v::r=>AV.ren g v::AV.renL g r
end
def AObj.ren(g:Nat→Option Nat):AObj→AObj
 | .box cs ty=> .box (AC.renL g cs) ty
 | o=>o
omit [Tabs]in
theorem AC.renL_eq(g:Nat→Option Nat)(l:List AC):AC.renL g l=l.map (AC.ren g):=by
 induction l with
 | nil=>rfl
 | cons v r ih=>simp [AC.renL,ih]
omit [Tabs]in
theorem AV.renL_eq(g:Nat→Option Nat)(l:List AV):AV.renL g l=l.map (AV.ren g):=by
 induction l with
 | nil=>rfl
 | cons v r ih=>simp [AV.renL,ih]
def u0c(g:Nat→Option Nat)(ρ ρ' :Env):Prop:=∀k j l,g k=some j→ρ' j=some l→ρ k=some l
section
variable{w w' :World}{F F' :Nat→Prop}{ρ ρ' :Env}{tm:Array Value}{g:Nat→Option Nat}
omit [Tabs]in
theorem RelAC.ren(hg:u0c g ρ ρ'){x:AC}{v:Value}(h:RelAC w F ρ x v):RelAC w F ρ' (x.ren g) v:=by
 induction h with
 | d x v h=>exact .d x v h
 | own k v h=>
  simp only [AC.ren];cases e:g k with
  | none=>exact .junk v
  | some j=>exact .own j v fun u hu=>h u (hg k j _ e hu)
 | ptr k off v h=>
  simp only [AC.ren];cases e:g k with
  | none=>exact .junk v
  | some j=>exact .ptr j off v fun b hb=>h b (hg k j _ e hb)
 | elt=>exact .junk _
 | osl=>exact .junk _
 | pn k v h=>
  simp only [AC.ren];cases e:g k with
  | none=>exact .junk v
  | some j=>exact .pn j v fun b hb=>h b (hg k j _ e hb)
 | ifo t k v h=>
  simp only [AC.ren];cases e:g k with
  | none=>exact .junk v
  | some j=>exact .ifo t j v fun b hb=>h b (hg k j _ e hb)
 | mpr k v h=>
  simp only [AC.ren];cases e:g k with
  | none=>exact .junk v
  | some j=>exact .mpr j v fun b hb=>h b (hg k j _ e hb)
 | fn f fs cs vs us h1 h2 hf hc ih1 ih2=>
  simp only [AC.ren,AC.renL_eq];exact .fn f _ _ vs us (by simpa using h1) (by simpa using h2) (fun i hi=>by simpa using ih1 i (by simpa using hi)) (fun i hi=>by simpa using ih2 i (by simpa using hi))
 | junk v=>exact .junk v
omit [Tabs]in
theorem RelAV.ren(hg:u0c g ρ ρ'){x:AV}{v:Value}(h:RelAV w F ρ tm x v):RelAV w F ρ' tm (x.ren g) v:=by
 induction h with
 | cell c v h=>exact .cell _ v (h.ren hg)
 | agg cs arr hz h=>
  simp only [AV.ren,AC.renL_eq];exact .agg _ arr (by simpa using hz) fun i hi=>by simpa using(h i (by simpa using hi)).ren hg
 | aggD cs arr hz h=>exact .aggD cs arr hz h
 | tup vs arr hz h ih=>
  simp only [AV.ren,AV.renL_eq];exact .tup _ arr (by simpa using hz) fun i hi=>by simpa using ih i (by simpa using hi)
 | whn g' want x v h h' ih=>exact .whn g' want _ v ih h'
 | junk v=>exact .junk v
omit [Tabs]in
theorem RelOb.ren(hg:u0c g ρ ρ'){k j:Nat}(hk:ρ' j=ρ k){o:AObj}(h:RelOb w F ρ k o):RelOb w F ρ' j (o.ren g):=by
 induction h with
 | gone h=>exact .gone (hk.trans h)
 | na t ee xs h ih=>exact .na t ee xs ih
 | any o h ih=>exact .any _ ih
 | box cs oty b c t hoty hk' hb hs h=>
  simp only [AObj.ren,AC.renL_eq];exact .box _ _ b c t hoty (hk.trans hk') hb (by simpa using hs) fun i hi=>by simpa using(h i (by simpa using hi)).ren hg
 | arr t e n cs u xs hk' ho hs h=>exact .arr t e n cs u xs (hk.trans hk') ho hs h
 | tab b o hk' hF hb=>exact .tab b o (hk.trans hk') hF hb
 | it s pos b hk' hb=>exact .it s pos b (hk.trans hk') hb
 | mi kt vt l cur b mo si se la hk' hb hm=>exact .mi kt vt l cur b mo si se la (hk.trans hk') hb hm
 | mp t kt vt l b es c hk' hb hs h dn hd=>exact .mp t kt vt l b es c (hk.trans hk') hb hs h dn hd
end
def fwd(m:List (Nat×Nat))(k:Nat):Option Nat:=
 match m with
 | []=>none
 | (a,b)::r=>bif Nat.beq k a then some b else fwd r k
def bwd(m:List (Nat×Nat))(k:Nat):Option Nat:=
 match m with
 | []=>none
 | (a,b)::r=>bif Nat.beq k b then some a else bwd r k
def once:List (Nat×Nat)→Bool
 | []=>true
 | (a,b)::r=>r.all (fun p=> !Nat.beq p.1 a&& !Nat.beq p.2 b)&&once r
omit [Tabs]in
theorem s0s: ∀{m:List (Nat×Nat)} {a b:Nat},fwd m a=some b→(a,b)∈m
 | (x,y)::r,a,b,h=>by
  simp only [fwd]at h;cases hb:Nat.beq a x with
  | true=>rw [hb]at h;cases h;rw [j2t hb];simp
  | false=>rw [hb]at h;exact l2c _ (s0s h)
omit [Tabs]in
theorem i0x: ∀{m:List (Nat×Nat)} {a b:Nat},bwd m b=some a→(a,b)∈m
 | (x,y)::r,a,b,h=>by
  simp only [bwd]at h;cases hb:Nat.beq b y with
  | true=>rw [hb]at h;cases h;rw [j2t hb];simp
  | false=>rw [hb]at h;exact l2c _ (i0x h)
omit [Tabs]in
theorem s0r: ∀{m:List (Nat×Nat)} (_:once m=true) {a b b' :Nat},(a,b)∈m→(a,b')∈m→b=b'
 | (x,y)::r,h,a,b,b',h1,h2=>by
  simp only [once,j2s,k2f,l2l]at h;rcases k2b.1 h1 with e1 | e1<;>rcases k2b.1 h2 with e2 | e2
  ·cases e1;cases e2;rfl
  ·cases e1
   have:=(h.1 _ e2).1;simp at this
  ·cases e2
   have:=(h.1 _ e1).1;simp at this
  ·exact s0r h.2 e1 e2
omit [Tabs]in
theorem s0u: ∀{m:List (Nat×Nat)} (_:once m=true) {a a' b:Nat},(a,b)∈m→(a',b)∈m→a=a'
 | (x,y)::r,h,a,a',b,h1,h2=>by
  simp only [once,j2s,k2f,l2l]at h;rcases k2b.1 h1 with e1 | e1<;>rcases k2b.1 h2 with e2 | e2
  ·cases e1;cases e2;rfl
  ·cases e1
   have:=(h.1 _ e2).2;simp at this
  ·cases e2
   have:=(h.1 _ e1).2;simp at this
  ·exact s0u h.2 e1 e2
omit [Tabs]in
theorem f1t: ∀{m:List (Nat×Nat)} {a:Nat},fwd m a=none→∀b,(a,b) ∉m
 | (x,y)::r,a,h,b,hm=>by
  simp only [fwd]at h;cases hb:Nat.beq a x with
  | true=>rw [hb]at h;cases h
  | false=>
   rw [hb]at h;rcases k2b.1 hm with e | e
   ·cases e
    simp at hb
   ·exact f1t h b e
omit [Tabs]in
theorem t0q: ∀{m:List (Nat×Nat)} {b:Nat},bwd m b=none→∀a,(a,b) ∉m
 | (x,y)::r,b,h,a,hm=>by
  simp only [bwd]at h;cases hb:Nat.beq b y with
  | true=>rw [hb]at h;cases h
  | false=>
   rw [hb]at h;rcases k2b.1 hm with e | e
   ·cases e
    simp at hb
   ·exact t0q h a e
omit [Tabs]in
theorem s0i{m:List (Nat×Nat)}(ho:once m=true){a b:Nat}(h:(a,b)∈m):fwd m a=some b:=by
 cases e:fwd m a with
 | none=>exact absurd h (f1t e b)
 | some b' =>rw [s0r ho (s0s e) h]
omit [Tabs]in
theorem t1j{m:List (Nat×Nat)}(ho:once m=true){a b:Nat}(h:(a,b)∈m):bwd m b=some a:=by
 cases e:bwd m b with
 | none=>exact absurd h (t0q e a)
 | some a' =>rw [s0u ho (i0x e) h]
structure NilArg where
 pos:Nat
 kk:Nat
 te:TypeId
 e:Nat
def v1h(m:List (Nat×Nat))(ns:List NilArg)(i:Nat)(x:AV):AV:=
 match ns.find? (fun n=>Nat.beq n.pos i),x with
 | some n, .cell (.d (.sc (.slice none 0 0)))=> .cell (.own n.kk)
 | _,x=>x.ren (bwd m)
def e0a(m:List (Nat×Nat))(ns:List NilArg):Nat→List AV→List AV
 | _, []=> []
 | i,x::r=>v1h m ns i x::e0a m ns (i+1) r
def q0h(ob:List (Nat×AObj))(m:List (Nat×Nat))(ns:List NilArg):List (Nat×AObj):=
 m.map (fun p=>(p.1,(lkO ob p.2).ren (bwd m)))++ns.map fun n=>(n.kk, .arr n.te n.e 0 [])
def q0u:AObj→Bool
 | .box _ _=>false
 | .gone=>false
 | .tab _ _=>false
 | .it _ _=>false
 | .mi _ _ _ _=>false
 | .mp _ _ _ _ _=>false
 | _=>true
def goes(ob:List (Nat×AObj))(m nw:List (Nat×Nat)):List Nat:=(m.filter fun p=>q0u (lkO ob p.2)&&Nat.blt p.1 2000000).map (·.2)++nw.map (·.2)
def stay(l:List Nat)(k:Nat):Option Nat:=bif memB k l then none else some k
def d0t(m nw:List (Nat×Nat))(d:Option Tmp)(x:AV)(ob' :List (Nat×AObj))(st:ASt):ASt:=
 ASt.put {fr:=st.fr.map fun p=>(p.1,p.2.ren (stay (goes st.ob m nw)))
          ob:=(m++nw).map (fun p=>(p.2,(lkO ob' p.1).ren (fwd (m++nw))))++st.ob.map fun p=>(p.1,p.2.ren (stay (goes st.ob m nw)))} d (x.ren (fwd (m++nw)))
def i0i(N:Nat)(ob:List (Nat×AObj))(m nw:List (Nat×Nat))(ns:List NilArg)(d:Option Tmp):Bool:=
 once (m++nw)&&nw.all (fun p=>Nat.blt p.2 1000000)&&m.all (fun p=>Nat.ble 1000000 p.1&& (Nat.blt p.2 2000000 || Nat.ble 2000000 p.1))&&ns.all (fun n=>(fwd m n.kk).isNone&& (fwd nw n.kk).isSome)&&
  (match d with | some d=>Nat.blt d N | none=>true)
omit [Tabs]in
theorem k1z(f:Nat→AObj)(r:List (Nat×AObj)): ∀(m:List (Nat×Nat)) (k:Nat),lkO (m.map (fun p=>(p.1,f p.2))++r) k=match fwd m k with | some j=>f j | none=>lkO r k
 | [],k=>rfl
 | (a,b)::m,k=>by
  simp only [k2l,List.cons_append,lkO,fwd];cases hb:Nat.beq k a with
  | true=>rfl
  | false=>simpa using k1z f r m k
omit [Tabs]in
theorem r1s(f:Nat→AObj)(r:List (Nat×AObj)): ∀(m:List (Nat×Nat)) (k:Nat),lkO (m.map (fun p=>(p.2,f p.1))++r) k=match bwd m k with | some j=>f j | none=>lkO r k
 | [],k=>rfl
 | (a,b)::m,k=>by
  simp only [k2l,List.cons_append,lkO,bwd];cases hb:Nat.beq k b with
  | true=>rfl
  | false=>simpa using r1s f r m k
omit [Tabs]in
theorem e1g: ∀(ns:List NilArg) (k:Nat),lkO (ns.map fun n=>(n.kk, .arr n.te n.e 0 [])) k=match ns.find? (fun n=>Nat.beq k n.kk)with | some n=> .arr n.te n.e 0 [] | none=> .gone
 | [],k=>rfl
 | n::r,k=>by
  simp only [k2l,lkO,List.find?_cons];cases hb:Nat.beq k n.kk with
  | true=>rfl
  | false=>simpa using e1g r k
omit [Tabs]in
theorem b0j(m:List (Nat×Nat))(ns:List NilArg): ∀(l:List AV) (i:Nat),(e0a m ns i l).length=l.length
 | [],_=>rfl
 | x::r,i=>by simp [e0a,b0j m ns r (i+1)]
omit [Tabs]in
theorem h0t(m:List (Nat×Nat))(ns:List NilArg): ∀(l:List AV) (i j:Nat) (h:j<l.length) (h' :j< (e0a m ns i l).length),(e0a m ns i l)[j]=v1h m ns (i+j) l[j]
 | [],_,j,h,_=>by simp at h
 | x::r,i,j,h,h' =>by
  cases j with
  | zero=>simp [e0a]
  | succ j=>
   simp only [e0a,List.getElem_cons_succ];rw [h0t m ns r (i+1) j (by simpa using h)];congr 1;omega
def d0l(ρ:Env)(m:List (Nat×Nat))(ns:List NilArg):Env:=fun k=>
 match fwd m k with
 | some j=>ρ j
 | none=>match ns.find? (fun n=>Nat.beq k n.kk)with
  | some _=>some (.arr (.slice none 0 0))
  | none=>none
def c0z(ρ ρ' :Env)(m2:List (Nat×Nat)):Env:=fun k=>
 match bwd m2 k with
 | some j=>ρ' j
 | none=>ρ k
def c0q(P:Program)(ops:Array Oper)(i:Nat)(st:ASt):Option (Option Tmp×FuncId×List AV):=
 match opK ops st.fr i with
 | some ⟨d, .call c,_,_,_,_⟩=>match b0k st.fr c with
  | some (f,args)=>bif a0p P f then some (d,f,args)else none
  | none=>none
 | _=>none
section
variable{P:Program}{N:Nat}{ops:Array Oper}{Q:Exit→ASt→Prop}{st st' :ASt}{l:List Nat}
omit [Tabs]in
theorem t0w{m nw:List (Nat×Nat)}(h:once (m++nw)=true):once m=true:=by
 induction m with
 | nil=>rfl
 | cons p m ih=>
  simp only [List.cons_append,once,j2s,List.all_append]at h⊢;exact⟨h.1.1,ih h.2⟩
omit [Tabs]in
theorem c0s{ρ:Env}{m:List (Nat×Nat)}{ns:List NilArg}{k:Nat}{lo:Loc}{b:Nat}(h:d0l ρ m ns k=some lo)(hb:lo.blk=some b): ∃j,(k,j)∈m∧ρ j=some lo:=by
 unfold d0l at h;split at h
 ·rename_i j e
  exact⟨j,s0s e,h⟩
 ·split at h
  ·cases h
   cases hb
  ·cases h
theorem i0q{F:Nat→Prop}{ρ:Env}{a:Act}{w:World}(h:Rel N F ρ st a w){m:List (Nat×Nat)}{ns:List NilArg}(ho:once m=true):
  RelW F (d0l ρ m ns) w∧(∀k,(fwd m k=none∨ns.all (fun n=>(fwd m n.kk).isNone)=true)→RelOb w F (d0l ρ m ns) k (lkO (q0h st.ob m ns) k))∧u0c (bwd m) ρ (d0l ρ m ns):=by
 have hren:u0c (bwd m) ρ (d0l ρ m ns):=by
  intro k j lo hb he;unfold d0l at he;rw [s0i ho (i0x hb)]at he;exact he
 refine⟨⟨?_,h.rw.lt, ?_,h.rw.tab⟩, ?_,hren⟩
 ·rintro b hb ⟨k,lo,hk,hl⟩
  obtain⟨j,_,hj⟩:=c0s hk hl;exact h.rw.dis b hb ⟨j,lo,hj,hl⟩
 ·intro k k' lo lo' b hk hk' hb hb'
  obtain⟨j,hm,hj⟩:=c0s hk hb;obtain⟨j',hm',hj'⟩:=c0s hk' hb';have:=h.rw.inj _ _ _ _ b hj hj' hb hb';subst this;exact s0u ho hm hm'
 ·intro k _
  unfold q0h;rw [k1z (fun j=>(lkO st.ob j).ren (bwd m)),e1g];cases e:fwd m k with
  | some j=>
   exact(h.ob j).ren hren (by unfold d0l;rw [e])
  | none=>
   cases e2:ns.find? (fun n=>Nat.beq k n.kk)with
   | some n=>
    exact .arr _ _ _ _ (.slice none 0 0) [] (by unfold d0l;rw [e];simp only [e2]) (World.ownsRow_nil w 0 n.te n.e) rfl fun i hi=>by simp at hi
   | none=>exact .gone (by unfold d0l;rw [e];simp only [e2])
omit [Tabs]in
theorem m0c{F:Nat→Prop}{ρ:Env}{tm:Array Value}{w:World}{m:List (Nat×Nat)}{ns:List NilArg}(hren:u0c (bwd m) ρ (d0l ρ m ns))(hns:ns.all (fun n=>(fwd m n.kk).isNone)=true)
  {i:Nat}{x:AV}{v:Value}(h:RelAV w F ρ tm x v):RelAV w F (d0l ρ m ns) tm (v1h m ns i x) v:=by
 unfold v1h;split
 ·rename_i n hf
  have hv:=(a0n h (u:= .slice none 0 0) rfl).1;subst hv;refine .cell _ _ (.own _ _ fun u hu=> ?_);have hn:=List.mem_of_find?_eq_some hf;have h1:=k2f.1 hns n hn;unfold d0l at hu;cases e:fwd m n.kk with
  | some j=>rw [e]at h1;cases h1
  | none=>
   rw [e]at hu;simp only at hu;split at hu
   ·cases hu;rfl
   ·cases hu
 ·exact h.ren hren
omit [Tabs]in
theorem d1x: ∀{l:List Nat} {k:Nat},memB k l=false→k∉l
 | [],_,_=>by simp
 | j::r,k,h=>by
  simp only [memB,k2c]at h;intro hm;rcases k2b.1 hm with e | e
  ·subst e;simp at h
  ·exact d1x h.2 e
theorem q0r{F:Nat→Prop}{ρ:Env}{a:Act}{w:World}(h:Rel N F ρ st a w){m nw:List (Nat×Nat)}{ns:List NilArg}{d:Option Tmp}(hok:i0i N st.ob m nw ns d=true)
  {w' :World}{F' :Nat→Prop}{ρ' :Env}(hrw:RelW F' ρ' w'){ob' :List (Nat×AObj)}(hob: ∀k,RelOb w' F' ρ' k (lkO ob' k))(hfr:Fr F (d0l ρ m ns) w F' ρ' w')
  {x:AV}{v:Value}(hx:RelAV w' F' ρ' #[] x v)(hp:x.plain=true):
  Rel N F' (c0z ρ ρ' (m++nw)) (d0t m nw d x ob' st) (a.put d v) w' ∧Fr F ρ w F' (c0z ρ ρ' (m++nw)) w' :=by
 simp only [i0i,j2s]at hok;obtain⟨⟨⟨⟨hon,hnw⟩,hm⟩,hns⟩,hd⟩:=hok;have hom:=t0w hon;have hlive: ∀k lo b,ρ k=some lo→lo.blk=some b→bwd (m++nw) k=none→¬live (d0l ρ m ns) b:=by
  rintro k lo b hk hb hn ⟨kk,lo',hkk,hb'⟩;obtain⟨j,hmem,hj⟩:=c0s hkk hb';have:=h.rw.inj _ _ _ _ b hk hj hb hb';subst this;exact t0q hn kk (List.mem_append_left _ hmem)
 have hFk: ∀b,F b→w'.heap[b]? =w.heap[b]? :=fun b hb=>hfr.keep b (h.rw.lt b hb) fun⟨kk,lo,hkk,hl⟩=>by
  obtain⟨j,_,hj⟩:=c0s hkk hl;exact h.rw.dis b hb ⟨j,lo,hj,hl⟩
 have hstay:u0c (stay (goes st.ob m nw)) ρ (c0z ρ ρ' (m++nw)):=by
  intro k j lo hs hl;unfold stay at hs;cases hmb:memB k (goes st.ob m nw)with
  | true=>rw [hmb]at hs;cases hs
  | false=>
   rw [hmb]at hs;cases hs;have hnot:=d1x hmb;unfold c0z at hl;cases e:bwd (m++nw) k with
   | none=>rw [e]at hl;exact hl
   | some kk=>
    rw [e]at hl;simp only at hl;have hmem:=i0x e;rcases l2v.1 hmem with h1 | h1
    ·have h2:=k2f.1 hm _ h1
     simp only [j2s]at h2;have harr:(q0u (lkO st.ob k)&&Nat.blt kk 2000000)=false:=by
      cases e3:(q0u (lkO st.ob k)&&Nat.blt kk 2000000)with
      | false=>rfl
      | true=>exact absurd (List.mem_append_left _ (k2s.2 ⟨(kk,k),List.mem_filter.2 ⟨h1,e3⟩,rfl⟩)) hnot
     have hge:=k2d h2.1;have hst:=hfr.stab kk hge;have e4:d0l ρ m ns kk=ρ k:=by unfold d0l;rw [s0i hom h1]
     rw [e4,hl]at hst;cases e5:ρ k with
     | none=>rw [e5]at hst;simp [Stab]at hst
     | some l0=>
      rw [e5]at hst;cases l0 with
      | box b=>cases lo<;>simp_all [Stab]
      | arr u=>
       cases hb2:Nat.blt kk 2000000 with
       | false=>
        have hge2:2000000≤kk:=Nat.not_lt.1 fun h=>by
         rw [show Nat.blt kk 2000000=true from k2k h]at hb2
         cases hb2
        cases lo with
        | box b=>simp [Stab]at hst
        | arr u' =>rw [show u' =u from hst hge2]
       | true=>
       rw [hb2,m2m]at harr;have ho:=h.ob k;generalize lkO st.ob k=o at ho harr;cases ho with
       | gone hg=>rw [hg]at e5;cases e5
       | na t ee xs hg=>simp [q0u]at harr
       | any=>simp [q0u]at harr
       | tab b o hg=>rw [hg]at e5;cases e5
       | it s pos b hk' =>rw [hk']at e5;cases e5
       | mi kt vt l cur b mo si se la hk' =>rw [hk']at e5;cases e5
       | mp t kt vt l b es c hk' =>rw [hk']at e5;cases e5
       | box cs oty b c t hoty hk' =>rw [hk']at e5;cases e5
       | arr=>simp [q0u]at harr
    ·exact absurd (List.mem_append_right _ (k2s.2 ⟨(kk,k),h1,rfl⟩)) hnot
 have hfwd:u0c (fwd (m++nw)) ρ' (c0z ρ ρ' (m++nw)):=by
  intro k j lo hf hl;unfold c0z at hl;rw [t1j hon (s0s hf)]at hl;exact hl
 have base:Rel N F' (c0z ρ ρ' (m++nw))
   {fr:=st.fr.map fun p=>(p.1,p.2.ren (stay (goes st.ob m nw)))
    ob:=(m++nw).map (fun p=>(p.2,(lkO ob' p.1).ren (fwd (m++nw))))++st.ob.map fun p=>(p.1,p.2.ren (stay (goes st.ob m nw)))} a w' :=by
  refine⟨⟨?_,hrw.lt, ?_,hrw.tab⟩,fun i=> ?_,fun k=> ?_,h.sz,h.df⟩
  ·rintro b hb ⟨k,lo,hk,hl⟩
   unfold c0z at hk;cases e:bwd (m++nw) k with
   | some kk=>rw [e]at hk;exact hrw.dis b hb ⟨kk,lo,hk,hl⟩
   | none=>
    rw [e]at hk;simp only at hk;rcases hfr.old b ((h.ob k).lt hk hl) (.inl hb)with h1 | h1
    ·exact h.rw.dis b h1 ⟨k,lo,hk,hl⟩
    ·exact hlive k lo b hk hl e h1
  ·intro k k' lo lo' b hk hk' hb hb'
   unfold c0z at hk hk';cases e:bwd (m++nw) k with
   | some kk=>
    rw [e]at hk;simp only at hk;cases e' :bwd (m++nw) k' with
    | some kk' =>
     rw [e']at hk';simp only at hk';have:=hrw.inj _ _ _ _ b hk hk' hb hb';subst this;exact s0r hon (i0x e) (i0x e')
    | none=>
     rw [e']at hk';simp only at hk';rcases hfr.old b ((h.ob k').lt hk' hb') (.inr ⟨kk,lo,hk,hb⟩)with h1 | h1
     ·exact absurd ⟨k',lo',hk',hb'⟩ (h.rw.dis b h1)
     ·exact absurd h1 (hlive k' lo' b hk' hb' e')
   | none=>
    rw [e]at hk;simp only at hk;cases e' :bwd (m++nw) k' with
    | some kk' =>
     rw [e']at hk';simp only at hk';rcases hfr.old b ((h.ob k).lt hk hb) (.inr ⟨kk',lo',hk',hb'⟩)with h1 | h1
     ·exact absurd ⟨k,lo,hk,hb⟩ (h.rw.dis b h1)
     ·exact absurd h1 (hlive k lo b hk hb e)
    | none=>
     rw [e']at hk';simp only at hk';exact h.rw.inj _ _ _ _ b hk hk' hb hb'
  ·rw [c0v (AV.ren (stay (goes st.ob m nw))) rfl]
   exact((h.fr i).mono hFk hfr.sub (fun _ _ h=>h)).ren hstay
  ·simp only
   rw [r1s (fun j=>(lkO ob' j).ren (fwd (m++nw))),d0i (AObj.ren (stay (goes st.ob m nw))) rfl];cases e:bwd (m++nw) k with
   | some kk=>exact(hob kk).ren hfwd (by unfold c0z;rw [e])
   | none=>
    have h1:RelOb w' F' ρ k (lkO st.ob k):=(h.ob k).through hFk hfr.sub fun lo b hl hb=>hfr.keep b ((h.ob k).lt hl hb) (hlive k lo b hl hb e);exact h1.ren hstay (by unfold c0z;rw [e])
 refine⟨?_,hfr.os,hfr.tape,hfr.output,hfr.size,hfr.sub,fun b hb hl=>hfr.keep b hb ?_, ?_, ?_⟩
 ·cases d with
  | none=>exact base
  | some d=>exact base.put d (a0j hd) ((hx.retm hp).ren hfwd)
 ·rintro⟨kk,lo,hk,hb'⟩
  obtain⟨j,_,hj⟩:=c0s hk hb';exact hl ⟨j,lo,hj,hb'⟩
 ·intro b hb hh
  have key:F' b∨live ρ' b→F b∨live ρ b:=fun h1=>(hfr.old b hb h1).imp id fun⟨kk,lo,hk,hl⟩=>by
   obtain⟨j,_,hj⟩:=c0s hk hl;exact⟨j,lo,hj,hl⟩
  rcases hh with h1 | ⟨k,lo,hk,hl⟩
  ·exact key (.inl h1)
  ·unfold c0z at hk
   cases e:bwd (m++nw) k with
   | some kk=>rw [e]at hk;exact key (.inr ⟨kk,lo,hk,hl⟩)
   | none=>rw [e]at hk;exact .inr ⟨k,lo,hk,hl⟩
 ·intro k hk
  unfold c0z;cases e:bwd (m++nw) k with
  | none=>exact Stab.refl _ _
  | some kk=>
   simp only;rcases l2v.1 (i0x e)with h1 | h1
   ·have e4:d0l ρ m ns kk=ρ k:=by unfold d0l;rw [s0i hom h1]
    have h2:=k2f.1 hm _ h1;simp only [j2s,m2g]at h2;have:=hfr.stab kk (k2d h2.1);rw [e4]at this;cases hl:ρ' kk with
    | none=>cases ρ k<;>trivial
    | some l' =>
     rw [hl]at this;cases hk0:ρ k with
     | none=>rw [hk0]at this;simp [Stab]at this
     | some l=>
      rw [hk0]at this;cases l with
      | box b=>cases l' with
       | box b' =>exact this
       | arr u' =>simp [Stab]at this
      | arr u=>cases l' with
       | box b' =>simp [Stab]at this
       | arr u' =>
        intro h3;refine this ?_;rcases h2.2 with h4 | h4
        ·exact absurd (a0j h4) (by omega)
        ·exact k2d h4
   ·have:=k2f.1 hnw _ h1
    have:=a0j this;simp only at this;omega
theorem AOps.ocall{i n r i' :Nat}{d:Option Tmp}{f:FuncId}{cargs pargs:List AV}{pob:List (Nat×AObj)}{R:AEnd→List (Nat×AObj)→Prop}(h:c0q P ops i st=some (d,f,cargs))
  (m nw:List (Nat×Nat))(ns:List NilArg)(hok:i0i N st.ob m nw ns d=true)(ha:e0a m ns 0 cargs=pargs)(hob:q0h st.ob m ns=pob)(hpl:AV.plainL cargs=true)
  (spec:ACalls P f pargs pob R)(hR: ∀e o,R e o→∃x,e= .ret x∧x.plain=true)(hn:n=r+1)(hi:i' =i+1)
  (k: ∀x ob',R (.ret x) ob' →AOps P N ops (List.range' i' r) (d0t m nw d x ob' st) Q):AOps P N ops (List.range' i n) st Q:=by
 subst hn;subst hi;subst ha;subst hob;rw [l2t];unfold c0q at h;split at h
 ·rename_i d' c ty pos after guard ho
  split at h
  ·rename_i f' args' hc
   cases hb:a0p P f' with
   | false=>rw [hb]at h;cases h
   | true=>
    rw [hb]at h;cases h;intro F ρ a w hr;rw [wpOps_cons];obtain⟨e,hw⟩:=b0c hr ho;obtain⟨vs,hrun,hsz,hrel⟩:=c0b hr hc hb ty;simp only [wpOp,e];rw [if_pos hw];left;have hrun' :(execOp a.eval ⟨d, .call c,ty,pos,after,guard⟩).run P w= .ok (.enter f vs) w:=hrun;simp only [Oper.wp,Oper.upon,hrun'];have hok' :=hok;simp only [i0i,j2s]at hok';have hom:=t0w hok'.1.1.1.1;have hns:ns.all (fun n=>(fwd m n.kk).isNone)=true:=by
     rw [k2f];intro n hn;have:=k2f.1 hok'.1.2 n hn;simp only [j2s]at this;exact this.1
    obtain⟨e1,e2,hren⟩:=i0q hr (m:=m) (ns:=ns) hom;refine(spec F (d0l ρ m ns) vs w e1 (fun k=>e2 k (.inr hns)) ⟨by rw [b0j];exact hsz,fun j hj=> ?_⟩).mono fun en w' ⟨F',ρ',rr,ob',hq,hre,hrw,hrob,hfr⟩=> ?_
    ·have hj' :j<cargs.length:=by rw [b0j]at hj;exact hj
     rw [h0t _ _ _ _ _ hj' hj];exact m0c hren hns ((hrel j hj').retm (AV.plainL_get hpl j hj'))
    ·obtain⟨x,rfl,hp⟩:=hR _ _ hq
     cases en with
     | returned v=>
      obtain⟨h1,h2⟩:=q0r hr hok hrw hrob hfr hre hp;exact(k x ob' hq).after h1 h2
     | panicked chain=>exact hre.elim
     | outgrown=>exact hre.elim
  ·cases h
 ·cases h
def has:List (Nat×AObj)→Nat→Bool
 | [],_=>false
 | p::r,k=>Nat.beq k p.1 || has r k
end
end Esp
namespace Esp
open Go
set_option linter.unusedSimpArgs false
set_option linter.unusedVariables false
variable [Tabs]
def qBin(N:Nat)(ops:Array Oper)(i:Nat)(st:ASt):Option (Tmp×BinOp×Value×Value):=
 match opK ops st.fr i with
 | some ⟨some d, .binOp op t x y _,_,_,_,_⟩=>match scV (ev st.fr x),scV (ev st.fr y)with
  | some u,some v=>bif Nat.blt d N then some (d,op,u,v)else none
  | _,_=>none
 | _=>none
section
variable{P:Program}{N:Nat}{ops:Array Oper}{Q:Exit→ASt→Prop}{st st' :ASt}{l:List Nat}
theorem IEff.qbin{i d:Nat}{op:BinOp}{u v r:Value}(h:qBin N ops i st=some (d,op,u,v))
  (hr: ∀(t:TypeId) (x y:Operand) w,(do eqGuard op t x y u v;binOp op t u v:Sem Value).run P w= .ok r w)(h1:r.oneCell' =true):IEff P N ops i st (.put d (.cell (.d (.sc r)))):=by
 unfold qBin at h;split at h
 ·rename_i d' op' t' x' y' yt ty pos after guard ho
  split at h
  ·rename_i u' v' hu hv
   cases hb:Nat.blt d' N with
   | false=>rw [hb]at h;cases h
   | true=>
    rw [hb]at h;cases h;refine .of_opK ho ⟨rfl,fun F ρ a w hr' => ?_⟩;have e1:=(a0n (a0f hr' x') hu).1;have e2:=(a0n (a0f hr' y') hv).1;refine⟨r,w,F,ρ, .inl ?_,hr'.put d (a0j hb) (.cell _ _ (.d _ _ (.sc r h1))),Fr.refl F ρ w, .none fun _ _=>rfl⟩;have:=hr t' x' y' w;simp only [execOp,e1,e2];simp only [Sem.run_bind]at this⊢;rw [this];rfl
  ·cases h
 ·cases h
theorem IEff.qshr{i d:Nat}{k k2:IntKind}{x y:Int}(h:qBin N ops i st=some (d, .shr, .int k x, .int k2 y))(h0:0≤y):
  IEff P N ops i st (.put d (.cell (.d (.sc (.int k (bshr k x y)))))):=by
 refine .qbin h (fun t p q w=> ?_) rfl;have h0' : ¬y<0:=by omega
 simp [eqGuard,binOp,Op.shift,h0',bshr]
theorem IEff.qshl{i d:Nat}{k k2:IntKind}{x y:Int}(h:qBin N ops i st=some (d, .shl, .int k x, .int k2 y))(h0:0≤y):
  IEff P N ops i st (.put d (.cell (.d (.sc (.int k (bshl k x y)))))):=by
 refine .qbin h (fun t p q w=> ?_) rfl;have h0' : ¬y<0:=by omega
 simp [eqGuard,binOp,Op.shift,h0',bshl]
theorem IEff.qquo{i d:Nat}{k:IntKind}{x y:Int}(h:qBin N ops i st=some (d, .quo, .int k x, .int k y))(h0:y≠0):
  IEff P N ops i st (.put d (.cell (.d (.sc (.int k (bquo k x y)))))):=by
 refine .qbin h (fun t p q w=> ?_) rfl;simp [eqGuard,binOp,Op.intDiv,h0,bquo]
theorem IEff.qrem{i d:Nat}{k:IntKind}{x y:Int}(h:qBin N ops i st=some (d, .rem, .int k x, .int k y))(h0:y≠0):
  IEff P N ops i st (.put d (.cell (.d (.sc (.int k (brem k x y)))))):=by
 refine .qbin h (fun t p q w=> ?_) rfl;simp [eqGuard,binOp,Op.intDiv,h0,brem]
theorem IEff.qcat{i d:Nat}{a b r:ByteArray}(h:qBin N ops i st=some (d, .add, .string a, .string b))(h0:a.size+b.size≤9223372036854775807)(hr:a++b=r):
  IEff P N ops i st (.put d (.cell (.d (.sc (.string r))))):=by
 subst hr;refine .qbin h (fun t p q w=> ?_) rfl;have:=run_string_add_sum (P:=P) w a b h0;simp [eqGuard,binOp,this]
end
end Esp
namespace Esp
open Go Go.ChangeShapes Go.RowKit
set_option linter.unusedSimpArgs false
set_option linter.unusedVariables false
variable [Tabs]
def inW(w:World)(b:Nat):Prop:=b<w.heap.size
def Held(w:World)(vs:List Value)(ds:List D):Prop:=vs.length=ds.length∧∀i (h:i<ds.length),RelD w (inW w) ds[i] (vs.getD i undef)
mutual
def i0g{H:Type}:DataW H→Nat
 | .lit (.string bytes)=>bytes.length+1
 | .lit _=>1
 | .nil=>1
 | .ptr d=>i0g d+1
 | .slice elems spare=>i0j elems+i0j spare+1
 | .agg parts=>i0j parts+1
 | .iface _ d=>i0g d+1
 | .map entries=>w1d entries+1
 | .held _=>1
def i0j{H:Type}:List (DataW H)→Nat
 | []=>0
 | d::r=>i0g d+i0j r
def w1d{H:Type}:List (Lit×DataW H)→Nat
 | []=>0
 | x::r=>i2y x+w1d r
def i2y{H:Type}:Lit×DataW H→Nat
 | (.string bytes,d)=>bytes.length+i0g d+1
 | (_,d)=>i0g d+1
end
def Rd(P:Program)(t:TypeId){α:Type}(enc:α→List D)(J:α→Prop)(bk:α→Nat)(fuel:Nat):Prop:=
 ∀{H:Type} (e:TypeId×Value→H) (w:World) (vs:List Value) (d:DataW H) (ps:List MemPlace),DataW.trod e P w 0 (fun _=>true) true fuel t vs=some (d,ps)→ ∃x,J x∧Held w vs (enc x)∧bk x≤i0g d
def wfI(k:IntKind)(n:Int):Prop:=(Lit.int k n).wf=true
variable{P:Program}{t:TypeId}{α β:Type}
omit [Tabs]in
theorem j0s{w:World}{v:Value}{x:D}(h:RelD w (inW w) x v):Held w [v] [x]:=⟨rfl,fun i hi=>by
 obtain rfl:i=0:=by simp at hi;omega
 exact h⟩
omit [Tabs]in
theorem Rd.int{k:IntKind}(ht:P.underlying t=some (.int k))(fuel:Nat):Rd P t (fun n:Int=> [.sc (.int k n)]) (wfI k) (fun _=>1) fuel:=by
 intro H e w vs d ps h;obtain⟨n,rfl,hx,hw⟩:=DataW.trod_int ht h;cases hx;exact⟨n,hw,j0s (.sc _ rfl),by simp [i0g]⟩
omit [Tabs]in
theorem Rd.bool(ht:P.underlying t=some .bool)(fuel:Nat):Rd P t (fun b:Bool=> [.sc (.bool b)]) (fun _=>True) (fun _=>1) fuel:=by
 intro H e w vs d ps h;obtain⟨n,rfl,hx⟩:=DataW.trod_bool ht h;cases hx;exact⟨n,trivial,j0s (.sc _ rfl),by simp [i0g]⟩
omit [Tabs]in
theorem Rd.string(ht:P.underlying t=some .string)(fuel:Nat):Rd P t (fun s:ByteArray=> [.sc (.string s)]) (fun s=>s.size≤maxLen) (fun s=>s.size+1) fuel:=by
 intro H e w vs d ps h;obtain⟨s,rfl,hx,hs⟩:=DataW.trod_string ht h;cases hx;refine⟨s,hs,j0s (.sc _ rfl), ?_⟩;simp only [i0g,k2z];exact k2h _
def i0f(f:α→Nat):List α→Nat
 | []=>0
 | x::r=>f x+i0f f r
omit [Tabs]in
theorem i0p{H:Type}(d:DataW H)(r:List (DataW H)):i0j (d::r)=i0g d+i0j r:=by simp [i0j]
omit [Tabs]in
theorem q0l{enc:α→List D}{J:α→Prop}{bk:α→Nat}{n e z:Nat}(hz:P.cellsOf e=z)(hp:0<z)(he: ∀x,(enc x).length=z)(hr:Rd P e enc J bk n){H:Type}(en:TypeId×Value→H)(w:World)(a:Addr):
  ∀(elems:List (DataW H×List MemPlace)) (k:Nat),(∀i,i<elems.length→(w.cells? 0 (a.add ((k+i)*z)) z).bind (DataW.trod en P w 0 (fun _=>true) true n e)=elems[i]?)→
   ∃l:List α,l.length=elems.length∧(∀x∈l,J x)∧i0f bk l≤i0j (elems.map (·.1))∧
    ∀i (h:i< (l.flatMap enc).length),∃v,w.cell? (a.add (k*z+i))=some v∧RelD w (inW w) (l.flatMap enc)[i] v
 | [],k,_=>⟨[],rfl,by simp,by simp [i0f],by simp⟩
 | x::r,k,h=>by
  obtain⟨l,h1,h2,h3,h4⟩:=q0l hz hp he hr en w a r (k+1) (fun i hi=>by
   have:=h (i+1) (by simpa using hi);rw [show k+(i+1)=k+1+i by omega]at this;simpa using this)
  have h0:=h 0 (by simp);simp only [m2p,m2c,j2w]at h0;obtain⟨cs,hcs,hx⟩:=h0;obtain⟨y,hJ,hh,hb⟩:=hr en w cs x.1 x.2 hx;obtain⟨_,hcl,hcc⟩:=World.cells?_some hcs;refine⟨y::l,by simp [h1],by simpa using⟨hJ,h2⟩,by simp only [i0f,k2l,i0p];omega,fun i hi=> ?_⟩;have hyl:=he y;have e1:((y::l).flatMap enc)=enc y++l.flatMap enc:=by simp
  by_cases hiz:i<z
  ·have hi2:i< (enc y).length:=by omega
   have e2:((y::l).flatMap enc)[i]=(enc y)[i]:=by
    simp only [e1];rw [l2u hi2]
   rw [e2];refine⟨cs.getD i undef, ?_,hh.2 i hi2⟩;have:=hcc i (by omega);have e3:(a.add (k*z)).add i=a.add (k*z+i):=by
    unfold Addr.add;by_cases h5:k*z=0
    ·simp [h5]
    ·by_cases h6:i=0
     ·simp [h6]
     ·simp [h5,h6,Nat.add_assoc]
   rw [e3]at this;rw [this,j2z,j2x (by omega)];rfl
  ·have hi3:i - z< (l.flatMap enc).length:=by rw [e1,j2y]at hi;omega
   obtain⟨v,hv,hrv⟩:=h4 (i - z) hi3;have e2:((y::l).flatMap enc)[i]=(l.flatMap enc)[i - z]:=by
    simp only [e1];rw [List.getElem_append_right (by omega)];congr 1;omega
   rw [e2];refine⟨v, ?_,hrv⟩;rw [←hv];congr 2;rw [Nat.succ_mul];omega
omit [Tabs]in
theorem Rd.slice{enc:α→List D}{J:α→Prop}{bk:α→Nat}{e z fuel:Nat}(ht:P.underlying t=some (.slice e))(hz:P.cellsOf e=z)(hp:0<z)(he: ∀x,(enc x).length=z)(hr: ∀n,n<fuel→Rd P e enc J bk n):
  Rd P t (fun l:List α=> [.sl z l.length (l.flatMap enc)]) (fun l=>l.length≤maxLen∧∀x∈l,J x) (fun l=>i0f bk l+1) fuel:=by
 intro H en w vs d ps h;rcases DataW.trod_slice ht h with⟨rfl,hx⟩ | ⟨a,len,cap,elems,rest,n,rfl,rfl,hx,_,hlc,hcm,hel,hread,_⟩
 ·cases hx
  exact⟨[],⟨by simp,by simp⟩,j0s (.nil _ _ _),by simp [i0f,i0g]⟩
 ·cases hx
  rw [hz]at hread;obtain⟨l,h1,h2,h3,h4⟩:=q0l hz hp he (hr n (by omega)) en w a elems 0 (fun i hi=>by rw [l2b];exact hread i (by omega));refine⟨l,⟨by omega,h2⟩,j0s ?_,by simp only [i0g];omega⟩;have hlen:(l.flatMap enc).length=l.length*z:=by
   clear h4 h2 h3 h1
   induction l with
   | nil=>simp
   | cons x r ih=>simp [he,ih,Nat.succ_mul];omega
  by_cases h0:l.length=0
  ·have hl:l= []:=k2q h0
   subst hl;have:len=0:=by simp at h1;omega
   subst this;exact .nil _ _ _
  ·have hpos:0< (l.flatMap enc).length:=by rw [hlen];exact Nat.mul_pos (by omega) hp
   obtain⟨v0,hv0,_⟩:=h4 0 hpos;have ea:a.add (0*z+0)=a:=by simp [Addr.add]
   rw [ea]at hv0;obtain⟨b,off,spot⟩:=a;have hsp:spot=none∧b<w.heap.size:=by
    unfold World.cell? at hv0;split at hv0
    ·rename_i c _ _ hb
     refine⟨?_,(k2j.1 hb).1⟩;cases spot with
     | none=>rfl
     | some _=>simp at hv0
    ·cases hv0
   obtain⟨rfl,hbl⟩:=hsp;have hadd: ∀i,(⟨b,off,none⟩:Addr).add (0*z+i)=⟨b,off+i,none⟩:=by
    intro i;unfold Addr.add;by_cases h6:i=0
    ·simp [h6]
    ·simp [h6]
   have hll:l.length=len:=by omega
   rw [hll]at hlen⊢;refine .sl z len _ b off cap (fun i=>(w.cell? ⟨b,off+i,none⟩).getD undef) hbl hlen hlc (fun i hi=> ?_) (fun i hi=> ?_)
   ·obtain⟨v,hv,_⟩:=h4 i hi
    rw [hadd]at hv;rw [hv];rfl
   ·obtain⟨v,hv,hrv⟩:=h4 i hi
    rw [hadd]at hv;simp only [hv];exact hrv
def RdS(P:Program)(fs:List (TypeId×Nat))(off tot:Nat)(enc:α→List D)(J:α→Prop)(bk:α→Nat)(fuel:Nat):Prop:=
 ∀{H:Type} (e:TypeId×Value→H) (w:World) (cs:List Value) (xs:List (DataW H×List MemPlace)),cs.length=off+tot→xs.length=fs.length→
  (∀(i:Nat) (f:TypeId×Nat),fs[i]? =some f→DataW.trod e P w 0 (fun _=>true) true fuel f.1 ((cs.drop f.2).take (P.cellsOf f.1))=xs[i]?)→
  ∃x,J x∧Held w (cs.drop off) (enc x)∧bk x≤i0j (xs.map (·.1))
omit [Tabs]in
theorem Rd.struct{enc:α→List D}{J:α→Prop}{bk:α→Nat}{fs:Array Field}{l:List (TypeId×Nat)}{tot fuel:Nat}(ht:P.underlying t=some (.struct fs))(hf:fs.toList.map (fun f=>(f.type,f.offset))=l)(hz:P.cellsOf t=tot)
  (hr: ∀n,n<fuel→RdS P l 0 tot enc J bk n):Rd P t enc J (fun x=>bk x+1) fuel:=by
 intro H e w vs d ps h;obtain⟨xs,n,rfl,hx,hl,hxl,hg⟩:=DataW.trod_struct ht h;cases hx;subst hf;obtain⟨x,h1,h2,h3⟩:=hr n (by omega) e w vs xs (by omega) (by simp [hxl]) (fun i f hi=>by
  rw [l2d]at hi;cases e2:fs.toList[i]? with
  | none=>rw [e2]at hi;cases hi
  | some g=>
   rw [e2]at hi;cases hi;exact hg i g (by simpa using e2))
 exact⟨x,h1,by simpa using h2,by simp only [i0g];omega⟩
omit [Tabs]in
theorem z0l{w:World}{vs us:List Value}{ds es:List D}(h:Held w vs ds)(k:Held w us es):Held w (vs++us) (ds++es):=by
 refine⟨by simp [h.1,k.1],fun i hi=> ?_⟩;by_cases h1:i<ds.length
 ·rw [l2u h1,j2z,List.getElem?_append_left (by rw [h.1];exact h1), ←j2z]
  exact h.2 i h1
 ·rw [List.getElem_append_right (by omega),j2z,m2a (by rw [h.1];omega), ←j2z,h.1]
  exact k.2 _ _
omit [Tabs]in
theorem RdS.nil{off fuel:Nat}:RdS P [] off 0 (fun _:Unit=> []) (fun _=>True) (fun _=>0) fuel:=by
 intro H e w cs xs h1 h2 _;exact⟨(),trivial,⟨by simp;omega,fun i hi=>by simp at hi⟩,by simp⟩
omit [Tabs]in
theorem RdS.cons{enc1:α→List D}{J1:α→Prop}{bk1:α→Nat}{enc2:β→List D}{J2:β→Prop}{bk2:β→Nat}{ft:TypeId}{fs:List (TypeId×Nat)}{off off2 z tot tot2 fuel:Nat}(hz:P.cellsOf ft=z)
  (ho:off2=off+z)(htot:tot=z+tot2)(h1:Rd P ft enc1 J1 bk1 fuel)(h2:RdS P fs off2 tot2 enc2 J2 bk2 fuel):
  RdS P ((ft,off)::fs) off tot (fun x:α×β=>enc1 x.1++enc2 x.2) (fun x=>J1 x.1∧J2 x.2) (fun x=>bk1 x.1+bk2 x.2) fuel:=by
 subst ho;subst htot;intro H e w cs xs hl hx hg;cases xs with
 | nil=>simp at hx
 | cons x xs=>
  have g0:=hg 0 (ft,off) (by simp);simp only [m2c,hz]at g0;obtain⟨y1,j1,k1,b1⟩:=h1 e w _ x.1 x.2 g0;obtain⟨y2,j2,k2,b2⟩:=h2 e w cs xs (by omega) (by simpa using hx) (fun i f hi=>by
   have:=hg (i+1) f (by simpa using hi);simpa using this)
  refine⟨(y1,y2),⟨j1,j2⟩, ?_,by simp only [k2l,i0p];omega⟩;have e1:cs.drop off=(cs.drop off).take z++cs.drop (off+z):=by
   rw [←List.drop_drop,List.take_append_drop]
  rw [e1];exact z0l k1 k2
omit [Tabs]in
theorem Rd.map{enc:α→List D}{J:α→Prop}{bk:α→Nat}{fuel:Nat}(h:Rd P t enc J bk fuel)(g:α→β){enc' :β→List D}{J' :β→Prop}{bk' :β→Nat}(he: ∀x,enc x=enc' (g x))(hJ: ∀x,J x→J' (g x))(hb: ∀x,bk' (g x)≤bk x):
  Rd P t enc' J' bk' fuel:=by
 intro H e w vs d ps hh;obtain⟨x,h1,h2,h3⟩:=h e w vs d ps hh;exact⟨g x,hJ x h1,he x▸h2,k2x (hb x) h3⟩
def isAgg(P:Program)(t:TypeId):Bool:=match P.underlying t with | some (.struct _) | some (.array _ _)=>true | _=>false
def RdArgs(P:Program)(ts:List TypeId)(args:α→List AV)(J:α→Prop)(bk:α→Nat):Prop:=
 ∀{H:Type} (e:TypeId×Value→H) (w:World) (base:Nat) (vs:List Value) (ds:List (DataW H)) (ps:List MemPlace),(∀(j:Nat) t v,ts[j]? =some t→vs[j]? =some v→Value.okWide P w .any base t v)→
  DataW.TrodAll e P w 0 (fun _=>true) true ts vs ds ps→∃x,J x∧bk x≤i0j ds∧vs.length=(args x).length∧∀i (h:i< (args x).length),RelAV w (inW w) (fun _=>none) #[] (args x)[i] (vs.getD i undef)
omit [Tabs]in
theorem i0k{H:Type}{e:TypeId×Value→H}{w:World}: ∀{ts:List TypeId} {vs:List Value} {ds:List (DataW H)} {ps:List MemPlace},DataW.TrodAll e P w 0 (fun _=>true) true ts vs ds ps→ds.length=ts.length
 | [],_,_,_,h=>by
  obtain⟨rfl,rfl,rfl⟩:=trodAll_nil h;rfl
 | t::ts,_,_,_,h=>by
  obtain⟨v,vs,d,ds,p,q,rfl,rfl,rfl,h1,h2⟩:=trodAll_cons h;simp [i0k h2]
omit [Tabs]in
theorem RdArgs.nil:RdArgs P [] (fun _:Unit=> []) (fun _=>True) (fun _=>0):=by
 intro H e w base vs ds ps _ h;obtain⟨rfl,rfl,rfl⟩:=trodAll_nil h;exact⟨(),trivial,by simp,rfl,fun i hi=>by simp at hi⟩
omit [Tabs]in
theorem RdArgs.step{args:β→List AV}{J2:β→Prop}{bk2:β→Nat}{ts:List TypeId}(enc:α→AV){J:α→Prop}{bk:α→Nat}
  (hr: ∀{H:Type} (e:TypeId×Value→H) (w:World) (base:Nat) (v:Value) (d:DataW H) (ps:List MemPlace),Value.okWide P w .any base t v→DataW.Trod e P w 0 (fun _=>true) true t v d ps→∃x,J x∧bk x≤i0g d∧RelAV w (inW w) (fun _=>none) #[] (enc x) v)
  (h2:RdArgs P ts args J2 bk2):RdArgs P (t::ts) (fun x:α×β=>enc x.1::args x.2) (fun x=>J x.1∧J2 x.2) (fun x=>bk x.1+bk2 x.2):=by
 intro H e w base vs ds ps hv h;obtain⟨v,vs,d,ds,p,q,rfl,rfl,rfl,h3,h4⟩:=trodAll_cons h;obtain⟨x,j1,b1,r1⟩:=hr e w base v d p (hv 0 t v rfl rfl) h3;obtain⟨y,j2,b2,l2,r2⟩:=h2 e w base vs ds q (fun j t' v' h5 h6=>hv (j+1) t' v' (by simpa using h5) (by simpa using h6)) h4;refine⟨(x,y),⟨j1,j2⟩,by rw [i0p];exact Nat.add_le_add b1 b2,by simp [l2],fun i hi=> ?_⟩;cases i with
 | zero=>simpa using r1
 | succ i=>simpa using r2 i (by simpa using hi)
omit [Tabs]in
theorem RdArgs.one{enc:α→D}{J:α→Prop}{bk:α→Nat}(hs:isAgg P t=false)(hr: ∀n,Rd P t (fun x=> [enc x]) J bk n){H:Type}(e:TypeId×Value→H)(w:World)(base:Nat)(v:Value)(d:DataW H)(ps:List MemPlace)
  (hv:Value.okWide P w .any base t v)(h:DataW.Trod e P w 0 (fun _=>true) true t v d ps): ∃x,J x∧bk x≤i0g d∧RelAV w (inW w) (fun _=>none) #[] (.cell (.d (enc x))) v:=by
 obtain⟨fuel,hf⟩:=h;obtain⟨x,h1,h2,h3⟩:=hr fuel e w _ d ps hf;refine⟨x,h1,h3, .cell _ _ (.d _ _ ?_)⟩;have hl:v.cells.toList.length=1:=h2.1;have h0:=h2.2 0 (by simp);simp only [List.getElem_cons_zero]at h0;have hnot: ∀cs,v≠ .agg cs:=by
  intro cs hc;subst hc;unfold Value.okWide at hv;unfold isAgg at hs;split at hv
  ·rename_i hu;rw [hu]at hs;simp at hs
  ·rename_i hu;rw [hu]at hs;simp at hs
  ·simp only [Cell.okWide]at hv
   cases hu:P.underlying t with
   | none=>simp_all [Cell.ok]
   | some u=>cases u<;>simp_all [Cell.ok]
 have:v.cells.toList.getD 0 undef=v:=by
  cases v<;>first | rfl | (exact absurd rfl (hnot _))
 rwa [this]at h0
omit [Tabs]in
theorem RdArgs.agg{enc:α→List D}{J:α→Prop}{bk:α→Nat}(hs:isAgg P t=true)(hr: ∀n,Rd P t enc J bk n){H:Type}(e:TypeId×Value→H)(w:World)(base:Nat)(v:Value)(d:DataW H)(ps:List MemPlace)
  (hv:Value.okWide P w .any base t v)(h:DataW.Trod e P w 0 (fun _=>true) true t v d ps): ∃x,J x∧bk x≤i0g d∧RelAV w (inW w) (fun _=>none) #[] (.aggD (enc x)) v:=by
 obtain⟨fuel,hf⟩:=h;obtain⟨x,h1,h2,h3⟩:=hr fuel e w _ d ps hf;have hagg: ∃cs,v= .agg cs:=by
  unfold Value.okWide at hv;unfold isAgg at hs;split at hv
  ·obtain⟨cs,rfl,_⟩:=hv;exact⟨cs,rfl⟩
  ·obtain⟨cs,rfl,_⟩:=hv;exact⟨cs,rfl⟩
  ·rename_i ha hb
   split at hs
   ·rename_i hu;exact absurd hu (ha _)
   ·rename_i hu;exact absurd hu (hb _ _)
   ·cases hs
 obtain⟨cs,rfl⟩:=hagg;refine⟨x,h1,h3, .aggD _ _ (by simpa [Value.cells]using h2.1) fun i hi=> ?_⟩;have:=h2.2 i hi;simp only [Value.cells]at this;rw [j2z]at this;rw [j2u, ←l2n];exact this
omit [Tabs]in
theorem h1w{args:List AV}{vs:Array Value}{W:World}(hlen:vs.toList.length=args.length)(hrel: ∀i (h:i<args.length),RelAV W (inW W) (fun _=>none) #[] args[i] (vs.toList.getD i undef)):
  RelArgs W (fun b=>b<W.heap.size) (fun _=>none) args vs:=⟨by simpa using hlen,fun i hi=>by
 have:=hrel i hi;rw [j2z]at this;rw [j2u, ←l2n];exact this⟩
omit [Tabs]in
theorem e0j{f:α→D}(l:List α):l.flatMap (fun x=> [f x])=l.map f:=by
 induction l with
 | nil=>rfl
 | cons x r ih=>rw [k2n,ih];rfl
omit [Tabs]in
theorem Rd.strings{e:TypeId}(ht:P.underlying t=some (.slice e))(he:P.underlying e=some .string)(hz:P.cellsOf e=1)(fuel:Nat):
  Rd P t (fun l:List ByteArray=> [.sl 1 l.length (encS l)]) (fun l=>l.length≤maxLen∧∀x∈l,x.size≤maxLen) (fun l=>i0f (fun s:ByteArray=>s.size+1) l+1) fuel:=
 Rd.map (Rd.slice ht hz (by decide) (fun _=>rfl) fun n _=>Rd.string he n) id (fun l=>by simp only [id,e0j];rfl) (fun _ h=>h) fun _=>k2h _
omit [Tabs]in
theorem Rd.ints{e:TypeId}(ht:P.underlying t=some (.slice e))(he:P.underlying e=some (.int .i64))(hz:P.cellsOf e=1)(fuel:Nat):
  Rd P t (fun l:List Int=> [.sl 1 l.length (encI l)]) (fun l=>l.length≤maxLen∧∀x∈l,wfI .i64 x) (fun l=>i0f (fun _:Int=>1) l+1) fuel:=
 Rd.map (Rd.slice ht hz (by decide) (fun _=>rfl) fun n _=>Rd.int he n) id (fun l=>by simp only [id,e0j];rfl) (fun _ h=>h) fun _=>k2h _
end Esp
namespace Esp
open Go
set_option linter.unusedSimpArgs false
set_option linter.unusedVariables false
variable [Tabs]
inductive DLe:D→D→Prop
 | refl (x:D):DLe x x
 | nil (e:Nat):DLe (.sc (.slice none 0 0)) (.sl e 0 [])
inductive DsLe:List D→List D→Prop
 | refl (l:List D):DsLe l l
 | cons {x y:D} {l m:List D} (h:DLe x y) (k:DsLe l m):DsLe (x::l) (y::m)
inductive AVle:AV→AV→Prop
 | refl (x:AV):AVle x x
 | cell {x y:D} (h:DLe x y):AVle (.cell (.d x)) (.cell (.d y))
 | agg {l m:List D} (h:DsLe l m):AVle (.aggD l) (.aggD m)
inductive AVsLe:List AV→List AV→Prop
 | refl (l:List AV):AVsLe l l
 | cons {x y:AV} {l m:List AV} (h:AVle x y) (k:AVsLe l m):AVsLe (x::l) (y::m)
inductive TLe:AV→AV→Prop
 | one {x y:AV} (h:AVle x y):TLe x y
 | tup {l m:List AV} (h:AVsLe l m):TLe (.tup l) (.tup m)
section
variable{w:World}{F:Nat→Prop}{ρ:Env}{tm:Array Value}
omit [Tabs]in
theorem DsLe.length{l m:List D}(h:DsLe l m):l.length=m.length:=by
 induction h with
 | refl=>rfl
 | cons _ _ ih=>simp [ih]
omit [Tabs]in
theorem DsLe.get{l m:List D}(h:DsLe l m): ∀i (h1:i<l.length) (h2:i<m.length),DLe l[i] m[i]:=by
 induction h with
 | refl l=>exact fun i h1 h2=> .refl _
 | cons hx _ ih=>
  intro i h1 h2;cases i with
  | zero=>exact hx
  | succ i=>exact ih i (by simpa using h1) (by simpa using h2)
omit [Tabs]in
theorem AVsLe.length{l m:List AV}(h:AVsLe l m):l.length=m.length:=by
 induction h with
 | refl=>rfl
 | cons _ _ ih=>simp [ih]
omit [Tabs]in
theorem AVsLe.get{l m:List AV}(h:AVsLe l m): ∀i (h1:i<l.length) (h2:i<m.length),AVle l[i] m[i]:=by
 induction h with
 | refl l=>exact fun i h1 h2=> .refl _
 | cons hx _ ih=>
  intro i h1 h2;cases i with
  | zero=>exact hx
  | succ i=>exact ih i (by simpa using h1) (by simpa using h2)
end
section
variable{P:Program}{N:Nat}{ops:Array Oper}{Q:Exit→ASt→Prop}{st st' :ASt}{l:List Nat}
end
end Esp
namespace Esp
open Go Go.RowKit
set_option linter.unusedSimpArgs false
set_option linter.unusedVariables false
variable [Tabs]
section
variable{P:Program}
end
end Esp

import Derived.Test.YtnaeiccibhdknaaGreatDoorEspObj
set_option linter.unusedSimpArgs false
set_option linter.unusedVariables false
namespace Esp
open Go
variable [Tabs]
def val2(P:Program)(fr:List (Nat×AV))(ob:List (Nat×AObj))(o:Oper):Option AV:=
 match o.op with
 |.build t parts=>v1f P fr ob t parts
 |_=>val1 P fr ob o
theorem k1z{P:Program}{N:Nat}{F:Nat->Prop}{ρ:Env}{st:ASt}{a:Act}{w:World}(h:Rel N F ρ st a w){o:Oper}{x:AV}(hv:val2 P st.fr st.ob o=some x):VR P F ρ a w o x:=by
 unfold val2 at hv;split at hv
 ·rename_i t parts ho
  obtain⟨v,e,hr⟩:=n1o h hv;refine⟨v,?_,hr⟩;simp only[execOp,ho,Sem.run_bind,e,Result.andThen_ok];rfl
 ·exact b2s h hv
def g1z(P:Program)(N:Nat)(o:Oper)(st:ASt):Option Eff:=
 match o.op with
 |.alloc t=>r1j P N o.dst t
 |.box _ x=>sBox N st o.dst x
 |.buildSlice t len parts=>t1v P N st o.dst t len parts
 |.store t p x=>match o.dst with
  |none=>s1k P st t p x
  |some _=>none
 |_=>match o.dst,val2 P st.fr st.ob o with
  |some d,some x=>bif Nat.blt d N&& !x.uses d then some (.put d x)else none
  |_,_=>none
theorem OpEff.of_val {P:Program}{N:Nat}{o:Oper}{st:ASt}{d:Tmp}{x:AV}(hd:o.dst=some d)(hN:Nat.blt d N=true)(hp:x.uses d=false)
  (h:∀F ρ a w,Rel N F ρ st a w->∃v,(execOp a.eval o).run P w=.ok (.value v) w/\RelAV w F ρ a.tmps x v):OpEff P N o st (.put d x):=by
 refine⟨hd,λF ρ a w hr=>?_⟩;obtain⟨v,e,hx⟩:=h F ρ a w hr;exact⟨v,w,F,ρ,.inl e,hr.put d (a0e hN) (hx.tm hp),Fr.refl F ρ w,.none λ_ _=>rfl⟩
theorem z0y{P:Program}{N:Nat}{o:Oper}{st:ASt}{e:Eff}(h:g1z P N o st=some e):OpEff P N o st e:=by
 unfold g1z at h;split at h
 ·exact o1g (by assumption) h
 ·exact y1l (by assumption) h
 ·exact m1f (by assumption) h
 ·split at h
  ·exact n1x (by assumption) (by assumption) h
  ·cases h
 ·split at h
  ·rename_i d x hd hv
   cases hb:(Nat.blt d N&& !x.uses d)with
   |false=>rw[hb]at h;cases h
   |true=>
    rw[hb]at h;cases h;simp only[r2i,s2v]at hb;exact .of_val hd hb.1 hb.2 λF ρ a w hr=>k1z hr hv
  ·cases h
def p0h(fr:List (Nat×AV)):Nat->Nat->Bool->List (Nat×Bool)
 | 0,g,w=>[(g,w)]
 |n+1,g,w=>(g,w)::match lkF fr g with
  |.whn g' w' _=>p0h fr n g' w'
  |_=>[]
def inKs(g:Nat)(w:Bool):List (Nat×Bool)->Bool
 |[]=>false
 |(g',w')::r=>(Nat.beq g g' && (w==w')) || inKs g w r
def AV.unw (ks:List (Nat×Bool))(x:AV):AV:=
 match x with
 |.whn g w y=>bif inKs g w ks then y else x
 |_=>x
def unwF(ks:List (Nat×Bool))(fr:List (Nat×AV)):List (Nat×AV):=fr.map λp=>(p.1,p.2.unw ks)
theorem n0z{N:Nat}{F:Nat->Prop}{ρ:Env}{st:ASt}{a:Act}{w:World}(h:Rel N F ρ st a w):∀(n g:Nat) (wn:Bool),a.tmps.getD g undef=.bool wn->
  ∀g' w',inKs g' w' (p0h st.fr n g wn)=true->a.tmps.getD g' undef=.bool w'
 | 0,g,wn,hg,g',w',hin=>by
  simp only[p0h,inKs,t2i,r2i,beq_iff_eq]at hin;rw[r2h hin.1,hin.2];exact hg
 |n+1,g,wn,hg,g',w',hin=>by
  simp only[p0h,inKs,u2c,r2i,beq_iff_eq]at hin;rcases hin with hin|hin
  ·rw[r2h hin.1,hin.2]
   exact hg
  ·have hr:=h.fr g
   split at hin
   ·rename_i g2 w2 y he
    rw[he]at hr;generalize hv:a.tmps.getD g undef=v at hr;cases hr with
    |whn g2 w2 y v h1 h2=>
     refine n0z h n g2 w2 ?_ g' w' hin;refine Classical.byContradiction λhc=>?_;have:=h2 hc;rw[hg]at hv;subst hv;cases this
   ·simp[inKs]at hin
theorem Rel.unw {N:Nat}{F:Nat->Prop}{ρ:Env}{st:ASt}{a:Act}{w:World}(h:Rel N F ρ st a w)(ks:List (Nat×Bool))(hk:∀g' w',inKs g' w' ks=true->a.tmps.getD g' undef=.bool w'):
  Rel N F ρ {st with fr:=unwF ks st.fr} a w:=by
 refine⟨h.rw,λi=>?_,h.ob,h.sz,h.df⟩;simp only[unwF];rw[d0i (AV.unw ks) rfl];have hr:=h.fr i;generalize lkF st.fr i=x at hr;unfold AV.unw;split
 ·rename_i g wn y
  cases hb:inKs g wn ks with
  |false=>exact hr
  |true=>
   cases hr with
   |whn g wn y v h1 h2=>exact h1 (hk _ _ hb)
 ·exact hr
def t0d(ops:Array Oper)(j:Nat):Option Nat:=(ops[j]?).bind (·.dst)
def b2z(P:Program)(N:Nat)(ops:Array Oper)(o:Oper)(j:Nat)(want:Bool)(st:ASt):Option Eff:=
 match t0d ops j,o.dst with
 |some g,some d=>match val2 P (unwF (p0h st.fr 8 g want) st.fr) st.ob o with
  |some x=>bif Nat.blt d N&& !Nat.beq d g&& !x.uses d&& !x.uses g then some (.put d (.whn g want x))else none
  |none=>none
 |_,_=>none
def AOps(P:Program)(N:Nat)(ops:Array Oper)(l:List Nat)(st:ASt)(Q:Exit->ASt->Prop):Prop:=
 ∀F ρ a w,Rel N F ρ st a w->wpOps P ops (λex a' w' =>∃F' ρ' st',Q ex st' /\Rel N F' ρ' st' a' w' /\Fr F ρ w F' ρ' w') l a w
def AW(P:Program)(N:Nat)(c:Code)(st:ASt)(Q:Exit->ASt->Prop):Prop:=
 ∀F ρ a w,Rel N F ρ st a w->c.wp P (λex a' w' =>∃F' ρ' st',Q ex st' /\Rel N F' ρ' st' a' w' /\Fr F ρ w F' ρ' w') a w
omit [Tabs]in
theorem c0h{P:Program}{ops:Array Oper}{Q Q' :Exit->Act->World->Prop}(hq:∀e a w,Q e a w->Q' e a w):∀(l:List Nat) (a:Act) (w:World),wpOps P ops Q l a w->wpOps P ops Q' l a w
 |[],a,w,h=>hq _ _ _ h
 |i::r,a,w,h=>by
  simp only[wpOps]at h⊢;split
  ·rename_i e
   rw[e]at h;exact c0h hq r a w h
  ·rename_i o e
   rw[e]at h;simp only at h;split
   ·rename_i hw
    rw[if_pos hw]at h;rcases h with h|⟨h1,a0,w0,h2⟩
    ·left
     unfold Oper.wp Oper.upon at h⊢;split at h
     ·exact c0h hq r _ _ h
     ·exact c0h hq r _ _ h
     ·exact c0h hq r _ _ h
     ·refine h.mono λe w' he=>?_
      cases e with
      |returned v=>exact c0h hq r _ _ he
      |panicked c=>exact hq _ _ _ he
      |outgrown=>obtain⟨a0,w0,h0⟩:=he;exact⟨a0,w0,hq _ _ _ h0⟩
     ·exact h.mono λv w' hv=>c0h hq r _ _ hv
     ·exact hq _ _ _ h
     ·exact h
    ·exact .inr ⟨h1,a0,w0,hq _ _ _ h2⟩
   ·rename_i hw
    rw[if_neg hw]at h;exact c0h hq r _ _ h
section
variable{P:Program}{N:Nat}{ops:Array Oper}{Q:Exit->ASt->Prop}{st st' :ASt}{l:List Nat}
theorem AOps.nil (h:Q .normal st):AOps P N ops [] st Q:=λF ρ a w hr=>⟨F,ρ,st,h,hr,Fr.refl F ρ w⟩
theorem AOps.after (h:AOps P N ops l st' Q){F F1:Nat->Prop}{ρ ρ1:Env}{w w1:World}{a1:Act}(hr:Rel N F1 ρ1 st' a1 w1)(hf:Fr F ρ w F1 ρ1 w1):
  wpOps P ops (λex a' w' =>∃F' ρ' st',Q ex st' /\Rel N F' ρ' st' a' w' /\Fr F ρ w F' ρ' w') l a1 w1:=
 c0h (λ_ _ _ ⟨F',ρ',s,hq,hr',hf'⟩=>⟨F',ρ',s,hq,hr',hf.trans hr.rw.dis hf'⟩) l a1 w1 (h F1 ρ1 a1 w1 hr)
def IEff(P:Program)(N:Nat)(ops:Array Oper)(i:Nat)(st:ASt)(e:Eff):Prop:=
 ∀F ρ a w,Rel N F ρ st a w->∀(K:Act->World->Prop) (R:Exit->Act->World->Prop),(∀v w' F' ρ',Rel N F' ρ' (e.app st) (a.put e.dst v) w' ->Fr F ρ w F' ρ' w' ->Tch e ρ w ρ' w' ->K (a.put e.dst v) w')->
  wpOp P ops R i K a w
theorem AOps.ieff {i:Nat}{e:Eff}(h:IEff P N ops i st e)(k:AOps P N ops l (e.app st) Q):AOps P N ops (i::l) st Q:=by
 intro F ρ a w hr;rw[wpOps_cons];exact h F ρ a w hr _ _ λv w' F' ρ' hr' hf _=>k.after hr' hf
omit [Tabs]in
theorem g0s{ops:Array Oper}{tm:Array Value}{j g:Nat}(hg:t0d ops j=some g)(b:Bool):(yielded ops tm j==some b)=true↔tm.getD g undef=.bool b:=by
 unfold yielded;unfold t0d at hg;rw[hg];simp only[r2g,beq_iff_eq];rw[r2j];cases ht:tm[g]? with
 |none=>simp[undef]
 |some v=>cases v<;>simp
theorem IEff.of_guard {i:Nat}{o:Oper}{j:Nat}{want:Bool}{e:Eff}(ho:ops[i]?=some o)(hg:o.guard=some (j,want))(h:b2z P N ops o j want st=some e):IEff P N ops i st e:=by
 intro F ρ a w hr K R k;unfold b2z at h;split at h
 ·rename_i g d gi hd
  split at h
  ·rename_i x hv
   cases hb:(Nat.blt d N&& !Nat.beq d g&& !x.uses d&& !x.uses g)with
   |false=>rw[hb]at h;cases h
   |true=>
    rw[hb]at h;cases h;simp only[r2i,s2v]at hb;obtain⟨⟨⟨h1,h2⟩,h3⟩,h4⟩:=hb;have l3:g≠d:=λe=>s2d h2 e.symm;simp only[wpOp,ho];by_cases hw:a.tmps.getD g undef=.bool want
    ·rw[if_pos (by simp only[Region.wanted,hg];exact(g0s gi want).2 hw)]
     left;have hr2:=hr.unw _ (n0z hr 8 g want hw);obtain⟨v,e,hx⟩:=k1z hr2 hv;simp only[Oper.wp,Oper.upon,e,hd];refine k v w F ρ (hr.put d (a0e h1) (.whn _ _ _ _ (λ_=>hx.tm h3) λhc=>?_)) (Fr.refl F ρ w) (.none λ_ _=>rfl);rw[a0l _ _ _ _ _ l3]at hc;exact absurd hw hc
    ·rw[if_neg (by simp only[Region.wanted,hg];exact λhc=>hw ((g0s gi want).1 hc)),hd]
     refine k undef w F ρ (hr.put d (a0e h1) (.whn _ _ _ _ (λhc=>?_) λ_=>rfl)) (Fr.refl F ρ w) (.none λ_ _=>rfl);rw[a0l _ _ _ _ _ l3]at hc;exact absurd hc hw
  ·cases h
 ·cases h
theorem AOps.done (h:Q .normal st){i:Nat}:AOps P N ops (List.range' i 0) st Q:=.nil h
omit [Tabs]in
theorem RelOb.cut {w:World}{F:Nat->Prop}{ρ ρ' :Env}{k:Nat}{o:AObj}(h:RelOb w F ρ k o)(hk:ρ' k=ρ k)(hs:∀j l,ρ' j=some l->ρ j=some l):RelOb w F ρ' k o:=by
 induction h with
 |gone h=>exact .gone (hk.trans h)
 |na t ee xs h ih=>exact .na t ee xs ih
 |any o h ih=>exact .any _ ih
 |box cs oty b c t aQ aG hb hz hh=>exact .box cs _ b c t aQ (hk.trans aG) hb hz λi hi=>(hh i hi).mono (λ_ _=>rfl) (λ_ h=>h) hs
 |arr t e n cs u xs aG ho hz hh=>exact .arr t e n cs u xs (hk.trans aG) ho hz hh
 |tab b o aG hF hb=>exact .tab b o (hk.trans aG) hF hb
 |it s pos b aG hb=>exact .it s pos b (hk.trans aG) hb
 |fz t xs u aG h=>exact .fz t xs u (hk.trans aG) h
 |mi kt vt l cur b mo si se la aG hb hm=>exact .mi kt vt l cur b mo si se la (hk.trans aG) hb hm
 |mp t kt vt l b es c aG hb hs h dn hd=>exact .mp t kt vt l b es c (hk.trans aG) hb hs h dn hd
 |mr tm te kt e l pd b es c pv us aG hb hM=>exact .mr tm te kt e l pd b es c pv us (hk.trans aG) hb hM
theorem AW.after {c:Code}(h:AW P N c st' Q){F F1:Nat->Prop}{ρ ρ1:Env}{w w1:World}{a1:Act}(hr:Rel N F1 ρ1 st' a1 w1)(hf:Fr F ρ w F1 ρ1 w1):
  c.wp P (λex a' w' =>∃F' ρ' st',Q ex st' /\Rel N F' ρ' st' a' w' /\Fr F ρ w F' ρ' w') a1 w1:=
 wp_mono (h F1 ρ1 a1 w1 hr) λ_ _ _ ⟨F',ρ',s,hq,hr',hf'⟩=>⟨F',ρ',s,hq,hr',hf.trans hr.rw.dis hf'⟩
def kind:Code->Nat
 |.skip=>0
 |.region _ _ false=>1
 |.region _ _ true=>11
 |.seq _ _=>2
 |.cond _ _ _=>3
 |.block _ _=>4
 |.loop _=>5
 |.exit _=>6
 |.ret=>7
 |.label _=>8
 |_=>99
def cl:Code->Code
 |.seq a _=>a
 |.cond _ a _=>a
 |.block _ a=>a
 |.loop a=>a
 |_=>.skip
def cr:Code->Code
 |.seq _ b=>b
 |.cond _ _ b=>b
 |_=>.skip
def copd:Code->Operand
 |.cond o _ _=>o
 |_=>.tmp 0
def cid:Code->Nat
 |.block i _=>i
 |.exit i=>i
 |.region i _ _=>i
 |_=>0
def cops:Code->Array Oper
 |.region _ ops _=>ops
 |_=>#[]
def Then(P:Program)(N:Nat)(c:Code)(Q:Exit->ASt->Prop)(ex:Exit)(s:ASt):Prop:=
 match ex with
 |.normal=>AW P N c s Q
 |e=>Q e s
def a2m(i:Nat)(Q:Exit->ASt->Prop)(ex:Exit)(s:ASt):Prop:=
 match ex with
 |.exit j=>bif Nat.beq j i then Q .normal s else Q (.exit j) s
 |e=>Q e s
theorem AW.skip {c:Code}(hk:kind c=0)(h:Q .normal st):AW P N c st Q:=by
 intro F ρ a w hr;cases c<;>first|(exact wp_skip ⟨F,ρ,st,h,hr,Fr.refl F ρ w⟩)| (simp[kind]at hk)| skip
 rename_i d;cases d<;>simp[kind]at hk
theorem AW.ret {c:Code}(hk:kind c=7)(h:Q .ret st):AW P N c st Q:=by
 intro F ρ a w hr;cases c<;>first|(exact wp_ret ⟨F,ρ,st,h,hr,Fr.refl F ρ w⟩)| (simp[kind]at hk)| skip
 rename_i d;cases d<;>simp[kind]at hk
theorem AW.exit {c:Code}(hk:kind c=6)(h:Q (.exit (cid c)) st):AW P N c st Q:=by
 intro F ρ a w hr;cases c<;>first|(exact wp_exit ⟨F,ρ,st,h,hr,Fr.refl F ρ w⟩)| (simp[kind]at hk)| skip
 rename_i d;cases d<;>simp[kind]at hk
theorem AW.seq {c:Code}(hk:kind c=2)(h:AW P N (cl c) st (Then P N (cr c) Q)):AW P N c st Q:=by
 intro F ρ a w hr;cases c<;>first|(simp[kind]at hk;done)| skip
 ·rename_i d
  cases d<;>simp[kind]at hk
 ·rename_i x y
  refine wp_seq (wp_mono (h F ρ a w hr) λe a1 w1 ⟨F1,ρ1,s1,hq,hr1,hf⟩=>?_);cases e with
  |normal=>exact AW.after hq hr1 hf
  |_=>exact⟨F1,ρ1,s1,hq,hr1,hf⟩
theorem AW.block {c:Code}(hk:kind c=4)(h:AW P N (cl c) st (a2m (cid c) Q)):AW P N c st Q:=by
 intro F ρ a w hr;cases c<;>first|(simp[kind]at hk;done)| skip
 ·rename_i d
  cases d<;>simp[kind]at hk
 ·rename_i id x
  refine wp_block (wp_mono (h F ρ a w hr) λe a1 w1 ⟨F1,ρ1,s1,hq,hr1,hf⟩=>?_);cases e with
  |exit j=>
   simp only[a2m,cid]at hq;simp only[Exit.inBlock];cases hb:Nat.beq j id with
   |true=>
    rw[hb]at hq;rw[if_pos (r2h hb)];exact⟨F1,ρ1,s1,hq,hr1,hf⟩
   |false=>
    rw[hb]at hq;rw[if_neg (s2d hb)];exact⟨F1,ρ1,s1,hq,hr1,hf⟩
  |_=>exact⟨F1,ρ1,s1,hq,hr1,hf⟩
theorem AW.cond {c:Code}{b:Bool}(hk:kind c=3)(hb:n0c (ev st.fr (copd c))=some b)(ht:b=true->AW P N (cl c) st Q)(hf:b=false->AW P N (cr c) st Q):AW P N c st Q:=by
 intro F ρ a w hr;cases c<;>first|(simp[kind]at hk;done)| skip
 ·rename_i d
  cases d<;>simp[kind]at hk
 ·rename_i o x y
  have e:=c0p (a0d hr o) hb;cases b with
  |true=>exact wp_cond_true e (ht rfl F ρ a w hr)
  |false=>exact wp_cond_false e (hf rfl F ρ a w hr)
theorem AW.region {c:Code}{n:Nat}(hk:kind c=1)(hn:(cops c).size=n)(h:AOps P N (cops c) (List.range' 0 n) st Q):AW P N c st Q:=by
 intro F ρ a w hr;cases c<;>first|(simp[kind]at hk;done)| skip
 rename_i id os d;cases d with
 |true=>simp[kind]at hk
 |false=>
  simp only[cops]at hn h;subst hn;rw [<-List.range_eq_range']at h;exact wp_region (h F ρ a w hr)
def Goes(N:Nat)(s s' :ASt):Prop:=∀F ρ a w,Rel N F ρ s a w->∃F' ρ',Rel N F' ρ' s' a w/\Fr F ρ w F' ρ' w
theorem AW.loopG {α:Type}{c:Code}(hk:kind c=5)(I:α->ASt)(μ:α->Nat)(x0:α)(h0:st=I x0)
  (round:∀x,AW P N (cl c) (I x) (λex s=>match ex with|.normal=>∃y,Goes N s (I y)/\μ y<μ x|e=>Q e s)):AW P N c st Q:=by
 subst h0;intro F ρ a w hr;cases c<;>first|(simp[kind]at hk;done)| skip
 ·rename_i d
  cases d<;>simp[kind]at hk
 ·rename_i body
  have key:∀n (x:α),μ x=n->∀(F1:Nat->Prop) (ρ1:Env) (a1:Act) (w1:World),Rel N F1 ρ1 (I x) a1 w1->Fr F ρ w F1 ρ1 w1->∀(b:Frame) (k:List Item) (cs:List Frame),
    ∃e a' w',(∃F' ρ' st',Q e st' /\Rel N F' ρ' st' a' w' /\Fr F ρ w F' ρ' w')/\Arrives P (lone (b.at a1 (.code body:: .inLoop body::k)) cs w1) b k cs e a' w' :=by
   intro n
   induction n using Nat.strongRecOn with
   |_ n ih=>
    intro x hn F1 ρ1 a1 w1 hr1 hf1 b k cs;obtain⟨e,a2,w2,⟨F2,ρ2,s2,hq,hr2,hf2⟩,a8⟩:=round x F1 ρ1 a1 w1 hr1 b (.inLoop body::k) cs;have hf:=hf1.trans hr1.rw.dis hf2;cases e with
    |normal=>
     obtain⟨y,nN,aJ⟩:=hq;obtain⟨F4,ρ4,oH,pC⟩:=nN F2 ρ2 a2 w2 hr2;obtain⟨e3,a3,w3,pE,jz⟩:=ih (μ y) (hn▸aJ) y rfl F4 ρ4 a2 w2 oH (hf.trans hr2.rw.dis pC) b k cs;exact⟨e3,a3,w3,pE,.of_steps (Steps.trans a8 (.one step_inLoop)) jz⟩
    |exit id=>exact⟨_,a2,w2,⟨F2,ρ2,s2,hq,hr2,hf⟩,.pass (x:=.inLoop body) rfl (λ_ _=>.inl (by simp)) a8⟩
    |goto l=>exact⟨_,a2,w2,⟨F2,ρ2,s2,hq,hr2,hf⟩,.pass (x:=.inLoop body) rfl (λ_ _=>.inl (by simp)) a8⟩
    |ret=>exact⟨_,a2,w2,⟨F2,ρ2,s2,hq,hr2,hf⟩,.pass (x:=.inLoop body) rfl (λ_ _=>.inl (by simp)) a8⟩
    |panic ch=>exact⟨_,a2,w2,⟨F2,ρ2,s2,hq,hr2,hf⟩,.pass (x:=.inLoop body) rfl (λ_ _=>.inl (by simp)) a8⟩
    |outgrown=>exact⟨_,a2,w2,⟨F2,ρ2,s2,hq,hr2,hf⟩,.pass (x:=.inLoop body) rfl (λ_ _=>.inl (by simp)) a8⟩
  intro b k cs;obtain⟨e,a',w',hq,a8⟩:=key _ x0 rfl F ρ a w hr (Fr.refl F ρ w) b k cs;exact⟨e,a',w',hq,.of_steps (.one step_loop) a8⟩
theorem AW.mono {c:Code}{Q' :Exit->ASt->Prop}(h:AW P N c st Q)(hq:∀e s,Q e s->Q' e s):AW P N c st Q' :=by
 intro F ρ a w hr;exact wp_mono (h F ρ a w hr) λ_ _ _ ⟨F',ρ',s,q,r,f⟩=>⟨F',ρ',s,hq _ _ q,r,f⟩
end
mutual
def AV.plain:AV->Bool
 |.whn _ _ _=>false
 |.tup vs=>AV.plainL vs
 |_=>true
def AV.plainL:List AV->Bool
 |[]=>true
 |v::r=>AV.plain v&&AV.plainL r
end
omit [Tabs]in
theorem AV.plainL_get:∀{l:List AV},AV.plainL l=true->∀i (h:i<l.length),AV.plain l[i]=true
 |[],_,i,h=>by simp at h
 |c::r,h,i,hi=>by
  simp only[AV.plainL,r2i]at h;cases i with
  |zero=>simpa using h.1
  |succ i=>simpa using AV.plainL_get h.2 i (by simpa using hi)
omit [Tabs]in
theorem RelAV.retm {w:World}{F:Nat->Prop}{ρ:Env}{tm eZ:Array Value}{x:AV}{v:Value}(h:RelAV w F ρ tm x v)(hx:x.plain=true):RelAV w F ρ eZ x v:=by
 induction h with
 |cell c v h=>exact .cell c v h
 |agg cs arr hz h=>exact .agg cs arr hz h
 |aggD cs arr hz h=>exact .aggD cs arr hz h
 |tup vs arr hz h ih=>exact .tup vs arr hz λi hi=>ih i hi (AV.plainL_get (by simpa[AV.plain]using hx) i hi)
 |whn g want x v h h' ih=>simp[AV.plain]at hx
 |junk v=>exact .junk v
inductive AEnd where
 |ret(x:AV)
 |panicked(chain:List PanicEntry)
def p0g(w:World)(F:Nat->Prop)(ρ:Env):AEnd->Ending->Prop
 |.ret x,.returned v=>RelAV w F ρ #[] x v
 |.panicked c,.panicked c' =>c=c'
 |_,_=>False
structure RelArgs(w:World)(F:Nat->Prop)(ρ:Env)(args:List AV)(vs:Array Value):Prop where
 sz:vs.size=args.length
 rel:∀i (h:i<args.length),RelAV w F ρ #[] args[i] (vs.getD i undef)
def ACalls(P:Program)(f:FuncId)(args:List AV)(ob:List (Nat×AObj))(R:AEnd->List (Nat×AObj)->Prop):Prop:=
 ∀F ρ (vs:Array Value) w,RelW F ρ w->(∀k,RelOb w F ρ k (lkO ob k))->RelArgs w F ρ args vs->
  Calls P f vs w λe w' =>∃F' ρ' r bG,R r bG/\p0g w' F' ρ' r e/\RelW F' ρ' w' /\(∀k,RelOb w' F' ρ' k (lkO bG k))/\Fr F ρ w F' ρ' w'
theorem ACalls.mono {P:Program}{f:FuncId}{args:List AV}{ob:List (Nat×AObj)}{R R' :AEnd->List (Nat×AObj)->Prop}(h:ACalls P f args ob R)(hr:∀r o,R r o->R' r o):ACalls P f args ob R' :=
 λF ρ vs w h1 h2 h3=>(h F ρ vs w h1 h2 h3).mono λ_ _ ⟨F',ρ',r,o,q,rest⟩=>⟨F',ρ',r,o,hr _ _ q,rest⟩
def resV(P:Program)(st:ASt):List ResultVar->Option (List AV)
 |[]=>some []
 |.tmp t::r=>(resV P st r).map (lkF st.fr t:: ·)
 |.cell a t::r=>match l1l P st.fr st.ob t (.tmp a),resV P st r with
  |some x,some l=>some (x::l)
  |_,_=>none
def res1(P:Program)(st:ASt)(rs:List ResultVar):Option AV:=
 match resV P st rs with
 |some [x]=>bif x.plain then some x else none
 |some l=>bif AV.plainL l then some (.tup l)else none
 |none=>none
def k1a(tm:Array Value):ResultVar->Sem Value
 |.tmp t=>pure (tm.getD t undef)
 |.cell b t=>do loadVar t (<-asAddr (tm.getD b undef))
omit [Tabs]in
theorem n1v(fn:Func)(tm:Array Value):results fn tm=(do let vs <-fn.results.mapM (k1a tm);pure (if h:vs.size=1 then vs[0]else .tuple vs)):=by
 unfold results;rfl
theorem y0t{P:Program}{N:Nat}{F:Nat->Prop}{ρ:Env}{st:ASt}{a:Act}{w:World}(h:Rel N F ρ st a w):∀{rs:List ResultVar} {l:List AV},resV P st rs=some l->
  ∃vs:List Value,(rs.mapM (k1a a.tmps)).run P w=.ok vs w/\
   vs.length=l.length/\∀i (h1:i<l.length) (h2:i<vs.length),RelAV w F ρ a.tmps l[i] vs[i]
 |[],l,hl=>by
  cases hl;exact⟨[],rfl,rfl,λi hi=>by simp at hi⟩
 |.tmp t::r,l,hl=>by
  simp only[resV,t2f]at hl;obtain⟨l',bT,rfl⟩:=hl;obtain⟨vs,e,hz,hh⟩:=y0t h bT;refine⟨a.tmps.getD t undef::vs,?_,by simp[hz],λi h1 h2=>?_⟩
  ·simp only[List.mapM_cons,k1a,Sem.run_bind,Sem.run_pure,Result.andThen_ok,e]
  ·cases i with
   |zero=>exact h.fr t
   |succ i=>simpa using hh i (by simpa using h1) (by simpa using h2)
 |.cell b t::r,l,hl=>by
  unfold resV at hl;split at hl
  ·rename_i x l' hx bT
   cases hl;obtain⟨vs,e,hz,hh⟩:=y0t h bT;obtain⟨v,ev,hv⟩:=r0h h hx;have oX:(do loadVar t (<-asAddr (a.tmps.getD b undef)):Sem Value).run P w=.ok v w:=by
    have h1:=ev;simp only[Act.eval,Instr.loadAt]at h1;generalize a.tmps.getD b undef=bv at h1;rw[Sem.run_bind]at h1⊢;cases bv with
    |pointer q=>
     cases q with
     |none=>simp[Instr.sureAddr]at h1
     |some ad=>simpa[asAddr,Instr.sureAddr]using h1
    |_=>simp[Instr.sureAddr]at h1
   refine⟨v::vs,?_,by simp[hz],λi h1 h2=>?_⟩
   ·rw[List.mapM_cons,Sem.run_bind,k1a,oX,Result.andThen_ok,Sem.run_bind,e]
    rfl
   ·cases i with
    |zero=>exact hv
    |succ i=>simpa using hh i (by simpa using h1) (by simpa using h2)
  ·cases hl
theorem b2l{P:Program}{N:Nat}{F:Nat->Prop}{ρ:Env}{st:ASt}{a:Act}{w:World}(h:Rel N F ρ st a w){fn:Func}{x:AV}(hx:res1 P st fn.results.toList=some x):
  ∃v,(results fn a.tmps).run P w=.ok v w/\RelAV w F ρ #[] x v:=by
 unfold res1 at hx;have key:∀{l:List AV},resV P st fn.results.toList=some l->∃vs:List Value,vs.length=l.length/\(∀i (h1:i<l.length) (h2:i<vs.length),RelAV w F ρ a.tmps l[i] vs[i])/\
   (results fn a.tmps).run P w=.ok (if h:vs.toArray.size=1 then vs.toArray[0]else .tuple vs.toArray) w:=by
  intro l hl;obtain⟨vs,e,hz,hh⟩:=y0t h hl;refine⟨vs,hz,hh,?_⟩;rw[n1v,Sem.run_bind];rw[Array.mapM_eq_mapM_toList,Sem.run_map,e];rfl
 split at hx
 ·rename_i y hy
  cases hp:y.plain with
  |false=>rw[hp]at hx;cases hx
  |true=>
   rw[hp]at hx;cases hx;obtain⟨vs,hz,hh,hrun⟩:=key hy
   match vs,hz with
   |[v],_=>
    refine⟨v,by rw[hrun];rfl,(hh 0 (by simp) (by simp)).retm hp⟩
 ·rename_i l aS hl
  cases hp:AV.plainL l with
  |false=>rw[hp]at hx;cases hx
  |true=>
   rw[hp]at hx;cases hx;obtain⟨vs,hz,hh,hrun⟩:=key hl;have h1:¬vs.toArray.size=1:=by
    intro h1
    match l,hz,aS with
    |[],hz,_=>simp at hz;simp[hz]at h1
    |[y],_,aS=>exact aS y rfl
    |_::_::_,hz,_=>simp at hz h1;omega
   refine⟨.tuple vs.toArray,by rw[hrun,dif_neg h1],.tup _ _ (by simpa using hz) λi hi=>?_⟩;have hi2:i<vs.length:=by omega
   have e1:vs.toArray.getD i undef=vs[i]:=by simp[r2j,hi2]
   rw[e1];exact(hh i hi hi2).retm (AV.plainL_get hp i hi)
 ·cases hx
def frOf(args:List AV)(i:Nat):List (Nat×AV):=
 match args with
 |[]=>[]
 |x::r=>(i,x)::frOf r (i+1)
omit [Tabs]in
theorem n0e:∀(args:List AV) (s i:Nat),lkF (frOf args s) i=if h:s<=i/\i<s+args.length then args[i - s]'(by omega)else .junk
 |[],s,i=>by rw[dif_neg (λhh=>by simp at hh;omega)];rfl
 |x::r,s,i=>by
  simp only[frOf,lkF];cases hb:Nat.beq i s with
  |true=>
   have:=r2h hb;subst this;simp
  |false=>
   have:=s2d hb;rw[u2k,n0e r (s+1) i];by_cases h:s+1<=i/\i<s+1+r.length
   ·rw[dif_pos h,dif_pos (by simp only[r2w];omega)]
    have e:i - s=(i - (s+1))+1:=by omega
    simp[e]
   ·rw[dif_neg h,dif_neg (by simp only[r2w];omega)]
end Esp

import Derived.Test.YtcloicgnanjbcaaGreatDoorEvFn
noncomputable section
namespace Esp
open Go
set_option linter.unusedSimpArgs false
set_option linter.unusedVariables false
variable [Tabs]
def bsOf:List Oper→List Nat→List Nat
 | [],bs=>bs
 | o::r,bs=>bsOf r (bs++ [orD bs o.after.toList])
def h0s(bs:List Nat)(sk effs:List Eff)(st:ASt)(i:Nat):ASt:=
 (k0h (Nat.blt · i) 0 effs st).weak (k0y (c0g bs i 0 sk)) (k0u (c0g bs i 0 sk)) (tchs (c0g bs i 0 sk)) (fun _=> .any)
def w1z:Eff→Eff→Bool
 | .put d _, .put d' _=>Nat.beq d d'
 | .new k _ d _, .new k' _ d' _=>Nat.beq k k' &&Nat.beq d d'
 | .upd k _, .upd k' _=>Nat.beq k k'
 | .upp k _ d _, .upp k' _ d' _=>Nat.beq k k' &&Nat.beq d d'
 | _,_=>false
def f0z:List Eff→List Eff→Bool
 | [], []=>true
 | x::r,y::s=>w1z x y&&f0z r s
 | _,_=>false
def u0z:List AC→Bool
 | []=>true
 | .d _::r=>u0z r
 | _=>false
omit [Tabs]in
theorem v0i(g:Nat→Option Nat): ∀{cs:List AC},u0z cs=true→AC.renL g cs=cs
 | [],_=>rfl
 | .d x::r,h=>by simp only [AC.renL,AC.ren,v0i g (cs:=r) h]
 | .own _::_,h=>by cases h
 | .ptr _ _::_,h=>by cases h
 | .elt _ _ _ _::_,h=>by cases h
 | .osl _ _ _ _::_,h=>by cases h
 | .pn _::_,h=>by cases h
 | .ifo _ _::_,h=>by cases h
 | .mpr _::_,h=>by cases h
 | .fn _ _ _::_,h=>by cases h
 | .junk::_,h=>by cases h
omit [Tabs]in
theorem v0y{w:World}{F:Nat→Prop}{ρ ρ' :Env}: ∀{cs:List AC},u0z cs=true→∀i (h:i<cs.length) v,RelAC w F ρ cs[i] v→RelAC w F ρ' cs[i] v
 | .d x::r,h,0,_,v,hv=>by cases hv with | d x v hd=>exact .d _ _ hd
 | .d x::r,h,i+1,hi,v,hv=>v0y (cs:=r) h i (by simpa using hi) v hv
 | [],_,i,hi,_,_=>by simp at hi
 | .own _::_,h,_,_,_,_=>by cases h
 | .ptr _ _::_,h,_,_,_,_=>by cases h
 | .elt _ _ _ _::_,h,_,_,_,_=>by cases h
 | .osl _ _ _ _::_,h,_,_,_,_=>by cases h
 | .pn _::_,h,_,_,_,_=>by cases h
 | .ifo _ _::_,h,_,_,_,_=>by cases h
 | .mpr _::_,h,_,_,_,_=>by cases h
 | .fn _ _ _::_,h,_,_,_,_=>by cases h
 | .junk::_,h,_,_,_,_=>by cases h
section
variable{P:Program}{N:Nat}{ops:Array Oper}{st:ASt}{i:Nat}
theorem IEff.bcall{d j kk:Nat}{f:FuncId}{cargs:List AV}{cs0 cs1:List AC}{x:AV}(h:c0q P ops i st=some (some d,f,cargs))(hd:Nat.blt d N=true)(hpl:AV.plainL cargs=true)(hk:Nat.ble 1000000 kk=true)
  {ty0 ty1:Option TypeId}(hob:lkO st.ob j= .box cs0 ty0)(h0:u0z cs0=true)(h1:u0z cs1=true)(spec:ACalls P f (e0a [(kk,j)] [] 0 cargs) [(kk, .box cs0 ty0)] (EX x [(kk, .box cs1 ty1)])){y:AV}(hx:(x.frozen=true∧y=x)∨(x= .cell (.ptr kk 0)∧y= .cell (.ptr j 0))):IEff P N ops i st (.upp j (.box cs1 ty1) d y):=by
 unfold c0q at h;split at h
 ·rename_i d' c ty pos after guard ho
  split at h
  ·rename_i f' args' hc
   cases hb:a0p P f' with
   | false=>rw [hb]at h;cases h
   | true=>
    rw [hb]at h;cases h;intro F ρ a w hr K R kont;obtain⟨e,hw⟩:=b0c hr ho;obtain⟨vs,hrun,hsz,hrel⟩:=c0b hr hc hb ty;simp only [wpOp,e];rw [if_pos hw];left;have hrun' :(execOp a.eval ⟨some d, .call c,ty,pos,after,guard⟩).run P w= .ok (.enter f vs) w:=hrun;simp only [Oper.wp,Oper.upon,hrun'];have hom:once [(kk,j)]=true:=by simp [once]
    obtain⟨e1,e2,hren⟩:=i0q hr (m:= [(kk,j)]) (ns:= []) hom;have e3:q0h st.ob [(kk,j)] []= [(kk, .box cs0 ty0)]:=by simp [q0h,hob,AObj.ren,v0i _ h0]
    have henv: ∀k,d0l ρ [(kk,j)] [] k=if k=kk then ρ j else none:=by
     intro k;unfold d0l;simp only [fwd];cases hbb:Nat.beq k kk with
     | true=>simp [j2t hbb]
     | false=>simp [k2p hbb]
    refine(spec F (d0l ρ [(kk,j)] []) vs w e1 (fun k=>by rw [←e3];exact e2 k (.inr rfl)) ⟨by rw [b0j];exact hsz,fun q hq=> ?_⟩).mono fun en w' ⟨F',ρ',rr,ob',⟨hq,ho2⟩,hre,hrw,hrob,hfr⟩=> ?_
    ·have hq' :q<cargs.length:=by rw [b0j]at hq;exact hq
     rw [h0t _ _ _ _ _ hq' hq];exact m0c hren rfl ((hrel q hq').retm (AV.plainL_get hpl q hq'))
    ·subst hq
     subst ho2;cases en with
     | returned v=>
      have hv:RelAV w' F' ρ' #[] x v:=hre;have hlive: ∀b,live (d0l ρ [(kk,j)] []) b→∃l,ρ j=some l∧l.blk=some b:=by
       rintro b ⟨k,l,hk1,hl⟩;rw [henv]at hk1;split at hk1
       ·exact⟨l,hk1,hl⟩
       ·cases hk1
      have hkeep: ∀b,b<w.heap.size→(∀l,ρ j=some l→l.blk≠some b)→w'.heap[b]? =w.heap[b]? :=fun b hb hn=>hfr.keep b hb fun hl=>by
       obtain⟨l,h3,h4⟩:=hlive b hl;exact hn l h3 h4
      have hF: ∀b,F b→w'.heap[b]? =w.heap[b]? :=fun b hb=>hfr.keep b (hr.rw.lt b hb) (e1.dis b hb);have hdis: ∀b,F' b→¬live ρ b:=by
       rintro b hb ⟨k,l,hk1,hl⟩;have hlt:=(hr.ob k).lt hk1 hl;by_cases hkj:k=j
       ·subst hkj
        -- the box's own block stays live in the callee
        have hbx:=hrob kk;simp only [lkO,m2n,cond_true]at hbx;cases hbx with
        | box cs oty b' c t hoty hkk hbb hs hh=>
         have hst:=hfr.stab kk (k2d hk);rw [henv,if_pos rfl,hk1,hkk]at hst;cases l with
         | box b2=>
          simp only [Stab]at hst;cases hl;subst hst;exact hrw.dis _ hb ⟨kk,_,hkk,rfl⟩
         | arr u=>simp [Stab]at hst
       ·rcases hfr.old b hlt (.inl hb)with h3 | h3
        ·exact hr.rw.dis b h3 ⟨k,l,hk1,hl⟩
        ·obtain⟨l2,h4,h5⟩:=hlive b h3
         exact hkj (hr.rw.inj _ _ _ _ b hk1 h4 hl h5)
      have hfr' :Fr F ρ w F' ρ w' :=by
       refine⟨hfr.os,hfr.tape,hfr.output,hfr.size,hfr.sub,fun b hb hl=>hkeep b hb fun l h3 h4=>hl ⟨j,l,h3,h4⟩,fun b hb hh=> ?_,fun _ _=>Stab.refl _ _⟩;rcases hh with h3 | h3
       ·rcases hfr.old b hb (.inl h3)with h4 | h4
        ·exact .inl h4
        ·obtain⟨l,h5,h6⟩:=hlive b h4
         exact .inr ⟨j,l,h5,h6⟩
       ·exact .inr h3
      have hy:RelAV w' F' ρ (a.put (some d) v).tmps y v:=by
       rcases hx with⟨hx,rfl⟩ | ⟨rfl,rfl⟩
       ·exact hv.frozen_any hx
       ·cases hv with
        | cell c v h=>cases h with
         | ptr k off v h=>
          refine .cell _ _ (.ptr _ _ _ fun b hb=> ?_);have hbx:=hrob kk;simp only [lkO,m2n,cond_true]at hbx;cases hbx with
          | box cs oty b' c t hoty hkk hbb hs hh=>
           have hst:=hfr.stab kk (k2d hk);rw [henv,if_pos rfl,hb,hkk]at hst;simp only [Stab]at hst;subst hst;exact h _ hkk
      have hrel' :Rel N F' ρ ((Eff.upp j (.box cs1 ty1) d y).app st) (a.put (some d) v) w' :=by
       refine⟨⟨hdis,hrw.lt,hr.rw.inj,hrw.tab⟩,fun q=> ?_,fun k=> ?_,by simpa [Act.put]using hr.sz,hr.df⟩
       ·rw [b0s]
        simp only [Eff.appF,Act.put];by_cases hqd:q=d
        ·subst hqd
         rw [if_pos rfl,j0l _ _ _ _ (by rw [hr.sz];exact a0j hd)];exact hy
        ·rw [if_neg hqd,a0m _ _ _ _ _ hqd]
         exact((hr.fr q).mono hF hfr.sub fun _ _ h=>h).dropW
       ·rw [g0d]
        simp only [Eff.appF];by_cases hkj:k=j
        ·subst hkj
         rw [if_pos rfl];have hbx:=hrob kk;simp only [lkO,m2n,cond_true]at hbx;have hb0:=hr.ob k;rw [hob]at hb0;cases hb0 with
         | box cs oty b2 c2 t2 hoty hk2 hb2 hs2 hh2=>
          cases hbx with
          | box cs oty b' c t hoty hkk hbb hs hh=>
           have hst:=hfr.stab kk (k2d hk);rw [henv,if_pos rfl,hk2,hkk]at hst;simp only [Stab]at hst;subst hst;exact .box _ _ _ c t hoty hk2 hbb hs fun q hq=>v0y h1 q hq _ (hh q hq)
        ·rw [if_neg hkj]
         exact(hr.ob k).through hF hfr.sub fun l b hl hb=>hkeep b ((hr.ob k).lt hl hb) fun l2 h3 h4=>hkj (hr.rw.inj _ _ _ _ b hl h3 hb h4)
      exact kont v w' F' ρ hrel' hfr' ⟨fun _ _=>rfl,fun b hb hn=>hkeep b hb fun l h3 h4=>hn j l rfl h3 h4⟩
     | panicked chain=>exact hre.elim
     | outgrown=>exact hre.elim
  ·cases h
 ·cases h
end
section
variable{P:Program}{N:Nat}{ops:Array Oper}{st:ASt}{i:Nat}
theorem IEff.ncall{d K:Nat}{f:FuncId}{cargs:List AV}{x:AV}{ob:AObj}(h:c0q P ops i st=some (some d,f,cargs))(hd:Nat.blt d N=true)(hz:AV.frozenL cargs=true)(hpl:x.plain=true)
  (spec:ACalls P f cargs [] (EX x [(K,ob)])):IEff P N ops i st (.new d (ob.ren (fwd [(K,d)])) d (x.ren (fwd [(K,d)]))):=by
 unfold c0q at h;split at h
 ·rename_i d' c ty pos after guard ho
  split at h
  ·rename_i f' args' hc
   cases hb:a0p P f' with
   | false=>rw [hb]at h;cases h
   | true=>
    rw [hb]at h;cases h;intro F ρ a w hr KK R kk;obtain⟨e,hw⟩:=b0c hr ho;obtain⟨vs,hrun,hsz,hrel⟩:=c0b hr hc hb ty;simp only [wpOp,e];rw [if_pos hw];left;have hrun' :(execOp a.eval ⟨some d, .call c,ty,pos,after,guard⟩).run P w= .ok (.enter f vs) w:=hrun;simp only [Oper.wp,Oper.upon,hrun'];have h0:RelW F (fun _=>none) w:=⟨(fun b _ ⟨k,l,hk,_⟩=>by cases hk),hr.rw.lt,(fun k k' l l' b hk=>by cases hk),hr.rw.tab⟩;refine(spec F (fun _=>none) vs w h0 (fun k=> .gone rfl) ⟨hsz,fun j hj=>(hrel j hj).frozen_any (AV.frozenL_get hz j hj)⟩).mono fun en w' ⟨F',ρ',r,ob',⟨hq,ho2⟩,hre,hrw,hrob,hfr⟩=> ?_;subst hq;subst ho2;have hnl: ∀b,¬live (fun _=>none) b:=fun b ⟨k,l,hk,_⟩=>by cases hk
    cases en with
    | returned v=>
     have hv:RelAV w' F' ρ' #[] x v:=hre;have hkeep: ∀b,b<w.heap.size→w'.heap[b]? =w.heap[b]? :=fun b hb=>hfr.keep b hb (hnl b);have hkF: ∀b,F b→w'.heap[b]? =w.heap[b]? :=fun b hb=>hkeep b (hr.rw.lt b hb);have hdis: ∀b,F' b→¬live ρ b:=by
      rintro b hb ⟨k,l,hk,hl⟩;have hlt:=(hr.ob k).lt hk hl;rcases hfr.old b hlt (.inl hb)with h | h
      ·exact hr.rw.dis b h ⟨k,l,hk,hl⟩
      ·exact hnl b h
     have hbx:RelOb w' F' ρ' K ob:=by
      have:=hrob K;simp only [lkO,m2n,cond_true]at this;exact this
     have hL: ∀l b,ρ' K=some l→l.blk=some b→¬F' b∧w.heap.size≤b:=by
      intro l b hk hl;have hnF: ¬F' b:=fun hb=>hrw.dis _ hb ⟨K,l,hk,hl⟩;refine⟨hnF, ?_⟩;by_cases hlt:b<w.heap.size
      ·rcases hfr.old b hlt (.inr ⟨K,l,hk,hl⟩)with h | h
       ·exact absurd (hfr.sub _ h) hnF
       ·exact absurd h (hnl _)
      ·omega
     have hren:u0c (fwd [(K,d)]) ρ' (ρ.set d (ρ' K)):=by
      intro k j lo hf hl;simp only [fwd]at hf;cases hb:Nat.beq k K with
      | false=>rw [hb]at hf;cases hf
      | true=>
       rw [hb]at hf;cases hf;rw [Env.set_same]at hl;rw [j2t hb];exact hl
     have hn:Rel N F' (ρ.set d (ρ' K)) (st.newOb d (ob.ren (fwd [(K,d)]))) a w' :=by
      refine⟨⟨?_,hrw.lt, ?_,hrw.tab⟩, ?_, ?_,hr.sz,hr.df⟩
      ·rintro b hb ⟨j,l,hj,hl⟩
       by_cases e:j=d
       ·subst e
        rw [Env.set_same]at hj;exact(hL l b hj hl).1 hb
       ·rw [Env.set_other _ _ _ e]at hj
        exact hdis b hb ⟨j,l,hj,hl⟩
      ·intro x y l l' b hi hj hb hb'
       by_cases e1:x=d<;>by_cases e2:y=d
       ·exact e1.trans e2.symm
       ·subst e1
        rw [Env.set_same]at hi;rw [Env.set_other _ _ _ e2]at hj;have:=(hr.ob y).lt hj hb';have:=(hL l b hi hb).2;omega
       ·subst e2
        rw [Env.set_same]at hj;rw [Env.set_other _ _ _ e1]at hi;have:=(hr.ob x).lt hi hb;have:=(hL l' b hj hb').2;omega
       ·rw [Env.set_other _ _ _ e1]at hi
        rw [Env.set_other _ _ _ e2]at hj;exact hr.rw.inj _ _ _ _ b hi hj hb hb'
      ·intro j
       simp only [ASt.newOb,ASt.killF];rw [c0v (AV.kill d) (AV.kill_junk d)];exact((hr.fr j).kill (Env.set_off ρ d (ρ' K))).mono hkF hfr.sub (fun _ _ h=>h)
      ·intro j
       by_cases e:j=d
       ·subst e
        simp only [ASt.newOb];rw [a0q];exact hbx.ren hren (Env.set_same _ _ _)
       ·simp only [ASt.newOb,ASt.killO]
        rw [a0o _ _ _ _ e,d0i (AObj.kill d) rfl];have h1:=(hr.ob j).kill (Env.set_off ρ d (ρ' K)) e;refine h1.through hkF hfr.sub fun l b hl hb=> ?_;rw [Env.set_other _ _ _ e]at hl;exact hkeep b ((hr.ob j).lt hl hb)
     refine kk v w' F' (ρ.set d (ρ' K)) (hn.put d (a0j hd) ((hv.retm hpl).ren hren)) ?_ ⟨fun j hj=>Env.set_other _ _ _ fun e=>hj (by rw [e];rfl),fun b hb _=>hkeep b hb⟩;refine⟨hfr.os,hfr.tape,hfr.output,hfr.size,hfr.sub,fun b hb _=>hkeep b hb, ?_,fun j hj=> ?_⟩
     ·rintro b hb (h | ⟨j,l,hj,hl⟩)
      ·rcases hfr.old b hb (.inl h)with h' | h'
       ·exact .inl h'
       ·exact absurd h' (hnl b)
      ·by_cases e:j=d
       ·subst e
        rw [Env.set_same]at hj;have:=(hL l b hj hl).2;omega
       ·rw [Env.set_other _ _ _ e]at hj
        exact .inr ⟨j,l,hj,hl⟩
     ·have h1:=hr.df.2
      have h2:=a0j hd;rw [Env.set_other _ _ _ (show j≠d by omega)];exact Stab.refl _ _
    | panicked chain=>exact hre.elim
    | outgrown=>exact hre.elim
  ·cases h
 ·cases h
end
section
variable{ρ:Type}(P:Program)(N:Nat)(T:List (TypeId×Ev.Ty))(M:List (Nat×ArgM))(O:Orc ρ)(ops:Array Oper)
def x0w(d:Nat):List Oper→Bool
 | []=>false
 | o::r=>(match o.op with
  | .call c=>t0e o&&c.args.toList.any fun
   | .tmp t=>Nat.beq t d
   | _=>false
  | _=>false) || x0w d r
def y0p(d:Nat):List Oper→Bool
 | []=>false
 | o::r=>(match o.op with
  | .buildSlice _ _ els=>els.toList.any fun p=>match p.2 with
   | .tmp t=>Nat.beq t d
   | _=>false
  | _=>false) || y0p d r
def x1w(st:ASt)(o:Oper):Eff:=
 match o.guard with
 | some _=> .put (o.dst.getD 0) .junk
 | none=>match o.op with
  | .pick _ _ _=> .put (o.dst.getD 0) .junk
  | .buildSlice _ _ _=>bif x0w (o.dst.getD 0) ops.toList then .put (o.dst.getD 0) .junk else .new (o.dst.getD 0) .any (o.dst.getD 0) (.cell (.own (o.dst.getD 0)))
  | .makeSlice _ _ _=> .new (o.dst.getD 0) .any (o.dst.getD 0) (.cell (.own (o.dst.getD 0)))
  | .box _ _=>match w0d P N o st with
   | some e=>e
   | none=> .new (o.dst.getD 0) .any (o.dst.getD 0) (.cell (.ptr (o.dst.getD 0) 0))
  | .store _ p _=>match w0d P N o st with
   | some e=>e
   | none=>match ev st.fr p with
    | .cell (.ptr k _)=> .upd k (lkO st.ob k)
    | .cell (.elt k _ _ _)=> .upd k (lkO st.ob k)
    | _=> .put 0 .junk
  | .mapEntry _ m _=>match ev st.fr m with
   | .cell (.mpr k)=> .upp k (lkO st.ob k) (o.dst.getD 0) .junk
   | _=> .put (o.dst.getD 0) .junk
  | .entryStore _ m _ _=>match ev st.fr m with
   | .cell (.mpr k)=> .upd k (lkO st.ob k)
   | _=> .put 0 .junk
  | .mapUpdate _ m _ _=>match ev st.fr m with
   | .cell (.mpr k)=> .upd k (lkO st.ob k)
   | _=> .put 0 .junk
  | .slice _ x none (some _) none=>bif j1l M then match ev st.fr x with
    | .cell (.own k)=> .new k (lkO st.ob k) (o.dst.getD 0) (.cell (.own k))
    | _=> .put (o.dst.getD 0) .junk
    else .put (o.dst.getD 0) .junk
  | .indexAddr _ x _=>bif j1l M then match ev st.fr x with
    | .cell (.own k)=> .put (o.dst.getD 0) (.cell (.elt k 0 0 0))
    | _=> .put (o.dst.getD 0) .junk
    else .put (o.dst.getD 0) .junk
  | .call c=>match t0e o with
   | true=>match b0k st.fr c with
    | some (f,args)=>match j1u st.ob args 0 (a0z M f).hand with
     | [(_,j)]=> .upp j (lkO st.ob j) (o.dst.getD 0) .junk
     | _=>match(a0z M f).news with
      | []=> .put (o.dst.getD 0) .junk
      | _=>match(a0z M (1500000000+f)).hand with
       | [n,ix]=> .new (o.dst.getD 0) .any (o.dst.getD 0) (.agg ((List.range n).map fun q=>bif Nat.beq q ix then .own (o.dst.getD 0)else .junk))
       | _=> .new (o.dst.getD 0) .any (o.dst.getD 0) (.cell (.ptr (o.dst.getD 0) 0))
    | none=> .put (o.dst.getD 0) .junk
   | false=>match c.callee,c.args.toList with
    | .builtin .append,s::_=>match ev st.fr s with
     | .cell (.own k)=>bif y0p (o.dst.getD 0) ops.toList then .new k .gone (o.dst.getD 0) .junk else .new k (lkO st.ob k) (o.dst.getD 0) (.cell (.own k))
     | .cell (.ptr k _)=>bif y0p (o.dst.getD 0) ops.toList then .new k .gone (o.dst.getD 0) .junk else .new k .any (o.dst.getD 0) (.cell (.own k))
     | _=> .new (o.dst.getD 0) .any (o.dst.getD 0) (.cell (.own (o.dst.getD 0)))
    | _,_=> .put (o.dst.getD 0) .junk
  | _=>match w0d P N o st with
   | some e=>e
   | none=> .put (o.dst.getD 0) .junk
def u1h:List Oper→ASt→List Eff
 | [],_=> []
 | o::r,st=>x1w P N M ops st o::u1h r ((x1w P N M ops st o).app st)
def e1q:List Oper→ASt→List Nat
 | [],_=> []
 | o::r,st=>b0f M st o++e1q r ((x1w P N M ops st {o with guard:=none}).app st)
def dK(i:Nat)(s:ASt)(k:Eff→Option ρ):Option ρ:=
 match opK ops s.fr i with
 | some o=>match t0e o with
  | true=>match c0q P ops i s with
   | some (some d,f,args)=>bif (a0z M f).bor then bif Nat.blt d N&&AV.frozenL (borL s.ob args)then O f (borL s.ob args) [] fun x o2=>match g1z args x o2 with
    | some y=>k (.put d y)
    | none=>none
    else none else bif Nat.blt d N then
    match j1u s.ob args 0 (a0z M f).hand with
    | []=>bif AV.frozenL args then O f args [] fun x o2=>match o2 with
     | []=>bif x.frozen then k (.put d x)else none
     | [(k2,ob)]=>bif x.plain then k (.new d (ob.ren (fwd [(k2,d)])) d (x.ren (fwd [(k2,d)])))else none
     | _=>none
     else none
    | [(kk,j)]=>match lkO s.ob j with
     | .box cs0 ty0=>bif AV.plainL args&&Nat.ble 1000000 kk&&u0z cs0 then O f (e0a [(kk,j)] [] 0 args) [(kk, .box cs0 ty0)] fun x o2=>match o2 with
      | [(k2, .box cs1 ty1)]=>bif Nat.beq k2 kk&&u0z cs1 then bif x.frozen then k (.upp j (.box cs1 ty1) d x)else match x with
       | .cell (.ptr k3 0)=>bif Nat.beq k3 kk then k (.upp j (.box cs1 ty1) d (.cell (.ptr j 0)))else none
       | _=>none
       else none
      | _=>none
      else none
     | _=>none
    | _=>none
    else none
   | _=>match qExt P N ops i s with
    | some (d,f,cargs)=>O f cargs [] fun x _=>k (.put d x)
    | none=>none
  | false=>match o.op with
   | .buildSlice _ _ _=>bif x0w (o.dst.getD 0) ops.toList then kOp P N T s o fun e=>match e with
    | .new d (.na _ τ xs) d1 (.cell (.own d2))=>match lkO s.ob d with
     | .gone=>bif Nat.blt d N&&Nat.beq d1 d&&Nat.beq d2 d then k (.put d (.cell (.d (.nl τ xs))))else none
     | _=>none
    | _=>none
    else kOp P N T s o k
   | .call _=>bif y0p (o.dst.getD 0) ops.toList then kOp P N T s o fun e=>match e with
    | .new k1 (.na _ τ xs) d (.cell (.own k2))=>bif Nat.beq k2 k1 then k (.new k1 .gone d (.cell (.d (.nl τ xs))))else none
    | _=>k e
    else match eqPO P N s o with
    | some e=>k e
    | none=>kOp P N T s o k
   | _=>match eqPO P N s o with
    | some e=>k e
    | none=>kOp P N T s o k
 | none=>match g1i ops s.fr i with
  | some d=>bif Nat.blt d N then k (.put d (n1v ops i d))else none
  | none=>none
def dKn(i g:Nat)(s:ASt)(k:Eff→Option ρ):Option ρ:=
 match lkF s.fr g with
 | .cell (.d (.sc (.bool t)))=>dK P N T M O ops i (s.know g t) k
 | _=>none
def dKw(i g1 g:Nat)(s:ASt)(k:Eff→Option ρ):Option ρ:=
 match lkF s.fr g1 with
 | .cell (.d (.sc (.bool t)))=>dKn P N T M O ops i g (s.know g1 t) k
 | _=>none
def dKo(i g:Nat)(s:ASt)(k:Eff→Option ρ):Option ρ:=
 match lkF s.fr g with
 | .whn g1 _ _=>dKw P N T M O ops i g1 g s k
 | _=>dKn P N T M O ops i g s k
abbrev litB(b:Bool):AV:= .cell (.d (.sc (.bool b)))
def evD(bs:List Nat)(sk:List Eff)(st:ASt):(n i:Nat)→List (Nat×Bool)→List Eff→(List Eff→Option ρ)→Option ρ
 | 0,_,_,effs,k=>k effs
 | n+1,i,kn,effs,k=>match ops[i]? with
  | none=>none
  | some o=>match o.guard with
   | none=>dK P N T M O ops i (h0s bs sk effs st i) fun e=>evD bs sk st n (i+1) kn (effs++ [e]) k
   | some (j,want)=>match q0k ops j with
    | none=>none
    | some g0=>bif p0a kn g0 (!want)then dKo P N T M O ops i g0 (h0s bs sk effs st i) fun e=>evD bs sk st n (i+1) kn (effs++ [e]) k else match t1h P N ops o j want (h0s bs sk effs st i)with
    | some e=>evD bs sk st n (i+1) kn (effs++ [e]) k
    | none=>match effs[j]? with
     | some (.put g (.cell (.d (.sc (.bool b)))))=>
      bif b then dKn P N T M O ops i g (h0s bs sk (effs.set j (.put g (.cell (.d (.sc (.bool true)))))) st i) fun e=>evD bs sk st n (i+1) ((g,true)::kn) (effs.set j (.put g (.cell (.d (.sc (.bool true)))))++ [e]) k
      else dKn P N T M O ops i g (h0s bs sk (effs.set j (.put g (.cell (.d (.sc (.bool false)))))) st i) fun e=>evD bs sk st n (i+1) ((g,false)::kn) (effs.set j (.put g (.cell (.d (.sc (.bool false)))))++ [e]) k
     | some (.put g (.whn g1 w1 (.cell (.d (.sc (.bool b))))))=>match(ops[j]?).bind fun o1=>o1.guard with
      | some (j1,_)=>match effs[j1]? with
       | some (.put g2 (.cell (.d (.sc (.bool b1)))))=>
        bif b1 then
         bif true==w1 then
          bif b then dKw P N T M O ops i g1 g (h0s bs sk ((effs.set j1 (.put g2 (litB true))).set j (.put g (.whn g1 w1 (litB true)))) st i) fun e=>evD bs sk st n (i+1) ((g,true)::(g1,true)::kn) ((effs.set j1 (.put g2 (litB true))).set j (.put g (.whn g1 w1 (litB true)))++ [e]) k
          else dKw P N T M O ops i g1 g (h0s bs sk ((effs.set j1 (.put g2 (litB true))).set j (.put g (.whn g1 w1 (litB false)))) st i) fun e=>evD bs sk st n (i+1) ((g,false)::(g1,true)::kn) ((effs.set j1 (.put g2 (litB true))).set j (.put g (.whn g1 w1 (litB false)))++ [e]) k
         else dKn P N T M O ops i g1 (h0s bs sk (effs.set j1 (.put g2 (litB true))) st i) fun e=>evD bs sk st n (i+1) ((g1,true)::kn) (effs.set j1 (.put g2 (litB true))++ [e]) k
        else
         bif false==w1 then
          bif b then dKw P N T M O ops i g1 g (h0s bs sk ((effs.set j1 (.put g2 (litB false))).set j (.put g (.whn g1 w1 (litB true)))) st i) fun e=>evD bs sk st n (i+1) ((g,true)::(g1,false)::kn) ((effs.set j1 (.put g2 (litB false))).set j (.put g (.whn g1 w1 (litB true)))++ [e]) k
          else dKw P N T M O ops i g1 g (h0s bs sk ((effs.set j1 (.put g2 (litB false))).set j (.put g (.whn g1 w1 (litB false)))) st i) fun e=>evD bs sk st n (i+1) ((g,false)::(g1,false)::kn) ((effs.set j1 (.put g2 (litB false))).set j (.put g (.whn g1 w1 (litB false)))++ [e]) k
         else dKn P N T M O ops i g1 (h0s bs sk (effs.set j1 (.put g2 (litB false))) st i) fun e=>evD bs sk st n (i+1) ((g1,false)::kn) (effs.set j1 (.put g2 (litB false))++ [e]) k
       | _=>none
      | none=>none
     | some (.put _ (.whn g1 w1 .junk))=>bif p0a kn g1 (!w1)then dKn P N T M O ops i g1 (h0s bs sk effs st i) fun e=>evD bs sk st n (i+1) kn (effs++ [e]) k else none
     | _=>none
def o0z(M:List (Nat×ArgM))(l:List Oper):Nat:=
 match(a0z M 999999994).hand with
 | []=>l.length
 | ds=>l.findIdx fun o=>match o.dst with
  | some d=>memB d ds
  | none=>false
def f1e(ds:List Nat):Nat→List Oper→List Nat
 | _, []=> []
 | i,o::r=>match o.dst with
  | some d=>bif memB d ds then i::f1e ds (i+1) r else f1e ds (i+1) r
  | none=>f1e ds (i+1) r
def flAt(M:List (Nat×ArgM))(l:List Oper):List Nat:=
 match(a0z M 999999993).hand with
 | []=> []
 | ds=>f1e ds 0 l
def w1m(ops:Array Oper)(m:Nat)(fl:List Nat):Bool:=
 match fl with
 | []=>true
 | _=>t1q ops m fl
def demT(f:Nat→Option ρ):List Nat→Option ρ
 | []=>none
 | [i]=>f i
 | i::j::r=>dem2 (f i) (demT f (j::r))
def q1e(listed:Array Bool)(i:Nat):Bool:=
 (match ops[i]? with
  | some o=>(match o.op with | .move _ | .assign _=>true | _=>false)&&o.guard.isNone
  | none=>false)&&Region.free .any ops listed i
def m0u:Nat→Array Bool→ASt→(ASt→Option ρ)→Option ρ
 | 0,listed,st,k=>match Region.ready .any ops listed with
  | []=>k st
  | _=>none
 | fuel+1,listed,st,k=>match Region.ready .any ops listed with
  | []=>k st
  | i0::rs=>match(i0::rs).find? (q1e ops listed)with
   | some i=>a1z P N T M O ops 1 i [] st fun s=>m0u fuel (listed.setIfInBounds i true) s k
   | none=>demT (fun i=>a1z P N T M O ops 1 i [] st fun s=>m0u fuel (listed.setIfInBounds i true) s k) (i0::rs)
def w1v(M:List (Nat×ArgM))(l:List Oper):Bool:=
 match(a0z M 999999992).hand with
 | []=>false
 | ds=>l.any fun o=>match o.dst with
  | some d=>memB d ds
  | none=>false
def d1h:DOrc ρ:=fun ops st k=>
 bif y0u (bsOf ops.toList []) 0 ops.toList then
  evD P N T M O ops (bsOf ops.toList []) (u1h P N M ops (ops.toList.take (o0z M ops.toList)) st) ((e1q P N M ops (ops.toList.take (o0z M ops.toList)) st).foldl ASt.freeze st) (o0z M ops.toList) 0 [] [] fun effs=>
   bif a1q (bsOf ops.toList []) effs&&f0z (u1h P N M ops (ops.toList.take (o0z M ops.toList)) st) effs&&Nat.ble effs.length ops.size&&Nat.beq effs.length (o0z M ops.toList)&&m1f (bsOf ops.toList []) (flAt M ops.toList) (o0z M ops.toList) ops.size&&w1m ops (o0z M ops.toList) (flAt M ops.toList)then
    a1z P N T M O ops (ops.size - o0z M ops.toList) (o0z M ops.toList) [] (k0h (fun _=>true) 0 effs ((e1q P N M ops (ops.toList.take (o0z M ops.toList)) st).foldl ASt.freeze st)) k
   else none
 else none
def g1p:DOrc ρ:=fun ops st k=>
 bif w1v M ops.toList then(bif Region.noSelect ops then m0u P N T M O ops ops.size (Array.replicate ops.size false) st k else none)else d1h P N T M O ops st k
end
section
variable{ρ:Type}{P:Program}{N:Nat}{T:List (TypeId×Ev.Ty)}{M:List (Nat×ArgM)}{O:Orc ρ}{ops:Array Oper}{st:ASt}{i n:Nat}{r:ρ}
theorem e1i(hO:O.ok P){s:ASt}{k:Eff→Option ρ}(h:dK P N T M O ops i s k=some r): ∃e,IEff P N ops i s e∧k e=some r:=by
 unfold dK at h;split at h
 ·rename_i o ho
  split at h
  ·split at h
   ·rename_i d f args hq
    cases hbo:(a0z M f).bor with
    | true=>
     rw [hbo,cond_true]at h;cases hb:(Nat.blt d N&&AV.frozenL (borL s.ob args))with
     | false=>rw [hb]at h;cases h
     | true=>
      rw [hb,cond_true]at h;rw [j2s]at hb;obtain⟨x,h1,h2⟩:=w0a (k:=fun x=>k (.put d x)) hO hq hb.1 hb.2 h;exact⟨_,h1,h2⟩
    | false=>
    rw [hbo,cond_false]at h;cases hd:Nat.blt d N with
    | false=>rw [hd]at h;cases h
    | true=>
     rw [hd,cond_true]at h;split at h
     ·cases hz:AV.frozenL args with
      | false=>rw [hz]at h;cases h
      | true=>
       rw [hz,cond_true]at h;obtain⟨x,o2,h1,h2⟩:=(hO _ _ _ _ _ h).elim (fun h=>h.2) (fun h=>absurd (g0z hq) (by rcases h with h | h<;>(rw [h.1];simp)))
       split at h2
       ·cases hx:x.frozen with
        | false=>rw [hx]at h2;cases h2
        | true=>
         rw [hx]at h2;have hq2:v1u P N ops i s=some (d,f,args):=by
          unfold c0q at hq;unfold v1u;split at hq
          ·rename_i d' c ty pos after guard ho
           split at hq
           ·rename_i f' args' hc
            cases hb:a0p P f' with
            | false=>rw [hb]at hq;cases hq
            | true=>
             rw [hb]at hq;cases hq;simp [ho,hc,hb,hd]
           ·cases hq
          ·cases hq
         exact⟨_, .qpcall hq2 hz (h1.mono fun _ _ hh=>hh.1) hx,h2⟩
       ·rename_i k2 ob
        cases hx:x.plain with
        | false=>rw [hx]at h2;cases h2
        | true=>
         rw [hx,cond_true]at h2;exact⟨_, .ncall hq hd hz hx h1,h2⟩
       ·cases h2
     ·rename_i kk j hm
      split at h
      ·rename_i cs0 ty0 hj
       cases hz:(AV.plainL args&&Nat.ble 1000000 kk&&u0z cs0)with
       | false=>rw [hz]at h;cases h
       | true=>
        rw [hz,cond_true]at h;simp only [j2s]at hz;obtain⟨x,o2,h1,h2⟩:=(hO _ _ _ _ _ h).elim (fun h=>h.2) (fun h=>absurd (g0z hq) (by rcases h with h | h<;>(rw [h.1];simp)))
        split at h2
        ·rename_i k2 cs1 ty1
         cases hx:(Nat.beq k2 kk&&u0z cs1)with
         | false=>rw [hx]at h2;cases h2
         | true=>
          rw [hx,cond_true]at h2;simp only [j2s]at hx;have:=j2t hx.1;subst this;cases hf:x.frozen with
          | true=>
           rw [hf,cond_true]at h2;exact⟨_, .bcall hq hd hz.1.1 hz.1.2 hj hz.2 hx.2 h1 (.inl ⟨hf,rfl⟩),h2⟩
          | false=>
           rw [hf,cond_false]at h2;split at h2
           ·rename_i k3
            cases h3:Nat.beq k3 k2 with
            | false=>rw [h3]at h2;cases h2
            | true=>
             rw [h3,cond_true]at h2;have:=j2t h3;subst this;exact⟨_, .bcall hq hd hz.1.1 hz.1.2 hj hz.2 hx.2 h1 (.inr ⟨rfl,rfl⟩),h2⟩
           ·cases h2
        ·cases h2
      ·cases h
     ·cases h
   ·split at h
    ·rename_i d f cargs hq
     rcases hO _ _ _ _ _ h with hh | ⟨_,x,h1,h2,h3⟩ | ⟨_,ho,_⟩
     ·exfalso
      have:=h1r hq;rw [this]at hh;cases hh.1
     ·exact⟨_,(IEff.ext hq h1 h2).2,h3⟩
     ·exact absurd rfl ho
    ·cases h
  ·split at h
   ·cases hb:x0w (o.dst.getD 0) ops.toList with
    | false=>rw [hb]at h;exact f0b ho h
    | true=>
     rw [hb,cond_true]at h;obtain⟨e,h1,h2⟩:=f0b ho h;split at h2
     ·rename_i d te τ xs d1 d2
      split at h2
      ·rename_i hg
       cases hc:(Nat.blt d N&&Nat.beq d1 d&&Nat.beq d2 d)with
       | false=>rw [hc]at h2;cases h2
       | true=>
        rw [hc,cond_true]at h2;simp only [j2s]at hc;have e1:=j2t hc.1.2;have e2:=j2t hc.2;subst e1;subst e2;exact⟨_, .newF hc.1.1 hg h1,h2⟩
      ·cases h2
     ·cases h2
   ·cases hb:y0p (o.dst.getD 0) ops.toList with
    | false=>
     rw [hb,cond_false]at h;split at h
     ·rename_i e he
      exact⟨e, .of_opK ho (g1j he),h⟩
     ·exact f0b ho h
    | true=>
     rw [hb,cond_true]at h;obtain⟨e,h1,h2⟩:=f0b ho h;split at h2
     ·rename_i k1 te τ xs d k2
      cases hc:Nat.beq k2 k1 with
      | false=>rw [hc]at h2;cases h2
      | true=>
       rw [hc,cond_true]at h2;have:=j2t hc;subst this;exact⟨_, .newS h1,h2⟩
     ·exact⟨e,h1,h2⟩
   ·split at h
    ·rename_i e he
     exact⟨e, .of_opK ho (g1j he),h⟩
    ·exact f0b ho h
 ·split at h
  ·rename_i d hd
   cases hb:Nat.blt d N with
   | false=>rw [hb]at h;cases h
   | true=>
    rw [hb]at h;exact⟨_, .skip hd hb,h⟩
  ·cases h
theorem f0h(hO:O.ok P){s:ASt}{g:Nat}{k:Eff→Option ρ}(h:dKn P N T M O ops i g s k=some r): ∃e,IEff P N ops i s e∧k e=some r:=by
 unfold dKn at h;split at h
 ·rename_i t ht
  obtain⟨e,h1,h2⟩:=e1i hO h;exact⟨e, .frame (fun F ρ0 a w hr=>hr.know ht) h1,h2⟩
 ·cases h
theorem w0p(hO:O.ok P){g1 g:Nat}{s:ASt}{k:Eff→Option ρ}(h:dKw P N T M O ops i g1 g s k=some r): ∃e,IEff P N ops i s e∧k e=some r:=by
 unfold dKw at h;split at h
 ·rename_i t ht
  obtain⟨e,h1,h2⟩:=f0h hO h;exact⟨e, .frame (fun F ρ0 a w hr=>hr.know ht) h1,h2⟩
 ·cases h
theorem o1w(hO:O.ok P){g:Nat}{s:ASt}{k:Eff→Option ρ}(h:dKo P N T M O ops i g s k=some r): ∃e,IEff P N ops i s e∧k e=some r:=by
 unfold dKo at h;split at h
 ·exact w0p hO h
 ·exact f0h hO h
omit [Tabs]in
theorem set_same{effs:List Eff}{j:Nat}{e:Eff}(hj:effs[j]? =some e):effs.set j e=effs:=by
 obtain⟨h1,h2⟩:=k2a.1 hj;rw [←h2];exact List.set_getElem_self h1
theorem c0p(hO:O.ok P){bs:List Nat}{sk:List Eff}: ∀{n i:Nat} {kn:List (Nat×Bool)} {effs:List Eff} {k:List Eff→Option ρ},effs.length=i→(∀j e,effs[j]? =some e→IEff P N ops j (h0s bs sk (effs.take j) st j) e)→evD P N T M O ops bs sk st n i kn effs k=some r→
  ∃all,k all=some r∧∀j e,all[j]? =some e→IEff P N ops j (h0s bs sk (all.take j) st j) e
 | 0,i,kn,effs,k,_,he,h=>⟨effs,h,he⟩
 | n+1,i,kn,effs,k,hl,he,h=>by
  have step: ∀e,IEff P N ops i (h0s bs sk effs st i) e→∀j e',(effs++ [e])[j]? =some e' →IEff P N ops j (h0s bs sk ((effs++ [e]).take j) st j) e' :=by
   intro e h1 j e' hj;by_cases hlt:j<effs.length
   ·rw [List.getElem?_append_left hlt]at hj
    rw [List.take_append_of_le_length (by omega)];exact he j e' hj
   ·have hje:j=effs.length:=by
     have:=(k2a.1 hj).1;simp only [j2y,k2i,List.length_nil]at this;omega
    subst hje;rw [m2a (k2h _)]at hj;simp only [m2t,m2c,j2v]at hj;subst hj;rw [List.take_append_of_le_length (k2h _),List.take_length,hl];exact h1
  simp only [evD]at h;split at h
  ·cases h
  ·rename_i o ho
   split at h
   ·obtain⟨e,h1,h2⟩:=e1i hO h
    exact c0p hO (by simp [hl]) (step e h1) h2
   ·rename_i j want hg
    split at h
    ·cases h
    ·rename_i g0 hg0
     cases hb:p0a kn g0 (!want)with
     | true=>
      rw [hb,cond_true]at h;obtain⟨e,h1,h2⟩:=o1w hO h;exact c0p hO (by simp [hl]) (step e h1) h2
     | false=>
     rw [hb,cond_false]at h;split at h
     ·rename_i e hs
      exact c0p hO (by simp [hl]) (step e (.of_guard ho hg (f1s hs))) h
     ·split at h
      ·rename_i g b hj
       have hset:effs.set j (.put g (.cell (.d (.sc (.bool b)))))=effs:=by
        obtain⟨h1,h2⟩:=k2a.1 hj;rw [←h2];exact List.set_getElem_self h1
       cases b with
       | true=>
        rw [cond_true,hset]at h;obtain⟨e,h1,h2⟩:=f0h hO h;exact c0p hO (by simp [hl]) (step e h1) h2
       | false=>
        rw [cond_false,hset]at h;obtain⟨e,h1,h2⟩:=f0h hO h;exact c0p hO (by simp [hl]) (step e h1) h2
      ·rename_i g g1 w1 b hj
       split at h
       ·rename_i j1 _ _
        split at h
        ·rename_i g2 b1 hj1
         have s1:=set_same hj1;have s2:=set_same hj;cases b1<;>simp only [cond_true,cond_false]at h<;>cases w1<;>simp only [beq_self_eq_true,cond_true,cond_false,show(true==false)=false from rfl,show(false==true)=false from rfl]at h<;>
          cases b<;>simp only [cond_true,cond_false,litB,s1,s2]at h<;>
          first
          | (obtain⟨e,h1,h2⟩:=w0p hO h;exact c0p hO (by simp [hl]) (step e h1) h2)
          | (obtain⟨e,h1,h2⟩:=f0h hO h;exact c0p hO (by simp [hl]) (step e h1) h2)
        ·cases h
       ·cases h
      ·rename_i g1 w1 hj
       cases hb2:p0a kn g1 (!w1)with
       | false=>rw [hb2]at h;cases h
       | true=>
        rw [hb2,cond_true]at h;obtain⟨e,h1,h2⟩:=f0h hO h;exact c0p hO (by simp [hl]) (step e h1) h2
      ·cases h
omit [Tabs]in
theorem q0w(L:Nat→Bool): ∀(l:List Eff) (s m:Nat) (st:ASt),(∀j,s+m≤j→L j=false)→k0h L s l st=k0h L s (l.take m) st
 | [],s,m,st,_=>by simp
 | e::r,s,0,st,h=>by
  simp only [List.take_zero,k0h];rw [h s (by omega)];have: ∀(l:List Eff) (s' :Nat),s≤s' →k0h L s' l st=st:=by
   intro l
   induction l with
   | nil=>intro s' _;rfl
   | cons e r ih=>
    intro s' hs;simp only [k0h,h s' (by omega)];exact ih (s' +1) (by omega)
  exact this r (s+1) (by omega)
 | e::r,s,m+1,st,h=>by
  simp only [List.take_succ_cons,k0h];exact q0w L r (s+1) m _ fun j hj=>h j (by omega)
omit [Tabs]in
theorem p0s{bs:List Nat}{i:Nat}: ∀{sk effs:List Eff} (s:Nat),f0z sk effs=true→f0z (c0g bs i s sk) (c0g bs i s effs)=true
 | [], [],s,_=>rfl
 | x::r,y::q,s,h=>by
  simp only [f0z,j2s]at h;simp only [c0g];cases ub bs i s with
  | true=>simp only [cond_true,f0z,j2s];exact⟨h.1,p0s (s+1) h.2⟩
  | false=>exact p0s (s+1) h.2
 | [],_::_,_,h=>by cases h
 | _::_, [],_,h=>by cases h
omit [Tabs]in
theorem x0q: ∀{a b:List Eff},f0z a b=true→k0y a=k0y b∧k0u a=k0u b∧tchs a=tchs b
 | [], [],_=>⟨rfl,rfl,rfl⟩
 | x::r,y::q,h=>by
  simp only [f0z,j2s]at h;obtain⟨h1,h2,h3⟩:=x0q h.2;have hx:=h.1;have k1: ∀k,k0y r k=k0y q k:=fun k=>congrFun h1 k;have k2: ∀k,k0u r k=k0u q k:=fun k=>congrFun h2 k;simp only [k0y,k0u]at k1 k2;cases x<;>cases y<;>simp only [w1z,j2s,m2o]at hx
  ·rw [j2t hx]
   exact⟨by funext k;simp [k0y,k1],by funext k;simp [k0u,k2],h3⟩
  ·rw [j2t hx.1,j2t hx.2]
   exact⟨by funext k;simp [k0y,k1],by funext k;simp [k0u,k2],by simp [tchs,h3]⟩
  ·rw [j2t hx]
   exact⟨by funext k;simp [k0y,k1],by funext k;simp [k0u,k2],by simp [tchs,h3]⟩
  ·rw [j2t hx.1,j2t hx.2]
   exact⟨by funext k;simp [k0y,k1],by funext k;simp [k0u,k2],by simp [tchs,h3]⟩
 | [],_::_,h=>by cases h
 | _::_, [],h=>by cases h
theorem t1s{p q:Nat→Bool}{dk:List Nat}{f:Nat→AObj}{s:ASt}{F:Nat→Prop}{ρ0:Env}{a:Act}{w:World}(h:Rel N F ρ0 (s.weak p q dk f) a w):Rel N F ρ0 (s.weak p q dk fun _=> .any) a w:=by
 refine⟨h.rw,h.fr,fun k=> ?_,h.sz,h.df⟩;have hk:=h.ob k;simp only [ASt.weak]at hk⊢;rw [s0z]at hk⊢;cases hm:memB k dk with
 | true=>rw [hm]at hk;exact .any _ hk
 | false=>rw [hm]at hk;exact hk
theorem i1c [DfOk M] (hO:O.ok P)(hm:P.follows .mixedOrders=true):(d1h P N T M O).ok P N:=by
 intro id ops st k r h;unfold d1h at h;cases hb:y0u (bsOf ops.toList []) 0 ops.toList with
 | false=>rw [hb]at h;cases h
 | true=>
  rw [hb,cond_true]at h;generalize hsq:o0z M ops.toList=m at h;generalize (e1q P N M ops (ops.toList.take m) st)=fz at h;refine .freezes fz ?_;generalize fz.foldl ASt.freeze st=st1 at h;obtain⟨all,h1,h2⟩:=c0p (effs:= []) hO rfl (fun j e he=>by simp at he) h;cases hc:(a1q (bsOf ops.toList []) all&&f0z (u1h P N M ops (ops.toList.take m) st) all&&Nat.ble all.length ops.size&&Nat.beq all.length m&&m1f (bsOf ops.toList []) (flAt M ops.toList) m ops.size&&w1m ops m (flAt M ops.toList))with
  | false=>rw [hc]at h1;cases h1
  | true=>
   rw [hc,cond_true]at h1;simp only [j2s]at hc;obtain⟨hc,hfo⟩:=hc;have hml:=j2t hc.1.2;subst hml;generalize flAt M ops.toList=fl at hc hfo;refine AW.drawSeq (c:= .region id ops true) rfl hm all (bsOf ops.toList []) (k2d hc.1.1.2) hb hc.1.1.1.1 (fun i e he f=> ?_) rfl fl (by cases fl with | nil=>exact .inl rfl | cons x r=>exact .inr ⟨hfo,fun e s h=>h.1⟩) hc.2 (f0t hO h1 fun s hs=>⟨rfl,hs⟩)
   have h3:=h2 i e he;refine .frame (fun F ρ0 a w hr=> ?_) h3;have e1:=x0q (p0s (bs:=bsOf ops.toList []) (i:=i) 0 hc.1.1.1.2);unfold e1u at hr;unfold h0s;rw [e1.1,e1.2.1,e1.2.2, ←q0w (Nat.blt · i) all 0 i st1 (fun j hj=>by
    cases hbb:Nat.blt j i with
    | false=>rfl
    | true=>exact absurd (a0j hbb) (by omega))]
   exact t1s hr
omit [Tabs]in
theorem g1m{f:Nat→Option ρ}{r:ρ}: ∀{l:List Nat},demT f l=some r→∀i∈l,f i=some r
 | [],h=>by cases h
 | [i],h=>fun j hj=>by
  rw [l2r]at hj;subst hj;exact h
 | i::j::l,h=>fun q hq=>by
  rw [demT]at h;have h2:=r1c h;rcases k2b.1 hq with rfl | hq
  ·exact h2.1
  ·exact g1m h2.2 q hq
omit [Tabs]in
theorem r0d{Q Q' :Exit→Act→World→Prop}(hq: ∀e a w,e≠ .normal→Q e a w→Q' e a w){i:Nat}{a:Act}{w:World}{K K' :Act→World→Prop}(hk: ∀a w,K a w→K' a w)(h:wpOp P ops Q i K a w):wpOp P ops Q' i K' a w:=by
 simp only [wpOp]at h⊢;split
 ·rename_i e
  rw [e]at h;exact hk _ _ h
 ·rename_i o e
  rw [e]at h;simp only at h;split
  ·rename_i hw
   rw [if_pos hw]at h;rcases h with h | ⟨h1,a0,w0,h2⟩
   ·left
    unfold Oper.wp Oper.upon at h⊢;split at h
    ·exact hk _ _ h
    ·exact hk _ _ h
    ·exact hk _ _ h
    ·refine h.mono fun e w' he=> ?_
     cases e with
     | returned v=>exact hk _ _ he
     | panicked c=>exact hq _ _ _ (by simp) he
     | outgrown=>obtain⟨a0,w0,h0⟩:=he;exact⟨a0,w0,hq _ _ _ (by simp) h0⟩
    ·exact h.mono fun v w' hv=>hk _ _ hv
    ·exact hq _ _ _ (by simp) h
    ·exact h
   ·exact .inr ⟨h1,a0,w0,hq _ _ _ (by simp) h2⟩
  ·rename_i hw
   rw [if_neg hw]at h;exact hk _ _ h
theorem m0h [DfOk M] (hO:O.ok P)(hns:Region.noSelect ops=true){k:ASt→Option ρ}{F0:Nat→Prop}{ρ0:Env}{w0:World}: ∀(fuel:Nat) (listed:Array Bool) (st:ASt),m0u P N T M O ops fuel listed st k=some r→∀F ρ a w,Rel N F ρ st a w→Fr F0 ρ0 w0 F ρ w→
  wpAny P .any ops (fun ex a' w' =>∃F' ρ' st',(ex= .normal∧k st' =some r)∧Rel N F' ρ' st' a' w' ∧Fr F0 ρ0 w0 F' ρ' w') fuel listed a w
 | 0,listed,st,h=>fun F ρ a w hr hf=>by
  rw [m0u]at h;split at h
  ·rename_i hre
   exact⟨hre,F,ρ,st,⟨rfl,h⟩,hr,hf⟩
  ·cases h
 | fuel+1,listed,st,h=>fun F ρ a w hr hf=>by
  have one: ∀i,a1z P N T M O ops 1 i [] st (fun s=>m0u P N T M O ops fuel (listed.setIfInBounds i true) s k)=some r→
    wpOp P ops (fun ex a' w' =>∃F' ρ' st',(ex= .normal∧k st' =some r)∧Rel N F' ρ' st' a' w' ∧Fr F0 ρ0 w0 F' ρ' w') i
     (wpAny P .any ops (fun ex a' w' =>∃F' ρ' st',(ex= .normal∧k st' =some r)∧Rel N F' ρ' st' a' w' ∧Fr F0 ρ0 w0 F' ρ' w') fuel (listed.setIfInBounds i true)) a w:=fun i hi=>by
   have h1:=f0t (Q:=fun e s=>e= .normal∧m0u P N T M O ops fuel (listed.setIfInBounds i true) s k=some r) hO hi (fun s hs=>⟨rfl,hs⟩) F ρ a w hr;rw [show List.range' i 1= [i]from rfl,wpOps_cons]at h1
   refine r0d (fun e a' w' hne ⟨F',ρ',st',⟨he,hs⟩,h2,h3⟩=>absurd he hne) (fun a' w' ⟨F',ρ',st',⟨_,hs⟩,h2,h3⟩=> ?_) h1;exact m0h hO hns fuel _ st' hs F' ρ' a' w' h2 (hf.trans hr.rw.dis h3)
  rw [m0u]at h;split at h
  ·rename_i hre
   exact⟨fun _=>⟨F,ρ,st,⟨rfl,h⟩,hr,hf⟩,by rw [hre];simp⟩
  ·rename_i i0 rs hre
   split at h
   ·rename_i i hfi
    have hmem:=List.mem_of_find?_eq_some hfi;have hmv:=List.find?_some hfi;rw [←hre]at hmem;unfold q1e at hmv;rw [j2s]at hmv;obtain⟨hmv,hfree⟩:=hmv;cases ho:ops[i]? with
    | none=>rw [ho]at hmv;cases hmv
    | some o=>
     rw [ho]at hmv;simp only [j2s]at hmv;obtain⟨v,hy⟩:=w0g (P:=P) (ops:=ops) (o:=o) (a:=a) hmv.1 hmv.2;refine wpAny_first ho (Region.noSelect_spec hns) (fun c a w ⟨_,_,_,⟨hq,_⟩,_⟩=>by cases hq) fuel listed a w (Region.free_spec ho hfree) hmem hy ?_;exact r0m ho hy (r0d (fun e a w hne ⟨_,_,_,⟨hq,_⟩,_⟩=>hne hq) (fun _ _ h=>h) (one i h))
   ·rw [wpAny]
    constructor
    ·intro h0
     rw [h0]at hre;cases hre
    ·intro i hi
     rw [hre]at hi;exact one i (g1m h i hi)
theorem y0g [DfOk M] (hO:O.ok P)(hm:P.follows .mixedOrders=true):(g1p P N T M O).ok P N:=by
 intro id ops st k r h;unfold g1p at h;cases ht:w1v M ops.toList with
 | false=>
  rw [ht,cond_false]at h;exact i1c hO hm id ops st k r h
 | true=>
  rw [ht,cond_true]at h;cases hn:Region.noSelect ops with
  | false=>rw [hn]at h;cases h
  | true=>
   rw [hn,cond_true]at h;intro F ρ a w hr;refine wp_region_any hm ?_;have hrd:Rel N F ρ st a {w with drawn:=w.drawn+1}:=
    ⟨⟨hr.rw.dis,hr.rw.lt,hr.rw.inj,hr.rw.tab⟩,fun i=>(hr.fr i).mono (w:=w) (w' :={w with drawn:=w.drawn+1}) (fun _ _=>rfl) (fun _ h=>h) (fun _ _ h=>h),fun k=>(hr.ob k).through (w:=w) (w' :={w with drawn:=w.drawn+1}) (fun _ _=>rfl) (fun _ h=>h) (fun _ _ _ _=>rfl),hr.sz,hr.df⟩
   have hd:Fr F ρ w F ρ {w with drawn:=w.drawn+1}:=⟨rfl,rfl,rfl,k2h _,fun _ h=>h,fun _ _ _=>rfl,fun _ _ h=>h,fun _ _=>Stab.refl _ _⟩
   exact m0h hO hn _ _ st h F ρ a _ hrd hd
end
end Esp
namespace Esp
open Go
set_option linter.unusedSimpArgs false
set_option linter.unusedVariables false
variable [Tabs]
section
variable{P:Program}{ρ:Type}{N:Nat}{T:List (TypeId×Ev.Ty)}{M:List (Nat×ArgM)}
abbrev OOk(ρ:Type)(P:Program):={O:Orc ρ // O.ok P}
def oN:OOk ρ P:=⟨w1k,r1v⟩
def oC{f:FuncId}{t:FnT}{nf:t.ins.den→Option t.den}(hc:Contract P f t nf)(r:OOk ρ P)(he:a0p P f=true:=by kernel_rfl):OOk ρ P:=⟨l0n f t nf r.1,i1u he hc r.2⟩
def oE{f:FuncId}{t:FnT}{nf:t.ins.den→Option t.den}(hc:h0d P f t nf)(r:OOk ρ P)(he:a0p P f=false:=by kernel_rfl):OOk ρ P:=⟨l0n f t nf r.1,j1v he hc r.2⟩
abbrev DOk(ρ:Type)(P:Program)(N:Nat):={D:DOrc ρ // D.ok P N}
def dN:DOk ρ P N:=⟨b1k,r0y⟩
def dD(T:List (TypeId×Ev.Ty))(M:List (Nat×ArgM))(O:OOk ρ P)(hdf:DfOk M)(hm:P.follows .mixedOrders=true):DOk ρ P N:=⟨g1p P N T M O.1,y0g O.2 hm⟩
def lbs(b:Nat)(c:Code):Nat→List Nat→List (Nat×Code)
 | _, []=> []
 | k,i::r=>(i,p1i b c k)::lbs b c (k+1) r
structure LB(P:Program)(N:Nat)(T:List (TypeId×Ev.Ty))(M:List (Nat×ArgM))(O:OOk ρ P)(D:DOk ρ P N)(b:Nat)(c:Code)(k:Nat)(ids:List Nat) where
 L:LOrc ρ
 ok:LOkL P N L (lbs b c k ids)
theorem g1l{L:LOrc ρ}{f:ASt→(Exit→ASt→Option ρ)→Option ρ}{i b:Nat}{c:Code}: ∀(ids:List Nat) (k:Nat),LOkL P N L (lbs b c k ids)→(ids.all fun j=> !Nat.beq j i)=true→LOkL P N (h0u i f L) (lbs b c k ids)
 | [],_,_,_=>trivial
 | j::r,k,h,hn=>by
  rw [List.all_cons,j2s]at hn;exact⟨.tail (by simpa using hn.1) h.1,g1l r (k+1) h.2 hn.2⟩
def lN{O:OOk ρ P}{D:DOk ρ P N}{b:Nat}{c:Code}{k:Nat}:LB P N T M O D b c k []:=⟨b2v,trivial⟩
def lC{O:OOk ρ P}{D:DOk ρ P N}{b:Nat}{c:Code}{k i:Nat}{ids:List Nat}(tm xt rt:Tm)(pre:Pre)(n:Nat)(step:(tm.den→Option ρ)→(xt.den→Option ρ)→(rt.den→Option ρ)→tm.den→Option ρ)
  (ids2:List Nat)(inner:LB P N T M O D i (p1i b c k) 0 ids2)(tail:LB P N T M O D b c (k+1) ids)(hdf:DfOk M:=by exact .none rfl)
  (hin:e0y i (p1i b c k)=lbs i (p1i b c k) 0 ids2:=by kernel_rfl)
  (heq: ∀rec kx kr s,d2e P N T M O.1 inner.L D.1 i (p1i b c k) tm xt rt pre rec kx kr s=step rec kx kr s:=by intro _ _ _ _;kernel_rfl)
  (hne:(ids.all fun j=> !Nat.beq j i)=true:=by kernel_rfl):LB P N T M O D b c k (i::ids):=
 ⟨h0u i (a2z N i n tm xt rt pre step) tail.L, .head (z0s O.2 D.2 (.of hin inner.ok) heq),g1l ids (k+1) tail.ok hne⟩
def pN:Pre:=⟨[], [], []⟩
section
variable [QuietD P] {f:FuncId}{fn:Func}{t:FnT}{nf:t.ins.den→Option t.den}
theorem ctN(hf:P.funcs[f]? =some fn)(N:Nat)(T:List (TypeId×Ev.Ty))(M:List (Nat×ArgM))(rs:List ResultVar)(pre:Pre)(O:OOk t.den P)(ids:List Nat)(ls:LB P N T M O dN 1000 (g0e fn) 0 ids)(hdf:DfOk M:=by exact .none rfl)
  (hb:fn.body=some (g0e fn):=by kernel_rfl)(hN:fn.ntmps=N:=by kernel_rfl)(hrs:fn.results.toList=rs:=by kernel_rfl)
  (hn:(Nat.ble t.nargs N&&Nat.ble N 1000000&&t.ins.rs.all (fun p=>Nat.blt p.1 t.nargs)&&t.ins.vs.all (fun p=>Nat.blt p.1 t.nargs)&&t.ins.ms.all (fun p=>Nat.blt (w0z p.1 []).1 t.nargs))=true:=by kernel_rfl)
  (hi:e0y 1000 (g0e fn)=lbs 1000 (g0e fn) 0 ids:=by kernel_rfl)
  (h: ∀x,evF P N T M t O.1 ls.L b1k pre rs (g0e fn) x=nf x:=by intro _;kernel_rfl):Contract P f t nf:=
 Contract.of_ev (c:=g0e fn) (N:=N) hf hb hN hrs hn O.2 r0y (.of hi ls.ok) h
theorem ctD(hf:P.funcs[f]? =some fn)(N:Nat)(T:List (TypeId×Ev.Ty))(M:List (Nat×ArgM))(rs:List ResultVar)(pre:Pre)(O:OOk t.den P)(ids:List Nat)(hdf:DfOk M)(hm:P.follows .mixedOrders=true)(ls:LB P N T M O (dD T M O hdf hm) 1000 (g0e fn) 0 ids)
  (hb:fn.body=some (g0e fn):=by kernel_rfl)(hN:fn.ntmps=N:=by kernel_rfl)(hrs:fn.results.toList=rs:=by kernel_rfl)
  (hn:(Nat.ble t.nargs N&&Nat.ble N 1000000&&t.ins.rs.all (fun p=>Nat.blt p.1 t.nargs)&&t.ins.vs.all (fun p=>Nat.blt p.1 t.nargs)&&t.ins.ms.all (fun p=>Nat.blt (w0z p.1 []).1 t.nargs))=true:=by kernel_rfl)
  (hi:e0y 1000 (g0e fn)=lbs 1000 (g0e fn) 0 ids:=by kernel_rfl)
  (h: ∀x,evF P N T M t O.1 ls.L (g1p P N T M O.1) pre rs (g0e fn) x=nf x:=by intro _;kernel_rfl):Contract P f t nf:=
 Contract.of_ev (c:=g0e fn) (N:=N) hf hb hN hrs hn O.2 (y0g O.2 hm) (.of hi ls.ok) h
end
end
end Esp

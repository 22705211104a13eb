import Derived.Test.YtnaeiccibhdknaaGreatDoorEvQuiet
set_option linter.unusedSimpArgs false
set_option linter.unusedVariables false
noncomputable section
namespace Esp
open Go
variable [Tabs]
def bsOf:List Oper->List Nat->List Nat
 |[],bs=>bs
 |o::r,bs=>bsOf r (bs++ [orD bs o.after.toList])
def i0m(bs:List Nat)(sk effs:List Eff)(st:ASt)(i:Nat):ASt:=
 (l0p (Nat.blt · i) 0 effs st).weak (m0j (d0e bs i 0 sk)) (n0g (d0e bs i 0 sk)) (tchs (d0e bs i 0 sk)) (λ_=>.any)
def e2t:Eff->Eff->Bool
 |.put d _,.put d' _=>Nat.beq d d'
 |.new k _ d _,.new k' _ d' _=>Nat.beq k k' &&Nat.beq d d'
 |.upd k _,.upd k' _=>Nat.beq k k'
 |.upp k _ d _,.upp k' _ d' _=>Nat.beq k k' &&Nat.beq d d'
 |_,_=>false
def h0j:List Eff->List Eff->Bool
 |[],[]=>true
 |x::r,y::s=>e2t x y&&h0j r s
 |_,_=>false
def x0o:List AC->Bool
 |[]=>true
 |.d _::r=>x0o r
 |_=>false
omit [Tabs]in
theorem b1k(g:Nat->Option Nat):∀{cs:List AC},x0o cs=true->AC.renL g cs=cs
 |[],_=>rfl
 |.d x::r,h=>by simp only[AC.renL,AC.ren,b1k g (cs:=r) h]
 |.own _::_,h=>by cases h
 |.ptr _ _::_,h=>by cases h
 |.elt _ _ _ _::_,h=>by cases h
 |.osl _ _ _ _::_,h=>by cases h
 |.pn _::_,h=>by cases h
 |.ifo _ _::_,h=>by cases h
 |.mpr _::_,h=>by cases h
 |.row _ _::_,h=>by cases h
 |.fn _ _ _::_,h=>by cases h
 |.junk::_,h=>by cases h
omit [Tabs]in
theorem a1l{w:World}{F:Nat->Prop}{ρ ρ' :Env}:∀{cs:List AC},x0o cs=true->∀i (h:i<cs.length) v,RelAC w F ρ cs[i] v->RelAC w F ρ' cs[i] v
 |.d x::r,h,0,_,v,hv=>by cases hv with|d x v hd=>exact .d _ _ hd
 |.d x::r,h,i+1,hi,v,hv=>a1l (cs:=r) h i (by simpa using hi) v hv
 |[],_,i,hi,_,_=>by simp at hi
 |.own _::_,h,_,_,_,_=>by cases h
 |.ptr _ _::_,h,_,_,_,_=>by cases h
 |.elt _ _ _ _::_,h,_,_,_,_=>by cases h
 |.osl _ _ _ _::_,h,_,_,_,_=>by cases h
 |.pn _::_,h,_,_,_,_=>by cases h
 |.ifo _ _::_,h,_,_,_,_=>by cases h
 |.mpr _::_,h,_,_,_,_=>by cases h
 |.row _ _::_,h,_,_,_,_=>by cases h
 |.fn _ _ _::_,h,_,_,_,_=>by cases h
 |.junk::_,h,_,_,_,_=>by cases h
section
variable{P:Program}{N:Nat}{ops:Array Oper}{st:ASt}{i:Nat}
theorem IEff.bcall {d j kk:Nat}{f:FuncId}{cargs:List AV}{cs0 cs1:List AC}{x:AV}(h:d0z P ops i st=some (some d,f,cargs))(hd:Nat.blt d N=true)(b7:AV.plainL cargs=true)(hk:Nat.ble 1000000 kk=true)
  {ty0 ty1:Option TypeId}(aH:lkO st.ob j=.box cs0 ty0)(h0:x0o cs0=true)(h1:x0o cs1=true)(spec:ACalls P f (f0r [(kk,j)] [] 0 cargs) [(kk,.box cs0 ty0)] (EX x [(kk,.box cs1 ty1)])){y:AV}(hx:(x.frozen=true/\y=x)\/(x=.cell (.ptr kk 0)/\y=.cell (.ptr j 0))):IEff P N ops i st (.upp j (.box cs1 ty1) d y):=by
 unfold d0z at h;split at h
 ·rename_i d' c ty pos after guard ho
  split at h
  ·rename_i f' args' hc
   cases hb:a0m P f' with
   |false=>rw[hb]at h;cases h
   |true=>
    rw[hb]at h;cases h;intro F ρ a w hr K R kont;obtain⟨e,hw⟩:=a0x hr ho;obtain⟨vs,hrun,aR,hrel⟩:=c0t hr hc hb ty;simp only[wpOp,e];rw[if_pos hw];left;have bD:(execOp a.eval ⟨some d,.call c,ty,pos,after,guard⟩).run P w=.ok (.enter f vs) w:=hrun;simp only[Oper.wp,Oper.upon,bD];have hU:once [(kk,j)]=true:=by simp[once]
    obtain⟨e1,e2,cC⟩:=k0x hr (m:=[(kk,j)]) (ns:=[]) hU;have e3:t0o st.ob [(kk,j)] []=[(kk,.box cs0 ty0)]:=by simp[t0o,aH,AObj.ren,b1k _ h0]
    have gq:∀k,e0y ρ [(kk,j)] [] k=if k=kk then ρ j else none:=by
     intro k;unfold e0y;simp only[fwd];cases aW:Nat.beq k kk with
     |true=>simp[r2h aW]
     |false=>simp[s2d aW]
    refine(spec F (e0y ρ [(kk,j)] []) vs w e1 (λk=>by rw [<-e3];exact e2 k (.inr rfl)) ⟨by rw[b0n];exact aR,λq hq=>?_⟩).mono λen w' ⟨F',ρ',rr,bG,⟨hq,ho2⟩,hre,hrw,bR,hfr⟩=>?_
    ·have hq' :q<cargs.length:=by rw[b0n]at hq;exact hq
     rw[k0a _ _ _ _ _ hq' hq];exact o0n cC rfl ((hrel q hq').retm (AV.plainL_get b7 q hq'))
    ·subst hq
     subst ho2;cases en with
     |returned v=>
      have hv:RelAV w' F' ρ' #[] x v:=hre;have bL:∀b,live (e0y ρ [(kk,j)] []) b->∃l,ρ j=some l/\l.has b:=by
       rintro b ⟨k,l,b6,hl⟩;rw[gq]at b6;split at b6
       ·exact⟨l,b6,hl⟩
       ·cases b6
      have aF:∀b,b<w.heap.size->(∀l,ρ j=some l->¬l.has b)->w'.heap[b]?=w.heap[b]?:=λb hb hn=>hfr.keep b hb λhl=>by
       obtain⟨l,h3,h4⟩:=bL b hl;exact hn l h3 h4
      have hF:∀b,F b->w'.heap[b]?=w.heap[b]?:=λb hb=>hfr.keep b (hr.rw.lt b hb) (e1.dis b hb);have fk:∀b,F' b->¬live ρ b:=by
       rintro b hb ⟨k,l,b6,hl⟩;have aJ:=(hr.ob k).lt b6 hl;by_cases hkj:k=j
       ·subst hkj
        -- the box's own block stays live in the callee
        have hbx:=bR kk;simp only[lkO,u2f,u2j]at hbx;cases hbx with
        |box cs oty b' c t aQ aV aW hs hh=>
         have hst:=hfr.stab kk (r2u hk);rw[gq,if_pos rfl,b6,aV]at hst;cases l with
         |box b2=>
          simp only[Stab]at hst;cases hl;subst hst;exact hrw.dis _ hb ⟨kk,_,aV,rfl⟩
         |arr u=>simp[Stab]at hst
         |many b us=>simp[Stab]at hst
       ·rcases hfr.old b aJ (.inl hb)with h3|h3
        ·exact hr.rw.dis b h3 ⟨k,l,b6,hl⟩
        ·obtain⟨l2,h4,h5⟩:=bL b h3
         exact hkj (hr.rw.inj _ _ _ _ b b6 h4 hl h5)
      have dC:Fr F ρ w F' ρ w' :=by
       refine⟨hfr.os,hfr.tape,hfr.output,hfr.size,hfr.sub,λb hb hl=>aF b hb λl h3 h4=>hl ⟨j,l,h3,h4⟩,λb hb hh=>?_,λ_ _=>Stab.refl _ _⟩;rcases hh with h3|h3
       ·rcases hfr.old b hb (.inl h3)with h4|h4
        ·exact .inl h4
        ·obtain⟨l,h5,h6⟩:=bL b h4
         exact .inr ⟨j,l,h5,h6⟩
       ·exact .inr h3
      have hy:RelAV w' F' ρ (a.put (some d) v).tmps y v:=by
       rcases hx with⟨hx,rfl⟩| ⟨rfl,rfl⟩
       ·exact hv.frozen_any hx
       ·cases hv with
        |cell c v h=>cases h with
         |ptr k off v h=>
          refine .cell _ _ (.ptr _ _ _ λb hb=>?_);have hbx:=bR kk;simp only[lkO,u2f,u2j]at hbx;cases hbx with
          |box cs oty b' c t aQ aV aW hs hh=>
           have hst:=hfr.stab kk (r2u hk);rw[gq,if_pos rfl,hb,aV]at hst;simp only[Stab]at hst;subst hst;exact h _ aV
      have hrel' :Rel N F' ρ ((Eff.upp j (.box cs1 ty1) d y).app st) (a.put (some d) v) w' :=by
       refine⟨⟨fk,hrw.lt,hr.rw.inj,hrw.tab⟩,λq=>?_,λk=>?_,by simpa[Act.put]using hr.sz,hr.df⟩
       ·rw[c0m]
        simp only[Eff.appF,Act.put];by_cases nb:q=d
        ·subst nb
         rw[if_pos rfl,l0i _ _ _ _ (by rw[hr.sz];exact a0e hd)];exact hy
        ·rw[if_neg nb,a0l _ _ _ _ _ nb]
         exact((hr.fr q).mono hF hfr.sub λ_ _ h=>h).dropW
       ·rw[i0c]
        simp only[Eff.appF];by_cases hkj:k=j
        ·subst hkj
         rw[if_pos rfl];have hbx:=bR kk;simp only[lkO,u2f,u2j]at hbx;have jw:=hr.ob k;rw[aH]at jw;cases jw with
         |box cs oty b2 c2 t2 aQ eH hb2 im lk=>
          cases hbx with
          |box cs oty b' c t aQ aV aW hs hh=>
           have hst:=hfr.stab kk (r2u hk);rw[gq,if_pos rfl,eH,aV]at hst;simp only[Stab]at hst;subst hst;exact .box _ _ _ c t aQ eH aW hs λq hq=>a1l h1 q hq _ (hh q hq)
        ·rw[if_neg hkj]
         exact(hr.ob k).through hF hfr.sub λl b hl hb=>aF b ((hr.ob k).lt hl hb) λl2 h3 h4=>hkj (hr.rw.inj _ _ _ _ b hl h3 hb h4)
      exact kont v w' F' ρ hrel' dC ⟨λ_ _=>rfl,λb hb hn=>aF b hb λl h3 h4=>hn j l rfl h3 h4⟩
     |panicked chain=>exact hre.elim
     |outgrown=>exact hre.elim
  ·cases h
 ·cases h
end
section
variable{P:Program}{N:Nat}{ops:Array Oper}{st:ASt}{i:Nat}
theorem IEff.ncall {d K:Nat}{f:FuncId}{cargs:List AV}{x:AV}{ob:AObj}(h:d0z P ops i st=some (some d,f,cargs))(hd:Nat.blt d N=true)(hz:AV.frozenL cargs=true)(b7:x.plain=true)
  (spec:ACalls P f cargs [] (EX x [(K,ob)])):IEff P N ops i st (.new d (ob.ren (fwd [(K,d)])) d (x.ren (fwd [(K,d)]))):=by
 unfold d0z at h;split at h
 ·rename_i d' c ty pos after guard ho
  split at h
  ·rename_i f' args' hc
   cases hb:a0m P f' with
   |false=>rw[hb]at h;cases h
   |true=>
    rw[hb]at h;cases h;intro F ρ a w hr KK R kk;obtain⟨e,hw⟩:=a0x hr ho;obtain⟨vs,hrun,aR,hrel⟩:=c0t hr hc hb ty;simp only[wpOp,e];rw[if_pos hw];left;have bD:(execOp a.eval ⟨some d,.call c,ty,pos,after,guard⟩).run P w=.ok (.enter f vs) w:=hrun;simp only[Oper.wp,Oper.upon,bD];have h0:RelW F (λ_=>none) w:=⟨(λb _ ⟨k,l,hk,_⟩=>by cases hk),hr.rw.lt,(λk k' l l' b hk=>by cases hk),hr.rw.tab⟩;refine(spec F (λ_=>none) vs w h0 (λk=>.gone rfl) ⟨aR,λj hj=>(hrel j hj).frozen_any (AV.frozenL_get hz j hj)⟩).mono λen w' ⟨F',ρ',r,bG,⟨hq,ho2⟩,hre,hrw,bR,hfr⟩=>?_;subst hq;subst ho2;have bP:∀b,¬live (λ_=>none) b:=λb ⟨k,l,hk,_⟩=>by cases hk
    cases en with
    |returned v=>
     have hv:RelAV w' F' ρ' #[] x v:=hre;have aF:∀b,b<w.heap.size->w'.heap[b]?=w.heap[b]?:=λb hb=>hfr.keep b hb (bP b);have oh:∀b,F b->w'.heap[b]?=w.heap[b]?:=λb hb=>aF b (hr.rw.lt b hb);have fk:∀b,F' b->¬live ρ b:=by
      rintro b hb ⟨k,l,hk,hl⟩;have aJ:=(hr.ob k).lt hk hl;rcases hfr.old b aJ (.inl hb)with h|h
      ·exact hr.rw.dis b h ⟨k,l,hk,hl⟩
      ·exact bP b h
     have hbx:RelOb w' F' ρ' K ob:=by
      have:=bR K;simp only[lkO,u2f,u2j]at this;exact this
     have hL:∀l b,ρ' K=some l->l.has b->¬F' b/\w.heap.size<=b:=by
      intro l b hk hl;have nX:¬F' b:=λhb=>hrw.dis _ hb ⟨K,l,hk,hl⟩;refine⟨nX,?_⟩;by_cases aJ:b<w.heap.size
      ·rcases hfr.old b aJ (.inr ⟨K,l,hk,hl⟩)with h|h
       ·exact absurd (hfr.sub _ h) nX
       ·exact absurd h (bP _)
      ·omega
     have cC:y0v (fwd [(K,d)]) ρ' (ρ.set d (ρ' K)):=by
      intro k j lo hf hl;simp only[fwd]at hf;cases hb:Nat.beq k K with
      |false=>rw[hb]at hf;cases hf
      |true=>
       rw[hb]at hf;cases hf;rw[Env.set_same]at hl;rw[r2h hb];exact hl
     have hn:Rel N F' (ρ.set d (ρ' K)) (st.newOb d (ob.ren (fwd [(K,d)]))) a w' :=by
      refine⟨⟨?_,hrw.lt,?_,hrw.tab⟩,?_,?_,hr.sz,hr.df⟩
      ·rintro b hb ⟨j,l,hj,hl⟩
       by_cases e:j=d
       ·subst e
        rw[Env.set_same]at hj;exact(hL l b hj hl).1 hb
       ·rw[Env.set_other _ _ _ e]at hj
        exact fk b hb ⟨j,l,hj,hl⟩
      ·intro x y l l' b hi hj hb hb'
       by_cases e1:x=d<;>by_cases e2:y=d
       ·exact e1.trans e2.symm
       ·subst e1
        rw[Env.set_same]at hi;rw[Env.set_other _ _ _ e2]at hj;have:=(hr.ob y).lt hj hb';have:=(hL l b hi hb).2;omega
       ·subst e2
        rw[Env.set_same]at hj;rw[Env.set_other _ _ _ e1]at hi;have:=(hr.ob x).lt hi hb;have:=(hL l' b hj hb').2;omega
       ·rw[Env.set_other _ _ _ e1]at hi
        rw[Env.set_other _ _ _ e2]at hj;exact hr.rw.inj _ _ _ _ b hi hj hb hb'
      ·intro j
       simp only[ASt.newOb,ASt.killF];rw[d0i (AV.kill d) (AV.kill_junk d)];exact((hr.fr j).kill (Env.set_off ρ d (ρ' K))).mono oh hfr.sub (λ_ _ h=>h)
      ·intro j
       by_cases e:j=d
       ·subst e
        simp only[ASt.newOb];rw[a0o];exact hbx.ren cC (Env.set_same _ _ _)
       ·simp only[ASt.newOb,ASt.killO]
        rw[a0j _ _ _ _ e,e0b (AObj.kill d) rfl];have h1:=(hr.ob j).kill (Env.set_off ρ d (ρ' K)) e;refine h1.through oh hfr.sub λl b hl hb=>?_;rw[Env.set_other _ _ _ e]at hl;exact aF b ((hr.ob j).lt hl hb)
     refine kk v w' F' (ρ.set d (ρ' K)) (hn.put d (a0e hd) ((hv.retm b7).ren cC)) ?_ ⟨λj hj=>Env.set_other _ _ _ λe=>hj (by rw[e];rfl),λb hb _=>aF b hb⟩;refine⟨hfr.os,hfr.tape,hfr.output,hfr.size,hfr.sub,λb hb _=>aF b hb,?_,λj hj=>?_⟩
     ·rintro b hb (h|⟨j,l,hj,hl⟩)
      ·rcases hfr.old b hb (.inl h)with h'|h'
       ·exact .inl h'
       ·exact absurd h' (bP b)
      ·by_cases e:j=d
       ·subst e
        rw[Env.set_same]at hj;have:=(hL l b hj hl).2;omega
       ·rw[Env.set_other _ _ _ e]at hj
        exact .inr ⟨j,l,hj,hl⟩
     ·have h1:=hr.df.2
      have h2:=a0e hd;rw[Env.set_other _ _ _ (show j≠d by omega)];exact Stab.refl _ _
    |panicked chain=>exact hre.elim
    |outgrown=>exact hre.elim
  ·cases h
 ·cases h
end
section
variable{ρ:Type}(P:Program)(N:Nat)(T:List (TypeId×Ev.Ty))(M:List (Nat×ArgM))(O:Orc ρ)(ops:Array Oper)
def t0s(d:Nat):List Oper->Bool
 |[]=>false
 |o::r=>(match o.op with
  |.call c=>v0x o&&c.args.toList.any λ
   |.tmp t=>Nat.beq t d
   |_=>false
  |_=>false) || t0s d r
def c1s(d:Nat):List Oper->Bool
 |[]=>false
 |o::r=>(match o.op with
  |.buildSlice _ _ els=>els.toList.any λp=>match p.2 with
   |.tmp t=>Nat.beq t d
   |_=>false
  |_=>false) || c1s d r
def h2d(st:ASt)(o:Oper):Eff:=
 match o.guard with
 |some _=>.put (o.dst.getD 0) .junk
 |none=>match o.op with
  |.pick _ _ _=>.put (o.dst.getD 0) .junk
  |.buildSlice _ _ _=>bif t0s (o.dst.getD 0) ops.toList then .put (o.dst.getD 0) .junk else .new (o.dst.getD 0) .any (o.dst.getD 0) (.cell (.own (o.dst.getD 0)))
  |.makeSlice _ _ _=>.new (o.dst.getD 0) .any (o.dst.getD 0) (.cell (.own (o.dst.getD 0)))
  |.box _ _=>match g1z P N o st with
   |some e=>e
   |none=>.new (o.dst.getD 0) .any (o.dst.getD 0) (.cell (.ptr (o.dst.getD 0) 0))
  |.store _ p _=>match g1z P N o st with
   |some e=>e
   |none=>match ev st.fr p with
    |.cell (.ptr k _)=>.upd k (lkO st.ob k)
    |.cell (.elt k _ _ _)=>.upd k (lkO st.ob k)
    |_=>.put 0 .junk
  |.mapEntry _ m _=>match ev st.fr m with
   |.cell (.mpr k)=>.upp k (lkO st.ob k) (o.dst.getD 0) .junk
   |_=>.put (o.dst.getD 0) .junk
  |.entryStore _ m _ _=>match ev st.fr m with
   |.cell (.mpr k)=>.upd k (lkO st.ob k)
   |_=>.put 0 .junk
  |.mapUpdate _ m _ _=>match ev st.fr m with
   |.cell (.mpr k)=>.upd k (lkO st.ob k)
   |_=>.put 0 .junk
  |.slice _ x none (some _) none=>bif p1d M then match ev st.fr x with
    |.cell (.own k)=>.new k (lkO st.ob k) (o.dst.getD 0) (.cell (.own k))
    |_=>.put (o.dst.getD 0) .junk
    else .put (o.dst.getD 0) .junk
  |.indexAddr _ x _=>bif p1d M then match ev st.fr x with
    |.cell (.own k)=>.put (o.dst.getD 0) (.cell (.elt k 0 0 0))
    |_=>.put (o.dst.getD 0) .junk
    else .put (o.dst.getD 0) .junk
  |.call c=>match v0x o with
   |true=>match b0u st.fr c with
    |some (f,args)=>match t1e st.ob args 0 (a0z M f).hand with
     |[(_,j)]=>.upp j (lkO st.ob j) (o.dst.getD 0) .junk
     |_=>match(a0z M f).news with
      |[]=>.put (o.dst.getD 0) .junk
      |_=>match(a0z M (1500000000+f)).hand with
       |[n,ix]=>.new (o.dst.getD 0) .any (o.dst.getD 0) (.agg ((List.range n).map λq=>bif Nat.beq q ix then .own (o.dst.getD 0)else .junk))
       |_=>.new (o.dst.getD 0) .any (o.dst.getD 0) (.cell (.ptr (o.dst.getD 0) 0))
    |none=>.put (o.dst.getD 0) .junk
   |false=>match c.callee,c.args.toList with
    |.builtin .append,s::_=>match ev st.fr s with
     |.cell (.own k)=>bif c1s (o.dst.getD 0) ops.toList then .new k .gone (o.dst.getD 0) .junk else .new k (lkO st.ob k) (o.dst.getD 0) (.cell (.own k))
     |.cell (.ptr k _)=>bif c1s (o.dst.getD 0) ops.toList then .new k .gone (o.dst.getD 0) .junk else .new k .any (o.dst.getD 0) (.cell (.own k))
     |_=>.new (o.dst.getD 0) .any (o.dst.getD 0) (.cell (.own (o.dst.getD 0)))
    |_,_=>.put (o.dst.getD 0) .junk
  |_=>match g1z P N o st with
   |some e=>e
   |none=>.put (o.dst.getD 0) .junk
def b2m:List Oper->ASt->List Eff
 |[],_=>[]
 |o::r,st=>h2d P N M ops st o::b2m r ((h2d P N M ops st o).app st)
def j1k:List Oper->ASt->List Nat
 |[],_=>[]
 |o::r,st=>b0f M st o++j1k r ((h2d P N M ops st {o with guard:=none}).app st)
def dK(i:Nat)(s:ASt)(k:Eff->Option ρ):Option ρ:=
 match opK ops s.fr i with
 |some o=>match v0x o with
  |true=>match d0z P ops i s with
   |some (some d,f,args)=>bif (a0z M f).bor then bif Nat.blt d N&&AV.frozenL (borL s.ob args)then O f (borL s.ob args) [] λx o2=>match m1v args x o2 with
    |some y=>k (.put d y)
    |none=>none
    else none else bif Nat.blt d N then
    match t1e s.ob args 0 (a0z M f).hand with
    |[]=>bif AV.frozenL args then O f args [] λx o2=>match o2 with
     |[]=>bif x.frozen then k (.put d x)else none
     |[(k2,ob)]=>bif x.plain then k (.new d (ob.ren (fwd [(k2,d)])) d (x.ren (fwd [(k2,d)])))else none
     |_=>none
     else none
    |[(kk,j)]=>match lkO s.ob j with
     |.box cs0 ty0=>bif AV.plainL args&&Nat.ble 1000000 kk&&x0o cs0 then O f (f0r [(kk,j)] [] 0 args) [(kk,.box cs0 ty0)] λx o2=>match o2 with
      |[(k2,.box cs1 ty1)]=>bif Nat.beq k2 kk&&x0o cs1 then bif x.frozen then k (.upp j (.box cs1 ty1) d x)else match x with
       |.cell (.ptr k3 0)=>bif Nat.beq k3 kk then k (.upp j (.box cs1 ty1) d (.cell (.ptr j 0)))else none
       |_=>none
       else none
      |_=>none
      else none
     |_=>none
    |_=>none
    else none
   |_=>match qExt P N ops i s with
    |some (d,f,cargs)=>O f cargs [] λx _=>k (.put d x)
    |none=>none
  |false=>match o.op with
   |.buildSlice _ _ _=>bif t0s (o.dst.getD 0) ops.toList then kOp P N T s o λe=>match e with
    |.new d (.na _ τ xs) d1 (.cell (.own d2))=>match lkO s.ob d with
     |.gone=>bif Nat.blt d N&&Nat.beq d1 d&&Nat.beq d2 d then k (.put d (.cell (.d (.nl τ xs))))else none
     |_=>none
    |_=>none
    else kOp P N T s o k
   |.call _=>bif c1s (o.dst.getD 0) ops.toList then kOp P N T s o λe=>match e with
    |.new k1 (.na _ τ xs) d (.cell (.own k2))=>bif Nat.beq k2 k1 then k (.new k1 .gone d (.cell (.d (.nl τ xs))))else none
    |_=>k e
    else match eqPO P N s o with
    |some e=>k e
    |none=>kOp P N T s o k
   |_=>match eqPO P N s o with
    |some e=>k e
    |none=>kOp P N T s o k
 |none=>match j1c ops s.fr i with
  |some d=>bif Nat.blt d N then k (.put d (q1q ops i d))else none
  |none=>none
def dKn(i g:Nat)(s:ASt)(k:Eff->Option ρ):Option ρ:=
 match lkF s.fr g with
 |.cell (.d (.sc (.bool t)))=>dK P N T M O ops i (s.know g t) k
 |_=>none
def dKw(i g1 g:Nat)(s:ASt)(k:Eff->Option ρ):Option ρ:=
 match lkF s.fr g1 with
 |.cell (.d (.sc (.bool t)))=>dKn P N T M O ops i g (s.know g1 t) k
 |_=>none
def dKo(i g:Nat)(s:ASt)(k:Eff->Option ρ):Option ρ:=
 match lkF s.fr g with
 |.whn g1 _ _=>dKw P N T M O ops i g1 g s k
 |_=>dKn P N T M O ops i g s k
abbrev litB(b:Bool):AV:=.cell (.d (.sc (.bool b)))
def evD(bs:List Nat)(sk:List Eff)(st:ASt):(n i:Nat)->List (Nat×Bool)->List Eff->(List Eff->Option ρ)->Option ρ
 | 0,_,_,effs,k=>k effs
 |n+1,i,kn,effs,k=>match ops[i]? with
  |none=>none
  |some o=>match o.guard with
   |none=>dK P N T M O ops i (i0m bs sk effs st i) λe=>evD bs sk st n (i+1) kn (effs++ [e]) k
   |some (j,want)=>match t0d ops j with
    |none=>none
    |some g0=>bif r0t kn g0 (!want)then dKo P N T M O ops i g0 (i0m bs sk effs st i) λe=>evD bs sk st n (i+1) kn (effs++ [e]) k else match a2e P N ops o j want (i0m bs sk effs st i)with
    |some e=>evD bs sk st n (i+1) kn (effs++ [e]) k
    |none=>match effs[j]? with
     |some (.put g (.cell (.d (.sc (.bool b)))))=>
      bif b then dKn P N T M O ops i g (i0m bs sk (effs.set j (.put g (.cell (.d (.sc (.bool true)))))) st i) λe=>evD bs sk st n (i+1) ((g,true)::kn) (effs.set j (.put g (.cell (.d (.sc (.bool true)))))++ [e]) k
      else dKn P N T M O ops i g (i0m bs sk (effs.set j (.put g (.cell (.d (.sc (.bool false)))))) st i) λe=>evD bs sk st n (i+1) ((g,false)::kn) (effs.set j (.put g (.cell (.d (.sc (.bool false)))))++ [e]) k
     |some (.put g (.whn g1 w1 (.cell (.d (.sc (.bool b))))))=>match(ops[j]?).bind λo1=>o1.guard with
      |some (j1,_)=>match effs[j1]? with
       |some (.put g2 (.cell (.d (.sc (.bool b1)))))=>
        bif b1 then
         bif true==w1 then
          bif b then dKw P N T M O ops i g1 g (i0m bs sk ((effs.set j1 (.put g2 (litB true))).set j (.put g (.whn g1 w1 (litB true)))) st i) λe=>evD bs sk st n (i+1) ((g,true)::(g1,true)::kn) ((effs.set j1 (.put g2 (litB true))).set j (.put g (.whn g1 w1 (litB true)))++ [e]) k
          else dKw P N T M O ops i g1 g (i0m bs sk ((effs.set j1 (.put g2 (litB true))).set j (.put g (.whn g1 w1 (litB false)))) st i) λe=>evD bs sk st n (i+1) ((g,false)::(g1,true)::kn) ((effs.set j1 (.put g2 (litB true))).set j (.put g (.whn g1 w1 (litB false)))++ [e]) k
         else dKn P N T M O ops i g1 (i0m bs sk (effs.set j1 (.put g2 (litB true))) st i) λe=>evD bs sk st n (i+1) ((g1,true)::kn) (effs.set j1 (.put g2 (litB true))++ [e]) k
        else
         bif false==w1 then
          bif b then dKw P N T M O ops i g1 g (i0m bs sk ((effs.set j1 (.put g2 (litB false))).set j (.put g (.whn g1 w1 (litB true)))) st i) λe=>evD bs sk st n (i+1) ((g,true)::(g1,false)::kn) ((effs.set j1 (.put g2 (litB false))).set j (.put g (.whn g1 w1 (litB true)))++ [e]) k
          else dKw P N T M O ops i g1 g (i0m bs sk ((effs.set j1 (.put g2 (litB false))).set j (.put g (.whn g1 w1 (litB false)))) st i) λe=>evD bs sk st n (i+1) ((g,false)::(g1,false)::kn) ((effs.set j1 (.put g2 (litB false))).set j (.put g (.whn g1 w1 (litB false)))++ [e]) k
         else dKn P N T M O ops i g1 (i0m bs sk (effs.set j1 (.put g2 (litB false))) st i) λe=>evD bs sk st n (i+1) ((g1,false)::kn) (effs.set j1 (.put g2 (litB false))++ [e]) k
       |_=>none
      |none=>none
     |some (.put _ (.whn g1 w1 .junk))=>bif r0t kn g1 (!w1)then dKn P N T M O ops i g1 (i0m bs sk effs st i) λe=>evD bs sk st n (i+1) kn (effs++ [e]) k else none
     |_=>none
def s0u(M:List (Nat×ArgM))(l:List Oper):Nat:=
 match(a0z M 999999994).hand with
 |[]=>l.length
 |ds=>l.findIdx λo=>match o.dst with
  |some d=>memB d ds
  |none=>false
def i1s(ds:List Nat):Nat->List Oper->List Nat
 |_,[]=>[]
 |i,o::r=>match o.dst with
  |some d=>bif memB d ds then i::i1s ds (i+1) r else i1s ds (i+1) r
  |none=>i1s ds (i+1) r
def flAt(M:List (Nat×ArgM))(l:List Oper):List Nat:=
 match(a0z M 999999993).hand with
 |[]=>[]
 |ds=>i1s ds 0 l
def e2k(ops:Array Oper)(m:Nat)(fl:List Nat):Bool:=
 match fl with
 |[]=>true
 |_=>b2b ops m fl
def demT(f:Nat->Option ρ):List Nat->Option ρ
 |[]=>none
 |[i]=>f i
 |i::j::r=>dem2 (f i) (demT f (j::r))
def t1f(listed:Array Bool)(i:Nat):Bool:=
 (match ops[i]? with
  |some o=>(match o.op with|.move _|.assign _=>true|_=>false)&&o.guard.isNone
  |none=>false)&&Region.free .any ops listed i
def p0i:Nat->Array Bool->ASt->(ASt->Option ρ)->Option ρ
 | 0,listed,st,k=>match Region.ready .any ops listed with
  |[]=>k st
  |_=>none
 |fuel+1,listed,st,k=>match Region.ready .any ops listed with
  |[]=>k st
  |i0::rs=>match(i0::rs).find? (t1f ops listed)with
   |some i=>h1e P N T M O ops 1 i [] st λs=>p0i fuel (listed.setIfInBounds i true) s k
   |none=>demT (λi=>h1e P N T M O ops 1 i [] st λs=>p0i fuel (listed.setIfInBounds i true) s k) (i0::rs)
def d2f(M:List (Nat×ArgM))(l:List Oper):Bool:=
 match(a0z M 999999992).hand with
 |[]=>false
 |ds=>l.any λo=>match o.dst with
  |some d=>memB d ds
  |none=>false
def d1r:DOrc ρ:=λops st k=>
 bif d1i (bsOf ops.toList []) 0 ops.toList then
  evD P N T M O ops (bsOf ops.toList []) (b2m P N M ops (ops.toList.take (s0u M ops.toList)) st) ((j1k P N M ops (ops.toList.take (s0u M ops.toList)) st).foldl ASt.freeze st) (s0u M ops.toList) 0 [] [] λeffs=>
   bif g1b (bsOf ops.toList []) effs&&h0j (b2m P N M ops (ops.toList.take (s0u M ops.toList)) st) effs&&Nat.ble effs.length ops.size&&Nat.beq effs.length (s0u M ops.toList)&&t1x (bsOf ops.toList []) (flAt M ops.toList) (s0u M ops.toList) ops.size&&e2k ops (s0u M ops.toList) (flAt M ops.toList)then
    h1e P N T M O ops (ops.size - s0u M ops.toList) (s0u M ops.toList) [] (l0p (λ_=>true) 0 effs ((j1k P N M ops (ops.toList.take (s0u M ops.toList)) st).foldl ASt.freeze st)) k
   else none
 else none
def k1p:DOrc ρ:=λops st k=>
 bif d2f M ops.toList then(bif Region.noSelect ops then p0i P N T M O ops ops.size (Array.replicate ops.size false) st k else none)else d1r P N T M O ops st k
end
section
variable{ρ:Type}{P:Program}{N:Nat}{T:List (TypeId×Ev.Ty)}{M:List (Nat×ArgM)}{O:Orc ρ}{ops:Array Oper}{st:ASt}{i n:Nat}{r:ρ}
theorem k1u(hO:O.ok P){s:ASt}{k:Eff->Option ρ}(h:dK P N T M O ops i s k=some r):∃e,IEff P N ops i s e/\k e=some r:=by
 unfold dK at h;split at h
 ·rename_i o ho
  split at h
  ·split at h
   ·rename_i d f args hq
    cases j8:(a0z M f).bor with
    |true=>
     rw[j8,u2j]at h;cases hb:(Nat.blt d N&&AV.frozenL (borL s.ob args))with
     |false=>rw[hb]at h;cases h
     |true=>
      rw[hb,u2j]at h;rw[r2i]at hb;obtain⟨x,h1,h2⟩:=c1n (k:=λx=>k (.put d x)) hO hq hb.1 hb.2 h;exact⟨_,h1,h2⟩
    |false=>
    rw[j8,u2k]at h;cases hd:Nat.blt d N with
    |false=>rw[hd]at h;cases h
    |true=>
     rw[hd,u2j]at h;split at h
     ·cases hz:AV.frozenL args with
      |false=>rw[hz]at h;cases h
      |true=>
       rw[hz,u2j]at h;obtain⟨x,o2,h1,h2⟩:=(hO _ _ _ _ _ h).elim (λh=>h.2) (λh=>absurd (i0q hq) (by rcases h with h|h<;>(rw[h.1];simp)))
       split at h2
       ·cases hx:x.frozen with
        |false=>rw[hx]at h2;cases h2
        |true=>
         rw[hx]at h2;have fQ:a2b P N ops i s=some (d,f,args):=by
          unfold d0z at hq;unfold a2b;split at hq
          ·rename_i d' c ty pos after guard ho
           split at hq
           ·rename_i f' args' hc
            cases hb:a0m P f' with
            |false=>rw[hb]at hq;cases hq
            |true=>
             rw[hb]at hq;cases hq;simp[ho,hc,hb,hd]
           ·cases hq
          ·cases hq
         exact⟨_,.qpcall fQ hz (h1.mono λ_ _ hh=>hh.1) hx,h2⟩
       ·rename_i k2 ob
        cases hx:x.plain with
        |false=>rw[hx]at h2;cases h2
        |true=>
         rw[hx,u2j]at h2;exact⟨_,.ncall hq hd hz hx h1,h2⟩
       ·cases h2
     ·rename_i kk j hm
      split at h
      ·rename_i cs0 ty0 hj
       cases hz:(AV.plainL args&&Nat.ble 1000000 kk&&x0o cs0)with
       |false=>rw[hz]at h;cases h
       |true=>
        rw[hz,u2j]at h;simp only[r2i]at hz;obtain⟨x,o2,h1,h2⟩:=(hO _ _ _ _ _ h).elim (λh=>h.2) (λh=>absurd (i0q hq) (by rcases h with h|h<;>(rw[h.1];simp)))
        split at h2
        ·rename_i k2 cs1 ty1
         cases hx:(Nat.beq k2 kk&&x0o cs1)with
         |false=>rw[hx]at h2;cases h2
         |true=>
          rw[hx,u2j]at h2;simp only[r2i]at hx;have:=r2h hx.1;subst this;cases hf:x.frozen with
          |true=>
           rw[hf,u2j]at h2;exact⟨_,.bcall hq hd hz.1.1 hz.1.2 hj hz.2 hx.2 h1 (.inl ⟨hf,rfl⟩),h2⟩
          |false=>
           rw[hf,u2k]at h2;split at h2
           ·rename_i k3
            cases h3:Nat.beq k3 k2 with
            |false=>rw[h3]at h2;cases h2
            |true=>
             rw[h3,u2j]at h2;have:=r2h h3;subst this;exact⟨_,.bcall hq hd hz.1.1 hz.1.2 hj hz.2 hx.2 h1 (.inr ⟨rfl,rfl⟩),h2⟩
           ·cases h2
        ·cases h2
      ·cases h
     ·cases h
   ·split at h
    ·rename_i d f cargs hq
     rcases hO _ _ _ _ _ h with hh|⟨_,x,h1,h2,h3⟩| ⟨_,ho,_⟩
     ·exfalso
      have:=m1z hq;rw[this]at hh;cases hh.1
     ·exact⟨_,(IEff.ext hq h1 h2).2,h3⟩
     ·exact absurd rfl ho
    ·cases h
  ·split at h
   ·cases hb:t0s (o.dst.getD 0) ops.toList with
    |false=>rw[hb]at h;exact g0t ho h
    |true=>
     rw[hb,u2j]at h;obtain⟨e,h1,h2⟩:=g0t ho h;split at h2
     ·rename_i d te τ xs d1 d2
      split at h2
      ·rename_i hg
       cases hc:(Nat.blt d N&&Nat.beq d1 d&&Nat.beq d2 d)with
       |false=>rw[hc]at h2;cases h2
       |true=>
        rw[hc,u2j]at h2;simp only[r2i]at hc;have e1:=r2h hc.1.2;have e2:=r2h hc.2;subst e1;subst e2;exact⟨_,.newF hc.1.1 hg h1,h2⟩
      ·cases h2
     ·cases h2
   ·cases hb:c1s (o.dst.getD 0) ops.toList with
    |false=>
     rw[hb,u2k]at h;split at h
     ·rename_i e he
      exact⟨e,.of_opK ho (i1b he),h⟩
     ·exact g0t ho h
    |true=>
     rw[hb,u2j]at h;obtain⟨e,h1,h2⟩:=g0t ho h;split at h2
     ·rename_i k1 te τ xs d k2
      cases hc:Nat.beq k2 k1 with
      |false=>rw[hc]at h2;cases h2
      |true=>
       rw[hc,u2j]at h2;have:=r2h hc;subst this;exact⟨_,.newS h1,h2⟩
     ·exact⟨e,h1,h2⟩
   ·split at h
    ·rename_i e he
     exact⟨e,.of_opK ho (i1b he),h⟩
    ·exact g0t ho h
 ·split at h
  ·rename_i d hd
   cases hb:Nat.blt d N with
   |false=>rw[hb]at h;cases h
   |true=>
    rw[hb]at h;exact⟨_,.skip hd hb,h⟩
  ·cases h
theorem g0u(hO:O.ok P){s:ASt}{g:Nat}{k:Eff->Option ρ}(h:dKn P N T M O ops i g s k=some r):∃e,IEff P N ops i s e/\k e=some r:=by
 unfold dKn at h;split at h
 ·rename_i t ht
  obtain⟨e,h1,h2⟩:=k1u hO h;exact⟨e,.frame (λF ρ0 a w hr=>hr.know ht) h1,h2⟩
 ·cases h
theorem z0u(hO:O.ok P){g1 g:Nat}{s:ASt}{k:Eff->Option ρ}(h:dKw P N T M O ops i g1 g s k=some r):∃e,IEff P N ops i s e/\k e=some r:=by
 unfold dKw at h;split at h
 ·rename_i t ht
  obtain⟨e,h1,h2⟩:=g0u hO h;exact⟨e,.frame (λF ρ0 a w hr=>hr.know ht) h1,h2⟩
 ·cases h
theorem x1v(hO:O.ok P){g:Nat}{s:ASt}{k:Eff->Option ρ}(h:dKo P N T M O ops i g s k=some r):∃e,IEff P N ops i s e/\k e=some r:=by
 unfold dKo at h;split at h
 ·exact z0u hO h
 ·exact g0u hO h
omit [Tabs]in
theorem set_same{effs:List Eff}{j:Nat}{e:Eff}(hj:effs[j]?=some e):effs.set j e=effs:=by
 obtain⟨h1,h2⟩:=r2p.1 hj;rw [<-h2];exact List.set_getElem_self h1
theorem d0q(hO:O.ok P){bs:List Nat}{sk:List Eff}:∀{n i:Nat} {kn:List (Nat×Bool)} {effs:List Eff} {k:List Eff->Option ρ},effs.length=i->(∀j e,effs[j]?=some e->IEff P N ops j (i0m bs sk (effs.take j) st j) e)->evD P N T M O ops bs sk st n i kn effs k=some r->
  ∃all,k all=some r/\∀j e,all[j]?=some e->IEff P N ops j (i0m bs sk (all.take j) st j) e
 | 0,i,kn,effs,k,_,he,h=>⟨effs,h,he⟩
 |n+1,i,kn,effs,k,hl,he,h=>by
  have step:∀e,IEff P N ops i (i0m bs sk effs st i) e->∀j e',(effs++ [e])[j]?=some e' ->IEff P N ops j (i0m bs sk ((effs++ [e]).take j) st j) e' :=by
   intro e h1 j e' hj;by_cases aJ:j<effs.length
   ·rw[s2w aJ]at hj
    rw[List.take_append_of_le_length (by omega)];exact he j e' hj
   ·have o0:j=effs.length:=by
     have:=(r2p.1 hj).1;simp only[r2t,r2w,List.length_nil]at this;omega
    subst o0;rw[t2c (r2q _)]at hj;simp only[Nat.sub_self,t2o,r2l]at hj;subst hj;rw[List.take_append_of_le_length (r2q _),List.take_length,hl];exact h1
  simp only[evD]at h;split at h
  ·cases h
  ·rename_i o ho
   split at h
   ·obtain⟨e,h1,h2⟩:=k1u hO h
    exact d0q hO (by simp[hl]) (step e h1) h2
   ·rename_i j want hg
    split at h
    ·cases h
    ·rename_i g0 hg0
     cases hb:r0t kn g0 (!want)with
     |true=>
      rw[hb,u2j]at h;obtain⟨e,h1,h2⟩:=x1v hO h;exact d0q hO (by simp[hl]) (step e h1) h2
     |false=>
     rw[hb,u2k]at h;split at h
     ·rename_i e hs
      exact d0q hO (by simp[hl]) (step e (.of_guard ho hg (l1i hs))) h
     ·split at h
      ·rename_i g b hj
       have bH:effs.set j (.put g (.cell (.d (.sc (.bool b)))))=effs:=by
        obtain⟨h1,h2⟩:=r2p.1 hj;rw [<-h2];exact List.set_getElem_self h1
       cases b with
       |true=>
        rw[u2j,bH]at h;obtain⟨e,h1,h2⟩:=g0u hO h;exact d0q hO (by simp[hl]) (step e h1) h2
       |false=>
        rw[u2k,bH]at h;obtain⟨e,h1,h2⟩:=g0u hO h;exact d0q hO (by simp[hl]) (step e h1) h2
      ·rename_i g g1 w1 b hj
       split at h
       ·rename_i j1 _ _
        split at h
        ·rename_i g2 b1 kH
         have s1:=set_same kH;have s2:=set_same hj;cases b1<;>simp only[u2j,u2k]at h<;>cases w1<;>simp only[beq_self_eq_true,u2j,u2k,show(true==false)=false from rfl,show(false==true)=false from rfl]at h<;>
          cases b<;>simp only[u2j,u2k,litB,s1,s2]at h<;>
          first
          |(obtain⟨e,h1,h2⟩:=z0u hO h;exact d0q hO (by simp[hl]) (step e h1) h2)
          |(obtain⟨e,h1,h2⟩:=g0u hO h;exact d0q hO (by simp[hl]) (step e h1) h2)
        ·cases h
       ·cases h
      ·rename_i g1 w1 hj
       cases hb2:r0t kn g1 (!w1)with
       |false=>rw[hb2]at h;cases h
       |true=>
        rw[hb2,u2j]at h;obtain⟨e,h1,h2⟩:=g0u hO h;exact d0q hO (by simp[hl]) (step e h1) h2
      ·cases h
omit [Tabs]in
theorem u0b(L:Nat->Bool):∀(l:List Eff) (s m:Nat) (st:ASt),(∀j,s+m<=j->L j=false)->l0p L s l st=l0p L s (l.take m) st
 |[],s,m,st,_=>by simp
 |e::r,s,0,st,h=>by
  simp only[List.take_zero,l0p];rw[h s (by omega)];have:∀(l:List Eff) (s' :Nat),s<=s' ->l0p L s' l st=st:=by
   intro l
   induction l with
   |nil=>intro s' _;rfl
   |cons e r ih=>
    intro s' hs;simp only[l0p,h s' (by omega)];exact ih (s' +1) (by omega)
  exact this r (s+1) (by omega)
 |e::r,s,m+1,st,h=>by
  simp only[List.take_succ_cons,l0p];exact u0b L r (s+1) m _ λj hj=>h j (by omega)
omit [Tabs]in
theorem s0r{bs:List Nat}{i:Nat}:∀{sk effs:List Eff} (s:Nat),h0j sk effs=true->h0j (d0e bs i s sk) (d0e bs i s effs)=true
 |[],[],s,_=>rfl
 |x::r,y::q,s,h=>by
  simp only[h0j,r2i]at h;simp only[d0e];cases ub bs i s with
  |true=>simp only[u2j,h0j,r2i];exact⟨h.1,s0r (s+1) h.2⟩
  |false=>exact s0r (s+1) h.2
 |[],_::_,_,h=>by cases h
 |_::_,[],_,h=>by cases h
omit [Tabs]in
theorem z0t:∀{a b:List Eff},h0j a b=true->m0j a=m0j b/\n0g a=n0g b/\tchs a=tchs b
 |[],[],_=>⟨rfl,rfl,rfl⟩
 |x::r,y::q,h=>by
  simp only[h0j,r2i]at h;obtain⟨h1,h2,h3⟩:=z0t h.2;have hx:=h.1;have k1:∀k,m0j r k=m0j q k:=λk=>congrFun h1 k;have k2:∀k,n0g r k=n0g q k:=λk=>congrFun h2 k;simp only[m0j,n0g]at k1 k2;cases x<;>cases y<;>simp only[e2t,r2i,u2g]at hx
  ·rw[r2h hx]
   exact⟨by funext k;simp[m0j,k1],by funext k;simp[n0g,k2],h3⟩
  ·rw[r2h hx.1,r2h hx.2]
   exact⟨by funext k;simp[m0j,k1],by funext k;simp[n0g,k2],by simp[tchs,h3]⟩
  ·rw[r2h hx]
   exact⟨by funext k;simp[m0j,k1],by funext k;simp[n0g,k2],by simp[tchs,h3]⟩
  ·rw[r2h hx.1,r2h hx.2]
   exact⟨by funext k;simp[m0j,k1],by funext k;simp[n0g,k2],by simp[tchs,h3]⟩
 |[],_::_,h=>by cases h
 |_::_,[],h=>by cases h
theorem b2e{p q:Nat->Bool}{dk:List Nat}{f:Nat->AObj}{s:ASt}{F:Nat->Prop}{ρ0:Env}{a:Act}{w:World}(h:Rel N F ρ0 (s.weak p q dk f) a w):Rel N F ρ0 (s.weak p q dk λ_=>.any) a w:=by
 refine⟨h.rw,h.fr,λk=>?_,h.sz,h.df⟩;have hk:=h.ob k;simp only[ASt.weak]at hk⊢;rw[x0i]at hk⊢;cases hm:memB k dk with
 |true=>rw[hm]at hk;exact .any _ hk
 |false=>rw[hm]at hk;exact hk
theorem n1y [DfOk M] (hO:O.ok P)(hm:P.follows .mixedOrders=true):(d1r P N T M O).ok P N:=by
 intro id ops st k r h;unfold d1r at h;cases hb:d1i (bsOf ops.toList []) 0 ops.toList with
 |false=>rw[hb]at h;cases h
 |true=>
  rw[hb,u2j]at h;generalize hsq:s0u M ops.toList=m at h;generalize (j1k P N M ops (ops.toList.take m) st)=fz at h;refine .freezes fz ?_;generalize fz.foldl ASt.freeze st=st1 at h;obtain⟨all,h1,h2⟩:=d0q (effs:=[]) hO rfl (λj e he=>by simp at he) h;cases hc:(g1b (bsOf ops.toList []) all&&h0j (b2m P N M ops (ops.toList.take m) st) all&&Nat.ble all.length ops.size&&Nat.beq all.length m&&t1x (bsOf ops.toList []) (flAt M ops.toList) m ops.size&&e2k ops m (flAt M ops.toList))with
  |false=>rw[hc]at h1;cases h1
  |true=>
   rw[hc,u2j]at h1;simp only[r2i]at hc;obtain⟨hc,hfo⟩:=hc;have kR:=r2h hc.1.2;subst kR;generalize flAt M ops.toList=fl at hc hfo;refine AW.drawSeq (c:=.region id ops true) rfl hm all (bsOf ops.toList []) (r2u hc.1.1.2) hb hc.1.1.1.1 (λi e he f=>?_) rfl fl (by cases fl with|nil=>exact .inl rfl|cons x r=>exact .inr ⟨hfo,λe s h=>h.1⟩) hc.2 (h0p hO h1 λs hs=>⟨rfl,hs⟩)
   have h3:=h2 i e he;refine .frame (λF ρ0 a w hr=>?_) h3;have e1:=z0t (s0r (bs:=bsOf ops.toList []) (i:=i) 0 hc.1.1.1.2);unfold e2q at hr;unfold i0m;rw[e1.1,e1.2.1,e1.2.2, <-u0b (Nat.blt · i) all 0 i st1 (λj hj=>by
    cases aW:Nat.blt j i with
    |false=>rfl
    |true=>exact absurd (a0e aW) (by omega))]
   exact b2e hr
omit [Tabs]in
theorem j1x{f:Nat->Option ρ}{r:ρ}:∀{l:List Nat},demT f l=some r->∀i∈l,f i=some r
 |[],h=>by cases h
 |[i],h=>λj hj=>by
  rw[s2e]at hj;subst hj;exact h
 |i::j::l,h=>λq hq=>by
  rw[demT]at h;have h2:=p1m h;rcases r2s.1 hq with rfl|hq
  ·exact h2.1
  ·exact j1x h2.2 q hq
omit [Tabs]in
theorem u0j{Q Q' :Exit->Act->World->Prop}(hq:∀e a w,e≠ .normal->Q e a w->Q' e a w){i:Nat}{a:Act}{w:World}{K K' :Act->World->Prop}(hk:∀a w,K a w->K' a w)(h:wpOp P ops Q i K a w):wpOp P ops Q' i K' a w:=by
 simp only[wpOp]at h⊢;split
 ·rename_i e
  rw[e]at h;exact hk _ _ h
 ·rename_i o e
  rw[e]at h;simp only at h;split
  ·rename_i hw
   rw[if_pos hw]at h;rcases h with h|⟨h1,a0,w0,h2⟩
   ·left
    unfold Oper.wp Oper.upon at h⊢;split at h
    ·exact hk _ _ h
    ·exact hk _ _ h
    ·exact hk _ _ h
    ·refine h.mono λe w' he=>?_
     cases e with
     |returned v=>exact hk _ _ he
     |panicked c=>exact hq _ _ _ (by simp) he
     |outgrown=>obtain⟨a0,w0,h0⟩:=he;exact⟨a0,w0,hq _ _ _ (by simp) h0⟩
    ·exact h.mono λv w' hv=>hk _ _ hv
    ·exact hq _ _ _ (by simp) h
    ·exact h
   ·exact .inr ⟨h1,a0,w0,hq _ _ _ (by simp) h2⟩
  ·rename_i hw
   rw[if_neg hw]at h;exact hk _ _ h
theorem p0o [DfOk M] (hO:O.ok P)(dB:Region.noSelect ops=true){k:ASt->Option ρ}{F0:Nat->Prop}{ρ0:Env}{w0:World}:∀(fuel:Nat) (listed:Array Bool) (st:ASt),p0i P N T M O ops fuel listed st k=some r->∀F ρ a w,Rel N F ρ st a w->Fr F0 ρ0 w0 F ρ w->
  wpAny P .any ops (λex a' w' =>∃F' ρ' st',(ex=.normal/\k st' =some r)/\Rel N F' ρ' st' a' w' /\Fr F0 ρ0 w0 F' ρ' w') fuel listed a w
 | 0,listed,st,h=>λF ρ a w hr hf=>by
  rw[p0i]at h;split at h
  ·rename_i hre
   exact⟨hre,F,ρ,st,⟨rfl,h⟩,hr,hf⟩
  ·cases h
 |fuel+1,listed,st,h=>λF ρ a w hr hf=>by
  have one:∀i,h1e P N T M O ops 1 i [] st (λs=>p0i P N T M O ops fuel (listed.setIfInBounds i true) s k)=some r->
    wpOp P ops (λex a' w' =>∃F' ρ' st',(ex=.normal/\k st' =some r)/\Rel N F' ρ' st' a' w' /\Fr F0 ρ0 w0 F' ρ' w') i
     (wpAny P .any ops (λex a' w' =>∃F' ρ' st',(ex=.normal/\k st' =some r)/\Rel N F' ρ' st' a' w' /\Fr F0 ρ0 w0 F' ρ' w') fuel (listed.setIfInBounds i true)) a w:=λi hi=>by
   have h1:=h0p (Q:=λe s=>e=.normal/\p0i P N T M O ops fuel (listed.setIfInBounds i true) s k=some r) hO hi (λs hs=>⟨rfl,hs⟩) F ρ a w hr;rw[show List.range' i 1=[i]from rfl,wpOps_cons]at h1
   refine u0j (λe a' w' aS ⟨F',ρ',st',⟨he,hs⟩,h2,h3⟩=>absurd he aS) (λa' w' ⟨F',ρ',st',⟨_,hs⟩,h2,h3⟩=>?_) h1;exact p0o hO dB fuel _ st' hs F' ρ' a' w' h2 (hf.trans hr.rw.dis h3)
  rw[p0i]at h;split at h
  ·rename_i hre
   exact⟨λ_=>⟨F,ρ,st,⟨rfl,h⟩,hr,hf⟩,by rw[hre];simp⟩
  ·rename_i i0 rs hre
   split at h
   ·rename_i i dO
    have aX:=List.mem_of_find?_eq_some dO;have hmv:=List.find?_some dO;rw [<-hre]at aX;unfold t1f at hmv;rw[r2i]at hmv;obtain⟨hmv,jV⟩:=hmv;cases ho:ops[i]? with
    |none=>rw[ho]at hmv;cases hmv
    |some o=>
     rw[ho]at hmv;simp only[r2i]at hmv;obtain⟨v,hy⟩:=c1w (P:=P) (ops:=ops) (o:=o) (a:=a) hmv.1 hmv.2;refine wpAny_first ho (Region.noSelect_spec dB) (λc a w ⟨_,_,_,⟨hq,_⟩,_⟩=>by cases hq) fuel listed a w (Region.free_spec ho jV) aX hy ?_;exact u0q ho hy (u0j (λe a w aS ⟨_,_,_,⟨hq,_⟩,_⟩=>aS hq) (λ_ _ h=>h) (one i h))
   ·rw[wpAny]
    constructor
    ·intro h0
     rw[h0]at hre;cases hre
    ·intro i hi
     rw[hre]at hi;exact one i (j1x h i hi)
theorem b1c [DfOk M] (hO:O.ok P)(hm:P.follows .mixedOrders=true):(k1p P N T M O).ok P N:=by
 intro id ops st k r h;unfold k1p at h;cases ht:d2f M ops.toList with
 |false=>
  rw[ht,u2k]at h;exact n1y hO hm id ops st k r h
 |true=>
  rw[ht,u2j]at h;cases hn:Region.noSelect ops with
  |false=>rw[hn]at h;cases h
  |true=>
   rw[hn,u2j]at h;intro F ρ a w hr;refine wp_region_any hm ?_;have mN:Rel N F ρ st a {w with drawn:=w.drawn+1}:=
    ⟨⟨hr.rw.dis,hr.rw.lt,hr.rw.inj,hr.rw.tab⟩,λi=>(hr.fr i).mono (w:=w) (w' :={w with drawn:=w.drawn+1}) (λ_ _=>rfl) (λ_ h=>h) (λ_ _ h=>h),λk=>(hr.ob k).through (w:=w) (w' :={w with drawn:=w.drawn+1}) (λ_ _=>rfl) (λ_ h=>h) (λ_ _ _ _=>rfl),hr.sz,hr.df⟩
   have hd:Fr F ρ w F ρ {w with drawn:=w.drawn+1}:=⟨rfl,rfl,rfl,r2q _,λ_ h=>h,λ_ _ _=>rfl,λ_ _ h=>h,λ_ _=>Stab.refl _ _⟩
   exact p0o hO hn _ _ st h F ρ a _ mN hd
end
end Esp
namespace Esp
open Go
variable [Tabs]
section
variable{P:Program}{ρ:Type}{N:Nat}{T:List (TypeId×Ev.Ty)}{M:List (Nat×ArgM)}
abbrev OOk(ρ:Type)(P:Program):={O:Orc ρ // O.ok P}
def oN:OOk ρ P:=⟨q1e,b1v⟩
def oC{f:FuncId}{t:FnT}{nf:t.ins.den->Option t.den}(hc:Contract P f t nf)(r:OOk ρ P)(he:a0m P f=true:=by kernel_rfl):OOk ρ P:=⟨g0j f t nf r.1,g0y he hc r.2⟩
def oE{f:FuncId}{t:FnT}{nf:t.ins.den->Option t.den}(hc:b0r P f t nf)(r:OOk ρ P)(he:a0m P f=false:=by kernel_rfl):OOk ρ P:=⟨g0j f t nf r.1,q1j he hc r.2⟩
abbrev DOk(ρ:Type)(P:Program)(N:Nat):={D:DOrc ρ // D.ok P N}
def dN:DOk ρ P N:=⟨x0y,n0m⟩
def dD(T:List (TypeId×Ev.Ty))(M:List (Nat×ArgM))(O:OOk ρ P)(hdf:DfOk M)(hm:P.follows .mixedOrders=true):DOk ρ P N:=⟨k1p P N T M O.1,b1c O.2 hm⟩
def lbs(b:Nat)(c:Code):Nat->List Nat->List (Nat×Code)
 |_,[]=>[]
 |k,i::r=>(i,q1v b c k)::lbs b c (k+1) r
structure LB(P:Program)(N:Nat)(T:List (TypeId×Ev.Ty))(M:List (Nat×ArgM))(O:OOk ρ P)(D:DOk ρ P N)(b:Nat)(c:Code)(k:Nat)(ids:List Nat) where
 L:LOrc ρ
 ok:LOkL P N L (lbs b c k ids)
theorem k1n{L:LOrc ρ}{f:ASt->(Exit->ASt->Option ρ)->Option ρ}{i b:Nat}{c:Code}:∀(ids:List Nat) (k:Nat),LOkL P N L (lbs b c k ids)->(ids.all λj=> !Nat.beq j i)=true->LOkL P N (k0e i f L) (lbs b c k ids)
 |[],_,_,_=>trivial
 |j::r,k,h,hn=>by
  rw[List.all_cons,r2i]at hn;exact⟨.tail (by simpa using hn.1) h.1,k1n r (k+1) h.2 hn.2⟩
def lN{O:OOk ρ P}{D:DOk ρ P N}{b:Nat}{c:Code}{k:Nat}:LB P N T M O D b c k []:=⟨p1u,trivial⟩
def lC{O:OOk ρ P}{D:DOk ρ P N}{b:Nat}{c:Code}{k i:Nat}{ids:List Nat}(tm xt rt:Tm)(pre:Pre)(n:Nat)(step:(tm.den->Option ρ)->(xt.den->Option ρ)->(rt.den->Option ρ)->tm.den->Option ρ)
  (ids2:List Nat)(inner:LB P N T M O D i (q1v b c k) 0 ids2)(tail:LB P N T M O D b c (k+1) ids)(hdf:DfOk M:=by exact .none rfl)
  (hin:j0e i (q1v b c k)=lbs i (q1v b c k) 0 ids2:=by kernel_rfl)
  (heq:∀rec kx kr s,o2d P N T M O.1 inner.L D.1 i (q1v b c k) tm xt rt pre rec kx kr s=step rec kx kr s:=by intro _ _ _ _;kernel_rfl)
  (aS:(ids.all λj=> !Nat.beq j i)=true:=by kernel_rfl):LB P N T M O D b c k (i::ids):=
 ⟨k0e i (f2w N i n tm xt rt pre step) tail.L,.head (e1t O.2 D.2 (.of hin inner.ok) heq),k1n ids (k+1) tail.ok aS⟩
def pN:Pre:=⟨[],[],[]⟩
section
variable [QuietD P] {f:FuncId}{fn:Func}{t:FnT}{nf:t.ins.den->Option t.den}
theorem ctN(hf:P.funcs[f]?=some fn)(N:Nat)(T:List (TypeId×Ev.Ty))(M:List (Nat×ArgM))(rs:List ResultVar)(pre:Pre)(O:OOk t.den P)(ids:List Nat)(ls:LB P N T M O dN 1000 (h0c fn) 0 ids)(hdf:DfOk M:=by exact .none rfl)
  (hb:fn.body=some (h0c fn):=by kernel_rfl)(hN:fn.ntmps=N:=by kernel_rfl)(gd:fn.results.toList=rs:=by kernel_rfl)
  (hn:(Nat.ble t.nargs N&&Nat.ble N 1000000&&t.ins.rs.all (λp=>Nat.blt p.1 t.nargs)&&t.ins.vs.all (λp=>Nat.blt p.1 t.nargs)&&t.ins.ms.all (λp=>Nat.blt (z0m p.1 []).1 t.nargs))=true:=by kernel_rfl)
  (hi:j0e 1000 (h0c fn)=lbs 1000 (h0c fn) 0 ids:=by kernel_rfl)
  (h:∀x,evF P N T M t O.1 ls.L x0y pre rs (h0c fn) x=nf x:=by intro _;kernel_rfl):Contract P f t nf:=
 Contract.of_ev (c:=h0c fn) (N:=N) hf hb hN gd hn O.2 n0m (.of hi ls.ok) h
theorem ctD(hf:P.funcs[f]?=some fn)(N:Nat)(T:List (TypeId×Ev.Ty))(M:List (Nat×ArgM))(rs:List ResultVar)(pre:Pre)(O:OOk t.den P)(ids:List Nat)(hdf:DfOk M)(hm:P.follows .mixedOrders=true)(ls:LB P N T M O (dD T M O hdf hm) 1000 (h0c fn) 0 ids)
  (hb:fn.body=some (h0c fn):=by kernel_rfl)(hN:fn.ntmps=N:=by kernel_rfl)(gd:fn.results.toList=rs:=by kernel_rfl)
  (hn:(Nat.ble t.nargs N&&Nat.ble N 1000000&&t.ins.rs.all (λp=>Nat.blt p.1 t.nargs)&&t.ins.vs.all (λp=>Nat.blt p.1 t.nargs)&&t.ins.ms.all (λp=>Nat.blt (z0m p.1 []).1 t.nargs))=true:=by kernel_rfl)
  (hi:j0e 1000 (h0c fn)=lbs 1000 (h0c fn) 0 ids:=by kernel_rfl)
  (h:∀x,evF P N T M t O.1 ls.L (k1p P N T M O.1) pre rs (h0c fn) x=nf x:=by intro _;kernel_rfl):Contract P f t nf:=
 Contract.of_ev (c:=h0c fn) (N:=N) hf hb hN gd hn O.2 (b1c O.2 hm) (.of hi ls.ok) h
end
end
end Esp

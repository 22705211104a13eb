import Derived.Test.YtnaeiccibhdknaaGreatDoorEvRules
import Derived.Lib.AppendZeros
import Derived.Lib.SliceRun
set_option linter.unusedSimpArgs false
set_option linter.unusedVariables false
noncomputable section
namespace Esp
open Go
variable [Tabs]
section
variable{P:Program}{N:Nat}{ops:Array Oper}{st:ASt}
omit [Tabs]in
theorem n0w{w:World}{F:Nat->Prop}{ρ:Env}{k:Nat}{t:TypeId}{e n:Nat}{cs:List D}(h:RelOb w F ρ k (.arr t e n cs)):
  ∃u xs,ρ k=some (.arr u)/\w.ownsRow 0 t e u n xs/\xs.length=cs.length/\∀i (h:i<cs.length),RelD w F cs[i] (xs.getD i undef):=by
 cases h with
 |arr t e n cs u xs hk ho hs hh=>exact⟨u,xs,hk,ho,hs,hh⟩
omit [Tabs]in
theorem y0l{w:World}{F:Nat->Prop}{ρ:Env}{tm:Array Value}{k:Nat}{u v:Value}(h:RelAV w F ρ tm (.cell (.own k)) v)(hk:ρ k=some (.arr u)):v=u:=by
 cases h with
 |cell c v h=>cases h with
  |own k v h=>exact h u hk
omit [Tabs]in
theorem g2h{w:World}{F:Nat->Prop}{ρ:Env}{tm:Array Value}{k e j off:Nat}{u v:Value}(h:RelAV w F ρ tm (.cell (.elt k e j off)) v)(hk:ρ k=some (.arr u)):
  ∃g n cap,u=.slice (some ⟨g,0,none⟩) n cap/\v=.pointer (some ⟨g,j*e+off,none⟩):=by
 cases h with
 |cell c v h=>cases h with
  |elt k e j off v h=>exact h u hk
theorem IEff.indexOwn {i d e n k:Nat}{t ty te a7:TypeId}{x ix:Operand}{pos:String}{after:Array Edge}{guard:Option (Nat×Bool)}{cs:List D}{kk:IntKind}{j:Int}
  (ho:opK ops st.fr i=some ⟨some d,.indexAddr t x ix,ty,pos,after,guard⟩)(hx:ev st.fr x=.cell (.own k))(hk:lkO st.ob k=.arr a7 e n cs)(hi:ev st.fr ix=.cell (.d (.sc (.int kk j))))
  (ht:f0c P t=some (te,e))(hd:Nat.blt d N=true)(h0:0<=j)(h1:j<n):IEff P N ops i st (.put d (.cell (.elt k e j.toNat 0))):=by
 refine .of_opK ho (.of_plain rfl hd rfl λF ρ a w hr=>?_);obtain⟨hu,hs⟩:=g0e ht;have hv:=a0d hr x;rw[hx]at hv;have eX:=(a0i (a0d hr ix) (by rw[hi];rfl)).1;have aH:=hr.ob k;rw[hk]at aH;obtain⟨u,xs,aG,ho',hz,hh⟩:=n0w aH;have bI:=y0l hv aG;rcases ho'.2 with⟨_,hn⟩| ⟨g,cap,cur,cK,_⟩
 ·omega
 ·refine⟨.pointer (some ⟨g,0+j.toNat*e,none⟩),?_,.cell _ _ (.elt _ _ _ _ _ λu2 hu2=>?_)⟩
  ·simp[execOp,bI,cK,eX,Instr.indexAt,asIntOf,run_underlying hu,h0,h1,a0g hs,Addr.add_lit]
  ·rw[aG]at hu2
   cases hu2;exact⟨g,n,cap,cK,by simp⟩
theorem IEff.indexOwnN {i d k:Nat}{t ty te a7:TypeId}{x ix:Operand}{pos:String}{after:Array Edge}{guard:Option (Nat×Bool)}{τ:Ev.Ty}{xs:List τ.den}{kk:IntKind}{j:Int}
  (ho:opK ops st.fr i=some ⟨some d,.indexAddr t x ix,ty,pos,after,guard⟩)(hx:ev st.fr x=.cell (.own k))(hk:lkO st.ob k=.na a7 τ xs)(hi:ev st.fr ix=.cell (.d (.sc (.int kk j))))
  (ht:f0c P t=some (te,τ.sz))(hd:Nat.blt d N=true)(h0:0<=j)(h1:j<xs.length):IEff P N ops i st (.put d (.cell (.elt k τ.sz j.toNat 0))):=
 .ofLow (.indexOwn (by rw[d0p];exact ho) (by rw[c0l,hx];rfl) (by rw[m0v,hk];rfl) (by rw[c0l,hi];rfl) ht hd h0 h1)
omit [Tabs]in
theorem a1e{t:TypeId}{A B:List D}{x:AV}(h:f0v P t A=some x):f0v P t (A++B)=some x:=by
 unfold f0v at h⊢;split at h
 ·split at h
  ·rename_i s hs
   cases hb:Nat.ble s A.length with
   |false=>rw[hb]at h;cases h
   |true=>
    rw[hb,u2j]at h;have hle:=r2u hb;have:Nat.ble s (A++B).length=true:=r2y (by rw[r2t];omega);rw[this,u2j,List.take_append_of_le_length hle];exact h
  ·cases h
 ·split at h
  ·rename_i c0 r
   cases h;rfl
  ·cases h
 ·cases h
omit [Tabs]in
theorem o1c{t:TypeId}{A:List D}{x:AV}(h:f0v P t A=some x)(d:Nat):x.uses d=false:=by
 unfold f0v at h;split at h
 ·split at h
  ·rename_i s hs
   cases hb:Nat.ble s A.length with
   |false=>rw[hb]at h;cases h
   |true=>rw[hb]at h;cases h;rfl
  ·cases h
 ·split at h
  ·cases h;rfl
  ·cases h
 ·cases h
omit [Tabs]in
theorem t0t(τ:Ev.Ty){xs:List τ.den}{j:Nat}{y:τ.den}(h:xs[j]?=some y)(off:Nat)(ho:off<=τ.sz):(flat τ xs).drop (j*τ.sz+off)=(cells τ y).drop off++flat τ (xs.drop (j+1)):=by
 obtain⟨hj,rfl⟩:=r2p.1 h;rw [<-List.drop_drop,g0z,t2v hj];have:flat τ (xs[j]::xs.drop (j+1))=cells τ xs[j]++flat τ (xs.drop (j+1)):=rfl;rw[this,List.drop_append_of_le_length (by rw[a0u];exact ho)]
theorem IEff.loadElt {i d k j off:Nat}{t ty te:TypeId}{p:Operand}{pos:String}{after:Array Edge}{guard:Option (Nat×Bool)}{τ:Ev.Ty}{xs:List τ.den}{y:τ.den}{x:AV}
  (ho:opK ops st.fr i=some ⟨some d,.load t p,ty,pos,after,guard⟩)(hp:ev st.fr p=.cell (.elt k τ.sz j off))(hk:lkO st.ob k=.na te τ xs)(hd:Nat.blt d N=true)(hy:xs[j]?=some y)(aI:Nat.ble off τ.sz=true)
  (hx:f0v P t ((cells τ y).drop off)=some x):IEff P N ops i st (.put d x):=by
 have hle:=r2u aI;refine .ofLow (.of_opK (o:=⟨some d,.load t p,ty,pos,after,guard⟩) (by rw[d0p];exact ho) (.of_val rfl hd (o1c hx d) λF ρ a w hr=>?_))
 ·have hv:l1l P st.low.fr st.low.ob t p=some x:=by
   unfold l1l;rw[c0l,hp];show(match lkO st.low.ob k with
    |.arr _ _ _ cs=>bif Nat.ble (j*τ.sz+off) cs.length then f0v P t (cs.drop (j*τ.sz+off))else none
    |_=>none)=some x
   rw[m0v,hk];show(bif Nat.ble (j*τ.sz+off) (flat τ xs).length then f0v P t ((flat τ xs).drop (j*τ.sz+off))else none)=some x
   have hj:=(r2p.1 hy).1;have h1:(j+1)*τ.sz<=xs.length*τ.sz:=t2b _ hj;rw[t2w,Nat.one_mul]at h1;rw[r2y (by rw[b0j];omega),u2j,t0t τ hy off hle];exact a1e hx
  obtain⟨v,h1,h2⟩:=r0h (P:=P) hr hv;exact⟨v,by simp[execOp,h1],h2⟩
def v0p(P:Program)(st:ASt)(t:TypeId)(p x:Operand):Option Eff:=
 match ev st.fr p,cellsOf st.ob (ev st.fr x),d0t P t with
 |.cell (.elt k e j off),some vs,some s=>match lkO st.ob k,allD vs with
  |.arr te e' n cs,some ds=>bif Nat.beq ds.length s&&Nat.ble (j*e+off+ds.length) cs.length then some (.upd k (.arr te e' n (b0a cs (j*e+off) ds)))else none
  |_,_=>none
 |_,_,_=>none
theorem f1u{e:Eff}{o:Oper}{t:TypeId}{p x:Operand}(ho:o.op=.store t p x)(hd:o.dst=none)(hs:v0p P st t p x=some e):OpEff P N o st e:=by
 obtain⟨dst,op,ty,pos,after,guard⟩:=o;dsimp only at ho hd;subst ho;subst hd;unfold v0p at hs;split at hs
 ·rename_i k e j off vs s he hc hz
  split at hs
  ·rename_i te e' n cs ds hk dJ
   cases hb:(Nat.beq ds.length s&&Nat.ble (j*e+off+ds.length) cs.length)with
   |false=>rw[hb]at hs;cases hs
   |true=>
    rw[hb]at hs;cases hs;simp only[r2i]at hb;have e1:=r2h hb.1;have e2:=r2u hb.2;have evs:=j0n dJ;subst evs;refine⟨rfl,λF ρ a w h=>?_⟩;have hp:=a0d h p;rw[he]at hp;have hv:=h0g h.ob (a0d h x) hc;have aH:=h.ob k;rw[hk]at aH;obtain⟨u,xs,aG,hown,aR,hh⟩:=n0w aH;obtain⟨g,n2,cap2,eu,ep⟩:=g2h hp aG;rcases hown.2 with⟨gQ,jf⟩| ⟨g',cap,cur,cR,eJ,hg,aU,dX,bE,bK⟩
    ·rw[gQ]at eu;cases eu
    ·rw[cR]at eu
     simp only[Value.slice.injEq,r2l,Addr.mk.injEq,and_true]at eu;obtain⟨eg,en,ec⟩:=eu;subst eg;have hlen:(a.eval x).cells.toList.length=ds.length:=by have:=hv.1;simpa using this
     have jj:∀i (hi:i<ds.length),RelD w F ds[i] ((a.eval x).cells.getD i undef):=λi hi=>by
      have h5:=hv.2 i (by simpa using hi);simp only[List.getElem_map]at h5;cases h5 with
      |d y v h5=>exact h5
     have eV:∀v∈(a.eval x).cells.toList,v.oneCell' =true:=by
      intro v cM;obtain⟨i,hi,rfl⟩:=List.getElem_of_mem cM;have aK:i<ds.length:=by omega
      have:=(jj i aK).oneCell;have e:(a.eval x).cells.getD i undef=(a.eval x).cells.toList[i]:=by
       have hi2:i<(a.eval x).cells.size:=by simpa using hi
       simp[r2j,hi2]
      rwa[e]at this
     have qw:xs.length=n*e' :=hown.1;have jI:n*e' <=cur.size:=by rw[bE];exact t2b _ aU
     have bZ:j*e+off+0+(a.eval x).cells.toList.length<=cur.size:=by omega
     have hrun:=run_storeCells_at P g' (j*e+off) te (a.eval x).cells.toList 0 cur w hg bZ eV;simp only[u2e]at hrun
     let new:Array Value:=(cur.toList.take (j*e+off)++(a.eval x).cells.toList++cur.toList.drop (j*e+off+(a.eval x).cells.toList.length)).toArray
     have bJ:(w.setRow g' new).heap[g']?=some (.cells new te (0,0)):=setRow_heap w g' cur new te (0,0) hg;have cO:∀i,new[i]?=if j*e+off<=i/\i<j*e+off+ds.length then(a.eval x).cells.toList[i - (j*e+off)]? else cur[i]?:=by
      intro i;have:=e0e cur.toList (j*e+off) (a.eval x).cells.toList (by simp at bZ⊢;omega) i;rw [<-hlen];simpa[new,b0a]using this
     have dB:new.size=cur.size:=by
      have:=a0s cur.toList (j*e+off) (a.eval x).cells.toList (by simp at bZ⊢;omega);simpa[new,b0a]using this
     have hF:∀b',F b' ->(w.setRow g' new).heap[b']?=w.heap[b']?:=λb' hb' =>setRow_other w g' b' new λe=>h.rw.dis b' hb' ⟨k,_,aG,by rw[cR,e];rfl⟩;obtain⟨h1,h2⟩:=h.setBox (w' :=w.setRow g' new) rfl rfl rfl (by simp[World.setRow]) k (.arr te e' n (b0a cs (j*e+off) ds))
      (λb' hb' =>setRow_other w g' b' new λe=>hb' _ aG (by rw[cR,e];rfl))
      (by
       refine .arr te e' n _ u (new.toList.take (n*e')) aG ⟨by rw[s2g,s2p,dB];omega,.inr ⟨g',cap,new,cR,eJ,bJ,aU,dX,by rw[dB,bE],rfl⟩⟩ ?_ λi hi=>?_
       ·rw[s2g,s2p,dB,a0s _ _ _ e2]
        omega
       ·have aK:i<cs.length:=by rwa[a0s _ _ _ e2]at hi
        have hs:=e0e cs (j*e+off) ds e2 i;rw[r2k hi]at hs;have dW:=cO i;have e5:(new.toList.take (n*e')).getD i undef=new.getD i undef:=by
         rw[r2o,t2x,if_pos (by omega),t2g,r2j]
        rw[e5];by_cases hin:j*e+off<=i/\i<j*e+off+ds.length
        ·rw[if_pos hin,r2k (by omega)]at hs
         simp only[r2l]at hs;rw[if_pos hin]at dW;have ij:i - (j*e+off)<(a.eval x).cells.size:=by have:=hv.1;simp at this;omega
         have e3:(a.eval x).cells.toList[i - (j*e+off)]?=some ((a.eval x).cells.getD (i - (j*e+off)) undef):=by
          simp[r2j,ij]
         rw[e3]at dW;rw[a0v dW,hs];exact(jj (i - (j*e+off)) (by omega)).mono hF λ_ h=>h
        ·rw[if_neg hin,r2k aK]at hs
         simp only[r2l]at hs;rw[if_neg hin]at dW;have gZ:i<cur.size:=by omega
         rw[s2h gZ]at dW;rw[a0v dW,hs];have e4:xs.getD i undef=cur[i]:=by
          rw [<-bK,r2o,t2x,if_pos (by omega),t2g,s2h gZ,t2r]
         rw [<-e4];exact(hh i aK).mono hF λ_ h=>h)
     refine⟨undef,_,F,ρ,.inr ⟨?_,rfl⟩,h1,h2,⟨λ_ _=>rfl,λb' hb' hn=>setRow_other w g' b' new λe=>hn k _ rfl aG (by rw[cR,e];rfl)⟩⟩;have cE:(a.eval x).cells.size=s:=by have:=hv.1;simp at this;omega
     simp only[execOp,Instr.storeAt,ep,Instr.sureAddr,storeVar,Sem.run_bind,Sem.run_pure,Result.andThen_ok,a0g hz,cE,ne_eq,not_true_eq_false,if_false,hrun];rfl
  ·cases hs
 ·cases hs
omit [Tabs]in
theorem e1a{x:AV}{vs:List AC}{ds:List D}(h:cellsOf st.ob x=some vs)(hd:allD vs=some ds):∃ds',cellsOf st.low.ob x.low=some (ds'.map .d)/\ds'.length=ds.length/\dsle ds' ds:=by
 have e:=j0n hd;subst e;have key:∀d:D,dle d.low d:=by
  intro d w F v hv;cases d with
  |nl t xs=>exact .nl t xs v hv
  |_=>exact hv
 cases x with
 |cell c=>
  simp only[cellsOf]at h;cases hk:c.okIn st.ob with
  |false=>rw[hk]at h;cases h
  |true=>
   rw[hk,u2j]at h
   match ds,h with
   |[y],h=>
    simp only[r2z,t2u,r2l,List.cons.injEq,and_true]at h;subst h;exact⟨[y.low],rfl,rfl,key y,trivial⟩
 |aggD cs=>
  simp only[cellsOf,r2l]at h;have:cs=ds:=by
   clear key hd
   induction cs generalizing ds with
   |nil=>cases ds with
    |nil=>rfl
    |cons _ _=>cases h
   |cons c r ih=>cases ds with
    |nil=>cases h
    |cons q l=>
     simp only[r2z,List.cons.injEq,AC.d.injEq]at h;rw[h.1,ih h.2]
  subst this;exact⟨cs,rfl,rfl,.refl _⟩
 |agg cs=>
  simp only[cellsOf,r2l]at h;subst h;exact⟨ds,rfl,rfl,.refl _⟩
 |tup=>cases h
 |whn=>cases h
 |junk=>cases h
omit [Tabs]in
theorem o1d{α:Type}(A c B:List α)(off:Nat)(vs:List α)(h:off+vs.length<=c.length):b0a (A++c++B) (A.length+off) vs=A++b0a c off vs++B:=by
 unfold b0a;rw[s2t A c B];simp only[List.take_append,List.drop_append,s2t];have e1:A.length+off - A.length=off:=by omega
 have e2:A.length+off+vs.length - A.length=off+vs.length:=by omega
 rw[e1,e2,List.take_of_length_le (show A.length<=A.length+off by omega),List.drop_of_length_le (show A.length<=A.length+off+vs.length by omega),show off - c.length=0 by omega,show off+vs.length - c.length=0 by omega];simp
omit [Tabs]in
theorem u0h:∀{a b c:List D},dsle a b->dsle b c->dsle a c
 |[],[],[],_,_=>trivial
 |x::r,y::s,z::t,h,k=>⟨λw F v hv=>k.1 w F v (h.1 w F v hv),u0h h.2 k.2⟩
 |[],_::_,_,h,_=>h.elim
 |_::_,[],_,h,_=>h.elim
 |[],[],_::_,_,k=>k.elim
 |_::_,_::_,[],_,k=>k.elim
omit [Tabs]in
theorem f1t{c:List D}{off:Nat}{vs us:List D}(h:dsle vs us):dsle (b0a c off vs) (b0a c off us):=by
 unfold b0a;rw[h.length];exact(dsle.refl _).append (h.append (.refl _))
theorem IEff.updN {i k:Nat}{te:TypeId}{τ:Ev.Ty}{n:Nat}{cs:List D}{xs:List τ.den}(hn:xs.length=n)(hle:dsle cs (flat τ xs))(h:IEff P N ops i st (.upd k (.arr te τ.sz n cs))):IEff P N ops i st (.upd k (.na te τ xs)):=by
 refine IEff.conv (e:=.upd k (.arr te τ.sz n cs)) rfl rfl rfl (λF ρ a w hr=>⟨hr.rw,λj=>?_,λj=>?_,hr.sz,hr.df⟩) h
 ·have hj:=hr.fr j
  rw[c0m]at hj⊢;exact hj
 ·have hj:=hr.ob j
  rw[i0c]at hj⊢;simp only[Eff.appF]at hj⊢;by_cases e:j=k
  ·subst e
   rw[if_pos rfl]at hj⊢;exact hj.to_na hn hle
  ·rw[if_neg e]at hj⊢
   exact hj
theorem IEff.storeElt {i k j off:Nat}{t ty te:TypeId}{p x:Operand}{pos:String}{after:Array Edge}{guard:Option (Nat×Bool)}{τ:Ev.Ty}{xs:List τ.den}{y y' :τ.den}{vs:List AC}{ds:List D}{s:Nat}
  (ho:opK ops st.fr i=some ⟨none,.store t p x,ty,pos,after,guard⟩)(hp:ev st.fr p=.cell (.elt k τ.sz j off))(hk:lkO st.ob k=.na te τ xs)(hc:cellsOf st.ob (ev st.fr x)=some vs)(dJ:allD vs=some ds)(hz:d0t P t=some s)
  (hs:Nat.beq ds.length s=true)(aI:Nat.ble (off+ds.length) τ.sz=true)(hy:xs[j]?=some y)(dS:rd τ (b0a (cells τ y) off ds)=some y'):IEff P N ops i st (.upd k (.na te τ (xs.set j y'))):=by
 have e1:=r2h hs;have e2:=r2u aI;obtain⟨ds',h1,h2,h3⟩:=e1a hc dJ;obtain⟨hj,ey⟩:=r2p.1 hy;have bB:allD (ds'.map .d)=some ds' :=by
  clear h1 h2 h3
  induction ds' with
  |nil=>rfl
  |cons a r ih=>simp[allD,ih]
 have hm:(j+1)*τ.sz<=xs.length*τ.sz:=t2b _ hj;rw[t2w,Nat.one_mul]at hm;have gL:v0p P st.low t p x=some (.upd k (.arr te τ.sz xs.length (b0a (flat τ xs) (j*τ.sz+off) ds'))):=by
  unfold v0p;rw[c0l,hp,c0l,h1,hz];show(match lkO st.low.ob k,allD (ds'.map .d)with
   |.arr te e' n cs,some ds=>bif Nat.beq ds.length s&&Nat.ble (j*τ.sz+off+ds.length) cs.length then some (Eff.upd k (.arr te e' n (b0a cs (j*τ.sz+off) ds)))else none
   |_,_=>none)=_
  rw[m0v,hk,bB];show(bif Nat.beq ds'.length s&&Nat.ble (j*τ.sz+off+ds'.length) (flat τ xs).length then some (Eff.upd k (.arr te τ.sz xs.length (b0a (flat τ xs) (j*τ.sz+off) ds')))else none)=_
  rw[h2,hs,r2y (by rw[b0j];omega)];rfl
 refine IEff.updN (n:=xs.length) (cs:=b0a (flat τ xs) (j*τ.sz+off) ds') (by simp) ?_ (.ofLow (.of_opK (by rw[d0p];exact ho) (f1u rfl rfl gL)));have hx:xs=xs.take j++y::xs.drop (j+1):=by
  rw [<-ey, <-t2v hj,t2z]
 have bH:xs.set j y' =xs.take j++y' ::xs.drop (j+1):=List.set_eq_take_append_cons_drop.trans (by rw[if_pos hj]);have hA:(flat τ (xs.take j)).length=j*τ.sz:=by rw[b0j,s2g,Nat.min_eq_left (by omega)]
 have hc:∀z:τ.den,flat τ (xs.take j++z::xs.drop (j+1))=flat τ (xs.take j)++cells τ z++flat τ (xs.drop (j+1)):=λz=>by
  rw[b0o,s2t];rfl
 rw[bH,hc y']
 conv=>lhs;rw[hx,hc y, <-hA]
 rw[o1d _ _ _ _ _ (by rw[a0u];omega)];exact((dsle.refl _).append (u0h (f1t h3) (y0x dS))).append (.refl _)
theorem IEff.shrink {i d e n k:Nat}{t ty te a7:TypeId}{x hi:Operand}{pos:String}{after:Array Edge}{guard:Option (Nat×Bool)}{cs:List D}{q:Int}
  (ho:opK ops st.fr i=some ⟨some d,.slice t x none (some hi) none,ty,pos,after,guard⟩)(hx:ev st.fr x=.cell (.own k))(hk:lkO st.ob k=.arr a7 e n cs)
  (ht:f0c P t=some (te,e))(hh:bndV st.fr (some hi) n=some q)(hd:Nat.blt d N=true)(h0:0<=q)(h1:q<=n)(eH:Nat.blt k 2000000=true):
  IEff P N ops i st (.new k (.arr a7 e q.toNat (cs.take (q.toNat*e))) d (.cell (.own k))):=by
 refine .of_opK ho ⟨rfl,λF ρ a w hr=>?_⟩;obtain⟨hu,hs⟩:=g0e ht;have hv:=a0d hr x;rw[hx]at hv;have aH:=hr.ob k;rw[hk]at aH;obtain⟨u,xs,aG,hown,hz,fh⟩:=n0w aH;have bI:=y0l hv aG;have nP:bndV st.fr none 0=some (0:Int):=rfl;obtain⟨u',hrun,hown',hblk⟩:∃u',(execOp a.eval ⟨some d,.slice t x none (some hi) none,ty,pos,after,guard⟩).run P w=.ok (.value u') w/\w.ownsRow 0 a7 e u' q.toNat (xs.take (q.toNat*e))/\u'.ownBlock=u.ownBlock:=by
  have kg:q.toNat*e<=n*e:=t2b _ (by omega);rcases hown.2 with⟨gQ,jf⟩| ⟨g,cap,cur,cR,eJ,hg,aU,dX,bE,bK⟩
  ·have hb:=d0c (P:=P) (cap:=0) hr true nP hh (by omega) h0 (by omega) (by omega)
   have fD:q.toNat=0:=by omega
   refine⟨.slice none 0 0,?_,⟨by rw[fD];simp,.inl ⟨rfl,fD⟩⟩,by rw[gQ]⟩;simp only[execOp,bI,gQ,Instr.sliceAt,Sem.run_bind,run_underlying hu,Result.andThen_ok,Instr.slice,t2q];have hb' :(Instr.sliceBounds true 0 0 none (some (a.eval hi)) none).run P w=.ok (0,q.toNat,0) w:=by
    have:=hb;simp only[t2q,s2z]at this;rw[jf]at this;exact this
   simp only[s2z,hb',Result.andThen_ok,a0g hs];rw[fD];rfl
  ·have hb:=d0c (P:=P) (cap:=cap) hr true nP hh (by omega) h0 h1 aU
   refine⟨.slice (some ⟨g,0,none⟩) q.toNat cap,?_,⟨by rw[s2g,hown.1];omega,.inr ⟨g,cap,cur,rfl,eJ,hg,by omega,dX,bE,by rw [<-bK,List.take_take,Nat.min_eq_left kg]⟩⟩,by rw[cR];rfl⟩;have hb' :(Instr.sliceBounds true n cap none (some (a.eval hi)) none).run P w=.ok (0,q.toNat,cap) w:=hb;simp only[execOp,bI,cR,Instr.sliceAt,Sem.run_bind,run_underlying hu,Result.andThen_ok,Instr.slice,t2q,s2z,hb',a0g hs,Addr.add_lit];simp
 obtain⟨h1',fU⟩:=hr.setOb (w' :=w) rfl rfl rfl (r2q _) k (.arr u') (.arr a7 e q.toNat (cs.take (q.toNat*e))) (λ_ _ _=>rfl)
  (λb hb=>⟨(hown'.lt b hb).2,.inr ⟨_,aG,by show u.ownBlock=some b;rw [<-hblk];exact hb⟩⟩)
  (.arr _ _ _ _ u' _ (Env.set_same _ _ _) hown' (by simp[hz]) λj hj=>by
   simp only[s2g]at hj;rw[List.getElem_take];have h5:=fh j (by omega);have e5:(xs.take (q.toNat*e)).getD j undef=xs.getD j undef:=by
    rw[r2o,t2x,if_pos (by omega),r2o]
   rw[e5];exact h5) (λ_=>by rw[aG];exact λh=>absurd (a0e eH) (by omega))
 refine⟨u',w,F,_,.inl hrun,h1'.put d (a0e hd) (.cell _ _ (.own _ _ λu2 hu2=>by rw[Env.set_same]at hu2;cases hu2;rfl)),fU,⟨λj hj=>Env.set_other _ _ _ λe=>hj (by rw[e];rfl),λ_ _ _=>rfl⟩⟩
theorem IEff.shrinkN {i d k:Nat}{t ty te a7:TypeId}{x hi:Operand}{pos:String}{after:Array Edge}{guard:Option (Nat×Bool)}{τ:Ev.Ty}{xs:List τ.den}{q:Int}
  (ho:opK ops st.fr i=some ⟨some d,.slice t x none (some hi) none,ty,pos,after,guard⟩)(hx:ev st.fr x=.cell (.own k))(hk:lkO st.ob k=.na a7 τ xs)
  (ht:f0c P t=some (te,τ.sz))(hh:bndV st.fr (some hi) xs.length=some q)(hd:Nat.blt d N=true)(h0:0<=q)(h1:q<=xs.length)(eH:Nat.blt k 2000000=true):
  IEff P N ops i st (.new k (.na a7 τ (xs.take q.toNat)) d (.cell (.own k))):=by
 refine IEff.new_ob (o:=.arr a7 τ.sz q.toNat (flat τ (xs.take q.toNat))) (λw F ρ hw=>hw.to_na (by simp;omega) (.refl _)) (.ofLow ?_);rw [<-j0r];exact .shrink (by rw[d0p];exact ho) (by rw[c0l,hx];rfl) (by rw[m0v,hk];rfl) ht (by rw[l0y];exact hh) hd h0 h1 eH
theorem IEff.restOwn {i d e n k:Nat}{t ty te a7:TypeId}{x lo:Operand}{pos:String}{after:Array Edge}{guard:Option (Nat×Bool)}{cs:List D}{q:Int}
  (ho:opK ops st.fr i=some ⟨some d,.slice t x (some lo) none none,ty,pos,after,guard⟩)(hx:ev st.fr x=.cell (.own k))(hk:lkO st.ob k=.arr a7 e n cs)
  (ht:f0c P t=some (te,e))(hl:bndV st.fr (some lo) 0=some q)(hd:Nat.blt d N=true)(h0:0<=q)(h1:q<=n):
  IEff P N ops i st (.put d (.cell (.osl k e q.toNat (n - q.toNat)))):=by
 refine .of_opK ho (.of_plain rfl hd rfl λF ρ a w hr=>?_);obtain⟨hu,hs⟩:=g0e ht;have hv:=a0d hr x;rw[hx]at hv;have aH:=hr.ob k;rw[hk]at aH;obtain⟨u,xs,aG,hown,hz,fh⟩:=n0w aH;have bI:=y0l hv aG;have kY:bndV st.fr none n=some (n:Int):=rfl;rcases hown.2 with⟨gQ,jf⟩| ⟨g,cap,cur,cR,eJ,hg,aU,dX,bE,bK⟩
 ·have hb:=d0c (P:=P) (cap:=0) hr true hl kY h0 h1 (by omega) (by omega)
  have hb' :(Instr.sliceBounds true 0 0 (some (a.eval lo)) none none).run P w=.ok (q.toNat,n,0) w:=by
   have:=hb;simp only[t2q,s2z]at this;rw[jf]at this⊢;exact this
  refine⟨.slice none (n - q.toNat) (0 - q.toNat),?_,.cell _ _ (.osl _ _ _ _ _ λu2 _=>⟨_,_,rfl,λh=>absurd h (by omega)⟩)⟩;simp only[execOp,bI,gQ,Instr.sliceAt,Sem.run_bind,run_underlying hu,Result.andThen_ok,Instr.slice,t2q,s2z,hb',a0g hs];rw[jf];simp
 ·have hb:=d0c (P:=P) (cap:=cap) hr true hl kY h0 h1 (by omega) aU
  have hb' :(Instr.sliceBounds true n cap (some (a.eval lo)) none none).run P w=.ok (q.toNat,n,cap) w:=by
   have:=hb;simp only[t2q,s2z]at this;exact this
  refine⟨.slice (if cap=q.toNat then some ⟨g,0,none⟩else some ⟨g,0+q.toNat*e,none⟩) (n - q.toNat) (cap - q.toNat),?_,.cell _ _ (.osl _ _ _ _ _ λu2 hu2=>⟨_,_,rfl,λh=>?_⟩)⟩
  ·simp only[execOp,bI,cR,Instr.sliceAt,Sem.run_bind,run_underlying hu,Result.andThen_ok,Instr.slice,t2q,s2z,hb',a0g hs,Addr.add_lit]
   rfl
  ·rw[aG]at hu2
   cases hu2;rw[if_neg (by omega),s2u];exact⟨g,n,cap,cR,rfl⟩
omit [Tabs]in
theorem h2p{w:World}{F:Nat->Prop}{ρ:Env}{tm:Array Value}{k e lo n:Nat}{u v:Value}(h:RelAV w F ρ tm (.cell (.osl k e lo n)) v)(hk:ρ k=some (.arr u)):
  ∃a c,v=.slice a n c/\(n≠0->∃g n0 cap,u=.slice (some ⟨g,0,none⟩) n0 cap/\a=some ⟨g,lo*e,none⟩):=by
 cases h with
 |cell c v h=>cases h with
  |osl k e j off v h=>exact h u hk
def d0a(z:List Value)(n:Nat):List D:=(List.replicate n (z.map D.sc)).flatten
omit [Tabs]in
theorem f0h(z:List Value)(n:Nat):(d0a z n).length=n*z.length:=by simp[d0a]
omit [Tabs]in
theorem o0z(z:Array Value)(n:Nat):(Builtin.zeroCells z n).toList=(List.replicate n z.toList).flatten:=by
 unfold Builtin.zeroCells;rw[Array.toList_map,Array.toList_range]
 induction n with
 |zero=>simp
 |succ n ih=>
  rw[t2w,Nat.one_mul,List.range_add,List.map_append,ih,List.replicate_succ',List.flatten_append];congr 1;simp only[List.flatten_cons,List.flatten_nil,s2a,List.map_map];apply List.ext_getElem?;intro i;rw[t2a];by_cases h:i<z.size
  ·rw[List.getElem?_range h,t2g,s2h h]
   simp only[s2z,Function.comp,r2l];have:(n*z.size+i)%z.size=i:=by rw[Nat.mul_comm,Nat.mul_add_mod];exact Nat.mod_eq_of_lt h
   rw[this];simp[h]
  ·rw[u2b (by simpa using h),u2b (by simpa using h)]
   rfl
theorem IEff.clearRest {i k e lo m n:Nat}{t ty te a7:TypeId}{x:Operand}{pos:String}{after:Array Edge}{guard:Option (Nat×Bool)}{cs:List D}{z:List Value}
  (ho:opK ops st.fr i=some ⟨none,.call {callee:=.builtin .clear,args:=#[x],argTypes:=#[t]},ty,pos,after,guard⟩)(hx:ev st.fr x=.cell (.osl k e lo m))(hk:lkO st.ob k=.arr a7 e n cs)
  (ht:f0c P t=some (te,e))(hz:k0g P te=some z)(jM:z.length=e)(hle:lo+m<=n):
  IEff P N ops i st (.upd k (.arr a7 e n (b0a cs (lo*e) (d0a z m)))):=by
 refine .of_opK ho ⟨rfl,λF ρ a w h=>?_⟩;obtain⟨hu,hs⟩:=g0e ht;have hv:=a0d h x;rw[hx]at hv;have aH:=h.ob k;rw[hk]at aH;obtain⟨u,xs,aG,hown,aR,hh⟩:=n0w aH;obtain⟨ad,c,ev1,ev2⟩:=h2p hv aG;obtain⟨zv,fG,hzc,dG⟩:=n0b hz;have run0:∀w',(Builtin.clear_ #[t] ty #[.slice ad m c]).run P w=.ok (.tuple #[]) w' ->(execOp a.eval ⟨none,.call {callee:=.builtin .clear,args:=#[x],argTypes:=#[t]},ty,pos,after,guard⟩).run P w=.ok (.value (.tuple #[])) w' :=λw' hr=>by
  simp only[execOp,resolve,invoke,builtin,Sem.run_bind,Sem.run_pure,Result.andThen_ok,List.map_toArray,r2z,t2u,ev1,hr]
 by_cases hm:m=0
 ·subst hm
  have hrun:(Builtin.clear_ #[t] ty #[.slice ad 0 c]).run P w=.ok (.tuple #[]) w:=by
   unfold Builtin.clear_;simp only[Sem.run_bind,run_underlying hu,Result.andThen_ok,List.getElem?_toArray,t2o];cases ad<;>rfl
  have e1:b0a cs (lo*e) (d0a z 0)=cs:=by simp[b0a,d0a]
  rw[e1];refine⟨_,w,F,ρ,.inl (run0 w hrun),⟨h.rw,h.fr,λj=>?_,h.sz,h.df⟩,Fr.refl F ρ w,.none λ_ _=>rfl⟩;show RelOb w F ρ j (lkO (ASt.setO k _ st.ob) j);by_cases ej:j=k
  ·subst ej
   rw[a0o, <-hk];exact h.ob j
  ·rw[a0j _ _ _ _ ej]
   exact h.ob j
 obtain⟨g,n0,cap0,eu,ead⟩:=ev2 hm;rcases hown.2 with⟨gQ,jf⟩| ⟨g',cap,cur,cR,eJ,hg,aU,dX,bE,bK⟩
 ·rw[gQ]at eu;cases eu
 ·rw[cR]at eu
  simp only[Value.slice.injEq,r2l,Addr.mk.injEq,and_true]at eu;obtain⟨eg,en,ec⟩:=eu;subst eg;subst ead
  let vs:List Value:=(Builtin.zeroCells zv.cells m).toList
  have lH:vs=(List.replicate m z).flatten:=by show(Builtin.zeroCells zv.cells m).toList=_;rw[o0z,hzc]
  have pH:vs.length=m*e:=by rw[lH];simp[jM]
  have eV:∀v∈vs,v.oneCell' =true:=by
   intro v cM;rw[lH]at cM;obtain⟨l,hl,jc⟩:=List.mem_flatten.1 cM;rw[List.eq_of_mem_replicate hl]at jc;exact dG v jc
  have dY:d0a z m=vs.map D.sc:=by
   rw[lH];unfold d0a;rw[List.map_flatten,List.map_replicate]
  have qw:xs.length=n*e:=hown.1;have jI:n*e<=cur.size:=by rw[bE];exact t2b _ aU
  have mG:(lo+m)*e<=n*e:=t2b _ hle;rw[t2w]at mG;have bZ:lo*e+0+vs.length<=cur.size:=by omega
  have hsr:=run_storeCells_at P g' (lo*e) a7 vs 0 cur w hg bZ eV;simp only[u2e]at hsr
  let new:Array Value:=(cur.toList.take (lo*e)++vs++cur.toList.drop (lo*e+vs.length)).toArray
  have hrun:(Builtin.clear_ #[t] ty #[.slice (some ⟨g',lo*e,none⟩) m c]).run P w=.ok (.tuple #[]) (w.setRow g' new):=by
   unfold Builtin.clear_;cases m with
   |zero=>exact absurd rfl hm
   |succ m=>
    simp only[Sem.run_bind,run_underlying hu,Result.andThen_ok,List.getElem?_toArray,t2o,fG];rw[hsr];rfl
  have bJ:(w.setRow g' new).heap[g']?=some (.cells new a7 (0,0)):=setRow_heap w g' cur new a7 (0,0) hg;have cO:∀i,new[i]?=if lo*e<=i/\i<lo*e+m*e then vs[i - lo*e]? else cur[i]?:=by
   intro i;have:=e0e cur.toList (lo*e) vs (by simp at bZ⊢;omega) i;rw [<-pH];simpa[new,b0a]using this
  have dB:new.size=cur.size:=by
   have:=a0s cur.toList (lo*e) vs (by simp at bZ⊢;omega);simpa[new,b0a]using this
  have hF:∀b',F b' ->(w.setRow g' new).heap[b']?=w.heap[b']?:=λb' hb' =>setRow_other w g' b' new λe=>h.rw.dis b' hb' ⟨k,_,aG,by rw[cR,e];rfl⟩;have cH:(d0a z m).length=m*e:=by rw[f0h,jM]
  have e2:lo*e+(d0a z m).length<=cs.length:=by rw[cH];omega
  obtain⟨h1,h2⟩:=h.setBox (w' :=w.setRow g' new) rfl rfl rfl (by simp[World.setRow]) k (.arr a7 e n (b0a cs (lo*e) (d0a z m)))
   (λb' hb' =>setRow_other w g' b' new λe=>hb' _ aG (by rw[cR,e];rfl))
   (by
    refine .arr a7 e n _ u (new.toList.take (n*e)) aG ⟨by rw[s2g,s2p,dB];omega,.inr ⟨g',cap,new,cR,eJ,bJ,aU,dX,by rw[dB,bE],rfl⟩⟩ ?_ λi hi=>?_
    ·rw[s2g,s2p,dB,a0s _ _ _ e2]
     omega
    ·have aK:i<cs.length:=by rwa[a0s _ _ _ e2]at hi
     have hs:=e0e cs (lo*e) (d0a z m) e2 i;rw[r2k hi,cH]at hs;have dW:=cO i;have e5:(new.toList.take (n*e)).getD i undef=new.getD i undef:=by
      rw[r2o,t2x,if_pos (by omega),t2g,r2j]
     rw[e5];by_cases hin:lo*e<=i/\i<lo*e+m*e
     ·rw[if_pos hin]at hs
      have e7:(d0a z m)[i - lo*e]?=some (D.sc (vs[i - lo*e]'(by omega))):=by
       rw[dY,t2a,r2k (by omega)];rfl
      rw[e7]at hs;simp only[r2l]at hs;rw[if_pos hin,r2k (by omega)]at dW;rw[a0v dW,hs];exact .sc _ (eV _ (s2s _))
     ·rw[if_neg hin,r2k aK]at hs
      simp only[r2l]at hs;rw[if_neg hin]at dW;have gZ:i<cur.size:=by omega
      rw[s2h gZ]at dW;rw[a0v dW,hs];have e4:xs.getD i undef=cur[i]:=by
       rw [<-bK,r2o,t2x,if_pos (by omega),t2g,s2h gZ,t2r]
      rw [<-e4];exact(hh i aK).mono hF λ_ h=>h)
  exact⟨_,_,F,ρ,.inl (run0 _ hrun),h1,h2,⟨λ_ _=>rfl,λb' hb' hn=>setRow_other w g' b' new λe=>hn k _ rfl aG (by rw[cR,e];rfl)⟩⟩
theorem IEff.restOwnN {i d k:Nat}{t ty te a7:TypeId}{x lo:Operand}{pos:String}{after:Array Edge}{guard:Option (Nat×Bool)}{τ:Ev.Ty}{xs:List τ.den}{q:Int}
  (ho:opK ops st.fr i=some ⟨some d,.slice t x (some lo) none none,ty,pos,after,guard⟩)(hx:ev st.fr x=.cell (.own k))(hk:lkO st.ob k=.na a7 τ xs)
  (ht:f0c P t=some (te,τ.sz))(hl:bndV st.fr (some lo) 0=some q)(hd:Nat.blt d N=true)(h0:0<=q)(h1:q<=xs.length):
  IEff P N ops i st (.put d (.cell (.osl k τ.sz q.toNat (xs.length - q.toNat)))):=
 .ofLow (.restOwn (by rw[d0p];exact ho) (by rw[c0l,hx];rfl) (by rw[m0v,hk];rfl) ht (by rw[l0y];exact hl) hd h0 h1)
def clrL{α:Type}(xs:List α)(lo m:Nat)(z:α):List α:=xs.take lo++(List.replicate m z++xs.drop (lo+m))
omit [Tabs]in
theorem s0g{τ:Ev.Ty}{z:List Value}{zv:τ.den}(h:rd τ (z.map .sc)=some zv):∀m:Nat,dsle (d0a z m) (flat τ (List.replicate m zv))
 | 0=>trivial
 |m+1=>(y0x h).append (s0g h m)
theorem IEff.clearN {i k lo m:Nat}{t ty te a7:TypeId}{x:Operand}{pos:String}{after:Array Edge}{guard:Option (Nat×Bool)}{τ:Ev.Ty}{xs:List τ.den}{z:List Value}{zv:τ.den}
  (ho:opK ops st.fr i=some ⟨none,.call {callee:=.builtin .clear,args:=#[x],argTypes:=#[t]},ty,pos,after,guard⟩)(hx:ev st.fr x=.cell (.osl k τ.sz lo m))(hk:lkO st.ob k=.na a7 τ xs)
  (ht:f0c P t=some (te,τ.sz))(hz:k0g P te=some z)(jM:z.length=τ.sz)(fC:rd τ (z.map .sc)=some zv)(hle:lo+m<=xs.length):
  IEff P N ops i st (.upd k (.na a7 τ (clrL xs lo m zv))):=by
 have h:=IEff.clearRest (P:=P) (N:=N) (st:=st.low) (by rw[d0p];exact ho) (by rw[c0l,hx];rfl) (by rw[m0v,hk];rfl) ht hz jM hle;refine IEff.updN (n:=xs.length) (cs:=b0a (flat τ xs) (lo*τ.sz) (d0a z m)) (by simp[clrL];omega) ?_ (.ofLow h);unfold b0a clrL;rw[b0o,b0o,j0r,f0h,jM, <-t2w,g0z];exact(dsle.refl _).append ((s0g fC m).append (.refl _))
omit [Tabs]in
theorem l1o{t:TypeId}{cs:List D}{off:Nat}{x:AV}{w:World}{F:Nat->Prop}{ρ:Env}{tm:Array Value}{arr:Array Value}(h:RelAV w F ρ tm (.aggD cs) (.agg arr))(hx:f0v P t (cs.drop off)=some x):
  ∃v,(part t arr off).run P w=.ok v w/\RelAV w F ρ tm x v:=by
 cases h with
 |aggD cs arr hs hh=>
  unfold f0v at hx;split at hx
  ·rename_i ha
   split at hx
   ·rename_i s aR
    cases hb:Nat.ble s (cs.drop off).length with
    |false=>rw[hb]at hx;cases hx
    |true=>
     rw[hb]at hx;simp only[u2j,r2l]at hx;subst hx;have hle:=r2u hb;rw[s2n]at hle;by_cases h0:s=0
     ·subst h0
      exact⟨_,f0w ha aR w,.aggD _ _ (by simp;omega) λi hi=>by simp at hi⟩
     ·refine⟨_,f0w ha aR w,.aggD _ _ (by simp;omega) λi hi=>?_⟩
      have aK:i<s:=by simp only[s2g]at hi;omega
      rw[List.getElem_take,List.getElem_drop];have e1:(arr.extract off (off+s)).getD i undef=arr.getD (off+i) undef:=by
       rw[r2j,r2j,Array.getElem?_extract,if_pos (by omega)]
      rw[e1];exact hh (off+i) (by omega)
   ·cases hx
  ·rename_i ha
   split at hx
   ·rename_i c r hc
    cases hx;have aJ:off<cs.length:=by
     rcases t2y off cs.length with h|h
     ·exact h
     ·rw[List.drop_eq_nil_of_le h]at hc;cases hc
    refine⟨_,g0c ha (by omega) w,.cell _ _ (.d _ _ ?_)⟩;have h1:=hh off aJ;have e2:cs[off]=c:=by rw[t2v aJ]at hc;cases hc;rfl
    rw[e2]at h1;exact h1
   ·cases hx
  ·cases hx
omit [Tabs]in
theorem h1g{t:TypeId}{A:List D}{x:AV}(h:f0v P t A=some x):x.plain=true:=by
 unfold f0v at h;split at h
 ·split at h
  ·rename_i s hs
   cases hb:Nat.ble s A.length with
   |false=>rw[hb]at h;cases h
   |true=>rw[hb]at h;cases h;rfl
  ·cases h
 ·split at h
  ·cases h;rfl
  ·cases h
 ·cases h
theorem IEff.arrIndex {i d n:Nat}{t ty e:TypeId}{x ix:Operand}{pos:String}{after:Array Edge}{guard:Option (Nat×Bool)}{τ:Ev.Ty}{cs:List D}{xs:List τ.den}{y:τ.den}{kk:IntKind}{j:Int}{z:AV}
  (ho:opK ops st.fr i=some ⟨some d,.index t x ix,ty,pos,after,guard⟩)(hu:P.underlying t=some (.array n e))(hs:d0t P e=some τ.sz)(hx:ev st.fr x=.aggD cs)(fR:rds τ n cs=some xs)(hi:ev st.fr ix=.cell (.d (.sc (.int kk j))))
  (hd:Nat.blt d N=true)(h0:0<=j)(hy:xs[j.toNat]?=some y)(hz:f0v P e (cells τ y)=some z):IEff P N ops i st (.put d z):=by
 refine .of_opK ho (.of_plain rfl hd (h1g hz) λF ρ a w hr=>?_);have hv:=a0d hr x;rw[hx]at hv;have eX:=(a0i (a0d hr ix) (by rw[hi];rfl)).1;obtain⟨hl,hle⟩:=w1q fR;have hj:=(r2p.1 hy).1;cases cM:a.eval x with
 |agg arr=>
  rw[cM]at hv;have h1:RelAV w F ρ #[] (.aggD (flat τ xs)) (.agg arr):=by
   cases hv with
   |aggD cs arr hs hh=>exact .aggD _ arr (hs.trans hle.length) λi hi=>hle.get i (by rw[hle.length];exact hi) hi _ _ _ (hh i (by rw[hle.length];exact hi))
  have h2:f0v P e ((flat τ xs).drop (j.toNat*τ.sz))=some z:=by
   have:=t0t τ hy 0 (s2i _);rw[u2e,List.drop_zero]at this;rw[this];exact a1e hz
  obtain⟨v,h3,h4⟩:=l1o (P:=P) h1 h2;refine⟨v,?_,h4⟩;have:0<=j/\j<(n:Int):=⟨h0,by omega⟩;simp only[execOp,cM,eX,Instr.index,asIntOf,Sem.run_bind,Sem.run_pure,Result.andThen_ok,run_underlying hu];rw[if_pos this];simp only[Sem.run_bind,a0g hs,Result.andThen_ok,h3]
 |_=>rw[cM]at hv;cases hv
omit [Tabs]in
theorem d1l{t:TypeId}{cs:List AC}{off:Nat}{x:AV}{w:World}{F:Nat->Prop}{ρ:Env}{tm:Array Value}{arr:Array Value}(h:RelAV w F ρ tm (.agg cs) (.agg arr))(hx:k0j P t (cs.drop off)=some x):
  ∃v,(part t arr off).run P w=.ok v w/\RelAV w F ρ tm x v:=by
 cases h with
 |agg cs arr hs hh=>
  unfold k0j at hx;split at hx
  ·rename_i ha
   split at hx
   ·rename_i s aR
    cases hb:Nat.ble s (cs.drop off).length with
    |false=>rw[hb]at hx;cases hx
    |true=>
     rw[hb]at hx;simp only[u2j,r2l]at hx;subst hx;have hle:=r2u hb;rw[s2n]at hle;by_cases h0:s=0
     ·subst h0
      exact⟨_,f0w ha aR w,c0r (.agg _ _ (by simp;omega) λi hi=>by simp at hi)⟩
     ·refine⟨_,f0w ha aR w,c0r (.agg _ _ (by simp;omega) λi hi=>?_)⟩
      have aK:i<s:=by simp only[s2g]at hi;omega
      rw[List.getElem_take,List.getElem_drop];have e1:(arr.extract off (off+s)).getD i undef=arr.getD (off+i) undef:=by
       rw[r2j,r2j,Array.getElem?_extract,if_pos (by omega)]
      rw[e1];exact hh (off+i) (by omega)
   ·cases hx
  ·rename_i ha
   split at hx
   ·rename_i c r hc
    cases hx;have aJ:off<cs.length:=by
     rcases t2y off cs.length with h|h
     ·exact h
     ·rw[List.drop_eq_nil_of_le h]at hc;cases hc
    refine⟨_,g0c ha (by omega) w,.cell _ _ ?_⟩;have h1:=hh off aJ;have e2:cs[off]=c:=by rw[t2v aJ]at hc;cases hc;rfl
    rw[e2]at h1;exact h1
   ·cases hx
  ·cases hx
theorem IEff.aggIndex {i d n q:Nat}{t ty e s:TypeId}{x ix:Operand}{pos:String}{after:Array Edge}{guard:Option (Nat×Bool)}{cs:List AC}{kk:IntKind}{z:AV}
  (ho:opK ops st.fr i=some ⟨some d,.index t x ix,ty,pos,after,guard⟩)(hu:P.underlying t=some (.array n e))(hs:d0t P e=some s)(hx:ev st.fr x=.agg cs)(hi:ev st.fr ix=.cell (.d (.sc (.int kk (q:Int)))))
  (hd:Nat.blt d N=true)(hq:q<n)(hz:k0j P e (cs.drop (q*s))=some z)(hp:z.plain=true):IEff P N ops i st (.put d z):=by
 refine .of_opK ho (.of_plain rfl hd hp λF ρ a w hr=>?_);have hv:=a0d hr x;rw[hx]at hv;have eX:=(a0i (a0d hr ix) (by rw[hi];rfl)).1;cases cM:a.eval x with
 |agg arr=>
  rw[cM]at hv;have h1:RelAV w F ρ #[] (.agg cs) (.agg arr):=by
   cases hv with
   |agg cs arr hs hh=>exact .agg _ arr hs hh
  obtain⟨v,h3,h4⟩:=d1l (P:=P) h1 hz;refine⟨v,?_,h4⟩;have:(0:Int)<=(q:Int)/\(q:Int)<(n:Int):=⟨by omega,by omega⟩;simp only[execOp,cM,eX,Instr.index,asIntOf,Sem.run_bind,Sem.run_pure,Result.andThen_ok,run_underlying hu];rw[if_pos this];simp only[Sem.run_bind,a0g hs,Result.andThen_ok,Int.toNat_natCast,h3]
 |_=>rw[cM]at hv;cases hv
theorem IEff.sliceNil {i d:Nat}{t ty te:TypeId}{e:Nat}{x:Operand}{lo hi:Option Operand}{pos:String}{after:Array Edge}{guard:Option (Nat×Bool)}
  (ho:opK ops st.fr i=some ⟨some d,.slice t x lo hi none,ty,pos,after,guard⟩)(hx:ev st.fr x=.cell (.d (.sc (.slice none 0 0))))(ht:f0c P t=some (te,e))
  (hl:bndV st.fr lo 0=some 0)(hh:bndV st.fr hi 0=some 0)(hd:Nat.blt d N=true):IEff P N ops i st (.put d (.cell (.d (.sc (.slice none 0 0))))):=by
 refine .of_opK ho (.of_plain rfl hd rfl λF ρ a w hr=>?_);obtain⟨hu,hs⟩:=g0e ht;have bI:=(a0i (a0d hr x) (by rw[hx];rfl)).1;have hb:=d0c (P:=P) (len:=0) (cap:=0) hr true hl hh (by omega) (by omega) (by omega) (by omega);refine⟨.slice none 0 0,?_,.cell _ _ (.d _ _ (.sc _ rfl))⟩;simp only[execOp,bI,Instr.sliceAt,Sem.run_bind,run_underlying hu,Result.andThen_ok,Instr.slice,t2q,hb,a0g hs];rfl
theorem IEff.appendZ {i d:Nat}{t tn ty te:TypeId}{s y:Operand}{pos:String}{after:Array Edge}{guard:Option (Nat×Bool)}{τ:Ev.Ty}{bytes:Nat}{z:List Value}{zv:τ.den}{k1 kn:IntKind}{j:Int}
  (ho:opK ops st.fr i=some ⟨some d,.call {callee:=.builtin .append,args:=#[s,y],argTypes:=#[t,tn]},ty,pos,after,guard⟩)(gG:ev st.fr s=.cell (.d (.sc (.slice none 0 0))))(hy:ev st.fr y=.cell (.d (.sc (.int k1 j))))
  (ht:rowB P t=some (te,τ.sz,bytes))(mK:P.underlying tn=some (.int kn))(hz:k0g P te=some z)(cH:z.length=τ.sz)(fC:rd τ (z.map .sc)=some zv)(hd:Nat.blt d N=true)(h0:0<j)(hr:room j.toNat bytes=true):
  IEff P N ops i st (.new d (.na te τ (List.replicate j.toNat zv)) d (.cell (.own d))):=by
 refine IEff.new_ob (o:=.arr te τ.sz j.toNat (d0a z j.toNat)) (λw F ρ hw=>hw.to_na (by simp) (s0g fC _)) (.of_opK ho ⟨rfl,λF ρ a w h=>?_⟩);obtain⟨hu,ii,zz,hi,dI,iq,aR,mE⟩:=v0j ht;obtain⟨r1,r2⟩:=n0u hr;have e1:=(a0i (a0d h s) (by rw[gG];rfl)).1;have e2:=(a0i (a0d h y) (by rw[hy];rfl)).1;have hj:((j.toNat:Nat):Int)=j:=by omega
 have hzc:zz.cells.toList=z/\∀v∈z,v.oneCell' =true:=by
  unfold k0g at hz;rw[hi]at hz;dsimp only at hz;rw[dI]at hz;dsimp only at hz;cases hb:zz.cells.toList.all Value.oneCell' with
  |false=>rw[hb]at hz;cases hz
  |true=>
   rw[hb]at hz;cases hz;exact⟨rfl,λv hv=>s2b.1 hb v hv⟩
 have ju:0<ii.size:=by rw[aR];exact τ.sz_pos
 have hrun:=Lib.run_append_nil_zeros (P:=P) w t tn ty te ii zz k1 kn hu mK hi dI j.toNat (by omega) ju (by have:maxLen<=9223372036854775807:=(by unfold maxLen;omega);omega) (by rw[mE];omega);rw[hj]at hrun
 let cap:=grownCap w j.toNat 0 te
 let arr:=Builtin.zeroCells zz.cells j.toNat++Builtin.zeroCells zz.cells (cap - j.toNat)
 have aU:j.toNat<=cap:=grownCap_ge w j.toNat 0 te;have bU:arr.toList.take (j.toNat*τ.sz)=(List.replicate j.toNat z).flatten:=by
  show(Builtin.zeroCells zz.cells j.toNat++Builtin.zeroCells zz.cells (cap - j.toNat)).toList.take _=_;rw[Array.toList_append,o0z,hzc.1,List.take_append_of_le_length (by simp[cH]),List.take_of_length_le (by simp[cH])]
 have lI:arr.size=cap*τ.sz:=by
  show(Builtin.zeroCells zz.cells j.toNat++Builtin.zeroCells zz.cells (cap - j.toNat)).size=_;rw[Array.size_append,size_zeroCells,size_zeroCells, <-t2w,iq,aR,Nat.add_sub_cancel' aU]
 have aF:∀b,b<w.heap.size->(w.drew.alloc (.cells arr te)).heap[b]?=w.heap[b]?:=λb hb=>Go.RowKit.Below.heap_alloc w.drew _ b hb;obtain⟨h1,h2⟩:=h.setOb (w' :=w.drew.alloc (.cells arr te)) rfl rfl rfl (by show w.heap.size<=(w.heap.push _).size;simp) d (.arr (.slice (some ⟨w.heap.size,0,none⟩) j.toNat cap)) (.arr te τ.sz j.toNat (d0a z j.toNat))
  (λb hb _=>aF b hb) (λb hb=>by cases hb;exact⟨by show w.heap.size<(w.heap.push _).size;simp,.inl (r2q _)⟩)
  (by
   refine .arr te τ.sz j.toNat _ _ ((List.replicate j.toNat z).flatten) (Env.set_same _ _ _) ⟨by simp[cH],.inr ⟨w.heap.size,cap,arr,rfl,s2i _,heap_alloc_new w.drew _,aU,grownCap_le_maxLen w _ _ _ r1,lI,bU⟩⟩ (by rw[f0h];simp) λq hq=>?_;have hq' :q<((List.replicate j.toNat z).flatten).length:=by rw[f0h]at hq;simpa using hq
   have e6:d0a z j.toNat=((List.replicate j.toNat z).flatten).map D.sc:=by
    unfold d0a;rw[List.map_flatten,List.map_replicate]
   have e7:(d0a z j.toNat)[q]=D.sc (((List.replicate j.toNat z).flatten)[q]):=by
    have:(d0a z j.toNat)[q]?=some (D.sc (((List.replicate j.toNat z).flatten)[q])):=by rw[e6,t2a,r2k hq'];rfl
    rw[r2k hq]at this;exact Option.some.inj this
   rw[e7,r2o,r2k hq',t2r];refine .sc _ ?_;obtain⟨l,hl,jc⟩:=List.mem_flatten.1 (s2s hq');rw[List.eq_of_mem_replicate hl]at jc;exact hzc.2 _ jc) (λhk=>by have:=h.df.2;have:=a0e hd;omega)
 refine⟨.slice (some ⟨w.heap.size,0,none⟩) j.toNat cap,_,F,_,.inl ?_,h1.put d (a0e hd) (.cell _ _ (.own _ _ λu cK=>?_)),h2,⟨λj hj=>Env.set_other _ _ _ λe=>hj (by rw[e];rfl),λb hb _=>aF b hb⟩⟩
 ·simp only[execOp,resolve,invoke,builtin,Sem.run_bind,Sem.run_pure,Result.andThen_ok,List.map_toArray,r2z,t2u,e1,e2,hrun]
  rfl
 ·rw[Env.set_same]at cK
  cases cK;rfl
end
end Esp
namespace Esp
open Go
variable [Tabs]
def dem2{ρ:Type}(a b:Option ρ):Option ρ:=
 match a with
 |some x=> @ite _ (b=some x) (Classical.propDecidable _) (some x) none
 |none=>none
omit [Tabs]in
theorem p1m{ρ:Type}{a b:Option ρ}{r:ρ}(h:dem2 a b=some r):a=some r/\b=some r:=by
 unfold dem2 at h;split at h
 ·split at h
  ·rename_i hb
   cases h;exact⟨rfl,hb⟩
  ·cases h
 ·cases h
omit [Tabs]in
theorem a0p{ρ:Type}(a:Option ρ):dem2 a a=a:=by
 unfold dem2;split<;>simp_all
omit [Tabs]in
theorem b0g{ρ:Type}(a b:Option ρ):dem2 a (dem2 a b)=dem2 a b:=by
 cases a with
 |none=>rfl
 |some x=>
  by_cases h:b=some x
  ·subst h;simp[dem2]
  ·have e:dem2 (some x) b=none:=by simp[dem2,h]
   rw[e];simp[dem2]
def nilq{α ρ:Type}(xs:List α)(a b:Option ρ):Option ρ:=
 match xs with
 |[]=>dem2 a b
 |_::_=>b
omit [Tabs]in
theorem f2h{α ρ:Type}{xs:List α}{a b:Option ρ}{r:ρ}(h:nilq xs a b=some r):(xs=[]->a=some r)/\b=some r:=by
 unfold nilq at h;split at h
 ·have h3:=p1m h
  exact⟨λ_=>h3.1,h3.2⟩
 ·exact⟨λh=>by simp at h,h⟩
structure NilT where
 d:Nat
 τ:Ev.Ty
 xs:List τ.den
 neq:Bool
def nlOf(st:ASt):AV->Option ((τ:Ev.Ty)×List τ.den)
 |.cell (.d (.nl τ xs))=>some ⟨τ,xs⟩
 |.cell (.own k)=>match lkO st.ob k with
  |.na _ e xs=>some ⟨e,xs⟩
  |_=>none
 |_=>none
theorem z1m{N:Nat}{F:Nat->Prop}{ρ:Env}{st:ASt}{a:Act}{w:World}(hr:Rel N F ρ st a w){x:Operand}{τ:Ev.Ty}{xs:List τ.den}(h:nlOf st (ev st.fr x)=some ⟨τ,xs⟩):∃ad m c,a.eval x=.slice ad m c/\(ad=none->xs=[]):=by
 have bO:=a0d hr x;generalize ev st.fr x=v at h bO;unfold nlOf at h;split at h
 ·cases h
  have h9:=a0w bO;generalize a.eval x=xv at h9;cases h9 with
  |nl _ _ v h9=>
   generalize hn' :xs.length=n' at h9;generalize flat τ xs=cs at h9;cases h9 with
   |nil e a cap=>exact⟨a,0,cap,rfl,λ_=>s2f hn'⟩
   |sl e n cs b off cap c=>exact⟨some ⟨b,off,none⟩,_,cap,rfl,λh=>by cases h⟩
 ·rename_i k
  split at h
  ·rename_i t e ys hk
   cases h;have aH:=hr.ob k;rw[hk]at aH;cases aH with
   |na _ _ _ aH=>
    generalize hn' :xs.length=n' at aH;generalize flat τ xs=cs at aH;cases aH with
    |arr t' e' n'' cT u vs aV ho im hx=>
     have hu:a.eval x=u:=by
      cases bO with
      |cell _ _ bO=>cases bO with
       |own k v hq=>exact hq u aV
     rw[hu];rcases ho.2 with⟨rfl,h0⟩| ⟨g,cap,cur,rfl,_⟩
     ·exact⟨none,0,0,rfl,λ_=>s2f (hn'.trans h0)⟩
     ·exact⟨some ⟨g,0,none⟩,_,cap,rfl,λh=>by cases h⟩
  ·cases h
 ·cases h
def nilT(P:Program)(N:Nat)(st:ASt)(o:Oper):Option NilT:=
 match o with
 |⟨some d,.binOp op t x y _,_,_,_,_⟩=>match nlOf st (ev st.fr x),ev st.fr y with
  |some ⟨τ,xs⟩,.cell (.d (.sc (.slice none 0 0)))=>match P.underlying t with
   |some (.slice _)=>bif Nat.blt d N then match op with
    |.eql=>some ⟨d,τ,xs,false⟩
    |.neq=>some ⟨d,τ,xs,true⟩
    |_=>none
    else none
   |_=>none
  |_,_=>none
 |_=>none
abbrev bV(b:Bool):AV:=.cell (.d (.sc (.bool b)))
section
variable{P:Program}{N:Nat}{ops:Array Oper}{Q:Exit->ASt->Prop}{st:ASt}{i n:Nat}
omit [Tabs]in
theorem s0v(w:World)(t e:TypeId)(a:Option Addr)(n c:Nat)(h:P.underlying t=some (.slice e)):
  (binOp .eql t (.slice a n c) (.slice none 0 0)).run P w=.ok (.bool a.isNone) w:=Lib.run_eql_slice_nil w t e a n c 0 0 h
omit [Tabs]in
theorem r0k(w:World)(t e:TypeId)(a:Option Addr)(n c:Nat)(h:P.underlying t=some (.slice e)):
  (binOp .neq t (.slice a n c) (.slice none 0 0)).run P w=.ok (.bool (!a.isNone)) w:=by
 simp only[binOp];simp[Op.equal,Op.maxDepth,Lib.run_equalIn_slice_nil w 9999 t e a n c 0 0 h]
theorem AOps.nilT {o:Oper}{p:NilT}(ho:opK ops st.fr i=some o)(hn:nilT P N st o=some p)
  (h1:p.xs=[]->AOps P N ops (List.range' (i+1) n) (st.put (some p.d) (bV (!p.neq))) Q)
  (h2:AOps P N ops (List.range' (i+1) n) (st.put (some p.d) (bV p.neq)) Q):AOps P N ops (List.range' i (n+1)) st Q:=by
 unfold Esp.nilT at hn;split at hn
 ·rename_i d op t x y u ty pos after guard
  split at hn
  ·rename_i τ xs hx hy
   split at hn
   ·rename_i e hu
    cases hd:Nat.blt d N with
    |false=>rw[hd]at hn;cases hn
    |true=>
     rw[hd,u2j]at hn;rw[t2j];intro F ρ a w hr;rw[wpOps_cons];obtain⟨eo,hw⟩:=a0x hr ho;have gr:=(a0i (a0d hr y) (by rw[hy];rfl)).1;obtain⟨ad,m,c,bI,hm⟩:∃ad m c,a.eval x=.slice ad m c/\(ad=none->xs=[]):=z1m hr hx;have go:∀(b:Bool),(do eqGuard op t x y (a.eval x) (a.eval y);binOp op t (a.eval x) (a.eval y):Sem Value).run P w=.ok (.bool b) w->AOps P N ops (List.range' (i+1) n) (st.put (some d) (bV b)) Q->
       wpOp P ops (λe a' w' =>∃F' ρ' st',Q e st' /\Rel N F' ρ' st' a' w' /\Fr F ρ w F' ρ' w') i (wpOps P ops (λe a' w' =>∃F' ρ' st',Q e st' /\Rel N F' ρ' st' a' w' /\Fr F ρ w F' ρ' w') (List.range' (i+1) n)) a w:=λb hb hq=>by
      have hrun:(execOp a.eval ⟨some d,.binOp op t x y u,ty,pos,after,guard⟩).run P w=.ok (.value (.bool b)) w:=by
       simp only[Sem.run_bind]at hb;simp only[execOp,Sem.run_bind];generalize (eqGuard op t x y (a.eval x) (a.eval y)).run P w=z at hb⊢;cases z<;>simp_all[Result.andThen]
      simp only[wpOp,eo];rw[if_pos hw];left;simp only[Oper.wp,Oper.upon,hrun];exact hq.after (hr.put d (a0e hd) (.cell _ _ (.d _ _ (.sc _ rfl)))) (Fr.refl F ρ w)
     have hg:∀jq,(jq=.eql\/jq=.neq)->(eqGuard jq t x y (a.eval x) (a.eval y)).run P w=.ok () w:=λjq h=>by
      rw[bI,gr];rcases h with rfl|rfl<;>simp[eqGuard]
     split at hn
     ·cases hn
      have hrun:=λhq=>go ad.isNone (by
       simp only[Sem.run_bind,hg _ (.inl rfl),Result.andThen_ok];rw[bI,gr];exact s0v w t e ad m c hu) hq
      cases dJ:ad with
      |none=>rw[dJ]at hrun;exact hrun (h1 (hm dJ))
      |some q=>rw[dJ]at hrun;exact hrun h2
     ·cases hn
      have hrun:=λhq=>go (!ad.isNone) (by
       simp only[Sem.run_bind,hg _ (.inr rfl),Result.andThen_ok];rw[bI,gr];exact r0k w t e ad m c hu) hq
      cases dJ:ad with
      |none=>rw[dJ]at hrun;exact hrun (h1 (hm dJ))
      |some q=>rw[dJ]at hrun;exact hrun h2
     ·cases hn
   ·cases hn
  ·cases hn
 ·cases hn
end
end Esp
namespace Esp
open Go
variable [Tabs]
open Ev in
def avOf:(t:Ty)->t.den->AV
 |.i64,n=>.cell (.d (iC .i64 n))|.u8,n=>.cell (.d (iC .u8 n))|.u32,n=>.cell (.d (iC .u32 n))|.u64,n=>.cell (.d (iC .u64 n))|.i32,n=>.cell (.d (iC .i32 n))
 |.bool,b=>.cell (.d (bC b))|.str,s=>.cell (.d (sC s))
 |.lst t,l=>.cell (.d (.nl t l))
 |.ptr t,x=>.cell (.d (.rp (c0k t x)))
 |.two t,x=>.aggD (c0k t x.1++c0k t x.2)
 |.map k v,l=>.cell (.d (.nm k v l))
 |t,x=>.aggD (c0k t x)
omit [Tabs]in
theorem dle.rel {x y:D}(h:dle x y){w:World}{F:Nat->Prop}{ρ:Env}{tm:Array Value}{v:Value}(hr:RelAV w F ρ tm (.cell (.d x)) v):RelAV w F ρ tm (.cell (.d y)) v:=
 .cell _ _ (.d _ _ (h _ _ _ (a0w hr)))
omit [Tabs]in
theorem dsle.rel {cs ds:List D}(h:dsle cs ds){w:World}{F:Nat->Prop}{ρ:Env}{tm:Array Value}{v:Value}(hr:RelAV w F ρ tm (.aggD cs) v):RelAV w F ρ tm (.aggD ds) v:=by
 cases hr with
 |aggD cs arr hs hh=>exact .aggD _ arr (hs.trans h.length) λi hi=>h.get i (by rw[h.length];exact hi) hi _ _ _ (hh i (by rw[h.length];exact hi))
def _root_.Ev.Ty.agg:Ev.Ty->Bool
 |.i64|.u8|.u32|.u64|.i32|.bool|.str|.lst _|.ptr _|.map _ _=>false
 |_=>true
def m0p(t:Ev.Ty)(x:AV):Option t.den:=
 match x with
 |.cell (.d x)=>bif t.agg then none else rd t [x]
 |.aggD cs=>bif t.agg then rd t cs else none
 |_=>none
omit [Tabs]in
theorem w0d{t:Ev.Ty}(h:t.agg=true)(x:t.den):avOf t x=.aggD (cells t x):=by
 cases t<;>first|rfl|(simp[Ev.Ty.agg]at h)
omit [Tabs]in
theorem x0s{t:Ev.Ty}(h:t.agg=false)(x:t.den):∃y,cells t x=[y]/\avOf t x=.cell (.d y):=by
 cases t<;>first|exact⟨_,rfl,rfl⟩| (simp[Ev.Ty.agg]at h)
omit [Tabs]in
theorem e0w{t:Ev.Ty}{x:AV}{y:t.den}(h:m0p t x=some y){w:World}{F:Nat->Prop}{ρ:Env}{tm:Array Value}{v:Value}(hr:RelAV w F ρ tm x v):RelAV w F ρ tm (avOf t y) v:=by
 unfold m0p at h;split at h
 ·cases ha:t.agg with
  |true=>rw[ha]at h;cases h
  |false=>
   rw[ha]at h;obtain⟨c,h1,h2⟩:=x0s ha y;have:=y0x h;rw[h1]at this;rw[h2];exact this.1.rel hr
 ·cases ha:t.agg with
  |false=>rw[ha]at h;cases h
  |true=>
   rw[ha]at h;rw[w0d ha];exact(y0x h).rel hr
 ·cases h
omit [Tabs]in
theorem j0y(t:Ev.Ty)(x:t.den):(avOf t x).plain=true:=by cases t<;>rfl
omit [Tabs]in
theorem agg_sz{t:Ev.Ty}:t.agg=true↔t.sz≠1:=by
 cases t<;>first|(simp[Ev.Ty.agg,Ev.Ty.sz,Ev.Ty.sz0];done)| (rename_i u;have:=Ev.Ty.sz0_pos u;simp[Ev.Ty.agg,Ev.Ty.sz];omega)
omit [Tabs]in
theorem b0s{w:World}{F:Nat->Prop}{ρ:Env}{tm:Array Value}{t:Ev.Ty}{x:t.den}{v:Value}(h:RelAV w F ρ tm (avOf t x) v):RelE w F t x v:=by
 unfold RelE;cases ha:t.agg with
 |true=>
  rw[w0d ha]at h;rw[if_neg (agg_sz.1 ha)];cases h with
  |aggD cs arr hs hh=>exact⟨arr,rfl,hs,hh⟩
 |false=>
  have hz:t.sz=1:=by
   by_cases h1:t.sz=1
   ·exact h1
   ·rw[agg_sz.2 h1]at ha;cases ha
  obtain⟨y,h1,h2⟩:=x0s ha x;rw[h2]at h;rw[if_pos hz];exact⟨y,h1,a0w h⟩
omit [Tabs]in
theorem k0y{w:World}{F:Nat->Prop}{ρ:Env}{tm:Array Value}{t:Ev.Ty}{x:t.den}{v:Value}(h:RelE w F t x v):RelAV w F ρ tm (avOf t x) v:=by
 unfold RelE at h;cases ha:t.agg with
 |true=>
  rw[if_neg (agg_sz.1 ha)]at h;obtain⟨arr,rfl,h2,h3⟩:=h;rw[w0d ha];exact .aggD _ arr h2 h3
 |false=>
  have hz:t.sz=1:=by
   by_cases h1:t.sz=1
   ·exact h1
   ·rw[agg_sz.2 h1]at ha;cases ha
  rw[if_pos hz]at h;obtain⟨y,h1,h2⟩:=x0s ha x;obtain⟨c,h3,h4⟩:=h;rw[h1]at h3;cases h3;rw[h2];exact .cell _ _ (.d _ _ h4)
def j2z(P:Program)(t:TypeId)(n:Nat):Bool:=
 bif Nat.beq n 1 then match P.info? t with
  |some i=>match i.zero with
   |some z=>z.oneCell'
   |none=>false
  |none=>false
 else true
def z1t(P:Program)(t:TypeId)(τ:Ev.Ty):Option τ.den:=
 match k0g P t with
 |some zs=>bif Nat.beq zs.length τ.sz&&j2z P t τ.sz then rd τ (zs.map .sc)else none
 |none=>none
omit [Tabs]in
theorem m2w{P:Program}{t:TypeId}{τ:Ev.Ty}{z:τ.den}(hz:z1t P t τ=some z):∃v,(∀w,(zeroValue t).run P w=.ok v w)/\ ∀w F,RelE w F τ z v:=by
 unfold z1t at hz;split at hz
 ·rename_i zs h
  cases hb:(Nat.beq zs.length τ.sz&&j2z P t τ.sz)with
  |false=>rw[hb]at hz;cases hz
  |true=>
   rw[hb]at hz;simp only[u2j]at hz;rw[r2i]at hb;have hl:=r2h hb.1;have mn:=hb.2;unfold k0g at h;split at h
   ·rename_i i hi
    split at h
    ·rename_i v dI
     cases kl:v.cells.toList.all Value.oneCell' with
     |false=>rw[kl]at h;cases h
     |true=>
      rw[kl]at h;cases h;have h3:∀u∈v.cells.toList,u.oneCell' =true:=λu hu=>s2b.1 kl u hu;refine⟨v,λw=>by simp[zeroValue,typeInfo,hi,dI],λw F=>?_⟩;have hd:=y0x hz;have hc:∀j (h:j<(cells τ z).length),RelD w F (cells τ z)[j] (v.cells.getD j undef):=by
       intro j hj;have bN:j<v.cells.size:=by rw [<-s2p,hl, <-a0u τ z];exact hj
       have hle:=hd.get j (by simpa using bN) hj;refine hle _ _ _ ?_;simp only[List.getElem_map,Array.getElem_toList];rw[show v.cells.getD j undef=v.cells[j]by simp[Array.getD,bN]];exact .sc _ (h3 _ (by simp))
      have aR:v.cells.size=(cells τ z).length:=by rw[a0u, <-hl];simp
      have hE:=RelE.of_cells (w:=w) (F:=F) aR hc;have hv:r0f τ.sz v.cells=v:=by
       unfold r0f;split
       ·rename_i h1s
        rw[h1s]at mn;simp only[j2z,u2f,u2j,hi,dI]at mn;cases v<;>first|rfl|(cases mn;done)
       ·rename_i hn
        have:v.cells.size≠1:=by rw[aR,a0u];exact hn
        cases v<;>first|rfl|exact absurd rfl this
      rw[hv]at hE;exact hE
    ·cases h
   ·cases h
 ·cases hz
end Esp

import Derived.Test.YtnaeiccibhdknaaGreatDoorEspTab
set_option linter.unusedSimpArgs false
set_option linter.unusedVariables false
namespace Esp
open Go
variable [Tabs]
section
variable{P:Program}{N:Nat}{ops:Array Oper}{Q:Exit->ASt->Prop}{st st' :ASt}{l:List Nat}
theorem IEff.frame {i:Nat}{e:Eff}{s s' :ASt}(hs:∀F ρ a w,Rel N F ρ s a w->Rel N F ρ s' a w)(h:IEff P N ops i s' e):IEff P N ops i s e:=by
 intro F ρ a w hr K R k;refine h F ρ a w (hs F ρ a w hr) K R λv w' F' ρ' hr' hf ht=>k v w' F' ρ' ?_ hf ht;have hF:∀b,F b->w'.heap[b]?=w.heap[b]?:=λb hb=>hf.keep b (hr.rw.lt b hb) (hr.rw.dis b hb);have oth:∀j,e.touch≠some j->∀l b,ρ j=some l->l.has b->w'.heap[b]?=w.heap[b]?:=λj hj l b hl hb=>
  ht.keep b ((hr.ob j).lt hl hb) λk' l' aG bT hb' =>hj (by rw[aG,hr.rw.inj _ _ _ _ b hl bT hb hb'])
 refine⟨hr'.rw,λi=>?_,λj=>?_,hr'.sz,hr'.df⟩
 ·have h1:=hr'.fr i
  have h0:=hr.fr i;cases e with
  |put d x=>
   have hρ:ρ' =ρ:=by funext j;exact ht.off j (by simp[Eff.key])
   subst hρ;rw[c0m]at h1;rw[c0m];simp only[Eff.appF,Eff.dst,Act.put]at h1⊢;by_cases hi:i=d
   ·rw[if_pos hi]at h1⊢
    exact h1
   ·rw[if_neg hi,a0l _ _ _ _ _ hi]
    exact(h0.mono hF hf.sub λ_ _ h=>h).dropW
  |new kk o d x=>
   rw[c0m]at h1;rw[c0m];simp only[Eff.appF,Eff.dst,Act.put]at h1⊢;by_cases hi:i=d
   ·rw[if_pos hi]at h1⊢
    exact h1
   ·rw[if_neg hi,a0l _ _ _ _ _ hi]
    have aI:offK kk ρ ρ' :=λj hj=>ht.off j (by simp only[Eff.key,ne_eq,r2l];exact λe=>hj e.symm);exact((h0.kill aI).mono hF hf.sub λ_ _ h=>h).dropW
  |upd kk o=>
   have hρ:ρ' =ρ:=by funext j;exact ht.off j (by simp[Eff.key])
   subst hρ;rw[c0m];simp only[Eff.appF,Eff.dst,Act.put];exact h0.mono hF hf.sub λ_ _ h=>h
  |upp kk o d x=>
   have hρ:ρ' =ρ:=by funext j;exact ht.off j (by simp[Eff.key])
   subst hρ;rw[c0m]at h1;rw[c0m];simp only[Eff.appF,Eff.dst,Act.put]at h1⊢;by_cases hi:i=d
   ·rw[if_pos hi]at h1⊢
    exact h1
   ·rw[if_neg hi,a0l _ _ _ _ _ hi]
    exact(h0.mono hF hf.sub λ_ _ h=>h).dropW
 ·have h1:=hr'.ob j
  have h0:=hr.ob j;rw[i0c]at h1;rw[i0c];cases e with
  |put d x=>
   have hρ:ρ' =ρ:=by funext j;exact ht.off j (by simp[Eff.key])
   subst hρ;simp only[Eff.appF];exact h0.through hF hf.sub (oth j (by simp[Eff.touch]))
  |new kk o d x=>
   simp only[Eff.appF]at h1⊢;by_cases hj:j=kk
   ·rw[if_pos hj]at h1⊢
    exact h1
   ·rw[if_neg hj]
    have aI:offK kk ρ ρ' :=λj hj=>ht.off j (by simp only[Eff.key,ne_eq,r2l];exact λe=>hj e.symm);have h2:=h0.kill aI hj;refine h2.through hF hf.sub λl b hl hb=>oth j (by simp only[Eff.touch,ne_eq,r2l];exact λe=>hj e.symm) l b ?_ hb;rw [<-aI j hj];exact hl
  |upd kk o=>
   have hρ:ρ' =ρ:=by funext j;exact ht.off j (by simp[Eff.key])
   subst hρ;simp only[Eff.appF]at h1⊢;by_cases hj:j=kk
   ·rw[if_pos hj]at h1⊢
    exact h1
   ·rw[if_neg hj]
    exact h0.through hF hf.sub (oth j (by simp only[Eff.touch,ne_eq,r2l];exact λe=>hj e.symm))
  |upp kk o d x=>
   have hρ:ρ' =ρ:=by funext j;exact ht.off j (by simp[Eff.key])
   subst hρ;simp only[Eff.appF]at h1⊢;by_cases hj:j=kk
   ·rw[if_pos hj]at h1⊢
    exact h1
   ·rw[if_neg hj]
    exact h0.through hF hf.sub (oth j (by simp only[Eff.touch,ne_eq,r2l];exact λe=>hj e.symm))
theorem IEff.conv {i:Nat}{e e' :Eff}(hd:e'.dst=e.dst)(hk:e'.key=e.key)(ht:e'.touch=e.touch)(hs:∀F ρ a w,Rel N F ρ (e.app st) a w->Rel N F ρ (e'.app st) a w)(h:IEff P N ops i st e):IEff P N ops i st e' :=by
 intro F ρ a w hr K R k;refine h F ρ a w hr K R λv w' F' ρ' hr' hf htc=>?_;rw [<-hd];refine k v w' F' ρ' (by rw[hd];exact hs _ _ _ _ hr') hf ⟨by rw[hk];exact htc.off,by rw[ht];exact htc.keep⟩
end
section
variable{P:Program}{N:Nat}{ops:Array Oper}{Q:Exit->ASt->Prop}{st st' :ASt}{l:List Nat}
theorem IEff.newF {i d:Nat}{te:TypeId}{τ:Ev.Ty}{xs:List τ.den}(hN:Nat.blt d N=true)(hg:lkO st.ob d=.gone)(h:IEff P N ops i st (.new d (.na te τ xs) d (.cell (.own d)))):IEff P N ops i st (.put d (.cell (.d (.nl τ xs)))):=by
 intro F ρ a w hr K R k;have gX:ρ d=none:=by
  have h0:=hr.ob d;rw[hg]at h0;cases h0;assumption
 refine h F ρ a w hr K R λv w' F' ρ' hr' hf ht=>?_;have ho:=hr'.ob d;rw[i0c]at ho;simp only[Eff.appF,if_pos]at ho;cases ho with
 |na _ _ _ ho=>
 obtain⟨F2,h2,hf2⟩:=hr'.freezeD1 d (.nl τ xs) ho λ_ _ h=>.nl _ _ _ h;have hρ:ρ'.set d none=ρ:=by
  funext j;by_cases e:j=d
  ·subst e;rw[Env.set_same,gX]
  ·rw[Env.set_other _ _ _ e]
   exact ht.off j (by simp only[Eff.key,ne_eq,r2l];exact λe' =>e e'.symm)
 rw[hρ]at h2 hf2;have hfr:=hf.trans hr'.rw.dis hf2;have aF:∀b,b<w.heap.size->w'.heap[b]?=w.heap[b]?:=λb hb=>ht.keep b hb λk' l' aG bT _=>by
  simp only[Eff.touch]at aG;cases aG;rw[gX]at bT;cases bT
 have hF:∀b,F b->w'.heap[b]?=w.heap[b]?:=λb hb=>aF b (hr.rw.lt b hb);refine k v w' F2 ρ ⟨h2.rw,λj=>?_,λj=>?_,h2.sz,h2.df⟩ hfr ⟨λ_ _=>rfl,λb hb _=>aF b hb⟩
 ·rw[c0m]
  simp only[Eff.appF,Eff.dst,Act.put];by_cases hj:j=d
  ·rw[if_pos hj]
   have h1:=h2.fr d;simp only at h1;rw[d0i (AV.frz d (.nl τ xs)) (by simp[AV.frz]),c0m]at h1;simp only[Eff.appF,if_pos,AV.frz,AC.frz,u2f,u2j,Eff.dst,Act.put]at h1;subst hj;exact h1
  ·rw[if_neg hj,a0l _ _ _ _ _ hj]
   exact((hr.fr j).mono hF hfr.sub λ_ _ h=>h).dropW
 ·rw[i0c]
  simp only[Eff.appF];exact(hr.ob j).through hF hfr.sub λl b hl hb=>aF b ((hr.ob j).lt hl hb)
theorem IEff.newS {i k d:Nat}{te:TypeId}{τ:Ev.Ty}{xs:List τ.den}(h:IEff P N ops i st (.new k (.na te τ xs) d (.cell (.own k)))):IEff P N ops i st (.new k .gone d (.cell (.d (.nl τ xs)))):=by
 intro F ρ a w hr K R kk;refine h F ρ a w hr K R λv w' F' ρ' hr' hf ht=>?_;have ho:=hr'.ob k;rw[i0c]at ho;simp only[Eff.appF,if_pos]at ho;cases ho with
 |na _ _ _ ho=>
 obtain⟨F2,h2,hf2⟩:=hr'.freezeD1 k (.nl τ xs) ho λ_ _ h=>.nl _ _ _ h;have hfr:=hf.trans hr'.rw.dis hf2;have aP:∀j l,(ρ'.set k none) j=some l->ρ' j=some l:=λj l hl=>by
  by_cases e:j=k
  ·subst e;rw[Env.set_same]at hl;cases hl
  ·rwa[Env.set_other _ _ _ e]at hl
 refine kk v w' F2 (ρ'.set k none) ⟨h2.rw,λj=>?_,λj=>?_,h2.sz,h2.df⟩ hfr ⟨λj hj=>?_,λb hb hk=>ht.keep b hb hk⟩
 ·rw[c0m]
  simp only[Eff.appF,Eff.dst,Act.put];by_cases hj:j=d
  ·rw[if_pos hj]
   have h1:=h2.fr d;simp only at h1;rw[d0i (AV.frz k (.nl τ xs)) (by simp[AV.frz]),c0m]at h1;simp only[Eff.appF,if_pos,AV.frz,AC.frz,u2f,u2j,Eff.dst,Act.put]at h1;subst hj;exact h1
  ·rw[if_neg hj]
   have h1:=hr'.fr j;rw[c0m]at h1;simp only[Eff.appF,if_neg hj,Eff.dst,Act.put]at h1;exact h1.mono (λ_ _=>rfl) hf2.sub aP
 ·rw[i0c]
  simp only[Eff.appF];by_cases hj:j=k
  ·rw[if_pos hj]
   subst hj;exact .gone (Env.set_same _ _ _)
  ·rw[if_neg hj]
   have h1:=hr'.ob j;rw[i0c]at h1;simp only[Eff.appF,if_neg hj]at h1;exact(h1.through (λ_ _=>rfl) hf2.sub λl b hl hb=>rfl).cut (Env.set_other _ _ _ hj) aP
 ·have e:j≠k:=λe=>hj (by rw[e];rfl)
  rw[Env.set_other _ _ _ e];exact ht.off j hj
end
def D.low:D->D
 |.nl t xs=>.sl t.sz xs.length (flat t xs)
 |x=>x
def AV.low:AV->AV
 |.cell (.d x)=>.cell (.d x.low)
 |x=>x
def AObj.low:AObj->AObj
 |.na t e xs=>.arr t e.sz xs.length (flat e xs)
 |x=>x
def ASt.low (s:ASt):ASt:=⟨s.fr.map λp=>(p.1,p.2.low),s.ob.map λp=>(p.1,p.2.low)⟩
omit [Tabs]in
theorem RelD.low {w:World}{F:Nat->Prop}{x:D}{v:Value}(h:RelD w F x v):RelD w F x.low v:=by
 cases h with
 |nl t xs v h=>exact h
 |sc v h=>exact .sc v h
 |nil e a cap=>exact .nil e a cap
 |sl e n cs b off cap c hF hl aU hc hr=>exact .sl e n cs b off cap c hF hl aU hc hr
 |rp cs b off c hF hc hr=>exact .rp cs b off c hF hc hr
 |nm0 kt vt=>exact .nm0 kt vt
 |nm kt vt l b es clock ka va hb aW aR hz he h1 h2 hst=>exact .nm kt vt l b es clock ka va hb aW aR hz he h1 h2 hst
omit [Tabs]in
theorem RelAV.low {w:World}{F:Nat->Prop}{ρ:Env}{tm:Array Value}{x:AV}{v:Value}(h:RelAV w F ρ tm x v):RelAV w F ρ tm x.low v:=by
 unfold AV.low;split
 ·exact .cell _ _ (.d _ _ (a0w h).low)
 ·exact h
omit [Tabs]in
theorem RelOb.low {w:World}{F:Nat->Prop}{ρ:Env}{k:Nat}{x:AObj}(h:RelOb w F ρ k x):RelOb w F ρ k x.low:=by
 unfold AObj.low;split
 ·cases h with
  |na t e xs h=>exact h
 ·exact h
omit [Tabs]in
theorem q1o(s:ASt)(i:Nat):lkF s.low.fr i=(lkF s.fr i).low:=d0i AV.low rfl s.fr i
omit [Tabs]in
theorem m0v(s:ASt)(i:Nat):lkO s.low.ob i=(lkO s.ob i).low:=e0b AObj.low rfl s.ob i
theorem Rel.low {N:Nat}{F:Nat->Prop}{ρ:Env}{s:ASt}{a:Act}{w:World}(h:Rel N F ρ s a w):Rel N F ρ s.low a w:=
 ⟨h.rw,λi=>by rw[q1o];exact(h.fr i).low,λk=>by rw[m0v];exact(h.ob k).low,h.sz,h.df⟩
omit [Tabs]in
theorem c0l(s:ASt)(x:Operand):ev s.low.fr x=(ev s.fr x).low:=by
 cases x with
 |tmp t=>exact q1o s t
 |const v=>
  simp only[ev];cases v.oneCell' <;>rfl
 |global g=>rfl
 |func f=>rfl
omit [Tabs]in
theorem w1n(x:AV):n0c x.low=n0c x:=by
 unfold AV.low;split
 ·rename_i y
  cases y<;>rfl
 ·rfl
omit [Tabs]in
theorem d0p(ops:Array Oper)(s:ASt)(i:Nat):opK ops s.low.fr i=opK ops s.fr i:=by
 unfold opK;cases ops[i]? with
 |none=>rfl
 |some o=>
  dsimp only;cases o.guard with
  |none=>rfl
  |some p=>
   obtain⟨j,want⟩:=p;dsimp only;cases t0d ops j with
   |none=>rfl
   |some g=>
    dsimp only;rw[q1o,w1n]
section
variable{P:Program}{N:Nat}{ops:Array Oper}{Q:Exit->ASt->Prop}{st st' :ASt}{l:List Nat}
theorem IEff.ofLow {i:Nat}{e:Eff}(h:IEff P N ops i st.low e):IEff P N ops i st e:=.frame (λ_ _ _ _ hr=>hr.low) h
theorem IEff.indexN {i d:Nat}{t ty te:TypeId}{x ix:Operand}{pos:String}{after:Array Edge}{guard:Option (Nat×Bool)}{τ:Ev.Ty}{xs:List τ.den}{y:τ.den}{kk:IntKind}{j:Int}
  (ho:opK ops st.fr i=some ⟨some d,.indexAddr t x ix,ty,pos,after,guard⟩)(hx:ev st.fr x=.cell (.d (.nl τ xs)))(hi:ev st.fr ix=.cell (.d (.sc (.int kk j))))
  (ht:f0c P t=some (te,τ.sz))(hd:Nat.blt d N=true)(h0:0<=j)(hy:xs[j.toNat]?=some y):
  IEff P N ops i st (.put d (.cell (.d (.rp (cells τ y))))):=by
 have aJ:=(r2p.1 hy).1;exact .ofLow (.index (by rw[d0p];exact ho) (by rw[c0l,hx];rfl) (by rw[c0l,hi];rfl) ht hd h0 (by omega) (x1c τ hy))
theorem Rel.put_nl {F:Nat->Prop}{ρ:Env}{a:Act}{w:World}{d n e:Nat}{cs:List D}(τ:Ev.Ty)(xs:List τ.den)(he:e=τ.sz)(hn:n=xs.length)(hc:cs=flat τ xs)
  (hr:Rel N F ρ ((Eff.put d (.cell (.d (.sl e n cs)))).app st) a w):Rel N F ρ ((Eff.put d (.cell (.d (.nl τ xs)))).app st) a w:=by
 subst he;subst hn;subst hc;refine⟨hr.rw,λj=>?_,hr.ob,hr.sz,hr.df⟩;have hj:=hr.fr j;simp only[Eff.app,ASt.put]at hj⊢;by_cases e:j=d
 ·subst e
  rw[f0y]at hj⊢;exact .cell _ _ (.d _ _ (.nl _ _ _ (a0w hj)))
 ·rw[f0e _ _ _ _ e]at hj⊢
  exact hj
theorem IEff.put_nl {i d n e:Nat}{cs:List D}(τ:Ev.Ty)(xs:List τ.den)(he:e=τ.sz)(hn:n=xs.length)(hc:cs=flat τ xs)(h:IEff P N ops i st (.put d (.cell (.d (.sl e n cs))))):
  IEff P N ops i st (.put d (.cell (.d (.nl τ xs)))):=
 IEff.conv (e:=.put d (.cell (.d (.sl e n cs)))) rfl rfl rfl (λ_ _ _ _ hr=>hr.put_nl τ xs he hn hc) h
theorem IEff.sliceN {i d:Nat}{t ty te:TypeId}{x:Operand}{lo hi:Option Operand}{pos:String}{after:Array Edge}{guard:Option (Nat×Bool)}{τ:Ev.Ty}{xs:List τ.den}{p q:Int}
  (ho:opK ops st.fr i=some ⟨some d,.slice t x lo hi none,ty,pos,after,guard⟩)(hx:ev st.fr x=.cell (.d (.nl τ xs)))(ht:f0c P t=some (te,τ.sz))
  (hl:bndV st.fr lo 0=some p)(hh:bndV st.fr hi xs.length=some q)(hd:Nat.blt d N=true)(h0:0<=p)(h1:p<=q)(h2:q<=xs.length):
  IEff P N ops i st (.put d (.cell (.d (.nl τ ((xs.drop p.toNat).take (q - p).toNat))))):=by
 have cG:∀(o:Option Operand) (z:Int),bndV st.low.fr o z=bndV st.fr o z:=by
  intro o z;cases o with
  |none=>rfl
  |some y=>
   simp only[bndV,c0l];generalize ev st.fr y=v;cases v with
   |cell c=>cases c with
    |d u=>cases u<;>rfl
    |_=>rfl
   |_=>rfl
 have h:=IEff.slice (P:=P) (N:=N) (st:=st.low) (es:=flat τ ((xs.drop p.toNat).take (q - p).toNat)) (by rw[d0p];exact ho) (by rw[c0l,hx];rfl) ht (by rw[cG];exact hl) (by rw[cG];exact hh) hd h0 h1 h2 rfl (by rw[g0z,j0r]);exact(IEff.ofLow h).put_nl τ _ rfl (by simp;omega) rfl
def d0d(s:Bt):List Int:=s.data.toList.map λc=>(c.toNat:Int)
omit [Tabs]in
theorem s0l(s:Bt):flat .u8 (d0d s)=g0d s.data.toList:=by
 simp only[flat,d0d,g0d]
 induction s.data.toList with
 |nil=>rfl
 |cons c r ih=>
  simp only[r2z,s2o,ih];rfl
def k0z:List Int->Bool
 |[]=>true
 |n::r=>decide (0<=n/\n<256)&&k0z r
def strI(l:List Int):Bt:=⟨(l.map λn=>UInt8.ofNat n.toNat).toArray⟩
omit [Tabs]in
theorem t0v:∀{l:List Int},k0z l=true->flat .u8 l=g0d (l.map λn=>UInt8.ofNat n.toNat)
 |[],_=>rfl
 |n::r,h=>by
  simp only[k0z,r2i,decide_eq_true_eq]at h;have ih:=t0v h.2;simp only[flat,s2o,g0d,r2z]at ih⊢;rw[ih];have:((UInt8.ofNat n.toNat).toNat:Int)=n:=by
   rw[UInt8.toNat_ofNat_of_lt' (by show _<256;omega)];omega
  simp only[cells,c0k,iC,List.cons_append,s2m,this]
theorem IEff.bytesOfN {i d:Nat}{src dst ty:TypeId}{x:Operand}{pos:String}{after:Array Edge}{guard:Option (Nat×Bool)}{s:Bt}
  (ho:opK ops st.fr i=some ⟨some d,.convert src dst x,ty,pos,after,guard⟩)(hx:ev st.fr x=.cell (.d (.sc (.string s))))(hs:P.underlying src=some .string)(ht:e0q P dst=true)(hd:Nat.blt d N=true):
  IEff P N ops i st (.put d (.cell (.d (.nl .u8 (d0d s))))):=by
 exact(IEff.bytesOf (P:=P) ho hx hs ht hd).put_nl .u8 (d0d s) rfl (by simp[d0d]) (s0l s).symm
theorem IEff.ofBytesN {i d:Nat}{src dst ty:TypeId}{x:Operand}{pos:String}{after:Array Edge}{guard:Option (Nat×Bool)}{l:List Int}
  (ho:opK ops st.fr i=some ⟨some d,.convert src dst x,ty,pos,after,guard⟩)(hx:ev st.fr x=.cell (.d (.nl .u8 l)))(ht:P.underlying dst=some .string)(hs:e0q P src=true)(hd:Nat.blt d N=true)(hl:k0z l=true):
  IEff P N ops i st (.put d (.cell (.d (.sc (.string (strI l)))))):=
 .ofLow (.ofBytes (by rw[d0p];exact ho) (by rw[c0l,hx];rfl) hs ht hd (b:=l.map λn=>UInt8.ofNat n.toNat) (by simp) (t0v hl) rfl)
end
def dle(x y:D):Prop:=∀w F v,RelD w F x v->RelD w F y v
omit [Tabs]in
theorem dle.refl (x:D):dle x x:=λ_ _ _ h=>h
def dsle:List D->List D->Prop
 |[],[]=>True
 |x::r,y::s=>dle x y/\dsle r s
 |_,_=>False
omit [Tabs]in
theorem dsle.refl:∀l:List D,dsle l l
 |[]=>trivial
 |x::r=>⟨.refl x,.refl r⟩
omit [Tabs]in
theorem dsle.append:∀{a b c d:List D},dsle a b->dsle c d->dsle (a++c) (b++d)
 |[],[],_,_,_,h=>h
 |x::r,y::s,_,_,h,k=>⟨h.1,dsle.append h.2 k⟩
 |[],_::_,_,_,h,_=>h.elim
 |_::_,[],_,_,h,_=>h.elim
omit [Tabs]in
theorem dsle.length:∀{a b:List D},dsle a b->a.length=b.length
 |[],[],_=>rfl
 |x::r,y::s,h=>by simp[dsle.length h.2]
 |[],_::_,h=>h.elim
 |_::_,[],h=>h.elim
omit [Tabs]in
theorem dsle.get:∀{a b:List D},dsle a b->∀i (h1:i<a.length) (h2:i<b.length),dle a[i] b[i]
 |x::r,y::s,h,0,_,_=>h.1
 |x::r,y::s,h,i+1,h1,h2=>dsle.get h.2 i (by simpa using h1) (by simpa using h2)
 |[],[],_,i,h1,_=>by simp at h1
 |[],_::_,h,_,_,_=>h.elim
 |_::_,[],h,_,_,_=>h.elim
def a2x:IntKind->IntKind->Bool
 |.i64,.i64|.u8,.u8|.u32,.u32|.u64,.u64|.i32,.i32=>true
 |_,_=>false
omit [Tabs]in
theorem a2i{a b:IntKind}(h:a2x a b=true):a=b:=by
 cases a<;>cases b<;>first|rfl|(simp[a2x]at h)
def rI(k:IntKind):D->Option Int
 |.sc (.int k' n)=>bif a2x k' k then some n else none
 |_=>none
def rB:D->Option Bool
 |.sc (.bool b)=>some b
 |_=>none
def rS:D->Option Bt
 |.sc (.string s)=>some s
 |_=>none
def rL(t:Ev.Ty):D->Option (List t.den)
 |.nl t' xs=>Ev.castL t' t xs
 |.sc (.slice none 0 0)=>some []
 |_=>none
def rM(kt vt:Ev.Ty):D->Option (List (kt.den×vt.den))
 |.nm k v l=>Ev.castM k kt v vt l
 |.sc (.map none)=>some []
 |_=>none
omit [Tabs]in
theorem n2h{kt vt:Ev.Ty}{x:D}{l:List (kt.den×vt.den)}(h:rM kt vt x=some l):dle x (.nm kt vt l):=by
 unfold rM at h;split at h
 ·obtain⟨e1,e2,rfl⟩:=Ev.castM_eq h
  subst e1;subst e2;exact .refl _
 ·cases h
  intro w F v hv;cases hv with
  |sc _ _=>exact .nm0 _ _
 ·cases h
omit [Tabs]in
theorem e0f{k:IntKind}{x:D}{n:Int}(h:rI k x=some n):dle x (iC k n):=by
 unfold rI at h;split at h
 ·rename_i k' m
  cases hb:a2x k' k with
  |false=>rw[hb]at h;cases h
  |true=>
   rw[hb]at h;cases h;rw[a2i hb];exact .refl _
 ·cases h
omit [Tabs]in
theorem n1z{x:D}{b:Bool}(h:rB x=some b):dle x (bC b):=by
 unfold rB at h;split at h
 ·cases h;exact .refl _
 ·cases h
omit [Tabs]in
theorem g0h{x:D}{b:Bt}(h:rS x=some b):dle x (sC b):=by
 unfold rS at h;split at h
 ·cases h;exact .refl _
 ·cases h
omit [Tabs]in
theorem f2f(t:Ev.Ty):dle (.sc (.slice none 0 0)) (.nl t []):=by
 intro w F v h;generalize hx:D.sc (.slice none 0 0)=x at h;cases h with
 |sc v h=>cases hx;exact .nl _ _ _ (.nil _ none 0)
 |_=>cases hx
omit [Tabs]in
theorem d0f{t:Ev.Ty}{x:D}{l:List t.den}(h:rL t x=some l):dle x (.nl t l):=by
 unfold rL at h;split at h
 ·obtain⟨e,rfl⟩:=Ev.castL_eq h
  subst e;exact .refl _
 ·cases h
  exact f2f t
 ·cases h
open Ev in
def rVal:List D->Option Val
 |[a,b,c,d]=>(rI .i64 a).bind λk=>(rI .i64 b).bind λn=>(rS c).bind λs=>(rL .val d).bind λl=>some (.mk k n s l)
 |_=>none
omit [Tabs]in
open Ev in
theorem q0s{cs:List D}{v:Val}(h:rVal cs=some v):dsle cs (cVal v):=by
 unfold rVal at h;split at h
 ·simp only[r2m,r2l]at h
  obtain⟨k,h1,n,h2,s,h3,l,h4,rfl⟩:=h;exact⟨e0f h1,e0f h2,g0h h3,d0f h4,trivial⟩
 ·cases h
open Ev in
def t1m:List D->Option Term
 |[a,b,c,d,e,f,g]=>(rI .i64 a).bind λk=>(rVal [b,c,d,e]).bind λv=>(rS f).bind λs=>(rL .term g).bind λl=>some (.mk k v s l)
 |_=>none
omit [Tabs]in
open Ev in
theorem x0e{cs:List D}{v:Term}(h:t1m cs=some v):dsle cs (a2r v):=by
 unfold t1m at h;split at h
 ·simp only[r2m,r2l]at h
  obtain⟨k,h1,n,h2,s,h3,l,h4,rfl⟩:=h;have:=q0s h2;exact⟨e0f h1,this.1,this.2.1,this.2.2.1,this.2.2.2.1,g0h h3,d0f h4,trivial⟩
 ·cases h
open Ev in
def z0h:List D->Option Graph
 |[a,b,c]=>(rL .node a).bind λn=>(rL .edg b).bind λe=>(rI .i64 c).bind λk=>some ⟨n,e,k⟩
 |_=>none
omit [Tabs]in
open Ev in
theorem r0i{cs:List D}{v:Graph}(h:z0h cs=some v):dsle cs (u0x v):=by
 unfold z0h at h;split at h
 ·simp only[r2m,r2l]at h
  obtain⟨n,h1,e,h2,k,h3,rfl⟩:=h;exact⟨d0f h1,d0f h2,e0f h3,trivial⟩
 ·cases h
open Ev in
def j1n:List D->Option Query
 |[a,b,c,d,e]=>(rL .dot a).bind λx1=>(rL .arrow b).bind λx2=>(rL .term c).bind λx3=>(rL .item d).bind λx4=>(rB e).bind λx5=>some ⟨x1,x2,x3,x4,x5⟩
 |_=>none
omit [Tabs]in
open Ev in
theorem a1g{cs:List D}{v:Query}(h:j1n cs=some v):dsle cs (v1h v):=by
 unfold j1n at h;split at h
 ·simp only[r2m,r2l]at h
  obtain⟨x1,h1,x2,h2,x3,h3,x4,h4,x5,h5,rfl⟩:=h;exact⟨d0f h1,d0f h2,d0f h3,d0f h4,n1z h5,trivial⟩
 ·cases h
open Ev in
def k1d:List D->Option Store
 |[a,b,c,d,e,f,g,h]=>(z0h [a,b,c]).bind λx1=>(rI .i64 d).bind λx2=>(rS e).bind λx3=>(rS f).bind λx4=>(rS g).bind λx5=>(rL .str h).bind λx6=>some ⟨x1,x2,⟨x3,x4⟩,x5,x6⟩
 |_=>none
omit [Tabs]in
open Ev in
theorem c1z{cs:List D}{v:Store}(h:k1d cs=some v):dsle cs (t1j v):=by
 unfold k1d at h;split at h
 ·simp only[r2m,r2l]at h
  obtain⟨x1,h1,x2,h2,x3,h3,x4,h4,x5,h5,x6,h6,rfl⟩:=h;have:=r0i h1;exact⟨this.1,this.2.1,this.2.2.1,e0f h2,g0h h3,g0h h4,g0h h5,d0f h6,trivial⟩
 ·cases h
open Ev in
def rd0:(t:Ty)->List D->Option t.den
 |.i64,[x]=>rI .i64 x|.u8,[x]=>rI .u8 x|.u32,[x]=>rI .u32 x|.u64,[x]=>rI .u64 x|.i32,[x]=>rI .i32 x
 |.bool,[x]=>rB x|.str,[x]=>rS x
 |.lst t,[x]=>rL t x
 |.val,cs=>rVal cs
 |.prp,a::cs=>(rS a).bind λs=>(rVal cs).bind λv=>some ⟨s,v⟩
 |.node,[a,b,c]=>(rI .i64 a).bind λi=>(rL .str b).bind λl=>(rL .prp c).bind λp=>some ⟨i,l,p⟩
 |.edg,[a,b,c,d,e]=>(rI .i64 a).bind λx1=>(rI .i64 b).bind λx2=>(rI .i64 c).bind λx3=>(rS d).bind λx4=>(rL .prp e).bind λx5=>some ⟨x1,x2,x3,x4,x5⟩
 |.graph,cs=>z0h cs
 |.opn,[a,b,c,d,e,f,g,h,i,j,k]=>(rI .i64 a).bind λx1=>(rI .i64 b).bind λx2=>(rI .i64 c).bind λx3=>(rI .i64 d).bind λx4=>(rS e).bind λx5=>(rVal [f,g,h,i]).bind λx6=>(rL .str j).bind λx7=>(rL .prp k).bind λx8=>some ⟨x1,x2,x3,x4,x5,x6,x7,x8⟩
 |.delta,[a,b,c,d,e,f]=>(rL .node a).bind λx1=>(rL .node b).bind λx2=>(rL .edg c).bind λx3=>(rL .edg d).bind λx4=>(rI .i64 e).bind λx5=>(rI .i64 f).bind λx6=>some ⟨x1,x2,x3,x4,x5,x6⟩
 |.term,cs=>t1m cs
 |.dot,[a,b]=>(rS a).bind λx1=>(rS b).bind λx2=>some ⟨x1,x2⟩
 |.arrow,[a,b,c,d]=>(rS a).bind λx1=>(rS b).bind λx2=>(rB c).bind λx3=>(rB d).bind λx4=>some ⟨x1,x2,x3,x4⟩
 |.item,a::b::cs=>(rS a).bind λx1=>(rS b).bind λx2=>(t1m cs).bind λx3=>some ⟨x1,x2,x3⟩
 |.query,cs=>j1n cs
 |.cnt,[a,b]=>(rL .val a).bind λx1=>(rI .i64 b).bind λx2=>some ⟨x1,x2⟩
 |.hold,[a,b,c,d,e,f]=>(j1n [a,b,c,d,e]).bind λx1=>(rL (.lst .i64) f).bind λx2=>some ⟨x1,x2⟩
 |.plan,[a,b,c1,c2,c3,c4,c5,c6,c7,d]=>(rI .i64 a).bind λx1=>(rI .i64 b).bind λx2=>(t1m [c1,c2,c3,c4,c5,c6,c7]).bind λx3=>(rL .plan d).bind λx4=>some (.mk x1 x2 x3 x4)
 |.entry,[a,b,c,d,e,f,g]=>(rS a).bind λx1=>(rS b).bind λx2=>(rVal [c,d,e,f]).bind λx3=>(rL .i64 g).bind λx4=>some ⟨x1,x2,x3,x4⟩
 |.disk,[a,b]=>(rS a).bind λx1=>(rS b).bind λx2=>some ⟨x1,x2⟩
 |.store,cs=>k1d cs
 |.guest,[a,b,c,d]=>(rI .i64 a).bind λx1=>(rL (.lst .cnt) b).bind λx2=>(rB c).bind λx3=>(rI .i64 d).bind λx4=>some ⟨x1,x2,x3,x4⟩
 |.desk,[a,b,c,d,e,f,g,h,i,j]=>(k1d [a,b,c,d,e,f,g,h]).bind λx1=>(rL .hold i).bind λx2=>(rL .guest j).bind λx3=>some ⟨x1,x2,x3⟩
 |.answer,[a,b,c,d,e]=>(rI .i64 a).bind λx1=>(rI .i64 b).bind λx2=>(rL .i64 c).bind λx3=>(rL .cnt d).bind λx4=>(rB e).bind λx5=>some ⟨x1,x2,x3,x4,x5⟩
 |.grant,[a,b]=>(rS a).bind λx1=>(rL .str b).bind λx2=>some ⟨x1,x2⟩
 |.request,[a,b,c,d]=>(rI .i64 a).bind λx1=>(rL .opn b).bind λx2=>(rS c).bind λx3=>(rI .i64 d).bind λx4=>some ⟨x1,x2,x3,x4⟩
 |.pair,[a,b]=>(rI .i64 a).bind λx1=>(rI .i64 b).bind λx2=>some ⟨x1,x2⟩
 |.map k v,[x]=>rM k v x
 |.envr,[a,b,c,d]=>(z0h [a,b,c]).bind λx1=>(rM .str .i64 d).bind λx2=>some ⟨x1,x2⟩
 |_,_=>none
omit [Tabs]in
theorem z0i{t:Ev.Ty}{cs:List D}{x:t.den}(h:rd0 t cs=some x):dsle cs (c0k t x):=by
 unfold rd0 at h;split at h
 all_goals first
  |exact⟨e0f h,trivial⟩
  |exact⟨n1z h,trivial⟩
  |exact⟨g0h h,trivial⟩
  |exact⟨d0f h,trivial⟩
  |exact⟨n2h h,trivial⟩
  |exact q0s h
  |exact r0i h
  |exact x0e h
  |exact a1g h
  |exact c1z h
  |cases h
  |skip
 all_goals simp only[r2m,r2l]at h
 ·obtain⟨s,h1,v,h2,rfl⟩:=h;exact⟨g0h h1,q0s h2⟩
 ·obtain⟨s,h1,v,h2,q,h3,rfl⟩:=h;exact⟨e0f h1,d0f h2,d0f h3,trivial⟩
 ·obtain⟨s,h1,v,h2,q,h3,x4,h4,x5,h5,rfl⟩:=h;exact⟨e0f h1,e0f h2,e0f h3,g0h h4,d0f h5,trivial⟩
 ·obtain⟨s,h1,v,h2,q,h3,x4,h4,x5,h5,x6,h6,x7,h7,x8,h8,rfl⟩:=h
  have:=q0s h6;exact⟨e0f h1,e0f h2,e0f h3,e0f h4,g0h h5,this.1,this.2.1,this.2.2.1,this.2.2.2.1,d0f h7,d0f h8,trivial⟩
 ·obtain⟨s,h1,v,h2,q,h3,x4,h4,x5,h5,x6,h6,rfl⟩:=h;exact⟨d0f h1,d0f h2,d0f h3,d0f h4,e0f h5,e0f h6,trivial⟩
 ·obtain⟨s,h1,v,h2,rfl⟩:=h;exact⟨g0h h1,g0h h2,trivial⟩
 ·obtain⟨s,h1,v,h2,q,h3,x4,h4,rfl⟩:=h;exact⟨g0h h1,g0h h2,n1z h3,n1z h4,trivial⟩
 ·obtain⟨s,h1,v,h2,q,h3,rfl⟩:=h;exact⟨g0h h1,g0h h2,x0e h3⟩
 ·obtain⟨s,h1,v,h2,rfl⟩:=h;exact⟨d0f h1,e0f h2,trivial⟩
 ·obtain⟨s,h1,v,h2,rfl⟩:=h
  have:=a1g h1;exact⟨this.1,this.2.1,this.2.2.1,this.2.2.2.1,this.2.2.2.2.1,d0f h2,trivial⟩
 ·obtain⟨s,h1,v,h2,q,h3,x4,h4,rfl⟩:=h
  have:=x0e h3;exact⟨e0f h1,e0f h2,this.1,this.2.1,this.2.2.1,this.2.2.2.1,this.2.2.2.2.1,this.2.2.2.2.2.1,this.2.2.2.2.2.2.1,d0f h4,trivial⟩
 ·obtain⟨s,h1,v,h2,q,h3,x4,h4,rfl⟩:=h
  have:=q0s h3;exact⟨g0h h1,g0h h2,this.1,this.2.1,this.2.2.1,this.2.2.2.1,d0f h4,trivial⟩
 ·obtain⟨s,h1,v,h2,rfl⟩:=h;exact⟨g0h h1,g0h h2,trivial⟩
 ·obtain⟨s,h1,v,h2,q,h3,x4,h4,rfl⟩:=h;exact⟨e0f h1,d0f h2,n1z h3,e0f h4,trivial⟩
 ·obtain⟨s,h1,v,h2,q,h3,rfl⟩:=h
  have:=c1z h1;exact⟨this.1,this.2.1,this.2.2.1,this.2.2.2.1,this.2.2.2.2.1,this.2.2.2.2.2.1,this.2.2.2.2.2.2.1,this.2.2.2.2.2.2.2.1,d0f h2,d0f h3,trivial⟩
 ·obtain⟨s,h1,v,h2,q,h3,x4,h4,x5,h5,rfl⟩:=h;exact⟨e0f h1,e0f h2,d0f h3,d0f h4,n1z h5,trivial⟩
 ·obtain⟨s,h1,v,h2,rfl⟩:=h;exact⟨g0h h1,d0f h2,trivial⟩
 ·obtain⟨s,h1,v,h2,q,h3,x4,h4,rfl⟩:=h;exact⟨e0f h1,d0f h2,g0h h3,e0f h4,trivial⟩
 ·obtain⟨s,h1,v,h2,rfl⟩:=h;exact⟨e0f h1,e0f h2,trivial⟩
 ·obtain⟨s,h1,v,h2,rfl⟩:=h
  have:=r0i h1;exact⟨this.1,this.2.1,this.2.2.1,n2h h2,trivial⟩
omit [Tabs]in
theorem s1j{cs ds:List D}(h:dsle cs ds):dle (.rp cs) (.rp ds):=by
 intro w F v hv;generalize hx:D.rp cs=x at hv;cases hv with
 |rp cT b off c hF hc hr=>
  cases hx;exact .rp _ b off c (λh2=>hF λe=>h2 (s2f (by rw [<-h.length,e];rfl))) (λi hi=>hc i (by rw[h.length];exact hi)) λi hi=>h.get i (by rw[h.length];exact hi) hi _ _ _ (hr i (by rw[h.length];exact hi))
 |_=>cases hx
def rdP(t:Ev.Ty):List D->Option t.den
 |[.rp cs]=>rd0 t cs
 |_=>none
def rd2(t:Ev.Ty)(cs:List D):Option (t.den×t.den):=(rd0 t (cs.take t.sz0)).bind λx=>(rd0 t (cs.drop t.sz0)).bind λy=>some (x,y)
open Ev in
def rd:(t:Ty)->List D->Option t.den
 |.ptr t=>rdP t
 |.two t=>rd2 t
 |t=>rd0 t
omit [Tabs]in
theorem q2u{t:Ev.Ty}(h:∀u,t≠ .ptr u)(h2:∀u,t≠ .two u):rd t=rd0 t:=by cases t<;>first|rfl|exact absurd rfl (h _)| exact absurd rfl (h2 _)
omit [Tabs]in
theorem c2s{t:Ev.Ty}(h:∀u,t≠ .ptr u)(h2:∀u,t≠ .two u):cells t=c0k t:=by cases t<;>first|rfl|exact absurd rfl (h _)| exact absurd rfl (h2 _)
omit [Tabs]in
theorem y0x{t:Ev.Ty}{cs:List D}{x:t.den}(h:rd t cs=some x):dsle cs (cells t x):=by
 by_cases hp:∃u,t=.ptr u
 ·obtain⟨u,rfl⟩:=hp
  have h' :rdP u cs=some x:=h;unfold rdP at h';split at h'
  ·exact⟨s1j (z0i h'),trivial⟩
  ·cases h'
 ·by_cases h2:∃u,t=.two u
  ·obtain⟨u,rfl⟩:=h2
   have h' :rd2 u cs=some x:=h;unfold rd2 at h';simp only[r2m,r2l]at h';obtain⟨a,h3,b,h4,rfl⟩:=h';show dsle cs (c0k u a++c0k u b);rw [<-t2z u.sz0 cs];exact(z0i h3).append (z0i h4)
  ·rw[q2u (λu e=>hp ⟨u,e⟩) (λu e=>h2 ⟨u,e⟩)]at h
   rw[c2s (λu e=>hp ⟨u,e⟩) (λu e=>h2 ⟨u,e⟩)];exact z0i h
def rds(t:Ev.Ty):Nat->List D->Option (List t.den)
 | 0,[]=>some []
 |n+1,cs=>(rd t (cs.take t.sz)).bind λx=>(rds t n (cs.drop t.sz)).bind λr=>some (x::r)
 |_,_=>none
omit [Tabs]in
theorem w1q{t:Ev.Ty}:∀{n:Nat} {cs:List D} {xs:List t.den},rds t n cs=some xs->xs.length=n/\dsle cs (flat t xs)
 | 0,[],xs,h=>by cases h;exact⟨rfl,trivial⟩
 | 0,_::_,xs,h=>by cases h
 |n+1,cs,xs,h=>by
  simp only[rds,r2m,r2l]at h;obtain⟨x,h1,r,h2,rfl⟩:=h;obtain⟨i1,i2⟩:=w1q h2;refine⟨by simp[i1],?_⟩;rw [<-t2z t.sz cs];simp only[flat,s2o];exact(y0x h1).append i2
end Esp
namespace Esp
open Go
variable [Tabs]
def AC.bor (ob:List (Nat×AObj)):Nat->AC->AC
 |_,.own k=>match lkO ob k with
  |.na _ τ xs=>.d (.nl τ xs)
  |_=>.own k
 |_,.mpr k=>match lkO ob k with
  |.mp _ kt vt l _=>.d (.nm kt vt l)
  |_=>.mpr k
 |n+1,.ptr k off=>match lkO ob k with
  |.box cs _=>match allD (cs.map (AC.bor ob n))with
   |some ds=>.d (.rp (ds.drop off))
   |none=>.ptr k off
  |_=>.ptr k off
 |_,c=>c
def AV.bor (ob:List (Nat×AObj)):AV->AV
 |.cell c=>.cell (c.bor ob 3)
 |.agg cs=>match allD (cs.map (AC.bor ob 3))with
  |some ds=>.aggD ds
  |none=>.agg cs
 |x=>x
def borL(ob:List (Nat×AObj))(l:List AV):List AV:=l.map (AV.bor ob)
def c2u:AV->Bool
 |.cell (.d (.sc _))=>true
 |.cell (.d (.rp []))=>true
 |_=>false
def f1i:AV->AV
 |.cell (.d (.rp _))=>.cell (.d (.rp []))
 |x=>x
def AV.scal:AV->Bool
 |.tup vs=>vs.all c2u
 |x=>c2u x
omit [Tabs]in
theorem b1l{w w' :World}{F F' :Nat->Prop}{ρ ρ' :Env}{tm eZ:Array Value}{x:AV}{v:Value}(hx:c2u x=true)(h:RelAV w F ρ tm x v):RelAV w' F' ρ' eZ x v:=by
 unfold c2u at hx;split at hx
 ·rename_i u
  have h1:=a0w h;generalize hy:D.sc u=y at h1;cases h1 with
  |sc v hv=>cases hy;exact .cell _ _ (.d _ _ (.sc _ hv))
  |_=>cases hy
 ·have h1:=a0w h
  generalize hy:D.rp []=y at h1;cases h1 with
  |rp cs b off c hF hc hr=>cases hy;exact .cell _ _ (.d _ _ (.rp [] b off c (λh=>absurd rfl h) (λi hi=>by simp at hi) λi hi=>by simp at hi))
  |_=>cases hy
 ·cases hx
omit [Tabs]in
theorem y1e{w w' :World}{F F' :Nat->Prop}{ρ ρ' :Env}{tm eZ:Array Value}{x:AV}{v:Value}(hx:x.scal=true)(h:RelAV w F ρ tm x v):RelAV w' F' ρ' eZ x v:=by
 unfold AV.scal at hx;split at hx
 ·cases h with
  |tup vs arr hs hh=>exact .tup _ arr hs λi hi=>b1l (s2b.1 hx _ (s2s hi)) (hh i hi)
 ·exact b1l hx h
omit [Tabs]in
theorem v1q{w:World}{F:Nat->Prop}{ρ:Env}{tm:Array Value}{x:AV}{v:Value}(h:RelAV w F ρ tm x v):RelAV w F ρ tm (f1i x) v:=by
 unfold f1i;split
 ·rename_i cs
  have h1:=a0w h;generalize hy:D.rp cs=y at h1;cases h1 with
  |rp cs b off c hF hc hr=>exact .cell _ _ (.d _ _ (.rp [] b off c (λh=>absurd rfl h) (λi hi=>by simp at hi) λi hi=>by simp at hi))
  |_=>cases hy
 ·exact h
section
variable{P:Program}{N:Nat}{ops:Array Oper}{st:ASt}
omit [Tabs]in
theorem d2z{F:Nat->Prop}{ρ:Env}{w:World}{ob:List (Nat×AObj)}(aH:∀k,RelOb w F ρ k (lkO ob k)):∀(n:Nat) {c:AC} {v:Value},RelAC w F ρ c v->RelAC w (λb=>F b\/live ρ b) ρ (c.bor ob n) v:=by
 have own:∀(n k:Nat) (v:Value),RelAC w F ρ (.own k) v->RelAC w (λb=>F b\/live ρ b) ρ (AC.bor ob n (.own k)) v:=by
  intro n k v h;have hm:RelAC w (λb=>F b\/live ρ b) ρ (.own k) v:=h.mono (λ_ _=>rfl) (λb hb=>.inl hb) λ_ _ h=>h;cases n<;>
  ·simp only[AC.bor]
   split
   ·rename_i te τ xs hk
    have ho:=aH k;rw[hk]at ho;cases ho with
    |na _ _ _ ho=>
     generalize hn:xs.length=n at ho;generalize bE:flat τ xs=cs at ho;cases ho with
     |arr t e n cs u ys hu ho hz hh=>
      have hv:v=u:=by
       cases h with
       |own k v h=>exact h u hu
      subst hv;subst hn;subst bE;exact .d _ _ (.nl _ _ _ (i0w ho hz hh (λb hb=>.inl hb) λb hb=>.inr ⟨k,_,hu,hb⟩))
   ·exact hm
 have mpr:∀(n k:Nat) (v:Value),RelAC w F ρ (.mpr k) v->RelAC w (λb=>F b\/live ρ b) ρ (AC.bor ob n (.mpr k)) v:=by
  intro n k v h;have hm:RelAC w (λb=>F b\/live ρ b) ρ (.mpr k) v:=h.mono (λ_ _=>rfl) (λb hb=>.inl hb) λ_ _ h=>h;cases n<;>
  ·simp only[AC.bor]
   split
   ·rename_i te kt vt l dn hk
    have ho:=aH k;rw[hk]at ho;cases ho with
    |mp _ _ _ _ b es clock aV hb hs hh _ hdd=>
     have hv:v=.map (some b):=by
      cases h with
      |mpr k v h=>exact h _ b aV rfl
     subst hv;exact .d _ _ (d1p (.inr ⟨k,_,aV,rfl⟩) hb hs (λi h1 h2=>⟨(hh i h1 h2).1.mono (λ_ _=>rfl) λb hb=>.inl hb,(hh i h1 h2).2.mono (λ_ _=>rfl) λb hb=>.inl hb⟩) hdd.2)
   ·exact hm
 intro n
 induction n with
 |zero=>
  intro c v h;have hm:RelAC w (λb=>F b\/live ρ b) ρ c v:=h.mono (λ_ _=>rfl) (λb hb=>.inl hb) λ_ _ h=>h;cases c with
  |own k=>exact own 0 k v h
  |mpr k=>exact mpr 0 k v h
  |_=>exact hm
 |succ n ih=>
  intro c v h;have hm:RelAC w (λb=>F b\/live ρ b) ρ c v:=h.mono (λ_ _=>rfl) (λb hb=>.inl hb) λ_ _ h=>h;cases c with
  |own k=>exact own (n+1) k v h
  |mpr k=>exact mpr (n+1) k v h
  |ptr k off=>
   simp only[AC.bor];split
   ·rename_i cs ty hk
    split
    ·rename_i ds dY
     have e:=j0n dY;have ho:=aH k;rw[hk]at ho;cases ho with
     |box _ _ b c t aQ aV hb hs hh=>
      have hv:v=.pointer (some ⟨b,off,none⟩):=by
       cases h with
       |ptr k off v h=>exact h b aV
      subst hv;have hl:cs.length=ds.length:=by have:=congrArg List.length e;simpa using this
      refine .d _ _ (.rp _ b off (λi=>c.getD (off+i) undef) (λ_=>.inr ⟨k,_,aV,rfl⟩) (λi hi=>?_) λi hi=>?_)
      ·have aK:off+i<c.size:=by rw[s2n]at hi;omega
       simp[World.cell?,hb,aK,r2j]
      ·have aK:off+i<cs.length:=by rw[s2n]at hi;omega
       have h1:=ih (hh (off+i) aK);have h2:AC.bor ob n cs[off+i]=.d (ds[off+i]'(by omega)):=by
        have h3:(cs.map (AC.bor ob n))[off+i]?=(ds.map AC.d)[off+i]?:=by rw[e]
        rw[t2a,t2a,r2k aK,r2k (show off+i<ds.length by omega)]at h3;simpa using h3
       rw[h2]at h1;rw[List.getElem_drop];cases h1 with
       |d x v h=>exact h
    ·exact hm
   ·exact hm
  |_=>exact hm
omit [Tabs]in
theorem v1i{F:Nat->Prop}{ρ:Env}{w:World}{tm:Array Value}{ob:List (Nat×AObj)}(aH:∀k,RelOb w F ρ k (lkO ob k)){x:AV}{v:Value}(h:RelAV w F ρ tm x v):RelAV w (λb=>F b\/live ρ b) ρ tm (x.bor ob) v:=by
 have hm:RelAV w (λb=>F b\/live ρ b) ρ tm x v:=h.mono (λ_ _=>rfl) (λb hb=>.inl hb) λ_ _ h=>h;unfold AV.bor;split
 ·cases h with
  |cell c v h=>exact .cell _ _ (d2z aH 3 h)
 ·rename_i cs
  split
  ·rename_i ds hd
   have e:=j0n hd;cases h with
   |agg cs arr hs hh=>
    have hl:cs.length=ds.length:=by have:=congrArg List.length e;simpa using this
    refine .aggD _ arr (hs.trans hl) λi hi=>?_;have h1:=d2z aH 3 (hh i (by omega));have h2:(cs[i]'(by omega)).bor ob 3=.d ds[i]:=by
     have h3:(cs.map (AC.bor ob 3))[i]?=(ds.map AC.d)[i]?:=by rw[e]
     rw[t2a,t2a,r2k (show i<cs.length by omega),r2k hi]at h3;simpa using h3
    rw[h2]at h1;cases h1 with
    |d x v h=>exact h
  ·exact hm
 ·exact hm
theorem IEff.borrow {i d:Nat}{c:Call}{ty:TypeId}{pos:String}{after:Array Edge}{guard:Option (Nat×Bool)}{f:FuncId}{args:List AV}{x:AV}{o2:List (Nat×AObj)}
  (ho:opK ops st.fr i=some ⟨some d,.call c,ty,pos,after,guard⟩)(hc:b0u st.fr c=some (f,args))(hf:a0m P f=true)(hz:AV.frozenL (borL st.ob args)=true)(hd:Nat.blt d N=true)
  (spec:ACalls P f (borL st.ob args) [] (λr o=>r=.ret x/\o=o2))(hx:(f1i x).scal=true):IEff P N ops i st (.put d (f1i x)):=by
 intro F ρ a w hr K R kk;obtain⟨e,hw⟩:=a0x hr ho;obtain⟨vs,hrun,aR,hrel⟩:=c0t hr hc hf ty;simp only[wpOp,e];rw[if_pos hw];left;have bD:(execOp a.eval ⟨some d,.call c,ty,pos,after,guard⟩).run P w=.ok (.enter f vs) w:=hrun;simp only[Oper.wp,Oper.upon,bD];have h0:RelW (λb=>F b\/live ρ b) (λ_=>none) w:=⟨(λb _ ⟨k,l,hk,_⟩=>by cases hk),(λb hb=>hb.elim (hr.rw.lt b) λ⟨k,l,hk,hl⟩=>(hr.ob k).lt hk hl),(λk k' l l' b hk=>by cases hk),λb o hb=>⟨.inl (hr.rw.tab b o hb).1,(hr.rw.tab b o hb).2⟩⟩;refine(spec _ (λ_=>none) vs w h0 (λk=>.gone rfl) ⟨by rw[aR];simp[borL],λj hj=>?_⟩).mono λen w' ⟨F',ρ',r,bG,⟨hq,_⟩,hre,hrw,bR,hfr⟩=>?_
 ·have bN:j<args.length:=by simpa[borL]using hj
  have h1:=v1i hr.ob (hrel j bN);have h2:(borL st.ob args)[j]=(args[j]).bor st.ob:=by simp[borL]
  have h3:=AV.frozenL_get hz j hj;rw[h2]at h3⊢;exact h1.frozen_any h3
 subst hq;have bP:∀b,¬live (λ_=>none) b:=λb ⟨k,l,hk,_⟩=>by cases hk
 cases en with
 |returned v=>
  have hv:RelAV w' F' ρ' #[] x v:=hre;have aF:∀b,b<w.heap.size->w'.heap[b]?=w.heap[b]?:=λb hb=>hfr.keep b hb (bP b);have hrel' :Rel N F ρ st a w' :=by
   refine⟨⟨hr.rw.dis,λb hb=>t2h (hr.rw.lt b hb) hfr.size,hr.rw.inj,hr.rw.tab_of (λb hb=>aF b (hr.rw.lt b hb)) λ_ h=>h⟩,λj=>(hr.fr j).mono (λb hb=>aF b (hr.rw.lt b hb)) (λ_ h=>h) λ_ _ h=>h,
    λj=>(hr.ob j).through (λb hb=>aF b (hr.rw.lt b hb)) (λ_ h=>h) λl b hl hb=>aF b ((hr.ob j).lt hl hb),hr.sz,hr.df⟩
  have dC:Fr F ρ w F ρ w' :=⟨hfr.os,hfr.tape,hfr.output,hfr.size,λ_ h=>h,λb hb _=>aF b hb,λ_ _ h=>h,λ_ _=>Stab.refl _ _⟩;exact kk v w' F ρ (hrel'.put d (a0e hd) (y1e hx (v1q hv))) dC (.none aF)
 |panicked chain=>exact hre.elim
 |outgrown=>exact hre.elim
def q0h(l:List AV):Bool:=l.all λa=>match a with
 |.cell (.mpr _)=>true
 |.cell (.d _)=>true
 |.aggD _=>true
 |_=>false
def z0p:Ev.Ty->Bool
 |.i64=>true|.u8=>true|.u32=>true|.u64=>true|.i32=>true|.bool=>true|.str=>true|.pair=>true
 |_=>false
def n1g:AV->Bool
 |.cell (.d (.nl τ _))=>z0p τ
 |_=>false
def m1v(cargs:List AV)(x:AV)(o2:List (Nat×AObj)):Option AV:=bif (f1i x).scal then some (f1i x)else bif q0h cargs&&n1g x then some x else
 match x,o2 with
 |.cell (.own k),[(k2,.na _ τ xs)]=>bif Nat.beq k k2&&z0p τ then some (.cell (.d (.nl τ xs)))else none
 |_,_=>none
omit [Tabs]in
theorem f1s{τ:Ev.Ty}(h:z0p τ=true)(x:τ.den):∀c∈cells τ x,∃v,c=.sc v:=by
 cases τ<;>first|(cases h;done)| (intro c hc;simp only[cells,c0k,r2s,List.not_mem_nil,or_false]at hc;first|(obtain rfl:=hc;exact⟨_,rfl⟩)| (rcases hc with rfl|rfl<;>exact⟨_,rfl⟩))
omit [Tabs]in
theorem u0d{τ:Ev.Ty}(h:z0p τ=true)(l:List τ.den):∀c∈flat τ l,∃v,c=.sc v:=by
 intro c hc;unfold flat at hc;obtain⟨x,_,hx⟩:=List.mem_flatMap.1 hc;exact f1s h x c hx
omit [Tabs]in
theorem t1u{τ:Ev.Ty}(h:z0p τ=true):0<τ.sz:=by
 cases τ<;>first|(cases h;done)| decide
def q0b(F:Nat->Prop)(ρ:Env)(w:World)(b:Nat):Prop:=F b\/∃k es clock,ρ k=some (.box b)/\w.heap[b]?=some (.map es clock)
omit [Tabs]in
theorem y1r{F:Nat->Prop}{ρ:Env}{w:World}{tm:Array Value}{ob:List (Nat×AObj)}(aH:∀k,RelOb w F ρ k (lkO ob k)){args:List AV}(hm:q0h args=true){j:Nat}(hj:j<args.length){v:Value}(h:RelAV w F ρ tm args[j] v):
  RelAV w (q0b F ρ w) ρ tm (args[j].bor ob) v:=by
 have h0:=s2b.1 hm _ (s2s hj);have cV:∀{x:AV},RelAV w F ρ tm x v->RelAV w (q0b F ρ w) ρ tm x v:=λh=>h.mono (λ_ _=>rfl) (λb hb=>.inl hb) λ_ _ h=>h;generalize args[j]=a at h h0⊢;split at h0
 ·rename_i k
  show RelAV _ _ _ _ (.cell (AC.bor ob 3 (.mpr k))) v;simp only[AC.bor];split
  ·rename_i te kt vt l dn hk
   have ho:=aH k;rw[hk]at ho;cases ho with
   |mp _ _ _ _ b es clock aV hb hs hh _ hdd=>
    cases h with
    |cell c v h=>cases h with
     |mpr k v h=>
      rw[h _ b aV rfl];exact .cell _ _ (.d _ _ (d1p (.inr ⟨k,es,clock,aV,hb⟩) hb hs (λi h1 h2=>⟨(hh i h1 h2).1.mono (λ_ _=>rfl) λb hb=>.inl hb,(hh i h1 h2).2.mono (λ_ _=>rfl) λb hb=>.inl hb⟩) hdd.2))
  ·exact cV h
 ·rename_i x
  have e:∀n,AC.bor ob n (.d x)=.d x:=λn=>by cases n<;>rfl
  show RelAV _ _ _ _ (.cell (AC.bor ob 3 (.d x))) v;rw[e];exact cV h
 ·exact cV h
 ·cases h0
omit [Tabs]in
theorem n1f{w' :World}{F' G:Nat->Prop}{ρ ρ' :Env}{tm eZ:Array Value}{x:AV}{v:Value}(hx:n1g x=true)(hv:RelAV w' F' ρ' tm x v)(hG:∀b,F' b->(∃c t z,w'.heap[b]?=some (.cells c t z))->G b):RelAV w' G ρ eZ x v:=by
 unfold n1g at hx;split at hx
 ·rename_i τ l
  have hv:=a0w hv;refine .cell _ _ (.d _ _ ?_);generalize hq:D.nl τ l=q at hv;cases hv with
  |nl τ' l' v' hs=>
   cases hq;refine .nl _ _ _ ?_;have eG:=u0d hx l;have hlen:=b0j τ l;have gn:=t1u hx;generalize flat τ l=fl at hs eG hlen;generalize l.length=ln at hs hlen;generalize τ.sz=z at hs hlen gn;cases hs with
   |nil e a cap=>exact .nil _ _ _
   |sl e n cs b off cap c hF hl aU hc hr2=>
    by_cases h0:ln=0
    ·subst h0
     obtain rfl:fl=[]:=s2f (by omega);exact .nil _ _ _
    ·have bS:0<fl.length:=by rw[hlen];exact Nat.mul_pos (by omega) gn
     refine .sl _ _ _ b off cap c (hG b hF ?_) hl aU hc λi hi=>?_
     ·have h2:=hc 0 bS
      unfold World.cell? at h2;split at h2
      ·rename_i cc t z' hh
       exact⟨_,_,_,hh⟩
      all_goals cases h2
     ·obtain⟨u,hu⟩:=eG _ (s2s hi)
      have h4:=hr2 i hi;rw[hu]at h4⊢;cases h4 with
      |sc _ h=>exact .sc _ h
  |_=>cases hq
 ·cases hx
theorem IEff.borrowM {i d:Nat}{c:Call}{ty:TypeId}{pos:String}{after:Array Edge}{guard:Option (Nat×Bool)}{f:FuncId}{args:List AV}{x:AV}{o2:List (Nat×AObj)}
  (ho:opK ops st.fr i=some ⟨some d,.call c,ty,pos,after,guard⟩)(hc:b0u st.fr c=some (f,args))(hf:a0m P f=true)(hz:AV.frozenL (borL st.ob args)=true)(hd:Nat.blt d N=true)
  (spec:ACalls P f (borL st.ob args) [] (λr o=>r=.ret x/\o=o2))(hm:q0h args=true)(hx:n1g x=true):IEff P N ops i st (.put d x):=by
 intro F ρ a w hr K R kk;obtain⟨e,hw⟩:=a0x hr ho;obtain⟨vs,hrun,aR,hrel⟩:=c0t hr hc hf ty;simp only[wpOp,e];rw[if_pos hw];left;have bD:(execOp a.eval ⟨some d,.call c,ty,pos,after,guard⟩).run P w=.ok (.enter f vs) w:=hrun;simp only[Oper.wp,Oper.upon,bD];have lS:∀b,q0b F ρ w b->b<w.heap.size:=λb hb=>hb.elim (hr.rw.lt b) λ⟨k,es,cl,_,h⟩=>(r2r.1 h).1;have h0:RelW (q0b F ρ w) (λ_=>none) w:=⟨(λb _ ⟨k,l,hk,_⟩=>by cases hk),lS,(λk k' l l' b hk=>by cases hk),λb o hb=>⟨.inl (hr.rw.tab b o hb).1,(hr.rw.tab b o hb).2⟩⟩;refine(spec _ (λ_=>none) vs w h0 (λk=>.gone rfl) ⟨by rw[aR];simp[borL],λj hj=>?_⟩).mono λen w' ⟨F',ρ',r,bG,⟨hq,_⟩,hre,hrw,bR,hfr⟩=>?_
 ·have bN:j<args.length:=by simpa[borL]using hj
  have h1:=y1r hr.ob hm bN (hrel j bN);have h2:(borL st.ob args)[j]=(args[j]).bor st.ob:=by simp[borL]
  have h3:=AV.frozenL_get hz j hj;rw[h2]at h3⊢;exact h1.frozen_any h3
 subst hq;have bP:∀b,¬live (λ_=>none) b:=λb ⟨k,l,hk,_⟩=>by cases hk
 cases en with
 |returned v=>
  have hv:RelAV w' F' ρ' #[] x v:=hre;have aF:∀b,b<w.heap.size->w'.heap[b]?=w.heap[b]?:=λb hb=>hfr.keep b hb (bP b)
  let G:Nat->Prop:=λb=>F b\/(w.heap.size<=b/\F' b)
  have hrel' :Rel N G ρ st a w' :=by
   refine⟨⟨λb hb hl=>?_,λb hb=>?_,hr.rw.inj,hr.rw.tab_of (λb hb=>aF b (hr.rw.lt b hb)) λ_ h=>.inl h⟩,λj=>(hr.fr j).mono (λb hb=>aF b (hr.rw.lt b hb)) (λ_ h=>.inl h) λ_ _ h=>h,
    λj=>(hr.ob j).through (λb hb=>aF b (hr.rw.lt b hb)) (λ_ h=>.inl h) λl b hl hb=>aF b ((hr.ob j).lt hl hb),hr.sz,hr.df⟩
   ·rcases hb with hb|⟨hb,_⟩
    ·exact hr.rw.dis b hb hl
    ·obtain⟨k,l,hk,cG⟩:=hl
     have:=(hr.ob k).lt hk cG;omega
   ·rcases hb with hb|⟨_,hb⟩
    ·exact t2h (hr.rw.lt b hb) hfr.size
    ·exact hrw.lt b hb
  have dC:Fr F ρ w G ρ w' :=⟨hfr.os,hfr.tape,hfr.output,hfr.size,λ_ h=>.inl h,λb hb _=>aF b hb,λb hb h=>by
   rcases h with(h|⟨h,_⟩)| h
   ·exact .inl h
   ·omega
   ·exact .inr h,λ_ _=>Stab.refl _ _⟩
  have hres:RelAV w' G ρ #[] x v:=n1f hx hv λb hF ⟨c,t,z,ic⟩=>by
   rcases t2y b w.heap.size with aJ|dT
   ·rcases hfr.old b aJ (.inl hF)with h1|h1
    ·rcases h1 with h1|⟨k,es,cl,_,h1⟩
     ·exact .inl h1
     ·rw[aF b aJ,h1]at ic
      cases ic
    ·exact absurd h1 (bP b)
   ·exact .inr ⟨dT,hF⟩
  exact kk v w' G ρ (hrel'.put d (a0e hd) (hres.retm (by unfold n1g at hx;split at hx<;>first|rfl|cases hx))) dC (.none aF)
 |panicked chain=>exact hre.elim
 |outgrown=>exact hre.elim
omit [Tabs]in
theorem y1v{w:World}{F G:Nat->Prop}{t:TypeId}{τ:Ev.Ty}{xs:List τ.den}{u:Value}{vs:List Value}(hτ:z0p τ=true)(ho:w.ownsRow 0 t τ.sz u xs.length vs)(hs:vs.length=(flat τ xs).length)
  (hr:∀i (h:i<(flat τ xs).length),RelD w F (flat τ xs)[i] (vs.getD i undef))(hG:∀g,u.ownBlock=some g->G g):RelD w G (.nl τ xs) u:=by
 refine .nl _ _ _ ?_;have eG:=u0d hτ xs;have hlen:=b0j τ xs;rcases ho.2 with⟨rfl,h0⟩| ⟨g,cap,cur,rfl,h1,h2,h3,h4,h5,h6⟩
 ·obtain rfl:xs=[]:=s2f h0
  exact .nil _ none 0
 ·refine .sl _ _ _ g 0 cap (λi=>vs.getD i undef) (hG g rfl) hlen h3 (λi hi=>?_) λi hi=>?_
  ·have hi2:i<vs.length:=by omega
   have e1:vs.getD i undef=vs[i]:=by simp[r2o,hi2]
   have e2:cur[i]?=some vs[i]:=by
    have nB:i<(cur.toList.take (xs.length*τ.sz)).length:=by rw[h6];exact hi2
    have e3:(cur.toList.take (xs.length*τ.sz))[i]?=vs[i]?:=by rw[h6]
    rw[r2k hi2,t2x]at e3;split at e3
    ·simpa using e3
    ·cases e3
   rw[e1,s2u];simp[World.cell?,h2,e2]
  ·obtain⟨q,hq⟩:=eG _ (s2s hi)
   have h7:=hr i hi;rw[hq]at h7⊢;cases h7 with
   |sc _ h=>exact .sc _ h
theorem IEff.borrowN {i d:Nat}{c:Call}{ty:TypeId}{pos:String}{after:Array Edge}{guard:Option (Nat×Bool)}{f:FuncId}{args:List AV}{k2:Nat}{t:TypeId}{τ:Ev.Ty}{xs:List τ.den}
  (ho:opK ops st.fr i=some ⟨some d,.call c,ty,pos,after,guard⟩)(hc:b0u st.fr c=some (f,args))(hf:a0m P f=true)(hz:AV.frozenL (borL st.ob args)=true)(hd:Nat.blt d N=true)
  (spec:ACalls P f (borL st.ob args) [] (λr o=>r=.ret (.cell (.own k2))/\o=[(k2,.na t τ xs)]))(hτ:z0p τ=true):IEff P N ops i st (.put d (.cell (.d (.nl τ xs)))):=by
 intro F ρ a w hr K R kk;obtain⟨e,hw⟩:=a0x hr ho;obtain⟨vs,hrun,aR,hrel⟩:=c0t hr hc hf ty;simp only[wpOp,e];rw[if_pos hw];left;have bD:(execOp a.eval ⟨some d,.call c,ty,pos,after,guard⟩).run P w=.ok (.enter f vs) w:=hrun;simp only[Oper.wp,Oper.upon,bD];have h0:RelW (λb=>F b\/live ρ b) (λ_=>none) w:=⟨(λb _ ⟨k,l,hk,_⟩=>by cases hk),(λb hb=>hb.elim (hr.rw.lt b) λ⟨k,l,hk,hl⟩=>(hr.ob k).lt hk hl),(λk k' l l' b hk=>by cases hk),λb o hb=>⟨.inl (hr.rw.tab b o hb).1,(hr.rw.tab b o hb).2⟩⟩;refine(spec _ (λ_=>none) vs w h0 (λk=>.gone rfl) ⟨by rw[aR];simp[borL],λj hj=>?_⟩).mono λen w' ⟨F',ρ',r,bG,⟨hq,fQ⟩,hre,hrw,bR,hfr⟩=>?_
 ·have bN:j<args.length:=by simpa[borL]using hj
  have h1:=v1i hr.ob (hrel j bN);have h2:(borL st.ob args)[j]=(args[j]).bor st.ob:=by simp[borL]
  have h3:=AV.frozenL_get hz j hj;rw[h2]at h3⊢;exact h1.frozen_any h3
 subst hq;subst fQ;have bP:∀b,¬live (λ_=>none) b:=λb ⟨k,l,hk,_⟩=>by cases hk
 cases en with
 |returned v=>
  have hv:RelAV w' F' ρ' #[] (.cell (.own k2)) v:=hre;have aF:∀b,b<w.heap.size->w'.heap[b]?=w.heap[b]?:=λb hb=>hfr.keep b hb (bP b);have aH:RelOb w' F' ρ' k2 (.na t τ xs):=by
   have h1:=bR k2;have e1:lkO [(k2,AObj.na t τ xs)] k2=.na t τ xs:=by
    rw[lkO,show Nat.beq k2 k2=true from u2f k2,u2j]
   rw[e1]at h1;exact h1
  cases aH with
  |na _ _ _ aH=>
   generalize hn' :xs.length=n' at aH;generalize l5:flat τ xs=cs at aH;cases aH with
   |arr t' e' n'' cT u zs aV ho2 im hx=>
    have hu:v=u:=by
     cases hv with
     |cell _ _ hv=>cases hv with
      |own k v hq=>exact hq u aV
    subst hu;subst hn';subst l5;have bJ:∀g,v.ownBlock=some g->w.heap.size<=g/\g<w'.heap.size:=λg hg=>by
     have nJ:live ρ' g:=⟨k2,_,aV,hg⟩;refine⟨?_,(ho2.lt g hg).2⟩;rcases t2y g w.heap.size with aJ|dT
     ·rcases hfr.old g aJ (.inr nJ)with h1|h1
      ·exact absurd nJ (hrw.dis g (hfr.sub g h1))
      ·exact absurd h1 (bP g)
     ·exact dT
    let G:Nat->Prop:=λb=>F b\/v.ownBlock=some b
    have hrel' :Rel N G ρ st a w' :=by
     refine⟨⟨λb hb hl=>?_,λb hb=>?_,hr.rw.inj,hr.rw.tab_of (λb hb=>aF b (hr.rw.lt b hb)) λ_ h=>.inl h⟩,λj=>(hr.fr j).mono (λb hb=>aF b (hr.rw.lt b hb)) (λ_ h=>.inl h) λ_ _ h=>h,
      λj=>(hr.ob j).through (λb hb=>aF b (hr.rw.lt b hb)) (λ_ h=>.inl h) λl b hl hb=>aF b ((hr.ob j).lt hl hb),hr.sz,hr.df⟩
     ·rcases hb with hb|hb
      ·exact hr.rw.dis b hb hl
      ·obtain⟨k,l,hk,cG⟩:=hl
       have:=(hr.ob k).lt hk cG;have:=(bJ b hb).1;omega
     ·rcases hb with hb|hb
      ·exact t2h (hr.rw.lt b hb) hfr.size
      ·exact(bJ b hb).2
    have dC:Fr F ρ w G ρ w' :=⟨hfr.os,hfr.tape,hfr.output,hfr.size,λ_ h=>.inl h,λb hb _=>aF b hb,λb hb h=>by
     rcases h with(h|h)| h
     ·exact .inl h
     ·have:=(bJ b h).1
      omega
     ·exact .inr h,λ_ _=>Stab.refl _ _⟩
    have hres:RelAV w' G ρ #[] (.cell (.d (.nl τ xs))) v:=.cell _ _ (.d _ _ (y1v hτ ho2 im hx λg hg=>.inr hg));exact kk v w' G ρ (hrel'.put d (a0e hd) (hres.retm rfl)) dC (.none aF)
 |panicked chain=>exact hre.elim
 |outgrown=>exact hre.elim
end
end Esp
namespace Esp
open Go
variable [Tabs]
def tyOf:List (TypeId×Ev.Ty)->TypeId->Option Ev.Ty
 |[],_=>none
 |(a,τ)::r,t=>bif Nat.beq t a then some τ else tyOf r t
omit [Tabs]in
theorem RelOb.le {w:World}{F:Nat->Prop}{ρ:Env}{k:Nat}{t:TypeId}{e n:Nat}{cs cT:List D}(h:RelOb w F ρ k (.arr t e n cs))(hle:dsle cs cT):RelOb w F ρ k (.arr t e n cT):=by
 cases h with
 |arr t e n cs u xs hk ho hz hh=>exact .arr t e n cT u xs hk ho (hz.trans hle.length) λi hi=>hle.get i (by rw[hle.length];exact hi) hi _ _ _ (hh i (by rw[hle.length];exact hi))
omit [Tabs]in
theorem RelOb.to_na {w:World}{F:Nat->Prop}{ρ:Env}{k:Nat}{t:TypeId}{τ:Ev.Ty}{n:Nat}{cs:List D}{xs:List τ.den}(h:RelOb w F ρ k (.arr t τ.sz n cs))(hn:xs.length=n)(hle:dsle cs (flat τ xs)):RelOb w F ρ k (.na t τ xs):=by
 subst hn;exact .na t τ xs (h.le hle)
section
variable{P:Program}{N:Nat}{ops:Array Oper}{Q:Exit->ASt->Prop}{st st' :ASt}{l:List Nat}
theorem Rel.new_ob {F:Nat->Prop}{ρ:Env}{a:Act}{w:World}{k d:Nat}{o o' :AObj}{x:AV}(ho:∀w F ρ,RelOb w F ρ k o->RelOb w F ρ k o')(hr:Rel N F ρ ((Eff.new k o d x).app st) a w):Rel N F ρ ((Eff.new k o' d x).app st) a w:=by
 refine⟨hr.rw,λj=>?_,λj=>?_,hr.sz,hr.df⟩
 ·have hj:=hr.fr j
  rw[c0m]at hj⊢;exact hj
 ·have hj:=hr.ob j
  rw[i0c]at hj⊢;simp only[Eff.appF]at hj⊢;by_cases e:j=k
  ·subst e
   rw[if_pos rfl]at hj⊢;exact ho _ _ _ hj
  ·rw[if_neg e]at hj⊢
   exact hj
theorem IEff.new_ob {i k d:Nat}{o o' :AObj}{x:AV}(ho:∀w F ρ,RelOb w F ρ k o->RelOb w F ρ k o')(h:IEff P N ops i st (.new k o d x)):IEff P N ops i st (.new k o' d x):=
 IEff.conv (e:=.new k o d x) rfl rfl rfl (λ_ _ _ _ hr=>hr.new_ob ho) h
def upN(T:List (TypeId×Ev.Ty)):Eff->Option Eff
 |.new k (.arr te e n cs) d x=>match tyOf T te with
  |some τ=>bif Nat.beq e τ.sz then(rds τ n cs).bind λxs=>some (.new k (.na te τ xs) d x)else none
  |none=>none
 |e=>some e
theorem p1q{T:List (TypeId×Ev.Ty)}{i:Nat}{e e' :Eff}(h:upN T e=some e')(hi:IEff P N ops i st e):IEff P N ops i st e' :=by
 unfold upN at h;split at h
 ·rename_i k te e n cs d x
  split at h
  ·rename_i τ ht
   cases hb:Nat.beq e τ.sz with
   |false=>rw[hb]at h;cases h
   |true=>
    rw[hb]at h;have:=r2h hb;subst this;simp only[u2j,r2m,r2l]at h;obtain⟨xs,h1,rfl⟩:=h;obtain⟨h2,h3⟩:=w1q h1;exact hi.new_ob λw F ρ ho=>ho.to_na h2 h3
  ·cases h
 ·cases h
  exact hi
def srcN(P:Program)(ob:List (Nat×AObj))(k:Nat)(τ:Ev.Ty)(tx:TypeId)(y:AV):Option (List τ.den):=
 match P.underlying tx with
 |some (.slice _)=>match y with
  |.cell (.d (.nl τ' ys))=>Ev.castL τ' τ ys
  |.cell (.d (.sc (.slice none 0 0)))=>some []
  |.cell (.own k')=>bif Nat.beq k' k then none else match lkO ob k' with
   |.na _ τ' ys=>Ev.castL τ' τ ys
   |_=>none
  |_=>none
 |some .string=>match y with
  |.cell (.d (.sc (.string s)))=>Ev.castL .u8 τ (d0d s)
  |_=>none
 |_=>none
omit [Tabs]in
theorem q0o{ob:List (Nat×AObj)}{k:Nat}{τ:Ev.Ty}{tx:TypeId}{y:AV}{ys:List τ.den}(h:srcN P ob k τ tx y=some ys):srcV P (ob.map λp=>(p.1,p.2.low)) k τ.sz tx y.low=some (ys.length,flat τ ys):=by
 unfold srcN at h;unfold srcV;split at h
 ·rename_i u hu
  simp only[hu];split at h
  ·obtain⟨e,rfl⟩:=Ev.castL_eq h
   subst e;simp[AV.low,D.low]
  ·cases h
   simp[AV.low,D.low,flat]
  ·rename_i k'
   cases hb:Nat.beq k' k with
   |true=>rw[hb]at h;cases h
   |false=>
    rw[hb,u2k]at h;split at h
    ·rename_i te τ' ys' ho
     obtain⟨e,rfl⟩:=Ev.castL_eq h;subst e;have:lkO (ob.map λp=>(p.1,p.2.low)) k' =.arr te τ'.sz ys'.length (flat τ' ys'):=by
      rw[e0b AObj.low rfl,ho];rfl
     simp[AV.low,hb,this]
    ·cases h
  ·cases h
 ·rename_i hu
  simp only[hu];split at h
  ·rename_i s
   obtain⟨e,rfl⟩:=Ev.castL_eq h;subst e;have h1:(d0d s).length=s.size:=by simp[d0d]
   simp[AV.low,D.low,Ev.Ty.sz,Ev.Ty.sz0,h1,s0l]
  ·cases h
 ·cases h
structure App where
 d:Nat
 k:Nat
 te:TypeId
 τ:Ev.Ty
 bytes:Nat
 zs:List τ.den
def App.eff (p:App):Eff:=.new p.k (.na p.te p.τ p.zs) p.d (.cell (.own p.k))
def c2m(P:Program)(N:Nat)(T:List (TypeId×Ev.Ty))(st:ASt)(o:Oper):Option App:=
 match o with
 |⟨some d,.call c,_,_,_,_⟩=>match c.callee,c.args.toList,c.argTypes.toList with
  |.builtin .append,[s,y],[t,tx]=>match rowB P t with
   |some (te,e,bytes)=>bif Nat.blt d N then match ev st.fr s with
    |.cell (.own k)=>match lkO st.ob k with
     |.na a7 τ xs=>bif Nat.beq te a7&&Nat.beq e τ.sz&&Nat.blt k 2000000 then(srcN P st.ob k τ tx (ev st.fr y)).bind λys=>some ⟨d,k,te,τ,bytes,xs++ys⟩else none
     |.arr a7 e' 0 []=>match tyOf T te with
      |some τ=>bif Nat.beq te a7&&Nat.beq e e' &&Nat.beq e τ.sz&&Nat.blt k 2000000 then(srcN P st.ob k τ tx (ev st.fr y)).bind λys=>some ⟨d,k,te,τ,bytes,[]++ys⟩else none
      |none=>none
     |_=>none
    |.cell (.d (.sc (.slice none 0 0)))=>match tyOf T te with
     |some τ=>bif Nat.beq e τ.sz then(srcN P st.ob d τ tx (ev st.fr y)).bind λys=>some ⟨d,d,te,τ,bytes,ys⟩else none
     |none=>none
    |_=>none
    else none
   |none=>none
  |_,_,_=>none
 |_=>none
def room(n b:Nat):Bool:=Nat.ble n 1152921504606846976&&Nat.ble (n*b) 140737488355328
omit [Tabs]in
theorem n0u{n b:Nat}(h:room n b=true):n<=maxLen/\n*b<=140737488355328:=by
 simp only[room,r2i]at h;exact⟨by have:=r2u h.1;unfold maxLen;omega,r2u h.2⟩
theorem s0i{T:List (TypeId×Ev.Ty)}{i:Nat}{o:Oper}{p:App}(ho:opK ops st.fr i=some o)(h:c2m P N T st o=some p)(hr:room p.zs.length p.bytes=true):IEff P N ops i st p.eff:=by
 unfold c2m at h;split at h
 ·rename_i d c ty pos after guard
  obtain⟨callee,args,ats⟩:=c;dsimp only at h;split at h
  ·rename_i s y t tx jQ mw
   have e1:args=#[s,y]:=by cases args;simp_all
   have e2:ats=#[t,tx]:=by cases ats;simp_all
   subst e1;subst e2;split at h
   ·rename_i te e bytes ht
    cases hd:Nat.blt d N with
    |false=>rw[hd]at h;cases h
    |true=>
    rw[hd,u2j]at h;split at h
    ·rename_i k hs
     split at h
     ·rename_i a7 τ xs hk
      cases hb:(Nat.beq te a7&&Nat.beq e τ.sz&&Nat.blt k 2000000)with
      |false=>rw[hb]at h;cases h
      |true=>
       rw[hb,u2j]at h;simp only[r2i]at hb;have q1:=r2h hb.1.1;have q2:=r2h hb.1.2;subst q1;subst q2;simp only[r2m,r2l]at h;obtain⟨ys,h1,rfl⟩:=h;obtain⟨r1,r2⟩:=n0u hr;dsimp only at r1 r2;rw[r2t]at r1 r2;refine IEff.new_ob (o:=.arr te τ.sz (xs.length+ys.length) (flat τ xs++flat τ ys)) (λw F ρ hw=>hw.to_na (by simp) (by rw[b0o];exact .refl _)) (.ofLow ?_);exact .append (by rw[d0p];exact ho) (by rw[c0l,hs];rfl) (by rw[m0v,hk];rfl) ht hd (by rw[c0l];exact q0o h1) r1 r2 rfl rfl hb.2
     ·rename_i a7 e' hk
      split at h
      ·rename_i τ hτ
       cases hb:(Nat.beq te a7&&Nat.beq e e' &&Nat.beq e τ.sz&&Nat.blt k 2000000)with
       |false=>rw[hb]at h;cases h
       |true=>
        rw[hb,u2j]at h;simp only[r2i]at hb;have q1:=r2h hb.1.1.1;have q3:=r2h hb.1.1.2;have q2:=r2h hb.1.2;subst q1;subst q3;subst q2;simp only[r2m,r2l]at h;obtain⟨ys,h1,rfl⟩:=h;obtain⟨r1,r2⟩:=n0u hr;dsimp only at r1 r2;rw[r2t]at r1 r2;refine IEff.new_ob (o:=.arr te τ.sz (0+ys.length) ([]++flat τ ys)) (λw F ρ hw=>hw.to_na (by simp) (by simp only[s2m];exact .refl _)) (.ofLow ?_);exact .append (by rw[d0p];exact ho) (by rw[c0l,hs];rfl) (by rw[m0v,hk];rfl) ht hd (by rw[c0l];exact q0o h1) r1 r2 rfl rfl hb.2
      ·cases h
     ·cases h
    ·rename_i hs
     split at h
     ·rename_i τ hτ
      cases hb:Nat.beq e τ.sz with
      |false=>rw[hb]at h;cases h
      |true=>
       rw[hb,u2j]at h;have q2:=r2h hb;subst q2;simp only[r2m,r2l]at h;obtain⟨ys,h1,rfl⟩:=h;obtain⟨r1,r2⟩:=n0u hr;refine IEff.new_ob (o:=.arr te τ.sz ys.length (flat τ ys)) (λw F ρ hw=>hw.to_na rfl (.refl _)) (.ofLow ?_);exact .appendNil (by rw[d0p];exact ho) (by rw[c0l,hs];rfl) ht hd (by rw[c0l];exact q0o h1) r1 r2
     ·cases h
    ·cases h
   ·cases h
  ·cases h
 ·cases h
end
end Esp

import Derived.Test.YtcloicgnanjbcaaGreatDoorEspTab
namespace Esp
open Go
set_option linter.unusedSimpArgs false
set_option linter.unusedVariables false
variable [Tabs]
section
variable{P:Program}{N:Nat}{ops:Array Oper}{Q:Exit→ASt→Prop}{st st' :ASt}{l:List Nat}
theorem IEff.frame{i:Nat}{e:Eff}{s s' :ASt}(hs: ∀F ρ a w,Rel N F ρ s a w→Rel N F ρ s' a w)(h:IEff P N ops i s' e):IEff P N ops i s e:=by
 intro F ρ a w hr K R k;refine h F ρ a w (hs F ρ a w hr) K R fun v w' F' ρ' hr' hf ht=>k v w' F' ρ' ?_ hf ht;have hF: ∀b,F b→w'.heap[b]? =w.heap[b]? :=fun b hb=>hf.keep b (hr.rw.lt b hb) (hr.rw.dis b hb);have oth: ∀j,e.touch≠some j→∀l b,ρ j=some l→l.blk=some b→w'.heap[b]? =w.heap[b]? :=fun j hj l b hl hb=>
  ht.keep b ((hr.ob j).lt hl hb) fun k' l' hk' hl' hb' =>hj (by rw [hk',hr.rw.inj _ _ _ _ b hl hl' hb hb'])
 refine⟨hr'.rw,fun i=> ?_,fun j=> ?_,hr'.sz,hr'.df⟩
 ·have h1:=hr'.fr i
  have h0:=hr.fr i;cases e with
  | put d x=>
   have hρ:ρ' =ρ:=by funext j;exact ht.off j (by simp [Eff.key])
   subst hρ;rw [b0s]at h1;rw [b0s];simp only [Eff.appF,Eff.dst,Act.put]at h1⊢;by_cases hi:i=d
   ·rw [if_pos hi]at h1⊢
    exact h1
   ·rw [if_neg hi,a0m _ _ _ _ _ hi]
    exact(h0.mono hF hf.sub fun _ _ h=>h).dropW
  | new kk o d x=>
   rw [b0s]at h1;rw [b0s];simp only [Eff.appF,Eff.dst,Act.put]at h1⊢;by_cases hi:i=d
   ·rw [if_pos hi]at h1⊢
    exact h1
   ·rw [if_neg hi,a0m _ _ _ _ _ hi]
    have hoff:offK kk ρ ρ' :=fun j hj=>ht.off j (by simp only [Eff.key,ne_eq,j2v];exact fun e=>hj e.symm);exact((h0.kill hoff).mono hF hf.sub fun _ _ h=>h).dropW
  | upd kk o=>
   have hρ:ρ' =ρ:=by funext j;exact ht.off j (by simp [Eff.key])
   subst hρ;rw [b0s];simp only [Eff.appF,Eff.dst,Act.put];exact h0.mono hF hf.sub fun _ _ h=>h
  | upp kk o d x=>
   have hρ:ρ' =ρ:=by funext j;exact ht.off j (by simp [Eff.key])
   subst hρ;rw [b0s]at h1;rw [b0s];simp only [Eff.appF,Eff.dst,Act.put]at h1⊢;by_cases hi:i=d
   ·rw [if_pos hi]at h1⊢
    exact h1
   ·rw [if_neg hi,a0m _ _ _ _ _ hi]
    exact(h0.mono hF hf.sub fun _ _ h=>h).dropW
 ·have h1:=hr'.ob j
  have h0:=hr.ob j;rw [g0d]at h1;rw [g0d];cases e with
  | put d x=>
   have hρ:ρ' =ρ:=by funext j;exact ht.off j (by simp [Eff.key])
   subst hρ;simp only [Eff.appF];exact h0.through hF hf.sub (oth j (by simp [Eff.touch]))
  | new kk o d x=>
   simp only [Eff.appF]at h1⊢;by_cases hj:j=kk
   ·rw [if_pos hj]at h1⊢
    exact h1
   ·rw [if_neg hj]
    have hoff:offK kk ρ ρ' :=fun j hj=>ht.off j (by simp only [Eff.key,ne_eq,j2v];exact fun e=>hj e.symm);have h2:=h0.kill hoff hj;refine h2.through hF hf.sub fun l b hl hb=>oth j (by simp only [Eff.touch,ne_eq,j2v];exact fun e=>hj e.symm) l b ?_ hb;rw [←hoff j hj];exact hl
  | upd kk o=>
   have hρ:ρ' =ρ:=by funext j;exact ht.off j (by simp [Eff.key])
   subst hρ;simp only [Eff.appF]at h1⊢;by_cases hj:j=kk
   ·rw [if_pos hj]at h1⊢
    exact h1
   ·rw [if_neg hj]
    exact h0.through hF hf.sub (oth j (by simp only [Eff.touch,ne_eq,j2v];exact fun e=>hj e.symm))
  | upp kk o d x=>
   have hρ:ρ' =ρ:=by funext j;exact ht.off j (by simp [Eff.key])
   subst hρ;simp only [Eff.appF]at h1⊢;by_cases hj:j=kk
   ·rw [if_pos hj]at h1⊢
    exact h1
   ·rw [if_neg hj]
    exact h0.through hF hf.sub (oth j (by simp only [Eff.touch,ne_eq,j2v];exact fun e=>hj e.symm))
theorem IEff.conv{i:Nat}{e e' :Eff}(hd:e'.dst=e.dst)(hk:e'.key=e.key)(ht:e'.touch=e.touch)(hs: ∀F ρ a w,Rel N F ρ (e.app st) a w→Rel N F ρ (e'.app st) a w)(h:IEff P N ops i st e):IEff P N ops i st e' :=by
 intro F ρ a w hr K R k;refine h F ρ a w hr K R fun v w' F' ρ' hr' hf htc=> ?_;rw [←hd];refine k v w' F' ρ' (by rw [hd];exact hs _ _ _ _ hr') hf ⟨by rw [hk];exact htc.off,by rw [ht];exact htc.keep⟩
end
section
variable{P:Program}{N:Nat}{ops:Array Oper}{Q:Exit→ASt→Prop}{st st' :ASt}{l:List Nat}
theorem IEff.newF{i d:Nat}{te:TypeId}{τ:Ev.Ty}{xs:List τ.den}(hN:Nat.blt d N=true)(hg:lkO st.ob d= .gone)(h:IEff P N ops i st (.new d (.na te τ xs) d (.cell (.own d)))):IEff P N ops i st (.put d (.cell (.d (.nl τ xs)))):=by
 intro F ρ a w hr K R k;have hd0:ρ d=none:=by
  have h0:=hr.ob d;rw [hg]at h0;cases h0;assumption
 refine h F ρ a w hr K R fun v w' F' ρ' hr' hf ht=> ?_;have ho:=hr'.ob d;rw [g0d]at ho;simp only [Eff.appF,if_pos]at ho;cases ho with
 | na _ _ _ ho=>
 obtain⟨F2,h2,hf2⟩:=hr'.freezeD1 d (.nl τ xs) ho fun _ _ h=> .nl _ _ _ h;have hρ:ρ'.set d none=ρ:=by
  funext j;by_cases e:j=d
  ·subst e;rw [Env.set_same,hd0]
  ·rw [Env.set_other _ _ _ e]
   exact ht.off j (by simp only [Eff.key,ne_eq,j2v];exact fun e' =>e e'.symm)
 rw [hρ]at h2 hf2;have hfr:=hf.trans hr'.rw.dis hf2;have hkeep: ∀b,b<w.heap.size→w'.heap[b]? =w.heap[b]? :=fun b hb=>ht.keep b hb fun k' l' hk' hl' _=>by
  simp only [Eff.touch]at hk';cases hk';rw [hd0]at hl';cases hl'
 have hF: ∀b,F b→w'.heap[b]? =w.heap[b]? :=fun b hb=>hkeep b (hr.rw.lt b hb);refine k v w' F2 ρ ⟨h2.rw,fun j=> ?_,fun j=> ?_,h2.sz,h2.df⟩ hfr ⟨fun _ _=>rfl,fun b hb _=>hkeep b hb⟩
 ·rw [b0s]
  simp only [Eff.appF,Eff.dst,Act.put];by_cases hj:j=d
  ·rw [if_pos hj]
   have h1:=h2.fr d;simp only at h1;rw [c0v (AV.frz d (.nl τ xs)) (by simp [AV.frz]),b0s]at h1;simp only [Eff.appF,if_pos,AV.frz,AC.frz,m2n,cond_true,Eff.dst,Act.put]at h1;subst hj;exact h1
  ·rw [if_neg hj,a0m _ _ _ _ _ hj]
   exact((hr.fr j).mono hF hfr.sub fun _ _ h=>h).dropW
 ·rw [g0d]
  simp only [Eff.appF];exact(hr.ob j).through hF hfr.sub fun l b hl hb=>hkeep b ((hr.ob j).lt hl hb)
theorem IEff.newS{i k d:Nat}{te:TypeId}{τ:Ev.Ty}{xs:List τ.den}(h:IEff P N ops i st (.new k (.na te τ xs) d (.cell (.own k)))):IEff P N ops i st (.new k .gone d (.cell (.d (.nl τ xs)))):=by
 intro F ρ a w hr K R kk;refine h F ρ a w hr K R fun v w' F' ρ' hr' hf ht=> ?_;have ho:=hr'.ob k;rw [g0d]at ho;simp only [Eff.appF,if_pos]at ho;cases ho with
 | na _ _ _ ho=>
 obtain⟨F2,h2,hf2⟩:=hr'.freezeD1 k (.nl τ xs) ho fun _ _ h=> .nl _ _ _ h;have hfr:=hf.trans hr'.rw.dis hf2;have hsub: ∀j l,(ρ'.set k none) j=some l→ρ' j=some l:=fun j l hl=>by
  by_cases e:j=k
  ·subst e;rw [Env.set_same]at hl;cases hl
  ·rwa [Env.set_other _ _ _ e]at hl
 refine kk v w' F2 (ρ'.set k none) ⟨h2.rw,fun j=> ?_,fun j=> ?_,h2.sz,h2.df⟩ hfr ⟨fun j hj=> ?_,fun b hb hk=>ht.keep b hb hk⟩
 ·rw [b0s]
  simp only [Eff.appF,Eff.dst,Act.put];by_cases hj:j=d
  ·rw [if_pos hj]
   have h1:=h2.fr d;simp only at h1;rw [c0v (AV.frz k (.nl τ xs)) (by simp [AV.frz]),b0s]at h1;simp only [Eff.appF,if_pos,AV.frz,AC.frz,m2n,cond_true,Eff.dst,Act.put]at h1;subst hj;exact h1
  ·rw [if_neg hj]
   have h1:=hr'.fr j;rw [b0s]at h1;simp only [Eff.appF,if_neg hj,Eff.dst,Act.put]at h1;exact h1.mono (fun _ _=>rfl) hf2.sub hsub
 ·rw [g0d]
  simp only [Eff.appF];by_cases hj:j=k
  ·rw [if_pos hj]
   subst hj;exact .gone (Env.set_same _ _ _)
  ·rw [if_neg hj]
   have h1:=hr'.ob j;rw [g0d]at h1;simp only [Eff.appF,if_neg hj]at h1;exact(h1.through (fun _ _=>rfl) hf2.sub fun l b hl hb=>rfl).cut (Env.set_other _ _ _ hj) hsub
 ·have e:j≠k:=fun e=>hj (by rw [e];rfl)
  rw [Env.set_other _ _ _ e];exact ht.off j hj
end
def D.low:D→D
 | .nl t xs=> .sl t.sz xs.length (flat t xs)
 | x=>x
def AV.low:AV→AV
 | .cell (.d x)=> .cell (.d x.low)
 | x=>x
def AObj.low:AObj→AObj
 | .na t e xs=> .arr t e.sz xs.length (flat e xs)
 | x=>x
def ASt.low(s:ASt):ASt:=⟨s.fr.map fun p=>(p.1,p.2.low),s.ob.map fun p=>(p.1,p.2.low)⟩
omit [Tabs]in
theorem RelD.low{w:World}{F:Nat→Prop}{x:D}{v:Value}(h:RelD w F x v):RelD w F x.low v:=by
 cases h with
 | nl t xs v h=>exact h
 | sc v h=>exact .sc v h
 | nil e a cap=>exact .nil e a cap
 | sl e n cs b off cap c hF hl hcap hc hr=>exact .sl e n cs b off cap c hF hl hcap hc hr
 | rp cs b off c hF hc hr=>exact .rp cs b off c hF hc hr
 | nm0 kt vt=>exact .nm0 kt vt
 | nm kt vt l b es clock ka va hb hbb hsz hz he h1 h2 hst=>exact .nm kt vt l b es clock ka va hb hbb hsz hz he h1 h2 hst
omit [Tabs]in
theorem RelAV.low{w:World}{F:Nat→Prop}{ρ:Env}{tm:Array Value}{x:AV}{v:Value}(h:RelAV w F ρ tm x v):RelAV w F ρ tm x.low v:=by
 unfold AV.low;split
 ·exact .cell _ _ (.d _ _ (a0x h).low)
 ·exact h
omit [Tabs]in
theorem RelOb.low{w:World}{F:Nat→Prop}{ρ:Env}{k:Nat}{x:AObj}(h:RelOb w F ρ k x):RelOb w F ρ k x.low:=by
 unfold AObj.low;split
 ·cases h with
  | na t e xs h=>exact h
 ·exact h
omit [Tabs]in
theorem l1r(s:ASt)(i:Nat):lkF s.low.fr i=(lkF s.fr i).low:=c0v AV.low rfl s.fr i
omit [Tabs]in
theorem m0w(s:ASt)(i:Nat):lkO s.low.ob i=(lkO s.ob i).low:=d0i AObj.low rfl s.ob i
theorem Rel.low{N:Nat}{F:Nat→Prop}{ρ:Env}{s:ASt}{a:Act}{w:World}(h:Rel N F ρ s a w):Rel N F ρ s.low a w:=
 ⟨h.rw,fun i=>by rw [l1r];exact(h.fr i).low,fun k=>by rw [m0w];exact(h.ob k).low,h.sz,h.df⟩
omit [Tabs]in
theorem c0j(s:ASt)(x:Operand):ev s.low.fr x=(ev s.fr x).low:=by
 cases x with
 | tmp t=>exact l1r s t
 | const v=>
  simp only [ev];cases v.oneCell' <;>rfl
 | global g=>rfl
 | func f=>rfl
omit [Tabs]in
theorem q1q(x:AV):j0u x.low=j0u x:=by
 unfold AV.low;split
 ·rename_i y
  cases y<;>rfl
 ·rfl
omit [Tabs]in
theorem c0r(ops:Array Oper)(s:ASt)(i:Nat):opK ops s.low.fr i=opK ops s.fr i:=by
 unfold opK;cases ops[i]? with
 | none=>rfl
 | some o=>
  dsimp only;cases o.guard with
  | none=>rfl
  | some p=>
   obtain⟨j,want⟩:=p;dsimp only;cases q0k ops j with
   | none=>rfl
   | some g=>
    dsimp only;rw [l1r,q1q]
section
variable{P:Program}{N:Nat}{ops:Array Oper}{Q:Exit→ASt→Prop}{st st' :ASt}{l:List Nat}
theorem IEff.ofLow{i:Nat}{e:Eff}(h:IEff P N ops i st.low e):IEff P N ops i st e:= .frame (fun _ _ _ _ hr=>hr.low) h
theorem IEff.indexN{i d:Nat}{t ty te:TypeId}{x ix:Operand}{pos:String}{after:Array Edge}{guard:Option (Nat×Bool)}{τ:Ev.Ty}{xs:List τ.den}{y:τ.den}{kk:IntKind}{j:Int}
  (ho:opK ops st.fr i=some ⟨some d, .indexAddr t x ix,ty,pos,after,guard⟩)(hx:ev st.fr x= .cell (.d (.nl τ xs)))(hi:ev st.fr ix= .cell (.d (.sc (.int kk j))))
  (ht:d0m P t=some (te,τ.sz))(hd:Nat.blt d N=true)(h0:0≤j)(hy:xs[j.toNat]? =some y):
  IEff P N ops i st (.put d (.cell (.d (.rp (cells τ y))))):=by
 have hlt:=(k2a.1 hy).1;exact .ofLow (.index (by rw [c0r];exact ho) (by rw [c0j,hx];rfl) (by rw [c0j,hi];rfl) ht hd h0 (by omega) (j1c τ hy))
theorem Rel.put_nl{F:Nat→Prop}{ρ:Env}{a:Act}{w:World}{d n e:Nat}{cs:List D}(τ:Ev.Ty)(xs:List τ.den)(he:e=τ.sz)(hn:n=xs.length)(hc:cs=flat τ xs)
  (hr:Rel N F ρ ((Eff.put d (.cell (.d (.sl e n cs)))).app st) a w):Rel N F ρ ((Eff.put d (.cell (.d (.nl τ xs)))).app st) a w:=by
 subst he;subst hn;subst hc;refine⟨hr.rw,fun j=> ?_,hr.ob,hr.sz,hr.df⟩;have hj:=hr.fr j;simp only [Eff.app,ASt.put]at hj⊢;by_cases e:j=d
 ·subst e
  rw [e0p]at hj⊢;exact .cell _ _ (.d _ _ (.nl _ _ _ (a0x hj)))
 ·rw [d0p _ _ _ _ e]at hj⊢
  exact hj
theorem IEff.put_nl{i d n e:Nat}{cs:List D}(τ:Ev.Ty)(xs:List τ.den)(he:e=τ.sz)(hn:n=xs.length)(hc:cs=flat τ xs)(h:IEff P N ops i st (.put d (.cell (.d (.sl e n cs))))):
  IEff P N ops i st (.put d (.cell (.d (.nl τ xs)))):=
 IEff.conv (e:= .put d (.cell (.d (.sl e n cs)))) rfl rfl rfl (fun _ _ _ _ hr=>hr.put_nl τ xs he hn hc) h
theorem IEff.sliceN{i d:Nat}{t ty te:TypeId}{x:Operand}{lo hi:Option Operand}{pos:String}{after:Array Edge}{guard:Option (Nat×Bool)}{τ:Ev.Ty}{xs:List τ.den}{p q:Int}
  (ho:opK ops st.fr i=some ⟨some d, .slice t x lo hi none,ty,pos,after,guard⟩)(hx:ev st.fr x= .cell (.d (.nl τ xs)))(ht:d0m P t=some (te,τ.sz))
  (hl:bndV st.fr lo 0=some p)(hh:bndV st.fr hi xs.length=some q)(hd:Nat.blt d N=true)(h0:0≤p)(h1:p≤q)(h2:q≤xs.length):
  IEff P N ops i st (.put d (.cell (.d (.nl τ ((xs.drop p.toNat).take (q - p).toNat))))):=by
 have hbl: ∀(o:Option Operand) (z:Int),bndV st.low.fr o z=bndV st.fr o z:=by
  intro o z;cases o with
  | none=>rfl
  | some y=>
   simp only [bndV,c0j];generalize ev st.fr y=v;cases v with
   | cell c=>cases c with
    | d u=>cases u<;>rfl
    | _=>rfl
   | _=>rfl
 have h:=IEff.slice (P:=P) (N:=N) (st:=st.low) (es:=flat τ ((xs.drop p.toNat).take (q - p).toNat)) (by rw [c0r];exact ho) (by rw [c0j,hx];rfl) ht (by rw [hbl];exact hl) (by rw [hbl];exact hh) hd h0 h1 h2 rfl (by rw [e0w,h0e]);exact(IEff.ofLow h).put_nl τ _ rfl (by simp;omega) rfl
def d0w(s:ByteArray):List Int:=s.data.toList.map fun c=>(c.toNat:Int)
omit [Tabs]in
theorem q0e(s:ByteArray):flat .u8 (d0w s)=e0o s.data.toList:=by
 simp only [flat,d0w,e0o]
 induction s.data.toList with
 | nil=>rfl
 | cons c r ih=>
  simp only [k2l,k2n,ih];rfl
def p0h:List Int→Bool
 | []=>true
 | n::r=>decide (0≤n∧n<256)&&p0h r
def strI(l:List Int):ByteArray:=⟨(l.map fun n=>UInt8.ofNat n.toNat).toArray⟩
omit [Tabs]in
theorem r0k: ∀{l:List Int},p0h l=true→flat .u8 l=e0o (l.map fun n=>UInt8.ofNat n.toNat)
 | [],_=>rfl
 | n::r,h=>by
  simp only [p0h,j2s,decide_eq_true_eq]at h;have ih:=r0k h.2;simp only [flat,k2n,e0o,k2l]at ih⊢;rw [ih];have:((UInt8.ofNat n.toNat).toNat:Int)=n:=by
   rw [UInt8.toNat_ofNat_of_lt' (by show _<256;omega)];omega
  simp only [cells,b0r,iC,List.cons_append,l2j,this]
theorem IEff.bytesOfN{i d:Nat}{src dst ty:TypeId}{x:Operand}{pos:String}{after:Array Edge}{guard:Option (Nat×Bool)}{s:ByteArray}
  (ho:opK ops st.fr i=some ⟨some d, .convert src dst x,ty,pos,after,guard⟩)(hx:ev st.fr x= .cell (.d (.sc (.string s))))(hs:P.underlying src=some .string)(ht:d0c P dst=true)(hd:Nat.blt d N=true):
  IEff P N ops i st (.put d (.cell (.d (.nl .u8 (d0w s))))):=by
 exact(IEff.bytesOf (P:=P) ho hx hs ht hd).put_nl .u8 (d0w s) rfl (by simp [d0w]) (q0e s).symm
theorem IEff.ofBytesN{i d:Nat}{src dst ty:TypeId}{x:Operand}{pos:String}{after:Array Edge}{guard:Option (Nat×Bool)}{l:List Int}
  (ho:opK ops st.fr i=some ⟨some d, .convert src dst x,ty,pos,after,guard⟩)(hx:ev st.fr x= .cell (.d (.nl .u8 l)))(ht:P.underlying dst=some .string)(hs:d0c P src=true)(hd:Nat.blt d N=true)(hl:p0h l=true):
  IEff P N ops i st (.put d (.cell (.d (.sc (.string (strI l)))))):=
 .ofLow (.ofBytes (by rw [c0r];exact ho) (by rw [c0j,hx];rfl) hs ht hd (b:=l.map fun n=>UInt8.ofNat n.toNat) (by simp) (r0k hl) rfl)
end
def dle(x y:D):Prop:=∀w F v,RelD w F x v→RelD w F y v
omit [Tabs]in
theorem dle.refl(x:D):dle x x:=fun _ _ _ h=>h
def dsle:List D→List D→Prop
 | [], []=>True
 | x::r,y::s=>dle x y∧dsle r s
 | _,_=>False
omit [Tabs]in
theorem dsle.refl: ∀l:List D,dsle l l
 | []=>trivial
 | x::r=>⟨.refl x, .refl r⟩
omit [Tabs]in
theorem dsle.append: ∀{a b c d:List D},dsle a b→dsle c d→dsle (a++c) (b++d)
 | [], [],_,_,_,h=>h
 | x::r,y::s,_,_,h,k=>⟨h.1,dsle.append h.2 k⟩
 | [],_::_,_,_,h,_=>h.elim
 | _::_, [],_,_,h,_=>h.elim
omit [Tabs]in
theorem dsle.length: ∀{a b:List D},dsle a b→a.length=b.length
 | [], [],_=>rfl
 | x::r,y::s,h=>by simp [dsle.length h.2]
 | [],_::_,h=>h.elim
 | _::_, [],h=>h.elim
omit [Tabs]in
theorem dsle.get: ∀{a b:List D},dsle a b→∀i (h1:i<a.length) (h2:i<b.length),dle a[i] b[i]
 | x::r,y::s,h,0,_,_=>h.1
 | x::r,y::s,h,i+1,h1,h2=>dsle.get h.2 i (by simpa using h1) (by simpa using h2)
 | [], [],_,i,h1,_=>by simp at h1
 | [],_::_,h,_,_,_=>h.elim
 | _::_, [],h,_,_,_=>h.elim
def u1e:IntKind→IntKind→Bool
 | .i64, .i64 | .u8, .u8 | .u32, .u32 | .u64, .u64 | .i32, .i32=>true
 | _,_=>false
omit [Tabs]in
theorem s1y{a b:IntKind}(h:u1e a b=true):a=b:=by
 cases a<;>cases b<;>first | rfl | (simp [u1e]at h)
def rI(k:IntKind):D→Option Int
 | .sc (.int k' n)=>bif u1e k' k then some n else none
 | _=>none
def rB:D→Option Bool
 | .sc (.bool b)=>some b
 | _=>none
def rS:D→Option ByteArray
 | .sc (.string s)=>some s
 | _=>none
def rL(t:Ev.Ty):D→Option (List t.den)
 | .nl t' xs=>Ev.castL t' t xs
 | .sc (.slice none 0 0)=>some []
 | _=>none
def rM(kt vt:Ev.Ty):D→Option (List (kt.den×vt.den))
 | .nm k v l=>Ev.castM k kt v vt l
 | .sc (.map none)=>some []
 | _=>none
omit [Tabs]in
theorem d2y{kt vt:Ev.Ty}{x:D}{l:List (kt.den×vt.den)}(h:rM kt vt x=some l):dle x (.nm kt vt l):=by
 unfold rM at h;split at h
 ·obtain⟨e1,e2,rfl⟩:=Ev.castM_eq h
  subst e1;subst e2;exact .refl _
 ·cases h
  intro w F v hv;cases hv with
  | sc _ _=>exact .nm0 _ _
 ·cases h
omit [Tabs]in
theorem c0x{k:IntKind}{x:D}{n:Int}(h:rI k x=some n):dle x (iC k n):=by
 unfold rI at h;split at h
 ·rename_i k' m
  cases hb:u1e k' k with
  | false=>rw [hb]at h;cases h
  | true=>
   rw [hb]at h;cases h;rw [s1y hb];exact .refl _
 ·cases h
omit [Tabs]in
theorem i1d{x:D}{b:Bool}(h:rB x=some b):dle x (bC b):=by
 unfold rB at h;split at h
 ·cases h;exact .refl _
 ·cases h
omit [Tabs]in
theorem e0q{x:D}{b:ByteArray}(h:rS x=some b):dle x (sC b):=by
 unfold rS at h;split at h
 ·cases h;exact .refl _
 ·cases h
omit [Tabs]in
theorem b2i(t:Ev.Ty):dle (.sc (.slice none 0 0)) (.nl t []):=by
 intro w F v h;generalize hx:D.sc (.slice none 0 0)=x at h;cases h with
 | sc v h=>cases hx;exact .nl _ _ _ (.nil _ none 0)
 | _=>cases hx
omit [Tabs]in
theorem c0h{t:Ev.Ty}{x:D}{l:List t.den}(h:rL t x=some l):dle x (.nl t l):=by
 unfold rL at h;split at h
 ·obtain⟨e,rfl⟩:=Ev.castL_eq h
  subst e;exact .refl _
 ·cases h
  exact b2i t
 ·cases h
open Ev in
def rVal:List D→Option Val
 | [a,b,c,d]=>(rI .i64 a).bind fun k=>(rI .i64 b).bind fun n=>(rS c).bind fun s=>(rL .val d).bind fun l=>some (.mk k n s l)
 | _=>none
omit [Tabs]in
open Ev in
theorem p0g{cs:List D}{v:Val}(h:rVal cs=some v):dsle cs (cVal v):=by
 unfold rVal at h;split at h
 ·simp only [j2w,j2v]at h
  obtain⟨k,h1,n,h2,s,h3,l,h4,rfl⟩:=h;exact⟨c0x h1,c0x h2,e0q h3,c0h h4,trivial⟩
 ·cases h
open Ev in
def o1y:List D→Option Term
 | [a,b,c,d,e,f,g]=>(rI .i64 a).bind fun k=>(rVal [b,c,d,e]).bind fun v=>(rS f).bind fun s=>(rL .term g).bind fun l=>some (.mk k v s l)
 | _=>none
omit [Tabs]in
open Ev in
theorem u0w{cs:List D}{v:Term}(h:o1y cs=some v):dsle cs (v1e v):=by
 unfold o1y at h;split at h
 ·simp only [j2w,j2v]at h
  obtain⟨k,h1,n,h2,s,h3,l,h4,rfl⟩:=h;have:=p0g h2;exact⟨c0x h1,this.1,this.2.1,this.2.2.1,this.2.2.2.1,e0q h3,c0h h4,trivial⟩
 ·cases h
open Ev in
def z0f:List D→Option Graph
 | [a,b,c]=>(rL .node a).bind fun n=>(rL .edg b).bind fun e=>(rI .i64 c).bind fun k=>some ⟨n,e,k⟩
 | _=>none
omit [Tabs]in
open Ev in
theorem p0r{cs:List D}{v:Graph}(h:z0f cs=some v):dsle cs (r0t v):=by
 unfold z0f at h;split at h
 ·simp only [j2w,j2v]at h
  obtain⟨n,h1,e,h2,k,h3,rfl⟩:=h;exact⟨c0h h1,c0h h2,c0x h3,trivial⟩
 ·cases h
open Ev in
def d1s:List D→Option Query
 | [a,b,c,d,e]=>(rL .dot a).bind fun x1=>(rL .arrow b).bind fun x2=>(rL .term c).bind fun x3=>(rL .item d).bind fun x4=>(rB e).bind fun x5=>some ⟨x1,x2,x3,x4,x5⟩
 | _=>none
omit [Tabs]in
open Ev in
theorem y0z{cs:List D}{v:Query}(h:d1s cs=some v):dsle cs (r1d v):=by
 unfold d1s at h;split at h
 ·simp only [j2w,j2v]at h
  obtain⟨x1,h1,x2,h2,x3,h3,x4,h4,x5,h5,rfl⟩:=h;exact⟨c0h h1,c0h h2,c0h h3,c0h h4,i1d h5,trivial⟩
 ·cases h
open Ev in
def e1y:List D→Option Store
 | [a,b,c,d,e,f,g,h]=>(z0f [a,b,c]).bind fun x1=>(rI .i64 d).bind fun x2=>(rS e).bind fun x3=>(rS f).bind fun x4=>(rS g).bind fun x5=>(rL .str h).bind fun x6=>some ⟨x1,x2,⟨x3,x4⟩,x5,x6⟩
 | _=>none
omit [Tabs]in
open Ev in
theorem w0j{cs:List D}{v:Store}(h:e1y cs=some v):dsle cs (q1w v):=by
 unfold e1y at h;split at h
 ·simp only [j2w,j2v]at h
  obtain⟨x1,h1,x2,h2,x3,h3,x4,h4,x5,h5,x6,h6,rfl⟩:=h;have:=p0r h1;exact⟨this.1,this.2.1,this.2.2.1,c0x h2,e0q h3,e0q h4,e0q h5,c0h h6,trivial⟩
 ·cases h
open Ev in
def rd0:(t:Ty)→List D→Option t.den
 | .i64, [x]=>rI .i64 x | .u8, [x]=>rI .u8 x | .u32, [x]=>rI .u32 x | .u64, [x]=>rI .u64 x | .i32, [x]=>rI .i32 x
 | .bool, [x]=>rB x | .str, [x]=>rS x
 | .lst t, [x]=>rL t x
 | .val,cs=>rVal cs
 | .prp,a::cs=>(rS a).bind fun s=>(rVal cs).bind fun v=>some ⟨s,v⟩
 | .node, [a,b,c]=>(rI .i64 a).bind fun i=>(rL .str b).bind fun l=>(rL .prp c).bind fun p=>some ⟨i,l,p⟩
 | .edg, [a,b,c,d,e]=>(rI .i64 a).bind fun x1=>(rI .i64 b).bind fun x2=>(rI .i64 c).bind fun x3=>(rS d).bind fun x4=>(rL .prp e).bind fun x5=>some ⟨x1,x2,x3,x4,x5⟩
 | .graph,cs=>z0f cs
 | .opn, [a,b,c,d,e,f,g,h,i,j,k]=>(rI .i64 a).bind fun x1=>(rI .i64 b).bind fun x2=>(rI .i64 c).bind fun x3=>(rI .i64 d).bind fun x4=>(rS e).bind fun x5=>(rVal [f,g,h,i]).bind fun x6=>(rL .str j).bind fun x7=>(rL .prp k).bind fun x8=>some ⟨x1,x2,x3,x4,x5,x6,x7,x8⟩
 | .delta, [a,b,c,d,e,f]=>(rL .node a).bind fun x1=>(rL .node b).bind fun x2=>(rL .edg c).bind fun x3=>(rL .edg d).bind fun x4=>(rI .i64 e).bind fun x5=>(rI .i64 f).bind fun x6=>some ⟨x1,x2,x3,x4,x5,x6⟩
 | .term,cs=>o1y cs
 | .dot, [a,b]=>(rS a).bind fun x1=>(rS b).bind fun x2=>some ⟨x1,x2⟩
 | .arrow, [a,b,c,d]=>(rS a).bind fun x1=>(rS b).bind fun x2=>(rB c).bind fun x3=>(rB d).bind fun x4=>some ⟨x1,x2,x3,x4⟩
 | .item,a::b::cs=>(rS a).bind fun x1=>(rS b).bind fun x2=>(o1y cs).bind fun x3=>some ⟨x1,x2,x3⟩
 | .query,cs=>d1s cs
 | .cnt, [a,b]=>(rL .val a).bind fun x1=>(rI .i64 b).bind fun x2=>some ⟨x1,x2⟩
 | .hold, [a,b,c,d,e,f]=>(d1s [a,b,c,d,e]).bind fun x1=>(rL (.lst .i64) f).bind fun x2=>some ⟨x1,x2⟩
 | .plan, [a,b,c1,c2,c3,c4,c5,c6,c7,d]=>(rI .i64 a).bind fun x1=>(rI .i64 b).bind fun x2=>(o1y [c1,c2,c3,c4,c5,c6,c7]).bind fun x3=>(rL .plan d).bind fun x4=>some (.mk x1 x2 x3 x4)
 | .entry, [a,b,c,d,e,f,g]=>(rS a).bind fun x1=>(rS b).bind fun x2=>(rVal [c,d,e,f]).bind fun x3=>(rL .i64 g).bind fun x4=>some ⟨x1,x2,x3,x4⟩
 | .disk, [a,b]=>(rS a).bind fun x1=>(rS b).bind fun x2=>some ⟨x1,x2⟩
 | .store,cs=>e1y cs
 | .guest, [a,b,c,d]=>(rI .i64 a).bind fun x1=>(rL (.lst .cnt) b).bind fun x2=>(rB c).bind fun x3=>(rI .i64 d).bind fun x4=>some ⟨x1,x2,x3,x4⟩
 | .desk, [a,b,c,d,e,f,g,h,i,j]=>(e1y [a,b,c,d,e,f,g,h]).bind fun x1=>(rL .hold i).bind fun x2=>(rL .guest j).bind fun x3=>some ⟨x1,x2,x3⟩
 | .answer, [a,b,c,d,e]=>(rI .i64 a).bind fun x1=>(rI .i64 b).bind fun x2=>(rL .i64 c).bind fun x3=>(rL .cnt d).bind fun x4=>(rB e).bind fun x5=>some ⟨x1,x2,x3,x4,x5⟩
 | .grant, [a,b]=>(rS a).bind fun x1=>(rL .str b).bind fun x2=>some ⟨x1,x2⟩
 | .request, [a,b,c,d]=>(rI .i64 a).bind fun x1=>(rL .opn b).bind fun x2=>(rS c).bind fun x3=>(rI .i64 d).bind fun x4=>some ⟨x1,x2,x3,x4⟩
 | .pair, [a,b]=>(rI .i64 a).bind fun x1=>(rI .i64 b).bind fun x2=>some ⟨x1,x2⟩
 | .map k v, [x]=>rM k v x
 | .envr, [a,b,c,d]=>(z0f [a,b,c]).bind fun x1=>(rM .str .i64 d).bind fun x2=>some ⟨x1,x2⟩
 | _,_=>none
omit [Tabs]in
theorem w0b{t:Ev.Ty}{cs:List D}{x:t.den}(h:rd0 t cs=some x):dsle cs (b0r t x):=by
 unfold rd0 at h;split at h
 all_goals first
  | exact⟨c0x h,trivial⟩
  | exact⟨i1d h,trivial⟩
  | exact⟨e0q h,trivial⟩
  | exact⟨c0h h,trivial⟩
  | exact⟨d2y h,trivial⟩
  | exact p0g h
  | exact p0r h
  | exact u0w h
  | exact y0z h
  | exact w0j h
  | cases h
  | skip
 all_goals simp only [j2w,j2v]at h
 ·obtain⟨s,h1,v,h2,rfl⟩:=h;exact⟨e0q h1,p0g h2⟩
 ·obtain⟨s,h1,v,h2,q,h3,rfl⟩:=h;exact⟨c0x h1,c0h h2,c0h h3,trivial⟩
 ·obtain⟨s,h1,v,h2,q,h3,x4,h4,x5,h5,rfl⟩:=h;exact⟨c0x h1,c0x h2,c0x h3,e0q h4,c0h h5,trivial⟩
 ·obtain⟨s,h1,v,h2,q,h3,x4,h4,x5,h5,x6,h6,x7,h7,x8,h8,rfl⟩:=h
  have:=p0g h6;exact⟨c0x h1,c0x h2,c0x h3,c0x h4,e0q h5,this.1,this.2.1,this.2.2.1,this.2.2.2.1,c0h h7,c0h h8,trivial⟩
 ·obtain⟨s,h1,v,h2,q,h3,x4,h4,x5,h5,x6,h6,rfl⟩:=h;exact⟨c0h h1,c0h h2,c0h h3,c0h h4,c0x h5,c0x h6,trivial⟩
 ·obtain⟨s,h1,v,h2,rfl⟩:=h;exact⟨e0q h1,e0q h2,trivial⟩
 ·obtain⟨s,h1,v,h2,q,h3,x4,h4,rfl⟩:=h;exact⟨e0q h1,e0q h2,i1d h3,i1d h4,trivial⟩
 ·obtain⟨s,h1,v,h2,q,h3,rfl⟩:=h;exact⟨e0q h1,e0q h2,u0w h3⟩
 ·obtain⟨s,h1,v,h2,rfl⟩:=h;exact⟨c0h h1,c0x h2,trivial⟩
 ·obtain⟨s,h1,v,h2,rfl⟩:=h
  have:=y0z h1;exact⟨this.1,this.2.1,this.2.2.1,this.2.2.2.1,this.2.2.2.2.1,c0h h2,trivial⟩
 ·obtain⟨s,h1,v,h2,q,h3,x4,h4,rfl⟩:=h
  have:=u0w h3;exact⟨c0x h1,c0x h2,this.1,this.2.1,this.2.2.1,this.2.2.2.1,this.2.2.2.2.1,this.2.2.2.2.2.1,this.2.2.2.2.2.2.1,c0h h4,trivial⟩
 ·obtain⟨s,h1,v,h2,q,h3,x4,h4,rfl⟩:=h
  have:=p0g h3;exact⟨e0q h1,e0q h2,this.1,this.2.1,this.2.2.1,this.2.2.2.1,c0h h4,trivial⟩
 ·obtain⟨s,h1,v,h2,rfl⟩:=h;exact⟨e0q h1,e0q h2,trivial⟩
 ·obtain⟨s,h1,v,h2,q,h3,x4,h4,rfl⟩:=h;exact⟨c0x h1,c0h h2,i1d h3,c0x h4,trivial⟩
 ·obtain⟨s,h1,v,h2,q,h3,rfl⟩:=h
  have:=w0j h1;exact⟨this.1,this.2.1,this.2.2.1,this.2.2.2.1,this.2.2.2.2.1,this.2.2.2.2.2.1,this.2.2.2.2.2.2.1,this.2.2.2.2.2.2.2.1,c0h h2,c0h h3,trivial⟩
 ·obtain⟨s,h1,v,h2,q,h3,x4,h4,x5,h5,rfl⟩:=h;exact⟨c0x h1,c0x h2,c0h h3,c0h h4,i1d h5,trivial⟩
 ·obtain⟨s,h1,v,h2,rfl⟩:=h;exact⟨e0q h1,c0h h2,trivial⟩
 ·obtain⟨s,h1,v,h2,q,h3,x4,h4,rfl⟩:=h;exact⟨c0x h1,c0h h2,e0q h3,c0x h4,trivial⟩
 ·obtain⟨s,h1,v,h2,rfl⟩:=h;exact⟨c0x h1,c0x h2,trivial⟩
 ·obtain⟨s,h1,v,h2,rfl⟩:=h
  have:=p0r h1;exact⟨this.1,this.2.1,this.2.2.1,d2y h2,trivial⟩
omit [Tabs]in
theorem k1d{cs ds:List D}(h:dsle cs ds):dle (.rp cs) (.rp ds):=by
 intro w F v hv;generalize hx:D.rp cs=x at hv;cases hv with
 | rp cs' b off c hF hc hr=>
  cases hx;exact .rp _ b off c (fun h2=>hF fun e=>h2 (k2q (by rw [←h.length,e];rfl))) (fun i hi=>hc i (by rw [h.length];exact hi)) fun i hi=>h.get i (by rw [h.length];exact hi) hi _ _ _ (hr i (by rw [h.length];exact hi))
 | _=>cases hx
def rdP(t:Ev.Ty):List D→Option t.den
 | [.rp cs]=>rd0 t cs
 | _=>none
def rd2(t:Ev.Ty)(cs:List D):Option (t.den×t.den):=(rd0 t (cs.take t.sz0)).bind fun x=>(rd0 t (cs.drop t.sz0)).bind fun y=>some (x,y)
open Ev in
def rd:(t:Ty)→List D→Option t.den
 | .ptr t=>rdP t
 | .two t=>rd2 t
 | t=>rd0 t
omit [Tabs]in
theorem i2u{t:Ev.Ty}(h: ∀u,t≠ .ptr u)(h2: ∀u,t≠ .two u):rd t=rd0 t:=by cases t<;>first | rfl | exact absurd rfl (h _) | exact absurd rfl (h2 _)
omit [Tabs]in
theorem v1g{t:Ev.Ty}(h: ∀u,t≠ .ptr u)(h2: ∀u,t≠ .two u):cells t=b0r t:=by cases t<;>first | rfl | exact absurd rfl (h _) | exact absurd rfl (h2 _)
omit [Tabs]in
theorem t0c{t:Ev.Ty}{cs:List D}{x:t.den}(h:rd t cs=some x):dsle cs (cells t x):=by
 by_cases hp: ∃u,t= .ptr u
 ·obtain⟨u,rfl⟩:=hp
  have h' :rdP u cs=some x:=h;unfold rdP at h';split at h'
  ·exact⟨k1d (w0b h'),trivial⟩
  ·cases h'
 ·by_cases h2: ∃u,t= .two u
  ·obtain⟨u,rfl⟩:=h2
   have h' :rd2 u cs=some x:=h;unfold rd2 at h';simp only [j2w,j2v]at h';obtain⟨a,h3,b,h4,rfl⟩:=h';show dsle cs (b0r u a++b0r u b);rw [←List.take_append_drop u.sz0 cs];exact(w0b h3).append (w0b h4)
  ·rw [i2u (fun u e=>hp ⟨u,e⟩) (fun u e=>h2 ⟨u,e⟩)]at h
   rw [v1g (fun u e=>hp ⟨u,e⟩) (fun u e=>h2 ⟨u,e⟩)];exact w0b h
def rds(t:Ev.Ty):Nat→List D→Option (List t.den)
 | 0, []=>some []
 | n+1,cs=>(rd t (cs.take t.sz)).bind fun x=>(rds t n (cs.drop t.sz)).bind fun r=>some (x::r)
 | _,_=>none
omit [Tabs]in
theorem j1q{t:Ev.Ty}: ∀{n:Nat} {cs:List D} {xs:List t.den},rds t n cs=some xs→xs.length=n∧dsle cs (flat t xs)
 | 0, [],xs,h=>by cases h;exact⟨rfl,trivial⟩
 | 0,_::_,xs,h=>by cases h
 | n+1,cs,xs,h=>by
  simp only [rds,j2w,j2v]at h;obtain⟨x,h1,r,h2,rfl⟩:=h;obtain⟨i1,i2⟩:=j1q h2;refine⟨by simp [i1], ?_⟩;rw [←List.take_append_drop t.sz cs];simp only [flat,k2n];exact(t0c h1).append i2
end Esp
namespace Esp
open Go
set_option linter.unusedSimpArgs false
set_option linter.unusedVariables false
variable [Tabs]
def AC.bor(ob:List (Nat×AObj)):Nat→AC→AC
 | _, .own k=>match lkO ob k with
  | .na _ τ xs=> .d (.nl τ xs)
  | _=> .own k
 | _, .mpr k=>match lkO ob k with
  | .mp _ kt vt l _=> .d (.nm kt vt l)
  | _=> .mpr k
 | n+1, .ptr k off=>match lkO ob k with
  | .box cs _=>match allD (cs.map (AC.bor ob n))with
   | some ds=> .d (.rp (ds.drop off))
   | none=> .ptr k off
  | _=> .ptr k off
 | _,c=>c
def AV.bor(ob:List (Nat×AObj)):AV→AV
 | .cell c=> .cell (c.bor ob 3)
 | .agg cs=>match allD (cs.map (AC.bor ob 3))with
  | some ds=> .aggD ds
  | none=> .agg cs
 | x=>x
def borL(ob:List (Nat×AObj))(l:List AV):List AV:=l.map (AV.bor ob)
def u1p:AV→Bool
 | .cell (.d (.sc _))=>true
 | .cell (.d (.rp []))=>true
 | _=>false
def z0j:AV→AV
 | .cell (.d (.rp _))=> .cell (.d (.rp []))
 | x=>x
def AV.scal:AV→Bool
 | .tup vs=>vs.all u1p
 | x=>u1p x
omit [Tabs]in
theorem y0c{w w' :World}{F F' :Nat→Prop}{ρ ρ' :Env}{tm tm' :Array Value}{x:AV}{v:Value}(hx:u1p x=true)(h:RelAV w F ρ tm x v):RelAV w' F' ρ' tm' x v:=by
 unfold u1p at hx;split at hx
 ·rename_i u
  have h1:=a0x h;generalize hy:D.sc u=y at h1;cases h1 with
  | sc v hv=>cases hy;exact .cell _ _ (.d _ _ (.sc _ hv))
  | _=>cases hy
 ·have h1:=a0x h
  generalize hy:D.rp []=y at h1;cases h1 with
  | rp cs b off c hF hc hr=>cases hy;exact .cell _ _ (.d _ _ (.rp [] b off c (fun h=>absurd rfl h) (fun i hi=>by simp at hi) fun i hi=>by simp at hi))
  | _=>cases hy
 ·cases hx
omit [Tabs]in
theorem v1v{w w' :World}{F F' :Nat→Prop}{ρ ρ' :Env}{tm tm' :Array Value}{x:AV}{v:Value}(hx:x.scal=true)(h:RelAV w F ρ tm x v):RelAV w' F' ρ' tm' x v:=by
 unfold AV.scal at hx;split at hx
 ·cases h with
  | tup vs arr hs hh=>exact .tup _ arr hs fun i hi=>y0c (k2f.1 hx _ (l2p hi)) (hh i hi)
 ·exact y0c hx h
omit [Tabs]in
theorem l1v{w:World}{F:Nat→Prop}{ρ:Env}{tm:Array Value}{x:AV}{v:Value}(h:RelAV w F ρ tm x v):RelAV w F ρ tm (z0j x) v:=by
 unfold z0j;split
 ·rename_i cs
  have h1:=a0x h;generalize hy:D.rp cs=y at h1;cases h1 with
  | rp cs b off c hF hc hr=>exact .cell _ _ (.d _ _ (.rp [] b off c (fun h=>absurd rfl h) (fun i hi=>by simp at hi) fun i hi=>by simp at hi))
  | _=>cases hy
 ·exact h
section
variable{P:Program}{N:Nat}{ops:Array Oper}{st:ASt}
omit [Tabs]in
theorem w1x{F:Nat→Prop}{ρ:Env}{w:World}{ob:List (Nat×AObj)}(hob: ∀k,RelOb w F ρ k (lkO ob k)): ∀(n:Nat) {c:AC} {v:Value},RelAC w F ρ c v→RelAC w (fun b=>F b∨live ρ b) ρ (c.bor ob n) v:=by
 have own: ∀(n k:Nat) (v:Value),RelAC w F ρ (.own k) v→RelAC w (fun b=>F b∨live ρ b) ρ (AC.bor ob n (.own k)) v:=by
  intro n k v h;have hm:RelAC w (fun b=>F b∨live ρ b) ρ (.own k) v:=h.mono (fun _ _=>rfl) (fun b hb=> .inl hb) fun _ _ h=>h;cases n<;>
  ·simp only [AC.bor]
   split
   ·rename_i te τ xs hk
    have ho:=hob k;rw [hk]at ho;cases ho with
    | na _ _ _ ho=>
     generalize hn:xs.length=n at ho;generalize hcs:flat τ xs=cs at ho;cases ho with
     | arr t e n cs u ys hu ho hz hh=>
      have hv:v=u:=by
       cases h with
       | own k v h=>exact h u hu
      subst hv;subst hn;subst hcs;exact .d _ _ (.nl _ _ _ (m0e ho hz hh (fun b hb=> .inl hb) fun b hb=> .inr ⟨k,_,hu,hb⟩))
   ·exact hm
 have mpr: ∀(n k:Nat) (v:Value),RelAC w F ρ (.mpr k) v→RelAC w (fun b=>F b∨live ρ b) ρ (AC.bor ob n (.mpr k)) v:=by
  intro n k v h;have hm:RelAC w (fun b=>F b∨live ρ b) ρ (.mpr k) v:=h.mono (fun _ _=>rfl) (fun b hb=> .inl hb) fun _ _ h=>h;cases n<;>
  ·simp only [AC.bor]
   split
   ·rename_i te kt vt l dn hk
    have ho:=hob k;rw [hk]at ho;cases ho with
    | mp _ _ _ _ b es clock hkk hb hs hh _ hdd=>
     have hv:v= .map (some b):=by
      cases h with
      | mpr k v h=>exact h b hkk
     subst hv;exact .d _ _ (a1h (.inr ⟨k,_,hkk,rfl⟩) hb hs (fun i h1 h2=>⟨(hh i h1 h2).1.mono (fun _ _=>rfl) fun b hb=> .inl hb,(hh i h1 h2).2.mono (fun _ _=>rfl) fun b hb=> .inl hb⟩) hdd.2)
   ·exact hm
 intro n
 induction n with
 | zero=>
  intro c v h;have hm:RelAC w (fun b=>F b∨live ρ b) ρ c v:=h.mono (fun _ _=>rfl) (fun b hb=> .inl hb) fun _ _ h=>h;cases c with
  | own k=>exact own 0 k v h
  | mpr k=>exact mpr 0 k v h
  | _=>exact hm
 | succ n ih=>
  intro c v h;have hm:RelAC w (fun b=>F b∨live ρ b) ρ c v:=h.mono (fun _ _=>rfl) (fun b hb=> .inl hb) fun _ _ h=>h;cases c with
  | own k=>exact own (n+1) k v h
  | mpr k=>exact mpr (n+1) k v h
  | ptr k off=>
   simp only [AC.bor];split
   ·rename_i cs ty hk
    split
    ·rename_i ds hds
     have e:=g0v hds;have ho:=hob k;rw [hk]at ho;cases ho with
     | box _ _ b c t hoty hkk hb hs hh=>
      have hv:v= .pointer (some ⟨b,off,none⟩):=by
       cases h with
       | ptr k off v h=>exact h b hkk
      subst hv;have hl:cs.length=ds.length:=by have:=congrArg List.length e;simpa using this
      refine .d _ _ (.rp _ b off (fun i=>c.getD (off+i) undef) (fun _=> .inr ⟨k,_,hkk,rfl⟩) (fun i hi=> ?_) fun i hi=> ?_)
      ·have hi' :off+i<c.size:=by rw [k2t]at hi;omega
       simp [World.cell?,hb,hi',j2u]
      ·have hi' :off+i<cs.length:=by rw [k2t]at hi;omega
       have h1:=ih (hh (off+i) hi');have h2:AC.bor ob n cs[off+i]= .d (ds[off+i]'(by omega)):=by
        have h3:(cs.map (AC.bor ob n))[off+i]? =(ds.map AC.d)[off+i]? :=by rw [e]
        rw [l2d,l2d,j2x hi',j2x (show off+i<ds.length by omega)]at h3;simpa using h3
       rw [h2]at h1;rw [List.getElem_drop];cases h1 with
       | d x v h=>exact h
    ·exact hm
   ·exact hm
  | _=>exact hm
omit [Tabs]in
theorem k1c{F:Nat→Prop}{ρ:Env}{w:World}{tm:Array Value}{ob:List (Nat×AObj)}(hob: ∀k,RelOb w F ρ k (lkO ob k)){x:AV}{v:Value}(h:RelAV w F ρ tm x v):RelAV w (fun b=>F b∨live ρ b) ρ tm (x.bor ob) v:=by
 have hm:RelAV w (fun b=>F b∨live ρ b) ρ tm x v:=h.mono (fun _ _=>rfl) (fun b hb=> .inl hb) fun _ _ h=>h;unfold AV.bor;split
 ·cases h with
  | cell c v h=>exact .cell _ _ (w1x hob 3 h)
 ·rename_i cs
  split
  ·rename_i ds hd
   have e:=g0v hd;cases h with
   | agg cs arr hs hh=>
    have hl:cs.length=ds.length:=by have:=congrArg List.length e;simpa using this
    refine .aggD _ arr (hs.trans hl) fun i hi=> ?_;have h1:=w1x hob 3 (hh i (by omega));have h2:(cs[i]'(by omega)).bor ob 3= .d ds[i]:=by
     have h3:(cs.map (AC.bor ob 3))[i]? =(ds.map AC.d)[i]? :=by rw [e]
     rw [l2d,l2d,j2x (show i<cs.length by omega),j2x hi]at h3;simpa using h3
    rw [h2]at h1;cases h1 with
    | d x v h=>exact h
  ·exact hm
 ·exact hm
theorem IEff.borrow{i d:Nat}{c:Call}{ty:TypeId}{pos:String}{after:Array Edge}{guard:Option (Nat×Bool)}{f:FuncId}{args:List AV}{x:AV}{o2:List (Nat×AObj)}
  (ho:opK ops st.fr i=some ⟨some d, .call c,ty,pos,after,guard⟩)(hc:b0k st.fr c=some (f,args))(hf:a0p P f=true)(hz:AV.frozenL (borL st.ob args)=true)(hd:Nat.blt d N=true)
  (spec:ACalls P f (borL st.ob args) [] (fun r o=>r= .ret x∧o=o2))(hx:(z0j x).scal=true):IEff P N ops i st (.put d (z0j x)):=by
 intro F ρ a w hr K R kk;obtain⟨e,hw⟩:=b0c hr ho;obtain⟨vs,hrun,hsz,hrel⟩:=c0b hr hc hf ty;simp only [wpOp,e];rw [if_pos hw];left;have hrun' :(execOp a.eval ⟨some d, .call c,ty,pos,after,guard⟩).run P w= .ok (.enter f vs) w:=hrun;simp only [Oper.wp,Oper.upon,hrun'];have h0:RelW (fun b=>F b∨live ρ b) (fun _=>none) w:=⟨(fun b _ ⟨k,l,hk,_⟩=>by cases hk),(fun b hb=>hb.elim (hr.rw.lt b) fun⟨k,l,hk,hl⟩=>(hr.ob k).lt hk hl),(fun k k' l l' b hk=>by cases hk),fun b o hb=>⟨.inl (hr.rw.tab b o hb).1,(hr.rw.tab b o hb).2⟩⟩;refine(spec _ (fun _=>none) vs w h0 (fun k=> .gone rfl) ⟨by rw [hsz];simp [borL],fun j hj=> ?_⟩).mono fun en w' ⟨F',ρ',r,ob',⟨hq,_⟩,hre,hrw,hrob,hfr⟩=> ?_
 ·have hj' :j<args.length:=by simpa [borL]using hj
  have h1:=k1c hr.ob (hrel j hj');have h2:(borL st.ob args)[j]=(args[j]).bor st.ob:=by simp [borL]
  have h3:=AV.frozenL_get hz j hj;rw [h2]at h3⊢;exact h1.frozen_any h3
 subst hq;have hnl: ∀b,¬live (fun _=>none) b:=fun b ⟨k,l,hk,_⟩=>by cases hk
 cases en with
 | returned v=>
  have hv:RelAV w' F' ρ' #[] x v:=hre;have hkeep: ∀b,b<w.heap.size→w'.heap[b]? =w.heap[b]? :=fun b hb=>hfr.keep b hb (hnl b);have hrel' :Rel N F ρ st a w' :=by
   refine⟨⟨hr.rw.dis,fun b hb=>l2s (hr.rw.lt b hb) hfr.size,hr.rw.inj,hr.rw.tab_of (fun b hb=>hkeep b (hr.rw.lt b hb)) fun _ h=>h⟩,fun j=>(hr.fr j).mono (fun b hb=>hkeep b (hr.rw.lt b hb)) (fun _ h=>h) fun _ _ h=>h,
    fun j=>(hr.ob j).through (fun b hb=>hkeep b (hr.rw.lt b hb)) (fun _ h=>h) fun l b hl hb=>hkeep b ((hr.ob j).lt hl hb),hr.sz,hr.df⟩
  have hfr' :Fr F ρ w F ρ w' :=⟨hfr.os,hfr.tape,hfr.output,hfr.size,fun _ h=>h,fun b hb _=>hkeep b hb,fun _ _ h=>h,fun _ _=>Stab.refl _ _⟩;exact kk v w' F ρ (hrel'.put d (a0j hd) (v1v hx (l1v hv))) hfr' (.none hkeep)
 | panicked chain=>exact hre.elim
 | outgrown=>exact hre.elim
def n0h(l:List AV):Bool:=l.all fun a=>match a with
 | .cell (.mpr _)=>true
 | .cell (.d _)=>true
 | .aggD _=>true
 | _=>false
def x0e:Ev.Ty→Bool
 | .i64=>true | .u8=>true | .u32=>true | .u64=>true | .i32=>true | .bool=>true | .str=>true | .pair=>true
 | _=>false
def g1y:AV→Bool
 | .cell (.d (.nl τ _))=>x0e τ
 | _=>false
def g1z(cargs:List AV)(x:AV)(o2:List (Nat×AObj)):Option AV:=bif (z0j x).scal then some (z0j x)else bif n0h cargs&&g1y x then some x else
 match x,o2 with
 | .cell (.own k), [(k2, .na _ τ xs)]=>bif Nat.beq k k2&&x0e τ then some (.cell (.d (.nl τ xs)))else none
 | _,_=>none
omit [Tabs]in
theorem b1a{τ:Ev.Ty}(h:x0e τ=true)(x:τ.den): ∀c∈cells τ x,∃v,c= .sc v:=by
 cases τ<;>first | (cases h;done) | (intro c hc;simp only [cells,b0r,k2b,l2g,or_false]at hc;first | (obtain rfl:=hc;exact⟨_,rfl⟩) | (rcases hc with rfl | rfl<;>exact⟨_,rfl⟩))
omit [Tabs]in
theorem r0l{τ:Ev.Ty}(h:x0e τ=true)(l:List τ.den): ∀c∈flat τ l,∃v,c= .sc v:=by
 intro c hc;unfold flat at hc;obtain⟨x,_,hx⟩:=List.mem_flatMap.1 hc;exact b1a h x c hx
omit [Tabs]in
theorem n1b{τ:Ev.Ty}(h:x0e τ=true):0<τ.sz:=by
 cases τ<;>first | (cases h;done) | decide
def n0j(F:Nat→Prop)(ρ:Env)(w:World)(b:Nat):Prop:=F b∨∃k es clock,ρ k=some (.box b)∧w.heap[b]? =some (.map es clock)
omit [Tabs]in
theorem t1o{F:Nat→Prop}{ρ:Env}{w:World}{tm:Array Value}{ob:List (Nat×AObj)}(hob: ∀k,RelOb w F ρ k (lkO ob k)){args:List AV}(hm:n0h args=true){j:Nat}(hj:j<args.length){v:Value}(h:RelAV w F ρ tm args[j] v):
  RelAV w (n0j F ρ w) ρ tm (args[j].bor ob) v:=by
 have h0:=k2f.1 hm _ (l2p hj);have hmono: ∀{x:AV},RelAV w F ρ tm x v→RelAV w (n0j F ρ w) ρ tm x v:=fun h=>h.mono (fun _ _=>rfl) (fun b hb=> .inl hb) fun _ _ h=>h;generalize args[j]=a at h h0⊢;split at h0
 ·rename_i k
  show RelAV _ _ _ _ (.cell (AC.bor ob 3 (.mpr k))) v;simp only [AC.bor];split
  ·rename_i te kt vt l dn hk
   have ho:=hob k;rw [hk]at ho;cases ho with
   | mp _ _ _ _ b es clock hkk hb hs hh _ hdd=>
    cases h with
    | cell c v h=>cases h with
     | mpr k v h=>
      rw [h b hkk];exact .cell _ _ (.d _ _ (a1h (.inr ⟨k,es,clock,hkk,hb⟩) hb hs (fun i h1 h2=>⟨(hh i h1 h2).1.mono (fun _ _=>rfl) fun b hb=> .inl hb,(hh i h1 h2).2.mono (fun _ _=>rfl) fun b hb=> .inl hb⟩) hdd.2))
  ·exact hmono h
 ·rename_i x
  have e: ∀n,AC.bor ob n (.d x)= .d x:=fun n=>by cases n<;>rfl
  show RelAV _ _ _ _ (.cell (AC.bor ob 3 (.d x))) v;rw [e];exact hmono h
 ·exact hmono h
 ·cases h0
omit [Tabs]in
theorem i1y{w' :World}{F' G:Nat→Prop}{ρ ρ' :Env}{tm tm' :Array Value}{x:AV}{v:Value}(hx:g1y x=true)(hv:RelAV w' F' ρ' tm x v)(hG: ∀b,F' b→(∃c t z,w'.heap[b]? =some (.cells c t z))→G b):RelAV w' G ρ tm' x v:=by
 unfold g1y at hx;split at hx
 ·rename_i τ l
  have hv:=a0x hv;refine .cell _ _ (.d _ _ ?_);generalize hq:D.nl τ l=q at hv;cases hv with
  | nl τ' l' v' hs=>
   cases hq;refine .nl _ _ _ ?_;have hflat:=r0l hx l;have hlen:=b0i τ l;have hpos:=n1b hx;generalize flat τ l=fl at hs hflat hlen;generalize l.length=ln at hs hlen;generalize τ.sz=z at hs hlen hpos;cases hs with
   | nil e a cap=>exact .nil _ _ _
   | sl e n cs b off cap c hF hl hcap hc hr2=>
    by_cases h0:ln=0
    ·subst h0
     obtain rfl:fl= []:=k2q (by omega);exact .nil _ _ _
    ·have hfl:0<fl.length:=by rw [hlen];exact Nat.mul_pos (by omega) hpos
     refine .sl _ _ _ b off cap c (hG b hF ?_) hl hcap hc fun i hi=> ?_
     ·have h2:=hc 0 hfl
      unfold World.cell? at h2;split at h2
      ·rename_i cc t z' hh
       exact⟨_,_,_,hh⟩
      all_goals cases h2
     ·obtain⟨u,hu⟩:=hflat _ (l2p hi)
      have h4:=hr2 i hi;rw [hu]at h4⊢;cases h4 with
      | sc _ h=>exact .sc _ h
  | _=>cases hq
 ·cases hx
theorem IEff.borrowM{i d:Nat}{c:Call}{ty:TypeId}{pos:String}{after:Array Edge}{guard:Option (Nat×Bool)}{f:FuncId}{args:List AV}{x:AV}{o2:List (Nat×AObj)}
  (ho:opK ops st.fr i=some ⟨some d, .call c,ty,pos,after,guard⟩)(hc:b0k st.fr c=some (f,args))(hf:a0p P f=true)(hz:AV.frozenL (borL st.ob args)=true)(hd:Nat.blt d N=true)
  (spec:ACalls P f (borL st.ob args) [] (fun r o=>r= .ret x∧o=o2))(hm:n0h args=true)(hx:g1y x=true):IEff P N ops i st (.put d x):=by
 intro F ρ a w hr K R kk;obtain⟨e,hw⟩:=b0c hr ho;obtain⟨vs,hrun,hsz,hrel⟩:=c0b hr hc hf ty;simp only [wpOp,e];rw [if_pos hw];left;have hrun' :(execOp a.eval ⟨some d, .call c,ty,pos,after,guard⟩).run P w= .ok (.enter f vs) w:=hrun;simp only [Oper.wp,Oper.upon,hrun'];have hlt0: ∀b,n0j F ρ w b→b<w.heap.size:=fun b hb=>hb.elim (hr.rw.lt b) fun⟨k,es,cl,_,h⟩=>(k2j.1 h).1;have h0:RelW (n0j F ρ w) (fun _=>none) w:=⟨(fun b _ ⟨k,l,hk,_⟩=>by cases hk),hlt0,(fun k k' l l' b hk=>by cases hk),fun b o hb=>⟨.inl (hr.rw.tab b o hb).1,(hr.rw.tab b o hb).2⟩⟩;refine(spec _ (fun _=>none) vs w h0 (fun k=> .gone rfl) ⟨by rw [hsz];simp [borL],fun j hj=> ?_⟩).mono fun en w' ⟨F',ρ',r,ob',⟨hq,_⟩,hre,hrw,hrob,hfr⟩=> ?_
 ·have hj' :j<args.length:=by simpa [borL]using hj
  have h1:=t1o hr.ob hm hj' (hrel j hj');have h2:(borL st.ob args)[j]=(args[j]).bor st.ob:=by simp [borL]
  have h3:=AV.frozenL_get hz j hj;rw [h2]at h3⊢;exact h1.frozen_any h3
 subst hq;have hnl: ∀b,¬live (fun _=>none) b:=fun b ⟨k,l,hk,_⟩=>by cases hk
 cases en with
 | returned v=>
  have hv:RelAV w' F' ρ' #[] x v:=hre;have hkeep: ∀b,b<w.heap.size→w'.heap[b]? =w.heap[b]? :=fun b hb=>hfr.keep b hb (hnl b)
  let G:Nat→Prop:=fun b=>F b∨(w.heap.size≤b∧F' b)
  have hrel' :Rel N G ρ st a w' :=by
   refine⟨⟨fun b hb hl=> ?_,fun b hb=> ?_,hr.rw.inj,hr.rw.tab_of (fun b hb=>hkeep b (hr.rw.lt b hb)) fun _ h=> .inl h⟩,fun j=>(hr.fr j).mono (fun b hb=>hkeep b (hr.rw.lt b hb)) (fun _ h=> .inl h) fun _ _ h=>h,
    fun j=>(hr.ob j).through (fun b hb=>hkeep b (hr.rw.lt b hb)) (fun _ h=> .inl h) fun l b hl hb=>hkeep b ((hr.ob j).lt hl hb),hr.sz,hr.df⟩
   ·rcases hb with hb | ⟨hb,_⟩
    ·exact hr.rw.dis b hb hl
    ·obtain⟨k,l,hk,hbl⟩:=hl
     have:=(hr.ob k).lt hk hbl;omega
   ·rcases hb with hb | ⟨_,hb⟩
    ·exact l2s (hr.rw.lt b hb) hfr.size
    ·exact hrw.lt b hb
  have hfr' :Fr F ρ w G ρ w' :=⟨hfr.os,hfr.tape,hfr.output,hfr.size,fun _ h=> .inl h,fun b hb _=>hkeep b hb,fun b hb h=>by
   rcases h with(h | ⟨h,_⟩) | h
   ·exact .inl h
   ·omega
   ·exact .inr h,fun _ _=>Stab.refl _ _⟩
  have hres:RelAV w' G ρ #[] x v:=i1y hx hv fun b hF ⟨c,t,z,hcell⟩=>by
   rcases m2q b w.heap.size with hlt | hge
   ·rcases hfr.old b hlt (.inl hF)with h1 | h1
    ·rcases h1 with h1 | ⟨k,es,cl,_,h1⟩
     ·exact .inl h1
     ·rw [hkeep b hlt,h1]at hcell
      cases hcell
    ·exact absurd h1 (hnl b)
   ·exact .inr ⟨hge,hF⟩
  exact kk v w' G ρ (hrel'.put d (a0j hd) (hres.retm (by unfold g1y at hx;split at hx<;>first | rfl | cases hx))) hfr' (.none hkeep)
 | panicked chain=>exact hre.elim
 | outgrown=>exact hre.elim
omit [Tabs]in
theorem u1q{w:World}{F G:Nat→Prop}{t:TypeId}{τ:Ev.Ty}{xs:List τ.den}{u:Value}{vs:List Value}(hτ:x0e τ=true)(ho:w.ownsRow 0 t τ.sz u xs.length vs)(hs:vs.length=(flat τ xs).length)
  (hr: ∀i (h:i< (flat τ xs).length),RelD w F (flat τ xs)[i] (vs.getD i undef))(hG: ∀g,u.ownBlock=some g→G g):RelD w G (.nl τ xs) u:=by
 refine .nl _ _ _ ?_;have hflat:=r0l hτ xs;have hlen:=b0i τ xs;rcases ho.2 with⟨rfl,h0⟩ | ⟨g,cap,cur,rfl,h1,h2,h3,h4,h5,h6⟩
 ·obtain rfl:xs= []:=k2q h0
  exact .nil _ none 0
 ·refine .sl _ _ _ g 0 cap (fun i=>vs.getD i undef) (hG g rfl) hlen h3 (fun i hi=> ?_) fun i hi=> ?_
  ·have hi2:i<vs.length:=by omega
   have e1:vs.getD i undef=vs[i]:=by simp [j2z,hi2]
   have e2:cur[i]? =some vs[i]:=by
    have hi3:i< (cur.toList.take (xs.length*τ.sz)).length:=by rw [h6];exact hi2
    have e3:(cur.toList.take (xs.length*τ.sz))[i]? =vs[i]? :=by rw [h6]
    rw [j2x hi2,l2y]at e3;split at e3
    ·simpa using e3
    ·cases e3
   rw [e1,l2b];simp [World.cell?,h2,e2]
  ·obtain⟨q,hq⟩:=hflat _ (l2p hi)
   have h7:=hr i hi;rw [hq]at h7⊢;cases h7 with
   | sc _ h=>exact .sc _ h
theorem IEff.borrowN{i d:Nat}{c:Call}{ty:TypeId}{pos:String}{after:Array Edge}{guard:Option (Nat×Bool)}{f:FuncId}{args:List AV}{k2:Nat}{t:TypeId}{τ:Ev.Ty}{xs:List τ.den}
  (ho:opK ops st.fr i=some ⟨some d, .call c,ty,pos,after,guard⟩)(hc:b0k st.fr c=some (f,args))(hf:a0p P f=true)(hz:AV.frozenL (borL st.ob args)=true)(hd:Nat.blt d N=true)
  (spec:ACalls P f (borL st.ob args) [] (fun r o=>r= .ret (.cell (.own k2))∧o= [(k2, .na t τ xs)]))(hτ:x0e τ=true):IEff P N ops i st (.put d (.cell (.d (.nl τ xs)))):=by
 intro F ρ a w hr K R kk;obtain⟨e,hw⟩:=b0c hr ho;obtain⟨vs,hrun,hsz,hrel⟩:=c0b hr hc hf ty;simp only [wpOp,e];rw [if_pos hw];left;have hrun' :(execOp a.eval ⟨some d, .call c,ty,pos,after,guard⟩).run P w= .ok (.enter f vs) w:=hrun;simp only [Oper.wp,Oper.upon,hrun'];have h0:RelW (fun b=>F b∨live ρ b) (fun _=>none) w:=⟨(fun b _ ⟨k,l,hk,_⟩=>by cases hk),(fun b hb=>hb.elim (hr.rw.lt b) fun⟨k,l,hk,hl⟩=>(hr.ob k).lt hk hl),(fun k k' l l' b hk=>by cases hk),fun b o hb=>⟨.inl (hr.rw.tab b o hb).1,(hr.rw.tab b o hb).2⟩⟩;refine(spec _ (fun _=>none) vs w h0 (fun k=> .gone rfl) ⟨by rw [hsz];simp [borL],fun j hj=> ?_⟩).mono fun en w' ⟨F',ρ',r,ob',⟨hq,hq2⟩,hre,hrw,hrob,hfr⟩=> ?_
 ·have hj' :j<args.length:=by simpa [borL]using hj
  have h1:=k1c hr.ob (hrel j hj');have h2:(borL st.ob args)[j]=(args[j]).bor st.ob:=by simp [borL]
  have h3:=AV.frozenL_get hz j hj;rw [h2]at h3⊢;exact h1.frozen_any h3
 subst hq;subst hq2;have hnl: ∀b,¬live (fun _=>none) b:=fun b ⟨k,l,hk,_⟩=>by cases hk
 cases en with
 | returned v=>
  have hv:RelAV w' F' ρ' #[] (.cell (.own k2)) v:=hre;have hkeep: ∀b,b<w.heap.size→w'.heap[b]? =w.heap[b]? :=fun b hb=>hfr.keep b hb (hnl b);have hob:RelOb w' F' ρ' k2 (.na t τ xs):=by
   have h1:=hrob k2;have e1:lkO [(k2,AObj.na t τ xs)] k2= .na t τ xs:=by
    rw [lkO,show Nat.beq k2 k2=true from m2n k2,cond_true]
   rw [e1]at h1;exact h1
  cases hob with
  | na _ _ _ hob=>
   generalize hn' :xs.length=n' at hob;generalize hcs' :flat τ xs=cs at hob;cases hob with
   | arr t' e' n'' cs' u zs hkk ho2 hs2 hx=>
    have hu:v=u:=by
     cases hv with
     | cell _ _ hv=>cases hv with
      | own k v hq=>exact hq u hkk
    subst hu;subst hn';subst hcs';have hnew: ∀g,v.ownBlock=some g→w.heap.size≤g∧g<w'.heap.size:=fun g hg=>by
     have hlv:live ρ' g:=⟨k2,_,hkk,hg⟩;refine⟨?_,(ho2.lt g hg).2⟩;rcases m2q g w.heap.size with hlt | hge
     ·rcases hfr.old g hlt (.inr hlv)with h1 | h1
      ·exact absurd hlv (hrw.dis g (hfr.sub g h1))
      ·exact absurd h1 (hnl g)
     ·exact hge
    let G:Nat→Prop:=fun b=>F b∨v.ownBlock=some b
    have hrel' :Rel N G ρ st a w' :=by
     refine⟨⟨fun b hb hl=> ?_,fun b hb=> ?_,hr.rw.inj,hr.rw.tab_of (fun b hb=>hkeep b (hr.rw.lt b hb)) fun _ h=> .inl h⟩,fun j=>(hr.fr j).mono (fun b hb=>hkeep b (hr.rw.lt b hb)) (fun _ h=> .inl h) fun _ _ h=>h,
      fun j=>(hr.ob j).through (fun b hb=>hkeep b (hr.rw.lt b hb)) (fun _ h=> .inl h) fun l b hl hb=>hkeep b ((hr.ob j).lt hl hb),hr.sz,hr.df⟩
     ·rcases hb with hb | hb
      ·exact hr.rw.dis b hb hl
      ·obtain⟨k,l,hk,hbl⟩:=hl
       have:=(hr.ob k).lt hk hbl;have:=(hnew b hb).1;omega
     ·rcases hb with hb | hb
      ·exact l2s (hr.rw.lt b hb) hfr.size
      ·exact(hnew b hb).2
    have hfr' :Fr F ρ w G ρ w' :=⟨hfr.os,hfr.tape,hfr.output,hfr.size,fun _ h=> .inl h,fun b hb _=>hkeep b hb,fun b hb h=>by
     rcases h with(h | h) | h
     ·exact .inl h
     ·have:=(hnew b h).1
      omega
     ·exact .inr h,fun _ _=>Stab.refl _ _⟩
    have hres:RelAV w' G ρ #[] (.cell (.d (.nl τ xs))) v:= .cell _ _ (.d _ _ (u1q hτ ho2 hs2 hx fun g hg=> .inr hg));exact kk v w' G ρ (hrel'.put d (a0j hd) (hres.retm rfl)) hfr' (.none hkeep)
 | panicked chain=>exact hre.elim
 | outgrown=>exact hre.elim
end
end Esp
namespace Esp
open Go
set_option linter.unusedSimpArgs false
set_option linter.unusedVariables false
variable [Tabs]
def tyOf:List (TypeId×Ev.Ty)→TypeId→Option Ev.Ty
 | [],_=>none
 | (a,τ)::r,t=>bif Nat.beq t a then some τ else tyOf r t
omit [Tabs]in
theorem RelOb.le{w:World}{F:Nat→Prop}{ρ:Env}{k:Nat}{t:TypeId}{e n:Nat}{cs cs' :List D}(h:RelOb w F ρ k (.arr t e n cs))(hle:dsle cs cs'):RelOb w F ρ k (.arr t e n cs'):=by
 cases h with
 | arr t e n cs u xs hk ho hz hh=>exact .arr t e n cs' u xs hk ho (hz.trans hle.length) fun i hi=>hle.get i (by rw [hle.length];exact hi) hi _ _ _ (hh i (by rw [hle.length];exact hi))
omit [Tabs]in
theorem RelOb.to_na{w:World}{F:Nat→Prop}{ρ:Env}{k:Nat}{t:TypeId}{τ:Ev.Ty}{n:Nat}{cs:List D}{xs:List τ.den}(h:RelOb w F ρ k (.arr t τ.sz n cs))(hn:xs.length=n)(hle:dsle cs (flat τ xs)):RelOb w F ρ k (.na t τ xs):=by
 subst hn;exact .na t τ xs (h.le hle)
section
variable{P:Program}{N:Nat}{ops:Array Oper}{Q:Exit→ASt→Prop}{st st' :ASt}{l:List Nat}
theorem Rel.new_ob{F:Nat→Prop}{ρ:Env}{a:Act}{w:World}{k d:Nat}{o o' :AObj}{x:AV}(ho: ∀w F ρ,RelOb w F ρ k o→RelOb w F ρ k o')(hr:Rel N F ρ ((Eff.new k o d x).app st) a w):Rel N F ρ ((Eff.new k o' d x).app st) a w:=by
 refine⟨hr.rw,fun j=> ?_,fun j=> ?_,hr.sz,hr.df⟩
 ·have hj:=hr.fr j
  rw [b0s]at hj⊢;exact hj
 ·have hj:=hr.ob j
  rw [g0d]at hj⊢;simp only [Eff.appF]at hj⊢;by_cases e:j=k
  ·subst e
   rw [if_pos rfl]at hj⊢;exact ho _ _ _ hj
  ·rw [if_neg e]at hj⊢
   exact hj
theorem IEff.new_ob{i k d:Nat}{o o' :AObj}{x:AV}(ho: ∀w F ρ,RelOb w F ρ k o→RelOb w F ρ k o')(h:IEff P N ops i st (.new k o d x)):IEff P N ops i st (.new k o' d x):=
 IEff.conv (e:= .new k o d x) rfl rfl rfl (fun _ _ _ _ hr=>hr.new_ob ho) h
def upN(T:List (TypeId×Ev.Ty)):Eff→Option Eff
 | .new k (.arr te e n cs) d x=>match tyOf T te with
  | some τ=>bif Nat.beq e τ.sz then(rds τ n cs).bind fun xs=>some (.new k (.na te τ xs) d x)else none
  | none=>none
 | e=>some e
theorem l1f{T:List (TypeId×Ev.Ty)}{i:Nat}{e e' :Eff}(h:upN T e=some e')(hi:IEff P N ops i st e):IEff P N ops i st e' :=by
 unfold upN at h;split at h
 ·rename_i k te e n cs d x
  split at h
  ·rename_i τ ht
   cases hb:Nat.beq e τ.sz with
   | false=>rw [hb]at h;cases h
   | true=>
    rw [hb]at h;have:=j2t hb;subst this;simp only [cond_true,j2w,j2v]at h;obtain⟨xs,h1,rfl⟩:=h;obtain⟨h2,h3⟩:=j1q h1;exact hi.new_ob fun w F ρ ho=>ho.to_na h2 h3
  ·cases h
 ·cases h
  exact hi
def srcN(P:Program)(ob:List (Nat×AObj))(k:Nat)(τ:Ev.Ty)(tx:TypeId)(y:AV):Option (List τ.den):=
 match P.underlying tx with
 | some (.slice _)=>match y with
  | .cell (.d (.nl τ' ys))=>Ev.castL τ' τ ys
  | .cell (.d (.sc (.slice none 0 0)))=>some []
  | .cell (.own k')=>bif Nat.beq k' k then none else match lkO ob k' with
   | .na _ τ' ys=>Ev.castL τ' τ ys
   | _=>none
  | _=>none
 | some .string=>match y with
  | .cell (.d (.sc (.string s)))=>Ev.castL .u8 τ (d0w s)
  | _=>none
 | _=>none
omit [Tabs]in
theorem e1f{ob:List (Nat×AObj)}{k:Nat}{τ:Ev.Ty}{tx:TypeId}{y:AV}{ys:List τ.den}(h:srcN P ob k τ tx y=some ys):srcV P (ob.map fun p=>(p.1,p.2.low)) k τ.sz tx y.low=some (ys.length,flat τ ys):=by
 unfold srcN at h;unfold srcV;split at h
 ·rename_i u hu
  simp only [hu];split at h
  ·obtain⟨e,rfl⟩:=Ev.castL_eq h
   subst e;simp [AV.low,D.low]
  ·cases h
   simp [AV.low,D.low,flat]
  ·rename_i k'
   cases hb:Nat.beq k' k with
   | true=>rw [hb]at h;cases h
   | false=>
    rw [hb,cond_false]at h;split at h
    ·rename_i te τ' ys' ho
     obtain⟨e,rfl⟩:=Ev.castL_eq h;subst e;have:lkO (ob.map fun p=>(p.1,p.2.low)) k' = .arr te τ'.sz ys'.length (flat τ' ys'):=by
      rw [d0i AObj.low rfl,ho];rfl
     simp [AV.low,hb,this]
    ·cases h
  ·cases h
 ·rename_i hu
  simp only [hu];split at h
  ·rename_i s
   obtain⟨e,rfl⟩:=Ev.castL_eq h;subst e;have h1:(d0w s).length=s.size:=by simp [d0w]
   simp [AV.low,D.low,Ev.Ty.sz,Ev.Ty.sz0,h1,q0e]
  ·cases h
 ·cases h
structure App where
 d:Nat
 k:Nat
 te:TypeId
 τ:Ev.Ty
 bytes:Nat
 zs:List τ.den
def App.eff(p:App):Eff:= .new p.k (.na p.te p.τ p.zs) p.d (.cell (.own p.k))
def t1l(P:Program)(N:Nat)(T:List (TypeId×Ev.Ty))(st:ASt)(o:Oper):Option App:=
 match o with
 | ⟨some d, .call c,_,_,_,_⟩=>match c.callee,c.args.toList,c.argTypes.toList with
  | .builtin .append, [s,y], [t,tx]=>match rowB P t with
   | some (te,e,bytes)=>bif Nat.blt d N then match ev st.fr s with
    | .cell (.own k)=>match lkO st.ob k with
     | .na te' τ xs=>bif Nat.beq te te' &&Nat.beq e τ.sz&&Nat.blt k 2000000 then(srcN P st.ob k τ tx (ev st.fr y)).bind fun ys=>some ⟨d,k,te,τ,bytes,xs++ys⟩else none
     | _=>none
    | .cell (.d (.sc (.slice none 0 0)))=>match tyOf T te with
     | some τ=>bif Nat.beq e τ.sz then(srcN P st.ob d τ tx (ev st.fr y)).bind fun ys=>some ⟨d,d,te,τ,bytes,ys⟩else none
     | none=>none
    | _=>none
    else none
   | none=>none
  | _,_,_=>none
 | _=>none
def room(n b:Nat):Bool:=Nat.ble n 1152921504606846976&&Nat.ble (n*b) 140737488355328
omit [Tabs]in
theorem v0a{n b:Nat}(h:room n b=true):n≤maxLen∧n*b≤140737488355328:=by
 simp only [room,j2s]at h;exact⟨by have:=k2d h.1;unfold maxLen;omega,k2d h.2⟩
theorem o0l{T:List (TypeId×Ev.Ty)}{i:Nat}{o:Oper}{p:App}(ho:opK ops st.fr i=some o)(h:t1l P N T st o=some p)(hr:room p.zs.length p.bytes=true):IEff P N ops i st p.eff:=by
 unfold t1l at h;split at h
 ·rename_i d c ty pos after guard
  obtain⟨callee,args,ats⟩:=c;dsimp only at h;split at h
  ·rename_i s y t tx ha1 ha2
   have e1:args= #[s,y]:=by cases args;simp_all
   have e2:ats= #[t,tx]:=by cases ats;simp_all
   subst e1;subst e2;split at h
   ·rename_i te e bytes ht
    cases hd:Nat.blt d N with
    | false=>rw [hd]at h;cases h
    | true=>
    rw [hd,cond_true]at h;split at h
    ·rename_i k hs
     split at h
     ·rename_i te' τ xs hk
      cases hb:(Nat.beq te te' &&Nat.beq e τ.sz&&Nat.blt k 2000000)with
      | false=>rw [hb]at h;cases h
      | true=>
       rw [hb,cond_true]at h;simp only [j2s]at hb;have q1:=j2t hb.1.1;have q2:=j2t hb.1.2;subst q1;subst q2;simp only [j2w,j2v]at h;obtain⟨ys,h1,rfl⟩:=h;obtain⟨r1,r2⟩:=v0a hr;dsimp only at r1 r2;rw [j2y]at r1 r2;refine IEff.new_ob (o:= .arr te τ.sz (xs.length+ys.length) (flat τ xs++flat τ ys)) (fun w F ρ hw=>hw.to_na (by simp) (by rw [d0v];exact .refl _)) (.ofLow ?_);exact .append (by rw [c0r];exact ho) (by rw [c0j,hs];rfl) (by rw [m0w,hk];rfl) ht hd (by rw [c0j];exact e1f h1) r1 r2 rfl rfl hb.2
     ·cases h
    ·rename_i hs
     split at h
     ·rename_i τ hτ
      cases hb:Nat.beq e τ.sz with
      | false=>rw [hb]at h;cases h
      | true=>
       rw [hb,cond_true]at h;have q2:=j2t hb;subst q2;simp only [j2w,j2v]at h;obtain⟨ys,h1,rfl⟩:=h;obtain⟨r1,r2⟩:=v0a hr;refine IEff.new_ob (o:= .arr te τ.sz ys.length (flat τ ys)) (fun w F ρ hw=>hw.to_na rfl (.refl _)) (.ofLow ?_);exact .appendNil (by rw [c0r];exact ho) (by rw [c0j,hs];rfl) ht hd (by rw [c0j];exact e1f h1) r1 r2
     ·cases h
    ·cases h
   ·cases h
  ·cases h
 ·cases h
end
end Esp

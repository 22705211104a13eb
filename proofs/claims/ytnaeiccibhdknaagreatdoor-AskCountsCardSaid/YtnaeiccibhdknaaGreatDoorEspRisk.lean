import Derived.Test.YtnaeiccibhdknaaGreatDoorEspOps
import Derived.Deep.AppendSrc
import Derived.Laws.OwnMore
import Derived.Laws.BytesString
import Derived.Laws.IdiomStrings
import Derived.Laws.BytesArg
set_option linter.unusedSimpArgs false
set_option linter.unusedVariables false
namespace Esp
open Go
variable [Tabs]
def opK(ops:Array Oper)(fr:List (Nat×AV))(i:Nat):Option Oper:=
 match ops[i]? with
 |some o=>match o.guard with
  |none=>some o
  |some (j,want)=>match t0d ops j with
   |some g=>match n0c (lkF fr g)with
    |some true=>bif want then some o else none
    |some false=>bif want then none else some o
    |none=>none
   |none=>none
 |none=>none
def offN(fr:List (Nat×AV)):Nat->AV->Bool
 |n+1,.whn g w _=>match n0c (lkF fr g)with
  |some b=>b !=w
  |none=>offN fr n (lkF fr g)
 |_,_=>false
def offV(fr:List (Nat×AV))(x:AV):Bool:=offN fr 4 x
def j1c(ops:Array Oper)(fr:List (Nat×AV))(i:Nat):Option Tmp:=
 match ops[i]? with
 |some o=>match o.guard,o.dst with
  |some (j,want),some d=>match t0d ops j with
   |some g=>match n0c (lkF fr g)with
    |some true=>bif want then none else some d
    |some false=>bif want then some d else none
    |none=>bif offV fr (lkF fr g)then some d else none
   |none=>none
  |_,_=>none
 |none=>none
def q1q(ops:Array Oper)(i:Nat)(d:Tmp):AV:=
 match(ops[i]?).bind (·.guard)with
 |some (j,want)=>match t0d ops j with
  |some g=>bif Nat.beq d g then .junk else .whn g want .junk
  |none=>.junk
 |none=>.junk
theorem u0p{N:Nat}{F:Nat->Prop}{ρ:Env}{st:ASt}{a:Act}{w:World}(hr:Rel N F ρ st a w):∀(n:Nat) {x:AV} {v:Value},RelAV w F ρ a.tmps x v->offN st.fr n x=true->v=undef
 | 0,x,v,_,h=>by cases h
 |n+1,x,v,hx,h=>by
  unfold offN at h;split at h
  ·rename_i k g1 w1 y he
   cases he;split at h
   ·rename_i b1 dV
    have nZ:=c0p (hr.fr g1) dV;cases hx with
    |whn _ _ _ v h0 h' =>
     refine h' ?_;rw[nZ];intro e;cases e;simp at h
   ·have hu:=u0p hr n (hr.fr g1) h
    cases hx with
    |whn _ _ _ v h0 h' =>
     refine h' ?_;rw[hu];simp[undef]
  ·cases h
section
variable{P:Program}{N:Nat}{ops:Array Oper}{Q:Exit->ASt->Prop}{st st' :ASt}{l:List Nat}
theorem a0x{F:Nat->Prop}{ρ:Env}{a:Act}{w:World}(h:Rel N F ρ st a w){i:Nat}{o:Oper}(ho:opK ops st.fr i=some o):
  ops[i]?=some o/\Region.wanted o (yielded ops a.tmps)=true:=by
 unfold opK at ho;split at ho
 ·rename_i o' e
  split at ho
  ·rename_i hg
   cases ho;exact⟨e,by simp[Region.wanted,hg]⟩
  ·rename_i j want hg
   split at ho
   ·rename_i g gi
    have hr:=h.fr g;split at ho
    ·rename_i hb
     have hv:=c0p hr hb;cases want with
     |false=>cases ho
     |true=>
      cases ho;exact⟨e,by simp only[Region.wanted,hg];exact(g0s gi true).2 hv⟩
    ·rename_i hb
     have hv:=c0p hr hb;cases want with
     |true=>cases ho
     |false=>
      cases ho;exact⟨e,by simp only[Region.wanted,hg];exact(g0s gi false).2 hv⟩
    ·cases ho
   ·cases ho
 ·cases ho
theorem IEff.skip {i:Nat}{d:Tmp}(hs:j1c ops st.fr i=some d)(hd:Nat.blt d N=true):IEff P N ops i st (.put d (q1q ops i d)):=by
 intro F ρ a w hr K R k;unfold j1c at hs;split at hs
 ·rename_i o ho
  split at hs
  ·rename_i j want d' hg gS
   split at hs
   ·rename_i g gi
    have l9:=hr.fr g;have key0:∀v,a.tmps.getD g undef=v->v≠ .bool want->d' =d->wpOp P ops R i K a w:=by
     intro b hb aS e;subst e;simp only[wpOp,ho];rw[if_neg (by
      simp only[Region.wanted,hg];intro hc;have:=(g0s gi want).1 hc;rw[hb]at this;exact aS this),gS]
     have hx:RelAV w F ρ (a.tmps.set! d' undef) (q1q ops i d') undef:=by
      simp only[q1q,ho,r2g,hg,gi];cases l3:Nat.beq d' g with
      |true=>exact .junk _
      |false=>
       refine .whn _ _ _ _ (λ_=>.junk _) λ_=>rfl
     exact k undef w F ρ (hr.put d' (a0e hd) hx) (Fr.refl F ρ w) (.none λ_ _=>rfl)
    have key:∀b,a.tmps.getD g undef=.bool b->b≠want->d' =d->wpOp P ops R i K a w:=λb hb aS e=>key0 _ hb (λh=>by cases h;exact aS rfl) e;split at hs
    ·rename_i hb
     have hv:=c0p l9 hb;cases want with
     |true=>cases hs
     |false=>cases hs;exact key true hv (by simp) rfl
    ·rename_i hb
     have hv:=c0p l9 hb;cases want with
     |false=>cases hs
     |true=>cases hs;exact key false hv (by simp) rfl
    ·cases ho2:offV st.fr (lkF st.fr g)with
     |false=>rw[ho2]at hs;cases hs
     |true=>
      rw[ho2]at hs;cases hs;exact key0 _ (u0p hr 4 l9 ho2) (by simp[undef]) rfl
   ·cases hs
  ·cases hs
 ·cases hs
theorem IEff.of_opK {i:Nat}{o:Oper}{e:Eff}(ho:opK ops st.fr i=some o)(h:OpEff P N o st e):IEff P N ops i st e:=by
 intro F ρ a w hr K R k;obtain⟨eo,hw⟩:=a0x hr ho;obtain⟨v,w',F',ρ',hrun,hr',hf,hs⟩:=h.2 F ρ a w hr;have hk:=k v w' F' ρ' hr' hf hs;rw [<-h.1]at hk;simp only[wpOp,eo];rw[if_pos hw];left;rcases hrun with e|⟨e,rfl⟩
 ·simp only[Oper.wp,Oper.upon,e]
  exact hk
 ·simp only[Oper.wp,Oper.upon,e]
  exact hk
theorem OpEff.of_plain {o:Oper}{d:Tmp}{x:AV}(hd:o.dst=some d)(hN:Nat.blt d N=true)(hp:x.plain=true)
  (h:∀F ρ a w,Rel N F ρ st a w->∃v,(execOp a.eval o).run P w=.ok (.value v) w/\RelAV w F ρ #[] x v):OpEff P N o st (.put d x):=by
 refine⟨hd,λF ρ a w hr=>?_⟩;obtain⟨v,e,hx⟩:=h F ρ a w hr;exact⟨v,w,F,ρ,.inl e,hr.put d (a0e hN) (hx.retm hp),Fr.refl F ρ w,.none λ_ _=>rfl⟩
def f0c(P:Program)(t:TypeId):Option (TypeId×Nat):=
 match P.underlying t with
 |some (.slice e)=>match d0t P e with
  |some s=>some (e,s)
  |none=>none
 |_=>none
omit [Tabs]in
theorem g0e{t e:TypeId}{s:Nat}(h:f0c P t=some (e,s)):P.underlying t=some (.slice e)/\d0t P e=some s:=by
 unfold f0c at h;split at h
 ·split at h
  ·rename_i hu _ _ hs
   cases h;exact⟨hu,hs⟩
  ·cases h
 ·cases h
omit [Tabs]in
theorem a0w{w:World}{F:Nat->Prop}{ρ:Env}{tm:Array Value}{x:D}{v:Value}(h:RelAV w F ρ tm (.cell (.d x)) v):RelD w F x v:=by
 cases h with
 |cell c v h=>cases h with
  |d x v h=>exact h
theorem IEff.index {i d e n:Nat}{t ty te:TypeId}{x ix:Operand}{pos:String}{after:Array Edge}{guard:Option (Nat×Bool)}{cs es:List D}{kk:IntKind}{j:Int}
  (ho:opK ops st.fr i=some ⟨some d,.indexAddr t x ix,ty,pos,after,guard⟩)(hx:ev st.fr x=.cell (.d (.sl e n cs)))(hi:ev st.fr ix=.cell (.d (.sc (.int kk j))))
  (ht:f0c P t=some (te,e))(hd:Nat.blt d N=true)(h0:0<=j)(h1:j<n)(eU:(cs.drop (j.toNat*e)).take e=es):
  IEff P N ops i st (.put d (.cell (.d (.rp es)))):=by
 refine .of_opK ho (.of_plain rfl hd rfl λF ρ a w hr=>?_);obtain⟨hu,hs⟩:=g0e ht;have hv:=a0d hr x;rw[hx]at hv;have eX:=(a0i (a0d hr ix) (by rw[hi];rfl)).1;have hD:=a0w hv;generalize bI:a.eval x=xv at hD;subst eU;cases hD with
 |nil e ad cap=>omega
 |sl e n cs b off cap c hF hl aU hc fh=>
  refine⟨.pointer (some ⟨b,off+j.toNat*e,none⟩),?_,.cell _ _ (.d _ _ (.rp _ _ _ (λq=>c (j.toNat*e+q)) (λ_=>hF) (λq hq=>?_) λq hq=>?_))⟩
  ·simp[execOp,bI,eX,Instr.indexAt,asIntOf,run_underlying hu,h0,h1,a0g hs,Addr.add_lit]
  ·have hq' :q<e/\j.toNat*e+q<cs.length:=by
    have fD:=hq;rw[s2g,s2n]at fD;omega
   rw[u2h];exact hc _ hq'.2
  ·have hq' :q<e/\j.toNat*e+q<cs.length:=by
    have fD:=hq;rw[s2g,s2n]at fD;omega
   rw[List.getElem_take,List.getElem_drop];exact fh _ hq'.2
theorem IEff.strIndex {i d:Nat}{t ty:TypeId}{x ix:Operand}{pos:String}{after:Array Edge}{guard:Option (Nat×Bool)}{s:Bt}{kk:IntKind}{j:Int}{b:UInt8}
  (ho:opK ops st.fr i=some ⟨some d,.index t x ix,ty,pos,after,guard⟩)(hx:ev st.fr x=.cell (.d (.sc (.string s))))(hi:ev st.fr ix=.cell (.d (.sc (.int kk j))))
  (ht:P.underlying t=some .string)(hd:Nat.blt d N=true)(h0:0<=j)(hb:s.data.toList[j.toNat]?=some b):
  IEff P N ops i st (.put d (.cell (.d (.sc (.int .u8 b.toNat))))):=by
 refine .of_opK ho (.of_plain rfl hd rfl λF ρ a w hr=>?_);have hv:=(a0i (a0d hr x) (by rw[hx];rfl)).1;have eX:=(a0i (a0d hr ix) (by rw[hi];rfl)).1;refine⟨_,?_,.cell _ _ (.d _ _ (.sc _ rfl))⟩;have hb' :s[j.toNat]?=some b:=by
  rw[t2g]at hb;obtain⟨aJ,he⟩:=r2r.1 hb;rw[getElem?_pos s j.toNat aJ, <-he];rfl
 simp[execOp,hv,eX,Instr.index,asIntOf,run_underlying ht,h0,hb']
def bndV(fr:List (Nat×AV))(o:Option Operand)(dflt:Int):Option Int:=
 match o with
 |none=>some dflt
 |some p=>match ev fr p with
  |.cell (.d (.sc (.int _ j)))=>some j
  |_=>none
theorem i0l{F:Nat->Prop}{ρ:Env}{a:Act}{w:World}(hr:Rel N F ρ st a w){p:Operand}{j:Int}(h:bndV st.fr (some p) 0=some j)(y:Nat)(c:BoundsCode)(h0:0<=j)(h1:j<=y):
  (Instr.sliceBound (a.eval p) y c).run P w=.ok j.toNat w:=by
 unfold bndV at h;dsimp only at h;split at h
 ·rename_i kk j' e
  cases h;have eX:=(a0i (a0d hr p) (by rw[e];rfl)).1;simp[Instr.sliceBound,eX,asIntOf,h0,h1]
 ·cases h
theorem d0c{F:Nat->Prop}{ρ:Env}{a:Act}{w:World}(hr:Rel N F ρ st a w)(isS:Bool){lo hi:Option Operand}{len cap:Nat}{l h:Int}(hl:bndV st.fr lo 0=some l)(hh:bndV st.fr hi len=some h)
  (h0:0<=l)(h1:l<=h)(h2:h<=len)(h3:len<=cap):(Instr.sliceBounds isS len cap (lo.map a.eval) (hi.map a.eval) none).run P w=.ok (l.toNat,h.toNat,cap) w:=by
 have e2:(match hi.map a.eval with|some v=>Instr.sliceBound v cap (if isS then .sliceAcap else .sliceAlen)| none=>pure len:Sem Nat).run P w=.ok h.toNat w:=by
  cases hi with
  |none=>
   simp only[bndV,r2l]at hh;subst hh;rfl
  |some q=>exact i0l hr (by unfold bndV at hh⊢;exact hh) cap _ (by omega) (by omega)
 have e1:(match lo.map a.eval with|some v=>Instr.sliceBound v h.toNat .sliceB|none=>pure 0:Sem Nat).run P w=.ok l.toNat w:=by
  cases lo with
  |none=>
   simp only[bndV,r2l]at hl;subst hl;rfl
  |some q=>exact i0l hr hl h.toNat _ h0 (by omega)
 unfold Instr.sliceBounds;simp only[Sem.run_bind,Sem.run_pure,Result.andThen_ok,Option.isSome_none,u2g,if_false];cases hi with
 |none=>
  cases lo with
  |none=>simp only[t2q,Sem.run_pure,Result.andThen_ok]at e1 e2⊢;simp_all
  |some p=>simp only[t2q,s2z,Sem.run_pure,Result.andThen_ok]at e1 e2⊢;simp_all
 |some q=>
  cases lo with
  |none=>simp only[t2q,s2z,Sem.run_pure,Result.andThen_ok]at e1 e2⊢;simp_all
  |some p=>simp only[s2z,Sem.run_pure,Result.andThen_ok]at e1 e2⊢;simp_all
theorem IEff.strSlice {i d:Nat}{t ty:TypeId}{x:Operand}{lo hi:Option Operand}{pos:String}{after:Array Edge}{guard:Option (Nat×Bool)}{s r:Bt}{p q:Int}
  (ho:opK ops st.fr i=some ⟨some d,.slice t x lo hi none,ty,pos,after,guard⟩)(hx:ev st.fr x=.cell (.d (.sc (.string s))))
  (ht:P.underlying t=some .string)(hl:bndV st.fr lo 0=some p)(hh:bndV st.fr hi s.size=some q)(hd:Nat.blt d N=true)(h0:0<=p)(h1:p<=q)(h2:q<=s.size)
  (hr' :s.extract p.toNat q.toNat=r):
  IEff P N ops i st (.put d (.cell (.d (.sc (.string r))))):=by
 refine .of_opK ho (.of_plain rfl hd rfl λF ρ a w hr=>?_);have hv:=(a0i (a0d hr x) (by rw[hx];rfl)).1;refine⟨_,?_,.cell _ _ (.d _ _ (.sc _ rfl))⟩;have hb:=d0c (P:=P) hr false hl hh h0 h1 h2 (r2q _);simp only[execOp,hv,Instr.sliceAt,Sem.run_bind,run_underlying ht,Result.andThen_ok,Instr.slice,t2q,Option.isSome_none,u2g,if_false,hb, <-hr'];rfl
theorem IEff.slice {i d e n:Nat}{t ty te:TypeId}{x:Operand}{lo hi:Option Operand}{pos:String}{after:Array Edge}{guard:Option (Nat×Bool)}{cs es:List D}{p q:Int}{m:Nat}
  (ho:opK ops st.fr i=some ⟨some d,.slice t x lo hi none,ty,pos,after,guard⟩)(hx:ev st.fr x=.cell (.d (.sl e n cs)))
  (ht:f0c P t=some (te,e))(hl:bndV st.fr lo 0=some p)(hh:bndV st.fr hi n=some q)(hd:Nat.blt d N=true)(h0:0<=p)(h1:p<=q)(h2:q<=n)
  (hm:(q - p).toNat=m)(eU:(cs.drop (p.toNat*e)).take (m*e)=es):
  IEff P N ops i st (.put d (.cell (.d (.sl e m es)))):=by
 refine .of_opK ho (.of_plain rfl hd rfl λF ρ a w hr=>?_);obtain⟨hu,hs⟩:=g0e ht;have hv:=a0d hr x;rw[hx]at hv;have hD:=a0w hv;generalize bI:a.eval x=xv at hD;subst eU;subst hm;have fD:q.toNat - p.toNat=(q - p).toNat:=by omega
 cases hD with
 |nil e ad cap=>
  have hb:=d0c (P:=P) (cap:=cap) hr true hl hh h0 h1 h2 (s2i _);refine⟨.slice (if cap=p.toNat then ad else ad.map (·.add (p.toNat*e))) (q.toNat - p.toNat) (cap - p.toNat),?_,?_⟩
  ·simp only[execOp,bI,Instr.sliceAt,Sem.run_bind,run_underlying hu,Result.andThen_ok,Instr.slice,t2q,hb,a0g hs]
   rfl
  ·have e1:(q - p).toNat=0:=by omega
   have e2:q.toNat - p.toNat=0:=by omega
   rw[e2,e1];simp only[List.drop_nil,List.take_nil,Nat.zero_mul];exact .cell _ _ (.d _ _ (.nil _ _ _))
 |sl e n cs b off cap c hF hlen aU hc fh=>
  have hb:=d0c (P:=P) (cap:=cap) hr true hl hh h0 h1 h2 aU;refine⟨.slice (if cap=p.toNat then some ⟨b,off,none⟩else some ⟨b,off+p.toNat*e,none⟩) (q.toNat - p.toNat) (cap - p.toNat),?_,?_⟩
  ·simp only[execOp,bI,Instr.sliceAt,Sem.run_bind,run_underlying hu,Result.andThen_ok,Instr.slice,t2q,hb,a0g hs,s2z,Addr.add_lit]
   rfl
  ·rw[fD]
   by_cases hz:(q - p).toNat=0
   ·rw[hz]
    simp only[Nat.zero_mul,List.take_zero];exact .cell _ _ (.d _ _ (.nil _ _ _))
   ·rw[if_neg (by omega)]
    have hle:(p.toNat+(q - p).toNat)*e<=n*e:=t2b e (by omega);have lX:p.toNat*e+(q - p).toNat*e<=cs.length:=by rw [<-t2w,hlen];exact hle
    refine .cell _ _ (.d _ _ (.sl _ _ _ _ _ _ (λz=>c (p.toNat*e+z)) hF ?_ (by omega) (λz dI=>?_) λz dI=>?_))
    ·rw[s2g,s2n];omega
    ·rw[s2g,s2n]at dI
     rw[u2h];exact hc _ (by omega)
    ·have hz2:=dI
     rw[s2g,s2n]at hz2;rw[List.getElem_take,List.getElem_drop];exact fh _ (by omega)
def g0d(b:List UInt8):List D:=b.map λc=>.sc (.int .u8 c.toNat)
omit [Tabs]in
theorem c0i(b:List UInt8):(g0d b).length=b.length:=by simp[g0d]
def e0q(P:Program)(t:TypeId):Bool:=
 match P.underlying t with
 |some (.slice e)=>match P.underlying e,d0t P e with
  |some (.int .u8),some 1=>true
  |_,_=>false
 |_=>false
omit [Tabs]in
theorem q0q{t:TypeId}(h:e0q P t=true):∃e,P.underlying t=some (.slice e)/\P.underlying e=some (.int .u8)/\d0t P e=some 1:=by
 unfold e0q at h;split at h
 ·split at h
  ·exact⟨_,by assumption,by assumption,by assumption⟩
  ·cases h
 ·cases h
theorem IEff.bytesOf {i d:Nat}{src dst ty:TypeId}{x:Operand}{pos:String}{after:Array Edge}{guard:Option (Nat×Bool)}{s:Bt}
  (ho:opK ops st.fr i=some ⟨some d,.convert src dst x,ty,pos,after,guard⟩)(hx:ev st.fr x=.cell (.d (.sc (.string s))))(hs:P.underlying src=some .string)(hd:e0q P dst=true)(hN:Nat.blt d N=true):
  IEff P N ops i st (.put d (.cell (.d (.sl 1 s.size (g0d s.data.toList))))):=by
 refine .of_opK ho ⟨rfl,λF ρ a w hr=>?_⟩;obtain⟨e,hu,he,aR⟩:=q0q hd;have hv:=(a0i (a0d hr x) (by rw[hx];rfl)).1;have hrun:=run_bytes_of_string w src dst e s hs hu he
 let row:=bytesRow s (grownCap w s.size 0 e)
 let w1:=w.drew.alloc (.cells row e (row.size,row.size+1))
 have dT:=grownCap_ge w s.size 0 e;have hold:∀b,b<w.heap.size->w1.heap[b]?=w.heap[b]?:=λb hb=>Go.RowKit.Below.heap_alloc w.drew _ b hb;have bJ:w1.heap[w.heap.size]?=some (.cells row e (row.size,row.size+1)):=heap_alloc_new w.drew _
 let F' :Nat->Prop:=λb=>F b\/b=w.heap.size
 have bP:¬live ρ w.heap.size:=by
  rintro⟨k,l,hk,hb⟩;have:=(hr.ob k).lt hk hb;omega
 have hrel:Rel N F' ρ st a w1:=by
  refine⟨⟨?_,?_,hr.rw.inj,hr.rw.tab_of (λb hb=>hold b (hr.rw.lt b hb)) λb hb=>.inl hb⟩,λj=>(hr.fr j).mono (λb hb=>hold b (hr.rw.lt b hb)) (λb hb=>.inl hb) (λ_ _ h=>h),
   λj=>(hr.ob j).through (λb hb=>hold b (hr.rw.lt b hb)) (λb hb=>.inl hb) (λl b hl hb=>hold b ((hr.ob j).lt hl hb)),hr.sz,hr.df⟩
  ·rintro b (hb|rfl)
   ·exact hr.rw.dis b hb
   ·exact bP
  ·rintro b (hb|rfl)
   ·have:=hr.rw.lt b hb
    simp[w1];omega
   ·simp[w1]
 have hfr:Fr F ρ w F' ρ w1:=by
  refine⟨rfl,rfl,rfl,by simp[w1],λb hb=>.inl hb,λb hb _=>hold b hb,?_,λ_ _=>Stab.refl _ _⟩;rintro b hb ((h|rfl)| h)
  ·exact .inl h
  ·omega
  ·exact .inr h
 refine⟨.slice (some ⟨w.heap.size,0,none⟩) s.size (grownCap w s.size 0 e),w1,F',ρ,.inl ?_,hrel.put d (a0e hN) (.cell _ _ (.d _ _ (.sl 1 _ _ _ 0 _ (λj=>row.getD j undef) (.inr rfl) (by rw[c0i,Nat.mul_one,s2p];rfl) dT (λj hj=>?_) λj hj=>?_))),hfr,.none λb hb=>hold b hb⟩
 ·simp only[execOp,hv,Sem.run_bind,hrun,Result.andThen_ok]
  rfl
 ·rw[c0i]at hj
  have kU:j<row.size:=by
   have:s.data.toList.length=s.size:=by rw[s2p];rfl
   simp only[row,bytesRow,Array.size_append,Array.size_map,Array.size_replicate];have h2:s.data.size=s.size:=rfl;omega
  rw[s2u,cell_of_row w1 w.heap.size j row e _ bJ];simp[r2j,kU]
 ·rw[c0i]at hj
  simp only[g0d,List.getElem_map];have kH:j<s.data.size:=by rw[s2p]at hj;exact hj
  have e1:row.getD j undef=.int .u8 (s.data.toList[j].toNat:Int):=by
   simp only[row,bytesRow,r2j];rw[t2t (by simpa using kH),Array.getElem?_map,s2h kH];rfl
  rw[e1];exact .sc _ rfl
omit [Tabs]in
theorem h1v{src dst e:TypeId}(hu:P.underlying src=some (.slice e))(he:P.underlying e=some (.int .u8))(hd:P.underlying dst=some .string){w:World}{F:Nat->Prop}{n:Nat}{cs:List D}{v:Value}
  (hD:RelD w F (.sl 1 n cs) v)(b:List UInt8)(hn:n=b.length)(hc:cs=g0d b):(convert src dst v).run P w=.ok (.string ⟨b.toArray⟩) w:=by
 cases hD with
 |nil e' ad cap=>
  have:b=[]:=s2f hn.symm;subst this;cases ad with
  |none=>simp[convert,run_underlying hu,run_underlying hd,run_underlying he,Conv.bytesToString];rfl
  |some ad=>exact run_convert_bytes_back w src dst e ad cap [] hu he hd (λj hj=>by simp at hj)
 |sl e' n cT bb off cap c hF hl aU gj fh=>
  subst hc;subst hn;refine run_convert_bytes_back w src dst e ⟨bb,off,none⟩ cap b hu he hd λj hj=>?_;rw[Addr.add_lit];have bN:j<(g0d b).length:=by rw[c0i];exact hj
  rw[gj j bN];have:=fh j bN;simp only[g0d,List.getElem_map]at this;generalize c j=cj at this;cases this with
  |sc v h=>rfl
theorem IEff.ofBytes {i d n:Nat}{src dst ty:TypeId}{x:Operand}{pos:String}{after:Array Edge}{guard:Option (Nat×Bool)}{cs:List D}{b:List UInt8}{r:Bt}
  (ho:opK ops st.fr i=some ⟨some d,.convert src dst x,ty,pos,after,guard⟩)(hx:ev st.fr x=.cell (.d (.sl 1 n cs)))(hs:e0q P src=true)(hd:P.underlying dst=some .string)(hN:Nat.blt d N=true)
  (hn:n=b.length)(hc:cs=g0d b)(hr' :⟨b.toArray⟩=r):
  IEff P N ops i st (.put d (.cell (.d (.sc (.string r))))):=by
 subst hn;subst hc;subst hr';refine .of_opK ho (.of_plain rfl hN rfl λF ρ a w hr=>?_);obtain⟨e,hu,he,aR⟩:=q0q hs;have hv:=a0d hr x;rw[hx]at hv;have hD:=a0w hv;generalize bI:a.eval x=xv at hD;refine⟨.string ⟨b.toArray⟩,?_,.cell _ _ (.d _ _ (.sc _ rfl))⟩;have:=h1v (P:=P) (src:=src) (dst:=dst) hu he hd hD b rfl rfl;simp only[execOp,bI,Sem.run_bind,this,Result.andThen_ok];rfl
end
end Esp

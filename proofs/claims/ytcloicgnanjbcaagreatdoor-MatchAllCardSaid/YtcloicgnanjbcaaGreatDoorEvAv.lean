import Derived.Test.YtcloicgnanjbcaaGreatDoorEvRules
import Derived.Lib.AppendZeros
import Derived.Lib.SliceRun
noncomputable section
namespace Esp
open Go
set_option linter.unusedSimpArgs false
set_option linter.unusedVariables false
variable [Tabs]
section
variable{P:Program}{N:Nat}{ops:Array Oper}{st:ASt}
omit [Tabs]in
theorem l0p{w:World}{F:Nat→Prop}{ρ:Env}{k:Nat}{t:TypeId}{e n:Nat}{cs:List D}(h:RelOb w F ρ k (.arr t e n cs)):
  ∃u xs,ρ k=some (.arr u)∧w.ownsRow 0 t e u n xs∧xs.length=cs.length∧∀i (h:i<cs.length),RelD w F cs[i] (xs.getD i undef):=by
 cases h with
 | arr t e n cs u xs hk ho hs hh=>exact⟨u,xs,hk,ho,hs,hh⟩
omit [Tabs]in
theorem s0t{w:World}{F:Nat→Prop}{ρ:Env}{tm:Array Value}{k:Nat}{u v:Value}(h:RelAV w F ρ tm (.cell (.own k)) v)(hk:ρ k=some (.arr u)):v=u:=by
 cases h with
 | cell c v h=>cases h with
  | own k v h=>exact h u hk
omit [Tabs]in
theorem b2c{w:World}{F:Nat→Prop}{ρ:Env}{tm:Array Value}{k e j off:Nat}{u v:Value}(h:RelAV w F ρ tm (.cell (.elt k e j off)) v)(hk:ρ k=some (.arr u)):
  ∃g n cap,u= .slice (some ⟨g,0,none⟩) n cap∧v= .pointer (some ⟨g,j*e+off,none⟩):=by
 cases h with
 | cell c v h=>cases h with
  | elt k e j off v h=>exact h u hk
theorem IEff.indexOwn{i d e n k:Nat}{t ty te te' :TypeId}{x ix:Operand}{pos:String}{after:Array Edge}{guard:Option (Nat×Bool)}{cs:List D}{kk:IntKind}{j:Int}
  (ho:opK ops st.fr i=some ⟨some d, .indexAddr t x ix,ty,pos,after,guard⟩)(hx:ev st.fr x= .cell (.own k))(hk:lkO st.ob k= .arr te' e n cs)(hi:ev st.fr ix= .cell (.d (.sc (.int kk j))))
  (ht:d0m P t=some (te,e))(hd:Nat.blt d N=true)(h0:0≤j)(h1:j<n):IEff P N ops i st (.put d (.cell (.elt k e j.toNat 0))):=by
 refine .of_opK ho (.of_plain rfl hd rfl fun F ρ a w hr=> ?_);obtain⟨hu,hs⟩:=e0g ht;have hv:=a0f hr x;rw [hx]at hv;have hiv:=(a0n (a0f hr ix) (by rw [hi];rfl)).1;have hob:=hr.ob k;rw [hk]at hob;obtain⟨u,xs,hk',ho',hz,hh⟩:=l0p hob;have hxv:=s0t hv hk';rcases ho'.2 with⟨_,hn⟩ | ⟨g,cap,cur,hu',_⟩
 ·omega
 ·refine⟨.pointer (some ⟨g,0+j.toNat*e,none⟩), ?_, .cell _ _ (.elt _ _ _ _ _ fun u2 hu2=> ?_)⟩
  ·simp [execOp,hxv,hu',hiv,Instr.indexAt,asIntOf,run_underlying hu,h0,h1,a0l hs,Addr.add_lit]
  ·rw [hk']at hu2
   cases hu2;exact⟨g,n,cap,hu',by simp⟩
theorem IEff.indexOwnN{i d k:Nat}{t ty te te' :TypeId}{x ix:Operand}{pos:String}{after:Array Edge}{guard:Option (Nat×Bool)}{τ:Ev.Ty}{xs:List τ.den}{kk:IntKind}{j:Int}
  (ho:opK ops st.fr i=some ⟨some d, .indexAddr t x ix,ty,pos,after,guard⟩)(hx:ev st.fr x= .cell (.own k))(hk:lkO st.ob k= .na te' τ xs)(hi:ev st.fr ix= .cell (.d (.sc (.int kk j))))
  (ht:d0m P t=some (te,τ.sz))(hd:Nat.blt d N=true)(h0:0≤j)(h1:j<xs.length):IEff P N ops i st (.put d (.cell (.elt k τ.sz j.toNat 0))):=
 .ofLow (.indexOwn (by rw [c0r];exact ho) (by rw [c0j,hx];rfl) (by rw [m0w,hk];rfl) (by rw [c0j,hi];rfl) ht hd h0 h1)
omit [Tabs]in
theorem w0q{t:TypeId}{A B:List D}{x:AV}(h:e0c P t A=some x):e0c P t (A++B)=some x:=by
 unfold e0c at h⊢;split at h
 ·split at h
  ·rename_i s hs
   cases hb:Nat.ble s A.length with
   | false=>rw [hb]at h;cases h
   | true=>
    rw [hb,cond_true]at h;have hle:=k2d hb;have:Nat.ble s (A++B).length=true:=k2k (by rw [j2y];omega);rw [this,cond_true,List.take_append_of_le_length hle];exact h
  ·cases h
 ·split at h
  ·rename_i c0 r
   cases h;rfl
  ·cases h
 ·cases h
omit [Tabs]in
theorem i1h{t:TypeId}{A:List D}{x:AV}(h:e0c P t A=some x)(d:Nat):x.uses d=false:=by
 unfold e0c at h;split at h
 ·split at h
  ·rename_i s hs
   cases hb:Nat.ble s A.length with
   | false=>rw [hb]at h;cases h
   | true=>rw [hb]at h;cases h;rfl
  ·cases h
 ·split at h
  ·cases h;rfl
  ·cases h
 ·cases h
omit [Tabs]in
theorem r0p(τ:Ev.Ty){xs:List τ.den}{j:Nat}{y:τ.den}(h:xs[j]? =some y)(off:Nat)(ho:off≤τ.sz):(flat τ xs).drop (j*τ.sz+off)=(cells τ y).drop off++flat τ (xs.drop (j+1)):=by
 obtain⟨hj,rfl⟩:=k2a.1 h;rw [←List.drop_drop,e0w,m2d hj];have:flat τ (xs[j]::xs.drop (j+1))=cells τ xs[j]++flat τ (xs.drop (j+1)):=rfl;rw [this,List.drop_append_of_le_length (by rw [a0w];exact ho)]
theorem IEff.loadElt{i d k j off:Nat}{t ty te:TypeId}{p:Operand}{pos:String}{after:Array Edge}{guard:Option (Nat×Bool)}{τ:Ev.Ty}{xs:List τ.den}{y:τ.den}{x:AV}
  (ho:opK ops st.fr i=some ⟨some d, .load t p,ty,pos,after,guard⟩)(hp:ev st.fr p= .cell (.elt k τ.sz j off))(hk:lkO st.ob k= .na te τ xs)(hd:Nat.blt d N=true)(hy:xs[j]? =some y)(hoff:Nat.ble off τ.sz=true)
  (hx:e0c P t ((cells τ y).drop off)=some x):IEff P N ops i st (.put d x):=by
 have hle:=k2d hoff;refine .ofLow (.of_opK (o:=⟨some d, .load t p,ty,pos,after,guard⟩) (by rw [c0r];exact ho) (.of_val rfl hd (i1h hx d) fun F ρ a w hr=> ?_))
 ·have hv:i1r P st.low.fr st.low.ob t p=some x:=by
   unfold i1r;rw [c0j,hp];show(match lkO st.low.ob k with
    | .arr _ _ _ cs=>bif Nat.ble (j*τ.sz+off) cs.length then e0c P t (cs.drop (j*τ.sz+off))else none
    | _=>none)=some x
   rw [m0w,hk];show(bif Nat.ble (j*τ.sz+off) (flat τ xs).length then e0c P t ((flat τ xs).drop (j*τ.sz+off))else none)=some x
   have hj:=(k2a.1 hy).1;have h1:(j+1)*τ.sz≤xs.length*τ.sz:=l2o _ hj;rw [m2h,Nat.one_mul]at h1;rw [k2k (by rw [b0i];omega),cond_true,r0p τ hy off hle];exact w0q hx
  obtain⟨v,h1,h2⟩:=o0r (P:=P) hr hv;exact⟨v,by simp [execOp,h1],h2⟩
def v0b(P:Program)(st:ASt)(t:TypeId)(p x:Operand):Option Eff:=
 match ev st.fr p,cellsOf st.ob (ev st.fr x),c0i P t with
 | .cell (.elt k e j off),some vs,some s=>match lkO st.ob k,allD vs with
  | .arr te e' n cs,some ds=>bif Nat.beq ds.length s&&Nat.ble (j*e+off+ds.length) cs.length then some (.upd k (.arr te e' n (b0a cs (j*e+off) ds)))else none
  | _,_=>none
 | _,_,_=>none
theorem c1i{e:Eff}{o:Oper}{t:TypeId}{p x:Operand}(ho:o.op= .store t p x)(hd:o.dst=none)(hs:v0b P st t p x=some e):OpEff P N o st e:=by
 obtain⟨dst,op,ty,pos,after,guard⟩:=o;dsimp only at ho hd;subst ho;subst hd;unfold v0b at hs;split at hs
 ·rename_i k e j off vs s he hc hz
  split at hs
  ·rename_i te e' n cs ds hk had
   cases hb:(Nat.beq ds.length s&&Nat.ble (j*e+off+ds.length) cs.length)with
   | false=>rw [hb]at hs;cases hs
   | true=>
    rw [hb]at hs;cases hs;simp only [j2s]at hb;have e1:=j2t hb.1;have e2:=k2d hb.2;have evs:=g0v had;subst evs;refine⟨rfl,fun F ρ a w h=> ?_⟩;have hp:=a0f h p;rw [he]at hp;have hv:=f0s h.ob (a0f h x) hc;have hob:=h.ob k;rw [hk]at hob;obtain⟨u,xs,hk',hown,hsz,hh⟩:=l0p hob;obtain⟨g,n2,cap2,eu,ep⟩:=b2c hp hk';rcases hown.2 with⟨hu0,hn0⟩ | ⟨g',cap,cur,hu1,hbg,hg,hcap,hcm,hcs,htake⟩
    ·rw [hu0]at eu;cases eu
    ·rw [hu1]at eu
     simp only [Value.slice.injEq,j2v,Addr.mk.injEq,and_true]at eu;obtain⟨eg,en,ec⟩:=eu;subst eg;have hlen:(a.eval x).cells.toList.length=ds.length:=by have:=hv.1;simpa using this
     have hdv: ∀i (hi:i<ds.length),RelD w F ds[i] ((a.eval x).cells.getD i undef):=fun i hi=>by
      have h5:=hv.2 i (by simpa using hi);simp only [List.getElem_map]at h5;cases h5 with
      | d y v h5=>exact h5
     have hone: ∀v∈(a.eval x).cells.toList,v.oneCell' =true:=by
      intro v hv';obtain⟨i,hi,rfl⟩:=List.getElem_of_mem hv';have hi' :i<ds.length:=by omega
      have:=(hdv i hi').oneCell;have e:(a.eval x).cells.getD i undef=(a.eval x).cells.toList[i]:=by
       have hi2:i< (a.eval x).cells.size:=by simpa using hi
       simp [j2u,hi2]
      rwa [e]at this
     have hxn:xs.length=n*e' :=hown.1;have hnc:n*e' ≤cur.size:=by rw [hcs];exact l2o _ hcap
     have hfit:j*e+off+0+(a.eval x).cells.toList.length≤cur.size:=by omega
     have hrun:=run_storeCells_at P g' (j*e+off) te (a.eval x).cells.toList 0 cur w hg hfit hone;simp only [m2p]at hrun
     let new:Array Value:=(cur.toList.take (j*e+off)++(a.eval x).cells.toList++cur.toList.drop (j*e+off+(a.eval x).cells.toList.length)).toArray
     have hnew:(w.setRow g' new).heap[g']? =some (.cells new te (0,0)):=setRow_heap w g' cur new te (0,0) hg;have hget: ∀i,new[i]? =if j*e+off≤i∧i<j*e+off+ds.length then(a.eval x).cells.toList[i - (j*e+off)]? else cur[i]? :=by
      intro i;have:=c0y cur.toList (j*e+off) (a.eval x).cells.toList (by simp at hfit⊢;omega) i;rw [←hlen];simpa [new,b0a]using this
     have hns:new.size=cur.size:=by
      have:=a0u cur.toList (j*e+off) (a.eval x).cells.toList (by simp at hfit⊢;omega);simpa [new,b0a]using this
     have hF: ∀b',F b' →(w.setRow g' new).heap[b']? =w.heap[b']? :=fun b' hb' =>setRow_other w g' b' new fun e=>h.rw.dis b' hb' ⟨k,_,hk',by rw [hu1,e];rfl⟩;obtain⟨h1,h2⟩:=h.setBox (w' :=w.setRow g' new) rfl rfl rfl (by simp [World.setRow]) k (.arr te e' n (b0a cs (j*e+off) ds))
      (fun b' hb' =>setRow_other w g' b' new fun e=>hb' _ hk' (by rw [hu1,e];rfl))
      (by
       refine .arr te e' n _ u (new.toList.take (n*e')) hk' ⟨by rw [k2g,k2z,hns];omega, .inr ⟨g',cap,new,hu1,hbg,hnew,hcap,hcm,by rw [hns,hcs],rfl⟩⟩ ?_ fun i hi=> ?_
       ·rw [k2g,k2z,hns,a0u _ _ _ e2]
        omega
       ·have hi' :i<cs.length:=by rwa [a0u _ _ _ e2]at hi
        have hs:=c0y cs (j*e+off) ds e2 i;rw [j2x hi]at hs;have hg2:=hget i;have e5:(new.toList.take (n*e')).getD i undef=new.getD i undef:=by
         rw [j2z,l2y,if_pos (by omega),l2n,j2u]
        rw [e5];by_cases hin:j*e+off≤i∧i<j*e+off+ds.length
        ·rw [if_pos hin,j2x (by omega)]at hs
         simp only [j2v]at hs;rw [if_pos hin]at hg2;have hvj:i - (j*e+off)< (a.eval x).cells.size:=by have:=hv.1;simp at this;omega
         have e3:(a.eval x).cells.toList[i - (j*e+off)]? =some ((a.eval x).cells.getD (i - (j*e+off)) undef):=by
          simp [j2u,hvj]
         rw [e3]at hg2;rw [a0v hg2,hs];exact(hdv (i - (j*e+off)) (by omega)).mono hF fun _ h=>h
        ·rw [if_neg hin,j2x hi']at hs
         simp only [j2v]at hs;rw [if_neg hin]at hg2;have hci:i<cur.size:=by omega
         rw [k2r hci]at hg2;rw [a0v hg2,hs];have e4:xs.getD i undef=cur[i]:=by
          rw [←htake,j2z,l2y,if_pos (by omega),l2n,k2r hci,l2x]
         rw [←e4];exact(hh i hi').mono hF fun _ h=>h)
     refine⟨undef,_,F,ρ, .inr ⟨?_,rfl⟩,h1,h2,⟨fun _ _=>rfl,fun b' hb' hn=>setRow_other w g' b' new fun e=>hn k _ rfl hk' (by rw [hu1,e];rfl)⟩⟩;have hsize:(a.eval x).cells.size=s:=by have:=hv.1;simp at this;omega
     simp only [execOp,Instr.storeAt,ep,Instr.sureAddr,storeVar,Sem.run_bind,Sem.run_pure,Result.andThen_ok,a0l hz,hsize,ne_eq,not_true_eq_false,if_false,hrun];rfl
  ·cases hs
 ·cases hs
omit [Tabs]in
theorem a1o{x:AV}{vs:List AC}{ds:List D}(h:cellsOf st.ob x=some vs)(hd:allD vs=some ds): ∃ds',cellsOf st.low.ob x.low=some (ds'.map .d)∧ds'.length=ds.length∧dsle ds' ds:=by
 have e:=g0v hd;subst e;have key: ∀d:D,dle d.low d:=by
  intro d w F v hv;cases d with
  | nl t xs=>exact .nl t xs v hv
  | _=>exact hv
 cases x with
 | cell c=>
  simp only [cellsOf]at h;cases hk:c.okIn st.ob with
  | false=>rw [hk]at h;cases h
  | true=>
   rw [hk,cond_true]at h
   match ds,h with
   | [y],h=>
    simp only [k2l,m2f,j2v,List.cons.injEq,and_true]at h;subst h;exact⟨[y.low],rfl,rfl,key y,trivial⟩
 | aggD cs=>
  simp only [cellsOf,j2v]at h;have:cs=ds:=by
   clear key hd
   induction cs generalizing ds with
   | nil=>cases ds with
    | nil=>rfl
    | cons _ _=>cases h
   | cons c r ih=>cases ds with
    | nil=>cases h
    | cons q l=>
     simp only [k2l,List.cons.injEq,AC.d.injEq]at h;rw [h.1,ih h.2]
  subst this;exact⟨cs,rfl,rfl, .refl _⟩
 | agg cs=>
  simp only [cellsOf,j2v]at h;subst h;exact⟨ds,rfl,rfl, .refl _⟩
 | tup=>cases h
 | whn=>cases h
 | junk=>cases h
omit [Tabs]in
theorem i1m{α:Type}(A c B:List α)(off:Nat)(vs:List α)(h:off+vs.length≤c.length):b0a (A++c++B) (A.length+off) vs=A++b0a c off vs++B:=by
 unfold b0a;rw [l2m A c B];simp only [List.take_append,List.drop_append,l2m];have e1:A.length+off - A.length=off:=by omega
 have e2:A.length+off+vs.length - A.length=off+vs.length:=by omega
 rw [e1,e2,List.take_of_length_le (show A.length≤A.length+off by omega),List.drop_of_length_le (show A.length≤A.length+off+vs.length by omega),show off - c.length=0 by omega,show off+vs.length - c.length=0 by omega];simp
omit [Tabs]in
theorem s0b: ∀{a b c:List D},dsle a b→dsle b c→dsle a c
 | [], [], [],_,_=>trivial
 | x::r,y::s,z::t,h,k=>⟨fun w F v hv=>k.1 w F v (h.1 w F v hv),s0b h.2 k.2⟩
 | [],_::_,_,h,_=>h.elim
 | _::_, [],_,h,_=>h.elim
 | [], [],_::_,_,k=>k.elim
 | _::_,_::_, [],_,k=>k.elim
omit [Tabs]in
theorem c1d{c:List D}{off:Nat}{vs us:List D}(h:dsle vs us):dsle (b0a c off vs) (b0a c off us):=by
 unfold b0a;rw [h.length];exact(dsle.refl _).append (h.append (.refl _))
theorem IEff.updN{i k:Nat}{te:TypeId}{τ:Ev.Ty}{n:Nat}{cs:List D}{xs:List τ.den}(hn:xs.length=n)(hle:dsle cs (flat τ xs))(h:IEff P N ops i st (.upd k (.arr te τ.sz n cs))):IEff P N ops i st (.upd k (.na te τ xs)):=by
 refine IEff.conv (e:= .upd k (.arr te τ.sz n cs)) rfl rfl rfl (fun F ρ a w hr=>⟨hr.rw,fun j=> ?_,fun j=> ?_,hr.sz,hr.df⟩) h
 ·have hj:=hr.fr j
  rw [b0s]at hj⊢;exact hj
 ·have hj:=hr.ob j
  rw [g0d]at hj⊢;simp only [Eff.appF]at hj⊢;by_cases e:j=k
  ·subst e
   rw [if_pos rfl]at hj⊢;exact hj.to_na hn hle
  ·rw [if_neg e]at hj⊢
   exact hj
theorem IEff.storeElt{i k j off:Nat}{t ty te:TypeId}{p x:Operand}{pos:String}{after:Array Edge}{guard:Option (Nat×Bool)}{τ:Ev.Ty}{xs:List τ.den}{y y' :τ.den}{vs:List AC}{ds:List D}{s:Nat}
  (ho:opK ops st.fr i=some ⟨none, .store t p x,ty,pos,after,guard⟩)(hp:ev st.fr p= .cell (.elt k τ.sz j off))(hk:lkO st.ob k= .na te τ xs)(hc:cellsOf st.ob (ev st.fr x)=some vs)(had:allD vs=some ds)(hz:c0i P t=some s)
  (hs:Nat.beq ds.length s=true)(hoff:Nat.ble (off+ds.length) τ.sz=true)(hy:xs[j]? =some y)(hy' :rd τ (b0a (cells τ y) off ds)=some y'):IEff P N ops i st (.upd k (.na te τ (xs.set j y'))):=by
 have e1:=j2t hs;have e2:=k2d hoff;obtain⟨ds',h1,h2,h3⟩:=a1o hc had;obtain⟨hj,ey⟩:=k2a.1 hy;have hall:allD (ds'.map .d)=some ds' :=by
  clear h1 h2 h3
  induction ds' with
  | nil=>rfl
  | cons a r ih=>simp [allD,ih]
 have hm:(j+1)*τ.sz≤xs.length*τ.sz:=l2o _ hj;rw [m2h,Nat.one_mul]at hm;have hlow:v0b P st.low t p x=some (.upd k (.arr te τ.sz xs.length (b0a (flat τ xs) (j*τ.sz+off) ds'))):=by
  unfold v0b;rw [c0j,hp,c0j,h1,hz];show(match lkO st.low.ob k,allD (ds'.map .d)with
   | .arr te e' n cs,some ds=>bif Nat.beq ds.length s&&Nat.ble (j*τ.sz+off+ds.length) cs.length then some (Eff.upd k (.arr te e' n (b0a cs (j*τ.sz+off) ds)))else none
   | _,_=>none)=_
  rw [m0w,hk,hall];show(bif Nat.beq ds'.length s&&Nat.ble (j*τ.sz+off+ds'.length) (flat τ xs).length then some (Eff.upd k (.arr te τ.sz xs.length (b0a (flat τ xs) (j*τ.sz+off) ds')))else none)=_
  rw [h2,hs,k2k (by rw [b0i];omega)];rfl
 refine IEff.updN (n:=xs.length) (cs:=b0a (flat τ xs) (j*τ.sz+off) ds') (by simp) ?_ (.ofLow (.of_opK (by rw [c0r];exact ho) (c1i rfl rfl hlow)));have hx:xs=xs.take j++y::xs.drop (j+1):=by
  rw [←ey, ←m2d hj,List.take_append_drop]
 have hset:xs.set j y' =xs.take j++y' ::xs.drop (j+1):=List.set_eq_take_append_cons_drop.trans (by rw [if_pos hj]);have hA:(flat τ (xs.take j)).length=j*τ.sz:=by rw [b0i,k2g,Nat.min_eq_left (by omega)]
 have hc: ∀z:τ.den,flat τ (xs.take j++z::xs.drop (j+1))=flat τ (xs.take j)++cells τ z++flat τ (xs.drop (j+1)):=fun z=>by
  rw [d0v,l2m];rfl
 rw [hset,hc y']
 conv=>lhs;rw [hx,hc y, ←hA]
 rw [i1m _ _ _ _ _ (by rw [a0w];omega)];exact((dsle.refl _).append (s0b (c1d h3) (t0c hy'))).append (.refl _)
theorem IEff.shrink{i d e n k:Nat}{t ty te te' :TypeId}{x hi:Operand}{pos:String}{after:Array Edge}{guard:Option (Nat×Bool)}{cs:List D}{q:Int}
  (ho:opK ops st.fr i=some ⟨some d, .slice t x none (some hi) none,ty,pos,after,guard⟩)(hx:ev st.fr x= .cell (.own k))(hk:lkO st.ob k= .arr te' e n cs)
  (ht:d0m P t=some (te,e))(hh:bndV st.fr (some hi) n=some q)(hd:Nat.blt d N=true)(h0:0≤q)(h1:q≤n)(hk2:Nat.blt k 2000000=true):
  IEff P N ops i st (.new k (.arr te' e q.toNat (cs.take (q.toNat*e))) d (.cell (.own k))):=by
 refine .of_opK ho ⟨rfl,fun F ρ a w hr=> ?_⟩;obtain⟨hu,hs⟩:=e0g ht;have hv:=a0f hr x;rw [hx]at hv;have hob:=hr.ob k;rw [hk]at hob;obtain⟨u,xs,hk',hown,hz,hrr⟩:=l0p hob;have hxv:=s0t hv hk';have hlo:bndV st.fr none 0=some (0:Int):=rfl;obtain⟨u',hrun,hown',hblk⟩: ∃u',(execOp a.eval ⟨some d, .slice t x none (some hi) none,ty,pos,after,guard⟩).run P w= .ok (.value u') w∧w.ownsRow 0 te' e u' q.toNat (xs.take (q.toNat*e))∧u'.ownBlock=u.ownBlock:=by
  have hqe:q.toNat*e≤n*e:=l2o _ (by omega);rcases hown.2 with⟨hu0,hn0⟩ | ⟨g,cap,cur,hu1,hbg,hg,hcap,hcm,hcs,htake⟩
  ·have hb:=c0e (P:=P) (cap:=0) hr true hlo hh (by omega) h0 (by omega) (by omega)
   have hq0:q.toNat=0:=by omega
   refine⟨.slice none 0 0, ?_,⟨by rw [hq0];simp, .inl ⟨rfl,hq0⟩⟩,by rw [hu0]⟩;simp only [execOp,hxv,hu0,Instr.sliceAt,Sem.run_bind,run_underlying hu,Result.andThen_ok,Instr.slice,l2w];have hb' :(Instr.sliceBounds true 0 0 none (some (a.eval hi)) none).run P w= .ok (0,q.toNat,0) w:=by
    have:=hb;simp only [l2w,l2i]at this;rw [hn0]at this;exact this
   simp only [l2i,hb',Result.andThen_ok,a0l hs];rw [hq0];rfl
  ·have hb:=c0e (P:=P) (cap:=cap) hr true hlo hh (by omega) h0 h1 hcap
   refine⟨.slice (some ⟨g,0,none⟩) q.toNat cap, ?_,⟨by rw [k2g,hown.1];omega, .inr ⟨g,cap,cur,rfl,hbg,hg,by omega,hcm,hcs,by rw [←htake,List.take_take,Nat.min_eq_left hqe]⟩⟩,by rw [hu1];rfl⟩;have hb' :(Instr.sliceBounds true n cap none (some (a.eval hi)) none).run P w= .ok (0,q.toNat,cap) w:=hb;simp only [execOp,hxv,hu1,Instr.sliceAt,Sem.run_bind,run_underlying hu,Result.andThen_ok,Instr.slice,l2w,l2i,hb',a0l hs,Addr.add_lit];simp
 obtain⟨h1',h2'⟩:=hr.setOb (w' :=w) rfl rfl rfl (k2h _) k (.arr u') (.arr te' e q.toNat (cs.take (q.toNat*e))) (fun _ _ _=>rfl)
  (fun b hb=>⟨(hown'.lt b hb).2, .inr ⟨_,hk',by show u.ownBlock=some b;rw [←hblk];exact hb⟩⟩)
  (.arr _ _ _ _ u' _ (Env.set_same _ _ _) hown' (by simp [hz]) fun j hj=>by
   simp only [k2g]at hj;rw [List.getElem_take];have h5:=hrr j (by omega);have e5:(xs.take (q.toNat*e)).getD j undef=xs.getD j undef:=by
    rw [j2z,l2y,if_pos (by omega),j2z]
   rw [e5];exact h5) (fun _=>by rw [hk'];exact fun h=>absurd (a0j hk2) (by omega))
 refine⟨u',w,F,_, .inl hrun,h1'.put d (a0j hd) (.cell _ _ (.own _ _ fun u2 hu2=>by rw [Env.set_same]at hu2;cases hu2;rfl)),h2',⟨fun j hj=>Env.set_other _ _ _ fun e=>hj (by rw [e];rfl),fun _ _ _=>rfl⟩⟩
theorem IEff.shrinkN{i d k:Nat}{t ty te te' :TypeId}{x hi:Operand}{pos:String}{after:Array Edge}{guard:Option (Nat×Bool)}{τ:Ev.Ty}{xs:List τ.den}{q:Int}
  (ho:opK ops st.fr i=some ⟨some d, .slice t x none (some hi) none,ty,pos,after,guard⟩)(hx:ev st.fr x= .cell (.own k))(hk:lkO st.ob k= .na te' τ xs)
  (ht:d0m P t=some (te,τ.sz))(hh:bndV st.fr (some hi) xs.length=some q)(hd:Nat.blt d N=true)(h0:0≤q)(h1:q≤xs.length)(hk2:Nat.blt k 2000000=true):
  IEff P N ops i st (.new k (.na te' τ (xs.take q.toNat)) d (.cell (.own k))):=by
 refine IEff.new_ob (o:= .arr te' τ.sz q.toNat (flat τ (xs.take q.toNat))) (fun w F ρ hw=>hw.to_na (by simp;omega) (.refl _)) (.ofLow ?_);rw [←h0e];exact .shrink (by rw [c0r];exact ho) (by rw [c0j,hx];rfl) (by rw [m0w,hk];rfl) ht (by rw [k0t];exact hh) hd h0 h1 hk2
theorem IEff.restOwn{i d e n k:Nat}{t ty te te' :TypeId}{x lo:Operand}{pos:String}{after:Array Edge}{guard:Option (Nat×Bool)}{cs:List D}{q:Int}
  (ho:opK ops st.fr i=some ⟨some d, .slice t x (some lo) none none,ty,pos,after,guard⟩)(hx:ev st.fr x= .cell (.own k))(hk:lkO st.ob k= .arr te' e n cs)
  (ht:d0m P t=some (te,e))(hl:bndV st.fr (some lo) 0=some q)(hd:Nat.blt d N=true)(h0:0≤q)(h1:q≤n):
  IEff P N ops i st (.put d (.cell (.osl k e q.toNat (n - q.toNat)))):=by
 refine .of_opK ho (.of_plain rfl hd rfl fun F ρ a w hr=> ?_);obtain⟨hu,hs⟩:=e0g ht;have hv:=a0f hr x;rw [hx]at hv;have hob:=hr.ob k;rw [hk]at hob;obtain⟨u,xs,hk',hown,hz,hrr⟩:=l0p hob;have hxv:=s0t hv hk';have hhi:bndV st.fr none n=some (n:Int):=rfl;rcases hown.2 with⟨hu0,hn0⟩ | ⟨g,cap,cur,hu1,hbg,hg,hcap,hcm,hcs,htake⟩
 ·have hb:=c0e (P:=P) (cap:=0) hr true hl hhi h0 h1 (by omega) (by omega)
  have hb' :(Instr.sliceBounds true 0 0 (some (a.eval lo)) none none).run P w= .ok (q.toNat,n,0) w:=by
   have:=hb;simp only [l2w,l2i]at this;rw [hn0]at this⊢;exact this
  refine⟨.slice none (n - q.toNat) (0 - q.toNat), ?_, .cell _ _ (.osl _ _ _ _ _ fun u2 _=>⟨_,_,rfl,fun h=>absurd h (by omega)⟩)⟩;simp only [execOp,hxv,hu0,Instr.sliceAt,Sem.run_bind,run_underlying hu,Result.andThen_ok,Instr.slice,l2w,l2i,hb',a0l hs];rw [hn0];simp
 ·have hb:=c0e (P:=P) (cap:=cap) hr true hl hhi h0 h1 (by omega) hcap
  have hb' :(Instr.sliceBounds true n cap (some (a.eval lo)) none none).run P w= .ok (q.toNat,n,cap) w:=by
   have:=hb;simp only [l2w,l2i]at this;exact this
  refine⟨.slice (if cap=q.toNat then some ⟨g,0,none⟩else some ⟨g,0+q.toNat*e,none⟩) (n - q.toNat) (cap - q.toNat), ?_, .cell _ _ (.osl _ _ _ _ _ fun u2 hu2=>⟨_,_,rfl,fun h=> ?_⟩)⟩
  ·simp only [execOp,hxv,hu1,Instr.sliceAt,Sem.run_bind,run_underlying hu,Result.andThen_ok,Instr.slice,l2w,l2i,hb',a0l hs,Addr.add_lit]
   rfl
  ·rw [hk']at hu2
   cases hu2;rw [if_neg (by omega),l2b];exact⟨g,n,cap,hu1,rfl⟩
omit [Tabs]in
theorem b2h{w:World}{F:Nat→Prop}{ρ:Env}{tm:Array Value}{k e lo n:Nat}{u v:Value}(h:RelAV w F ρ tm (.cell (.osl k e lo n)) v)(hk:ρ k=some (.arr u)):
  ∃a c,v= .slice a n c∧(n≠0→∃g n0 cap,u= .slice (some ⟨g,0,none⟩) n0 cap∧a=some ⟨g,lo*e,none⟩):=by
 cases h with
 | cell c v h=>cases h with
  | osl k e j off v h=>exact h u hk
def c0f(z:List Value)(n:Nat):List D:=(List.replicate n (z.map D.sc)).flatten
omit [Tabs]in
theorem d0n(z:List Value)(n:Nat):(c0f z n).length=n*z.length:=by simp [c0f]
omit [Tabs]in
theorem m0t(z:Array Value)(n:Nat):(Builtin.zeroCells z n).toList=(List.replicate n z.toList).flatten:=by
 unfold Builtin.zeroCells;rw [Array.toList_map,Array.toList_range]
 induction n with
 | zero=>simp
 | succ n ih=>
  rw [m2h,Nat.one_mul,List.range_add,List.map_append,ih,List.replicate_succ',List.flatten_append];congr 1;simp only [List.flatten_cons,List.flatten_nil,k2y,List.map_map];apply List.ext_getElem?;intro i;rw [l2d];by_cases h:i<z.size
  ·rw [List.getElem?_range h,l2n,k2r h]
   simp only [l2i,Function.comp,j2v];have:(n*z.size+i)%z.size=i:=by rw [Nat.mul_comm,Nat.mul_add_mod];exact m2s h
   rw [this];simp [h]
  ·rw [List.getElem?_eq_none (by simpa using h),List.getElem?_eq_none (by simpa using h)]
   rfl
theorem IEff.clearRest{i k e lo m n:Nat}{t ty te te' :TypeId}{x:Operand}{pos:String}{after:Array Edge}{guard:Option (Nat×Bool)}{cs:List D}{z:List Value}
  (ho:opK ops st.fr i=some ⟨none, .call {callee:= .builtin .clear,args:= #[x],argTypes:= #[t]},ty,pos,after,guard⟩)(hx:ev st.fr x= .cell (.osl k e lo m))(hk:lkO st.ob k= .arr te' e n cs)
  (ht:d0m P t=some (te,e))(hz:i0e P te=some z)(hze:z.length=e)(hle:lo+m≤n):
  IEff P N ops i st (.upd k (.arr te' e n (b0a cs (lo*e) (c0f z m)))):=by
 refine .of_opK ho ⟨rfl,fun F ρ a w h=> ?_⟩;obtain⟨hu,hs⟩:=e0g ht;have hv:=a0f h x;rw [hx]at hv;have hob:=h.ob k;rw [hk]at hob;obtain⟨u,xs,hk',hown,hsz,hh⟩:=l0p hob;obtain⟨ad,c,ev1,ev2⟩:=b2h hv hk';obtain⟨zv,hzr,hzc,hz1⟩:=l0f hz;have run0: ∀w',(Builtin.clear_ #[t] ty #[.slice ad m c]).run P w= .ok (.tuple #[]) w' →(execOp a.eval ⟨none, .call {callee:= .builtin .clear,args:= #[x],argTypes:= #[t]},ty,pos,after,guard⟩).run P w= .ok (.value (.tuple #[])) w' :=fun w' hr=>by
  simp only [execOp,resolve,invoke,builtin,Sem.run_bind,Sem.run_pure,Result.andThen_ok,List.map_toArray,k2l,m2f,ev1,hr]
 by_cases hm:m=0
 ·subst hm
  have hrun:(Builtin.clear_ #[t] ty #[.slice ad 0 c]).run P w= .ok (.tuple #[]) w:=by
   unfold Builtin.clear_;simp only [Sem.run_bind,run_underlying hu,Result.andThen_ok,List.getElem?_toArray,m2c];cases ad<;>rfl
  have e1:b0a cs (lo*e) (c0f z 0)=cs:=by simp [b0a,c0f]
  rw [e1];refine⟨_,w,F,ρ, .inl (run0 w hrun),⟨h.rw,h.fr,fun j=> ?_,h.sz,h.df⟩,Fr.refl F ρ w, .none fun _ _=>rfl⟩;show RelOb w F ρ j (lkO (ASt.setO k _ st.ob) j);by_cases ej:j=k
  ·subst ej
   rw [a0q, ←hk];exact h.ob j
  ·rw [a0o _ _ _ _ ej]
   exact h.ob j
 obtain⟨g,n0,cap0,eu,ead⟩:=ev2 hm;rcases hown.2 with⟨hu0,hn0⟩ | ⟨g',cap,cur,hu1,hbg,hg,hcap,hcm,hcs,htake⟩
 ·rw [hu0]at eu;cases eu
 ·rw [hu1]at eu
  simp only [Value.slice.injEq,j2v,Addr.mk.injEq,and_true]at eu;obtain⟨eg,en,ec⟩:=eu;subst eg;subst ead
  let vs:List Value:=(Builtin.zeroCells zv.cells m).toList
  have hvs:vs=(List.replicate m z).flatten:=by show(Builtin.zeroCells zv.cells m).toList=_;rw [m0t,hzc]
  have hvl:vs.length=m*e:=by rw [hvs];simp [hze]
  have hone: ∀v∈vs,v.oneCell' =true:=by
   intro v hv';rw [hvs]at hv';obtain⟨l,hl,hv2⟩:=List.mem_flatten.1 hv';rw [List.eq_of_mem_replicate hl]at hv2;exact hz1 v hv2
  have hds:c0f z m=vs.map D.sc:=by
   rw [hvs];unfold c0f;rw [List.map_flatten,List.map_replicate]
  have hxn:xs.length=n*e:=hown.1;have hnc:n*e≤cur.size:=by rw [hcs];exact l2o _ hcap
  have hlm:(lo+m)*e≤n*e:=l2o _ hle;rw [m2h]at hlm;have hfit:lo*e+0+vs.length≤cur.size:=by omega
  have hsr:=run_storeCells_at P g' (lo*e) te' vs 0 cur w hg hfit hone;simp only [m2p]at hsr
  let new:Array Value:=(cur.toList.take (lo*e)++vs++cur.toList.drop (lo*e+vs.length)).toArray
  have hrun:(Builtin.clear_ #[t] ty #[.slice (some ⟨g',lo*e,none⟩) m c]).run P w= .ok (.tuple #[]) (w.setRow g' new):=by
   unfold Builtin.clear_;cases m with
   | zero=>exact absurd rfl hm
   | succ m=>
    simp only [Sem.run_bind,run_underlying hu,Result.andThen_ok,List.getElem?_toArray,m2c,hzr];rw [hsr];rfl
  have hnew:(w.setRow g' new).heap[g']? =some (.cells new te' (0,0)):=setRow_heap w g' cur new te' (0,0) hg;have hget: ∀i,new[i]? =if lo*e≤i∧i<lo*e+m*e then vs[i - lo*e]? else cur[i]? :=by
   intro i;have:=c0y cur.toList (lo*e) vs (by simp at hfit⊢;omega) i;rw [←hvl];simpa [new,b0a]using this
  have hns:new.size=cur.size:=by
   have:=a0u cur.toList (lo*e) vs (by simp at hfit⊢;omega);simpa [new,b0a]using this
  have hF: ∀b',F b' →(w.setRow g' new).heap[b']? =w.heap[b']? :=fun b' hb' =>setRow_other w g' b' new fun e=>h.rw.dis b' hb' ⟨k,_,hk',by rw [hu1,e];rfl⟩;have hzl:(c0f z m).length=m*e:=by rw [d0n,hze]
  have e2:lo*e+(c0f z m).length≤cs.length:=by rw [hzl];omega
  obtain⟨h1,h2⟩:=h.setBox (w' :=w.setRow g' new) rfl rfl rfl (by simp [World.setRow]) k (.arr te' e n (b0a cs (lo*e) (c0f z m)))
   (fun b' hb' =>setRow_other w g' b' new fun e=>hb' _ hk' (by rw [hu1,e];rfl))
   (by
    refine .arr te' e n _ u (new.toList.take (n*e)) hk' ⟨by rw [k2g,k2z,hns];omega, .inr ⟨g',cap,new,hu1,hbg,hnew,hcap,hcm,by rw [hns,hcs],rfl⟩⟩ ?_ fun i hi=> ?_
    ·rw [k2g,k2z,hns,a0u _ _ _ e2]
     omega
    ·have hi' :i<cs.length:=by rwa [a0u _ _ _ e2]at hi
     have hs:=c0y cs (lo*e) (c0f z m) e2 i;rw [j2x hi,hzl]at hs;have hg2:=hget i;have e5:(new.toList.take (n*e)).getD i undef=new.getD i undef:=by
      rw [j2z,l2y,if_pos (by omega),l2n,j2u]
     rw [e5];by_cases hin:lo*e≤i∧i<lo*e+m*e
     ·rw [if_pos hin]at hs
      have e7:(c0f z m)[i - lo*e]? =some (D.sc (vs[i - lo*e]'(by omega))):=by
       rw [hds,l2d,j2x (by omega)];rfl
      rw [e7]at hs;simp only [j2v]at hs;rw [if_pos hin,j2x (by omega)]at hg2;rw [a0v hg2,hs];exact .sc _ (hone _ (l2p _))
     ·rw [if_neg hin,j2x hi']at hs
      simp only [j2v]at hs;rw [if_neg hin]at hg2;have hci:i<cur.size:=by omega
      rw [k2r hci]at hg2;rw [a0v hg2,hs];have e4:xs.getD i undef=cur[i]:=by
       rw [←htake,j2z,l2y,if_pos (by omega),l2n,k2r hci,l2x]
      rw [←e4];exact(hh i hi').mono hF fun _ h=>h)
  exact⟨_,_,F,ρ, .inl (run0 _ hrun),h1,h2,⟨fun _ _=>rfl,fun b' hb' hn=>setRow_other w g' b' new fun e=>hn k _ rfl hk' (by rw [hu1,e];rfl)⟩⟩
theorem IEff.restOwnN{i d k:Nat}{t ty te te' :TypeId}{x lo:Operand}{pos:String}{after:Array Edge}{guard:Option (Nat×Bool)}{τ:Ev.Ty}{xs:List τ.den}{q:Int}
  (ho:opK ops st.fr i=some ⟨some d, .slice t x (some lo) none none,ty,pos,after,guard⟩)(hx:ev st.fr x= .cell (.own k))(hk:lkO st.ob k= .na te' τ xs)
  (ht:d0m P t=some (te,τ.sz))(hl:bndV st.fr (some lo) 0=some q)(hd:Nat.blt d N=true)(h0:0≤q)(h1:q≤xs.length):
  IEff P N ops i st (.put d (.cell (.osl k τ.sz q.toNat (xs.length - q.toNat)))):=
 .ofLow (.restOwn (by rw [c0r];exact ho) (by rw [c0j,hx];rfl) (by rw [m0w,hk];rfl) ht (by rw [k0t];exact hl) hd h0 h1)
def clrL{α:Type}(xs:List α)(lo m:Nat)(z:α):List α:=xs.take lo++(List.replicate m z++xs.drop (lo+m))
omit [Tabs]in
theorem o0d{τ:Ev.Ty}{z:List Value}{zv:τ.den}(h:rd τ (z.map .sc)=some zv): ∀m:Nat,dsle (c0f z m) (flat τ (List.replicate m zv))
 | 0=>trivial
 | m+1=>(t0c h).append (o0d h m)
theorem IEff.clearN{i k lo m:Nat}{t ty te te' :TypeId}{x:Operand}{pos:String}{after:Array Edge}{guard:Option (Nat×Bool)}{τ:Ev.Ty}{xs:List τ.den}{z:List Value}{zv:τ.den}
  (ho:opK ops st.fr i=some ⟨none, .call {callee:= .builtin .clear,args:= #[x],argTypes:= #[t]},ty,pos,after,guard⟩)(hx:ev st.fr x= .cell (.osl k τ.sz lo m))(hk:lkO st.ob k= .na te' τ xs)
  (ht:d0m P t=some (te,τ.sz))(hz:i0e P te=some z)(hze:z.length=τ.sz)(hzv:rd τ (z.map .sc)=some zv)(hle:lo+m≤xs.length):
  IEff P N ops i st (.upd k (.na te' τ (clrL xs lo m zv))):=by
 have h:=IEff.clearRest (P:=P) (N:=N) (st:=st.low) (by rw [c0r];exact ho) (by rw [c0j,hx];rfl) (by rw [m0w,hk];rfl) ht hz hze hle;refine IEff.updN (n:=xs.length) (cs:=b0a (flat τ xs) (lo*τ.sz) (c0f z m)) (by simp [clrL];omega) ?_ (.ofLow h);unfold b0a clrL;rw [d0v,d0v,h0e,d0n,hze, ←m2h,e0w];exact(dsle.refl _).append ((o0d hzv m).append (.refl _))
omit [Tabs]in
theorem g1u{t:TypeId}{cs:List D}{off:Nat}{x:AV}{w:World}{F:Nat→Prop}{ρ:Env}{tm:Array Value}{arr:Array Value}(h:RelAV w F ρ tm (.aggD cs) (.agg arr))(hx:e0c P t (cs.drop off)=some x):
  ∃v,(part t arr off).run P w= .ok v w∧RelAV w F ρ tm x v:=by
 cases h with
 | aggD cs arr hs hh=>
  unfold e0c at hx;split at hx
  ·rename_i ha
   split at hx
   ·rename_i s hsz
    cases hb:Nat.ble s (cs.drop off).length with
    | false=>rw [hb]at hx;cases hx
    | true=>
     rw [hb]at hx;simp only [cond_true,j2v]at hx;subst hx;have hle:=k2d hb;rw [k2t]at hle;by_cases h0:s=0
     ·subst h0
      exact⟨_,e0i ha hsz w, .aggD _ _ (by simp;omega) fun i hi=>by simp at hi⟩
     ·refine⟨_,e0i ha hsz w, .aggD _ _ (by simp;omega) fun i hi=> ?_⟩
      have hi' :i<s:=by simp only [k2g]at hi;omega
      rw [List.getElem_take,List.getElem_drop];have e1:(arr.extract off (off+s)).getD i undef=arr.getD (off+i) undef:=by
       rw [j2u,j2u,Array.getElem?_extract,if_pos (by omega)]
      rw [e1];exact hh (off+i) (by omega)
   ·cases hx
  ·rename_i ha
   split at hx
   ·rename_i c r hc
    cases hx;have hlt:off<cs.length:=by
     rcases m2q off cs.length with h | h
     ·exact h
     ·rw [m2k h]at hc;cases hc
    refine⟨_,e0m ha (by omega) w, .cell _ _ (.d _ _ ?_)⟩;have h1:=hh off hlt;have e2:cs[off]=c:=by rw [m2d hlt]at hc;cases hc;rfl
    rw [e2]at h1;exact h1
   ·cases hx
  ·cases hx
omit [Tabs]in
theorem d1b{t:TypeId}{A:List D}{x:AV}(h:e0c P t A=some x):x.plain=true:=by
 unfold e0c at h;split at h
 ·split at h
  ·rename_i s hs
   cases hb:Nat.ble s A.length with
   | false=>rw [hb]at h;cases h
   | true=>rw [hb]at h;cases h;rfl
  ·cases h
 ·split at h
  ·cases h;rfl
  ·cases h
 ·cases h
theorem IEff.arrIndex{i d n:Nat}{t ty e:TypeId}{x ix:Operand}{pos:String}{after:Array Edge}{guard:Option (Nat×Bool)}{τ:Ev.Ty}{cs:List D}{xs:List τ.den}{y:τ.den}{kk:IntKind}{j:Int}{z:AV}
  (ho:opK ops st.fr i=some ⟨some d, .index t x ix,ty,pos,after,guard⟩)(hu:P.underlying t=some (.array n e))(hs:c0i P e=some τ.sz)(hx:ev st.fr x= .aggD cs)(hxs:rds τ n cs=some xs)(hi:ev st.fr ix= .cell (.d (.sc (.int kk j))))
  (hd:Nat.blt d N=true)(h0:0≤j)(hy:xs[j.toNat]? =some y)(hz:e0c P e (cells τ y)=some z):IEff P N ops i st (.put d z):=by
 refine .of_opK ho (.of_plain rfl hd (d1b hz) fun F ρ a w hr=> ?_);have hv:=a0f hr x;rw [hx]at hv;have hiv:=(a0n (a0f hr ix) (by rw [hi];rfl)).1;obtain⟨hl,hle⟩:=j1q hxs;have hj:=(k2a.1 hy).1;cases hv' :a.eval x with
 | agg arr=>
  rw [hv']at hv;have h1:RelAV w F ρ #[] (.aggD (flat τ xs)) (.agg arr):=by
   cases hv with
   | aggD cs arr hs hh=>exact .aggD _ arr (hs.trans hle.length) fun i hi=>hle.get i (by rw [hle.length];exact hi) hi _ _ _ (hh i (by rw [hle.length];exact hi))
  have h2:e0c P e ((flat τ xs).drop (j.toNat*τ.sz))=some z:=by
   have:=r0p τ hy 0 (k2o _);rw [m2p,List.drop_zero]at this;rw [this];exact w0q hz
  obtain⟨v,h3,h4⟩:=g1u (P:=P) h1 h2;refine⟨v, ?_,h4⟩;have:0≤j∧j< (n:Int):=⟨h0,by omega⟩;simp only [execOp,hv',hiv,Instr.index,asIntOf,Sem.run_bind,Sem.run_pure,Result.andThen_ok,run_underlying hu];rw [if_pos this];simp only [Sem.run_bind,a0l hs,Result.andThen_ok,h3]
 | _=>rw [hv']at hv;cases hv
omit [Tabs]in
theorem c1m{t:TypeId}{cs:List AC}{off:Nat}{x:AV}{w:World}{F:Nat→Prop}{ρ:Env}{tm:Array Value}{arr:Array Value}(h:RelAV w F ρ tm (.agg cs) (.agg arr))(hx:i0h P t (cs.drop off)=some x):
  ∃v,(part t arr off).run P w= .ok v w∧RelAV w F ρ tm x v:=by
 cases h with
 | agg cs arr hs hh=>
  unfold i0h at hx;split at hx
  ·rename_i ha
   split at hx
   ·rename_i s hsz
    cases hb:Nat.ble s (cs.drop off).length with
    | false=>rw [hb]at hx;cases hx
    | true=>
     rw [hb]at hx;simp only [cond_true,j2v]at hx;subst hx;have hle:=k2d hb;rw [k2t]at hle;by_cases h0:s=0
     ·subst h0
      exact⟨_,e0i ha hsz w,b0x (.agg _ _ (by simp;omega) fun i hi=>by simp at hi)⟩
     ·refine⟨_,e0i ha hsz w,b0x (.agg _ _ (by simp;omega) fun i hi=> ?_)⟩
      have hi' :i<s:=by simp only [k2g]at hi;omega
      rw [List.getElem_take,List.getElem_drop];have e1:(arr.extract off (off+s)).getD i undef=arr.getD (off+i) undef:=by
       rw [j2u,j2u,Array.getElem?_extract,if_pos (by omega)]
      rw [e1];exact hh (off+i) (by omega)
   ·cases hx
  ·rename_i ha
   split at hx
   ·rename_i c r hc
    cases hx;have hlt:off<cs.length:=by
     rcases m2q off cs.length with h | h
     ·exact h
     ·rw [m2k h]at hc;cases hc
    refine⟨_,e0m ha (by omega) w, .cell _ _ ?_⟩;have h1:=hh off hlt;have e2:cs[off]=c:=by rw [m2d hlt]at hc;cases hc;rfl
    rw [e2]at h1;exact h1
   ·cases hx
  ·cases hx
theorem IEff.aggIndex{i d n q:Nat}{t ty e s:TypeId}{x ix:Operand}{pos:String}{after:Array Edge}{guard:Option (Nat×Bool)}{cs:List AC}{kk:IntKind}{z:AV}
  (ho:opK ops st.fr i=some ⟨some d, .index t x ix,ty,pos,after,guard⟩)(hu:P.underlying t=some (.array n e))(hs:c0i P e=some s)(hx:ev st.fr x= .agg cs)(hi:ev st.fr ix= .cell (.d (.sc (.int kk (q:Int)))))
  (hd:Nat.blt d N=true)(hq:q<n)(hz:i0h P e (cs.drop (q*s))=some z)(hp:z.plain=true):IEff P N ops i st (.put d z):=by
 refine .of_opK ho (.of_plain rfl hd hp fun F ρ a w hr=> ?_);have hv:=a0f hr x;rw [hx]at hv;have hiv:=(a0n (a0f hr ix) (by rw [hi];rfl)).1;cases hv' :a.eval x with
 | agg arr=>
  rw [hv']at hv;have h1:RelAV w F ρ #[] (.agg cs) (.agg arr):=by
   cases hv with
   | agg cs arr hs hh=>exact .agg _ arr hs hh
  obtain⟨v,h3,h4⟩:=c1m (P:=P) h1 hz;refine⟨v, ?_,h4⟩;have:(0:Int)≤(q:Int)∧(q:Int)< (n:Int):=⟨by omega,by omega⟩;simp only [execOp,hv',hiv,Instr.index,asIntOf,Sem.run_bind,Sem.run_pure,Result.andThen_ok,run_underlying hu];rw [if_pos this];simp only [Sem.run_bind,a0l hs,Result.andThen_ok,Int.toNat_natCast,h3]
 | _=>rw [hv']at hv;cases hv
theorem IEff.sliceNil{i d:Nat}{t ty te:TypeId}{e:Nat}{x:Operand}{lo hi:Option Operand}{pos:String}{after:Array Edge}{guard:Option (Nat×Bool)}
  (ho:opK ops st.fr i=some ⟨some d, .slice t x lo hi none,ty,pos,after,guard⟩)(hx:ev st.fr x= .cell (.d (.sc (.slice none 0 0))))(ht:d0m P t=some (te,e))
  (hl:bndV st.fr lo 0=some 0)(hh:bndV st.fr hi 0=some 0)(hd:Nat.blt d N=true):IEff P N ops i st (.put d (.cell (.d (.sc (.slice none 0 0))))):=by
 refine .of_opK ho (.of_plain rfl hd rfl fun F ρ a w hr=> ?_);obtain⟨hu,hs⟩:=e0g ht;have hxv:=(a0n (a0f hr x) (by rw [hx];rfl)).1;have hb:=c0e (P:=P) (len:=0) (cap:=0) hr true hl hh (by omega) (by omega) (by omega) (by omega);refine⟨.slice none 0 0, ?_, .cell _ _ (.d _ _ (.sc _ rfl))⟩;simp only [execOp,hxv,Instr.sliceAt,Sem.run_bind,run_underlying hu,Result.andThen_ok,Instr.slice,l2w,hb,a0l hs];rfl
theorem IEff.appendZ{i d:Nat}{t tn ty te:TypeId}{s y:Operand}{pos:String}{after:Array Edge}{guard:Option (Nat×Bool)}{τ:Ev.Ty}{bytes:Nat}{z:List Value}{zv:τ.den}{k1 kn:IntKind}{j:Int}
  (ho:opK ops st.fr i=some ⟨some d, .call {callee:= .builtin .append,args:= #[s,y],argTypes:= #[t,tn]},ty,pos,after,guard⟩)(hsv:ev st.fr s= .cell (.d (.sc (.slice none 0 0))))(hy:ev st.fr y= .cell (.d (.sc (.int k1 j))))
  (ht:rowB P t=some (te,τ.sz,bytes))(htn:P.underlying tn=some (.int kn))(hz:i0e P te=some z)(hzl:z.length=τ.sz)(hzv:rd τ (z.map .sc)=some zv)(hd:Nat.blt d N=true)(h0:0<j)(hr:room j.toNat bytes=true):
  IEff P N ops i st (.new d (.na te τ (List.replicate j.toNat zv)) d (.cell (.own d))):=by
 refine IEff.new_ob (o:= .arr te τ.sz j.toNat (c0f z j.toNat)) (fun w F ρ hw=>hw.to_na (by simp) (o0d hzv _)) (.of_opK ho ⟨rfl,fun F ρ a w h=> ?_⟩);obtain⟨hu,ii,zz,hi,hzz,hzs,hsz,hby⟩:=b1t ht;obtain⟨r1,r2⟩:=v0a hr;have e1:=(a0n (a0f h s) (by rw [hsv];rfl)).1;have e2:=(a0n (a0f h y) (by rw [hy];rfl)).1;have hj:((j.toNat:Nat):Int)=j:=by omega
 have hzc:zz.cells.toList=z∧∀v∈z,v.oneCell' =true:=by
  unfold i0e at hz;rw [hi]at hz;dsimp only at hz;rw [hzz]at hz;dsimp only at hz;cases hb:zz.cells.toList.all Value.oneCell' with
  | false=>rw [hb]at hz;cases hz
  | true=>
   rw [hb]at hz;cases hz;exact⟨rfl,fun v hv=>k2f.1 hb v hv⟩
 have hz0:0<ii.size:=by rw [hsz];exact τ.sz_pos
 have hrun:=Lib.run_append_nil_zeros (P:=P) w t tn ty te ii zz k1 kn hu htn hi hzz j.toNat (by omega) hz0 (by have:maxLen≤9223372036854775807:=(by unfold maxLen;omega);omega) (by rw [hby];omega);rw [hj]at hrun
 let cap:=grownCap w j.toNat 0 te
 let arr:=Builtin.zeroCells zz.cells j.toNat++Builtin.zeroCells zz.cells (cap - j.toNat)
 have hcap:j.toNat≤cap:=grownCap_ge w j.toNat 0 te;have hcl:arr.toList.take (j.toNat*τ.sz)=(List.replicate j.toNat z).flatten:=by
  show(Builtin.zeroCells zz.cells j.toNat++Builtin.zeroCells zz.cells (cap - j.toNat)).toList.take _=_;rw [Array.toList_append,m0t,hzc.1,List.take_append_of_le_length (by simp [hzl]),List.take_of_length_le (by simp [hzl])]
 have hasz:arr.size=cap*τ.sz:=by
  show(Builtin.zeroCells zz.cells j.toNat++Builtin.zeroCells zz.cells (cap - j.toNat)).size=_;rw [Array.size_append,size_zeroCells,size_zeroCells, ←m2h,hzs,hsz,Nat.add_sub_cancel' hcap]
 have hkeep: ∀b,b<w.heap.size→(w.drew.alloc (.cells arr te)).heap[b]? =w.heap[b]? :=fun b hb=>Go.RowKit.Below.heap_alloc w.drew _ b hb;obtain⟨h1,h2⟩:=h.setOb (w' :=w.drew.alloc (.cells arr te)) rfl rfl rfl (by show w.heap.size≤(w.heap.push _).size;simp) d (.arr (.slice (some ⟨w.heap.size,0,none⟩) j.toNat cap)) (.arr te τ.sz j.toNat (c0f z j.toNat))
  (fun b hb _=>hkeep b hb) (fun b hb=>by cases hb;exact⟨by show w.heap.size< (w.heap.push _).size;simp, .inl (k2h _)⟩)
  (by
   refine .arr te τ.sz j.toNat _ _ ((List.replicate j.toNat z).flatten) (Env.set_same _ _ _) ⟨by simp [hzl], .inr ⟨w.heap.size,cap,arr,rfl,k2o _,heap_alloc_new w.drew _,hcap,grownCap_le_maxLen w _ _ _ r1,hasz,hcl⟩⟩ (by rw [d0n];simp) fun q hq=> ?_;have hq' :q< ((List.replicate j.toNat z).flatten).length:=by rw [d0n]at hq;simpa using hq
   have e6:c0f z j.toNat=((List.replicate j.toNat z).flatten).map D.sc:=by
    unfold c0f;rw [List.map_flatten,List.map_replicate]
   have e7:(c0f z j.toNat)[q]=D.sc (((List.replicate j.toNat z).flatten)[q]):=by
    have:(c0f z j.toNat)[q]? =some (D.sc (((List.replicate j.toNat z).flatten)[q])):=by rw [e6,l2d,j2x hq'];rfl
    rw [j2x hq]at this;exact Option.some.inj this
   rw [e7,j2z,j2x hq',l2x];refine .sc _ ?_;obtain⟨l,hl,hv2⟩:=List.mem_flatten.1 (l2p hq');rw [List.eq_of_mem_replicate hl]at hv2;exact hzc.2 _ hv2) (fun hk=>by have:=h.df.2;have:=a0j hd;omega)
 refine⟨.slice (some ⟨w.heap.size,0,none⟩) j.toNat cap,_,F,_, .inl ?_,h1.put d (a0j hd) (.cell _ _ (.own _ _ fun u hu' => ?_)),h2,⟨fun j hj=>Env.set_other _ _ _ fun e=>hj (by rw [e];rfl),fun b hb _=>hkeep b hb⟩⟩
 ·simp only [execOp,resolve,invoke,builtin,Sem.run_bind,Sem.run_pure,Result.andThen_ok,List.map_toArray,k2l,m2f,e1,e2,hrun]
  rfl
 ·rw [Env.set_same]at hu'
  cases hu';rfl
end
end Esp
namespace Esp
open Go
set_option linter.unusedSimpArgs false
set_option linter.unusedVariables false
variable [Tabs]
def dem2{ρ:Type}(a b:Option ρ):Option ρ:=
 match a with
 | some x=> @ite _ (b=some x) (Classical.propDecidable _) (some x) none
 | none=>none
omit [Tabs]in
theorem r1c{ρ:Type}{a b:Option ρ}{r:ρ}(h:dem2 a b=some r):a=some r∧b=some r:=by
 unfold dem2 at h;split at h
 ·split at h
  ·rename_i hb
   cases h;exact⟨rfl,hb⟩
  ·cases h
 ·cases h
omit [Tabs]in
theorem w0u{ρ:Type}(a:Option ρ):dem2 a a=a:=by
 unfold dem2;split<;>simp_all
def nilq{α ρ:Type}(xs:List α)(a b:Option ρ):Option ρ:=
 match xs with
 | []=>dem2 a b
 | _::_=>b
omit [Tabs]in
theorem z1p{α ρ:Type}{xs:List α}{a b:Option ρ}{r:ρ}(h:nilq xs a b=some r):(xs= []→a=some r)∧b=some r:=by
 unfold nilq at h;split at h
 ·have h3:=r1c h
  exact⟨fun _=>h3.1,h3.2⟩
 ·exact⟨fun h=>by simp at h,h⟩
structure NilT where
 d:Nat
 τ:Ev.Ty
 xs:List τ.den
 neq:Bool
def nlOf(st:ASt):AV→Option ((τ:Ev.Ty)×List τ.den)
 | .cell (.d (.nl τ xs))=>some ⟨τ,xs⟩
 | .cell (.own k)=>match lkO st.ob k with
  | .na _ e xs=>some ⟨e,xs⟩
  | _=>none
 | _=>none
theorem u1c{N:Nat}{F:Nat→Prop}{ρ:Env}{st:ASt}{a:Act}{w:World}(hr:Rel N F ρ st a w){x:Operand}{τ:Ev.Ty}{xs:List τ.den}(h:nlOf st (ev st.fr x)=some ⟨τ,xs⟩): ∃ad m c,a.eval x= .slice ad m c∧(ad=none→xs= []):=by
 have hxr:=a0f hr x;generalize ev st.fr x=v at h hxr;unfold nlOf at h;split at h
 ·cases h
  have h9:=a0x hxr;generalize a.eval x=xv at h9;cases h9 with
  | nl _ _ v h9=>
   generalize hn' :xs.length=n' at h9;generalize flat τ xs=cs at h9;cases h9 with
   | nil e a cap=>exact⟨a,0,cap,rfl,fun _=>k2q hn'⟩
   | sl e n cs b off cap c=>exact⟨some ⟨b,off,none⟩,_,cap,rfl,fun h=>by cases h⟩
 ·rename_i k
  split at h
  ·rename_i t e ys hk
   cases h;have hob:=hr.ob k;rw [hk]at hob;cases hob with
   | na _ _ _ hob=>
    generalize hn' :xs.length=n' at hob;generalize flat τ xs=cs at hob;cases hob with
    | arr t' e' n'' cs' u vs hkk ho hs2 hx=>
     have hu:a.eval x=u:=by
      cases hxr with
      | cell _ _ hxr=>cases hxr with
       | own k v hq=>exact hq u hkk
     rw [hu];rcases ho.2 with⟨rfl,h0⟩ | ⟨g,cap,cur,rfl,_⟩
     ·exact⟨none,0,0,rfl,fun _=>k2q (hn'.trans h0)⟩
     ·exact⟨some ⟨g,0,none⟩,_,cap,rfl,fun h=>by cases h⟩
  ·cases h
 ·cases h
def nilT(P:Program)(N:Nat)(st:ASt)(o:Oper):Option NilT:=
 match o with
 | ⟨some d, .binOp op t x y _,_,_,_,_⟩=>match nlOf st (ev st.fr x),ev st.fr y with
  | some ⟨τ,xs⟩, .cell (.d (.sc (.slice none 0 0)))=>match P.underlying t with
   | some (.slice _)=>bif Nat.blt d N then match op with
    | .eql=>some ⟨d,τ,xs,false⟩
    | .neq=>some ⟨d,τ,xs,true⟩
    | _=>none
    else none
   | _=>none
  | _,_=>none
 | _=>none
abbrev bV(b:Bool):AV:= .cell (.d (.sc (.bool b)))
section
variable{P:Program}{N:Nat}{ops:Array Oper}{Q:Exit→ASt→Prop}{st:ASt}{i n:Nat}
omit [Tabs]in
theorem z0p(w:World)(t e:TypeId)(a:Option Addr)(n c:Nat)(h:P.underlying t=some (.slice e)):
  (binOp .eql t (.slice a n c) (.slice none 0 0)).run P w= .ok (.bool a.isNone) w:=Lib.run_eql_slice_nil w t e a n c 0 0 h
omit [Tabs]in
theorem b1h(w:World)(t e:TypeId)(a:Option Addr)(n c:Nat)(h:P.underlying t=some (.slice e)):
  (binOp .neq t (.slice a n c) (.slice none 0 0)).run P w= .ok (.bool (!a.isNone)) w:=by
 simp only [binOp];simp [Op.equal,Op.maxDepth,Lib.run_equalIn_slice_nil w 9999 t e a n c 0 0 h]
theorem AOps.nilT{o:Oper}{p:NilT}(ho:opK ops st.fr i=some o)(hn:nilT P N st o=some p)
  (h1:p.xs= []→AOps P N ops (List.range' (i+1) n) (st.put (some p.d) (bV (!p.neq))) Q)
  (h2:AOps P N ops (List.range' (i+1) n) (st.put (some p.d) (bV p.neq)) Q):AOps P N ops (List.range' i (n+1)) st Q:=by
 unfold Esp.nilT at hn;split at hn
 ·rename_i d op t x y u ty pos after guard
  split at hn
  ·rename_i τ xs hx hy
   split at hn
   ·rename_i e hu
    cases hd:Nat.blt d N with
    | false=>rw [hd]at hn;cases hn
    | true=>
     rw [hd,cond_true]at hn;rw [l2t];intro F ρ a w hr;rw [wpOps_cons];obtain⟨eo,hw⟩:=b0c hr ho;have hyv:=(a0n (a0f hr y) (by rw [hy];rfl)).1;obtain⟨ad,m,c,hxv,hm⟩: ∃ad m c,a.eval x= .slice ad m c∧(ad=none→xs= []):=u1c hr hx;have go: ∀(b:Bool),(do eqGuard op t x y (a.eval x) (a.eval y);binOp op t (a.eval x) (a.eval y):Sem Value).run P w= .ok (.bool b) w→AOps P N ops (List.range' (i+1) n) (st.put (some d) (bV b)) Q→
       wpOp P ops (fun e a' w' =>∃F' ρ' st',Q e st' ∧Rel N F' ρ' st' a' w' ∧Fr F ρ w F' ρ' w') i (wpOps P ops (fun e a' w' =>∃F' ρ' st',Q e st' ∧Rel N F' ρ' st' a' w' ∧Fr F ρ w F' ρ' w') (List.range' (i+1) n)) a w:=fun b hb hq=>by
      have hrun:(execOp a.eval ⟨some d, .binOp op t x y u,ty,pos,after,guard⟩).run P w= .ok (.value (.bool b)) w:=by
       simp only [Sem.run_bind]at hb;simp only [execOp,Sem.run_bind];generalize (eqGuard op t x y (a.eval x) (a.eval y)).run P w=z at hb⊢;cases z<;>simp_all [Result.andThen]
      simp only [wpOp,eo];rw [if_pos hw];left;simp only [Oper.wp,Oper.upon,hrun];exact hq.after (hr.put d (a0j hd) (.cell _ _ (.d _ _ (.sc _ rfl)))) (Fr.refl F ρ w)
     have hg: ∀op',(op' = .eql∨op' = .neq)→(eqGuard op' t x y (a.eval x) (a.eval y)).run P w= .ok () w:=fun op' h=>by
      rw [hxv,hyv];rcases h with rfl | rfl<;>simp [eqGuard]
     split at hn
     ·cases hn
      have hrun:=fun hq=>go ad.isNone (by
       simp only [Sem.run_bind,hg _ (.inl rfl),Result.andThen_ok];rw [hxv,hyv];exact z0p w t e ad m c hu) hq
      cases had:ad with
      | none=>rw [had]at hrun;exact hrun (h1 (hm had))
      | some q=>rw [had]at hrun;exact hrun h2
     ·cases hn
      have hrun:=fun hq=>go (!ad.isNone) (by
       simp only [Sem.run_bind,hg _ (.inr rfl),Result.andThen_ok];rw [hxv,hyv];exact b1h w t e ad m c hu) hq
      cases had:ad with
      | none=>rw [had]at hrun;exact hrun (h1 (hm had))
      | some q=>rw [had]at hrun;exact hrun h2
     ·cases hn
   ·cases hn
  ·cases hn
 ·cases hn
end
end Esp
namespace Esp
open Go
set_option linter.unusedSimpArgs false
set_option linter.unusedVariables false
variable [Tabs]
open Ev in
def avOf:(t:Ty)→t.den→AV
 | .i64,n=> .cell (.d (iC .i64 n)) | .u8,n=> .cell (.d (iC .u8 n)) | .u32,n=> .cell (.d (iC .u32 n)) | .u64,n=> .cell (.d (iC .u64 n)) | .i32,n=> .cell (.d (iC .i32 n))
 | .bool,b=> .cell (.d (bC b)) | .str,s=> .cell (.d (sC s))
 | .lst t,l=> .cell (.d (.nl t l))
 | .ptr t,x=> .cell (.d (.rp (b0r t x)))
 | .two t,x=> .aggD (b0r t x.1++b0r t x.2)
 | .map k v,l=> .cell (.d (.nm k v l))
 | t,x=> .aggD (b0r t x)
omit [Tabs]in
theorem dle.rel{x y:D}(h:dle x y){w:World}{F:Nat→Prop}{ρ:Env}{tm:Array Value}{v:Value}(hr:RelAV w F ρ tm (.cell (.d x)) v):RelAV w F ρ tm (.cell (.d y)) v:=
 .cell _ _ (.d _ _ (h _ _ _ (a0x hr)))
omit [Tabs]in
theorem dsle.rel{cs ds:List D}(h:dsle cs ds){w:World}{F:Nat→Prop}{ρ:Env}{tm:Array Value}{v:Value}(hr:RelAV w F ρ tm (.aggD cs) v):RelAV w F ρ tm (.aggD ds) v:=by
 cases hr with
 | aggD cs arr hs hh=>exact .aggD _ arr (hs.trans h.length) fun i hi=>h.get i (by rw [h.length];exact hi) hi _ _ _ (hh i (by rw [h.length];exact hi))
def _root_.Ev.Ty.agg:Ev.Ty→Bool
 | .i64 | .u8 | .u32 | .u64 | .i32 | .bool | .str | .lst _ | .ptr _ | .map _ _=>false
 | _=>true
def n0e(t:Ev.Ty)(x:AV):Option t.den:=
 match x with
 | .cell (.d x)=>bif t.agg then none else rd t [x]
 | .aggD cs=>bif t.agg then rd t cs else none
 | _=>none
omit [Tabs]in
theorem u0t{t:Ev.Ty}(h:t.agg=true)(x:t.den):avOf t x= .aggD (cells t x):=by
 cases t<;>first | rfl | (simp [Ev.Ty.agg]at h)
omit [Tabs]in
theorem u0y{t:Ev.Ty}(h:t.agg=false)(x:t.den): ∃y,cells t x= [y]∧avOf t x= .cell (.d y):=by
 cases t<;>first | exact⟨_,rfl,rfl⟩ | (simp [Ev.Ty.agg]at h)
omit [Tabs]in
theorem e0r{t:Ev.Ty}{x:AV}{y:t.den}(h:n0e t x=some y){w:World}{F:Nat→Prop}{ρ:Env}{tm:Array Value}{v:Value}(hr:RelAV w F ρ tm x v):RelAV w F ρ tm (avOf t y) v:=by
 unfold n0e at h;split at h
 ·cases ha:t.agg with
  | true=>rw [ha]at h;cases h
  | false=>
   rw [ha]at h;obtain⟨c,h1,h2⟩:=u0y ha y;have:=t0c h;rw [h1]at this;rw [h2];exact this.1.rel hr
 ·cases ha:t.agg with
  | false=>rw [ha]at h;cases h
  | true=>
   rw [ha]at h;rw [u0t ha];exact(t0c h).rel hr
 ·cases h
omit [Tabs]in
theorem h0v(t:Ev.Ty)(x:t.den):(avOf t x).plain=true:=by cases t<;>rfl
omit [Tabs]in
theorem agg_sz{t:Ev.Ty}:t.agg=true↔t.sz≠1:=by
 cases t<;>first | (simp [Ev.Ty.agg,Ev.Ty.sz,Ev.Ty.sz0];done) | (rename_i u;have:=Ev.Ty.sz0_pos u;simp [Ev.Ty.agg,Ev.Ty.sz];omega)
omit [Tabs]in
theorem c0c{w:World}{F:Nat→Prop}{ρ:Env}{tm:Array Value}{t:Ev.Ty}{x:t.den}{v:Value}(h:RelAV w F ρ tm (avOf t x) v):RelE w F t x v:=by
 unfold RelE;cases ha:t.agg with
 | true=>
  rw [u0t ha]at h;rw [if_neg (agg_sz.1 ha)];cases h with
  | aggD cs arr hs hh=>exact⟨arr,rfl,hs,hh⟩
 | false=>
  have hz:t.sz=1:=by
   by_cases h1:t.sz=1
   ·exact h1
   ·rw [agg_sz.2 h1]at ha;cases ha
  obtain⟨y,h1,h2⟩:=u0y ha x;rw [h2]at h;rw [if_pos hz];exact⟨y,h1,a0x h⟩
omit [Tabs]in
theorem i0t{w:World}{F:Nat→Prop}{ρ:Env}{tm:Array Value}{t:Ev.Ty}{x:t.den}{v:Value}(h:RelE w F t x v):RelAV w F ρ tm (avOf t x) v:=by
 unfold RelE at h;cases ha:t.agg with
 | true=>
  rw [if_neg (agg_sz.1 ha)]at h;obtain⟨arr,rfl,h2,h3⟩:=h;rw [u0t ha];exact .aggD _ arr h2 h3
 | false=>
  have hz:t.sz=1:=by
   by_cases h1:t.sz=1
   ·exact h1
   ·rw [agg_sz.2 h1]at ha;cases ha
  rw [if_pos hz]at h;obtain⟨y,h1,h2⟩:=u0y ha x;obtain⟨c,h3,h4⟩:=h;rw [h1]at h3;cases h3;rw [h2];exact .cell _ _ (.d _ _ h4)
def a2q(P:Program)(t:TypeId)(n:Nat):Bool:=
 bif Nat.beq n 1 then match P.info? t with
  | some i=>match i.zero with
   | some z=>z.oneCell'
   | none=>false
  | none=>false
 else true
def t1g(P:Program)(t:TypeId)(τ:Ev.Ty):Option τ.den:=
 match i0e P t with
 | some zs=>bif Nat.beq zs.length τ.sz&&a2q P t τ.sz then rd τ (zs.map .sc)else none
 | none=>none
omit [Tabs]in
theorem d2m{P:Program}{t:TypeId}{τ:Ev.Ty}{z:τ.den}(hz:t1g P t τ=some z): ∃v,(∀w,(zeroValue t).run P w= .ok v w)∧ ∀w F,RelE w F τ z v:=by
 unfold t1g at hz;split at hz
 ·rename_i zs h
  cases hb:(Nat.beq zs.length τ.sz&&a2q P t τ.sz)with
  | false=>rw [hb]at hz;cases hz
  | true=>
   rw [hb]at hz;simp only [cond_true]at hz;rw [j2s]at hb;have hl:=j2t hb.1;have hza:=hb.2;unfold i0e at h;split at h
   ·rename_i i hi
    split at h
    ·rename_i v hzz
     cases hc1:v.cells.toList.all Value.oneCell' with
     | false=>rw [hc1]at h;cases h
     | true=>
      rw [hc1]at h;cases h;have h3: ∀u∈v.cells.toList,u.oneCell' =true:=fun u hu=>k2f.1 hc1 u hu;refine⟨v,fun w=>by simp [zeroValue,typeInfo,hi,hzz],fun w F=> ?_⟩;have hd:=t0c hz;have hc: ∀j (h:j< (cells τ z).length),RelD w F (cells τ z)[j] (v.cells.getD j undef):=by
       intro j hj;have hj' :j<v.cells.size:=by rw [←k2z,hl, ←a0w τ z];exact hj
       have hle:=hd.get j (by simpa using hj') hj;refine hle _ _ _ ?_;simp only [List.getElem_map,Array.getElem_toList];rw [show v.cells.getD j undef=v.cells[j]by simp [Array.getD,hj']];exact .sc _ (h3 _ (by simp))
      have hsz:v.cells.size=(cells τ z).length:=by rw [a0w, ←hl];simp
      have hE:=RelE.of_cells (w:=w) (F:=F) hsz hc;have hv:n0v τ.sz v.cells=v:=by
       unfold n0v;split
       ·rename_i h1s
        rw [h1s]at hza;simp only [a2q,m2n,cond_true,hi,hzz]at hza;cases v<;>first | rfl | (cases hza;done)
       ·rename_i hn
        have:v.cells.size≠1:=by rw [hsz,a0w];exact hn
        cases v<;>first | rfl | exact absurd rfl this
      rw [hv]at hE;exact hE
    ·cases h
   ·cases h
 ·cases hz
end Esp

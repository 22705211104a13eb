import Derived.Test.YtcloicgnanjbcaaGreatDoorEvIter
import Derived.Maps.RangeRun
noncomputable section
namespace Esp
open Go Go.ChangeMaps
set_option linter.unusedSimpArgs false
set_option linter.unusedVariables false
def demL{α ρ:Type}(l:List α)(f:α→List α→Option ρ):Option ρ:=by
 classical exact if h: ∃r,∀i (hi:i<l.length),f l[i] (l.eraseIdx i)=some r then some h.choose else none
def rngM{α ρ:Type}(l:List α)(k0:Option ρ)(f:α→List α→Option ρ):Option ρ:=
 match l with
 | []=>k0
 | x::r=>demL (x::r) f
theorem s1q{α ρ:Type}{l:List α}{k0:Option ρ}{f:α→List α→Option ρ}{r:ρ}(h:rngM l k0 f=some r):(l= []→k0=some r)∧ ∀i (hi:i<l.length),f l[i] (l.eraseIdx i)=some r:=by
 cases l with
 | nil=>exact And.intro (fun _=>h) (fun i hi=>absurd hi (Nat.not_lt_zero _))
 | cons x t=>
  refine And.intro (fun h=>by cases h) (fun i hi=> ?_);simp only [rngM,demL]at h;split at h
  ·rename_i hh
   cases h;exact hh.choose_spec i hi
  ·cases h
theorem j0g{js:List Nat}(hn:js.Nodup): ∀{t:Nat} (ht:t<js.length) (i:Nat),i∈js.eraseIdx t↔i∈js∧i≠js[t]:=by
 induction js with
 | nil=>intro t ht;simp at ht
 | cons a r ih=>
  intro t ht i;have hn2:=List.nodup_cons.1 hn;cases t with
  | zero=>
   simp only [List.eraseIdx_zero,List.tail_cons,k2b,List.getElem_cons_zero];constructor
   ·intro h
    exact⟨.inr h,fun e=>hn2.1 (e▸h)⟩
   ·rintro⟨h | h,h2⟩
    ·exact absurd h h2
    ·exact h
  | succ t=>
   have ht' :t<r.length:=by simpa using ht
   simp only [List.eraseIdx_cons_succ,k2b,List.getElem_cons_succ,ih hn2.2 ht' i];constructor
   ·rintro(rfl | ⟨h1,h2⟩)
    ·exact⟨.inl rfl,fun e=>hn2.1 (by rw [e];exact l2p ht')⟩
    ·exact⟨.inr h1,h2⟩
   ·rintro⟨h1 | h1,h2⟩
    ·exact .inl h1
    ·exact .inr ⟨h1,h2⟩
theorem q0j{js:List Nat}(hn:js.Nodup)(t:Nat):(js.eraseIdx t).Nodup:=List.Sublist.nodup (List.eraseIdx_sublist ..) hn
variable [Tabs]
structure NxtM where
 d:Nat
 k:Nat
 kt:Ev.Ty
 vt:Ev.Ty
 l:List (kt.den×vt.den)
def nxtM(N:Nat)(st:ASt)(o:Oper):Option NxtM:=
 match o.op with
 | .next x false=>match o.dst with
  | some d=>match ev st.fr x with
   | .cell (.ptr k 0)=>match lkO st.ob k with
    | .mi kt vt l _=>bif Nat.blt d N then some ⟨d,k,kt,vt,l⟩else none
    | _=>none
   | _=>none
  | none=>none
 | _=>none
def NxtM.st1(p:NxtM)(st:ASt)(e:p.kt.den×p.vt.den)(r:List (p.kt.den×p.vt.den)):ASt:=
 ({st with ob:=ASt.setO p.k (.mi p.kt p.vt r (some e)) st.ob}:ASt).put (some p.d) (.tup [.cell (.d (.sc (.bool true))),avOf p.kt e.1,avOf p.vt e.2])
def NxtM.st0(p:NxtM)(st:ASt):ASt:=st.put (some p.d) (tupV [.bool false])
section
variable{P:Program}{N:Nat}{ops:Array Oper}{st:ASt}{i n:Nat}{Q:Exit→ASt→Prop}
omit [Tabs]in
theorem MapIt.next{w:World}{F:Nat→Prop}{kt vt:Ev.Ty}{l:List (kt.den×vt.den)}{cur:Option (kt.den×vt.den)}{mo:Option Nat}{since:Nat}{seen:Array Nat}{last b:Nat}
  (hb:w.heap[b]? =some (.mapIter mo since seen last))(hm:MapIt w F kt vt l cur mo since seen last)(ty:TypeId):
  (l= []∧(Instr.next (.pointer (some ⟨b,0,none⟩)) false ty).run P w= .ok (.tuple #[.bool false]) w)∨
  ∃t,∃ht:t<l.length,∃(w1:World) (x:MapEntry),(w1=w∨w1=w.drew)∧(Instr.next (.pointer (some ⟨b,0,none⟩)) false ty).run P w= .ok (.tuple #[.bool true,x.key,x.val]) (setBlock w1 b (.mapIter mo since (seen.push x.born) since))∧
   EntRel w F kt vt l[t] x∧MapIt w F kt vt (l.eraseIdx t) (some l[t]) mo since (seen.push x.born) since:=by
 rcases hm with⟨rfl,rfl,rfl⟩ | ⟨m,es,js,rfl,hF,hmb,rfl,hst,hnd,⟨hl,hent⟩,hseen,hcur⟩
 ·refine .inl ⟨rfl, ?_⟩
  simp [Instr.next,getObj,Sem.run,hb,Result.andThen]
 ·have hold: ∀x∈es.toList,x.born<last:=fun x hx=>by
   obtain⟨j,hj,rfl⟩:=List.getElem_of_mem hx;have:=hst.1 j (by simpa using hj);simpa using this
  rcases run_next_at (P:=P) w ty b m last last seen es last hb hmb hold (k2h _)with⟨h0,hrun⟩ | ⟨x,hx,w1,hw1,hrun⟩
  ·refine .inl ⟨?_,hrun⟩
   cases l with
   | nil=>rfl
   | cons y r=>
    have hlen:0<js.length:=by rw [hl];simp
    have hj:=(hent 0 (by simp)).1;have h1:=(hseen _ hj).2 (l2p hlen);have h2:es[js[0]]∈leftOf es seen:=by
     unfold leftOf;rw [Array.mem_filter];exact⟨Array.getElem_mem hj,by rw [h1];rfl⟩
    have h3:=Array.eq_empty_of_size_eq_zero h0;rw [h3]at h2;simp at h2
  ·have hx2:x∈leftOf es seen:=by simpa using hx
   unfold leftOf at hx2;rw [Array.mem_filter]at hx2;obtain⟨hx3,hx4⟩:=hx2;obtain⟨j,hj,rfl⟩:=Array.getElem_of_mem hx3;have hx5:seen.contains es[j].born=false:=by simpa using hx4
   have hjs:=(hseen j hj).1 hx5;obtain⟨t,ht,htj⟩:=List.getElem_of_mem hjs;have ht' :t<l.length:=by rw [←hl];exact ht
   refine .inr ⟨t,ht',w1,es[j],hw1,hrun, ?_, ?_⟩
   ·have:=(hent t ht').2
    simp only [htj]at this;exact this
   ·refine .inr ⟨m,es,js.eraseIdx t,rfl,hF,hmb,rfl,hst,q0j hnd t,⟨by rw [List.length_eraseIdx,List.length_eraseIdx,if_pos ht,if_pos ht',hl],fun q hq=> ?_⟩,fun i hi=> ?_,fun e he=> ?_⟩
    ·have hq2:q< (js.eraseIdx t).length:=by rw [List.length_eraseIdx,if_pos ht,hl];rw [List.length_eraseIdx,if_pos ht']at hq;exact hq
     rw [List.length_eraseIdx,if_pos ht']at hq;have e1:=List.getElem_eraseIdx hq2;have e2:=List.getElem_eraseIdx (l:=l) (i:=t) (j:=q) (by rw [List.length_eraseIdx,if_pos ht'];exact hq);by_cases hqt:q<t
     ·rw [dif_pos hqt]at e1 e2
      obtain⟨h1,h2⟩:=hent q (by omega);refine⟨by rw [e1];exact h1, ?_⟩;rw [e2];have e3:es[(js.eraseIdx t)[q]]'(by rw [e1];exact h1)=es[js[q]'(by omega)]'h1:=by simp only [e1]
      rw [e3];exact h2
     ·rw [dif_neg hqt]at e1 e2
      obtain⟨h1,h2⟩:=hent (q+1) (by omega);refine⟨by rw [e1];exact h1, ?_⟩;rw [e2];have e3:es[(js.eraseIdx t)[q]]'(by rw [e1];exact h1)=es[js[q+1]'(by omega)]'h1:=by simp only [e1]
      rw [e3];exact h2
    ·rw [j0g hnd ht i, ←hseen i hi,htj]
     constructor
     ·intro h
      have h1:seen.contains es[i].born=false∧es[i].born≠es[j].born:=by
       simpa [Array.contains_push,k2c]using h
      exact⟨h1.1,fun e=>by subst e;exact h1.2 rfl⟩
     ·rintro⟨h1,h2⟩
      have h3:es[i].born≠es[j].born:=fun e=>h2 (hst.2 i j hi hj e);have h4: ¬es[i].born∈seen:=by simpa using h1
      simp [h3,h4]
    ·cases he
     refine⟨j,hj,by simp, ?_⟩;have:=(hent t ht').2;simp only [htj]at this;exact this
omit [Tabs]in
theorem t1i{w:World}{F:Nat→Prop}{ρ:Env}{tm:Array Value}{kt vt:Ev.Ty}{e:kt.den×vt.den}{x:MapEntry}(h:EntRel w F kt vt e x):
  RelAV w F ρ tm (.tup [.cell (.d (.sc (.bool true))),avOf kt e.1,avOf vt e.2]) (.tuple #[.bool true,x.key,x.val]):=by
 refine .tup _ _ rfl fun i hi=> ?_
 match i,hi with
 | 0,_=>exact .cell _ _ (.d _ _ (.sc _ rfl))
 | 1,_=>exact i0t h.1
 | 2,_=>exact i0t h.2
omit [Tabs]in
theorem s1u{w:World}{F:Nat→Prop}{ρ:Env}{tm:Array Value}{kt vt:Ev.Ty}{e:kt.den×vt.den}{x:MapEntry}(h:EntRel w F kt vt e x):
  RelAV w F ρ tm (.tup [avOf kt e.1,avOf vt e.2]) (.tuple #[x.key,x.val]):=by
 refine .tup _ _ rfl fun i hi=> ?_
 match i,hi with
 | 0,_=>exact i0t h.1
 | 1,_=>exact i0t h.2
theorem AOps.nextM{o:Oper}{p:NxtM}(ho:opK ops st.fr i=some o)(hp:nxtM N st o=some p)
  (k1: ∀j (hj:j<p.l.length),AOps P N ops (List.range' (i+1) n) (p.st1 st p.l[j] (p.l.eraseIdx j)) Q)(k0:p.l= []→AOps P N ops (List.range' (i+1) n) (p.st0 st) Q):AOps P N ops (List.range' i (n+1)) st Q:=by
 rw [l2t];intro F ρ a w hr;rw [wpOps_cons];obtain⟨e,hw⟩:=b0c hr ho;simp only [wpOp,e];rw [if_pos hw];left;obtain⟨d0,op,ty,pos,after,guard⟩:=o;unfold nxtM at hp;dsimp only at hp;split at hp
 ·rename_i x
  split at hp
  ·rename_i d
   split at hp
   ·rename_i kk hx
    split at hp
    ·rename_i kt vt l cur hob
     cases hb:Nat.blt d N with
     | false=>rw [hb]at hp;cases hp
     | true=>
      rw [hb]at hp;cases hp;have hxr:=a0f hr x;rw [hx]at hxr;have hor:=hr.ob kk;rw [hob]at hor;cases hor with
      | mi _ _ _ _ b mo si se la hk hbk hm=>
       have hpv:a.eval x= .pointer (some ⟨b,0,none⟩):=by
        cases hxr with
        | cell _ _ hxr=>cases hxr with
         | ptr k off v hxr=>exact hxr b hk
       have hbl:b<w.heap.size:=(k2j.1 hbk).1;rcases hm.next (P:=P) hbk ty with⟨h0,hrun⟩ | ⟨t,ht,w1,y,hw1,hrun,hent,hm2⟩
       ·have hrun2:(execOp a.eval ⟨some d, .next x false,ty,pos,after,guard⟩).run P w= .ok (.value (.tuple #[.bool false])) w:=by
         simp [execOp,hpv,hrun,Result.andThen]
        simp only [Oper.wp,Oper.upon,hrun2];exact(k0 h0).after (hr.put d (a0j hb) (s0q _ (by simp [Value.oneCell']))) (Fr.refl F ρ w)
       ·have hrun2:(execOp a.eval ⟨some d, .next x false,ty,pos,after,guard⟩).run P w= .ok (.value (.tuple #[.bool true,y.key,y.val])) (setBlock w1 b (.mapIter mo si (se.push y.born) si)):=by
         simp [execOp,hpv,hrun,Result.andThen]
        simp only [Oper.wp,Oper.upon,hrun2];have hw1h:w1.heap=w.heap:=by rcases hw1 with rfl | rfl<;>rfl
        have hkeep: ∀b',b≠b' →(setBlock w1 b (.mapIter mo si (se.push y.born) si)).heap[b']? =w.heap[b']? :=fun b' hne=>by
         simp [setBlock,hw1h,l2h,hne]
        have hF: ∀b',F b' →(setBlock w1 b (.mapIter mo si (se.push y.born) si)).heap[b']? =w.heap[b']? :=fun b' hb' =>hkeep b' fun he=>hr.rw.dis b' hb' ⟨kk,_,hk,by rw [←he];rfl⟩;obtain⟨h1,h2⟩:=hr.setBox (w' :=setBlock w1 b (.mapIter mo si (se.push y.born) si)) (by rcases hw1 with rfl | rfl<;>rfl) (by rcases hw1 with rfl | rfl<;>rfl) (by rcases hw1 with rfl | rfl<;>rfl) (by simp [setBlock,hw1h]) kk (.mi kt vt (l.eraseIdx t) (some l[t]))
         (fun b' hb' =>hkeep b' fun he=>hb' _ hk (by rw [←he];rfl))
         (.mi _ _ _ _ b mo si _ si hk (by simp [setBlock,hw1h,l2h,hbl]) (hm2.mono hF fun _ h=>h))
        exact(k1 t ht).after (h1.put d (a0j hb) (t1i ⟨hent.1.mono hF fun _ h=>h,hent.2.mono hF fun _ h=>h⟩)) h2
    ·cases hp
   ·cases hp
  ·cases hp
 ·cases hp
def q1a(N:Nat)(st:ASt)(d:Option Tmp)(x:Operand):Option Eff:=
 match d with
 | some d=>match ev st.fr x with
  | .cell (.ptr k 0)=>match lkO st.ob k with
   | .mi kt vt _ (some e)=>bif Nat.blt d N then some (.put d (.tup [avOf kt e.1,avOf vt e.2]))else none
   | _=>none
  | _=>none
 | none=>none
theorem i1g{e:Eff}{o:Oper}{x:Operand}(ho:o.op= .entry x)(hs:q1a N st o.dst x=some e):OpEff P N o st e:=by
 unfold q1a at hs;split at hs
 ·rename_i d hd
  split at hs
  ·rename_i kk hx
   split at hs
   ·rename_i kt vt l en hob
    cases hb:Nat.blt d N with
    | false=>rw [hb]at hs;cases hs
    | true=>
     rw [hb]at hs;cases hs;refine .of_plain hd hb (by simp [AV.plain,AV.plainL,h0v]) fun F ρ a w hr=> ?_;have hxr:=a0f hr x;rw [hx]at hxr;have hor:=hr.ob kk;rw [hob]at hor;cases hor with
     | mi _ _ _ _ b mo si se la hk hbk hm=>
      have hpv:a.eval x= .pointer (some ⟨b,0,none⟩):=by
       cases hxr with
       | cell _ _ hxr=>cases hxr with
        | ptr k off v hxr=>exact hxr b hk
      rcases hm with⟨_,_,h⟩ | ⟨m,es,js,rfl,hF,hmb,rfl,hst,hnd,_,_,hcur⟩
      ·cases h
      ·obtain⟨j,hj,hback,hent⟩:=hcur en rfl
       refine⟨.tuple #[es[j].key,es[j].val], ?_,s1u hent⟩;obtain⟨sp,hse⟩:=Array.back?_eq_some_iff.1 hback;have hbk2:=hbk;rw [hse]at hbk2;have hn:(es.toList.map (·.born)).Nodup:=by
        rw [List.nodup_iff_pairwise_ne,List.pairwise_iff_getElem];intro i1 i2 h1 h2 hlt heq;simp only [k2v,k2z]at h1 h2;have:=hst.2 i1 i2 h1 h2 (by simpa using heq);omega
       have:=run_entry_at (P:=P) w b m la sp es la es[j] hbk2 hmb (by simp) hn;simp [execOp,ho,hpv,this,Result.andThen]
   ·cases hs
  ·cases hs
 ·cases hs
def z0o(P:Program)(N:Nat)(st:ASt)(d:Option Tmp)(t:TypeId)(x:Operand):Option Eff:=
 match d with
 | some d=>match P.underlying t with
  | some (.map _ _)=>match ev st.fr x with
   | .cell (.d (.nm kt vt l))=>bif Nat.blt d N then some (.new d (.mi kt vt l none) d (.cell (.ptr d 0)))else none
   | _=>none
  | _=>none
 | none=>none
omit [Tabs]in
theorem t1c{w:World}{F:Nat→Prop}{kt vt:Ev.Ty}{l:List (kt.den×vt.den)}{v:Value}(h:RelD w F (.nm kt vt l) v):
  (v= .map none∧l= [])∨ ∃b es clock,v= .map (some b)∧F b∧w.heap[b]? =some (.map es clock)∧RelM w F kt vt l es∧StOk es clock:=by
 generalize hx:D.nm kt vt l=x at h;cases h with
 | nm0 kt' vt' =>cases hx;exact .inl ⟨rfl,rfl⟩
 | nm kt' vt' l' b es clock ka va hF hb hs hz he h1 h2 hst=>
  cases hx;refine .inr ⟨b,es,clock,rfl,hF,hb,⟨hs,fun i hi hi' =>⟨?_, ?_⟩⟩,hst⟩
  ·rw [(he i hi').1]
   exact RelE.of_cells (hz i hi).1 (h1 i hi)
  ·rw [(he i hi').2]
   exact RelE.of_cells (hz i hi).2 (h2 i hi)
 | _=>cases hx
theorem c1x{e:Eff}{o:Oper}{t:TypeId}{x:Operand}(ho:o.op= .range t x)(hs:z0o P N st o.dst t x=some e):OpEff P N o st e:=by
 obtain⟨dst,op,ty,pos,after,guard⟩:=o;dsimp only at ho hs;subst ho;unfold z0o at hs;split at hs
 ·rename_i d
  split at hs
  ·rename_i a e' ht
   split at hs
   ·rename_i kt vt l hx
    cases hd:Nat.blt d N with
    | false=>rw [hd]at hs;cases hs
    | true=>
     rw [hd]at hs;cases hs;refine⟨rfl,fun F ρ ac w h=> ?_⟩;have hxr:=a0f h x;rw [hx]at hxr;have main: ∃mo since,(Instr.range t (ac.eval x)).run P w= .ok (.pointer (some ⟨w.heap.size,0,none⟩)) (w.alloc (.mapIter mo since #[] since))∧MapIt w F kt vt l none mo since #[] since:=by
      rcases t1c (a0x hxr)with⟨hv,rfl⟩ | ⟨b,es,clock,hv,hF,hb,hM,hst⟩
      ·rw [hv]
       exact⟨none,0,run_range_nilMap w t a e' ht, .inl ⟨rfl,rfl,rfl⟩⟩
      ·rw [hv]
       refine⟨some b,clock,run_range_map w t a e' b es clock ht hb, .inr ⟨b,es,List.range es.size,rfl,hF,hb,rfl,hst,List.nodup_range,⟨by simp [hM.1],fun q hq=> ?_⟩,fun i hi=>by simp [hi],fun e he=>by cases he⟩⟩;have h1:q<es.size:=by rw [hM.1];exact hq
       refine⟨by simpa using h1, ?_⟩;simp only [List.getElem_range];exact hM.2 q hq h1
     obtain⟨mo,since,hrun,hmi⟩:=main;have hF: ∀b,F b→(w.alloc (.mapIter mo since #[] since)).heap[b]? =w.heap[b]? :=fun b hb=>Go.RowKit.Below.heap_alloc w _ b (h.rw.lt b hb);obtain⟨h1,h2⟩:=h.setOb (w' :=w.alloc (.mapIter mo since #[] since)) rfl rfl rfl (by simp) d (.box w.heap.size) (.mi kt vt l none)
      (fun b hb _=>Go.RowKit.Below.heap_alloc w _ b hb) (fun b hb=>by cases hb;exact⟨by simp, .inl (k2h _)⟩)
      (.mi _ _ _ _ w.heap.size mo since _ since (Env.set_same _ _ _) (heap_alloc_new w _) (hmi.mono hF fun _ h=>h)) (fun hk=>absurd (l2s (a0j hd) h.df.2) (by omega))
     refine⟨.pointer (some ⟨w.heap.size,0,none⟩),w.alloc (.mapIter mo since #[] since),F,_, .inl ?_,h1.put d (a0j hd) (.cell _ _ (.ptr _ _ _ fun b hb=> ?_)),h2,⟨fun j hj=>Env.set_other _ _ _ fun e=>hj (by rw [e];rfl),fun b hb _=>Go.RowKit.Below.heap_alloc w _ b hb⟩⟩
     ·simp [execOp,hrun,Result.andThen]
     ·rw [Env.set_same]at hb
      cases hb;rfl
   ·cases hs
  ·cases hs
 ·cases hs
omit [Tabs]in
theorem s0h{kt vt:Ev.Ty}(k:kt.den): ∀l:List (kt.den×vt.den),t0u kt vt l k=if a0s kt vt l k=true then l.eraseIdx (b0m kt vt l k)else l
 | []=>rfl
 | p::r=>by
  rw [t0u,a0s,b0m];cases b0g kt k p.1 with
  | true=>simp
  | false=>
   simp only [cond_false,List.eraseIdx_cons_succ];rw [s0h k r];split<;>rfl
omit [Tabs]in
theorem e1v{kt vt:Ev.Ty}{k:kt.den}: ∀{l:List (kt.den×vt.den)},a0s kt vt l k=true→b0m kt vt l k<l.length
 | [],h=>by cases h
 | p::r,h=>by
  rw [a0s]at h;rw [b0m];cases hb:b0g kt k p.1 with
  | true=>simp
  | false=>
   rw [hb]at h;have:=e1v (l:=r) h;simp only [cond_false,k2i];omega
omit [Tabs]in
theorem h1j{w:World}{kt vt:Ev.Ty}{t a e tk ty:TypeId}(ht:P.underlying t=some (.map a e))(ha:keyA P a kt=true)(hkt:c0o kt=true)(k:kt.den){l:List (kt.den×vt.den)}{b:Nat}{es:Array MapEntry}{clock:Nat}
  (hb:w.heap[b]? =some (.map es clock)){F:Nat→Prop}(hM:RelM w F kt vt l es)(hst:StOk es clock):
  ∃es',(Builtin.delete_ #[t,tk] ty #[.map (some b),keyV kt k]).run P w= .ok (.tuple #[]) {w with heap:=w.heap.setIfInBounds b (.map es' clock)}∧StOk es' clock∧
   ∀w',(∀b,F b→w'.heap[b]? =w.heap[b]?)→RelM w' F kt vt (t0u kt vt l k) es' :=by
 have h1:=b0o (P:=P) (w:=w) ha es.isEmpty k;have h2:=c0a (P:=P) (w:=w) (vt:=vt) ha k es.toList l (s0j hkt hM.1 hM.2);have hg:(getObj b).run P w= .ok (.map es clock) w:=MapKept.run_getObj_map hb;have hset: ∀es',(setObj b (.map es' clock)).run P w= .ok () {w with heap:=w.heap.setIfInBounds b (.map es' clock)}:=fun es' =>by simp [setObj,Sem.run,hb]
 have hmono: ∀w',(∀b,F b→w'.heap[b]? =w.heap[b]?)→RelM w' F kt vt l es:=fun w' hF=>⟨hM.1,fun i h1 h2=>⟨(hM.2 i h1 h2).1.mono hF fun _ h=>h,(hM.2 i h1 h2).2.mono hF fun _ h=>h⟩⟩;have hz:es.toList.length=l.length:=by simpa using hM.1
 have hlen:(0:Nat)=0:=rfl;by_cases hh:a0s kt vt l k=true
 ·have hlt:=e1v hh
  have hf: ∃v,fndI kt vt k es.toList l 0=some (b0m kt vt l k,v):=by
   have hz2: ∀(es:List MapEntry) (l:List (kt.den×vt.den)) (i:Nat),es.length=l.length→a0s kt vt l k=true→∃v,fndI kt vt k es l i=some (i+b0m kt vt l k,v):=by
    intro es
    induction es with
    | nil=>intro l i h h';cases l with
     | nil=>cases h'
     | cons p r=>simp at h
    | cons x es ih=>
     intro l i h h';cases l with
     | nil=>simp at h
     | cons p r=>
      rw [a0s]at h';rw [fndI,b0m];cases hb:b0g kt k p.1 with
      | true=>exact⟨x.val,by simp⟩
      | false=>
       rw [hb]at h';obtain⟨v,hv⟩:=ih r (i+1) (by simpa using h) h';exact⟨v,by rw [cond_false,cond_false,hv];congr 2;omega⟩
   obtain⟨v,hv⟩:=hz2 es.toList l 0 hz hh;exact⟨v,by rw [hv,l2b]⟩
  obtain⟨v,hv⟩:=hf;rw [hv]at h2;have hlt2:b0m kt vt l k<es.size:=by rw [hM.1];exact hlt
  have e1:es.eraseIdxIfInBounds (b0m kt vt l k)=es.eraseIdx (b0m kt vt l k) hlt2:=by simp [Array.eraseIdxIfInBounds,hlt2]
  have hget: ∀j (hj:j< (es.eraseIdxIfInBounds (b0m kt vt l k)).size),∃q,∃hq:q<es.size,(es.eraseIdxIfInBounds (b0m kt vt l k))[j]=es[q]∧q=(if j<b0m kt vt l k then j else j+1):=fun j hj=>by
   have hj2:j< (es.eraseIdx (b0m kt vt l k) hlt2).size:=by rw [←e1];exact hj
   have e2:(es.eraseIdxIfInBounds (b0m kt vt l k))[j]=(es.eraseIdx (b0m kt vt l k) hlt2)[j]:=by simp only [e1]
   have hsz:(es.eraseIdx (b0m kt vt l k) hlt2).size=es.size - 1:=by simp
   by_cases hlt3:j<b0m kt vt l k
   ·refine⟨j,by omega, ?_,by rw [if_pos hlt3]⟩
    rw [e2,Array.getElem_eraseIdx,dif_pos hlt3]
   ·refine⟨j+1,by omega, ?_,by rw [if_neg hlt3]⟩
    rw [e2,Array.getElem_eraseIdx,dif_neg hlt3]
  refine⟨es.eraseIdxIfInBounds (b0m kt vt l k), ?_,⟨fun i hi=> ?_,fun i j hi hj hh2=> ?_⟩,fun w' hF=> ?_⟩
  ·simp [Builtin.delete_,run_underlying ht,hg,h1,h2,hset,Result.andThen]
  ·obtain⟨q,hq,e3,_⟩:=hget i hi
   rw [e3];exact hst.1 q hq
  ·obtain⟨q,hq,e3,e4⟩:=hget i hi
   obtain⟨q',hq',e5,e6⟩:=hget j hj;rw [e3,e5]at hh2;have:=hst.2 q q' hq hq' hh2;split at e4<;>split at e6<;>omega
  ·have hM' :=hmono w' hF
   rw [s0h,if_pos hh];refine⟨by rw [e1,Array.size_eraseIdx,List.length_eraseIdx,if_pos hlt,hM.1],fun i hi hi' => ?_⟩;obtain⟨q,hq,e3,e4⟩:=hget i hi';have e5:=List.getElem_eraseIdx hi;rw [e3,e5];by_cases hlt3:i<b0m kt vt l k
   ·rw [if_pos hlt3]at e4
    subst e4;rw [dif_pos hlt3];exact hM'.2 q (by rw [←hM.1];exact hq) hq
   ·rw [if_neg hlt3]at e4
    subst e4;rw [dif_neg hlt3];exact hM'.2 (i+1) (by rw [←hM.1];exact hq) hq
 ·have hf:fndI kt vt k es.toList l 0=none:=by
   have hz2: ∀(es:List MapEntry) (l:List (kt.den×vt.den)) (i:Nat),es.length=l.length→¬a0s kt vt l k=true→fndI kt vt k es l i=none:=by
    intro es
    induction es with
    | nil=>intro l i h h';cases l with
     | nil=>rfl
     | cons p r=>simp at h
    | cons x es ih=>
     intro l i h h';cases l with
     | nil=>simp at h
     | cons p r=>
      rw [a0s]at h';rw [fndI];cases hb:b0g kt k p.1 with
      | true=>rw [hb]at h';exact absurd rfl h'
      | false=>
       rw [hb]at h';exact ih r (i+1) (by simpa using h) h'
   exact hz2 es.toList l 0 hz hh
  rw [hf]at h2;refine⟨es, ?_,hst,fun w' hF=> ?_⟩
  ·simp [Builtin.delete_,run_underlying ht,hg,h1,h2,hset,Result.andThen]
  ·rw [s0h,if_neg hh]
   exact hmono w' hF
def sDel(P:Program)(st:ASt)(d:Option Tmp)(c:Call):Option Eff:=
 match c,d with
 | ⟨.builtin .delete,⟨[m,x]⟩,⟨[t,_]⟩⟩,none=>match ev st.fr m with
  | .cell (.mpr kk)=>match lkO st.ob kk with
   | .mp tm kt vt l _=>match P.underlying t with
    | some (.map a _)=>match n0e kt (ev st.fr x)with
     | some k=>bif keyA P a kt&&c0o kt then some (.upd kk (.mp tm kt vt (t0u kt vt l k) false))else none
     | none=>none
    | _=>none
   | _=>none
  | _=>none
 | _,_=>none
theorem s1o{e:Eff}{o:Oper}{c:Call}(ho:o.op= .call c)(hs:sDel P st o.dst c=some e):OpEff P N o st e:=by
 unfold sDel at hs;split at hs
 ·rename_i m x t tk hd
  split at hs
  ·rename_i kk hm
   split at hs
   ·rename_i tm kt vt l dn hob
    split at hs
    ·rename_i a e' ht
     split at hs
     ·rename_i k hk
      cases hb:(keyA P a kt&&c0o kt)with
      | false=>rw [hb]at hs;cases hs
      | true=>
       rw [hb]at hs;cases hs;rw [j2s]at hb;obtain⟨b2,b3⟩:=hb;refine⟨hd,fun F ρ ac w hr=> ?_⟩;obtain⟨b,es,clock,hkk,hbb,hmv,hM,hdn⟩:=g1e hr hm hob;have hxv:ac.eval x=keyV kt k:=f0y (w:=w) (F:=F) b3 (c0c (e0r hk (a0f hr x)));obtain⟨es',hrun,hst',hM'⟩:=h1j (P:=P) (tk:=tk) (ty:=o.type) ht b2 b3 k hbb hM hdn.2;obtain⟨h1,h2,h3⟩:=n0q hr hkk hbb tm (dn:=false) (clock' :=clock) hM' ⟨fun h=>(by cases h),hst'⟩;refine⟨.tuple #[],_,F,ρ, .inl ?_,h1,h2,h3 _ rfl⟩;simp [execOp,ho,hmv,hxv,hrun,Result.andThen,resolve,invoke,builtin]
     ·cases hs
    ·cases hs
   ·cases hs
  ·cases hs
 ·cases hs
def sEqP(P:Program)(N:Nat)(st:ASt)(d:Option Tmp)(neq:Bool)(t:TypeId)(x y:Operand):Option Eff:=
 match d with
 | none=>none
 | some d=>match P.underlying t with
  | some dd=>bif o0w P dd&&Nat.blt d N&& !(P.eqGuardType P.depth t)then match n0e .pair (ev st.fr x)with
   | some a=>match n0e .pair (ev st.fr y)with
    | some b=>some (.put d (.cell (.d (bC (if neq then !b0g .pair a b else b0g .pair a b)))))
    | none=>none
   | none=>none else none
  | none=>none
theorem n0r{e:Eff}{o:Oper}{neq:Bool}{t u:TypeId}{x y:Operand}(ho:o.op= .binOp (if neq then .neq else .eql) t x y u)(hs:sEqP P N st o.dst neq t x y=some e):OpEff P N o st e:=by
 unfold sEqP at hs;split at hs
 ·cases hs
 rename_i d hd;split at hs
 ·rename_i dd hu
  cases hb:(o0w P dd&&Nat.blt d N&& !(P.eqGuardType P.depth t))with
  | false=>rw [hb]at hs;cases hs
  | true=>
   rw [hb]at hs;simp only [cond_true]at hs;split at hs
   ·rename_i a ha
    split at hs
    ·rename_i b hbb
     cases hs;simp only [j2s,l2l]at hb;obtain⟨⟨hb1,hb2⟩,hb3⟩:=hb;obtain⟨e,rfl,he,hsz⟩:=z1r hb1;refine .of_plain hd hb2 rfl fun F ρ ac w hr=> ?_;have hxv:ac.eval x=keyV .pair a:=f0y (w:=w) (F:=F) (τ:= .pair) rfl (c0c (e0r ha (a0f hr x)));have hyv:ac.eval y=keyV .pair b:=f0y (w:=w) (F:=F) (τ:= .pair) rfl (c0c (e0r hbb (a0f hr y)));have heq:=s0f (P:=P) (w:=w) hu he hsz a b;simp only [keyV]at heq;refine⟨.bool (if neq then !b0g .pair a b else b0g .pair a b), ?_, .cell _ _ (.d _ _ (.sc _ rfl))⟩
     cases neq<;>simp [execOp,ho,hxv,hyv,eqGuard,binOp,heq,keyV,Result.andThen,hb3]
    ·cases hs
   ·cases hs
 ·cases hs
def eqPO(P:Program)(N:Nat)(st:ASt)(o:Oper):Option Eff:=
 match o.op with
 | .binOp .eql t x y _=>sEqP P N st o.dst false t x y
 | .binOp .neq t x y _=>sEqP P N st o.dst true t x y
 | _=>none
theorem g1j{e:Eff}{o:Oper}(hs:eqPO P N st o=some e):OpEff P N o st e:=by
 unfold eqPO at hs;split at hs
 ·rename_i t x y u ho
  exact n0r (neq:=false) ho hs
 ·rename_i t x y u ho
  exact n0r (neq:=true) ho hs
 ·cases hs
def b1u(P:Program)(N:Nat)(st:ASt)(o:Oper):Option Eff:=
 match o.op with
 | .range t x=>z0o P N st o.dst t x
 | .entry x=>q1a N st o.dst x
 | .call c=>sDel P st o.dst c
 | .binOp .eql t x y _=>sEqP P N st o.dst false t x y
 | .binOp .neq t x y _=>sEqP P N st o.dst true t x y
 | _=>none
theorem a1d{e:Eff}{o:Oper}(hs:b1u P N st o=some e):OpEff P N o st e:=by
 unfold b1u at hs;split at hs
 ·rename_i t x ho
  exact c1x ho hs
 ·rename_i x ho
  exact i1g ho hs
 ·rename_i c ho
  exact s1o ho hs
 ·rename_i t x y u ho
  exact n0r (neq:=false) ho hs
 ·rename_i t x y u ho
  exact n0r (neq:=true) ho hs
 ·cases hs
def p1w(P:Program)(N:Nat)(st:ASt)(o:Oper):Option Eff:=
 match m1y P N st o with
 | some e=>some e
 | none=>b1u P N st o
theorem i1l{e:Eff}{o:Oper}(hs:p1w P N st o=some e):OpEff P N o st e:=by
 unfold p1w at hs;split at hs
 ·rename_i e' he
  cases hs;exact i1e he
 ·exact a1d hs
end
end Esp

import Derived.Test.YtnaeiccibhdknaaGreatDoorEvIter
import Derived.Maps.RangeRun
set_option linter.unusedSimpArgs false
set_option linter.unusedVariables false
noncomputable section
namespace Esp
open Go Go.ChangeMaps
def demL{α ρ:Type}(l:List α)(f:α->List α->Option ρ):Option ρ:=by
 classical exact if h:∃r,∀i (hi:i<l.length),f l[i] (l.eraseIdx i)=some r then some h.choose else none
def rngM{α ρ:Type}(l:List α)(k0:Option ρ)(f:α->List α->Option ρ):Option ρ:=
 match l with
 |[]=>k0
 |x::r=>demL (x::r) f
theorem a2y{α ρ:Type}{l:List α}{k0:Option ρ}{f:α->List α->Option ρ}{r:ρ}(h:rngM l k0 f=some r):(l=[]->k0=some r)/\ ∀i (hi:i<l.length),f l[i] (l.eraseIdx i)=some r:=by
 cases l with
 |nil=>exact And.intro (λ_=>h) (λi hi=>absurd hi (Nat.not_lt_zero _))
 |cons x t=>
  refine And.intro (λh=>by cases h) (λi hi=>?_);simp only[rngM,demL]at h;split at h
  ·rename_i hh
   cases h;exact hh.choose_spec i hi
  ·cases h
theorem l0q{js:List Nat}(hn:js.Nodup):∀{t:Nat} (ht:t<js.length) (i:Nat),i∈js.eraseIdx t↔i∈js/\i≠js[t]:=by
 induction js with
 |nil=>intro t ht;simp at ht
 |cons a r ih=>
  intro t ht i;have hn2:=List.nodup_cons.1 hn;cases t with
  |zero=>
   simp only[List.eraseIdx_zero,List.tail_cons,r2s,List.getElem_cons_zero];constructor
   ·intro h
    exact⟨.inr h,λe=>hn2.1 (e▸h)⟩
   ·rintro⟨h|h,h2⟩
    ·exact absurd h h2
    ·exact h
  |succ t=>
   have fO:t<r.length:=by simpa using ht
   simp only[List.eraseIdx_cons_succ,r2s,List.getElem_cons_succ,ih hn2.2 fO i];constructor
   ·rintro(rfl|⟨h1,h2⟩)
    ·exact⟨.inl rfl,λe=>hn2.1 (by rw[e];exact s2s fO)⟩
    ·exact⟨.inr h1,h2⟩
   ·rintro⟨h1|h1,h2⟩
    ·exact .inl h1
    ·exact .inr ⟨h1,h2⟩
theorem t0c{js:List Nat}(hn:js.Nodup)(t:Nat):(js.eraseIdx t).Nodup:=List.Sublist.nodup (List.eraseIdx_sublist ..) hn
variable [Tabs]
structure NxtM where
 d:Nat
 k:Nat
 kt:Ev.Ty
 vt:Ev.Ty
 l:List (kt.den×vt.den)
def nxtM(N:Nat)(st:ASt)(o:Oper):Option NxtM:=
 match o.op with
 |.next x false=>match o.dst with
  |some d=>match ev st.fr x with
   |.cell (.ptr k 0)=>match lkO st.ob k with
    |.mi kt vt l _=>bif Nat.blt d N then some ⟨d,k,kt,vt,l⟩else none
    |_=>none
   |_=>none
  |none=>none
 |_=>none
def NxtM.st1 (p:NxtM)(st:ASt)(e:p.kt.den×p.vt.den)(r:List (p.kt.den×p.vt.den)):ASt:=
 ({st with ob:=ASt.setO p.k (.mi p.kt p.vt r (some e)) st.ob}:ASt).put (some p.d) (.tup [.cell (.d (.sc (.bool true))),avOf p.kt e.1,avOf p.vt e.2])
def NxtM.st0 (p:NxtM)(st:ASt):ASt:=st.put (some p.d) (tupV [.bool false])
section
variable{P:Program}{N:Nat}{ops:Array Oper}{st:ASt}{i n:Nat}{Q:Exit->ASt->Prop}
omit [Tabs]in
theorem MapIt.next {w:World}{F:Nat->Prop}{kt vt:Ev.Ty}{l:List (kt.den×vt.den)}{cur:Option (kt.den×vt.den)}{mo:Option Nat}{since:Nat}{seen:Array Nat}{last b:Nat}
  (hb:w.heap[b]?=some (.mapIter mo since seen last))(hm:MapIt w F kt vt l cur mo since seen last)(ty:TypeId):
  (l=[]/\(Instr.next (.pointer (some ⟨b,0,none⟩)) false ty).run P w=.ok (.tuple #[.bool false]) w)\/
  ∃t,∃ht:t<l.length,∃(w1:World) (x:MapEntry),(w1=w\/w1=w.drew)/\(Instr.next (.pointer (some ⟨b,0,none⟩)) false ty).run P w=.ok (.tuple #[.bool true,x.key,x.val]) (setBlock w1 b (.mapIter mo since (seen.push x.born) since))/\
   EntRel w F kt vt l[t] x/\MapIt w F kt vt (l.eraseIdx t) (some l[t]) mo since (seen.push x.born) since:=by
 rcases hm with⟨rfl,rfl,rfl⟩| ⟨m,es,js,rfl,hF,hI,rfl,hst,eO,⟨hl,hent⟩,fx,e9⟩
 ·refine .inl ⟨rfl,?_⟩
  simp[Instr.next,getObj,Sem.run,hb,Result.andThen]
 ·have hold:∀x∈es.toList,x.born<last:=λx hx=>by
   obtain⟨j,hj,rfl⟩:=List.getElem_of_mem hx;have:=hst.1 j (by simpa using hj);simpa using this
  rcases run_next_at (P:=P) w ty b m last last seen es last hb hI hold (r2q _)with⟨h0,hrun⟩| ⟨x,hx,w1,eF,hrun⟩
  ·refine .inl ⟨?_,hrun⟩
   cases l with
   |nil=>rfl
   |cons y r=>
    have hlen:0<js.length:=by rw[hl];simp
    have hj:=(hent 0 (by simp)).1;have h1:=(fx _ hj).2 (s2s hlen);have h2:es[js[0]]∈leftOf es seen:=by
     unfold leftOf;rw[Array.mem_filter];exact⟨Array.getElem_mem hj,by rw[h1];rfl⟩
    have h3:=Array.eq_empty_of_size_eq_zero h0;rw[h3]at h2;simp at h2
  ·have jx:x∈leftOf es seen:=by simpa using hx
   unfold leftOf at jx;rw[Array.mem_filter]at jx;obtain⟨qi,oV⟩:=jx;obtain⟨j,hj,rfl⟩:=Array.getElem_of_mem qi;have qu:seen.contains es[j].born=false:=by simpa using oV
   have qx:=(fx j hj).1 qu;obtain⟨t,ht,mO⟩:=List.getElem_of_mem qx;have fO:t<l.length:=by rw [<-hl];exact ht
   refine .inr ⟨t,fO,w1,es[j],eF,hrun,?_,?_⟩
   ·have:=(hent t fO).2
    simp only[mO]at this;exact this
   ·refine .inr ⟨m,es,js.eraseIdx t,rfl,hF,hI,rfl,hst,t0c eO t,⟨by rw[List.length_eraseIdx,List.length_eraseIdx,if_pos ht,if_pos fO,hl],λq hq=>?_⟩,λi hi=>?_,λe he=>?_⟩
    ·have fQ:q<(js.eraseIdx t).length:=by rw[List.length_eraseIdx,if_pos ht,hl];rw[List.length_eraseIdx,if_pos fO]at hq;exact hq
     rw[List.length_eraseIdx,if_pos fO]at hq;have e1:=List.getElem_eraseIdx fQ;have e2:=List.getElem_eraseIdx (l:=l) (i:=t) (j:=q) (by rw[List.length_eraseIdx,if_pos fO];exact hq);by_cases nD:q<t
     ·rw[dif_pos nD]at e1 e2
      obtain⟨h1,h2⟩:=hent q (by omega);refine⟨by rw[e1];exact h1,?_⟩;rw[e2];have e3:es[(js.eraseIdx t)[q]]'(by rw[e1];exact h1)=es[js[q]'(by omega)]'h1:=by simp only[e1]
      rw[e3];exact h2
     ·rw[dif_neg nD]at e1 e2
      obtain⟨h1,h2⟩:=hent (q+1) (by omega);refine⟨by rw[e1];exact h1,?_⟩;rw[e2];have e3:es[(js.eraseIdx t)[q]]'(by rw[e1];exact h1)=es[js[q+1]'(by omega)]'h1:=by simp only[e1]
      rw[e3];exact h2
    ·rw[l0q eO ht i, <-fx i hi,mO]
     constructor
     ·intro h
      have h1:seen.contains es[i].born=false/\es[i].born≠es[j].born:=by
       simpa[Array.contains_push,r2x]using h
      exact⟨h1.1,λe=>by subst e;exact h1.2 rfl⟩
     ·rintro⟨h1,h2⟩
      have h3:es[i].born≠es[j].born:=λe=>h2 (hst.2 i j hi hj e);have h4:¬es[i].born∈seen:=by simpa using h1
      simp[h3,h4]
    ·cases he
     refine⟨j,hj,by simp,?_⟩;have:=(hent t fO).2;simp only[mO]at this;exact this
omit [Tabs]in
theorem d2a{w:World}{F:Nat->Prop}{ρ:Env}{tm:Array Value}{kt vt:Ev.Ty}{e:kt.den×vt.den}{x:MapEntry}(h:EntRel w F kt vt e x):
  RelAV w F ρ tm (.tup [.cell (.d (.sc (.bool true))),avOf kt e.1,avOf vt e.2]) (.tuple #[.bool true,x.key,x.val]):=by
 refine .tup _ _ rfl λi hi=>?_
 match i,hi with
 | 0,_=>exact .cell _ _ (.d _ _ (.sc _ rfl))
 | 1,_=>exact k0y h.1
 | 2,_=>exact k0y h.2
omit [Tabs]in
theorem b2a{w:World}{F:Nat->Prop}{ρ:Env}{tm:Array Value}{kt vt:Ev.Ty}{e:kt.den×vt.den}{x:MapEntry}(h:EntRel w F kt vt e x):
  RelAV w F ρ tm (.tup [avOf kt e.1,avOf vt e.2]) (.tuple #[x.key,x.val]):=by
 refine .tup _ _ rfl λi hi=>?_
 match i,hi with
 | 0,_=>exact k0y h.1
 | 1,_=>exact k0y h.2
theorem AOps.nextM {o:Oper}{p:NxtM}(ho:opK ops st.fr i=some o)(hp:nxtM N st o=some p)
  (k1:∀j (hj:j<p.l.length),AOps P N ops (List.range' (i+1) n) (p.st1 st p.l[j] (p.l.eraseIdx j)) Q)(k0:p.l=[]->AOps P N ops (List.range' (i+1) n) (p.st0 st) Q):AOps P N ops (List.range' i (n+1)) st Q:=by
 rw[t2j];intro F ρ a w hr;rw[wpOps_cons];obtain⟨e,hw⟩:=a0x hr ho;simp only[wpOp,e];rw[if_pos hw];left;obtain⟨d0,op,ty,pos,after,guard⟩:=o;unfold nxtM at hp;dsimp only at hp;split at hp
 ·rename_i x
  split at hp
  ·rename_i d
   split at hp
   ·rename_i kk hx
    split at hp
    ·rename_i kt vt l cur aH
     cases hb:Nat.blt d N with
     |false=>rw[hb]at hp;cases hp
     |true=>
      rw[hb]at hp;cases hp;have bO:=a0d hr x;rw[hx]at bO;have b8:=hr.ob kk;rw[aH]at b8;cases b8 with
      |mi _ _ _ _ b mo si se la hk cA hm=>
       have eI:a.eval x=.pointer (some ⟨b,0,none⟩):=by
        cases bO with
        |cell _ _ bO=>cases bO with
         |ptr k off v bO=>exact bO b hk
       have cG:b<w.heap.size:=(r2r.1 cA).1;rcases hm.next (P:=P) cA ty with⟨h0,hrun⟩| ⟨t,ht,w1,y,eF,hrun,hent,hm2⟩
       ·have fF:(execOp a.eval ⟨some d,.next x false,ty,pos,after,guard⟩).run P w=.ok (.value (.tuple #[.bool false])) w:=by
         simp[execOp,eI,hrun,Result.andThen]
        simp only[Oper.wp,Oper.upon,fF];exact(k0 h0).after (hr.put d (a0e hb) (v0s _ (by simp[Value.oneCell']))) (Fr.refl F ρ w)
       ·have fF:(execOp a.eval ⟨some d,.next x false,ty,pos,after,guard⟩).run P w=.ok (.value (.tuple #[.bool true,y.key,y.val])) (setBlock w1 b (.mapIter mo si (se.push y.born) si)):=by
         simp[execOp,eI,hrun,Result.andThen]
        simp only[Oper.wp,Oper.upon,fF];have iT:w1.heap=w.heap:=by rcases eF with rfl|rfl<;>rfl
        have aF:∀b',b≠b' ->(setBlock w1 b (.mapIter mo si (se.push y.born) si)).heap[b']?=w.heap[b']?:=λb' aS=>by
         simp[setBlock,iT,s2r,aS]
        have hF:∀b',F b' ->(setBlock w1 b (.mapIter mo si (se.push y.born) si)).heap[b']?=w.heap[b']?:=λb' hb' =>aF b' λhe=>hr.rw.dis b' hb' ⟨kk,_,hk,by rw [<-he];rfl⟩;obtain⟨h1,h2⟩:=hr.setBox (w' :=setBlock w1 b (.mapIter mo si (se.push y.born) si)) (by rcases eF with rfl|rfl<;>rfl) (by rcases eF with rfl|rfl<;>rfl) (by rcases eF with rfl|rfl<;>rfl) (by simp[setBlock,iT]) kk (.mi kt vt (l.eraseIdx t) (some l[t]))
         (λb' hb' =>aF b' λhe=>hb' _ hk (by rw [<-he];rfl))
         (.mi _ _ _ _ b mo si _ si hk (by simp[setBlock,iT,s2r,cG]) (hm2.mono hF λ_ h=>h))
        exact(k1 t ht).after (h1.put d (a0e hb) (d2a ⟨hent.1.mono hF λ_ h=>h,hent.2.mono hF λ_ h=>h⟩)) h2
    ·cases hp
   ·cases hp
  ·cases hp
 ·cases hp
def o1n(N:Nat)(st:ASt)(d:Option Tmp)(x:Operand):Option Eff:=
 match d with
 |some d=>match ev st.fr x with
  |.cell (.ptr k 0)=>match lkO st.ob k with
   |.mi kt vt _ (some e)=>bif Nat.blt d N then some (.put d (.tup [avOf kt e.1,avOf vt e.2]))else none
   |_=>none
  |_=>none
 |none=>none
theorem n1b{e:Eff}{o:Oper}{x:Operand}(ho:o.op=.entry x)(hs:o1n N st o.dst x=some e):OpEff P N o st e:=by
 unfold o1n at hs;split at hs
 ·rename_i d hd
  split at hs
  ·rename_i kk hx
   split at hs
   ·rename_i kt vt l en aH
    cases hb:Nat.blt d N with
    |false=>rw[hb]at hs;cases hs
    |true=>
     rw[hb]at hs;cases hs;refine .of_plain hd hb (by simp[AV.plain,AV.plainL,j0y]) λF ρ a w hr=>?_;have bO:=a0d hr x;rw[hx]at bO;have b8:=hr.ob kk;rw[aH]at b8;cases b8 with
     |mi _ _ _ _ b mo si se la hk cA hm=>
      have eI:a.eval x=.pointer (some ⟨b,0,none⟩):=by
       cases bO with
       |cell _ _ bO=>cases bO with
        |ptr k off v bO=>exact bO b hk
      rcases hm with⟨_,_,h⟩| ⟨m,es,js,rfl,hF,hI,rfl,hst,eO,_,_,e9⟩
      ·cases h
      ·obtain⟨j,hj,j3,hent⟩:=e9 en rfl
       refine⟨.tuple #[es[j].key,es[j].val],?_,b2a hent⟩;obtain⟨sp,oU⟩:=Array.back?_eq_some_iff.1 j3;have jB:=cA;rw[oU]at jB;have hn:(es.toList.map (·.born)).Nodup:=by
        rw[List.nodup_iff_pairwise_ne,List.pairwise_iff_getElem];intro i1 i2 h1 h2 aJ heq;simp only[s2k,s2p]at h1 h2;have:=hst.2 i1 i2 h1 h2 (by simpa using heq);omega
       have:=run_entry_at (P:=P) w b m la sp es la es[j] jB hI (by simp) hn;simp[execOp,ho,eI,this,Result.andThen]
   ·cases hs
  ·cases hs
 ·cases hs
def e1b(P:Program)(N:Nat)(st:ASt)(d:Option Tmp)(t:TypeId)(x:Operand):Option Eff:=
 match d with
 |some d=>match P.underlying t with
  |some (.map _ _)=>match ev st.fr x with
   |.cell (.d (.nm kt vt l))=>bif Nat.blt d N then some (.new d (.mi kt vt l none) d (.cell (.ptr d 0)))else none
   |_=>none
  |_=>none
 |none=>none
omit [Tabs]in
theorem a2v{w:World}{F:Nat->Prop}{kt vt:Ev.Ty}{l:List (kt.den×vt.den)}{v:Value}(h:RelD w F (.nm kt vt l) v):
  (v=.map none/\l=[])\/ ∃b es clock,v=.map (some b)/\F b/\w.heap[b]?=some (.map es clock)/\RelM w F kt vt l es/\StOk es clock:=by
 generalize hx:D.nm kt vt l=x at h;cases h with
 |nm0 kt' fg=>cases hx;exact .inl ⟨rfl,rfl⟩
 |nm kt' fg l' b es clock ka va hF hb hs hz he h1 h2 hst=>
  cases hx;refine .inr ⟨b,es,clock,rfl,hF,hb,⟨hs,λi hi aK=>⟨?_,?_⟩⟩,hst⟩
  ·rw[(he i aK).1]
   exact RelE.of_cells (hz i hi).1 (h1 i hi)
  ·rw[(he i aK).2]
   exact RelE.of_cells (hz i hi).2 (h2 i hi)
 |_=>cases hx
theorem d1s{e:Eff}{o:Oper}{t:TypeId}{x:Operand}(ho:o.op=.range t x)(hs:e1b P N st o.dst t x=some e):OpEff P N o st e:=by
 obtain⟨dst,op,ty,pos,after,guard⟩:=o;dsimp only at ho hs;subst ho;unfold e1b at hs;split at hs
 ·rename_i d
  split at hs
  ·rename_i a e' ht
   split at hs
   ·rename_i kt vt l hx
    cases hd:Nat.blt d N with
    |false=>rw[hd]at hs;cases hs
    |true=>
     rw[hd]at hs;cases hs;refine⟨rfl,λF ρ ac w h=>?_⟩;have bO:=a0d h x;rw[hx]at bO;have main:∃mo since,(Instr.range t (ac.eval x)).run P w=.ok (.pointer (some ⟨w.heap.size,0,none⟩)) (w.alloc (.mapIter mo since #[] since))/\MapIt w F kt vt l none mo since #[] since:=by
      rcases a2v (a0w bO)with⟨hv,rfl⟩| ⟨b,es,clock,hv,hF,hb,hM,hst⟩
      ·rw[hv]
       exact⟨none,0,run_range_nilMap w t a e' ht,.inl ⟨rfl,rfl,rfl⟩⟩
      ·rw[hv]
       refine⟨some b,clock,run_range_map w t a e' b es clock ht hb,.inr ⟨b,es,List.range es.size,rfl,hF,hb,rfl,hst,List.nodup_range,⟨by simp[hM.1],λq hq=>?_⟩,λi hi=>by simp[hi],λe he=>by cases he⟩⟩;have h1:q<es.size:=by rw[hM.1];exact hq
       refine⟨by simpa using h1,?_⟩;simp only[List.getElem_range];exact hM.2 q hq h1
     obtain⟨mo,since,hrun,hmi⟩:=main;have hF:∀b,F b->(w.alloc (.mapIter mo since #[] since)).heap[b]?=w.heap[b]?:=λb hb=>Go.RowKit.Below.heap_alloc w _ b (h.rw.lt b hb);obtain⟨h1,h2⟩:=h.setOb (w' :=w.alloc (.mapIter mo since #[] since)) rfl rfl rfl (by simp) d (.box w.heap.size) (.mi kt vt l none)
      (λb hb _=>Go.RowKit.Below.heap_alloc w _ b hb) (λb hb=>by cases hb;exact⟨by simp,.inl (r2q _)⟩)
      (.mi _ _ _ _ w.heap.size mo since _ since (Env.set_same _ _ _) (heap_alloc_new w _) (hmi.mono hF λ_ h=>h)) (λhk=>absurd (t2h (a0e hd) h.df.2) (by omega))
     refine⟨.pointer (some ⟨w.heap.size,0,none⟩),w.alloc (.mapIter mo since #[] since),F,_,.inl ?_,h1.put d (a0e hd) (.cell _ _ (.ptr _ _ _ λb hb=>?_)),h2,⟨λj hj=>Env.set_other _ _ _ λe=>hj (by rw[e];rfl),λb hb _=>Go.RowKit.Below.heap_alloc w _ b hb⟩⟩
     ·simp[execOp,hrun,Result.andThen]
     ·rw[Env.set_same]at hb
      cases hb;rfl
   ·cases hs
  ·cases hs
 ·cases hs
omit [Tabs]in
theorem x0g{kt vt:Ev.Ty}(k:kt.den):∀l:List (kt.den×vt.den),u1j kt vt l k=if f0a kt vt l k=true then l.eraseIdx (a0q kt vt l k)else l
 |[]=>rfl
 |p::r=>by
  rw[u1j,f0a,a0q];cases b0l kt k p.1 with
  |true=>simp
  |false=>
   simp only[u2k,List.eraseIdx_cons_succ];rw[x0g k r];split<;>rfl
omit [Tabs]in
theorem j1v{kt vt:Ev.Ty}{k:kt.den}:∀{l:List (kt.den×vt.den)},f0a kt vt l k=true->a0q kt vt l k<l.length
 |[],h=>by cases h
 |p::r,h=>by
  rw[f0a]at h;rw[a0q];cases hb:b0l kt k p.1 with
  |true=>simp
  |false=>
   rw[hb]at h;have:=j1v (l:=r) h;simp only[u2k,r2w];omega
omit [Tabs]in
theorem o1k{w:World}{kt vt:Ev.Ty}{t a e tk ty:TypeId}(ht:P.underlying t=some (.map a e))(ha:keyA P a kt=true)(pD:b0x kt=true)(k:kt.den){l:List (kt.den×vt.den)}{b:Nat}{es:Array MapEntry}{clock:Nat}
  (hb:w.heap[b]?=some (.map es clock)){F:Nat->Prop}(hM:RelM w F kt vt l es)(hst:StOk es clock):
  ∃es',(Builtin.delete_ #[t,tk] ty #[.map (some b),keyV kt k]).run P w=.ok (.tuple #[]) {w with heap:=w.heap.setIfInBounds b (.map es' clock)}/\StOk es' clock/\
   ∀w',(∀b,F b->w'.heap[b]?=w.heap[b]?)->RelM w' F kt vt (u1j kt vt l k) es' :=by
 have h1:=b0i (P:=P) (w:=w) ha es.isEmpty k;have h2:=b0y (P:=P) (w:=w) (vt:=vt) ha k es.toList l (w0k pD hM.1 hM.2);have hg:(getObj b).run P w=.ok (.map es clock) w:=MapKept.run_getObj_map hb;have bH:∀es',(setObj b (.map es' clock)).run P w=.ok () {w with heap:=w.heap.setIfInBounds b (.map es' clock)}:=λes' =>by simp[setObj,Sem.run,hb]
 have cV:∀w',(∀b,F b->w'.heap[b]?=w.heap[b]?)->RelM w' F kt vt l es:=λw' hF=>⟨hM.1,λi h1 h2=>⟨(hM.2 i h1 h2).1.mono hF λ_ h=>h,(hM.2 i h1 h2).2.mono hF λ_ h=>h⟩⟩;have hz:es.toList.length=l.length:=by simpa using hM.1
 have hlen:(0:Nat)=0:=rfl;by_cases hh:f0a kt vt l k=true
 ·have aJ:=j1v hh
  have hf:∃v,fndI kt vt k es.toList l 0=some (a0q kt vt l k,v):=by
   have hz2:∀(es:List MapEntry) (l:List (kt.den×vt.den)) (i:Nat),es.length=l.length->f0a kt vt l k=true->∃v,fndI kt vt k es l i=some (i+a0q kt vt l k,v):=by
    intro es
    induction es with
    |nil=>intro l i h h';cases l with
     |nil=>cases h'
     |cons p r=>simp at h
    |cons x es ih=>
     intro l i h h';cases l with
     |nil=>simp at h
     |cons p r=>
      rw[f0a]at h';rw[fndI,a0q];cases hb:b0l kt k p.1 with
      |true=>exact⟨x.val,by simp⟩
      |false=>
       rw[hb]at h';obtain⟨v,hv⟩:=ih r (i+1) (by simpa using h) h';exact⟨v,by rw[u2k,u2k,hv];congr 2;omega⟩
   obtain⟨v,hv⟩:=hz2 es.toList l 0 hz hh;exact⟨v,by rw[hv,s2u]⟩
  obtain⟨v,hv⟩:=hf;rw[hv]at h2;have eD:a0q kt vt l k<es.size:=by rw[hM.1];exact aJ
  have e1:es.eraseIdxIfInBounds (a0q kt vt l k)=es.eraseIdx (a0q kt vt l k) eD:=by simp[Array.eraseIdxIfInBounds,eD]
  have cO:∀j (hj:j<(es.eraseIdxIfInBounds (a0q kt vt l k)).size),∃q,∃hq:q<es.size,(es.eraseIdxIfInBounds (a0q kt vt l k))[j]=es[q]/\q=(if j<a0q kt vt l k then j else j+1):=λj hj=>by
   have kU:j<(es.eraseIdx (a0q kt vt l k) eD).size:=by rw [<-e1];exact hj
   have e2:(es.eraseIdxIfInBounds (a0q kt vt l k))[j]=(es.eraseIdx (a0q kt vt l k) eD)[j]:=by simp only[e1]
   have aR:(es.eraseIdx (a0q kt vt l k) eD).size=es.size - 1:=by simp
   by_cases cY:j<a0q kt vt l k
   ·refine⟨j,by omega,?_,by rw[if_pos cY]⟩
    rw[e2,Array.getElem_eraseIdx,dif_pos cY]
   ·refine⟨j+1,by omega,?_,by rw[if_neg cY]⟩
    rw[e2,Array.getElem_eraseIdx,dif_neg cY]
  refine⟨es.eraseIdxIfInBounds (a0q kt vt l k),?_,⟨λi hi=>?_,λi j hi hj lk=>?_⟩,λw' hF=>?_⟩
  ·simp[Builtin.delete_,run_underlying ht,hg,h1,h2,bH,Result.andThen]
  ·obtain⟨q,hq,e3,_⟩:=cO i hi
   rw[e3];exact hst.1 q hq
  ·obtain⟨q,hq,e3,e4⟩:=cO i hi
   obtain⟨q',hq',e5,e6⟩:=cO j hj;rw[e3,e5]at lk;have:=hst.2 q q' hq hq' lk;split at e4<;>split at e6<;>omega
  ·have hM' :=cV w' hF
   rw[x0g,if_pos hh];refine⟨by rw[e1,Array.size_eraseIdx,List.length_eraseIdx,if_pos aJ,hM.1],λi hi aK=>?_⟩;obtain⟨q,hq,e3,e4⟩:=cO i aK;have e5:=List.getElem_eraseIdx hi;rw[e3,e5];by_cases cY:i<a0q kt vt l k
   ·rw[if_pos cY]at e4
    subst e4;rw[dif_pos cY];exact hM'.2 q (by rw [<-hM.1];exact hq) hq
   ·rw[if_neg cY]at e4
    subst e4;rw[dif_neg cY];exact hM'.2 (i+1) (by rw [<-hM.1];exact hq) hq
 ·have hf:fndI kt vt k es.toList l 0=none:=by
   have hz2:∀(es:List MapEntry) (l:List (kt.den×vt.den)) (i:Nat),es.length=l.length->¬f0a kt vt l k=true->fndI kt vt k es l i=none:=by
    intro es
    induction es with
    |nil=>intro l i h h';cases l with
     |nil=>rfl
     |cons p r=>simp at h
    |cons x es ih=>
     intro l i h h';cases l with
     |nil=>simp at h
     |cons p r=>
      rw[f0a]at h';rw[fndI];cases hb:b0l kt k p.1 with
      |true=>rw[hb]at h';exact absurd rfl h'
      |false=>
       rw[hb]at h';exact ih r (i+1) (by simpa using h) h'
   exact hz2 es.toList l 0 hz hh
  rw[hf]at h2;refine⟨es,?_,hst,λw' hF=>?_⟩
  ·simp[Builtin.delete_,run_underlying ht,hg,h1,h2,bH,Result.andThen]
  ·rw[x0g,if_neg hh]
   exact cV w' hF
def sDel(P:Program)(st:ASt)(d:Option Tmp)(c:Call):Option Eff:=
 match c,d with
 |⟨.builtin .delete,⟨[m,x]⟩,⟨[t,_]⟩⟩,none=>match ev st.fr m with
  |.cell (.mpr kk)=>match lkO st.ob kk with
   |.mp tm kt vt l _=>match P.underlying t with
    |some (.map a _)=>match m0p kt (ev st.fr x)with
     |some k=>bif keyA P a kt&&b0x kt then some (.upd kk (.mp tm kt vt (u1j kt vt l k) false))else none
     |none=>none
    |_=>none
   |_=>none
  |_=>none
 |_,_=>none
theorem b2p{e:Eff}{o:Oper}{c:Call}(ho:o.op=.call c)(hs:sDel P st o.dst c=some e):OpEff P N o st e:=by
 unfold sDel at hs;split at hs
 ·rename_i m x t tk hd
  split at hs
  ·rename_i kk hm
   split at hs
   ·rename_i tm kt vt l dn aH
    split at hs
    ·rename_i a e' ht
     split at hs
     ·rename_i k hk
      cases hb:(keyA P a kt&&b0x kt)with
      |false=>rw[hb]at hs;cases hs
      |true=>
       rw[hb]at hs;cases hs;rw[r2i]at hb;obtain⟨b2,b3⟩:=hb;refine⟨hd,λF ρ ac w hr=>?_⟩;obtain⟨b,es,clock,aV,aW,hmv,hM,hdn⟩:=k1o hr hm aH;have bI:ac.eval x=keyV kt k:=e0m (w:=w) (F:=F) b3 (b0s (e0w hk (a0d hr x)));obtain⟨es',hrun,eB,hM'⟩:=o1k (P:=P) (tk:=tk) (ty:=o.type) ht b2 b3 k aW hM hdn.2;obtain⟨h1,h2,h3⟩:=q0p hr aV aW tm (dn:=false) (clock' :=clock) hM' ⟨λh=>(by cases h),eB⟩;refine⟨.tuple #[],_,F,ρ,.inl ?_,h1,h2,h3 _ rfl⟩;simp[execOp,ho,hmv,bI,hrun,Result.andThen,resolve,invoke,builtin]
     ·cases hs
    ·cases hs
   ·cases hs
  ·cases hs
 ·cases hs
def sEqP(P:Program)(N:Nat)(st:ASt)(d:Option Tmp)(neq:Bool)(t:TypeId)(x y:Operand):Option Eff:=
 match d with
 |none=>none
 |some d=>match P.underlying t with
  |some dd=>bif r0c P dd&&Nat.blt d N&& !(P.eqGuardType P.depth t)then match m0p .pair (ev st.fr x)with
   |some a=>match m0p .pair (ev st.fr y)with
    |some b=>some (.put d (.cell (.d (bC (if neq then !b0l .pair a b else b0l .pair a b)))))
    |none=>none
   |none=>none else none
  |none=>none
theorem q0l{e:Eff}{o:Oper}{neq:Bool}{t u:TypeId}{x y:Operand}(ho:o.op=.binOp (if neq then .neq else .eql) t x y u)(hs:sEqP P N st o.dst neq t x y=some e):OpEff P N o st e:=by
 unfold sEqP at hs;split at hs
 ·cases hs
 rename_i d hd;split at hs
 ·rename_i dd hu
  cases hb:(r0c P dd&&Nat.blt d N&& !(P.eqGuardType P.depth t))with
  |false=>rw[hb]at hs;cases hs
  |true=>
   rw[hb]at hs;simp only[u2j]at hs;split at hs
   ·rename_i a ha
    split at hs
    ·rename_i b aW
     cases hs;simp only[r2i,s2v]at hb;obtain⟨⟨dV,hb2⟩,fX⟩:=hb;obtain⟨e,rfl,he,aR⟩:=g2e dV;refine .of_plain hd hb2 rfl λF ρ ac w hr=>?_;have bI:ac.eval x=keyV .pair a:=e0m (w:=w) (F:=F) (τ:=.pair) rfl (b0s (e0w ha (a0d hr x)));have gr:ac.eval y=keyV .pair b:=e0m (w:=w) (F:=F) (τ:=.pair) rfl (b0s (e0w aW (a0d hr y)));have heq:=u0g (P:=P) (w:=w) hu he aR a b;simp only[keyV]at heq;refine⟨.bool (if neq then !b0l .pair a b else b0l .pair a b),?_,.cell _ _ (.d _ _ (.sc _ rfl))⟩
     cases neq<;>simp[execOp,ho,bI,gr,eqGuard,binOp,heq,keyV,Result.andThen,fX]
    ·cases hs
   ·cases hs
 ·cases hs
def eqPO(P:Program)(N:Nat)(st:ASt)(o:Oper):Option Eff:=
 match o.op with
 |.binOp .eql t x y _=>sEqP P N st o.dst false t x y
 |.binOp .neq t x y _=>sEqP P N st o.dst true t x y
 |_=>none
theorem i1b{e:Eff}{o:Oper}(hs:eqPO P N st o=some e):OpEff P N o st e:=by
 unfold eqPO at hs;split at hs
 ·rename_i t x y u ho
  exact q0l (neq:=false) ho hs
 ·rename_i t x y u ho
  exact q0l (neq:=true) ho hs
 ·cases hs
def d1z(P:Program)(N:Nat)(st:ASt)(o:Oper):Option Eff:=
 match o.op with
 |.range t x=>e1b P N st o.dst t x
 |.entry x=>o1n N st o.dst x
 |.call c=>sDel P st o.dst c
 |.binOp .eql t x y _=>sEqP P N st o.dst false t x y
 |.binOp .neq t x y _=>sEqP P N st o.dst true t x y
 |_=>none
theorem f1m{e:Eff}{o:Oper}(hs:d1z P N st o=some e):OpEff P N o st e:=by
 unfold d1z at hs;split at hs
 ·rename_i t x ho
  exact d1s ho hs
 ·rename_i x ho
  exact n1b ho hs
 ·rename_i c ho
  exact b2p ho hs
 ·rename_i t x y u ho
  exact q0l (neq:=false) ho hs
 ·rename_i t x y u ho
  exact q0l (neq:=true) ho hs
 ·cases hs
def u1z(P:Program)(N:Nat)(st:ASt)(o:Oper):Option Eff:=
 match r1h P N st o with
 |some e=>some e
 |none=>d1z P N st o
theorem m1x{e:Eff}{o:Oper}(hs:u1z P N st o=some e):OpEff P N o st e:=by
 unfold u1z at hs;split at hs
 ·rename_i e' he
  cases hs;exact n1r he
 ·exact f1m hs
end
end Esp

import Derived.Test.YtnaeiccibhdknaaGreatDoorEvTmpl
import Derived.Laws.RangeString
set_option linter.unusedSimpArgs false
set_option linter.unusedVariables false
namespace Esp
open Go
variable [Tabs]
structure NxtT where
 d:Nat
 k:Nat
 s:Bt
 pos:Nat
def nxtT(N:Nat)(st:ASt)(o:Oper):Option NxtT:=
 match o.op with
 |.next x true=>match o.dst with
  |some d=>match ev st.fr x with
   |.cell (.ptr k 0)=>match lkO st.ob k with
    |.it s pos=>bif Nat.blt d N then some ⟨d,k,s,pos⟩else none
    |_=>none
   |_=>none
  |none=>none
 |_=>none
def tupV(l:List Value):AV:=.tup (l.map λv=>.cell (.d (.sc v)))
def NxtT.st1 (p:NxtT)(st:ASt):ASt:=({st with ob:=ASt.setO p.k (.it p.s (p.pos+(Utf8.decode p.s p.pos).2)) st.ob}:ASt).put (some p.d) (tupV [.bool true,.int .i64 p.pos,.int .i32 (Utf8.decode p.s p.pos).1])
def NxtT.st0 (p:NxtT)(st:ASt):ASt:=st.put (some p.d) (tupV [.bool false])
omit [Tabs]in
theorem v0s{w:World}{F:Nat->Prop}{ρ:Env}{tm:Array Value}(l:List Value)(h:∀v∈l,v.oneCell' =true):RelAV w F ρ tm (tupV l) (.tuple l.toArray):=by
 refine .tup _ _ (by simp) λi hi=>?_;have aK:i<l.length:=by simpa using hi
 have e:l.toArray.getD i undef=l[i]:=by simp[r2j,aK]
 rw[e];simp only[List.getElem_map];exact .cell _ _ (.d _ _ (.sc _ (h _ (s2s aK))))
section
variable{P:Program}{N:Nat}{ops:Array Oper}{st:ASt}{i n:Nat}{Q:Exit->ASt->Prop}
theorem AOps.next {o:Oper}{p:NxtT}(ho:opK ops st.fr i=some o)(hp:nxtT N st o=some p)
  (k1:p.pos<p.s.size->AOps P N ops (List.range' (i+1) n) (p.st1 st) Q)(k0:¬p.pos<p.s.size->AOps P N ops (List.range' (i+1) n) (p.st0 st) Q):AOps P N ops (List.range' i (n+1)) st Q:=by
 rw[t2j];intro F ρ a w hr;rw[wpOps_cons];obtain⟨e,hw⟩:=a0x hr ho;simp only[wpOp,e];rw[if_pos hw];left;obtain⟨d0,op,ty,pos,after,guard⟩:=o;unfold nxtT at hp;dsimp only at hp;split at hp
 ·rename_i x
  split at hp
  ·rename_i d
   split at hp
   ·rename_i kk hx
    split at hp
    ·rename_i s ps aH
     cases hb:Nat.blt d N with
     |false=>rw[hb]at hp;cases hp
     |true=>
      rw[hb]at hp;cases hp;have bO:=a0d hr x;rw[hx]at bO;have b8:=hr.ob kk;rw[aH]at b8;generalize hbx:AObj.it s ps=bx at b8;cases b8 with
      |gone|arr|na|tab|box|mp|mi|any|fz|mr=>cases hbx
      |it s' ps' b hk cA=>
       cases hbx;have eI:a.eval x=.pointer (some ⟨b,0,none⟩):=by
        cases bO with
        |cell _ _ bO=>cases bO with
         |ptr k off v bO=>exact bO b hk
       by_cases aJ:ps<s.size
       ·have hrun:(execOp a.eval ⟨some d,.next x true,ty,pos,after,guard⟩).run P w=.ok (.value (.tuple #[.bool true,.int .i64 ps,.int .i32 (Utf8.decode s ps).1])) {w with heap:=w.heap.setIfInBounds b (.stringIter s (ps+(Utf8.decode s ps).2))}:=by
         simp[execOp,eI,Instr.next,getObj,setObj,Sem.run,cA,aJ,goInt]
        simp only[Oper.wp,Oper.upon,hrun];have cG:b<w.heap.size:=(r2r.1 cA).1;obtain⟨h1,h2⟩:=hr.setBox (w' :={w with heap:=w.heap.setIfInBounds b (.stringIter s (ps+(Utf8.decode s ps).2))}) rfl rfl rfl (by simp) kk (.it s (ps+(Utf8.decode s ps).2))
         (λb' hb' =>by
          have aS:b≠b' :=λhe=>hb' _ hk (by rw [<-he];rfl);simp[s2r,aS])
         (.it _ _ b hk (by simp[s2r,cG]))
        exact(k1 aJ).after (h1.put d (a0e hb) (v0s _ (by simp[Value.oneCell']))) h2
       ·have hrun:(execOp a.eval ⟨some d,.next x true,ty,pos,after,guard⟩).run P w=.ok (.value (.tuple #[.bool false])) w:=by
         simp[execOp,eI,Instr.next,getObj,Sem.run,cA,aJ]
        simp only[Oper.wp,Oper.upon,hrun];exact(k0 aJ).after (hr.put d (a0e hb) (v0s _ (by simp[Value.oneCell']))) (Fr.refl F ρ w)
    ·cases hp
   ·cases hp
  ·cases hp
 ·cases hp
def o1s(P:Program)(N:Nat)(st:ASt)(d:Option Tmp)(t:TypeId)(x:Operand):Option Eff:=
 match d with
 |some d=>match P.underlying t with
  |some .string=>match ev st.fr x with
   |.cell (.d (.sc (.string s)))=>bif Nat.blt d N then some (.new d (.it s 0) d (.cell (.ptr d 0)))else none
   |_=>none
  |_=>none
 |none=>none
theorem o1i{e:Eff}{o:Oper}{t:TypeId}{x:Operand}(ho:o.op=.range t x)(hs:o1s P N st o.dst t x=some e):OpEff P N o st e:=by
 obtain⟨dst,op,ty,pos,after,guard⟩:=o;dsimp only at ho hs;subst ho;unfold o1s at hs;split at hs
 ·rename_i d
  split at hs
  ·rename_i ht
   split at hs
   ·rename_i s hx
    cases hd:Nat.blt d N with
    |false=>rw[hd]at hs;cases hs
    |true=>
     rw[hd]at hs;cases hs;refine⟨rfl,λF ρ a w h=>?_⟩;have bO:=a0d h x;rw[hx]at bO;have hv:a.eval x=.string s:=by
      generalize a.eval x=v at bO;cases a0w bO;rfl
     have hF:∀b,F b->(w.iter s 0).heap[b]?=w.heap[b]?:=λb hb=>Go.RowKit.Below.heap_alloc w _ b (h.rw.lt b hb);obtain⟨h1,h2⟩:=h.setOb (w' :=w.iter s 0) rfl rfl rfl (by simp[World.iter]) d (.box w.heap.size) (.it s 0)
      (λb hb _=>Go.RowKit.Below.heap_alloc w _ b hb) (λb hb=>by cases hb;exact⟨by simp[World.iter],.inl (r2q _)⟩)
      (.it _ _ w.heap.size (Env.set_same _ _ _) (World.iter_heap w s 0)) (λhk=>absurd (t2h (a0e hd) h.df.2) (by omega))
     refine⟨.pointer (some ⟨w.heap.size,0,none⟩),w.iter s 0,F,_,.inl ?_,h1.put d (a0e hd) (.cell _ _ (.ptr _ _ _ λb hb=>?_)),h2,⟨λj hj=>Env.set_other _ _ _ λe=>hj (by rw[e];rfl),λb hb _=>Go.RowKit.Below.heap_alloc w _ b hb⟩⟩
     ·simp[execOp,hv,run_range_string w t s ht]
     ·rw[Env.set_same]at hb
      cases hb;rfl
   ·cases hs
  ·cases hs
 ·cases hs
def sIfo(P:Program)(N:Nat)(st:ASt)(d:Option Tmp)(t:TypeId)(x:Operand):Option Eff:=
 match d with
 |none=>none
 |some d=>match ev st.fr x with
  |.cell (.own k)=>match P.underlying t with
   |some (.slice _)=>bif Nat.blt d N then some (.put d (.cell (.ifo t k)))else none
   |_=>none
  |_=>none
theorem a2c{e:Eff}{o:Oper}{t:TypeId}{x:Operand}(ho:o.op=.makeInterface t x)(hs:sIfo P N st o.dst t x=some e):OpEff P N o st e:=by
 unfold sIfo at hs;split at hs
 ·cases hs
 ·rename_i d hd
  split at hs
  ·rename_i k hx
   split at hs
   ·rename_i e' ht
    cases hb:Nat.blt d N with
    |false=>rw[hb]at hs;cases hs
    |true=>
     rw[hb]at hs;cases hs;refine .of_plain hd hb rfl λF ρ a w hr=>?_;have bO:=a0d hr x;rw[hx]at bO;have h2:RelAC w F ρ (.own k) (a.eval x):=by cases bO;assumption
     refine⟨.iface t (a.eval x),?_,.cell _ _ (.ifo t k _ λu hu=>?_)⟩
     ·simp[execOp,ho,Instr.makeInterface,run_underlying ht,Result.andThen]
     ·cases h2 with
      |own k v h=>rw[h u hu]
   ·cases hs
  ·cases hs
def r1h(P:Program)(N:Nat)(st:ASt)(o:Oper):Option Eff:=
 match o.op with
 |.range t x=>o1s P N st o.dst t x
 |.makeInterface t x=>sIfo P N st o.dst t x
 |_=>none
theorem n1r{e:Eff}{o:Oper}(hs:r1h P N st o=some e):OpEff P N o st e:=by
 unfold r1h at hs;split at hs
 ·rename_i t x ho
  exact o1i ho hs
 ·rename_i t x ho
  exact a2c ho hs
 ·cases hs
end
end Esp

import Derived.Test.YtnaeiccibhdknaaGreatDoorEvMr
set_option linter.unusedSimpArgs false
set_option linter.unusedVariables false
namespace Esp
open Go
variable [Tabs]
def p0k(s:Bt):(bound i:Nat)->List Int
 | 0,_=>[]
 |bound+1,i=>if i<s.size then((Utf8.decode s i).1:Int)::p0k s bound (i+(Utf8.decode s i).2)else []
def b0b(s:Bt):List Int:=p0k s s.size 0
omit [Tabs]in
theorem p0j(s:Bt):∀(bound i:Nat) (acc:Array Value),Conv.runesFrom s bound i acc=acc++((p0k s bound i).map λn=>Value.int .i32 n).toArray
 | 0,i,acc=>by simp[Conv.runesFrom,p0k]
 |bound+1,i,acc=>by
  rw[Conv.runesFrom,p0k];split
  ·simp only
   rw[p0j s bound];simp
  ·simp
def l0m(P:Program)(t:TypeId):Bool:=
 match P.underlying t with
 |some (.slice e)=>match P.underlying e,d0t P e with
  |some (.int .i32),some 1=>true
  |_,_=>false
 |_=>false
section
variable{P:Program}{N:Nat}{ops:Array Oper}{Q:Exit->ASt->Prop}{st st' :ASt}{l:List Nat}
omit [Tabs]in
theorem f1p{t:TypeId}(h:l0m P t=true):∃e,P.underlying t=some (.slice e)/\P.underlying e=some (.int .i32)/\d0t P e=some 1:=by
 unfold l0m at h;split at h
 ·split at h
  ·exact⟨_,by assumption,by assumption,by assumption⟩
  ·cases h
 ·cases h
def m0b(s:Bt)(cap:Nat):Array Value:=((b0b s).map λn=>Value.int .i32 n).toArray++Array.replicate (cap - (b0b s).length) (.int .i32 0)
omit [Tabs]in
theorem p1p(w:World)(src dst e:TypeId)(s:Bt)(hs:P.underlying src=some .string)(hd:P.underlying dst=some (.slice e))(he:P.underlying e=some (.int .i32)):
  (convert src dst (.string s)).run P w=.ok (.slice (some ⟨w.heap.size,0,none⟩) (b0b s).length (grownCap w (b0b s).length 0 e)) (w.drew.alloc (.cells (m0b s (grownCap w (b0b s).length 0 e)) e)):=by
 have h0:Conv.runesFrom s s.size 0 #[]=((b0b s).map λn=>Value.int .i32 n).toArray:=by rw[p0j];simp[b0b]
 simp[convert,run_underlying hs,run_underlying hd,run_underlying he,Conv.stringToRunes,h0,Question.forced,newRow,grownCap,m0b]
theorem IEff.runesOf {i d:Nat}{src dst ty:TypeId}{x:Operand}{pos:String}{after:Array Edge}{guard:Option (Nat×Bool)}{s:Bt}
  (ho:opK ops st.fr i=some ⟨some d,.convert src dst x,ty,pos,after,guard⟩)(hx:ev st.fr x=.cell (.d (.sc (.string s))))(hs:P.underlying src=some .string)(hd:l0m P dst=true)(hN:Nat.blt d N=true):
  IEff P N ops i st (.put d (.cell (.d (.nl .i32 (b0b s))))):=by
 refine .of_opK ho ⟨rfl,λF ρ a w hr=>?_⟩;obtain⟨e,hu,he,aR⟩:=f1p hd;have hv:=(a0i (a0d hr x) (by rw[hx];rfl)).1;have hrun:=p1p w src dst e s hs hu he
 let row:=m0b s (grownCap w (b0b s).length 0 e)
 let w1:=w.drew.alloc (.cells row e)
 have dT:=grownCap_ge w (b0b s).length 0 e;have hold:∀b,b<w.heap.size->w1.heap[b]?=w.heap[b]?:=λb hb=>Go.RowKit.Below.heap_alloc w.drew _ b hb;have bJ:w1.heap[w.heap.size]?=some (.cells row e (0,0)):=heap_alloc_new w.drew _
 let F' :Nat->Prop:=λb=>F b\/b=w.heap.size
 have bP:¬live ρ w.heap.size:=by
  rintro⟨k,l,hk,hb⟩;have:=(hr.ob k).lt hk hb;omega
 have hrel:Rel N F' ρ st a w1:=by
  refine⟨⟨?_,?_,hr.rw.inj,hr.rw.tab_of (λb hb=>hold b (hr.rw.lt b hb)) λb hb=>.inl hb⟩,λj=>(hr.fr j).mono (λb hb=>hold b (hr.rw.lt b hb)) (λb hb=>.inl hb) (λ_ _ h=>h),
   λj=>(hr.ob j).through (λb hb=>hold b (hr.rw.lt b hb)) (λb hb=>.inl hb) (λl b hl hb=>hold b ((hr.ob j).lt hl hb)),hr.sz,hr.df⟩
  ·rintro b (hb|rfl)
   ·exact hr.rw.dis b hb
   ·exact bP
  ·rintro b (hb|rfl)
   ·have:=hr.rw.lt b hb
    simp[w1];omega
   ·simp[w1]
 have hfr:Fr F ρ w F' ρ w1:=by
  refine⟨rfl,rfl,rfl,by simp[w1],λb hb=>.inl hb,λb hb _=>hold b hb,?_,λ_ _=>Stab.refl _ _⟩;rintro b hb ((h|rfl)| h)
  ·exact .inl h
  ·omega
  ·exact .inr h
 have bS:(flat .i32 (b0b s)).length=(b0b s).length:=by rw[b0j];simp[Ev.Ty.sz,Ev.Ty.sz0]
 have kI:∀j (h:j<(flat .i32 (b0b s)).length),∃h' :j<(b0b s).length,(flat .i32 (b0b s))[j]=iC .i32 (b0b s)[j]:=by
  have hm:flat .i32 (b0b s)=(b0b s).map λn=>iC .i32 n:=by
   unfold flat
   induction b0b s with
   |nil=>rfl
   |cons n r ih=>simp only[s2o,r2z,ih];rfl
  intro j hj;refine⟨by rw [<-bS];exact hj,?_⟩;simp only[hm,List.getElem_map]
 have iP:RelD w1 F' (.sl 1 (b0b s).length (flat .i32 (b0b s))) (.slice (some ⟨w.heap.size,0,none⟩) (b0b s).length (grownCap w (b0b s).length 0 e)):=by
  refine .sl 1 _ _ _ 0 _ (λj=>row.getD j undef) (.inr rfl) (by rw[bS,Nat.mul_one]) dT (λj hj=>?_) λj hj=>?_
  ·obtain⟨bN,_⟩:=kI j hj
   have kU:j<row.size:=by
    simp only[row,m0b,Array.size_append,List.size_toArray,s2k];omega
   rw[s2u,cell_of_row w1 w.heap.size j row e _ bJ];simp[r2j,kU]
  ·obtain⟨bN,e2⟩:=kI j hj
   rw[e2];have e1:row.getD j undef=.int .i32 (b0b s)[j]:=by
    simp only[row,m0b,r2j];rw[t2t (by simpa using bN)];simp[bN]
   rw[e1];exact .sc _ rfl
 refine⟨.slice (some ⟨w.heap.size,0,none⟩) (b0b s).length (grownCap w (b0b s).length 0 e),w1,F',ρ,.inl ?_,hrel.put d (a0e hN) (.cell _ _ (.d _ _ (.nl _ _ _ iP))),hfr,.none λb hb=>hold b hb⟩;simp only[execOp,hv,Sem.run_bind,hrun,Result.andThen_ok];rfl
end
end Esp

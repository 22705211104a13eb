import Derived.Test.YtcloicgnanjbcaaGreatDoorEvMap
namespace Esp
open Go
set_option linter.unusedSimpArgs false
set_option linter.unusedVariables false
variable [Tabs]
def f0a(s:ByteArray):(bound i:Nat)→List Int
 | 0,_=> []
 | bound+1,i=>if i<s.size then((Utf8.decode s i).1:Int)::f0a s bound (i+(Utf8.decode s i).2)else []
def b0b(s:ByteArray):List Int:=f0a s s.size 0
omit [Tabs]in
theorem m0l(s:ByteArray): ∀(bound i:Nat) (acc:Array Value),Conv.runesFrom s bound i acc=acc++((f0a s bound i).map fun n=>Value.int .i32 n).toArray
 | 0,i,acc=>by simp [Conv.runesFrom,f0a]
 | bound+1,i,acc=>by
  rw [Conv.runesFrom,f0a];split
  ·simp only
   rw [m0l s bound];simp
  ·simp
def j0m(P:Program)(t:TypeId):Bool:=
 match P.underlying t with
 | some (.slice e)=>match P.underlying e,c0i P e with
  | some (.int .i32),some 1=>true
  | _,_=>false
 | _=>false
section
variable{P:Program}{N:Nat}{ops:Array Oper}{Q:Exit→ASt→Prop}{st st' :ASt}{l:List Nat}
omit [Tabs]in
theorem z0n{t:TypeId}(h:j0m P t=true): ∃e,P.underlying t=some (.slice e)∧P.underlying e=some (.int .i32)∧c0i P e=some 1:=by
 unfold j0m at h;split at h
 ·split at h
  ·exact⟨_,by assumption,by assumption,by assumption⟩
  ·cases h
 ·cases h
def j0b(s:ByteArray)(cap:Nat):Array Value:=((b0b s).map fun n=>Value.int .i32 n).toArray++Array.replicate (cap - (b0b s).length) (.int .i32 0)
omit [Tabs]in
theorem j1i(w:World)(src dst e:TypeId)(s:ByteArray)(hs:P.underlying src=some .string)(hd:P.underlying dst=some (.slice e))(he:P.underlying e=some (.int .i32)):
  (convert src dst (.string s)).run P w= .ok (.slice (some ⟨w.heap.size,0,none⟩) (b0b s).length (grownCap w (b0b s).length 0 e)) (w.drew.alloc (.cells (j0b s (grownCap w (b0b s).length 0 e)) e)):=by
 have h0:Conv.runesFrom s s.size 0 #[]=((b0b s).map fun n=>Value.int .i32 n).toArray:=by rw [m0l];simp [b0b]
 simp [convert,run_underlying hs,run_underlying hd,run_underlying he,Conv.stringToRunes,h0,Question.forced,newRow,grownCap,j0b]
theorem IEff.runesOf{i d:Nat}{src dst ty:TypeId}{x:Operand}{pos:String}{after:Array Edge}{guard:Option (Nat×Bool)}{s:ByteArray}
  (ho:opK ops st.fr i=some ⟨some d, .convert src dst x,ty,pos,after,guard⟩)(hx:ev st.fr x= .cell (.d (.sc (.string s))))(hs:P.underlying src=some .string)(hd:j0m P dst=true)(hN:Nat.blt d N=true):
  IEff P N ops i st (.put d (.cell (.d (.nl .i32 (b0b s))))):=by
 refine .of_opK ho ⟨rfl,fun F ρ a w hr=> ?_⟩;obtain⟨e,hu,he,hsz⟩:=z0n hd;have hv:=(a0n (a0f hr x) (by rw [hx];rfl)).1;have hrun:=j1i w src dst e s hs hu he
 let row:=j0b s (grownCap w (b0b s).length 0 e)
 let w1:=w.drew.alloc (.cells row e)
 have hge:=grownCap_ge w (b0b s).length 0 e;have hold: ∀b,b<w.heap.size→w1.heap[b]? =w.heap[b]? :=fun b hb=>Go.RowKit.Below.heap_alloc w.drew _ b hb;have hnew:w1.heap[w.heap.size]? =some (.cells row e (0,0)):=heap_alloc_new w.drew _
 let F' :Nat→Prop:=fun b=>F b∨b=w.heap.size
 have hnl: ¬live ρ w.heap.size:=by
  rintro⟨k,l,hk,hb⟩;have:=(hr.ob k).lt hk hb;omega
 have hrel:Rel N F' ρ st a w1:=by
  refine⟨⟨?_, ?_,hr.rw.inj,hr.rw.tab_of (fun b hb=>hold b (hr.rw.lt b hb)) fun b hb=> .inl hb⟩,fun j=>(hr.fr j).mono (fun b hb=>hold b (hr.rw.lt b hb)) (fun b hb=> .inl hb) (fun _ _ h=>h),
   fun j=>(hr.ob j).through (fun b hb=>hold b (hr.rw.lt b hb)) (fun b hb=> .inl hb) (fun l b hl hb=>hold b ((hr.ob j).lt hl hb)),hr.sz,hr.df⟩
  ·rintro b (hb | rfl)
   ·exact hr.rw.dis b hb
   ·exact hnl
  ·rintro b (hb | rfl)
   ·have:=hr.rw.lt b hb
    simp [w1];omega
   ·simp [w1]
 have hfr:Fr F ρ w F' ρ w1:=by
  refine⟨rfl,rfl,rfl,by simp [w1],fun b hb=> .inl hb,fun b hb _=>hold b hb, ?_,fun _ _=>Stab.refl _ _⟩;rintro b hb ((h | rfl) | h)
  ·exact .inl h
  ·omega
  ·exact .inr h
 have hfl:(flat .i32 (b0b s)).length=(b0b s).length:=by rw [b0i];simp [Ev.Ty.sz,Ev.Ty.sz0]
 have hat: ∀j (h:j< (flat .i32 (b0b s)).length),∃h' :j< (b0b s).length,(flat .i32 (b0b s))[j]=iC .i32 (b0b s)[j]:=by
  have hm:flat .i32 (b0b s)=(b0b s).map fun n=>iC .i32 n:=by
   unfold flat
   induction b0b s with
   | nil=>rfl
   | cons n r ih=>simp only [k2n,k2l,ih];rfl
  intro j hj;refine⟨by rw [←hfl];exact hj, ?_⟩;simp only [hm,List.getElem_map]
 have hsl:RelD w1 F' (.sl 1 (b0b s).length (flat .i32 (b0b s))) (.slice (some ⟨w.heap.size,0,none⟩) (b0b s).length (grownCap w (b0b s).length 0 e)):=by
  refine .sl 1 _ _ _ 0 _ (fun j=>row.getD j undef) (.inr rfl) (by rw [hfl,Nat.mul_one]) hge (fun j hj=> ?_) fun j hj=> ?_
  ·obtain⟨hj',_⟩:=hat j hj
   have hj2:j<row.size:=by
    simp only [row,j0b,Array.size_append,List.size_toArray,k2v];omega
   rw [l2b,cell_of_row w1 w.heap.size j row e _ hnew];simp [j2u,hj2]
  ·obtain⟨hj',e2⟩:=hat j hj
   rw [e2];have e1:row.getD j undef= .int .i32 (b0b s)[j]:=by
    simp only [row,j0b,j2u];rw [m2b (by simpa using hj')];simp [hj']
   rw [e1];exact .sc _ rfl
 refine⟨.slice (some ⟨w.heap.size,0,none⟩) (b0b s).length (grownCap w (b0b s).length 0 e),w1,F',ρ, .inl ?_,hrel.put d (a0j hN) (.cell _ _ (.d _ _ (.nl _ _ _ hsl))),hfr, .none fun b hb=>hold b hb⟩;simp only [execOp,hv,Sem.run_bind,hrun,Result.andThen_ok];rfl
end
end Esp

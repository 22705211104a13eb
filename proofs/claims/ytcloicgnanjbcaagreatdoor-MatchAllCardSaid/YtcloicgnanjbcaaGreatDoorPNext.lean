import Derived.Test.YtcloicgnanjbcaaGreatDoorEvMap
import Derived.Test.YtcloicgnanjbcaaGreatDoorEspQ
namespace Pure
open Esp Ev Go
set_option linter.unusedSimpArgs false
set_option linter.unusedVariables false
def e0l(kind:ByteArray)(m:List (Int×List Int))(x:Ev.Edg):List (Int×List Int):=
 bif seq kind ⟨#[]⟩ || seq x.type kind then a0e .i64 (.lst .i64) m x.src (a0g .i64 (.lst .i64) [] m x.src++ [x.dst])else m
def e0v(kind:ByteArray)(l:List Ev.Edg):List (Int×List Int):=l.foldl (e0l kind) []
def u1d:Ev.Graph×ByteArray×Unit→Option (List (Int×List Int)×Unit):=fun(g,kind,_)=>bif Nat.ble g.edges.length 1000000 then some (e0v kind g.edges,())else none
theorem i1n(kind:ByteArray)(l:List Ev.Edg)(x:Ev.Edg):e0v kind (l++ [x])=e0l kind (e0v kind l) x:=by simp [e0v]
theorem h0z(p:Int×List Int)(r:List (Int×List Int))(j:Int):a0g .i64 (.lst .i64) [] (p::r) j=if j=p.1 then p.2 else a0g .i64 (.lst .i64) [] r j:=by
 rw [a0g];show(bif ((j:Int)==(p.1:Int))then p.2 else _)=_
 by_cases h:j=p.1
 ·rw [if_pos h,show((j:Int)==(p.1:Int))=true by simpa using h];rfl
 ·rw [if_neg h,show((j:Int)==(p.1:Int))=false by simpa using h];rfl
theorem h1a(p:Int×List Int)(r:List (Int×List Int))(k:Int)(v:List Int):a0e .i64 (.lst .i64) (p::r) k v=if k=p.1 then(k,v)::r else p::a0e .i64 (.lst .i64) r k v:=by
 rw [a0e];show(bif ((k:Int)==(p.1:Int))then(k,v)::r else _)=_
 by_cases h:k=p.1
 ·rw [if_pos h,show((k:Int)==(p.1:Int))=true by simpa using h];rfl
 ·rw [if_neg h,show((k:Int)==(p.1:Int))=false by simpa using h];rfl
theorem w0s(l:List (Int×List Int))(k j:Int)(v:List Int):a0g .i64 (.lst .i64) [] (a0e .i64 (.lst .i64) l k v) j=if j=k then v else a0g .i64 (.lst .i64) [] l j:=by
 induction l with
 | nil=>rw [a0e,h0z]
 | cons p r ih=>
  rw [h1a,h0z];by_cases hk:k=p.1
  ·rw [if_pos hk,h0z]
   subst hk;by_cases h:j=p.1
   ·rw [if_pos h,if_pos h]
   ·rw [if_neg h,if_neg h,if_neg h]
  ·rw [if_neg hk,h0z,ih]
   by_cases h:j=p.1
   ·subst h
    rw [if_pos rfl,if_pos rfl,if_neg (Ne.symm hk)]
   ·rw [if_neg h,if_neg h]
theorem o0m(kind:ByteArray)(s:Int)(l:List Ev.Edg):(a0g .i64 (.lst .i64) [] (e0v kind l) s).length≤l.length:=by
 have h: ∀(l:List Ev.Edg) (m:List (Int×List Int)) (n:Nat),(∀s,(a0g .i64 (.lst .i64) [] m s).length≤n)→ ∀s,(a0g .i64 (.lst .i64) [] (l.foldl (e0l kind) m) s).length≤n+l.length:=by
  intro l
  induction l with
  | nil=>intro m n h s;exact h s
  | cons x r ih=>
   intro m n h s;rw [List.foldl_cons];refine k2x (ih _ (n+1) (fun s=> ?_) s) (by simp;omega);unfold e0l;cases hb:(seq kind ⟨#[]⟩ || seq x.type kind)with
   | false=>exact Nat.le_succ_of_le (h s)
   | true=>
    rw [cond_true,w0s];split
    ·simp only [j2y,k2i,List.length_nil]
     have:=h x.src;omega
    ·exact Nat.le_succ_of_le (h s)
 have:=h l [] 0 (fun s=>by simp [a0g]) s;simpa [e0v]using this
end Pure

import Derived.Test.YtcloicgnanjbcaaGreatDoorEvMap
import Derived.Test.YtcloicgnanjbcaaGreatDoorEspQ
namespace Pure
open Esp Ev Go
set_option linter.unusedSimpArgs false
set_option linter.unusedVariables false
def e0j(kind:ByteArray)(m:List (Int×List Int))(x:Ev.Edg):List (Int×List Int):=
 bif seq kind ⟨#[]⟩ || seq x.type kind then a0e .i64 (.lst .i64) m x.src (a0g .i64 (.lst .i64) [] m x.src++ [x.dst])else m
def f0b(kind:ByteArray)(l:List Ev.Edg):List (Int×List Int):=l.foldl (e0j kind) []
def v1d:Ev.Graph×ByteArray×Unit→Option (List (Int×List Int)×Unit):=fun(g,kind,_)=>bif Nat.ble g.edges.length 1000000 then some (f0b kind g.edges,())else none
theorem i1x(kind:ByteArray)(l:List Ev.Edg)(x:Ev.Edg):f0b kind (l++ [x])=e0j kind (f0b kind l) x:=by simp [f0b]
theorem h0u(p:Int×List Int)(r:List (Int×List Int))(j:Int):a0g .i64 (.lst .i64) [] (p::r) j=if j=p.1 then p.2 else a0g .i64 (.lst .i64) [] r j:=by
 rw [a0g];show(bif ((j:Int)==(p.1:Int))then p.2 else _)=_
 by_cases h:j=p.1
 ·rw [if_pos h,show((j:Int)==(p.1:Int))=true by simpa using h];rfl
 ·rw [if_neg h,show((j:Int)==(p.1:Int))=false by simpa using h];rfl
theorem h1i(p:Int×List Int)(r:List (Int×List Int))(k:Int)(v:List Int):a0e .i64 (.lst .i64) (p::r) k v=if k=p.1 then(k,v)::r else p::a0e .i64 (.lst .i64) r k v:=by
 rw [a0e];show(bif ((k:Int)==(p.1:Int))then(k,v)::r else _)=_
 by_cases h:k=p.1
 ·rw [if_pos h,show((k:Int)==(p.1:Int))=true by simpa using h];rfl
 ·rw [if_neg h,show((k:Int)==(p.1:Int))=false by simpa using h];rfl
theorem x0p(l:List (Int×List Int))(k j:Int)(v:List Int):a0g .i64 (.lst .i64) [] (a0e .i64 (.lst .i64) l k v) j=if j=k then v else a0g .i64 (.lst .i64) [] l j:=by
 induction l with
 | nil=>rw [a0e,h0u]
 | cons p r ih=>
  rw [h1i,h0u];by_cases hk:k=p.1
  ·rw [if_pos hk,h0u]
   subst hk;by_cases h:j=p.1
   ·rw [if_pos h,if_pos h]
   ·rw [if_neg h,if_neg h,if_neg h]
  ·rw [if_neg hk,h0u,ih]
   by_cases h:j=p.1
   ·subst h
    rw [if_pos rfl,if_pos rfl,if_neg (Ne.symm hk)]
   ·rw [if_neg h,if_neg h]
theorem o0f(kind:ByteArray)(s:Int)(l:List Ev.Edg):(a0g .i64 (.lst .i64) [] (f0b kind l) s).length≤l.length:=by
 have h: ∀(l:List Ev.Edg) (m:List (Int×List Int)) (n:Nat),(∀s,(a0g .i64 (.lst .i64) [] m s).length≤n)→ ∀s,(a0g .i64 (.lst .i64) [] (l.foldl (e0j kind) m) s).length≤n+l.length:=by
  intro l
  induction l with
  | nil=>intro m n h s;exact h s
  | cons x r ih=>
   intro m n h s;rw [q2o];refine k2x (ih _ (n+1) (fun s=> ?_) s) (by simp;omega);unfold e0j;cases hb:(seq kind ⟨#[]⟩ || seq x.type kind)with
   | false=>exact Nat.le_succ_of_le (h s)
   | true=>
    rw [cond_true,x0p];split
    ·simp only [j2y,k2i,l2v]
     have:=h x.src;omega
    ·exact Nat.le_succ_of_le (h s)
 have:=h l [] 0 (fun s=>by simp [a0g]) s;simpa [f0b]using this
end Pure

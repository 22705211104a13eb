import Derived.Test.YtcloicgnanjbcaaGreatDoorEvMap
import Derived.Test.YtcloicgnanjbcaaGreatDoorEspQ
namespace Pure
open Esp Ev Go
set_option linter.unusedSimpArgs false
set_option linter.unusedVariables false
def e0r(kind:ByteArray)(m:List (Int×List Int))(x:Ev.Edg):List (Int×List Int):=
 bif seq kind ⟨#[]⟩ || seq x.type kind then b0s .i64 (.lst .i64) m x.src (b0c .i64 (.lst .i64) [] m x.src++ [x.dst])else m
def f0q(kind:ByteArray)(l:List Ev.Edg):List (Int×List Int):=l.foldl (e0r kind) []
def o1w:Ev.Graph×ByteArray×Unit→Option (List (Int×List Int)×Unit):=fun(g,kind,_)=>bif Nat.ble g.edges.length 1000000 then some (f0q kind g.edges,())else none
theorem n1r(kind:ByteArray)(l:List Ev.Edg)(x:Ev.Edg):f0q kind (l++ [x])=e0r kind (f0q kind l) x:=by simp [f0q]
theorem i0b(p:Int×List Int)(r:List (Int×List Int))(j:Int):b0c .i64 (.lst .i64) [] (p::r) j=if j=p.1 then p.2 else b0c .i64 (.lst .i64) [] r j:=by
 rw [b0c]
 show(bif ((j:Int)==(p.1:Int))then p.2 else _)=_
 by_cases h:j=p.1
 ·rw [if_pos h,show((j:Int)==(p.1:Int))=true by simpa using h];rfl
 ·rw [if_neg h,show((j:Int)==(p.1:Int))=false by simpa using h];rfl
theorem n1l(p:Int×List Int)(r:List (Int×List Int))(k:Int)(v:List Int):b0s .i64 (.lst .i64) (p::r) k v=if k=p.1 then(k,v)::r else p::b0s .i64 (.lst .i64) r k v:=by
 rw [b0s]
 show(bif ((k:Int)==(p.1:Int))then(k,v)::r else _)=_
 by_cases h:k=p.1
 ·rw [if_pos h,show((k:Int)==(p.1:Int))=true by simpa using h];rfl
 ·rw [if_neg h,show((k:Int)==(p.1:Int))=false by simpa using h];rfl
theorem e1h(l:List (Int×List Int))(k j:Int)(v:List Int):b0c .i64 (.lst .i64) [] (b0s .i64 (.lst .i64) l k v) j=if j=k then v else b0c .i64 (.lst .i64) [] l j:=by
 induction l with
 | nil=>rw [b0s,i0b]
 | cons p r ih=>
  rw [n1l,i0b]
  by_cases hk:k=p.1
  ·rw [if_pos hk,i0b]
   subst hk
   by_cases h:j=p.1
   ·rw [if_pos h,if_pos h]
   ·rw [if_neg h,if_neg h,if_neg h]
  ·rw [if_neg hk,i0b,ih]
   by_cases h:j=p.1
   ·subst h
    rw [if_pos rfl,if_pos rfl,if_neg (Ne.symm hk)]
   ·rw [if_neg h,if_neg h]
theorem p0h(kind:ByteArray)(s:Int)(l:List Ev.Edg):(b0c .i64 (.lst .i64) [] (f0q kind l) s).length≤l.length:=by
 have h: ∀(l:List Ev.Edg) (m:List (Int×List Int)) (n:Nat),(∀s,(b0c .i64 (.lst .i64) [] m s).length≤n)→ ∀s,(b0c .i64 (.lst .i64) [] (l.foldl (e0r kind) m) s).length≤n+l.length:=by
  intro l
  induction l with
  | nil=>intro m n h s;exact h s
  | cons x r ih=>
   intro m n h s
   rw [List.foldl_cons]
   refine Nat.le_trans (ih _ (n+1) (fun s=> ?_) s) (by simp;omega)
   unfold e0r
   cases hb:(seq kind ⟨#[]⟩ || seq x.type kind)with
   | false=>exact Nat.le_succ_of_le (h s)
   | true=>
    rw [cond_true,e1h]
    split
    ·simp only [List.length_append,List.length_cons,List.length_nil]
     have:=h x.src
     omega
    ·exact Nat.le_succ_of_le (h s)
 have:=h l [] 0 (fun s=>by simp [b0c]) s
 simpa [f0q]using this
end Pure

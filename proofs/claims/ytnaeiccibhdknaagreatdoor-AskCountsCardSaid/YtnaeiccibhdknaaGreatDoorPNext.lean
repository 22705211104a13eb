import Derived.Test.YtnaeiccibhdknaaGreatDoorPRange
set_option linter.unusedSimpArgs false
set_option linter.unusedVariables false
namespace Pure
open Esp Ev Go
def g0b(kind:Bt)(m:List (Int×List Int))(x:Edg):List (Int×List Int):=
 bif seq kind ⟨#[]⟩ || seq x.type kind then b0d .i64 (.lst .i64) m x.src (a0k .i64 (.lst .i64) [] m x.src++ [x.dst])else m
def g0x(kind:Bt)(l:List Edg):List (Int×List Int):=l.foldl (g0b kind) []
def y1f:Graph×Bt×Unit->Option (List (Int×List Int)×Unit):=λ(g,kind,_)=>bif Nat.ble g.edges.length 1000000 then some (g0x kind g.edges,())else none
theorem o1a(kind:Bt)(l:List Edg)(x:Edg):g0x kind (l++ [x])=g0b kind (g0x kind l) x:=by simp[g0x]
theorem k0b(p:Int×List Int)(r:List (Int×List Int))(j:Int):a0k .i64 (.lst .i64) [] (p::r) j=if j=p.1 then p.2 else a0k .i64 (.lst .i64) [] r j:=by
 rw[a0k];show(bif ((j:Int)==(p.1:Int))then p.2 else _)=_
 by_cases h:j=p.1
 ·rw[if_pos h,show((j:Int)==(p.1:Int))=true by simpa using h];rfl
 ·rw[if_neg h,show((j:Int)==(p.1:Int))=false by simpa using h];rfl
theorem n1e(p:Int×List Int)(r:List (Int×List Int))(k:Int)(v:List Int):b0d .i64 (.lst .i64) (p::r) k v=if k=p.1 then(k,v)::r else p::b0d .i64 (.lst .i64) r k v:=by
 rw[b0d];show(bif ((k:Int)==(p.1:Int))then(k,v)::r else _)=_
 by_cases h:k=p.1
 ·rw[if_pos h,show((k:Int)==(p.1:Int))=true by simpa using h];rfl
 ·rw[if_neg h,show((k:Int)==(p.1:Int))=false by simpa using h];rfl
theorem z0q(l:List (Int×List Int))(k j:Int)(v:List Int):a0k .i64 (.lst .i64) [] (b0d .i64 (.lst .i64) l k v) j=if j=k then v else a0k .i64 (.lst .i64) [] l j:=by
 induction l with
 |nil=>rw[b0d,k0b]
 |cons p r ih=>
  rw[n1e,k0b];by_cases hk:k=p.1
  ·rw[if_pos hk,k0b]
   subst hk;by_cases h:j=p.1
   ·rw[if_pos h,if_pos h]
   ·rw[if_neg h,if_neg h,if_neg h]
  ·rw[if_neg hk,k0b,ih]
   by_cases h:j=p.1
   ·subst h
    rw[if_pos rfl,if_pos rfl,if_neg (Ne.symm hk)]
   ·rw[if_neg h,if_neg h]
theorem t0a(kind:Bt)(s:Int)(l:List Edg):(a0k .i64 (.lst .i64) [] (g0x kind l) s).length<=l.length:=by
 have h:∀(l:List Edg) (m:List (Int×List Int)) (n:Nat),(∀s,(a0k .i64 (.lst .i64) [] m s).length<=n)-> ∀s,(a0k .i64 (.lst .i64) [] (l.foldl (g0b kind) m) s).length<=n+l.length:=by
  intro l
  induction l with
  |nil=>intro m n h s;exact h s
  |cons x r ih=>
   intro m n h s;rw[List.foldl_cons];refine t2p (ih _ (n+1) (λs=>?_) s) (by simp;omega);unfold g0b;cases hb:(seq kind ⟨#[]⟩ || seq x.type kind)with
   |false=>exact Nat.le_succ_of_le (h s)
   |true=>
    rw[u2j,z0q];split
    ·simp only[r2t,r2w,List.length_nil]
     have:=h x.src;omega
    ·exact Nat.le_succ_of_le (h s)
 have:=h l [] 0 (λs=>by simp[a0k]) s;simpa[g0x]using this
end Pure

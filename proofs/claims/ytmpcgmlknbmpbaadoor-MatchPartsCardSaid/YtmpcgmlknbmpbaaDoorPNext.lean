import Derived.Test.YtmpcgmlknbmpbaaDoorEvMap
import Derived.Test.YtmpcgmlknbmpbaaDoorEspQ
namespace Pure
open Esp Ev Go
set_option linter.unusedSimpArgs false
set_option linter.unusedVariables false
def c0y (kind : ByteArray) (m : List (Int × List Int)) (x : Ev.Edg) : List (Int × List Int) :=
 bif seq kind ⟨#[]⟩ || seq x.type kind then mpPut .i64 (.lst .i64) m x.src (mpGet .i64 (.lst .i64) [] m x.src ++ [x.dst]) else m
def nextL (kind : ByteArray) (l : List Ev.Edg) : List (Int × List Int) := l.foldl (c0y kind) []
def nextN : Ev.Graph × ByteArray × Unit → Option (List (Int × List Int) × Unit) := fun (g, kind, _) => bif Nat.ble g.edges.length 1000000 then some (nextL kind g.edges, ()) else none
theorem c1k (kind : ByteArray) (l : List Ev.Edg) (x : Ev.Edg) : nextL kind (l ++ [x]) = c0y kind (nextL kind l) x := by simp [nextL]
theorem f0q (p : Int × List Int) (r : List (Int × List Int)) (j : Int) : mpGet .i64 (.lst .i64) [] (p :: r) j = if j = p.1 then p.2 else mpGet .i64 (.lst .i64) [] r j := by
 rw [mpGet]
 show (bif ((j : Int) == (p.1 : Int)) then p.2 else _) = _
 by_cases h : j = p.1
 ·rw [if_pos h, show ((j : Int) == (p.1 : Int)) = true by simpa using h]; rfl
 ·rw [if_neg h, show ((j : Int) == (p.1 : Int)) = false by simpa using h]; rfl
theorem c1u (p : Int × List Int) (r : List (Int × List Int)) (k : Int) (v : List Int) : mpPut .i64 (.lst .i64) (p :: r) k v = if k = p.1 then (k, v) :: r else p :: mpPut .i64 (.lst .i64) r k v := by
 rw [mpPut]
 show (bif ((k : Int) == (p.1 : Int)) then (k, v) :: r else _) = _
 by_cases h : k = p.1
 ·rw [if_pos h, show ((k : Int) == (p.1 : Int)) = true by simpa using h]; rfl
 ·rw [if_neg h, show ((k : Int) == (p.1 : Int)) = false by simpa using h]; rfl
theorem t0r (l : List (Int × List Int)) (k j : Int) (v : List Int) : mpGet .i64 (.lst .i64) [] (mpPut .i64 (.lst .i64) l k v) j = if j = k then v else mpGet .i64 (.lst .i64) [] l j := by
 induction l with
 | nil => rw [mpPut, f0q]
 | cons p r ih =>
  rw [c1u, f0q]
  by_cases hk : k = p.1
  ·rw [if_pos hk, f0q]
   subst hk
   by_cases h : j = p.1
   ·rw [if_pos h, if_pos h]
   ·rw [if_neg h, if_neg h, if_neg h]
  ·rw [if_neg hk, f0q, ih]
   by_cases h : j = p.1
   ·subst h
    rw [if_pos rfl, if_pos rfl, if_neg (Ne.symm hk)]
   ·rw [if_neg h, if_neg h]
theorem m0k (kind : ByteArray) (s : Int) (l : List Ev.Edg) : (mpGet .i64 (.lst .i64) [] (nextL kind l) s).length ≤ l.length := by
 have h : ∀ (l : List Ev.Edg) (m : List (Int × List Int)) (n : Nat), (∀ s, (mpGet .i64 (.lst .i64) [] m s).length ≤ n) → ∀ s, (mpGet .i64 (.lst .i64) [] (l.foldl (c0y kind) m) s).length ≤ n + l.length := by
  intro l
  induction l with
  | nil => intro m n h s; exact h s
  | cons x r ih =>
   intro m n h s
   rw [List.foldl_cons]
   refine Nat.le_trans (ih _ (n + 1) (fun s => ?_) s) (by simp; omega)
   unfold c0y
   cases hb : (seq kind ⟨#[]⟩ || seq x.type kind) with
   | false => exact Nat.le_succ_of_le (h s)
   | true =>
    rw [cond_true, t0r]
    split
    ·simp only [List.length_append, List.length_cons, List.length_nil]
     have := h x.src
     omega
    ·exact Nat.le_succ_of_le (h s)
 have := h l [] 0 (fun s => by simp [mpGet]) s
 simpa [nextL] using this
end Pure

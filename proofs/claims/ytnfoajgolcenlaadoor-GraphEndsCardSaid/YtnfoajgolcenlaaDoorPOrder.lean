
/- Values: their order, and the other check. No program. -/
import Derived.Test.YtnfoajgolcenlaaDoorPValue
namespace Pure
open Esp Ev Go
set_option linter.unusedSimpArgs false
set_option linter.unusedVariables false
set_option linter.unusedSimpArgs false
set_option linter.unusedVariables false

theorem order_loop {ρ : Type} (self : Val × Val × Unit → Option (Int × Unit)) (n : Nat) (v : Val) (hl : v.l.length ≤ 30)
    (kx : (Val × Unit) × (Val × Unit) × Unit → Option ρ) (kr : Int × Unit → Option ρ) (hs : ∀ x ∈ v.l, self (x, x, ()) = some (0, ())) :
    ∀ (r p : List Val), v.l = p ++ r → ∀ (fuel : Nat), r.length < fuel →
      iterN (fun rc => espalierref_OrderOf_s1 self n rc kx kr) fuel ((p.length : Int), (v, ()), (v, ()), ()) = kx ((v, ()), (v, ()), ()) := by
  intro r
  induction r with
  | nil =>
    intro p hp fuel hf
    obtain ⟨m, rfl⟩ : ∃ m, fuel = m + 1 := ⟨fuel - 1, by omega⟩
    have e : decide ((p.length : Int) < (v.l.length : Int)) = false := by rw [decide_eq_false_iff_not, hp]; simp
    rw [iterN]
    simp only [espalierref_OrderOf_s1, Val.eta, e, cond_false, Bool.and_self]
  | cons y r ih =>
    intro p hp fuel hf
    obtain ⟨m, rfl⟩ : ∃ m, fuel = m + 1 := ⟨fuel - 1, by omega⟩
    have hlen : v.l.length = p.length + (r.length + 1) := by rw [hp]; simp
    have e : decide ((p.length : Int) < (v.l.length : Int)) = true := by rw [decide_eq_true_iff]; omega
    have e2 : ix v.l (p.length : Int) = some y := ix_ok (by rw [hp]; simp)
    have e3 : IntKind.wrap .i64 ((p.length : Int) + 1) = ((p ++ [y]).length : Int) := by rw [wrap64 (by omega) (by omega)]; simp
    have e4 := hs y (by rw [hp]; simp)
    have e5 := ih (p ++ [y]) (by simp [hp]) m (by simp at hf; omega)
    rw [iterN]
    simp only [espalierref_OrderOf_s1, Val.eta, e, e2, e3, e4, cond_true, Bool.and_self, Option.bind_some]
    rw [show ((0 : Int) != 0) = false from rfl, cond_false]
    exact e5
theorem lt_irr (x : Int) : decide (x < x) = false := by simp
theorem gt_irr (x : Int) : decide (x > x) = false := by simp
theorem order_ok {v : Val} {d : Int} (h : Right v d) : ∀ (n : Nat), d ≤ 7 → 40 ≤ n + d.toNat → 1 ≤ d → espalierref_OrderOf n (v, v, ()) = some (0, ()) := by
  have base : ∀ (k a : Int) (s : ByteArray) (l : List Val) (n : Nat), l.length ≤ 30 → 32 ≤ n → (∀ m, n = m + 1 → ∀ x ∈ l, espalierref_OrderOf m (x, x, ()) = some (0, ())) → espalierref_OrderOf n (.mk k a s l, .mk k a s l, ()) = some (0, ()) := by
    intro k a s l n hl hn hs
    obtain ⟨m, rfl⟩ : ∃ m, n = m + 1 := ⟨n - 1, by omega⟩
    rw [espalierref_OrderOf]
    simp only [espalierref_OrderOf_b, Val.eta, lt_irr, gt_irr, cond_false, seq_refl, Bool.not_true]
    exact (order_loop (ρ := Int × Unit) (espalierref_OrderOf m) m (.mk k a s l) hl _ _ (hs m rfl) l [] rfl m (by omega)).trans (by simp only [lt_irr, gt_irr, cond_false])
  induction h with
  | null d => intro n h1 h2 h3; exact base _ _ _ _ n (by simp) (by omega) (fun _ _ x hx => by cases hx)
  | truth a d h => intro n h1 h2 h3; exact base _ _ _ _ n (by simp) (by omega) (fun _ _ x hx => by cases hx)
  | int a d h => intro n h1 h2 h3; exact base _ _ _ _ n (by simp) (by omega) (fun _ _ x hx => by cases hx)
  | text s d _ _ => intro n h1 h2 h3; exact base _ _ _ _ n (by simp) (by omega) (fun _ _ x hx => by cases hx)
  | list l d h4 h5 h6 ih => intro n h1 h2 h3; exact base _ _ _ _ n h4 (by omega) (fun m hm x hx => ih x hx m (by omega) (by omega) (by omega))
theorem same_ok {v : Val} (h : Right v 1) (n : Nat) (hn : 40 ≤ n) : espalierref_SameValue n (v, v, ()) = some (true, ()) := by
  simp only [espalierref_SameValue, Val.eta, order_ok h n (by omega) (by omega) (by omega), Option.bind_some]
  rfl
end Pure

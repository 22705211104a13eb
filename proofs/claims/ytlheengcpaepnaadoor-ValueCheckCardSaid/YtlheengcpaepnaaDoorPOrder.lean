/- Values: their order, and the other check. No program. -/
import Derived.Test.YtlheengcpaepnaaDoorPValue
namespace Pure
open Esp Ev Go
set_option linter.unusedSimpArgs false
set_option linter.unusedVariables false
set_option linter.unusedSimpArgs false
set_option linter.unusedVariables false

theorem order_loop {ρ : Type} (self : Val × Val × Unit → Option (Int × Unit)) (n : Nat) (v : Val) (hl : v.l.length ≤ 30)
    (kx : (Val × Unit) × (Val × Unit) × Unit → Option ρ) (kr : Int × Unit → Option ρ) (hs : ∀ x ∈ v.l, self (x, x, ()) = some (0, ())) :
    ∀ (r p : List Val), v.l = p ++ r → ∀ (fuel : Nat), r.length < fuel →
      iterN (fun rc => espalierref_OrderOf_s1 self n rc kx kr) fuel ((p.length : Int), (v, ()), (v, ()), ()) = kx ((v, ()), (v, ()), ()) := by
  intro r
  induction r with
  | nil =>
    intro p hp fuel hf
    obtain ⟨m, rfl⟩ : ∃ m, fuel = m + 1 := ⟨fuel - 1, by omega⟩
    have e : decide ((p.length : Int) < (v.l.length : Int)) = false := by rw [decide_eq_false_iff_not, hp]; simp
    rw [iterN]
    simp only [espalierref_OrderOf_s1, Val.eta, e, cond_false, Bool.and_self]
  | cons y r ih =>
    intro p hp fuel hf
    obtain ⟨m, rfl⟩ : ∃ m, fuel = m + 1 := ⟨fuel - 1, by omega⟩
    have hlen : v.l.length = p.length + (r.length + 1) := by rw [hp]; simp
    have e : decide ((p.length : Int) < (v.l.length : Int)) = true := by rw [decide_eq_true_iff]; omega
    have e2 : ix v.l (p.length : Int) = some y := ix_ok (by rw [hp]; simp)
    have e3 : IntKind.wrap .i64 ((p.length : Int) + 1) = ((p ++ [y]).length : Int) := by rw [wrap64 (by omega) (by omega)]; simp
    have e4 := hs y (by rw [hp]; simp)
    have e5 := ih (p ++ [y]) (by simp [hp]) m (by simp at hf; omega)
    rw [iterN]
    simp only [espalierref_OrderOf_s1, Val.eta, e, e2, e3, e4, cond_true, Bool.and_self, Option.bind_some]
    rw [show ((0 : Int) != 0) = false from rfl, cond_false]
    exact e5
theorem lt_irr (x : Int) : decide (x < x) = false := by simp
theorem gt_irr (x : Int) : decide (x > x) = false := by simp
theorem order_ok {v : Val} {d : Int} (h : Right v d) : ∀ (n : Nat), d ≤ 7 → 40 ≤ n + d.toNat → 1 ≤ d → espalierref_OrderOf n (v, v, ()) = some (0, ()) := by
  have base : ∀ (k a : Int) (s : ByteArray) (l : List Val) (n : Nat), l.length ≤ 30 → 32 ≤ n → (∀ m, n = m + 1 → ∀ x ∈ l, espalierref_OrderOf m (x, x, ()) = some (0, ())) → espalierref_OrderOf n (.mk k a s l, .mk k a s l, ()) = some (0, ()) := by
    intro k a s l n hl hn hs
    obtain ⟨m, rfl⟩ : ∃ m, n = m + 1 := ⟨n - 1, by omega⟩
    rw [espalierref_OrderOf]
    simp only [espalierref_OrderOf_b, Val.eta, lt_irr, gt_irr, cond_false, seq_refl, Bool.not_true]
    exact (order_loop (ρ := Int × Unit) (espalierref_OrderOf m) m (.mk k a s l) hl _ _ (hs m rfl) l [] rfl m (by omega)).trans (by simp only [lt_irr, gt_irr, cond_false])
  induction h with
  | null d => intro n h1 h2 h3; exact base _ _ _ _ n (by simp) (by omega) (fun _ _ x hx => by cases hx)
  | truth a d h => intro n h1 h2 h3; exact base _ _ _ _ n (by simp) (by omega) (fun _ _ x hx => by cases hx)
  | int a d h => intro n h1 h2 h3; exact base _ _ _ _ n (by simp) (by omega) (fun _ _ x hx => by cases hx)
  | text s d _ _ => intro n h1 h2 h3; exact base _ _ _ _ n (by simp) (by omega) (fun _ _ x hx => by cases hx)
  | list l d h4 h5 h6 ih => intro n h1 h2 h3; exact base _ _ _ _ n h4 (by omega) (fun m hm x hx => ih x hx m (by omega) (by omega) (by omega))
theorem same_ok {v : Val} (h : Right v 1) (n : Nat) (hn : 40 ≤ n) : espalierref_SameValue n (v, v, ()) = some (true, ()) := by
  simp only [espalierref_SameValue, Val.eta, order_ok h n (by omega) (by omega) (by omega), Option.bind_some]
  rfl
theorem rcheck_loop {ρ : Type} (self : Val × Int × Unit → Option (Int × Unit)) (n : Nat) (l : List Val) (d : Int) (hd : IntKind.wrap .i64 (d + 1) = d + 1) (hs : ∀ x ∈ l, self (x, d + 1, ()) = some (chk x (d + 1), ())) (hl : l.length ≤ 30) (a b : Bool)
    (kx : Bool × Bool × Unit → Option ρ) (kr : Int × Unit → Option ρ) :
    ∀ (r p : List Val), l = p ++ r → ∀ fuel, r.length < fuel → iterN (fun rc => espalierref_CheckValue_s1 self n rc kx kr) fuel (d, a, b, l, (l.length : Int), (p.length : Int), ()) = bif chks r (d + 1) != 0 then kr (chks r (d + 1), ()) else kx (a, b, ()) := by
  intro r
  induction r with
  | nil =>
    intro p hp fuel hf
    obtain ⟨m, rfl⟩ : ∃ m, fuel = m + 1 := ⟨fuel - 1, by omega⟩
    have e : decide ((p.length : Int) < (l.length : Int)) = false := by rw [decide_eq_false_iff_not]; subst hp; simp
    simp only [iterN, espalierref_CheckValue_s1, Val.eta, e, cond_false, chks]
    rfl
  | cons x r ih =>
    intro p hp fuel hf
    obtain ⟨m, rfl⟩ : ∃ m, fuel = m + 1 := ⟨fuel - 1, by omega⟩
    have hlen : l.length = p.length + (r.length + 1) := by rw [hp]; simp
    have e : decide ((p.length : Int) < (l.length : Int)) = true := by rw [decide_eq_true_iff]; omega
    have e2 : ix l (p.length : Int) = some x := ix_ok (by rw [hp]; simp)
    have e3 : IntKind.wrap .i64 ((p.length : Int) + 1) = ((p ++ [x]).length : Int) := by rw [wrap64 (by omega) (by omega)]; simp
    have e4 := hs x (by rw [hp]; simp)
    have e5 := ih (p ++ [x]) (by simp [hp]) m (by simp at hf; omega)
    rw [iterN]
    simp only [espalierref_CheckValue_s1, Val.eta, e, e2, e3, hd, e4, cond_true, Option.bind_some, e5]
    rw [chks]
    cases hc : chk x (d + 1) != 0 <;> simp [hc]
theorem rcheck_ok (v : Val) : ∀ (d : Int) (n : Nat), 1 ≤ d → d ≤ 7 → 40 ≤ n + d.toNat → espalierref_CheckValue n (v, d, ()) = some (chk v d, ()) := by
  induction v using val_ind with
  | _ k a s l ih =>
    intro d n h1 h2 h3
    obtain ⟨m, rfl⟩ : ∃ m, n = m + 1 := ⟨n - 1, by omega⟩
    simp only [espalierref_CheckValue, espalierref_CheckValue_b, chk, Val.eta]
    dsimp +instances only [kind_mk, n_mk, s_mk, l_mk]
    by_cases k4 : k = 4
    · subst k4
      rw [show ((4 : Int) == 0) = false from rfl, show ((4 : Int) == 1) = false from rfl, show ((4 : Int) == 2) = false from rfl, show ((4 : Int) == 3) = false from rfl, show ((4 : Int) == 4) = true from rfl]
      simp only [cond_false, cond_true]
      cases hb : decide ((l.length : Int) > 30) || decide (d > 6)
      · have hb2 := Bool.or_eq_false_iff.1 hb
        have h30 := of_decide_eq_false hb2.1
        have h6 := of_decide_eq_false hb2.2
        have hw : IntKind.wrap .i64 (d + 1) = d + 1 := wrap64 (by omega) (by omega)
        simp only [cond_false]
        refine (rcheck_loop (ρ := Int × Unit) (espalierref_CheckValue m) m l d hw (fun x hx => ih x hx (d + 1) m (by omega) (by omega) (by omega)) (by omega) (a == 0) (seq s ⟨#[]⟩) _ _ l [] rfl m (by omega)).trans ?_
        cases chks l (d + 1) != 0
        · simp only [cond_false]
          cases (a == 0) && seq s ⟨#[]⟩ <;> rfl
        · rfl
      · rfl
    · have e4 : (k == 4) = false := by simpa using k4
      rw [e4]
      simp only [cond_false]
      by_cases k3 : k = 3
      · subst k3
        rw [show ((3 : Int) == 0) = false from rfl, show ((3 : Int) == 1) = false from rfl, show ((3 : Int) == 2) = false from rfl, show ((3 : Int) == 3) = true from rfl]
        simp only [cond_false, cond_true]
        cases hb : decide ((s.size : Int) > 4000)
        · have := of_decide_eq_false hb
          simp only [cond_false, validN_some (s := s) (by omega), Option.bind_some]
          cases a == 0 <;> cases (l.length : Int) == 0 <;> cases validS s <;> rfl
        · rfl
      · have e3 : (k == 3) = false := by simpa using k3
        rw [e3]
        simp only [cond_false]
        cases k == 0
        · cases k == 1
          · cases k == 2
            · rfl
            · simp only [cond_false, cond_true]
              cases seq s ⟨#[]⟩ && ((l.length : Int) == 0) <;> rfl
          · simp only [cond_false, cond_true]
            cases ((a == 0) || (a == 1)) && seq s ⟨#[]⟩ && ((l.length : Int) == 0) <;> rfl
        · simp only [cond_true]
          cases (a == 0) && seq s ⟨#[]⟩ && ((l.length : Int) == 0) <;> rfl
end Pure


/- Values: their order, and the other check. No program. -/
import Derived.Test.YtcdfapbfocdhjaaDoorPValue
namespace Pure
open Esp Ev Go
set_option linter.unusedSimpArgs false
set_option linter.unusedVariables false
set_option linter.unusedSimpArgs false
set_option linter.unusedVariables false

theorem rcheck_loop {ρ : Type} (self : Val × Int × Unit → Option (Int × Unit)) (n : Nat) (l : List Val) (d : Int) (hd : IntKind.wrap .i64 (d + 1) = d + 1) (hs : ∀ x ∈ l, self (x, d + 1, ()) = some (chk x (d + 1), ())) (hl : l.length ≤ 30) (a b : Bool)
    (kx : Bool × Bool × Unit → Option ρ) (kr : Int × Unit → Option ρ) :
    ∀ (r p : List Val), l = p ++ r → ∀ fuel, r.length < fuel → iterN (fun rc => q0z_s1 self n rc kx kr) fuel (d, a, b, l, (l.length : Int), (p.length : Int), ()) = bif chks r (d + 1) != 0 then kr (chks r (d + 1), ()) else kx (a, b, ()) := by
  intro r
  induction r with
  | nil =>
    intro p hp fuel hf
    obtain ⟨m, rfl⟩ : ∃ m, fuel = m + 1 := ⟨fuel - 1, by omega⟩
    have e : decide ((p.length : Int) < (l.length : Int)) = false := by rw [decide_eq_false_iff_not]; subst hp; simp
    simp only [iterN, q0z_s1, Val.eta, e, cond_false, chks]
    rfl
  | cons x r ih =>
    intro p hp fuel hf
    obtain ⟨m, rfl⟩ : ∃ m, fuel = m + 1 := ⟨fuel - 1, by omega⟩
    have hlen : l.length = p.length + (r.length + 1) := by rw [hp]; simp
    have e : decide ((p.length : Int) < (l.length : Int)) = true := by rw [decide_eq_true_iff]; omega
    have e2 : ix l (p.length : Int) = some x := ix_ok (by rw [hp]; simp)
    have e3 : IntKind.wrap .i64 ((p.length : Int) + 1) = ((p ++ [x]).length : Int) := by rw [wrap64 (by omega) (by omega)]; simp
    have e4 := hs x (by rw [hp]; simp)
    have e5 := ih (p ++ [x]) (by simp [hp]) m (by simp at hf; omega)
    rw [iterN]
    simp only [q0z_s1, Val.eta, e, e2, e3, hd, e4, cond_true, Option.bind_some, e5]
    rw [chks]
    cases hc : chk x (d + 1) != 0 <;> simp [hc]
theorem rcheck_ok (v : Val) : ∀ (d : Int) (n : Nat), 1 ≤ d → d ≤ 7 → 40 ≤ n + d.toNat → q0z n (v, d, ()) = some (chk v d, ()) := by
  induction v using val_ind with
  | _ k a s l ih =>
    intro d n h1 h2 h3
    obtain ⟨m, rfl⟩ : ∃ m, n = m + 1 := ⟨n - 1, by omega⟩
    simp only [q0z, q0z_b, chk, Val.eta]
    dsimp +instances only [kind_mk, n_mk, s_mk, l_mk]
    by_cases k4 : k = 4
    · subst k4
      rw [show ((4 : Int) == 0) = false from rfl, show ((4 : Int) == 1) = false from rfl, show ((4 : Int) == 2) = false from rfl, show ((4 : Int) == 3) = false from rfl, show ((4 : Int) == 4) = true from rfl]
      simp only [cond_false, cond_true]
      cases hb : decide ((l.length : Int) > 30) || decide (d > 6)
      · have hb2 := Bool.or_eq_false_iff.1 hb
        have h30 := of_decide_eq_false hb2.1
        have h6 := of_decide_eq_false hb2.2
        have hw : IntKind.wrap .i64 (d + 1) = d + 1 := wrap64 (by omega) (by omega)
        simp only [cond_false]
        refine (rcheck_loop (ρ := Int × Unit) (q0z m) m l d hw (fun x hx => ih x hx (d + 1) m (by omega) (by omega) (by omega)) (by omega) (a == 0) (seq s ⟨#[]⟩) _ _ l [] rfl m (by omega)).trans ?_
        cases chks l (d + 1) != 0
        · simp only [cond_false]
          cases (a == 0) && seq s ⟨#[]⟩ <;> rfl
        · rfl
      · rfl
    · have e4 : (k == 4) = false := by simpa using k4
      rw [e4]
      simp only [cond_false]
      by_cases k3 : k = 3
      · subst k3
        rw [show ((3 : Int) == 0) = false from rfl, show ((3 : Int) == 1) = false from rfl, show ((3 : Int) == 2) = false from rfl, show ((3 : Int) == 3) = true from rfl]
        simp only [cond_false, cond_true]
        cases hb : decide ((s.size : Int) > 4000)
        · have := of_decide_eq_false hb
          simp only [cond_false, validN_some (s := s) (by omega), Option.bind_some]
          cases a == 0 <;> cases (l.length : Int) == 0 <;> cases validS s <;> rfl
        · rfl
      · have e3 : (k == 3) = false := by simpa using k3
        rw [e3]
        simp only [cond_false]
        cases k == 0
        · cases k == 1
          · cases k == 2
            · rfl
            · simp only [cond_false, cond_true]
              cases seq s ⟨#[]⟩ && ((l.length : Int) == 0) <;> rfl
          · simp only [cond_false, cond_true]
            cases ((a == 0) || (a == 1)) && seq s ⟨#[]⟩ && ((l.length : Int) == 0) <;> rfl
        · simp only [cond_true]
          cases (a == 0) && seq s ⟨#[]⟩ && ((l.length : Int) == 0) <;> rfl
end Pure

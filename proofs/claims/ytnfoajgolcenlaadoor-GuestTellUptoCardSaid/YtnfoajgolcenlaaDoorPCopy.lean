
/- Copies of values. No program. -/
import Derived.Test.YtnfoajgolcenlaaDoorPOrder
import Derived.Test.YtnfoajgolcenlaaDoorPRange
namespace Pure
open Esp Ev Go
set_option linter.unusedSimpArgs false
set_option linter.unusedVariables false
set_option linter.unusedSimpArgs false
set_option linter.unusedVariables false
theorem room_ok {n b : Nat} (h : n ≤ 1000) (hb : b ≤ 1000) : room n b = true := by
  unfold room
  rw [Bool.and_eq_true]
  exact ⟨Nat.ble_eq_true_of_le (by omega), Nat.ble_eq_true_of_le (by have : n * b ≤ 1000 * 1000 := Nat.mul_le_mul h hb; omega)⟩
theorem copy_fold {ρ : Type} (self : Val × Unit → Option (Val × Unit)) (k : List Val → Option ρ) : ∀ (r p : List Val) (i : Int), (∀ x ∈ r, self (x, ()) = some (x, ())) → p.length + r.length ≤ 30 →
    foldK (fun (i : Int) (x : Val) (s : List Val) (rec : List Val → Option ρ) => (self (x, ())).bind fun y => ck (room (s ++ ([y.1] : List Val)).length 56) (rec (s ++ ([y.1] : List Val)))) k i r p = k (p ++ r)
  | [], p, i, _, _ => by simp [foldK]
  | x :: r, p, i, h, hl => by
    rw [foldK, h x (by simp), Option.bind_some]
    dsimp only
    rw [ck_ok (room_ok (by simp at hl ⊢; omega) (by omega)), copy_fold self k r (p ++ [x]) (i + 1) (fun y hy => h y (by simp [hy])) (by simp at hl ⊢; omega)]
    simp
theorem copy_ok (v : Val) : ∀ (d : Int) (n : Nat), 1 ≤ d → d ≤ 7 → 40 ≤ n + d.toNat → chk v d = 0 → value_Copy n (v, ()) = some (v, ()) := by
  induction v using val_ind with
  | _ k a s l ih =>
    intro d n h1 h2 h3 hc
    obtain ⟨m, rfl⟩ : ∃ m, n = m + 1 := ⟨n - 1, by omega⟩
    have key : l.length ≤ 30 → (∀ x ∈ l, value_Copy m (x, ()) = some (x, ())) → value_Copy (m + 1) (.mk k a s l, ()) = some (.mk k a s l, ()) := by
      intro hl hs
      rw [value_Copy]
      unfold value_Copy_b
      dsimp +instances only [kind_mk, n_mk, s_mk, l_mk]
      refine (range_list l (fun i (s0 : List Val) => (l, (l.length : Int), i, (k, a, s, ()), ((Ev.Val.mk 0 0 (⟨#[]⟩ : ByteArray) ([] : List Ev.Val)), ()), s0, ())) _ (fun (i : Int) (x : Val) (s : List Val) rec => (value_Copy m (x, ())).bind fun y => ck (room (s ++ ([y.1] : List Val)).length 56) (rec (s ++ ([y.1] : List Val)))) (fun s0 => some (.mk k a s s0, ()))
        (fun rec i s => by simp only [value_Copy_s0, Val.eta]) (by omega) m [] (by omega)).trans ?_
      rw [copy_fold _ _ l [] 0 hs (by simpa using hl)]
      rfl
    rw [chk] at hc
    have nil : ∀ {x : Bool}, fin6 (x && ((l.length : Int) == 0)) = 0 → l = [] := fun {x} h => by
      have := fin6_0 h
      rw [Bool.and_eq_true] at this
      simpa using this.2
    have key0 : l = [] → value_Copy (m + 1) (.mk k a s l, ()) = some (.mk k a s l, ()) := fun h => key (by rw [h]; simp) (by rw [h]; intro x hx; cases hx)
    cases h0 : k == 0
    · rw [h0] at hc
      cases h1 : k == 1
      · rw [h1] at hc
        cases h2 : k == 2
        · rw [h2] at hc
          cases h3 : k == 3
          · rw [h3] at hc
            cases h4 : k == 4
            · rw [h4] at hc; cases hc
            · rw [h4] at hc
              simp only [cond_false, cond_true] at hc
              cases hb : decide ((l.length : Int) > 30) || decide (d > 6)
              · rw [hb] at hc
                have hb2 := Bool.or_eq_false_iff.1 hb
                have h30 := of_decide_eq_false hb2.1
                have h6 := of_decide_eq_false hb2.2
                simp only [cond_false] at hc
                cases hcc : chks l (d + 1) != 0
                · have hc0 : chks l (d + 1) = 0 := by simpa using hcc
                  exact key (by omega) fun x hx => ih x hx (d + 1) m (by omega) (by omega) (by omega) (chks_0 hc0 x hx)
                · rw [hcc] at hc
                  have h0 : chks l (d + 1) = 0 := hc
                  simp [h0] at hcc
              · rw [hb] at hc; cases hc
          · rw [h3] at hc
            simp only [cond_false, cond_true] at hc
            cases hb : decide ((s.size : Int) > 4000)
            · rw [hb] at hc
              simp only [cond_false] at hc
              cases ha : a == 0
              · rw [ha] at hc; cases hc
              · rw [ha] at hc
                exact key0 (nil hc)
            · rw [hb] at hc; cases hc
        · rw [h2] at hc
          exact key0 (nil hc)
      · rw [h1] at hc
        exact key0 (nil hc)
    · rw [h0] at hc
      exact key0 (nil hc)
end Pure

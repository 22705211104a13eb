
/- The program's order and the document's are the one order. No program. -/
import Derived.Test.YtnfoajgolcenlaaDoorPOrd
namespace Pure
open Esp Ev Go
set_option linter.unusedSimpArgs false
set_option linter.unusedVariables false
set_option linter.unusedSimpArgs false
set_option linter.unusedVariables false

theorem vOk_l {k n : Int} {s : ByteArray} {l : List Val} (h : vOk (.mk k n s l)) : l.length ≤ maxLen ∧ ∀ x ∈ l, vOk x := by
  rw [vOk, vOks_iff] at h
  exact h.2.2.2
theorem ord_loop {ρ : Type} (self : Val × Val × Unit → Option (Int × Unit)) (n : Nat) (v w : Val) (hv : v.l.length ≤ maxLen) (hs : ∀ x ∈ v.l, ∀ y ∈ w.l, self (x, y, ()) = some (ordV x y, ())) (kx : (Val × Unit) × (Val × Unit) × Unit → Option ρ) (kr : Int × Unit → Option ρ) :
    ∀ (r p r' p' : List Val), v.l = p ++ r → w.l = p' ++ r' → p.length = p'.length → ∀ fuel, r.length < fuel →
    iterN (fun rc => espalierref_OrderOf_s1 self n rc kx kr) fuel ((p.length : Int), (v, ()), (w, ()), ()) = match fdV r r' with | some c => kr (c, ()) | none => kx ((v, ()), (w, ()), ()) := by
  intro r
  induction r with
  | nil =>
    intro p r' p' h1 h2 h3 fuel hf
    obtain ⟨m, rfl⟩ : ∃ m, fuel = m + 1 := ⟨fuel - 1, by omega⟩
    have e : decide ((p.length : Int) < (v.l.length : Int)) = false := by rw [decide_eq_false_iff_not, h1]; simp
    rw [iterN]
    unfold espalierref_OrderOf_s1
    dsimp only
    rw [e, Bool.false_and, cond_false, fdV, Val.eta, Val.eta]
    intro x xs y ys h; cases h
  | cons x r ih =>
    intro p r' p' h1 h2 h3 fuel hf
    obtain ⟨m, rfl⟩ : ∃ m, fuel = m + 1 := ⟨fuel - 1, by omega⟩
    have hlen : v.l.length = p.length + (r.length + 1) := by rw [h1]; simp
    have e : decide ((p.length : Int) < (v.l.length : Int)) = true := by rw [decide_eq_true_iff]; omega
    rw [iterN]
    unfold espalierref_OrderOf_s1
    dsimp only
    cases r' with
    | nil =>
      have e2 : decide ((p.length : Int) < (w.l.length : Int)) = false := by rw [decide_eq_false_iff_not, h2, h3]; simp
      rw [e, e2, Bool.true_and, cond_false, fdV, Val.eta, Val.eta]
      intro x xs y ys _ h; cases h
    | cons y r' =>
      have e2 : decide ((p.length : Int) < (w.l.length : Int)) = true := by rw [decide_eq_true_iff, h2, h3]; simp; omega
      have e3 : ix v.l (p.length : Int) = some x := ix_ok (by rw [h1]; simp)
      have e4 : ix w.l (p.length : Int) = some y := by rw [h3]; exact ix_ok (by rw [h2]; simp)
      have e5 : IntKind.wrap .i64 ((p.length : Int) + 1) = ((p ++ [x]).length : Int) := by unfold maxLen at hv; rw [wrap64 (by omega) (by omega)]; simp
      have i1 := ih (p ++ [x]) r' (p' ++ [y]) (by simp [h1]) (by simp [h2]) (by simp [h3]) m (by simp at hf; omega)
      rw [e, e2, Bool.true_and, cond_true, e3, e4, Option.bind_some, Option.bind_some, Val.eta, Val.eta, hs x (by rw [h1]; simp) y (by rw [h2]; simp), Option.bind_some, Val.eta, Val.eta, e5, fdV]
      dsimp only
      cases hc : ordV x y != 0
      · exact i1
      · rfl
theorem lt_cmpI (a b : Int) {α : Type} (x y z : α) : (bif decide (a < b) then x else bif decide (a > b) then y else z) = bif cmpI a b != 0 then (bif decide (cmpI a b < 0) then x else y) else z := by
  unfold cmpI
  cases decide (a < b)
  · cases decide (a > b) <;> rfl
  · rfl
theorem orderOf_ok (v : Val) : ∀ (w : Val) (n : Nat), vOk v → vSz v + 2 ≤ n → espalierref_OrderOf n (v, w, ()) = some (ordV v w, ()) := by
  induction v using val_ind with
  | _ k a s l ih =>
    intro w n hok hn
    obtain ⟨k', a', s', l'⟩ := w
    obtain ⟨m, rfl⟩ : ∃ m, n = m + 1 := ⟨n - 1, by omega⟩
    obtain ⟨h1, h2⟩ := vOk_l hok
    rw [vSz] at hn
    have hl := lSz_length l
    rw [espalierref_OrderOf]
    unfold espalierref_OrderOf_b
    dsimp +instances only [kind_mk, n_mk, s_mk, l_mk]
    rw [ordV, bytes_cmp]
    have key : iterN (fun rc15 => espalierref_OrderOf_s1 (espalierref_OrderOf m) m rc15 (fun (z : (Val × Unit) × (Val × Unit) × Unit) => 
  (bif decide (((z.1.1.l.length : Int) : Int) < (z.2.1.1.l.length : Int)) then some ((-1 : Int), ())
  else 
  (bif decide (((z.1.1.l.length : Int) : Int) > (z.2.1.1.l.length : Int)) then some (1, ())
  else some (0, ())))) (fun z => some (z.1, ()))) (m) (0, ((Ev.Val.mk k a s l), ()), ((Ev.Val.mk k' a' s' l'), ()), ()) = some (ordL l l', ()) := by
      refine (ord_loop (espalierref_OrderOf m) m (.mk k a s l) (.mk k' a' s' l') h1 (fun x hx y hy => ?_) _ _ l [] l' [] rfl rfl rfl m (by omega)).trans ?_
      · exact ih x hx y m (h2 x hx) (by have := lSz_mem (show x ∈ l from hx); omega)
      · rw [ordL_fd]
        cases fdV l l' with
        | some c => rfl
        | none =>
          dsimp +instances only [l_mk]
          unfold cmpI
          cases decide ((l.length : Int) < (l'.length : Int))
          · cases decide ((l.length : Int) > (l'.length : Int)) <;> rfl
          · rfl
    have hk : cmpI k k' = 0 ∨ cmpI k k' ≠ 0 := by omega
    rcases hk with hk | hk
    · have hkk := (cmpI_z k k').1 hk
      rw [hk]
      rw [decide_eq_false (show ¬ k < k' by omega), decide_eq_false (show ¬ k > k' by omega)]
      simp only [cond_false, bne_self_eq_false]
      by_cases ha : cmpI a a' = 0
      · have haa := (cmpI_z a a').1 ha
        rw [ha, decide_eq_false (show ¬ a < a' by omega), decide_eq_false (show ¬ a > a' by omega)]
        simp only [cond_false, bne_self_eq_false]
        by_cases hs : cmpS s s' = 0
        · have hss := (cmpS_zero s s').1 hs
          rw [hs, hss, seq_refl]
          simp only [cond_false, bne_self_eq_false, Bool.not_true]
          rw [hss] at key
          exact key
        · have : seq s s' = false := by
            cases hq : seq s s'
            · rfl
            · exact absurd ((cmpS_zero s s').2 ((seq_iff s s').1 hq)) hs
          rw [this, bnez hs]
          rfl
      · rw [bnez ha, cond_true]
        unfold cmpI at ha ⊢
        cases h5 : decide (a < a')
        · cases h6 : decide (a > a')
          · rw [h5, h6] at ha; exact absurd rfl ha
          · rfl
        · rfl
    · rw [bnez hk, cond_true]
      unfold cmpI at hk ⊢
      cases h5 : decide (k < k')
      · cases h6 : decide (k > k')
        · rw [h5, h6] at hk; exact absurd rfl hk
        · rfl
      · rfl
end Pure

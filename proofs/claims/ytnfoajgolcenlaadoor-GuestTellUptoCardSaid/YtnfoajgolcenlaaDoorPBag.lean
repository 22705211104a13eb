
/- Bags: what is one. No program. -/
import Derived.Test.YtnfoajgolcenlaaDoorPOrd2
namespace Pure
open Esp Ev Go
set_option linter.unusedSimpArgs false
set_option linter.unusedVariables false
set_option linter.unusedSimpArgs false
set_option linter.unusedVariables false

theorem cmp_str_ok (a b : ByteArray) : cmp_Compare_string (a, b, ()) = some (cmpS a b, ()) := by
  unfold cmp_Compare_string cmp_isNaN_string cmpS
  dsimp only
  rw [seq_refl, seq_refl, Option.bind_some, Option.bind_some]
  dsimp only
  have h := sless_total b a
  cases h1 : sless a b
  · cases h2 : seq a b <;> rfl
  · rfl
theorem or3_ok (a b c : Int) (n : Nat) (hn : 5 ≤ n) : cmp_Or_int n ([a, b, c], ()) = some (bif a != 0 then a else bif b != 0 then b else c, ()) := by
  unfold cmp_Or_int
  refine (R_cmp_Or_int_s0 n _ _ [a, b, c] n 0 (by simp) (by simp; omega)).trans ?_
  unfold foldK F_cmp_Or_int_s0
  dsimp only
  cases a != 0
  · rw [cond_false, cond_false]
    unfold foldK
    dsimp only
    cases b != 0
    · rw [cond_false, cond_false]
      unfold foldK
      dsimp only
      cases hc : c != 0
      · have : c = 0 := by simpa using hc
        rw [this]; rfl
      · rfl
    · rfl
  · rfl
theorem ordL_gt {l : List Val} : ∀ {m : List Val}, fdV l m = none → m.length < l.length → ordL l m = 1 := fun {m} h h2 => by
  rw [ordL_fd, h]
  dsimp only
  unfold cmpI
  rw [decide_eq_false (by omega), decide_eq_true (by omega)]
  rfl
/-- the fold of a comparison of lists -/
theorem cmpF_fold (cmpf : Val × Val × Unit → Option (Int × Unit)) (w : List Val) : ∀ (r p r' : List Val), (∀ x ∈ r, ∀ y ∈ w, cmpf (x, y, ()) = some (ordV x y, ())) → (p.length ≤ w.length → w.drop p.length = r') → p.length ≤ w.length →
    foldK (fun (i : Int) (x : Val) (u : Unit) (rec : Unit → Option (Int × Unit)) => bif decide ((i : Int) ≥ (w.length : Int)) then some (1, ()) else (ix w i).bind fun y => (cmpf (x, y, ())).bind fun c => bif c.1 != 0 then some (c.1, ()) else rec ())
      (fun _ => bif decide (((p.length + r.length : Nat) : Int) < (w.length : Int)) then some (-1, ()) else some (0, ())) (p.length : Int) r () = some (ordL r r', ()) := by
  intro r
  induction r with
  | nil =>
    intro p r' _ h2 h3
    have h4 := h2 h3
    rw [foldK]
    cases r' with
    | nil =>
      have : w.length ≤ p.length := by rw [← List.drop_eq_nil_iff]; exact h4
      rw [decide_eq_false (by simp; omega)]
      rfl
    | cons y r' =>
      have : p.length < w.length := by
        rcases Nat.lt_or_ge p.length w.length with h | h
        · exact h
        · rw [List.drop_eq_nil_iff.2 h] at h4; cases h4
      rw [decide_eq_true (by simp; omega)]
      rfl
  | cons x r ih =>
    intro p r' h1 h2 h3
    have h4 := h2 h3
    rw [foldK]
    cases r' with
    | nil =>
      have : w.length ≤ p.length := by rw [← List.drop_eq_nil_iff]; exact h4
      rw [decide_eq_true (by omega)]
      rfl
    | cons y r' =>
      have hlt : p.length < w.length := by
        rcases Nat.lt_or_ge p.length w.length with h | h
        · exact h
        · rw [List.drop_eq_nil_iff.2 h] at h4; cases h4
      have hy : w[p.length]? = some y := by
        have := congrArg List.head? h4
        rw [List.head?_drop] at this
        exact this
      have h5 : w.drop (p ++ [x]).length = r' := by
        rw [List.length_append, List.length_singleton, ← List.drop_drop, h4]
        rfl
      have i1 := ih (p ++ [x]) r' (fun z hz => h1 z (by simp [hz])) (fun _ => h5) (by simp; omega)
      have e1 : ((p.length : Int) + 1) = ((p ++ [x]).length : Int) := by simp
      have e2 : p.length + (x :: r).length = (p ++ [x]).length + r.length := by simp; omega
      rw [decide_eq_false (by omega), cond_false, ix_ok hy, Option.bind_some, h1 x (by simp) y (List.mem_of_getElem? hy), Option.bind_some, ordL, e1, e2, i1]
      dsimp only
      cases ordV x y != 0 <;> rfl
theorem order2_ok (v : Val) : ∀ (w : Val) (n : Nat), vOk v → vSz v + 6 ≤ n → value_Order n (v, w, ()) = some (ordV v w, ()) := by
  induction v using val_ind with
  | _ k a s l ih =>
    intro w n hok hn
    obtain ⟨k', a', s', l'⟩ := w
    obtain ⟨m, rfl⟩ : ∃ m, n = m + 1 := ⟨n - 1, by omega⟩
    obtain ⟨h1, h2⟩ := vOk_l hok
    rw [vSz] at hn
    have hl := lSz_length l
    rw [value_Order]
    unfold value_Order_b
    dsimp +instances only [kind_mk, n_mk, s_mk, l_mk]
    have key : slices_CompareFunc_api_Value_api_Value_api_Value_api_Value_value_Order (value_Order m) m (l, l', ()) = some (ordL l l', ()) := by
      unfold slices_CompareFunc_api_Value_api_Value_api_Value_api_Value_value_Order
      refine (range_listM l (fun i (u : Unit) => (l, l', l, (l.length : Int), i, ())) _ (fun (i : Int) (x : Val) (u : Unit) (rec : Unit → Option (Int × Unit)) => bif decide ((i : Int) ≥ (l'.length : Int)) then some (1, ()) else (ix l' i).bind fun y => (value_Order m (x, y, ())).bind fun c => bif c.1 != 0 then some (c.1, ()) else rec ())
        (fun _ => bif decide ((l.length : Int) < (l'.length : Int)) then some (-1, ()) else some (0, ())) (fun rec i u => ?_) (by unfold maxLen at h1; omega) m () (by omega)).trans ?_
      · unfold slices_CompareFunc_api_Value_api_Value_api_Value_api_Value_value_Order_s0
        simp only [Val.eta]
      · have := cmpF_fold (value_Order m) l' l [] l' (fun x hx y hy => ih x hx y m (h2 x hx) (by have := lSz_mem (show x ∈ l from hx); omega)) (fun _ => rfl) (by simp)
        rw [List.length_nil, Nat.zero_add] at this
        exact this
    rw [cmp_int_ok, cmp_int_ok, cmp_str_ok, Option.bind_some, key, ordV]
    dsimp only
    cases cmpI k k' != 0
    · rw [cond_false, cond_false, Option.bind_some, Option.bind_some, Option.bind_some]
      dsimp only
      rw [or3_ok _ _ _ m (by omega)]
      rfl
    · rfl
theorem compare_ok (x y : List Val) (n : Nat) (h1 : x.length ≤ maxLen) (h2 : ∀ v ∈ x, vOk v) (hn : lSz x + 6 ≤ n) : bag_Compare n (x, y, ()) = some (ordL x y, ()) := by
  have hl := lSz_length x
  have key : slices_CompareFunc_api_Row_api_Row_api_Value_api_Value_value_Order n (x, y, ()) = some (ordL x y, ()) := by
    unfold slices_CompareFunc_api_Row_api_Row_api_Value_api_Value_value_Order
    refine (range_listM x (fun i (u : Unit) => (x, y, x, (x.length : Int), i, ())) _ (fun (i : Int) (z : Val) (u : Unit) (rec : Unit → Option (Int × Unit)) => bif decide ((i : Int) ≥ (y.length : Int)) then some (1, ()) else (ix y i).bind fun w => (value_Order n (z, w, ())).bind fun c => bif c.1 != 0 then some (c.1, ()) else rec ())
      (fun _ => bif decide ((x.length : Int) < (y.length : Int)) then some (-1, ()) else some (0, ())) (fun rec i u => ?_) (by unfold maxLen at h1; omega) n () (by omega)).trans ?_
    · unfold slices_CompareFunc_api_Row_api_Row_api_Value_api_Value_value_Order_s0
      simp only [Val.eta]
    · have := cmpF_fold (value_Order n) y x [] y (fun z hz w hw => order2_ok z w n (h2 z hz) (by have := lSz_mem hz; omega)) (fun _ => rfl) (by simp)
      rw [List.length_nil, Nat.zero_add] at this
      exact this
  unfold bag_Compare
  dsimp only
  rw [key]
  rfl
theorem rcompare_ok (x y : List Val) (n : Nat) (h1 : x.length ≤ maxLen) (h2 : ∀ v ∈ x, vOk v) (hn : lSz x + 6 ≤ n) : espalierref_CompareRows n (x, y, ()) = some (ordL x y, ()) := by
  unfold espalierref_CompareRows
  dsimp only
  rw [orderOf_ok (.mk 4 0 ⟨#[]⟩ x) (.mk 4 0 ⟨#[]⟩ y) n (by rw [vOk, vOks_iff]; exact ⟨by unfold wfI; decide, by unfold wfI; decide, Nat.zero_le _, h1, h2⟩) (by rw [vSz]; omega), ordV, (cmpS_zero _ _).2 rfl]
  rfl
end Pure

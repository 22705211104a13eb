
/- Who may see what. No program. -/
import Derived.Test.YtnfoajgolcenlaaDoorPGraph4
namespace Pure
open Esp Ev Go
set_option linter.unusedSimpArgs false
set_option linter.unusedVariables false
set_option linter.unusedSimpArgs false
set_option linter.unusedVariables false

/-! ## loops -/
theorem any_fold {α σ ρ : Type} (f : Int → α → σ → (σ → Option ρ) → Option ρ) (p : α → Bool) (k : σ → Option ρ) (R : Option ρ) (s : σ) : ∀ (l : List α) (i : Int), (∀ x ∈ l, ∀ (i : Int) rec, f i x s rec = bif p x then R else rec s) → foldK f k i l s = bif l.any p then R else k s
  | [], _, _ => rfl
  | x :: r, i, h => by
    rw [foldK, h x (by simp), List.any_cons]
    cases p x
    · rw [Bool.false_or, cond_false]
      exact any_fold f p k R s r (i + 1) fun y hy => h y (by simp [hy])
    · rfl
theorem filter_fold {α ρ : Type} (f : Int → α → List α → (List α → Option ρ) → Option ρ) (p : α → Bool) (k : List α → Option ρ) : ∀ (l : List α) (i : Int) (s : List α), (∀ x ∈ l, ∀ (i : Int) (s : List α) rec, s.length ≤ 100 → f i x s rec = bif p x then rec (s ++ [x]) else rec s) → s.length + l.length ≤ 100 → foldK f k i l s = k (s ++ l.filter p)
  | [], i, s, _, _ => by simp [foldK]
  | x :: r, i, s, h, hl => by
    rw [foldK, h x (by simp) i s _ (by omega), List.filter_cons]
    cases hp : p x
    · simp only [cond_false]
      exact filter_fold f p k r (i + 1) s (fun y hy => h y (by simp [hy])) (by simp at hl ⊢; omega)
    · simp only [cond_true, if_true]
      rw [filter_fold f p k r (i + 1) (s ++ [x]) (fun y hy => h y (by simp [hy])) (by simp at hl ⊢; omega)]
      simp
theorem self_fold {α ρ : Type} (l : List α) (f : Int → α → Unit → (Unit → Option ρ) → Option ρ) (k : Unit → Option ρ) (h : ∀ x ∈ l, ∀ (i : Int) rec, ix l i = some x → f i x () rec = rec ()) : ∀ (r p : List α), l = p ++ r → foldK f k (p.length : Int) r () = k ()
  | [], _, _ => rfl
  | x :: r, p, hp => by
    have e1 : ((p.length : Int) + 1) = ((p ++ [x]).length : Int) := by simp
    rw [foldK, h x (by rw [hp]; simp) _ _ (ix_ok (by rw [hp]; simp)), e1, self_fold l f k h r (p ++ [x]) (by simp [hp])]
theorem found_fold {α ρ : Type} (l : List α) (pr : α → Bool) (f : Int → α → Unit → (Unit → Option ρ) → Option ρ) (kr : Int → Option ρ) (h : ∀ (i : Int) x rec, f i x () rec = bif pr x then kr i else rec ()) (k : Unit → Option ρ) (hk : k () = kr (-1)) : ∀ (r p : List α), l = p ++ r → ∃ j, foldK f k (p.length : Int) r () = kr j ∧ Found l (r.find? pr) j
  | [], _, _ => ⟨-1, hk, .inl ⟨rfl, rfl⟩⟩
  | x :: r, p, hp => by
    have e1 : ((p.length : Int) + 1) = ((p ++ [x]).length : Int) := by simp
    rw [foldK, h, List.find?_cons]
    cases pr x
    · rw [cond_false, e1]
      exact found_fold l pr f kr h k hk r (p ++ [x]) (by simp [hp])
    · exact ⟨p.length, rfl, .inr ⟨by omega, x, ix_ok (by rw [hp]; simp), rfl⟩⟩

/-! ## a list has a text -/
def hasL (l : List ByteArray) (s : ByteArray) : Bool := l.any fun x => seq s x
theorem index_fold (s : ByteArray) (k : Unit → Option (Int × Unit)) (hk : k () = some (-1, ())) : ∀ (l : List ByteArray) (i : Int), 0 ≤ i → ∃ j, foldK (fun (i : Int) (x : ByteArray) (u : Unit) (rec : Unit → Option (Int × Unit)) => bif seq s x then some (i, ()) else rec u) k i l () = some (j, ()) ∧ decide (j ≥ 0) = hasL l s
  | [], i, _ => ⟨-1, hk, rfl⟩
  | x :: r, i, hi => by
    obtain ⟨j, h1, h2⟩ := index_fold s k hk r (i + 1) (by omega)
    rw [foldK, h1]
    unfold hasL at h2 ⊢
    rw [List.any_cons]
    cases seq s x
    · exact ⟨j, rfl, by rw [h2]; rfl⟩
    · exact ⟨i, rfl, by simpa using hi⟩
theorem has_ok (l : List ByteArray) (s : ByteArray) (n : Nat) (hl : l.length ≤ maxLen) (hn : l.length < n) : slices_Contains_string_string n (l, s, ()) = some (hasL l s, ()) := by
  obtain ⟨j, h1, h2⟩ := index_fold s (fun _ => some (-1, ())) rfl l 0 (by omega)
  have h3 : slices_Index_string_string n (l, s, ()) = some (j, ()) :=
    (range_listM l (fun i (u : Unit) => (l, s, (l.length : Int), i, ())) _ (fun (i : Int) (x : ByteArray) (u : Unit) (rec : Unit → Option (Int × Unit)) => bif seq s x then some (i, ()) else rec u) (fun _ => some (-1, ()))
      (fun rec i u => rfl) (by unfold maxLen at hl; omega) n () hn).trans h1
  unfold slices_Contains_string_string
  dsimp only
  rw [h3, Option.bind_some]
  dsimp only
  rw [h2]

/-! ## grants -/
def badL (s : ByteArray) : Bool := !(seq s ⟨#[]⟩) && !(nmB s)
def grF : List Grant → List Grant → Int
  | _, [] => 0
  | p, x :: r => bif !(nmB x.who) then 6 else bif p.any (fun z => seq z.who x.who) then 7 else bif decide ((x.labels.length : Int) > 4) then 2 else bif x.labels.any badL then 6 else grF (p ++ [x]) r
def grE (l : List Grant) : Int := bif decide ((l.length : Int) > 4) then 2 else grF [] l
noncomputable def grB (l : List Grant) : Int → Grant → Unit → (Unit → Option (Int × Unit)) → Option (Int × Unit) := fun i x _ rec => bif !(nmB x.who) then some (6, ()) else (lsl l 0 i).bind fun l8 => bif l8.any (fun z => seq z.who x.who) then some (7, ()) else bif decide ((x.labels.length : Int) > 4) then some (2, ()) else bif x.labels.any badL then some (6, ()) else rec ()
theorem lsl_pre {α : Type} (p r : List α) : lsl (p ++ r) 0 (p.length : Int) = some p := by
  unfold lsl
  rw [if_pos (by simp; omega)]
  simp
theorem lsl_le {α : Type} {l m : List α} {i j : Int} (h : lsl l i j = some m) : m.length ≤ l.length := by
  unfold lsl at h
  split at h
  · cases h; rw [List.length_take, List.length_drop]; omega
  · cases h
theorem gr_fold (l : List Grant) : ∀ (r p : List Grant), l = p ++ r → foldK (grB l) (fun _ => some (0, ())) (p.length : Int) r () = some (grF p r, ())
  | [], _, _ => rfl
  | x :: r, p, hp => by
    have e1 : ((p.length : Int) + 1) = ((p ++ [x]).length : Int) := by simp
    rw [foldK, grB, e1, gr_fold l r (p ++ [x]) (by simp [hp]), grF]
    cases !(nmB x.who)
    · rw [cond_false, cond_false, show lsl l 0 (p.length : Int) = some p by rw [hp]; exact lsl_pre p _, Option.bind_some]
      cases p.any (fun z => seq z.who x.who)
      · cases decide ((x.labels.length : Int) > 4)
        · cases x.labels.any badL <;> rfl
        · rfl
      · rfl
    · rfl
theorem lab_loop1 {ρ : Type} (n : Nat) (hn : 20 ≤ n) (l : List ByteArray) (hl : l.length ≤ 4) (v1 v2 : List Grant) (v3 v4 : Int) (kx : List Grant × List Grant × Int × Int × Unit → Option ρ) (kr : Int × Unit → Option ρ) :
    iterN (fun rc => grant_Check_s2 n rc kx kr) n (v1, v2, v3, v4, l, (l.length : Int), 0, ()) = bif l.any badL then kr (6, ()) else kx (v1, v2, v3, v4, ()) := by
  rw [R_grant_Check_s2 n kx kr l n v1 v2 v3 v4 (by omega) (by omega)]
  refine any_fold _ badL _ (kr (6, ())) _ l 0 fun x _ i rec => ?_
  unfold F_grant_Check_s2 badL
  dsimp only
  rw [graph_Name_ok x n hn, Option.bind_some]
  cases seq x ⟨#[]⟩ <;> cases nmB x <;> rfl
theorem lab_loop2 {ρ : Type} (n : Nat) (hn : 20 ≤ n) (l : List ByteArray) (hl : l.length ≤ 4) (v1 v2 : List Grant) (v3 v4 : Int) (kx : List Grant × List Grant × Int × Int × Unit → Option ρ) (kr : Int × Unit → Option ρ) :
    iterN (fun rc => espalierlaw_checkGrants_s4 n rc kx kr) n (v1, v2, v3, v4, l, (l.length : Int), 0, ()) = bif l.any badL then kr (6, ()) else kx (v1, v2, v3, v4, ()) := by
  rw [R_espalierlaw_checkGrants_s4 n kx kr l n v1 v2 v3 v4 (by omega) (by omega)]
  refine any_fold _ badL _ (kr (6, ())) _ l 0 fun x _ i rec => ?_
  unfold F_espalierlaw_checkGrants_s4 badL
  dsimp only
  rw [isName_ok x, Option.bind_some]
  cases seq x ⟨#[]⟩ <;> cases nmB x <;> rfl
theorem who_loop {ρ : Type} (n : Nat) (hn : 20 ≤ n) (l : List Grant) (hl : l.length ≤ 4) (v1 v2 : List Grant) (v3 v4 : Int) (x : Grant) (kx : List Grant × List Grant × Int × Int × (Grant × Unit) × Unit → Option ρ) (kr : Int × Unit → Option ρ) :
    iterN (fun rc => espalierlaw_checkGrants_s2 n rc kx kr) n (v1, v2, v3, v4, l, (l.length : Int), 0, (x, ()), ()) = bif l.any (fun z => seq z.who x.who) then kr (7, ()) else kx (v1, v2, v3, v4, (x, ()), ()) := by
  rw [R_espalierlaw_checkGrants_s2 n kx kr l n v1 v2 v3 v4 (x, ()) (by omega) (by omega)]
  refine any_fold _ (fun z => seq z.who x.who) _ (kr (7, ())) _ l 0 fun z _ i rec => ?_
  rfl
theorem contains_who (n : Nat) (hn : 20 ≤ n) (l : List Grant) (hl : l.length ≤ 4) (x : Grant) : slices_ContainsFunc_api_Grant_api_Grant_grant_Check_1_c n (l, (x, ()), ()) = some (l.any (fun z => seq z.who x.who), (x, ()), ()) := by
  have key : ∀ (r : List Grant) (i : Int), 0 ≤ i → ∃ j, foldK (F_slices_IndexFunc_api_Grant_api_Grant_grant_Check_1_c_s0 n (fun z => some (z.1, ((Ev.Grant.mk z.2.1.1.who z.2.1.1.labels), ()), ()))) (fun z => some (-1, ((Ev.Grant.mk z.1.1.who z.1.1.labels), ()), ())) i r ((x, ()), ()) = some (j, (x, ()), ()) ∧ decide (j ≥ 0) = r.any (fun z => seq z.who x.who) := by
    intro r
    induction r with
    | nil => intro i hi; exact ⟨-1, rfl, rfl⟩
    | cons y r ih =>
      intro i hi
      obtain ⟨j, h1, h2⟩ := ih (i + 1) (by omega)
      rw [foldK, List.any_cons, ← h2]
      unfold F_slices_IndexFunc_api_Grant_api_Grant_grant_Check_1_c_s0 grant_Check_1
      dsimp only
      rw [Option.bind_some]
      dsimp only
      cases seq y.who x.who
      · exact ⟨j, h1, rfl⟩
      · exact ⟨i, rfl, by simpa using hi⟩
  obtain ⟨j, h1, h2⟩ := key l 0 (by omega)
  have h3 : slices_IndexFunc_api_Grant_api_Grant_grant_Check_1_c n (l, (x, ()), ()) = some (j, (x, ()), ()) := by
    unfold slices_IndexFunc_api_Grant_api_Grant_grant_Check_1_c
    exact (R_slices_IndexFunc_api_Grant_api_Grant_grant_Check_1_c_s0 n _ _ l n (x, ()) (by omega) (by omega)).trans h1
  unfold slices_ContainsFunc_api_Grant_api_Grant_grant_Check_1_c
  dsimp only
  rw [h3, Option.bind_some]
  dsimp only
  rw [h2]
theorem grants_ok (l : List Grant) (n : Nat) (hn : 20 ≤ n) : grant_Check n (l, ()) = some (grE l, ()) := by
  unfold grant_Check grE
  dsimp only
  cases hb : decide ((l.length : Int) > 4) with
  | true => rfl
  | false =>
    have h4 := of_decide_eq_false hb
    rw [cond_false, cond_false]
    refine (range_list l (fun i (u : Unit) => (l, l, (l.length : Int), i, ())) _ (grB l) (fun _ => some (0, ())) (fun rec i u => ?_) (by omega) n () (by omega)).trans (gr_fold l l [] rfl)
    unfold grant_Check_s0 grB
    dsimp only
    cases decide (i < (l.length : Int))
    · rfl
    · rw [cond_true, cond_true]
      cases ix l i with
      | none => rfl
      | some x =>
        rw [Option.bind_some, Option.bind_some, graph_Name_ok _ n hn, Option.bind_some]
        dsimp only
        cases !(nmB x.who)
        · rw [cond_false, cond_false]
          cases h8 : lsl l 0 i with
          | none => rfl
          | some l8 =>
            have := lsl_le h8
            rw [Option.bind_some, Option.bind_some]
            refine (congrArg (fun z => Option.bind z _) (contains_who n hn l8 (by omega) x)).trans ?_
            rw [Option.bind_some]
            dsimp only
            cases l8.any (fun z => seq z.who x.who)
            · rw [cond_false, cond_false]
              cases h5 : decide ((x.labels.length : Int) > 4)
              · have h5 := of_decide_eq_false h5
                rw [cond_false, cond_false]
                exact lab_loop1 n hn x.labels (by omega) l l _ i _ _
              · rfl
            · rfl
        · rfl
theorem rgrants_ok (l : List Grant) (n : Nat) (hn : 20 ≤ n) : espalierlaw_checkGrants n (l, ()) = some (grE l, ()) := by
  unfold espalierlaw_checkGrants grE
  dsimp only
  cases hb : decide ((l.length : Int) > 4) with
  | true => rfl
  | false =>
    have h4 := of_decide_eq_false hb
    rw [cond_false, cond_false]
    refine (range_list l (fun i (u : Unit) => (l, l, (l.length : Int), i, ())) _ (grB l) (fun _ => some (0, ())) (fun rec i u => ?_) (by omega) n () (by omega)).trans (gr_fold l l [] rfl)
    unfold espalierlaw_checkGrants_s0 grB
    dsimp only
    cases decide (i < (l.length : Int))
    · rfl
    · rw [cond_true, cond_true]
      cases ix l i with
      | none => rfl
      | some x =>
        rw [Option.bind_some, Option.bind_some, isName_ok, Option.bind_some]
        dsimp only
        cases !(nmB x.who)
        · rw [cond_false, cond_false]
          cases h8 : lsl l 0 i with
          | none => rfl
          | some l8 =>
            have := lsl_le h8
            rw [Option.bind_some, Option.bind_some]
            refine (who_loop n hn l8 (by omega) l l _ i x _ _).trans ?_
            cases l8.any (fun z => seq z.who x.who)
            · rw [cond_false, cond_false]
              dsimp only
              cases h5 : decide ((x.labels.length : Int) > 4)
              · have h5 := of_decide_eq_false h5
                rw [cond_false, cond_false]
                exact lab_loop2 n hn x.labels (by omega) l l _ i _ _
              · rfl
            · rfl
        · rfl
theorem grF_0 : ∀ {r p : List Grant}, grF p r = 0 → ∀ x ∈ r, x.labels.length ≤ 4
  | [], _, _ => fun x hx => (by cases hx)
  | y :: r, p, h => by
    rw [grF] at h
    cases h1 : !(nmB y.who) with
    | true => rw [h1] at h; cases h
    | false =>
      cases h2 : p.any (fun z => seq z.who y.who) with
      | true => rw [h1, h2] at h; cases h
      | false =>
        cases h3 : decide ((y.labels.length : Int) > 4) with
        | true => rw [h1, h2, h3] at h; cases h
        | false =>
          cases h4 : y.labels.any badL with
          | true => rw [h1, h2, h3, h4] at h; cases h
          | false =>
            rw [h1, h2, h3, h4] at h
            intro x hx
            rcases List.mem_cons.1 hx with rfl | hx
            · have := of_decide_eq_false h3; omega
            · exact grF_0 h x hx
theorem grE_0 {l : List Grant} (h : grE l = 0) : l.length ≤ 4 ∧ ∀ x ∈ l, x.labels.length ≤ 4 := by
  unfold grE at h
  cases h1 : decide ((l.length : Int) > 4) with
  | true => rw [h1] at h; cases h
  | false => rw [h1] at h; exact ⟨by have := of_decide_eq_false h1; omega, grF_0 h⟩
end Pure

/- Several texts in one (merge.py). -/
import Derived.Test.YtidnjdmkkcakkaaDoorPA
import Derived.KernelRfl

/- Values: sameness and what is ahead, the plain part. No program. -/
namespace Pure
open Esp Ev Go
set_option linter.unusedSimpArgs false
set_option linter.unusedVariables false
set_option linter.unusedSimpArgs false
set_option linter.unusedVariables false

/-- no truth (2), or one -/
def tV (c : Int) : Val := bif c == 2 then .mk 0 0 ⟨#[]⟩ [] else .mk 1 c ⟨#[]⟩ []
mutual
def smV : Val → Val → Int
  | .mk k a s l, .mk k' a' s' l' => bif (k == 0) || (k' == 0) then 2 else bif (k != 4) || (k' != 4) then (bif ordV (.mk k a s l) (.mk k' a' s' l') == 0 then 1 else 0) else bif (l.length : Int) != (l'.length : Int) then 0 else smL 1 l l'
def smL (acc : Int) : List Val → List Val → Int
  | x :: r, y :: t => bif smV x y == 2 then smL 2 r t else bif smV x y == 0 then 0 else smL acc r t
  | _, _ => acc
end
theorem smL_rng {l : List Val} (h : ∀ x ∈ l, ∀ y, smV x y = 0 ∨ smV x y = 1 ∨ smV x y = 2) : ∀ (acc : Int) (m : List Val), (acc = 1 ∨ acc = 2) → smL acc l m = 0 ∨ smL acc l m = 1 ∨ smL acc l m = 2 := by
  induction l with
  | nil => intro acc m ha; rw [smL]; · omega
           intro x r y t h; cases h
  | cons x r ih =>
    intro acc m ha
    cases m with
    | nil => rw [smL]; · omega
             intro x r y t _ h; cases h
    | cons y t =>
      rw [smL]
      have ih' := ih fun z hz => h z (by simp [hz])
      cases smV x y == 2
      · rw [cond_false]
        cases smV x y == 0
        · rw [cond_false]; exact ih' acc t ha
        · exact .inl rfl
      · rw [cond_true]; exact ih' 2 t (.inr rfl)
theorem smV_rng (v : Val) : ∀ w, smV v w = 0 ∨ smV v w = 1 ∨ smV v w = 2 := by
  induction v using val_ind with
  | _ k a s l ih =>
    intro w
    obtain ⟨k', a', s', l'⟩ := w
    rw [smV]
    cases (k == 0) || (k' == 0)
    · rw [cond_false]
      cases (k != 4) || (k' != 4)
      · rw [cond_false]
        cases (l.length : Int) != (l'.length : Int)
        · rw [cond_false]; exact smL_rng ih 1 l' (.inl rfl)
        · exact .inl rfl
      · rw [cond_true]
        cases ordV (.mk k a s l) (.mk k' a' s' l') == 0
        · exact .inl rfl
        · exact .inr (.inl rfl)
    · exact .inr (.inr rfl)
theorem tV_kind {c : Int} : ((tV c).kind == 0) = (c == 2) := by
  unfold tV; cases h : c == 2 <;> rfl
theorem tV_n {c : Int} (h : (c == 2) = false) : (tV c).n = c := by
  unfold tV; rw [h]; rfl
theorem tV_right (c : Int) (h : c = 0 ∨ c = 1 ∨ c = 2) (d : Int) : Right (tV c) d := by
  rcases h with h | h | h
  · subst h; exact .truth 0 d (.inl rfl)
  · subst h; exact .truth 1 d (.inr rfl)
  · subst h; exact .null d
theorem neI {a b : Nat} (h : ((a : Int) != (b : Int)) = false) : a = b := by
  have h2 : (a : Int) = b := by simpa using h
  omega
theorem ordV_refl (v : Val) : ordV v v = 0 := (ordV_zero v v).2 rfl
/-- of values that are right: what is the same is one, what is not is not -/
theorem smL_right {l : List Val} {d : Int} (h : ∀ x ∈ l, ∀ y, Right x d → Right y d → (smV x y = 1 → x = y) ∧ (smV x y = 0 → x ≠ y)) : ∀ (acc : Int) (m : List Val), (acc = 1 ∨ acc = 2) → (∀ x ∈ l, Right x d) → (∀ y ∈ m, Right y d) → l.length = m.length → (smL acc l m = 1 → l = m) ∧ (smL acc l m = 0 → l ≠ m) := by
  induction l with
  | nil =>
    intro acc m ha _ _ hl
    cases m with
    | nil => rw [smL]; · exact ⟨fun _ => rfl, fun h => by omega⟩
             intro x r y t h; cases h
    | cons y t => simp at hl
  | cons x r ih =>
    intro acc m ha h1 h2 hl
    cases m with
    | nil => simp at hl
    | cons y t =>
      have hxy := h x (by simp) y (h1 x (by simp)) (h2 y (by simp))
      have ih' := fun acc ha => ih (fun z hz => h z (by simp [hz])) acc t ha (fun z hz => h1 z (by simp [hz])) (fun z hz => h2 z (by simp [hz])) (by simpa using hl)
      have h01 := smL_rng (l := r) (fun x _ y => smV_rng x y)
      rw [smL]
      rcases smV_rng x y with e | e | e
      · rw [e]
        exact ⟨fun h => absurd (show (0 : Int) = 1 from h) (by decide), fun _ hh => hxy.2 e (by cases hh; rfl)⟩
      · rw [e]
        have ih2 := ih' acc ha
        have e1 := hxy.1 e
        subst e1
        exact ⟨fun h => (by rw [ih2.1 h]), fun h hh => ih2.2 h (by cases hh; rfl)⟩
      · rw [e]
        have ih2 := ih' 2 (.inr rfl)
        exact ⟨fun h => absurd h (smL_two r t), fun h hh => ih2.2 h (by cases hh; rfl)⟩
where
  smL_two : ∀ (r t : List Val), ¬ smL 2 r t = 1
    | [], t => by
      rw [smL]; · omega
      intro x r y t h; cases h
    | x :: r, [] => by
      rw [smL]; · omega
      intro x r y t _ h; cases h
    | x :: r, y :: t => by
      rw [smL]
      cases smV x y == 2
      · rw [cond_false]
        cases smV x y == 0
        · rw [cond_false]; exact smL_two r t
        · intro h; cases h
      · rw [cond_true]; exact smL_two r t
theorem right_list {n : Int} {s : ByteArray} {l : List Val} {d : Int} (h : Right (.mk 4 n s l) d) : n = 0 ∧ s = ⟨#[]⟩ ∧ ∀ x ∈ l, Right x (d + 1) := by
  cases h with
  | list l d h4 h5 h6 => exact ⟨rfl, rfl, h6⟩
theorem smV_right (v : Val) : ∀ (w : Val) (d : Int), Right v d → Right w d → (smV v w = 1 → v = w) ∧ (smV v w = 0 → v ≠ w) := by
  induction v using val_ind with
  | _ k a s l ih =>
    intro w d hv hw
    obtain ⟨k', a', s', l'⟩ := w
    rw [smV]
    cases h0 : (k == 0) || (k' == 0)
    · rw [cond_false]
      cases h4 : (k != 4) || (k' != 4)
      · rw [cond_false]
        obtain ⟨hk, hk'⟩ := Bool.or_eq_false_iff.1 h4
        have hk : k = 4 := by simpa using hk
        have hk' : k' = 4 := by simpa using hk'
        subst hk; subst hk'
        obtain ⟨rfl, rfl, h6⟩ := right_list hv
        obtain ⟨rfl, rfl, h6'⟩ := right_list hw
        cases hl : (l.length : Int) != (l'.length : Int)
        · rw [cond_false]
          have hl : l.length = l'.length := neI hl
          have := smL_right (d := d + 1) (fun x hx y h1 h2 => ih x hx y (d + 1) h1 h2) 1 l' (.inl rfl) h6 h6' hl
          exact ⟨fun h => (by rw [this.1 h]), fun h hh => this.2 h (by cases hh; rfl)⟩
        · refine ⟨fun h => absurd (show (0 : Int) = 1 from h) (by decide), fun _ hh => ?_⟩
          cases hh
          simp at hl
      · rw [cond_true]
        cases ho : ordV (.mk k a s l) (.mk k' a' s' l') == 0
        · refine ⟨fun h => absurd (show (0 : Int) = 1 from h) (by decide), fun _ hh => ?_⟩
          rw [hh, ordV_refl] at ho
          cases ho
        · exact ⟨fun _ => (ordV_zero _ _).1 (by simpa using ho), fun h => absurd (show (1 : Int) = 0 from h) (by decide)⟩
    · exact ⟨fun h => absurd (show (2 : Int) = 1 from h) (by decide), fun h => absurd (show (2 : Int) = 0 from h) (by decide)⟩
def lsV (v w : Val) : Int := bif (v.kind != w.kind) || ((v.kind != 2) && (v.kind != 3)) then 2 else bif decide (ordV v w < 0) then 1 else 0
theorem lsV_rng (v w : Val) : lsV v w = 0 ∨ lsV v w = 1 ∨ lsV v w = 2 := by
  unfold lsV
  cases (v.kind != w.kind) || ((v.kind != 2) && (v.kind != 3))
  · cases decide (ordV v w < 0)
    · exact .inl rfl
    · exact .inr (.inl rfl)
  · exact .inr (.inr rfl)
theorem ordV_rng (v : Val) : ∀ w, -1 ≤ ordV v w ∧ ordV v w ≤ 1 := by
  have hI : ∀ a b, -1 ≤ cmpI a b ∧ cmpI a b ≤ 1 := fun a b => by
    unfold cmpI
    cases decide (a < b)
    · cases decide (a > b) <;> simp
    · simp
  have hS : ∀ a b, -1 ≤ cmpS a b ∧ cmpS a b ≤ 1 := fun a b => by
    unfold cmpS
    cases sless a b
    · cases seq a b <;> simp
    · simp
  have hb : ∀ a b : Int, (-1 ≤ a ∧ a ≤ 1) → (-1 ≤ b ∧ b ≤ 1) → -1 ≤ (bif a != 0 then a else b) ∧ (bif a != 0 then a else b) ≤ 1 := fun a b h1 h2 => by
    cases a != 0
    · exact h2
    · exact h1
  induction v using val_ind with
  | _ k a s l ih =>
    intro w
    obtain ⟨k', a', s', l'⟩ := w
    rw [ordV]
    refine hb _ _ (hI _ _) (hb _ _ (hI _ _) (hb _ _ (hS _ _) ?_))
    clear hI hS
    induction l generalizing l' with
    | nil => cases l' <;> simp [ordL]
    | cons x r ih2 =>
      cases l' with
      | nil => simp [ordL]
      | cons y t => rw [ordL]; exact hb _ _ (ih x (by simp) y) (ih2 (fun z hz => ih z (by simp [hz])) t)
end Pure


/- Values: sameness and what is ahead, as the code has them; the laws of order. No program. -/
namespace Pure
open Esp Ev Go
set_option linter.unusedSimpArgs false
set_option linter.unusedVariables false

theorem truth_ok (b : Bool) : value_truth (b, ()) = some (tV (bif b then 1 else 0), ()) := by cases b <;> rfl
theorem tV_same (c : Int) (h : c = 0 ∨ c = 1 ∨ c = 2) (n : Nat) : espalierref_SameValue (n + 40) (tV c, tV c, ()) = some (true, ()) := same_ok (tV_right c h 1) (n + 40) (by omega)
theorem valued_ok (n : Nat) : espalierlaw_valued (n + 40) () = some (true, ()) := by kernel_rfl
end Pure

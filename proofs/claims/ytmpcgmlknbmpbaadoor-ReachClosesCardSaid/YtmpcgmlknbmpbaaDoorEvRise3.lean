/- Plain: the order of lists of whole numbers. No program. -/
import Derived.Test.YtmpcgmlknbmpbaaDoorEvRise2
import Derived.Test.YtmpcgmlknbmpbaaDoorEvSortF
namespace Esp
open Go
set_option linter.unusedSimpArgs false
set_option linter.unusedVariables false
def cmpLL : List Int → List Int → Int
  | [], [] => 0
  | [], _ :: _ => -1
  | _ :: _, [] => 1
  | a :: r, b :: q => if cmpI a b ≠ 0 then cmpI a b else cmpLL r q
def ltLL (x y : List Int) : Bool := decide (cmpLL x y < 0)
theorem cmpI_lt {a b : Int} : cmpI a b < 0 ↔ a < b := by
  unfold cmpI
  by_cases h : a < b
  · simp [h]
  · by_cases h2 : a > b <;> simp [h, h2]
theorem cmpI_0 {a b : Int} : cmpI a b = 0 ↔ a = b := by
  unfold cmpI
  by_cases h : a < b
  · simp [h]; omega
  · by_cases h2 : a > b
    · simp [h, h2]; omega
    · simp [h, h2]; omega
theorem ltLL_nil (x : List Int) : ltLL x [] = false := by cases x <;> rfl
theorem ltLL_cons (a b : Int) (r q : List Int) : ltLL (a :: r) (b :: q) = true ↔ a < b ∨ (a = b ∧ ltLL r q = true) := by
  unfold ltLL
  rw [cmpLL]
  by_cases h : cmpI a b = 0
  · have := cmpI_0.1 h
    subst this
    simp [h]
  · rw [if_pos h, decide_eq_true_iff, cmpI_lt]
    have : a ≠ b := fun e => h (cmpI_0.2 e)
    simp [this]
theorem ltLL_ok : LtOk ltLL := by
  have tr : ∀ x y z, ltLL x y = true → ltLL y z = true → ltLL x z = true := by
    intro x
    induction x with
    | nil =>
      intro y z h1 h2
      cases z with
      | nil => rw [ltLL_nil] at h2; cases h2
      | cons c s => rfl
    | cons a r ih =>
      intro y z h1 h2
      cases y with
      | nil => rw [ltLL_nil] at h1; cases h1
      | cons b q =>
        cases z with
        | nil => rw [ltLL_nil] at h2; cases h2
        | cons c s =>
          rw [ltLL_cons] at *
          rcases h1 with h1 | ⟨rfl, h1⟩
          · rcases h2 with h2 | ⟨rfl, h2⟩
            · exact .inl (by omega)
            · exact .inl h1
          · rcases h2 with h2 | ⟨rfl, h2⟩
            · exact .inl h2
            · exact .inr ⟨rfl, ih q s h1 h2⟩
  have tot : ∀ x y, ltLL x y = false → ltLL y x = false → x = y := by
    intro x
    induction x with
    | nil => intro y h1 h2; cases y with
      | nil => rfl
      | cons b q => cases h1
    | cons a r ih =>
      intro y h1 h2
      cases y with
      | nil => cases h2
      | cons b q =>
        have h1' : ¬ (a < b ∨ (a = b ∧ ltLL r q = true)) := fun h => by rw [(ltLL_cons a b r q).2 h] at h1; cases h1
        have h2' : ¬ (b < a ∨ (b = a ∧ ltLL q r = true)) := fun h => by rw [(ltLL_cons b a q r).2 h] at h2; cases h2
        have hab : a = b := by
          have u1 : ¬ a < b := fun h => h1' (.inl h)
          have u2 : ¬ b < a := fun h => h2' (.inl h)
          omega
        subst hab
        have e1 : ltLL r q = false := by cases h : ltLL r q with
          | false => rfl
          | true => exact absurd (.inr ⟨rfl, h⟩) h1'
        have e2 : ltLL q r = false := by cases h : ltLL q r with
          | false => rfl
          | true => exact absurd (.inr ⟨rfl, h⟩) h2'
        rw [ih q e1 e2]
  have irr : ∀ x, ltLL x x = false := by
    intro x
    induction x with
    | nil => rfl
    | cons a r ih =>
      cases h : ltLL (a :: r) (a :: r) with
      | false => rfl
      | true =>
        rcases (ltLL_cons a a r r).1 h with h | ⟨_, h⟩
        · omega
        · rw [ih] at h; cases h
  refine ⟨irr, tr, fun x y z h1 h2 => ?_, tot⟩
  cases h : ltLL x z with
  | false => rfl
  | true =>
    cases h3 : ltLL y x with
    | false =>
      have := tot x y h1 h3
      subst this
      rw [h] at h2; cases h2
    | true =>
      have := tr y x z h3 h
      rw [this] at h2; cases h2
end Esp

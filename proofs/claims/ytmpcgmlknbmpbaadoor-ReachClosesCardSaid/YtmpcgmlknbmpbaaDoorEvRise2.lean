/- Several texts in one (merge.py). -/
import Derived.Test.YtmpcgmlknbmpbaaDoorEvTy
/- Plain: the one rising list. -/
namespace Esp
end Esp

/- Plain: a list sorted by an order in which no two stand alike. -/
namespace Esp
structure LtOk {α : Type} (lt : α → α → Bool) : Prop where
  irrefl : ∀ x, lt x x = false
  trans : ∀ x y z, lt x y = true → lt y z = true → lt x z = true
  ntrans : ∀ x y z, lt x y = false → lt y z = false → lt x z = false
  anti : ∀ x y, lt x y = false → lt y x = false → x = y
def sortL {α : Type} (lt : α → α → Bool) (l : List α) : List α := l.mergeSort fun x y => !lt y x
theorem sortL_perm {α : Type} (lt : α → α → Bool) (l : List α) : (sortL lt l).Perm l := List.mergeSort_perm l _
theorem sortL_length {α : Type} (lt : α → α → Bool) (l : List α) : (sortL lt l).length = l.length := (sortL_perm lt l).length_eq
theorem sortL_pair {α : Type} {lt : α → α → Bool} (h : LtOk lt) (l : List α) : (sortL lt l).Pairwise (fun x y => lt y x = false) := by
  have hs : (sortL lt l).Pairwise (fun x y => (!lt y x) = true) := List.pairwise_mergeSort (fun a b c h1 h2 => by
    simp only [Bool.not_eq_true'] at *
    exact h.ntrans _ _ _ h2 h1) (fun a b => by
    cases h1 : lt b a with
    | false => rfl
    | true => cases h2 : lt a b with
      | false => rfl
      | true => have := h.trans _ _ _ h1 h2; rw [h.irrefl] at this; cases this) l
  exact hs.imp fun h => by simpa using h
theorem sort_unique {α : Type} {lt : α → α → Bool} (h : LtOk lt) : ∀ {l m : List α}, l.Perm m → l.Pairwise (fun x y => lt y x = false) → m.Pairwise (fun x y => lt y x = false) → l = m
  | [], m, hp, _, _ => (List.nil_perm.1 hp).symm
  | a :: r, m, hp, hl, hm => by
    cases m with
    | nil => exact absurd hp.symm (by simp)
    | cons b q =>
      have hab : a = b := by
        have h1 : a ∈ b :: q := hp.mem_iff.1 (by simp)
        have h2 : b ∈ a :: r := hp.mem_iff.2 (by simp)
        rcases List.mem_cons.1 h1 with e | h1
        · exact e
        · rcases List.mem_cons.1 h2 with e | h2
          · exact e.symm
          · exact h.anti _ _ (List.rel_of_pairwise_cons hm h1) (List.rel_of_pairwise_cons hl h2)
      subst hab
      rw [sort_unique h hp.cons_inv (List.pairwise_cons.1 hl).2 (List.pairwise_cons.1 hm).2]
theorem sortL_eq {α : Type} {lt : α → α → Bool} (h : LtOk lt) {l m : List α} (hp : l.Perm m) : sortL lt l = sortL lt m :=
  sort_unique h ((sortL_perm lt l).trans (hp.trans (sortL_perm lt m).symm)) (sortL_pair h l) (sortL_pair h m)
theorem sortL_of {α : Type} {lt : α → α → Bool} (h : LtOk lt) {l m : List α} (hp : l.Perm m) (hm : m.Pairwise (fun x y => lt y x = false)) : sortL lt l = m :=
  sort_unique h ((sortL_perm lt l).trans hp) (sortL_pair h l) hm
def ltP (a b : Ev.Pair) : Bool := decide (a.p < b.p ∨ (a.p = b.p ∧ a.q < b.q))
def cmpP (a b : Ev.Pair) : Int := if a.p < b.p then -1 else if a.p > b.p then 1 else if a.q < b.q then -1 else if a.q > b.q then 1 else 0
theorem ltP_ok : LtOk ltP := by
  refine ⟨fun x => ?_, fun x y z h1 h2 => ?_, fun x y z h1 h2 => ?_, fun x y h1 h2 => ?_⟩
  · simp [ltP]
  · simp only [ltP, decide_eq_true_eq] at *; omega
  · simp only [ltP, decide_eq_false_iff_not] at *; omega
  · simp only [ltP, decide_eq_false_iff_not] at *
    cases x; cases y
    simp only [Ev.Pair.mk.injEq] at *
    omega
theorem cmpP_lt (a b : Ev.Pair) : decide (cmpP a b < 0) = ltP a b := by
  unfold cmpP ltP
  by_cases h1 : a.p < b.p
  · simp [h1]
  · by_cases h2 : a.p > b.p
    · simp [h1, h2]; omega
    · have : a.p = b.p := by omega
      by_cases h3 : a.q < b.q
      · simp [this, h3]
      · by_cases h4 : a.q > b.q <;> simp [this, h3, h4]
def sfL {α : Type} (lt : α → α → Bool) : List α × Unit → Option (List α × Unit) := fun (l, _) => bif Nat.ble l.length 4000000000000000000 then some (sortL lt l, ()) else none
def sfPair : List Ev.Pair × Unit → Option (List Ev.Pair × Unit) := sfL ltP
end Esp

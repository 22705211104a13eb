/- Plain: the one rising list. -/
import Derived.Test.YtneindkhjadnaaaGreatDoorEvTy
namespace Esp
/-! ## plain: the one rising list -/
theorem rise_unique {α : Type} (κ : α → Int) : ∀ {l m : List α}, l.Perm m → l.Pairwise (fun x y => κ x < κ y) → m.Pairwise (fun x y => κ x < κ y) → l = m
  | [], m, h, _, _ => (List.nil_perm.1 h).symm
  | a :: r, m, h, hl, hm => by
    cases m with
    | nil => exact absurd h.symm (by simp)
    | cons b q =>
      have hab : a = b := by
        have h1 : a ∈ b :: q := h.mem_iff.1 (by simp)
        have h2 : b ∈ a :: r := h.mem_iff.2 (by simp)
        rcases List.mem_cons.1 h1 with e | h1
        · exact e
        · rcases List.mem_cons.1 h2 with e | h2
          · exact e.symm
          · have := List.rel_of_pairwise_cons hl h2
            have := List.rel_of_pairwise_cons hm h1
            omega
      subst hab
      rw [rise_unique κ (h.cons_inv) (List.pairwise_cons.1 hl).2 (List.pairwise_cons.1 hm).2]
theorem perm_lift {α β : Type} (f : α → β) {a b : List β} (h : a.Perm b) : ∀ z : List α, z.map f = a → ∃ z' : List α, z'.Perm z ∧ z'.map f = b := by
  induction h with
  | nil =>
    intro z hz
    cases z with
    | nil => exact ⟨[], .refl _, rfl⟩
    | cons x r => cases hz
  | cons x h ih =>
    intro z hz
    cases z with
    | nil => cases hz
    | cons y r =>
      rw [List.map_cons] at hz
      obtain ⟨r', h1, h2⟩ := ih r (List.cons.inj hz).2
      exact ⟨y :: r', h1.cons y, by rw [List.map_cons, h2, (List.cons.inj hz).1]⟩
  | swap x y l =>
    intro z hz
    cases z with
    | nil => cases hz
    | cons a r =>
      cases r with
      | nil => cases hz
      | cons c q =>
        simp only [List.map_cons, List.cons.injEq] at hz
        exact ⟨c :: a :: q, .swap a c q, by simp only [List.map_cons, hz.1, hz.2.1, hz.2.2]⟩
  | trans h1 h2 ih1 ih2 =>
    intro z hz
    obtain ⟨z1, p1, e1⟩ := ih1 z hz
    obtain ⟨z2, p2, e2⟩ := ih2 z1 e1
    exact ⟨z2, p2.trans p1, e2⟩
def riseB {α : Type} (κ : α → Int) (l : List α) : List α := l.mergeSort fun x y => decide (κ x ≤ κ y)
noncomputable def sfN {α : Type} (κ : α → Int) : List α × Unit → Option (List α × Unit) := fun (l, _) => bif decide ((l.map κ).Nodup) && Nat.ble l.length 4000000000000000000 then some (riseB κ l, ()) else none
theorem riseB_pair {α : Type} (κ : α → Int) {l : List α} (h : (l.map κ).Nodup) : (riseB κ l).Pairwise (fun x y => κ x < κ y) := by
  have hp : (riseB κ l).Perm l := List.mergeSort_perm l _
  have hs : (riseB κ l).Pairwise (fun x y => decide (κ x ≤ κ y) = true) := List.pairwise_mergeSort (fun a b c h1 h2 => by
    simp only [decide_eq_true_eq] at *; omega) (fun a b => by simp only [Bool.or_eq_true, decide_eq_true_eq]; omega) l
  have hn : ((riseB κ l).map κ).Nodup := (hp.map κ).nodup_iff.2 h
  rw [List.nodup_iff_pairwise_ne, List.pairwise_map] at hn
  refine (hs.and hn).imp fun {a b} h => ?_
  have := of_decide_eq_true h.1
  have := h.2
  omega
noncomputable def sfNode : List Ev.Node × Unit → Option (List Ev.Node × Unit) := sfN Ev.Node.id
noncomputable def sfEdge : List Ev.Edg × Unit → Option (List Ev.Edg × Unit) := sfN Ev.Edg.id
end Esp

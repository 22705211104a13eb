/- Free names of terms: what term.Free and the law's freeOf answer. No program. -/
import Derived.Test.YtpfhkokjpmkbkaaGreatDoorPRange
import Derived.Lib.SlicesCompact
namespace Pure
open Esp Ev Go
set_option linter.unusedSimpArgs false
set_option linter.unusedVariables false
def leB (x y : List UInt8) : Bool := decide (x ≤ y)
def sortB (l : List (List UInt8)) : List (List UInt8) := l.mergeSort leB
def B1 (x : List UInt8) : ByteArray := ⟨x.toArray⟩
mutual
def namesT : Term → List (List UInt8)
  | .mk k _ s a => (if k = 2 then [s.data.toList] else []) ++ namesTs a
def namesTs : List Term → List (List UInt8)
  | [] => []
  | x :: r => namesT x ++ namesTs r
end
mutual
def freeR : Term → List (List UInt8)
  | .mk k _ s a => Lib.compact (sortB ((if k = 2 then [s.data.toList] else []) ++ freeRs a))
def freeRs : List Term → List (List UInt8)
  | [] => []
  | x :: r => freeR x ++ freeRs r
end
mutual
def cntT : Term → Nat
  | .mk _ _ _ a => cntTs a + 1
def cntTs : List Term → Nat
  | [] => 0
  | x :: r => cntT x + cntTs r
end
mutual
def nmOk : Term → Prop
  | .mk _ _ s a => s.size ≤ maxLen ∧ nmOks a
def nmOks : List Term → Prop
  | [] => True
  | x :: r => nmOk x ∧ nmOks r
end
open Classical in
noncomputable def freeN : Term × Unit → Option (List ByteArray × Unit) := fun (t, _) => if cntT t ≤ 1900000 ∧ nmOk t then some ((Lib.compact (sortB (namesT t))).map B1, ()) else none
open Classical in
noncomputable def freeOfN : Term × Unit → Option (List ByteArray × Unit) := fun (t, _) => if cntT t ≤ 1900000 then some ((freeR t).map B1, ()) else none
theorem leB_trans (a b c : List UInt8) (h1 : leB a b = true) (h2 : leB b c = true) : leB a c = true := by
  simp only [leB, decide_eq_true_eq] at *
  exact List.le_trans h1 h2
theorem leB_total (a b : List UInt8) : (leB a b || leB b a) = true := by
  simp only [leB, Bool.or_eq_true, decide_eq_true_eq]
  exact List.le_total a b
theorem sortB_sorted (l : List (List UInt8)) : (sortB l).Pairwise (fun a b => a ≤ b) := by
  have := List.pairwise_mergeSort leB_trans leB_total l
  exact this.imp fun h => by simpa [leB] using h
theorem sortB_mem (l : List (List UInt8)) (x : List UInt8) : x ∈ sortB l ↔ x ∈ l := (List.mergeSort_perm l leB).mem_iff
theorem sortB_length (l : List (List UInt8)) : (sortB l).length = l.length := (List.mergeSort_perm l leB).length_eq
theorem compact_upTo {l : List (List UInt8)} (hs : l.Pairwise (fun a b => a ≤ b)) : ∀ m, m ≤ l.length →
    (Lib.compactUpTo l.toArray m).Pairwise (fun a b => a < b) ∧ (∀ x, x ∈ Lib.compactUpTo l.toArray m ↔ x ∈ l.take m) := by
  intro m
  induction m with
  | zero => intro _; simp [Lib.compactUpTo]
  | succ m ih =>
    intro hm
    obtain ⟨h1, h2⟩ := ih (by omega)
    have hlt : m < l.length := by omega
    have eM : l.toArray[m]! = l[m] := by simp [getElem!_pos, hlt]
    have hle : ∀ x ∈ l.take m, x ≤ l[m] := by
      intro x hx
      obtain ⟨i, hi, rfl⟩ := List.getElem_of_mem hx
      have hi2 : i < m := by rw [List.length_take] at hi; omega
      rw [List.getElem_take]
      exact List.pairwise_iff_getElem.1 hs i m (by omega) hlt hi2
    have eT : l.take (m + 1) = l.take m ++ [l[m]] := List.take_succ_eq_append_getElem hlt
    rw [Lib.compactUpTo_succ]
    by_cases hk : Lib.keeps l.toArray m = true
    · rw [if_pos hk, eM]
      refine ⟨List.pairwise_append.2 ⟨h1, List.pairwise_singleton _ _, ?_⟩, fun x => by rw [eT, List.mem_append, List.mem_append, h2 x]⟩
      intro a ha b hb
      rw [List.mem_singleton] at hb
      subst hb
      have ha2 := (h2 a).1 ha
      rcases Nat.eq_zero_or_pos m with h0 | h0
      · subst h0
        simp at ha2
      · simp only [Lib.keeps, decide_eq_true_eq] at hk
        have e1 : l.toArray[m - 1]! = l[m - 1] := by simp [getElem!_pos, show m - 1 < l.length by omega]
        rw [eM, e1] at hk
        have hne : l[m] ≠ l[m - 1] := by
          rcases hk with hk | hk
          · omega
          · exact hk
        have hlast : l[m - 1] ≤ l[m] := List.pairwise_iff_getElem.1 hs (m - 1) m (by omega) hlt (by omega)
        have hstr : l[m - 1] < l[m] := by
          rcases List.le_iff_lt_or_eq.1 hlast with h | h
          · exact h
          · exact absurd h.symm hne
        have hal : a ≤ l[m - 1] := by
          obtain ⟨i, hi, rfl⟩ := List.getElem_of_mem ha2
          have hi2 : i < m := by rw [List.length_take] at hi; omega
          rw [List.getElem_take]
          by_cases e : i = m - 1
          · subst e
            exact List.le_refl _
          · exact List.pairwise_iff_getElem.1 hs i (m - 1) (by omega) (by omega) (by omega)
        exact List.lt_of_le_of_lt hal hstr
    · rw [if_neg hk, List.append_nil]
      refine ⟨h1, fun x => ?_⟩
      rw [eT, h2 x, List.mem_append, List.mem_singleton]
      constructor
      · exact .inl
      · rintro (h | h)
        · exact h
        · subst h
          simp only [Lib.keeps, decide_eq_true_eq, not_or, Classical.not_not] at hk
          have e1 : l.toArray[m - 1]! = l[m - 1] := by simp [getElem!_pos, show m - 1 < l.length by omega]
          rw [eM, e1] at hk
          rw [hk.2]
          exact List.mem_take_iff_getElem.2 ⟨m - 1, by omega, rfl⟩
theorem compact_sort (l : List (List UInt8)) : (Lib.compact (sortB l)).Pairwise (fun a b => a < b) ∧ ∀ x, x ∈ Lib.compact (sortB l) ↔ x ∈ l := by
  have h := compact_upTo (sortB_sorted l) (sortB l).length (Nat.le_refl _)
  refine ⟨h.1, fun x => ?_⟩
  have := h.2 x
  rw [List.take_length] at this
  exact this.trans (sortB_mem l x)
theorem strict_ext : ∀ {l r : List (List UInt8)}, l.Pairwise (fun a b => a < b) → r.Pairwise (fun a b => a < b) → (∀ x, x ∈ l ↔ x ∈ r) → l = r := by
  intro l r hl hr h
  have hp : l.Perm r := (List.perm_ext_iff_of_nodup (hl.imp fun {a b} h e => by subst e; exact List.lt_irrefl _ h) (hr.imp fun {a b} h e => by subst e; exact List.lt_irrefl _ h)).2 h
  exact List.Perm.eq_of_pairwise (le := fun a b => a < b) (fun a b _ _ h1 h2 => absurd (List.lt_trans h1 h2) (List.lt_irrefl _)) hl hr hp
theorem compact_le (l : List (List UInt8)) : (Lib.compact l).length ≤ l.length := by
  unfold Lib.compact Lib.compactUpTo
  rw [List.length_map]
  refine Nat.le_trans (List.length_filter_le _ _) ?_
  simp
mutual
theorem free_names : ∀ t : Term, ∀ x, x ∈ freeR t ↔ x ∈ namesT t
  | .mk k v s a => fun x => by
    rw [freeR, namesT, (compact_sort _).2 x, List.mem_append, List.mem_append, frees_names a x]
theorem frees_names : ∀ l : List Term, ∀ x, x ∈ freeRs l ↔ x ∈ namesTs l
  | [] => fun x => by simp [freeRs, namesTs]
  | t :: r => fun x => by rw [freeRs, namesTs, List.mem_append, List.mem_append, free_names t x, frees_names r x]
end
theorem free_same (t : Term) : Lib.compact (sortB (namesT t)) = freeR t := by
  refine strict_ext (compact_sort _).1 ?_ fun x => ?_
  · cases t with
    | mk k v s a => rw [freeR]; exact (compact_sort _).1
  · rw [(compact_sort _).2 x, free_names t x]
mutual
theorem freeR_le : ∀ t : Term, (freeR t).length ≤ cntT t
  | .mk k v s a => by
    rw [freeR, cntT]
    refine Nat.le_trans (compact_le _) ?_
    rw [sortB_length, List.length_append]
    have := freeRs_le a
    split <;> simp <;> omega
theorem freeRs_le : ∀ l : List Term, (freeRs l).length ≤ cntTs l
  | [] => by simp [freeRs, cntTs]
  | t :: r => by
    have h1 := freeR_le t
    have h2 := freeRs_le r
    rw [freeRs, cntTs, List.length_append]
    omega
end
/-! ## a term's parts by their places -/
def nthT (l : List Term) (i : Nat) : Term := l.getD i (.mk 0 (.mk 0 0 ⟨#[]⟩ []) ⟨#[]⟩ [])
theorem nthT_get {l : List Term} {i : Nat} (h : i < l.length) : nthT l i = l[i] := by simp [nthT, List.getD_eq_getElem?_getD, h]
theorem range_flat {α : Type} (g : Term → List α) (l : List Term) : (List.range l.length).flatMap (fun i => g (nthT l i)) = l.flatMap g := by
  induction l with
  | nil => rfl
  | cons x r ih =>
    rw [List.length_cons, List.range_succ_eq_map, List.flatMap_cons, List.flatMap_map, List.flatMap_cons, ← ih]
    rfl
theorem freeRs_flat (l : List Term) : freeRs l = l.flatMap freeR := by
  induction l with
  | nil => rfl
  | cons x r ih => rw [freeRs, List.flatMap_cons, ih]
theorem namesTs_flat (l : List Term) : namesTs l = l.flatMap namesT := by
  induction l with
  | nil => rfl
  | cons x r ih => rw [namesTs, List.flatMap_cons, ih]
theorem cntTs_take (l : List Term) : ∀ k, k ≤ l.length → ((List.range k).map (fun i => cntT (nthT l i))).sum + cntTs (l.drop k) = cntTs l := by
  intro k
  induction k with
  | zero => intro _; simp
  | succ k ih =>
    intro hk
    have hlt : k < l.length := by omega
    have h1 := ih (by omega)
    rw [List.drop_eq_getElem_cons hlt, cntTs] at h1
    rw [List.range_succ, List.map_append, List.sum_append, List.map_cons, List.map_nil, List.sum_cons, List.sum_nil, nthT_get hlt]
    omega
theorem cntTs_all (l : List Term) : ((List.range l.length).map (fun i => cntT (nthT l i))).sum = cntTs l := by
  have := cntTs_take l l.length (Nat.le_refl _)
  simpa [cntTs] using this
theorem cnt_pos (t : Term) : 1 ≤ cntT t := by
  cases t with
  | mk k v s a => rw [cntT]; omega
theorem cntTs_len (l : List Term) : l.length ≤ cntTs l := by
  induction l with
  | nil => simp
  | cons x r ih => have := cnt_pos x; rw [cntTs, List.length_cons]; omega
theorem cntT_nth {l : List Term} {i : Nat} (h : i < l.length) : ((List.range i).map (fun i => cntT (nthT l i))).sum + cntT (nthT l i) ≤ cntTs l := by
  have h1 := cntTs_take l i (by omega)
  rw [List.drop_eq_getElem_cons h, cntTs] at h1
  rw [nthT_get h]
  omega
theorem nmOks_nth {l : List Term} (h : nmOks l) {i : Nat} (hi : i < l.length) : nmOk (nthT l i) := by
  rw [nthT_get hi]
  induction l generalizing i with
  | nil => simp at hi
  | cons x r ih =>
    rw [nmOks] at h
    cases i with
    | zero => exact h.1
    | succ i => exact ih h.2 (by simpa using hi)
end Pure

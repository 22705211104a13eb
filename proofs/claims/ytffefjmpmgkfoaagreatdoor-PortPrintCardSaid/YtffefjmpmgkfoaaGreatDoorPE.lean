/- Several texts in one (merge.py). -/
import Derived.Test.YtffefjmpmgkfoaaGreatDoorPLib
import Derived.Test.YtffefjmpmgkfoaaGreatDoorEvGrow
import Derived.Lib.MapLaws
import Derived.Lib.ValidLaws
/- Runes and numerals, written and read. No program. -/
namespace Pure
open Esp Ev Go
set_option linter.unusedSimpArgs false
set_option linter.unusedVariables false
set_option linter.unusedSimpArgs false
set_option linter.unusedVariables false

/-! ## numerals -/
theorem digits_ok (u : Nat) : ∀ c ∈ Lib.decDigits u, 48 ≤ c.toNat ∧ c.toNat ≤ 57 := by
  induction u using Nat.strongRecOn with
  | _ u ih =>
    intro c hc
    rw [Lib.decDigits] at hc
    split at hc
    · rename_i h
      have : c = UInt8.ofNat (48 + u) := by simpa using hc
      subst this
      rw [UInt8.toNat_ofNat']
      omega
    · rename_i h
      rcases List.mem_append.1 hc with hc | hc
      · exact ih (u / 10) (by omega) c hc
      · have : c = UInt8.ofNat (48 + u % 10) := by simpa using hc
        subst this
        rw [UInt8.toNat_ofNat']
        omega
theorem digits_ne (u : Nat) : Lib.decDigits u ≠ [] := by
  rw [Lib.decDigits]
  split
  · simp
  · simp
theorem itoa_shape (n : Int) : ∃ (sg ds : List UInt8), Lib.itoa n = sg ++ ds ∧ (sg = [] ∨ sg = [45]) ∧ ds ≠ [] ∧ ∀ c ∈ ds, 48 ≤ c.toNat ∧ c.toNat ≤ 57 := by
  unfold Lib.itoa
  split
  · exact ⟨[45], _, rfl, .inr rfl, digits_ne _, digits_ok _⟩
  · exact ⟨[], _, rfl, .inl rfl, digits_ne _, digits_ok _⟩

theorem valid_step {l : List UInt8} (h : Lib.validD l = true) (hne : l ≠ []) : ¬ ((Lib.decodeL l).1 = 65533 ∧ (Lib.decodeL l).2 = 1) ∧ Lib.validD (l.drop (Lib.decodeL l).2) = true := by
  rw [Lib.validD_step l hne] at h
  split at h
  · cases h
  · rename_i g; exact ⟨g, h⟩
theorem width1 (l : List UInt8) : 1 ≤ (Lib.decodeL l).2 := by rw [Lib.decodeL_N]; exact Lib.decodeN_ge1 _ _ _ _ _
theorem rune_head (b : UInt8) (t : List UInt8) (hv : ¬ ((Lib.decodeL (b :: t)).1 = 65533 ∧ (Lib.decodeL (b :: t)).2 = 1)) : (b.toNat < 128 ∧ Lib.decodeL (b :: t) = (b.toNat, 1)) ∨ (128 ≤ b.toNat ∧ 128 ≤ (Lib.decodeL (b :: t)).1) := by
  by_cases h : b.toNat < 128
  · exact .inl ⟨h, Lib.decodeL_ascii b t h⟩
  · refine .inr ⟨by omega, ?_⟩
    rw [Lib.decodeL_N] at hv ⊢
    simp only [List.getD, List.getElem?_cons_zero, Option.getD_some] at hv ⊢
    unfold Lib.decodeN at hv ⊢
    rw [if_neg h] at hv ⊢
    split
    · split
      · simp only; omega
      · simp
    · split
      · split
        · simp only; omega
        · simp
      · split
        · split
          · simp only; omega
          · simp
        · simp
end Pure

/- How values are written, as bytes. No program. -/
namespace Pure
open Esp Ev Go
set_option linter.unusedSimpArgs false
set_option linter.unusedVariables false
set_option linter.unusedSimpArgs false
set_option linter.unusedVariables false

def eb (b : UInt8) : List UInt8 := bif (b == 39) || (b == 92) then [92, b] else bif b == 10 then [92, 110] else [b]
def esc : List UInt8 → List UInt8
  | [] => []
  | b :: l => eb b ++ esc l
theorem esc_app (l m : List UInt8) : esc (l ++ m) = esc l ++ esc m := by
  induction l with
  | nil => rfl
  | cons b l ih => rw [List.cons_append, esc, esc, ih, List.append_assoc]
theorem eb_len (b : UInt8) : 1 ≤ (eb b).length ∧ (eb b).length ≤ 2 := by
  unfold eb
  cases (b == 39) || (b == 92)
  · cases b == 10 <;> simp
  · simp
theorem esc_len (l : List UInt8) : (esc l).length ≤ 2 * l.length := by
  induction l with
  | nil => simp [esc]
  | cons b l ih => have := eb_len b; rw [esc, List.length_append, List.length_cons]; omega
theorem ne_of_nat {b c : UInt8} (h : b.toNat ≠ c.toNat) : (b == c) = false := by
  rw [beq_eq_false_iff_ne]; rintro rfl; exact h rfl
theorem eb_high {b : UInt8} (h : 128 ≤ b.toNat) : eb b = [b] := by
  unfold eb
  rw [ne_of_nat (show b.toNat ≠ (39 : UInt8).toNat by show _ ≠ 39; omega), ne_of_nat (show b.toNat ≠ (92 : UInt8).toNat by show _ ≠ 92; omega), ne_of_nat (show b.toNat ≠ (10 : UInt8).toNat by show _ ≠ 10; omega)]
  rfl
theorem esc_high {l : List UInt8} (h : ∀ b ∈ l, 128 ≤ b.toNat) : esc l = l := by
  induction l with
  | nil => rfl
  | cons b l ih => rw [esc, eb_high (h b (by simp)), ih fun c hc => h c (by simp [hc])]; rfl
theorem rune_bytes (l : List UInt8) (hne : l ≠ []) (hv : ¬ ((Lib.decodeL l).1 = 65533 ∧ (Lib.decodeL l).2 = 1)) (h : 128 ≤ (Lib.decodeL l).1) : ∀ c ∈ l.take (Lib.decodeL l).2, 128 ≤ c.toNat := by
  have key : ∀ k, k < (Lib.decodeL l).2 → 128 ≤ (l.getD k 0).toNat := by
    rw [Lib.decodeL_N] at hv h ⊢
    unfold Lib.decodeN at hv h ⊢
    intro k hk
    by_cases g0 : (l.getD 0 0).toNat < 128
    · rw [if_pos g0] at h; simp only at h; omega
    rw [if_neg g0] at hv h hk
    split at hk
    · rename_i g; rw [if_pos g] at hv h
      split at hk
      · rename_i g2
        simp only at hk
        have : k = 0 ∨ k = 1 := by omega
        rcases this with rfl | rfl <;> omega
      · rename_i g2; rw [if_neg g2] at hv; exact absurd ⟨rfl, rfl⟩ hv
    · rename_i g; rw [if_neg g] at hv h
      split at hk
      · rename_i g; rw [if_pos g] at hv h
        split at hk
        · rename_i g2
          simp only at hk
          have : k = 0 ∨ k = 1 ∨ k = 2 := by omega
          rcases this with rfl | rfl | rfl <;> omega
        · rename_i g2; rw [if_neg g2] at hv; exact absurd ⟨rfl, rfl⟩ hv
      · rename_i g; rw [if_neg g] at hv h
        split at hk
        · rename_i g; rw [if_pos g] at hv h
          split at hk
          · rename_i g2
            simp only at hk
            have : k = 0 ∨ k = 1 ∨ k = 2 ∨ k = 3 := by omega
            rcases this with rfl | rfl | rfl | rfl <;> omega
          · rename_i g2; rw [if_neg g2] at hv; exact absurd ⟨rfl, rfl⟩ hv
        · rename_i g; rw [if_neg g] at hv; exact absurd ⟨rfl, rfl⟩ hv
  intro c hc
  obtain ⟨k, hk, rfl⟩ := List.getElem_of_mem hc
  rw [List.length_take] at hk
  have := key k (by omega)
  rw [List.getElem_take]
  rw [List.getD_eq_getElem?_getD, List.getElem?_eq_getElem (by omega)] at this
  exact this
theorem esc_rune (l : List UInt8) (hne : l ≠ []) (hv : ¬ ((Lib.decodeL l).1 = 65533 ∧ (Lib.decodeL l).2 = 1)) (h : 128 ≤ (Lib.decodeL l).1) : esc l = l.take (Lib.decodeL l).2 ++ esc (l.drop (Lib.decodeL l).2) := by
  conv => lhs; rw [← List.take_append_drop (Lib.decodeL l).2 l, esc_app, esc_high (rune_bytes l hne hv h)]
mutual
def prV : Val → List UInt8
  | .mk k n s l => bif k == 0 then [110, 117, 108, 108] else bif k == 1 then (bif n == 1 then [116, 114, 117, 101] else [102, 97, 108, 115, 101]) else bif k == 2 then Lib.itoa n else bif k == 3 then 39 :: (esc s.data.toList ++ [39]) else bif k == 4 then 91 :: (prL l ++ [93]) else []
def prL : List Val → List UInt8
  | [] => []
  | x :: r => prV x ++ prT r
def prT : List Val → List UInt8
  | [] => []
  | x :: r => 44 :: (prV x ++ prT r)
end
end Pure

/- Plain: what the document's printing does to a text's bytes. No program. -/
namespace Pure
def spB (b : UInt8) : Bool := b == 92 || b == 39 || b == 10
def escB (b : UInt8) : List UInt8 := if b = 92 then [92, 92] else if b = 39 then [92, 39] else if b = 10 then [92, 110] else [b]
def escL (l : List UInt8) : List UInt8 := l.flatMap escB
theorem escB_len (b : UInt8) : (escB b).length = if spB b then 2 else 1 := by
  unfold escB spB
  by_cases h1 : b = 92
  · simp [h1]
  · by_cases h2 : b = 39
    · simp [h2]
    · by_cases h3 : b = 10
      · simp [h3]
      · simp [h1, h2, h3]
theorem escL_len (l : List UInt8) : (escL l).length = l.length + l.countP spB := by
  induction l with
  | nil => rfl
  | cons a r ih =>
    show (escB a ++ escL r).length = _
    rw [List.length_append, ih, escB_len, List.countP_cons, List.length_cons]
    cases spB a <;> simp <;> omega
theorem escL_none (l : List UInt8) (h : l.countP spB = 0) : escL l = l := by
  induction l with
  | nil => rfl
  | cons a r ih =>
    rw [List.countP_cons] at h
    have h1 : spB a = false := by cases hs : spB a with
      | false => rfl
      | true => rw [hs] at h; simp at h
    have h2 : r.countP spB = 0 := by omega
    show escB a ++ escL r = _
    rw [ih h2]
    unfold spB at h1
    simp only [Bool.or_eq_false_iff, beq_eq_false_iff_ne] at h1
    unfold escB
    rw [if_neg h1.1.1, if_neg h1.1.2, if_neg h1.2]
    rfl
theorem count3 (l : List UInt8) : l.countP spB = l.count 10 + l.count 39 + l.count 92 := by
  induction l with
  | nil => rfl
  | cons a r ih =>
    rw [List.countP_cons, List.count_cons, List.count_cons, List.count_cons, ih]
    unfold spB
    by_cases h1 : a = 92
    · subst h1; simp; omega
    · by_cases h2 : a = 39
      · subst h2; simp; omega
      · by_cases h3 : a = 10
        · subst h3; simp; omega
        · simp [h1, h2, h3]
theorem escL_snoc (l : List UInt8) (b : UInt8) : escL (l ++ [b]) = escL l ++ escB b := by simp [escL]
end Pure

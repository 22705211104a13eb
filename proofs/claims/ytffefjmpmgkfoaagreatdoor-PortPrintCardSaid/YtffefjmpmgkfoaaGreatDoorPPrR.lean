/- Plain: what the document prints of a value. No program. -/
import Derived.Test.YtffefjmpmgkfoaaGreatDoorPE
import Derived.Test.YtffefjmpmgkfoaaGreatDoorPJn
namespace Pure
open Esp Ev Go
set_option linter.unusedSimpArgs false
set_option linter.unusedVariables false
theorem esc_escL (l : List UInt8) : esc l = escL l := by
  induction l with
  | nil => rfl
  | cons b r ih =>
    show eb b ++ esc r = escB b ++ escL r
    rw [ih]
    congr 1
    unfold eb escB
    by_cases h1 : b = 92
    · subst h1; rfl
    · by_cases h2 : b = 39
      · subst h2; rfl
      · by_cases h3 : b = 10
        · subst h3; rfl
        · rw [if_neg h1, if_neg h2, if_neg h3, show (b == 39) = false by simpa using h2, show (b == 92) = false by simpa using h1, show (b == 10) = false by simpa using h3]
          rfl
inductive OkP : Val → Int → Prop
  | null (n : Int) (s : ByteArray) (l : List Val) (d : Int) : OkP (.mk 0 n s l) d
  | truth (n : Int) (s : ByteArray) (l : List Val) (d : Int) : n = 0 ∨ n = 1 → OkP (.mk 1 n s l) d
  | int (n : Int) (s : ByteArray) (l : List Val) (d : Int) : -9223372036854775808 ≤ n → n ≤ 9223372036854775807 → OkP (.mk 2 n s l) d
  | text (n : Int) (s : ByteArray) (l : List Val) (d : Int) : s.size ≤ 4000 → OkP (.mk 3 n s l) d
  | list (n : Int) (s : ByteArray) (l : List Val) (d : Int) : l.length ≤ 30 → d ≤ 6 → (∀ x ∈ l, OkP x (d + 1)) → OkP (.mk 4 n s l) d
open Classical in
noncomputable def printOfN : Val × Unit → Option (ByteArray × Unit) := fun (v, _) => if OkP v 1 then some (⟨(prV v).toArray⟩, ()) else none
def capP (d : Int) : Nat := 8002 * 32 ^ (7 - d).toNat
theorem capP_le {d : Int} (h : 1 ≤ d) : 8002 ≤ capP d ∧ capP d ≤ 8600000000000 := by
  unfold capP
  have h1 : 1 ≤ 32 ^ (7 - d).toNat := Nat.pow_pos (by decide)
  have h2 : 32 ^ (7 - d).toNat ≤ 32 ^ 6 := Nat.pow_le_pow_right (by decide) (by omega)
  have h3 : 32 ^ 6 = 1073741824 := by decide
  omega
theorem capP_step {d : Int} (h : d ≤ 6) : capP d = 32 * capP (d + 1) := by
  unfold capP
  rw [show (7 - d).toNat = (7 - (d + 1)).toNat + 1 by omega, Nat.pow_succ]
  omega
theorem digits_le : ∀ (k u : Nat), u < 10 ^ (k + 1) → (Lib.decDigits u).length ≤ k + 1
  | k, u, h => by
    rw [Lib.decDigits]
    split
    · simp
    · rename_i g
      cases k with
      | zero => simp at h; omega
      | succ k =>
        have := digits_le k (u / 10) (by rw [Nat.pow_succ] at h; omega)
        rw [List.length_append, List.length_singleton]
        omega
theorem itoa_le (n : Int) (h0 : -9223372036854775808 ≤ n) (h1 : n ≤ 9223372036854775807) : (Lib.itoa n).length ≤ 8000 := by
  unfold Lib.itoa
  split
  · have := digits_le 20 n.natAbs (by omega)
    rw [List.length_cons]
    omega
  · have := digits_le 20 n.toNat (by omega)
    omega
def baP (x : Val) : ByteArray := ⟨(prV x).toArray⟩
theorem jT_prT (l : List Val) : Hi.jT [44] (l.map baP) = prT l := by
  induction l with
  | nil => rfl
  | cons x r ih => rw [List.map_cons, Hi.jT, ih, prT]; rfl
theorem jL_prL (l : List Val) : Hi.jL [44] (l.map baP) = prL l := by
  cases l with
  | nil => rfl
  | cons x r => rw [List.map_cons, Hi.jL, jT_prT, prL]; rfl
theorem prT_le {C : Nat} {l : List Val} (h : ∀ x ∈ l, (prV x).length ≤ C) : (prT l).length ≤ l.length * (C + 1) := by
  induction l with
  | nil => simp [prT]
  | cons x r ih =>
    have h1 := h x (by simp)
    have h2 := ih fun y hy => h y (by simp [hy])
    rw [prT, List.length_cons, List.length_append, List.length_cons, Nat.add_mul]
    omega
theorem prL_le {C : Nat} {l : List Val} (h : ∀ x ∈ l, (prV x).length ≤ C) : (prL l).length ≤ l.length * (C + 1) := by
  cases l with
  | nil => simp [prL]
  | cons x r =>
    have h1 := h x (by simp)
    have h2 := prT_le (l := r) fun y hy => h y (by simp [hy])
    rw [prL, List.length_append, List.length_cons, Nat.add_mul]
    omega
theorem prV_le {v : Val} {d : Int} (h : OkP v d) : 1 ≤ d → (prV v).length ≤ capP d := by
  induction h with
  | null n s l d => intro h1; have := capP_le h1; rw [prV]; simp; omega
  | truth n s l d h => intro h1; have := capP_le h1; rw [prV]; rcases h with rfl | rfl <;> (simp; omega)
  | int n s l d h0 h2 =>
    intro h1
    have := capP_le h1
    have := itoa_le n h0 h2
    rw [prV]
    show (Lib.itoa n).length ≤ _
    omega
  | text n s l d h =>
    intro h1
    have := capP_le h1
    rw [prV]
    show (39 :: (esc s.data.toList ++ [39])).length ≤ _
    have := esc_len s.data.toList
    have h2 : s.data.toList.length = s.size := rfl
    rw [List.length_cons, List.length_append, List.length_singleton]
    omega
  | list n s l d h30 h6 h ih =>
    intro h1
    rw [prV]
    show (91 :: (prL l ++ [93])).length ≤ _
    have h2 := prL_le (C := capP (d + 1)) fun x hx => ih x hx (by omega)
    have h3 := capP_step h6
    have h4 := capP_le (d := d + 1) (by omega)
    have h5 : l.length * (capP (d + 1) + 1) ≤ 30 * (capP (d + 1) + 1) := Nat.mul_le_mul_right _ h30
    rw [List.length_cons, List.length_append, List.length_singleton]
    omega
end Pure

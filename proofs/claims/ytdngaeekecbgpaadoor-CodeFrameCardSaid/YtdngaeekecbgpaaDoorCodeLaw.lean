/- Bytes of whole numbers stand to each other as the numbers do: no program. -/
import Derived.Test.YtdngaeekecbgpaaDoorCodeDefs
namespace Go.Proofs.YtdngaeekecbgpaaDoor
open Go Esp
set_option linter.unusedSimpArgs false
set_option linter.unusedVariables false

theorem xor_top (x : Nat) (h : x < 2 ^ 63) : x ^^^ 2 ^ 63 = 2 ^ 63 + x := by
  apply Nat.eq_of_testBit_eq
  intro i
  rw [Nat.testBit_xor, Nat.testBit_two_pow]
  by_cases h1 : i = 63
  · subst h1
    rw [Nat.testBit_two_pow_add_eq, Nat.testBit_lt_two_pow h]
    rfl
  · by_cases h2 : i < 63
    · rw [Nat.testBit_two_pow_add_gt h2]
      simp [Ne.symm h1]
    · have h3 : 2 ^ 64 ≤ 2 ^ i := Nat.pow_le_pow_right (by decide) (by omega)
      rw [Nat.testBit_lt_two_pow (show x < 2 ^ i by omega), Nat.testBit_lt_two_pow (show 2 ^ 63 + x < 2 ^ i by omega)]
      simp [Ne.symm h1]
theorem xor_top2 (x : Nat) (h : x < 2 ^ 63) : (2 ^ 63 + x) ^^^ 2 ^ 63 = x := by
  rw [← xor_top x h, Nat.xor_assoc, Nat.xor_self, Nat.xor_zero]

theorem top_flip (n : Int) (h0 : -9223372036854775808 ≤ n) (h1 : n ≤ 9223372036854775807) : bxor .u64 (IntKind.wrap .u64 n) 9223372036854775808 = n + 9223372036854775808 := by
  have e1 : (BitVec.ofInt 64 9223372036854775808).toNat = 2 ^ 63 := by decide
  have key : ∀ x : Nat, (BitVec.ofInt 64 (IntKind.wrap .u64 n)).toNat = x → x < 2 ^ 64 → (n = x ∨ n = (x : Int) - 2 ^ 64) → (x < 2 ^ 63 → n = x) → (2 ^ 63 ≤ x → n = (x : Int) - 2 ^ 64) → bxor .u64 (IntKind.wrap .u64 n) 9223372036854775808 = n + 9223372036854775808 := by
    intro x hx hlt _ ha hb
    unfold bxor
    show IntKind.wrap .u64 (((BitVec.ofInt 64 (IntKind.wrap .u64 n) ^^^ BitVec.ofInt 64 9223372036854775808 : BitVec 64)).toNat : Int) = _
    rw [BitVec.toNat_xor, hx, e1]
    by_cases hc : x < 2 ^ 63
    · rw [xor_top x hc, ha hc]
      simp only [IntKind.wrap, IntKind.bits, IntKind.signed]
      simp
      omega
    · obtain ⟨y, rfl⟩ : ∃ y, x = 2 ^ 63 + y := ⟨x - 2 ^ 63, by omega⟩
      rw [xor_top2 y (by omega), hb (by omega)]
      simp only [IntKind.wrap, IntKind.bits, IntKind.signed]
      simp
      omega
  have hw : IntKind.wrap .u64 n = n % 18446744073709551616 := by
    simp only [IntKind.wrap, IntKind.bits, IntKind.signed]
    simp
  have hx : (BitVec.ofInt 64 (IntKind.wrap .u64 n)).toNat = (n % 18446744073709551616).toNat := by
    rw [hw, BitVec.toNat_ofInt]
    congr 1
    omega
  refine key _ hx (by omega) ?_ ?_ ?_ <;> omega

theorem byteAt_nat (x s : Nat) (hs : s ≤ 7) : (byteAt (x : Int) (8 * (s : Int))).toNat = x / 256 ^ s % 256 := by
  have h := byteAt_eq (x : Int) (8 * (s : Int))
  have e1 : bshr .u64 (x : Int) (8 * (s : Int)) = ((x / 256 ^ s : Nat) : Int) := by
    unfold bshr
    have e2 : min (8 * (s : Int)).toNat IntKind.u64.bits = 8 * s := by
      simp only [IntKind.bits]
      omega
    rw [e2, Int.fdiv_eq_ediv_of_nonneg _ (by exact Int.pow_nonneg (by omega))]
    have e3 : ((2 : Int) ^ (8 * s)) = ((256 ^ s : Nat) : Int) := by
      rw [show 8 * s = 8 * s from rfl, Int.pow_mul]
      simp
    rw [e3]
    norm_cast
  rw [e1] at h
  have hw : IntKind.wrap .u8 ((x / 256 ^ s : Nat) : Int) = ((x / 256 ^ s : Nat) : Int) % 256 := by
    simp only [IntKind.wrap, IntKind.bits, IntKind.signed]
    simp
  rw [hw] at h
  omega

theorem bytes_order (x y : Nat) : ∀ s, s ≤ 8 → Op.bytesLess (numB (x : Int) s) (numB (y : Int) s) = decide (x % 256 ^ s < y % 256 ^ s) ∧ ((numB (x : Int) s == numB (y : Int) s) = decide (x % 256 ^ s = y % 256 ^ s))
  | 0, _ => by simp [numB, Op.bytesLess, Nat.mod_one]
  | s + 1, hs => by
    obtain ⟨ih1, ih2⟩ := bytes_order x y s (by omega)
    have hx := byteAt_nat x s (by omega)
    have hy := byteAt_nat y s (by omega)
    simp only [numB, Op.bytesLess]
    rw [ih1, Nat.mod_pow_succ, Nat.mod_pow_succ]
    have hp : 0 < 256 ^ s := Nat.pow_pos (by decide)
    have hr := Nat.mod_lt x hp
    have ht := Nat.mod_lt y hp
    generalize x % 256 ^ s = r at *
    generalize y % 256 ^ s = t at *
    have ha := hx
    have hb := hy
    generalize x / 256 ^ s % 256 = A at *
    generalize y / 256 ^ s % 256 = B at *
    generalize byteAt (x : Int) (8 * (s : Int)) = a at *
    generalize byteAt (y : Int) (8 * (s : Int)) = b at *
    generalize 256 ^ s = p at *
    have hlt : (a < b) ↔ A < B := by rw [UInt8.lt_iff_toNat_lt, hx, hy]
    have heq : (a = b) ↔ A = B := by rw [← UInt8.toNat_inj, hx, hy]
    have e5 : (a :: numB (x : Int) s == b :: numB (y : Int) s) = ((a == b) && (numB (x : Int) s == numB (y : Int) s)) := rfl
    rw [e5, ih2]
    rcases Nat.lt_trichotomy A B with h | h | h
    · have h1 : p * (A + 1) ≤ p * B := Nat.mul_le_mul_left p h
      rw [Nat.mul_succ] at h1
      have h2 : a ≠ b := fun e => by have := heq.1 e; omega
      have h3 : r + p * A < t + p * B := by omega
      have h4 : ¬ r + p * A = t + p * B := by omega
      simp [hlt.2 h, h2, h3, h4]
    · have h2 : a = b := heq.2 h
      have h3 : ¬ a < b := fun e => by have := hlt.1 e; omega
      subst h
      have h5 : (r + p * A < t + p * A) ↔ r < t := by omega
      have h6 : (r + p * A = t + p * A) ↔ r = t := by omega
      simp [h2, h5, h6]
    · have h1 : p * (B + 1) ≤ p * A := Nat.mul_le_mul_left p h
      rw [Nat.mul_succ] at h1
      have h2 : a ≠ b := fun e => by have := heq.1 e; omega
      have h7 : ¬ a < b := fun e => by have := hlt.1 e; omega
      have h3 : ¬ r + p * A < t + p * B := by omega
      have h4 : ¬ r + p * A = t + p * B := by omega
      simp [h7, h2, h3, h4]

theorem ints_law (a b : Int) (ha1 : -9223372036854775808 ≤ a) (ha2 : a ≤ 9223372036854775807) (hb1 : -9223372036854775808 ≤ b) (hb2 : b ≤ 9223372036854775807) :
    (((decide ((a : Int) < b)) == (sless (intStr a) (intStr b))) && (((a : Int) == b) == (seq (intStr a) (intStr b)))) = true := by
  obtain ⟨x, hx⟩ : ∃ x : Nat, a + 9223372036854775808 = (x : Int) := ⟨(a + 9223372036854775808).toNat, by omega⟩
  obtain ⟨y, hy⟩ : ∃ y : Nat, b + 9223372036854775808 = (y : Int) := ⟨(b + 9223372036854775808).toNat, by omega⟩
  obtain ⟨h1, h2⟩ := bytes_order x y 8 (by omega)
  have e : ∀ (l : List UInt8), (⟨l.toArray⟩ : ByteArray).toList = l := fun l => by simp [ByteArray.toList_eq]
  unfold sless seq intStr
  rw [e, e]
  unfold putI
  rw [top_flip a ha1 ha2, top_flip b hb1 hb2, hx, hy]
  have e5 : ((2 : UInt8) :: numB (x : Int) 8 == 2 :: numB (y : Int) 8) = (numB (x : Int) 8 == numB (y : Int) 8) := by
    show ((2 : UInt8) == 2 && (numB (x : Int) 8 == numB (y : Int) 8)) = _
    simp
  rw [e5, h2]
  simp only [Op.bytesLess, h1]
  have m1 : x % 256 ^ 8 = x := Nat.mod_eq_of_lt (by omega)
  have m2 : y % 256 ^ 8 = y := Nat.mod_eq_of_lt (by omega)
  rw [m1, m2]
  have h3 : (a < b) ↔ x < y := by omega
  have h4 : (a = b) ↔ x = y := by omega
  simp [h3, h4]
  by_cases h5 : x = y <;> simp [h5, h4]
end Go.Proofs.YtdngaeekecbgpaaDoor

/- Numbers and their bytes; no program. -/
import Derived.Test.YtcdfapbfocdhjaaDoorPBase
namespace Pure
open Esp Ev Go
set_option linter.unusedSimpArgs false
set_option linter.unusedVariables false
set_option linter.unusedSimpArgs false
set_option linter.unusedVariables false

theorem wrap64 {x : Int} (h0 : -9223372036854775808 ≤ x) (h1 : x ≤ 9223372036854775807) : IntKind.wrap .i64 x = x := by
  simp only [IntKind.wrap, IntKind.bits, IntKind.signed]
  simp
  omega
theorem wrapU64 {x : Int} (h0 : 0 ≤ x) (h1 : x ≤ 18446744073709551615) : IntKind.wrap .u64 x = x := by
  simp only [IntKind.wrap, IntKind.bits, IntKind.signed]
  simp
  omega
theorem wrapU8 {x : Int} (h0 : 0 ≤ x) (h1 : x ≤ 255) : IntKind.wrap .u8 x = x := by
  simp only [IntKind.wrap, IntKind.bits, IntKind.signed]
  simp
  omega
theorem ix_ok {α : Type} {l : List α} {i : Nat} {x : α} (h : l[i]? = some x) : ix l (i : Int) = some x := by
  unfold ix
  rw [if_pos (by omega)]
  exact h
def bi (l : List UInt8) : List Int := l.map fun c => (c.toNat : Int)
theorem bytesI_eq (s : ByteArray) : bytesI s = bi s.data.toList := rfl
theorem bi_app (l m : List UInt8) : bi (l ++ m) = bi l ++ bi m := by simp [bi]
theorem bi_length (l : List UInt8) : (bi l).length = l.length := by simp [bi]
theorem bi_nil : bi [] = [] := rfl
theorem bi_cons (c : UInt8) (l : List UInt8) : bi (c :: l) = (c.toNat : Int) :: bi l := rfl

theorem okBytes_bi (l : List UInt8) : okBytes (bi l) = true := by
  induction l with
  | nil => rfl
  | cons c r ih =>
    have := c.toNat_lt
    rw [bi_cons, okBytes, ih, Bool.and_true, decide_eq_true_eq]
    omega
theorem strI_bi (l : List UInt8) : strI (bi l) = ⟨l.toArray⟩ := by
  unfold strI
  have : (bi l).map (fun n => UInt8.ofNat n.toNat) = l := by
    induction l with
    | nil => rfl
    | cons c r ih => rw [bi_cons, List.map_cons, ih]; simp
  rw [this]
theorem str_ok (l : List UInt8) : str? (bi l) = some ⟨l.toArray⟩ := by
  unfold str?
  rw [if_pos (okBytes_bi l), strI_bi]
theorem room1 {n : Nat} (h : n ≤ 140737488355328) : room n 1 = true := by
  unfold room
  rw [Bool.and_eq_true]
  exact ⟨Nat.ble_eq_true_of_le (by omega), Nat.ble_eq_true_of_le (by omega)⟩
theorem ck_ok {ρ : Type} {b : Bool} {k : Option ρ} (h : b = true) : ck b k = k := by subst h; rfl

def byteAt (n : Int) (k : Int) : UInt8 := UInt8.ofNat (IntKind.wrap .u8 (bshr .u64 n k)).toNat
def numB (n : Int) : Nat → List UInt8
  | 0 => []
  | s + 1 => byteAt n (8 * (s : Int)) :: numB n s
theorem wrap_u8_range (e : Int) : 0 ≤ IntKind.wrap .u8 e ∧ IntKind.wrap .u8 e < 256 := by
  simp only [IntKind.wrap, IntKind.bits, IntKind.signed]
  constructor <;> simp <;> omega
theorem byteAt_eq (n k : Int) : IntKind.wrap .u8 (bshr .u64 n k) = ((byteAt n k).toNat : Int) := by
  have h := wrap_u8_range (bshr .u64 n k)
  unfold byteAt
  rw [UInt8.toNat_ofNat_of_lt' (by show _ < 256; omega)]
  omega
theorem numB_length (n : Int) (s : Nat) : (numB n s).length = s := by
  induction s with
  | zero => rfl
  | succ s ih => simp [numB, ih]
theorem xor_top (x : Nat) (h : x < 2 ^ 63) : x ^^^ 2 ^ 63 = 2 ^ 63 + x := by
  apply Nat.eq_of_testBit_eq
  intro i
  rw [Nat.testBit_xor, Nat.testBit_two_pow]
  by_cases h1 : i = 63
  · subst h1
    rw [Nat.testBit_two_pow_add_eq, Nat.testBit_lt_two_pow h]
    rfl
  · by_cases h2 : i < 63
    · rw [Nat.testBit_two_pow_add_gt h2]
      simp [Ne.symm h1]
    · have h3 : 2 ^ 64 ≤ 2 ^ i := Nat.pow_le_pow_right (by decide) (by omega)
      rw [Nat.testBit_lt_two_pow (show x < 2 ^ i by omega), Nat.testBit_lt_two_pow (show 2 ^ 63 + x < 2 ^ i by omega)]
      simp [Ne.symm h1]
theorem xor_top2 (x : Nat) (h : x < 2 ^ 63) : (2 ^ 63 + x) ^^^ 2 ^ 63 = x := by
  rw [← xor_top x h, Nat.xor_assoc, Nat.xor_self, Nat.xor_zero]
theorem flip_nat (x : Nat) (hx : x < 2 ^ 64) : bxor .u64 (x : Int) 9223372036854775808 = if x < 2 ^ 63 then (x : Int) + 9223372036854775808 else (x : Int) - 9223372036854775808 := by
  have e1 : (BitVec.ofInt 64 9223372036854775808).toNat = 2 ^ 63 := by decide
  have e2 : (BitVec.ofInt 64 (x : Int)).toNat = x := by
    rw [BitVec.ofInt_natCast, BitVec.toNat_ofNat, Nat.mod_eq_of_lt hx]
  unfold bxor
  show IntKind.wrap .u64 (((BitVec.ofInt 64 (x : Int) ^^^ BitVec.ofInt 64 9223372036854775808 : BitVec 64)).toNat : Int) = _
  rw [BitVec.toNat_xor, e2, e1]
  by_cases hc : x < 2 ^ 63
  · rw [xor_top x hc, if_pos hc, wrapU64 (by omega) (by omega)]
    omega
  · obtain ⟨y, rfl⟩ : ∃ y, x = 2 ^ 63 + y := ⟨x - 2 ^ 63, by omega⟩
    rw [xor_top2 y (by omega), if_neg hc, wrapU64 (by omega) (by omega)]
    omega
theorem wrapU64_neg {n : Int} (h0 : -9223372036854775808 ≤ n) (h1 : n < 0) : IntKind.wrap .u64 n = n + 18446744073709551616 := by
  simp only [IntKind.wrap, IntKind.bits, IntKind.signed]
  simp
  omega
theorem top_flip (n : Int) (h0 : -9223372036854775808 ≤ n) (h1 : n ≤ 9223372036854775807) : bxor .u64 (IntKind.wrap .u64 n) 9223372036854775808 = n + 9223372036854775808 := by
  by_cases hn : 0 ≤ n
  · obtain ⟨x, rfl⟩ : ∃ x : Nat, n = x := ⟨n.toNat, by omega⟩
    rw [wrapU64 (by omega) (by omega), flip_nat x (by omega), if_pos (by omega)]
  · rw [wrapU64_neg h0 (by omega)]
    obtain ⟨x, hx⟩ : ∃ x : Nat, n + 18446744073709551616 = x := ⟨(n + 18446744073709551616).toNat, by omega⟩
    rw [hx, flip_nat x (by omega), if_neg (by omega)]
    omega
theorem byteAt_nat (x s : Nat) (hs : s ≤ 7) : (byteAt (x : Int) (8 * (s : Int))).toNat = x / 256 ^ s % 256 := by
  have h := byteAt_eq (x : Int) (8 * (s : Int))
  have e1 : bshr .u64 (x : Int) (8 * (s : Int)) = ((x / 256 ^ s : Nat) : Int) := by
    unfold bshr
    have e2 : min (8 * (s : Int)).toNat IntKind.u64.bits = 8 * s := by
      simp only [IntKind.bits]
      omega
    rw [e2, Int.fdiv_eq_ediv_of_nonneg _ (by exact Int.pow_nonneg (by omega))]
    have e3 : ((2 : Int) ^ (8 * s)) = ((256 ^ s : Nat) : Int) := by
      rw [show 8 * s = 8 * s from rfl, Int.pow_mul]
      simp
    rw [e3]
    norm_cast
  rw [e1] at h
  have hw : IntKind.wrap .u8 ((x / 256 ^ s : Nat) : Int) = ((x / 256 ^ s : Nat) : Int) % 256 := by
    simp only [IntKind.wrap, IntKind.bits, IntKind.signed]
    simp
  rw [hw] at h
  omega
end Pure

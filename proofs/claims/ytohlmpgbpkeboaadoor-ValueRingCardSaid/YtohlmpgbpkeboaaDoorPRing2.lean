/- Values: whole numbers are reckoned with as numbers. No program. -/
import Derived.Test.YtohlmpgbpkeboaaDoorPS
import Derived.Shelf.Bits.Mul64
namespace Pure
open Esp Ev Go
set_option linter.unusedSimpArgs false
set_option linter.unusedVariables false
set_option linter.unusedSimpArgs false
set_option linter.unusedVariables false

/-- a number of 64 bits, or none: it is too great -/
def inR (x : Int) : Bool := decide (-9223372036854775808 ≤ x) && decide (x ≤ 9223372036854775807)
theorem wrapI (x : Int) : IntKind.i64.wrap x = (x + 9223372036854775808) % 18446744073709551616 - 9223372036854775808 := by rw [IntKind.wrap_i64]
theorem add_ok (a b : Int) (ha : inR a = true) (hb : inR b = true) : value_add (a, b, ()) = some (IntKind.wrap .i64 (a + b), inR (a + b), ()) := by
  unfold value_add inR at *
  dsimp only
  rw [wrapI]
  simp only [Bool.and_eq_true, decide_eq_true_eq] at ha hb
  have : (decide ((a + b + 9223372036854775808) % 18446744073709551616 - 9223372036854775808 > a) == decide (b > 0)) = (decide (-9223372036854775808 ≤ a + b) && decide (a + b ≤ 9223372036854775807)) := by
    rw [Bool.eq_iff_iff]
    simp only [beq_iff_eq, Bool.and_eq_true, decide_eq_true_eq, decide_eq_decide]
    omega
  rw [this]
theorem sub_ok (a b : Int) (ha : inR a = true) (hb : inR b = true) : value_sub (a, b, ()) = some (IntKind.wrap .i64 (a - b), inR (a - b), ()) := by
  unfold value_sub inR at *
  dsimp only
  rw [wrapI]
  simp only [Bool.and_eq_true, decide_eq_true_eq] at ha hb
  have : (decide ((a - b + 9223372036854775808) % 18446744073709551616 - 9223372036854775808 < a) == decide (b > 0)) = (decide (-9223372036854775808 ≤ a - b) && decide (a - b ≤ 9223372036854775807)) := by
    rw [Bool.eq_iff_iff]
    simp only [beq_iff_eq, Bool.and_eq_true, decide_eq_true_eq, decide_eq_decide]
    omega
  rw [this]
theorem shrN (a : Nat) : bshr .u64 (a : Int) 32 = ((a / 4294967296 : Nat) : Int) := by
  unfold bshr
  rw [show (2 : Int) ^ (min (32 : Int).toNat IntKind.u64.bits) = 4294967296 from rfl, Int.fdiv_eq_ediv_of_nonneg _ (by omega)]
  omega
theorem maskN' (a : Nat) (ha : a < 18446744073709551616) : band .u64 (a : Int) 4294967295 = ((a % 4294967296 : Nat) : Int) := Go.Proofs.Mul64.maskN a ha
theorem mul64_ok (x y : Nat) (hx : x < 18446744073709551616) (hy : y < 18446744073709551616) : math_bits_Mul64 (x, y, ()) = some (((x * y / 18446744073709551616 : Nat) : Int), ((x * y % 18446744073709551616 : Nat) : Int), ()) := by
  obtain ⟨bd, bt, bw, hhi⟩ := Lib.mul64_hi x y hx hy
  have ba := Lib.half_mul_le (a := x / 4294967296) (b := y / 4294967296) (by omega) (by omega)
  have bb := Lib.half_mul_le (a := x / 4294967296) (b := y % 4294967296) (by omega) (by omega)
  have bc := Lib.half_mul_le (a := x % 4294967296) (b := y / 4294967296) (by omega) (by omega)
  have ba' : x / 4294967296 * (y / 4294967296) < 18446744073709551616 := by omega
  have bb' : x / 4294967296 * (y % 4294967296) < 18446744073709551616 := by omega
  have bc' : x % 4294967296 * (y / 4294967296) < 18446744073709551616 := by omega
  have bh1 : x / 4294967296 * (y / 4294967296) + (x / 4294967296 * (y % 4294967296) + x % 4294967296 * (y % 4294967296) / 4294967296) / 4294967296 < 18446744073709551616 := by omega
  have bh : x / 4294967296 * (y / 4294967296) + (x / 4294967296 * (y % 4294967296) + x % 4294967296 * (y % 4294967296) / 4294967296) / 4294967296 + ((x / 4294967296 * (y % 4294967296) + x % 4294967296 * (y % 4294967296) / 4294967296) % 4294967296 + x % 4294967296 * (y / 4294967296)) / 4294967296 < 18446744073709551616 := by omega
  unfold math_bits_Mul64
  dsimp only
  simp only [maskN' x hx, maskN' y hy, shrN, Go.Proofs.Mul64.mulN, Go.Proofs.Mul64.addN, Go.Proofs.Mul64.wrapN _ bd, Go.Proofs.Mul64.wrapN _ bb', Go.Proofs.Mul64.wrapN _ bt, maskN' _ bt, Go.Proofs.Mul64.wrapN _ bc', Go.Proofs.Mul64.wrapN _ bw, Go.Proofs.Mul64.wrapN _ ba', Go.Proofs.Mul64.wrapN _ bh1, Go.Proofs.Mul64.wrapN _ bh, Go.Proofs.Mul64.wrapM (x * y)]
  rw [hhi]
theorem size_ok (a : Int) (ha : inR a = true) : value_mul_1 (a, ()) = some ((a.natAbs : Int), ()) := by
  unfold value_mul_1 inR at *
  simp only [Bool.and_eq_true, decide_eq_true_eq] at ha
  dsimp only
  simp only [IntKind.wrap_u64]
  by_cases h : a < 0
  · rw [decide_eq_true h, cond_true]
    congr 2; omega
  · rw [decide_eq_false h, cond_false]
    congr 2; omega
theorem mul_ok (a b : Int) (ha : inR a = true) (hb : inR b = true) : ∃ z, value_mul (a, b, ()) = some (z, inR (a * b), ()) ∧ (inR (a * b) = true → z = a * b) := by
  have h1 := size_ok a ha
  have h2 := size_ok b hb
  have h3 := mul64_ok a.natAbs b.natAbs (by unfold inR at ha; simp only [Bool.and_eq_true, decide_eq_true_eq] at ha; omega) (by unfold inR at hb; simp only [Bool.and_eq_true, decide_eq_true_eq] at hb; omega)
  have hab : (a * b).natAbs = a.natAbs * b.natAbs := Int.natAbs_mul a b
  have hsg : (a < 0 ↔ b < 0) → 0 ≤ a * b := fun h => by
    rcases (show a < 0 ∨ 0 ≤ a by omega) with h1 | h1
    · exact Int.mul_nonneg_of_nonpos_of_nonpos (by omega) (by have := h.1 h1; omega)
    · exact Int.mul_nonneg h1 (by rcases (show b < 0 ∨ 0 ≤ b by omega) with h2 | h2
                                  · have := h.2 h2; omega
                                  · exact h2)
  have hsn : ¬ (a < 0 ↔ b < 0) → a * b ≤ 0 := fun h => by
    rcases (show a < 0 ∨ 0 ≤ a by omega) with h1 | h1
    · exact Int.mul_nonpos_of_nonpos_of_nonneg (by omega) (by rcases (show b < 0 ∨ 0 ≤ b by omega) with h2 | h2
                                                              · exact absurd ⟨fun _ => h2, fun _ => h1⟩ h
                                                              · exact h2)
    · exact Int.mul_nonpos_of_nonneg_of_nonpos h1 (by rcases (show b < 0 ∨ 0 ≤ b by omega) with h2 | h2
                                                      · omega
                                                      · exact absurd ⟨fun h => by omega, fun h => by omega⟩ h)
  unfold value_mul
  dsimp only
  rw [h1, h2, Option.bind_some, Option.bind_some]
  dsimp only
  rw [h3, Option.bind_some]
  dsimp only
  rw [← hab]
  generalize a * b = m at *
  have hneg : (decide (a < 0) == decide (b < 0)) = decide (a < 0 ↔ b < 0) := by
    by_cases h4 : a < 0 <;> by_cases h5 : b < 0 <;> simp [h4, h5]
  rw [hneg]
  by_cases hs : (a < 0 ↔ b < 0)
  · have hm := hsg hs
    rw [decide_eq_true hs]
    simp only [Bool.not_true, Bool.not_false, Bool.and_true, cond_false]
    by_cases hin : m ≤ 9223372036854775807
    · have e1 : inR m = true := by unfold inR; simp only [Bool.and_eq_true, decide_eq_true_eq]; omega
      have e2 : ((((m.natAbs / 18446744073709551616 : Nat) : Int) != 0) || decide (((m.natAbs % 18446744073709551616 : Nat) : Int) > 9223372036854775808) || (((m.natAbs % 18446744073709551616 : Nat) : Int) == 9223372036854775808)) = false := by
        simp only [Bool.or_eq_false_iff, bne_eq_false_iff_eq, decide_eq_false_iff_not, beq_eq_false_iff_ne]
        omega
      rw [e2, cond_false, e1]
      refine ⟨_, rfl, fun _ => ?_⟩
      rw [wrap64 (by omega) (by omega)]
      omega
    · have e1 : inR m = false := by unfold inR; simp only [Bool.and_eq_false_iff, decide_eq_false_iff_not]; omega
      have e2 : ((((m.natAbs / 18446744073709551616 : Nat) : Int) != 0) || decide (((m.natAbs % 18446744073709551616 : Nat) : Int) > 9223372036854775808) || (((m.natAbs % 18446744073709551616 : Nat) : Int) == 9223372036854775808)) = true := by
        simp only [Bool.or_eq_true, bne_iff_ne, decide_eq_true_eq, beq_iff_eq]
        omega
      rw [e2, cond_true, e1]
      exact ⟨_, rfl, fun h => by cases h⟩
  · have hm := hsn hs
    rw [decide_eq_false hs]
    simp only [Bool.not_true, Bool.not_false, Bool.and_false, Bool.or_false, cond_true]
    by_cases hin : -9223372036854775808 ≤ m
    · have e1 : inR m = true := by unfold inR; simp only [Bool.and_eq_true, decide_eq_true_eq]; omega
      have e2 : ((((m.natAbs / 18446744073709551616 : Nat) : Int) != 0) || decide (((m.natAbs % 18446744073709551616 : Nat) : Int) > 9223372036854775808)) = false := by
        simp only [Bool.or_eq_false_iff, bne_eq_false_iff_eq, decide_eq_false_iff_not]
        omega
      rw [e2, cond_false, e1]
      refine ⟨_, rfl, fun _ => ?_⟩
      rw [wrapI, IntKind.wrap_u64]
      omega
    · have e1 : inR m = false := by unfold inR; simp only [Bool.and_eq_false_iff, decide_eq_false_iff_not]; omega
      have e2 : ((((m.natAbs / 18446744073709551616 : Nat) : Int) != 0) || decide (((m.natAbs % 18446744073709551616 : Nat) : Int) > 9223372036854775808)) = true := by
        simp only [Bool.or_eq_true, bne_iff_ne, decide_eq_true_eq]
        omega
      rw [e2, cond_true, e1]
      exact ⟨_, rfl, fun h => by cases h⟩
def nV (x : Int) : Val := .mk 2 x ⟨#[]⟩ []
def zV : Val := .mk 0 0 ⟨#[]⟩ []
theorem seq_pm : seq (⟨#[43]⟩ : ByteArray) (⟨#[43]⟩ : ByteArray) = true := seq_refl _
theorem sum_ok (a b : Int) (ha : inR a = true) (hb : inR b = true) (n : Nat) : value_Reckon n (⟨#[43]⟩, nV a, nV b, ()) = some (bif inR (a + b) then nV (a + b) else zV, bif inR (a + b) then 0 else 4, ()) := by
  unfold value_Reckon
  dsimp only
  have h := add_ok a b ha hb
  rw [seq_pm, cond_true]
  unfold nV
  dsimp +instances only [kind_mk, n_mk]
  rw [h, Option.bind_some]
  dsimp only
  cases hi : inR (a + b)
  · rfl
  · have : IntKind.wrap .i64 (a + b) = a + b := by unfold inR at hi; simp only [Bool.and_eq_true, decide_eq_true_eq] at hi; exact wrap64 hi.1 hi.2
    rw [this]; rfl
theorem dif_ok (a b : Int) (ha : inR a = true) (hb : inR b = true) (n : Nat) : value_Reckon n (⟨#[45]⟩, nV a, nV b, ()) = some (bif inR (a - b) then nV (a - b) else zV, bif inR (a - b) then 0 else 4, ()) := by
  unfold value_Reckon
  dsimp only
  have h := sub_ok a b ha hb
  rw [show seq (⟨#[45]⟩ : ByteArray) (⟨#[43]⟩ : ByteArray) = false by decide +kernel, show seq (⟨#[45]⟩ : ByteArray) (⟨#[45]⟩ : ByteArray) = true from seq_refl _, cond_true, cond_false]
  unfold nV
  dsimp +instances only [kind_mk, n_mk]
  rw [h, Option.bind_some]
  dsimp only
  cases hi : inR (a - b)
  · rfl
  · have : IntKind.wrap .i64 (a - b) = a - b := by unfold inR at hi; simp only [Bool.and_eq_true, decide_eq_true_eq] at hi; exact wrap64 hi.1 hi.2
    rw [this]; rfl
theorem prd_ok (a b : Int) (ha : inR a = true) (hb : inR b = true) (n : Nat) : value_Reckon n (⟨#[42]⟩, nV a, nV b, ()) = some (bif inR (a * b) then nV (a * b) else zV, bif inR (a * b) then 0 else 4, ()) := by
  unfold value_Reckon
  dsimp only
  obtain ⟨z, h, hz⟩ := mul_ok a b ha hb
  rw [show seq (⟨#[42]⟩ : ByteArray) (⟨#[43]⟩ : ByteArray) = false by decide +kernel, show seq (⟨#[42]⟩ : ByteArray) (⟨#[45]⟩ : ByteArray) = false by decide +kernel, show seq (⟨#[42]⟩ : ByteArray) (⟨#[42]⟩ : ByteArray) = true from seq_refl _, cond_true, cond_false, cond_false]
  unfold nV
  dsimp +instances only [kind_mk, n_mk]
  rw [h, Option.bind_some]
  dsimp only
  cases hi : inR (a * b)
  · rfl
  · rw [hz hi]; rfl
theorem nul_ok (w : Val) (n : Nat) : value_Reckon n (⟨#[42]⟩, zV, w, ()) = some (zV, 0, ()) := by
  unfold value_Reckon
  dsimp only
  rw [show seq (⟨#[42]⟩ : ByteArray) (⟨#[43]⟩ : ByteArray) = false by decide +kernel, show seq (⟨#[42]⟩ : ByteArray) (⟨#[45]⟩ : ByteArray) = false by decide +kernel, show seq (⟨#[42]⟩ : ByteArray) (⟨#[42]⟩ : ByteArray) = true from seq_refl _, cond_true, cond_false, cond_false]
  rfl
def gV (x : Int) : Val := bif inR x then nV x else zV
def gE (x : Int) : Int := bif inR x then 0 else 4
theorem sumz1 (w : Val) (n : Nat) : value_Reckon n (⟨#[43]⟩, zV, w, ()) = some (zV, 0, ()) := by
  unfold value_Reckon
  dsimp only
  rw [seq_pm, cond_true]
  rfl
theorem sumz2 (x : Int) (n : Nat) : value_Reckon n (⟨#[43]⟩, nV x, zV, ()) = some (zV, 0, ()) := by
  unfold value_Reckon
  dsimp only
  rw [seq_pm, cond_true]
  rfl
theorem sum_g (x y : Int) (n : Nat) : value_Reckon n (⟨#[43]⟩, gV x, gV y, ()) = some (bif inR x && inR y then gV (x + y) else zV, bif inR x && inR y then gE (x + y) else 0, ()) := by
  unfold gV
  cases hx : inR x
  · exact sumz1 _ n
  · cases hy : inR y
    · exact sumz2 _ n
    · rw [cond_true, cond_true, sum_ok x y hx hy n]; rfl
theorem prd_g (x y : Int) (hy : inR y = true) (n : Nat) : value_Reckon n (⟨#[42]⟩, gV x, nV y, ()) = some (bif inR x then gV (x * y) else zV, bif inR x then gE (x * y) else 0, ()) := by
  unfold gV
  cases hx : inR x
  · exact nul_ok _ n
  · rw [cond_true, prd_ok x y hx hy n]; rfl
theorem gV_right (x : Int) : Right (gV x) 1 := by
  unfold gV
  cases hx : inR x
  · exact .null 1
  · refine .int x 1 ?_
    exact hx
theorem gV_same (x : Int) (n : Nat) : espalierref_SameValue (n + 40) (gV x, gV x, ()) = some (true, ()) := same_ok (gV_right x) (n + 40) (by omega)
theorem nV_g {x : Int} (h : inR x = true) : nV x = gV x := by unfold gV; rw [h]; rfl
theorem ValueRing_ok (a b c : Int) (ha : inR a = true) (hb : inR b = true) (hc : inR c = true) (n : Nat) (hn : 100 ≤ n) : espalierlaw_ValueRing n (a, b, c, ()) = some (true, ()) := by
  obtain ⟨m, rfl⟩ : ∃ m, n = m + 40 := ⟨n - 40, by omega⟩
  have h0 := valued_ok m
  have hnum : ∀ x, espalierlaw_num (x, ()) = some (nV x, ()) := fun x => rfl
  have h1 : value_Reckon (m + 40) (⟨#[43]⟩, nV a, nV b, ()) = some (gV (a + b), gE (a + b), ()) := sum_ok a b ha hb _
  have h2 : value_Reckon (m + 40) (⟨#[43]⟩, nV b, nV a, ()) = some (gV (a + b), gE (a + b), ()) := by rw [Int.add_comm a b]; exact sum_ok b a hb ha _
  have h3 := gV_same (a + b) m
  have h4 := prd_g (a + b) c hc (m + 40)
  have h5 : value_Reckon (m + 40) (⟨#[42]⟩, nV a, nV c, ()) = some (gV (a * c), gE (a * c), ()) := prd_ok a c ha hc _
  have h6 : value_Reckon (m + 40) (⟨#[42]⟩, nV b, nV c, ()) = some (gV (b * c), gE (b * c), ()) := prd_ok b c hb hc _
  have h7 := sum_g (a * c) (b * c) (m + 40)
  unfold espalierlaw_ValueRing
  dsimp only
  simp only [Val.eta, hnum, h0, h1, h2, h3, h4, h5, h6, h7, Option.bind_some, Bool.not_true, bne_self_eq_false, Bool.or_false, cond_false]
  cases i1 : inR (a + b)
  · have : ((gV (a + b)).kind == 0) = true := by unfold gV; rw [i1]; rfl
    simp only [this, Bool.true_or, cond_true]
  · have k1 : ((gV (a + b)).kind == 0) = false := by unfold gV; rw [i1]; rfl
    simp only [k1, Bool.false_or, cond_true]
    unfold gE
    cases i2 : inR ((a + b) * c)
    · rfl
    · cases i3 : inR (a * c)
      · rfl
      · cases i4 : inR (b * c)
        · rfl
        · simp only [Bool.and_self, cond_true]
          rw [← Int.add_mul, i2]
          have h8 := dif_ok ((a + b) * c) (b * c) i2 i4 (m + 40)
          have e : (a + b) * c - b * c = a * c := by rw [Int.add_mul]; omega
          rw [e, i3, nV_g i2, nV_g i4] at h8
          simp only [cond_true] at h8
          rw [nV_g i3] at h8
          have h9 := gV_same ((a + b) * c) m
          have h10 := gV_same (a * c) m
          simp only [cond_true, bne_self_eq_false, Bool.or_self, cond_false, h8, h9, h10, Option.bind_some, beq_self_eq_true, Bool.and_self]
end Pure

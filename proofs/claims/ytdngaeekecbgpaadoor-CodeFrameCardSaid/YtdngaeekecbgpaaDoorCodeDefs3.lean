/- What the reference's high, crcOf, ofHigh, FrameOf compute is what package code computes. No program. -/
import Derived.Test.YtdngaeekecbgpaaDoorCodeTornLaw
namespace Go.Proofs.YtdngaeekecbgpaaDoor
open Go Esp
set_option linter.unusedSimpArgs false
set_option linter.unusedVariables false

theorem u64_nat (x : Nat) (h : x < 18446744073709551616) : IntKind.wrap .u64 (x : Int) = (x : Int) := by
  simp only [IntKind.wrap, IntKind.bits, IntKind.signed]
  simp
  omega
theorem u32_nat (x : Nat) (h : x < 4294967296) : IntKind.wrap .u32 (x : Int) = (x : Int) := by
  simp only [IntKind.wrap, IntKind.bits, IntKind.signed]
  simp
  omega
theorem numB_snoc (x : Nat) : ∀ s, s ≤ 7 → numB (x : Int) (s + 1) = numB ((x / 256 : Nat) : Int) s ++ [byteAt (x : Int) 0]
  | 0, _ => by simp [numB]
  | s + 1, h => by
    have ih := numB_snoc x s (by omega)
    rw [numB, ih, numB]
    simp only [List.cons_append, List.cons.injEq, and_true]
    apply UInt8.toNat_inj.1
    have h1 := byteAt_nat x (s + 1) (by omega)
    have h2 := byteAt_nat (x / 256) s (by omega)
    rw [h1, h2, Nat.div_div_eq_div_mul, Nat.pow_succ, Nat.mul_comm]

/-- one step of the sum, as the reference takes it -/
theorem crc_ref (x : Nat) (h : x < 4294967296) : crcStep (x : Int) = if x % 2 = 1 then bxor .u32 ((x / 2 : Nat) : Int) 3988292384 else ((x / 2 : Nat) : Int) := by
  have e1 : bshr .u32 (x : Int) 1 = ((x / 2 : Nat) : Int) := by
    unfold bshr
    simp only [IntKind.bits]
    rw [Int.fdiv_eq_ediv_of_nonneg _ (by decide)]
    norm_cast
  have e2 : band .u32 (x : Int) 1 = ((x % 2 : Nat) : Int) := by
    unfold band
    show IntKind.wrap .u32 (((BitVec.ofInt 32 (x : Int) &&& BitVec.ofInt 32 1 : BitVec 32)).toNat : Int) = _
    rw [BitVec.toNat_and, BitVec.ofInt_natCast, BitVec.toNat_ofNat, show (BitVec.ofInt 32 1).toNat = 1 by decide, Nat.and_one_is_mod, Nat.mod_eq_of_lt h]
    exact u32_nat _ (by omega)
  unfold crcStep
  rw [e1, e2]
  rcases Nat.mod_two_eq_zero_or_one x with hm | hm
  · rw [hm, if_neg (by omega)]
    have e3 : band .u32 3988292384 (IntKind.wrap .u32 (0 - ((0 : Nat) : Int))) = 0 := by decide
    rw [e3]
    unfold bxor
    show IntKind.wrap .u32 (((BitVec.ofInt 32 ((x / 2 : Nat) : Int) ^^^ BitVec.ofInt 32 0 : BitVec 32)).toNat : Int) = _
    rw [BitVec.toNat_xor, BitVec.ofInt_natCast, BitVec.toNat_ofNat, show (BitVec.ofInt 32 0).toNat = 0 by decide, Nat.xor_zero, Nat.mod_eq_of_lt (by omega)]
    exact u32_nat _ (by omega)
  · rw [hm, if_pos rfl]
    have e3 : band .u32 3988292384 (IntKind.wrap .u32 (0 - ((1 : Nat) : Int))) = 3988292384 := by decide
    rw [e3]
theorem crc_range (x : Nat) (h : x < 4294967296) : ∃ y : Nat, crcStep (x : Int) = (y : Int) ∧ y < 4294967296 := by
  have hr : ∀ a b : Int, 0 ≤ bxor .u32 a b ∧ bxor .u32 a b < 4294967296 := by
    intro a b
    unfold bxor
    simp only [IntKind.wrap, IntKind.bits, IntKind.signed]
    constructor <;> simp <;> omega
  have := hr (bshr .u32 (x : Int) 1) (band .u32 3988292384 (IntKind.wrap .u32 (0 - band .u32 (x : Int) 1)))
  exact ⟨(crcStep (x : Int)).toNat, by unfold crcStep; omega, by unfold crcStep; omega⟩

theorem tmod_nat (y m : Nat) : Int.tmod (y : Int) (m : Int) = ((y % m : Nat) : Int) := by
  rw [Int.tmod_eq_emod_of_nonneg (by omega)]
  exact (Int.natCast_emod y m).symm
theorem tdiv_nat (y m : Nat) : Int.tdiv (y : Int) (m : Int) = ((y / m : Nat) : Int) := by
  rw [Int.tdiv_eq_ediv_of_nonneg (by omega)]
  exact (Int.natCast_ediv y m).symm
theorem high_byte (x i : Nat) (h : i ≤ 7) : IntKind.wrap .u8 (brem .u64 ((x / 256 ^ i : Nat) : Int) 256) = ((byteAt (x : Int) (8 * (i : Int))).toNat : Int) := by
  rw [byteAt_nat x i h]
  generalize x / 256 ^ i = y
  unfold brem
  have e : Int.tmod (y : Int) 256 = ((y % 256 : Nat) : Int) := tmod_nat y 256
  rw [e]
  simp only [IntKind.wrap, IntKind.bits, IntKind.signed]
  simp
theorem high_quo (x i : Nat) (h : x < 18446744073709551616) : bquo .u64 ((x / 256 ^ i : Nat) : Int) 256 = ((x / 256 ^ (i + 1) : Nat) : Int) := by
  have hl : x / 256 ^ i < 18446744073709551616 := Nat.lt_of_le_of_lt (Nat.div_le_self _ _) h
  rw [Nat.pow_succ, ← Nat.div_div_eq_div_mul]
  generalize x / 256 ^ i = y at *
  unfold bquo
  have e : Int.tdiv (y : Int) 256 = ((y / 256 : Nat) : Int) := tdiv_nat y 256
  rw [e]
  exact u64_nat _ (by omega)
theorem str_cons (b : UInt8) (l : List UInt8) : (⟨[b].toArray⟩ : ByteArray) ++ ⟨l.toArray⟩ = ⟨(b :: l).toArray⟩ := by
  apply ByteArray.ext
  simp [ByteArray.data_append]

theorem bxor32_range (a b : Int) : ∃ y : Nat, bxor .u32 a b = (y : Int) ∧ y < 4294967296 := by
  have hr : 0 ≤ bxor .u32 a b ∧ bxor .u32 a b < 4294967296 := by
    unfold bxor
    simp only [IntKind.wrap, IntKind.bits, IntKind.signed]
    constructor <;> simp <;> omega
  exact ⟨(bxor .u32 a b).toNat, by omega, by omega⟩
theorem crcIt_range (k : Nat) (x : Nat) (h : x < 4294967296) : ∃ y : Nat, crcIt k (x : Int) = (y : Int) ∧ y < 4294967296 := by
  induction k with
  | zero => exact ⟨x, rfl, h⟩
  | succ k ih =>
    obtain ⟨y, e, hy⟩ := ih
    simp only [crcIt, e]
    exact crc_range y hy
theorem crc_odd (c : Int) (hc : ∃ x : Nat, c = (x : Int) ∧ x < 4294967296) (h : brem .u32 c 2 = 1) : bxor .u32 (bquo .u32 c 2) 3988292384 = crcStep c := by
  obtain ⟨x, rfl, hx⟩ := hc
  have e1 : brem .u32 (x : Int) 2 = ((x % 2 : Nat) : Int) := by
    unfold brem
    rw [Int.tmod_eq_emod_of_nonneg (by omega)]
    norm_cast
  have e2 : bquo .u32 (x : Int) 2 = ((x / 2 : Nat) : Int) := by
    unfold bquo
    rw [Int.tdiv_eq_ediv_of_nonneg (by omega)]
    have : ((x : Int) / 2) = ((x / 2 : Nat) : Int) := by norm_cast
    rw [this]
    exact u32_nat _ (by omega)
  rw [e1] at h
  rw [e2, crc_ref x hx, if_pos (by omega)]
theorem crc_even (c : Int) (hc : ∃ x : Nat, c = (x : Int) ∧ x < 4294967296) (h : ¬ brem .u32 c 2 = 1) : bquo .u32 c 2 = crcStep c := by
  obtain ⟨x, rfl, hx⟩ := hc
  have e1 : brem .u32 (x : Int) 2 = ((x % 2 : Nat) : Int) := by
    unfold brem
    rw [Int.tmod_eq_emod_of_nonneg (by omega)]
    norm_cast
  have e2 : bquo .u32 (x : Int) 2 = ((x / 2 : Nat) : Int) := by
    unfold bquo
    rw [Int.tdiv_eq_ediv_of_nonneg (by omega)]
    have : ((x : Int) / 2) = ((x / 2 : Nat) : Int) := by norm_cast
    rw [this]
    exact u32_nat _ (by omega)
  rw [e1] at h
  rw [e2, crc_ref x hx, if_neg (by omega)]
theorem numOf_step (n : Int) (c : UInt8) (h : ∃ x : Nat, n = (x : Int) ∧ x < 2 ^ 56) : IntKind.wrap .u64 (IntKind.wrap .u64 (256 * n) + IntKind.wrap .u64 (c.toNat : Int)) = numStep n c := by
  obtain ⟨x, rfl, hx⟩ := h
  have hc : c.toNat < 256 := c.toNat_lt
  rw [numStep_eq x c hx]
  have e1 : IntKind.wrap .u64 (256 * (x : Int)) = ((x * 256 : Nat) : Int) := by
    have : (256 * (x : Int)) = ((x * 256 : Nat) : Int) := by omega
    rw [this]
    exact u64_nat _ (by omega)
  rw [e1, u64_nat c.toNat (by omega)]
  have : (((x * 256 : Nat) : Int) + (c.toNat : Int)) = ((x * 256 + c.toNat : Nat) : Int) := by omega
  rw [this]
  exact u64_nat _ (by omega)
theorem numOf_small (l : List UInt8) (h : l.length ≤ 7) : ∃ x : Nat, numOf l = (x : Int) ∧ x < 2 ^ 56 := by
  refine ⟨numN l 0, numOf_eq l (by omega), ?_⟩
  have h1 := numN_lt l 0
  have : (256 : Nat) ^ l.length ≤ 256 ^ 7 := Nat.pow_le_pow_right (by decide) h
  omega

theorem str_app (a b : List UInt8) : (⟨a.toArray⟩ : ByteArray) ++ ⟨b.toArray⟩ = ⟨(a ++ b).toArray⟩ := by
  apply ByteArray.ext
  simp [ByteArray.data_append]
theorem bytes_ext {x y : ByteArray} (h : x.data.toList = y.data.toList) : x = y := by
  cases x; cases y
  congr 1
  exact Array.toList_inj.1 h

theorem numN_add : ∀ (l : List UInt8) (n : Nat), numN l n = n * 256 ^ l.length + numN l 0
  | [], n => by simp [numN]
  | c :: r, n => by
    simp only [numN, List.length_cons]
    rw [numN_add r (n * 256 + c.toNat), numN_add r (0 * 256 + c.toNat), Nat.pow_succ, Nat.zero_mul, Nat.zero_add]
    generalize 256 ^ r.length = p
    have : n * 256 * p = n * (p * 256) := by rw [Nat.mul_assoc, Nat.mul_comm 256]
    rw [Nat.add_mul]
    omega
theorem numB_numN : ∀ (l : List UInt8) (n : Nat), l.length ≤ 8 → numB ((numN l n : Nat) : Int) l.length = l
  | [], n, _ => rfl
  | c :: r, n, h => by
    simp only [List.length_cons] at h
    simp only [numN, List.length_cons, numB]
    rw [numB_numN r _ (by omega)]
    congr 1
    apply UInt8.toNat_inj.1
    rw [byteAt_nat _ _ (by omega), numN_add]
    have h1 := numN_lt r 0
    have hp : 0 < 256 ^ r.length := Nat.pow_pos (by decide)
    have hc : c.toNat < 256 := c.toNat_lt
    rw [Nat.add_comm, Nat.add_mul_div_right _ _ hp, Nat.div_eq_of_lt (by omega)]
    omega
theorem numB_numOf (l : List UInt8) (h : l.length = 4) : numB (numOf l) 4 = l := by
  rw [numOf_eq l (by omega), ← h]
  exact numB_numN l 0 (by omega)

theorem isF_det {b : ByteArray} {u n m : Nat} (h : isF b u n) (k : isF b u m) : n = m := by
  have h4 := h.2.2.2.1
  have k4 := k.2.2.2.1
  omega
theorem chain_det {b : ByteArray} {l : List ByteArray} {u : Nat} (h : Chain b l u) : ∀ {l' : List ByteArray} {u' : Nat}, Chain b l' u' → l.length = l'.length → l = l' ∧ u = u' := by
  induction h with
  | nil =>
    intro l' u' k hl
    cases k with
    | nil => exact ⟨rfl, rfl⟩
    | snoc => simp at hl
  | snoc h hf ih =>
    intro l' u' k hl
    cases k with
    | nil => simp at hl
    | snoc k kf =>
      obtain ⟨rfl, rfl⟩ := ih k (by simpa using hl)
      obtain rfl := isF_det hf kf
      exact ⟨rfl, rfl⟩
theorem chain_pre {b : ByteArray} {l : List ByteArray} {u : Nat} (h : Chain b l u) : ∀ k, k < l.length → ∃ v n, Chain b (l.take k) v ∧ isF b v n := by
  induction h with
  | nil => intro k hk; simp at hk
  | @snoc l u n h hf ih =>
    intro k hk
    simp only [List.length_append, List.length_singleton] at hk
    by_cases e : k = l.length
    · subst e
      exact ⟨u, n, by rw [List.take_left]; exact h, hf⟩
    · obtain ⟨v, m, h1, h2⟩ := ih k (by omega)
      exact ⟨v, m, by rw [List.take_append_of_le_length (by omega)]; exact h1, h2⟩
theorem chain_max {b : ByteArray} {l l' : List ByteArray} {u u' : Nat} (h : Chain b l u) (hn : ∀ n, ¬ isF b u n) (k : Chain b l' u') (kn : ∀ n, ¬ isF b u' n) : l = l' ∧ u = u' := by
  have key : ∀ {l l' : List ByteArray} {u u' : Nat}, Chain b l u → (∀ n, ¬ isF b u n) → Chain b l' u' → ¬ l.length < l'.length := by
    intro l l' u u' h hn k hlt
    obtain ⟨v, n, h1, h2⟩ := chain_pre k l.length hlt
    obtain ⟨_, rfl⟩ := chain_det h h1 (by rw [List.length_take]; omega)
    exact hn n h2
  have h1 := key h hn k
  have h2 := key k kn h
  exact chain_det h k (by omega)

/-- what the reference compares -/
theorem ref_isF (b pay whole : ByteArray) (u k : Nat) (hk : numOf ((b.data.toList.drop u).take 4) = (k : Int)) (h0 : 0 < k) (h1 : k ≤ 8000) (h2 : u + 8 + k ≤ b.size) (hp : b.extract (u + 8) (u + 8 + k) = pay) (hw : b.extract u (u + 8 + k) = whole) :
    isF b u k ↔ frameOf pay = whole := by
  have ps : pay.size = k := by rw [← hp, ex_size _ _ _ (by omega)]; omega
  have hbl : b.data.toList.length = b.size := by rw [Array.length_toList]; rfl
  have hl4 : ((b.data.toList.drop u).take 4).length = 4 := by rw [List.length_take, List.length_drop]; omega
  have hl8 : ((b.data.toList.drop (u + 4)).take 4).length = 4 := by rw [List.length_take, List.length_drop]; omega
  have e1 : numB (IntKind.wrap .u64 (pay.size : Int)) 4 = (b.data.toList.drop u).take 4 := by
    rw [ps, u64_nat k (by omega), ← hk]
    exact numB_numOf _ hl4
  have e2 : whole.data.toList = (b.data.toList.drop u).take 4 ++ ((b.data.toList.drop (u + 4)).take 4 ++ pay.data.toList) := by
    rw [← hw, ← hp, ex_list, ex_list]
    have : u + 8 + k - u = 4 + (4 + k) := by omega
    rw [this, List.take_add, List.take_add, List.drop_drop, List.drop_drop, show u + 8 + k - (u + 8) = k by omega]
  have e3 : (frameOf pay).data.toList = (b.data.toList.drop u).take 4 ++ (numB (sumOf pay) 4 ++ pay.data.toList) := by
    unfold frameOf
    rw [ByteArray.data_append, Array.toList_append]
    show headOf pay ++ _ = _
    unfold headOf
    rw [e1, List.append_assoc]
  constructor
  · rintro ⟨_, _, _, _, h5⟩
    rw [hp] at h5
    apply bytes_ext
    rw [e2, e3, h5, numB_numOf _ hl8]
  · intro h
    refine ⟨h2, h0, h1, hk, ?_⟩
    rw [hp]
    have : (frameOf pay).data.toList = whole.data.toList := by rw [h]
    rw [e2, e3] at this
    have h6 := List.append_cancel_left this
    have h7 := List.append_cancel_right h6
    rw [← h7, sum_num]
theorem seq_iff (a b : ByteArray) : seq a b = true ↔ a = b := by
  unfold seq
  rw [beq_iff_eq]
  constructor
  · intro h
    rw [ByteArray.toList_eq, ByteArray.toList_eq] at h
    exact bytes_ext h
  · rintro rfl; rfl
theorem frames_step2 (b : ByteArray) (l : List ByteArray) (u n : Int) (pay whole pay2 : ByteArray) (h0 : 0 ≤ u) (hn : numOf ((b.data.toList.drop u.toNat).take 4) = n) (hn0 : 0 < n) (hn1 : n ≤ 8000) (hn2 : u + 8 + n ≤ b.size)
    (hpay : b.extract (u + 8).toNat (u + 8 + n).toNat = pay) (hw : b.extract u.toNat (u + 8 + n).toNat = whole) (hpay2 : b.extract (u + 8).toNat (u + 8 + n).toNat = pay2) (hc : frameOf pay = whole) (hch : Chain b l u.toNat) : Chain b (l ++ [pay2]) (u + (8 + n)).toNat := by
  obtain ⟨k, rfl⟩ : ∃ k : Nat, n = k := ⟨n.toNat, by omega⟩
  obtain ⟨v, rfl⟩ : ∃ v : Nat, u = v := ⟨u.toNat, by omega⟩
  have e1 : ((v : Int) + 8).toNat = v + 8 := by omega
  have e2 : ((v : Int) + 8 + (k : Int)).toNat = v + 8 + k := by omega
  have e3 : ((v : Int)).toNat = v := rfl
  have e4 : ((v : Int) + (8 + (k : Int))).toNat = v + 8 + k := by omega
  rw [e1, e2] at hpay hpay2
  rw [e3, e2] at hw
  rw [e3] at hn hch
  have hf := (ref_isF b pay whole v k hn (by omega) (by omega) (by omega) hpay hw).2 hc
  have := Chain.snoc hch hf
  rw [hpay2] at this
  rw [e4]
  exact this
theorem chain_len {b : ByteArray} {l : List ByteArray} {u : Nat} (h : Chain b l u) : l.length ≤ u ∧ u ≤ b.size := by
  induction h with
  | nil => exact ⟨by simp, by omega⟩
  | snoc h hf ih =>
    have := hf.1
    simp only [List.length_append, List.length_singleton]
    omega
end Go.Proofs.YtdngaeekecbgpaaDoor

/- The bytes of values, told once more ahead of the program's plain functions: what the document's BytesOf answers. No program. -/
import Derived.Test.YtcdfapbfocdhjaaDoorPRange
import Derived.Test.YtcdfapbfocdhjaaDoorPHigh
namespace Pure
open Esp Ev Go
set_option linter.unusedSimpArgs false
set_option linter.unusedVariables false
mutual
def encL : Val → List UInt8
  | .mk k n s l =>
    if k = 1 ∨ k = 2 then UInt8.ofNat k.toNat :: numB (n + 9223372036854775808) 8
    else if k = 3 then 3 :: (numB (s.size : Int) 2 ++ s.data.toList)
    else if k = 4 then 4 :: UInt8.ofNat l.length :: encLs l
    else [UInt8.ofNat k.toNat]
def encLs : List Val → List UInt8
  | [] => []
  | x :: r => encL x ++ encLs r
end
inductive OkV : Val → Int → Prop
  | null (n : Int) (s : ByteArray) (l : List Val) (d : Int) : OkV (.mk 0 n s l) d
  | truth (n : Int) (s : ByteArray) (l : List Val) (d : Int) : -9223372036854775808 ≤ n → n ≤ 9223372036854775807 → OkV (.mk 1 n s l) d
  | int (n : Int) (s : ByteArray) (l : List Val) (d : Int) : -9223372036854775808 ≤ n → n ≤ 9223372036854775807 → OkV (.mk 2 n s l) d
  | text (n : Int) (s : ByteArray) (l : List Val) (d : Int) : s.size ≤ 4000 → OkV (.mk 3 n s l) d
  | list (n : Int) (s : ByteArray) (l : List Val) (d : Int) : l.length ≤ 30 → d ≤ 6 → (∀ x ∈ l, OkV x (d + 1)) → OkV (.mk 4 n s l) d
open Classical in
noncomputable def bytesOfN : Val × Unit → Option (ByteArray × Unit) := fun (v, _) => if OkV v 1 then some (⟨(encL v).toArray⟩, ()) else none
def encTop (d : Int) : Nat := 4003 * 31 ^ (7 - d).toNat
theorem encLs_le (l : List Val) (b : Nat) (h : ∀ x ∈ l, (encL x).length ≤ b) : (encLs l).length ≤ l.length * b := by
  induction l with
  | nil => simp [encLs]
  | cons x r ih =>
    have h1 := h x (by simp)
    have h2 := ih fun y hy => h y (by simp [hy])
    rw [encLs, List.length_append, List.length_cons, Nat.add_mul]
    omega
theorem encTop_pos (d : Int) : 4003 ≤ encTop d := by
  unfold encTop
  have : 1 ≤ 31 ^ (7 - d).toNat := Nat.pow_pos (by decide)
  omega
theorem encTop_step (d : Int) (h : d ≤ 6) : encTop d = 31 * encTop (d + 1) := by
  unfold encTop
  rw [show (7 - d).toNat = (7 - (d + 1)).toNat + 1 by omega, Nat.pow_succ]
  omega
theorem encTop_all (d : Int) (h : 1 ≤ d) : encTop d ≤ 100000000000000 := by
  have h1 : encTop d ≤ encTop 1 := by
    unfold encTop
    exact Nat.mul_le_mul_left _ (Nat.pow_le_pow_right (by decide) (by omega))
  have : encTop 1 ≤ 100000000000000 := by decide
  omega
theorem encL_le {v : Val} {d : Int} (h : OkV v d) : (encL v).length ≤ encTop d := by
  induction h with
  | null n s l d => have := encTop_pos d; simp [encL]; omega
  | truth n s l d => have := encTop_pos d; simp [encL, numB_length]; omega
  | int n s l d => have := encTop_pos d; simp [encL, numB_length]; omega
  | text n s l d h1 =>
    have := encTop_pos d
    have e : s.data.size = s.size := rfl
    simp [encL, numB_length]
    omega
  | list n s l d h1 h2 h3 ih =>
    have := encLs_le l _ ih
    have h4 := encTop_step d h2
    have h5 := encTop_pos (d + 1)
    have h6 : l.length * encTop (d + 1) ≤ 30 * encTop (d + 1) := Nat.mul_le_mul_right _ h1
    simp [encL]
    omega
theorem wrap_u8_nat (x : Nat) (h : x < 256) : IntKind.wrap .u8 (x : Int) = (x : Int) := by
  simp only [IntKind.wrap, IntKind.bits, IntKind.signed]
  simp
  omega
theorem wrap_u64_nat (x : Nat) (h : x < 18446744073709551616) : IntKind.wrap .u64 (x : Int) = (x : Int) := by
  simp only [IntKind.wrap, IntKind.bits, IntKind.signed]
  simp
  omega
theorem high_loop {ρ : Type} (n m : Nat) (s : Nat) (hm : m < 18446744073709551616) (hs : s ≤ 8) (kx : ByteArray × Unit → Option ρ) (kr : Unit → Option ρ) :
    ∀ (r i : Nat), i + r = s → ∀ fuel, r < fuel →
      iterN (fun rc => espalierref_high_s0 n rc kx kr) fuel ((m / 256 ^ i : Nat), ⟨(numB (m : Int) i).toArray⟩, (s : Int), (i : Int), ()) = kx (⟨(numB (m : Int) s).toArray⟩, ()) := by
  intro r
  induction r with
  | zero =>
    intro i hi fuel hf
    obtain ⟨q, rfl⟩ : ∃ q, fuel = q + 1 := ⟨fuel - 1, by omega⟩
    have : i = s := by omega
    subst this
    rw [iterN]
    simp only [espalierref_high_s0]
    rw [show decide ((i : Int) < (i : Int)) = false by simp]
    rfl
  | succ r ih =>
    intro i hi fuel hf
    obtain ⟨q, rfl⟩ : ∃ q, fuel = q + 1 := ⟨fuel - 1, by omega⟩
    rw [iterN]
    simp only [espalierref_high_s0]
    have e1 : IntKind.wrap .u8 (brem .u64 ((m / 256 ^ i : Nat) : Int) 256) = ((byteAt (m : Int) (8 * (i : Int))).toNat : Int) := by
      rw [byteAt_nat m i (by omega)]
      have e2 : brem .u64 ((m / 256 ^ i : Nat) : Int) 256 = ((m / 256 ^ i % 256 : Nat) : Int) := by
        unfold brem
        rw [Int.tmod_eq_emod_of_nonneg (Int.natCast_nonneg _)]
        exact (Int.natCast_emod _ 256).symm
      rw [e2]
      have e3 : m / 256 ^ i % 256 < 256 := Nat.mod_lt _ (by decide)
      have h2 := wrap_u8_nat (m / 256 ^ i % 256) e3
      exact h2
    have e4 : str? [((byteAt (m : Int) (8 * (i : Int))).toNat : Int)] = some ⟨[byteAt (m : Int) (8 * (i : Int))].toArray⟩ := str_ok [byteAt (m : Int) (8 * (i : Int))]
    have e5 : cat? ⟨[byteAt (m : Int) (8 * (i : Int))].toArray⟩ ⟨(numB (m : Int) i).toArray⟩ = some ⟨(numB (m : Int) (i + 1)).toArray⟩ := by
      unfold cat?
      have z1 : (⟨[byteAt (m : Int) (8 * (i : Int))].toArray⟩ : ByteArray).size = 1 := rfl
      have z2 : (⟨(numB (m : Int) i).toArray⟩ : ByteArray).size = i := by show (numB (m : Int) i).toArray.size = i; simp [numB_length]
      rw [z1, z2, if_pos (by omega)]
      congr 1
    have e6 : bquo .u64 ((m / 256 ^ i : Nat) : Int) 256 = ((m / 256 ^ (i + 1) : Nat) : Int) := by
      unfold bquo
      rw [Int.tdiv_eq_ediv_of_nonneg (Int.natCast_nonneg _)]
      have e7 : ((m / 256 ^ i : Nat) : Int) / 256 = ((m / 256 ^ (i + 1) : Nat) : Int) := by
        rw [Nat.pow_succ, ← Nat.div_div_eq_div_mul]
        exact (Int.natCast_ediv _ 256).symm
      rw [e7]
      have e9 : m / 256 ^ (i + 1) ≤ m := Nat.div_le_self _ _
      exact wrap_u64_nat _ (by omega)
    have e8 : IntKind.wrap .i64 ((i : Int) + 1) = ((i + 1 : Nat) : Int) := by
      rw [wrap64 (by omega) (by omega)]
      omega
    rw [show decide ((i : Int) < (s : Int)) = true by rw [decide_eq_true_iff]; omega, cond_true, e1, e4]
    simp only [Option.bind_some]
    rw [e5]
    simp only [Option.bind_some]
    rw [e6, e8]
    exact ih (i + 1) (by omega) q (by omega)
theorem high_ok (n m s : Nat) (hm : m < 18446744073709551616) (hs : s ≤ 8) (hn : s < n) : espalierref_high n ((m : Int), (s : Int), ()) = some (⟨(numB (m : Int) s).toArray⟩, ()) := by
  simp only [espalierref_high]
  have := high_loop n m s hm hs (fun (v9, _) => some (v9, ())) (fun (_) => none) s 0 (by omega) n hn
  simpa [numB] using this
end Pure

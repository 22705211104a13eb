/- What code.Frame, numberOf and Frames compute: plain functions; no program. -/
import Derived.Test.YtdngaeekecbgpaaDoorCodeLaw
import Derived.Test.YtdngaeekecbgpaaDoorEspWeak
namespace Go.Proofs.YtdngaeekecbgpaaDoor
open Go Esp
set_option linter.unusedSimpArgs false
set_option linter.unusedVariables false

def frameR (b : ByteArray) : ByteArray × Int := if seq b ⟨#[]⟩ = true then (⟨#[]⟩, 6) else if 8000 < b.size then (⟨#[]⟩, 2) else (frameOf b, 0)

def numStep (n : Int) (c : UInt8) : Int := bor .u64 (bshl .u64 n 8) (IntKind.wrap .u64 (c.toNat : Int))
def numOf (l : List UInt8) : Int := l.foldl numStep 0
theorem numOf_snoc (l : List UInt8) (c : UInt8) : numOf (l ++ [c]) = numStep (numOf l) c := by simp [numOf]
theorem numOf_take {l : List UInt8} {i : Nat} {b : UInt8} (h : l[i]? = some b) : numOf (l.take (i + 1)) = numStep (numOf (l.take i)) b := by rw [take_succ_of h, numOf_snoc]

theorem numStep_eq (x : Nat) (c : UInt8) (h : x < 2 ^ 56) : numStep (x : Int) c = ((x * 256 + c.toNat : Nat) : Int) := by
  have hc : c.toNat < 256 := c.toNat_lt
  have e1 : bshl .u64 (x : Int) 8 = ((x * 256 : Nat) : Int) := by
    unfold bshl
    simp only [IntKind.wrap, IntKind.bits, IntKind.signed]
    simp
    omega
  have e2 : IntKind.wrap .u64 (c.toNat : Int) = ((c.toNat : Nat) : Int) := by
    simp only [IntKind.wrap, IntKind.bits, IntKind.signed]
    simp
    omega
  unfold numStep bor
  rw [e1, e2]
  show IntKind.wrap .u64 (((BitVec.ofInt 64 ((x * 256 : Nat) : Int) ||| BitVec.ofInt 64 ((c.toNat : Nat) : Int) : BitVec 64)).toNat : Int) = _
  rw [BitVec.toNat_or, BitVec.ofInt_natCast, BitVec.ofInt_natCast, BitVec.toNat_ofNat, BitVec.toNat_ofNat, Nat.mod_eq_of_lt (by omega), Nat.mod_eq_of_lt (by omega)]
  have e3 : x * 256 ||| c.toNat = x * 256 + c.toNat := by
    rw [show x * 256 = x <<< 8 by rw [Nat.shiftLeft_eq], ← Nat.shiftLeft_add_eq_or_of_lt hc]
  rw [e3]
  simp only [IntKind.wrap, IntKind.bits, IntKind.signed]
  simp
  omega

/-- bytes as a number, highest first -/
def numN : List UInt8 → Nat → Nat
  | [], n => n
  | c :: r, n => numN r (n * 256 + c.toNat)
theorem numN_lt : ∀ (l : List UInt8) (n : Nat), numN l n < (n + 1) * 256 ^ l.length
  | [], n => by simp [numN]
  | c :: r, n => by
    have := numN_lt r (n * 256 + c.toNat)
    have hc : c.toNat < 256 := c.toNat_lt
    simp only [numN, List.length_cons, Nat.pow_succ]
    refine Nat.lt_of_lt_of_le this ?_
    rw [Nat.mul_comm (256 ^ r.length) 256, ← Nat.mul_assoc]
    exact Nat.mul_le_mul_right _ (by omega)
theorem numOf_eq' : ∀ (l : List UInt8) (k n : Nat), n < 256 ^ k → k + l.length ≤ 8 → l.foldl numStep (n : Int) = ((numN l n : Nat) : Int)
  | [], _, _, _, _ => rfl
  | c :: r, k, n, hn, hl => by
    have hc : c.toNat < 256 := c.toNat_lt
    simp only [List.length_cons] at hl
    have h56 : n < 2 ^ 56 := by
      have : (256 : Nat) ^ k ≤ 256 ^ 7 := Nat.pow_le_pow_right (by decide) (by omega)
      omega
    simp only [List.foldl_cons, numN]
    rw [numStep_eq n c h56]
    refine numOf_eq' r (k + 1) _ ?_ (by omega)
    rw [Nat.pow_succ]
    omega
theorem numOf_eq (l : List UInt8) (h : l.length ≤ 8) : numOf l = ((numN l 0 : Nat) : Int) := numOf_eq' l 0 0 (by decide) (by omega)
theorem numOf_range (l : List UInt8) (h : l.length ≤ 4) : 0 ≤ numOf l ∧ numOf l < 4294967296 := by
  rw [numOf_eq l (by omega)]
  have h1 := numN_lt l 0
  have : (256 : Nat) ^ l.length ≤ 256 ^ 4 := Nat.pow_le_pow_right (by decide) h
  omega

theorem ex_list (b : ByteArray) (i j : Nat) : (b.extract i j).data.toList = (b.data.toList.drop i).take (j - i) := by
  rw [ByteArray.data_extract, Array.toList_extract, List.extract_eq_take_drop]
theorem ex_size (b : ByteArray) (i j : Nat) (h : j ≤ b.size) : (b.extract i j).size = j - i := by
  rw [ByteArray.size_extract]
  omega
theorem bytesD_sub (l : List UInt8) (p m : Nat) : ((bytesD l).drop (p * 1)).take (m * 1) = bytesD ((l.drop p).take m) := by
  simp [bytesD, List.map_drop, List.map_take]

/-- a frame of n bytes stands at u -/
def isF (b : ByteArray) (u n : Nat) : Prop :=
  u + 8 + n ≤ b.size ∧ 0 < n ∧ n ≤ 8000 ∧ numOf ((b.data.toList.drop u).take 4) = n ∧ sumOf (b.extract (u + 8) (u + 8 + n)) = numOf ((b.data.toList.drop (u + 4)).take 4)
inductive Chain (b : ByteArray) : List ByteArray → Nat → Prop
  | nil : Chain b [] 0
  | snoc {l : List ByteArray} {u n : Nat} (h : Chain b l u) (k : isF b u n) : Chain b (l ++ [b.extract (u + 8) (u + 8 + n)]) (u + 8 + n)
/-- what Frames answers -/
def framesJ (b : ByteArray) (l : List ByteArray) (u e : Int) : Prop :=
  (16000 < b.size ∧ l = [] ∧ u = 0 ∧ e = 2) ∨ (b.size ≤ 16000 ∧ e = 0 ∧ 0 ≤ u ∧ Chain b l u.toNat ∧ ∀ n, ¬ isF b u.toNat n)

theorem head4 (b rest hd : ByteArray) (u : Nat) (h : u + 8 ≤ b.size) (hr : b.extract u b.size = rest) (hh : rest.extract 0 8 = hd) :
    (hd.data.toList.drop 0).take 4 = (b.data.toList.drop u).take 4 ∧ (hd.data.toList.drop 4).take 4 = (b.data.toList.drop (u + 4)).take 4 ∧ hd.size = 8 := by
  subst hr
  subst hh
  have hs : (b.extract u b.size).size = b.size - u := ex_size b u b.size (by omega)
  refine ⟨?_, ?_, ?_⟩
  · rw [ex_list, ex_list]
    simp only [List.drop_zero, List.take_take]
    congr 1
    omega
  · rw [ex_list, ex_list]
    simp only [List.drop_zero, List.take_take, List.drop_take, List.drop_drop]
    congr 1
    omega
  · rw [ex_size _ _ _ (by omega)]
theorem payL (b rest pay : ByteArray) (u n : Nat) (h : u + 8 + n ≤ b.size) (hr : b.extract u b.size = rest) (hp : rest.extract 8 (8 + n) = pay) : b.extract (u + 8) (u + 8 + n) = pay := by
  subst hr
  subst hp
  have key : ∀ (x y : ByteArray), x.data.toList = y.data.toList → x = y := fun x y h => by
    cases x; cases y
    congr 1
    exact Array.toList_inj.1 h
  apply key
  rw [ex_list, ex_list, ex_list]
  simp only [List.drop_take, List.take_take, List.drop_drop]
  congr 1
  omega
theorem frames_step (b : ByteArray) (l : List ByteArray) (u n : Int) (rest hd pay pay2 : ByteArray) (m4 : Int) (h0 : 0 ≤ u) (h1 : u + 8 ≤ b.size) (hrest : b.extract u.toNat (b.size : Int).toNat = rest)
    (hpay : rest.extract (8 : Int).toNat (8 + n).toNat = pay) (hpay2 : rest.extract (8 : Int).toNat (8 + n).toNat = pay2) (k4a : (hd.data.toList.drop 0).take 4 = (b.data.toList.drop u.toNat).take 4) (k4b : (hd.data.toList.drop 4).take 4 = (b.data.toList.drop (u.toNat + 4)).take 4)
    (hn : numOf ((hd.data.toList.drop 0).take 4) = n) (hm4 : numOf ((hd.data.toList.drop 4).take 4) = m4) (hn0 : 0 < n) (hn1 : n ≤ 8000) (hn2 : u + 8 + n ≤ b.size) (hs : sumOf pay = m4) (hch : Chain b l u.toNat) : Chain b (l ++ [pay2]) (u + (8 + n)).toNat := by
  obtain ⟨k, rfl⟩ : ∃ k : Nat, n = k := ⟨n.toNat, by omega⟩
  obtain ⟨v, rfl⟩ : ∃ v : Nat, u = v := ⟨u.toNat, by omega⟩
  have e8 : ((8 : Int) + (k : Int)).toNat = 8 + k := by omega
  rw [e8] at hpay hpay2
  have ep : pay2 = pay := hpay2.symm.trans hpay
  have ev : ((v : Int)).toNat = v := rfl
  have hb : ((b.size : Int)).toNat = b.size := rfl
  rw [ev] at k4a k4b hch hrest
  rw [hb] at hrest
  have e1 := payL b rest pay v k (by omega) hrest hpay
  have := Chain.snoc hch (n := k) ⟨by omega, by omega, by omega, by rw [← k4a, hn], by rw [e1, ← k4b, hm4, hs]⟩
  rw [e1] at this
  rw [ep, show ((v : Int) + (8 + (k : Int))).toNat = v + 8 + k by omega]
  exact this
end Go.Proofs.YtdngaeekecbgpaaDoor

/- Frames that are cut anywhere: those are read that are whole. No program. -/
import Derived.Test.YtdngaeekecbgpaaDoorCodeDefs2
namespace Go.Proofs.YtdngaeekecbgpaaDoor
open Go Esp
set_option linter.unusedSimpArgs false
set_option linter.unusedVariables false

theorem numN_numB (x : Nat) : ∀ (s n : Nat), s ≤ 8 → numN (numB (x : Int) s) n = n * 256 ^ s + x % 256 ^ s
  | 0, n, _ => by simp [numB, numN, Nat.mod_one]
  | s + 1, n, h => by
    simp only [numB, numN]
    rw [numN_numB x s _ (by omega), byteAt_nat x s (by omega), Nat.mod_pow_succ, Nat.pow_succ, Nat.add_mul]
    rw [Nat.mul_comm (256 ^ s) (x / 256 ^ s % 256), Nat.mul_comm (256 ^ s) 256, ← Nat.mul_assoc]
    omega
theorem numOf_numB (x : Nat) (s : Nat) (hs : s ≤ 8) (h : x < 256 ^ s) : numOf (numB (x : Int) s) = (x : Int) := by
  rw [numOf_eq _ (by rw [numB_length]; exact hs), numN_numB x s 0 hs, Nat.mod_eq_of_lt h]
  simp

theorem sumOf_range (b : ByteArray) : ∃ x : Nat, sumOf b = (x : Int) ∧ x < 4294967296 := by
  have h : ∀ y : Int, 0 ≤ bnot .u32 y ∧ bnot .u32 y < 4294967296 := by
    intro y
    unfold bnot bxor
    simp only [IntKind.wrap, IntKind.bits, IntKind.signed]
    constructor <;> simp <;> omega
  have h1 := h (crcL b.data.toList)
  have e : sumOf b = bnot .u32 (crcL b.data.toList) := by
    unfold sumOf
    generalize bnot .u32 (crcL b.data.toList) = z at *
    simp only [IntKind.wrap, IntKind.bits, IntKind.signed]
    simp
    omega
  exact ⟨(bnot .u32 (crcL b.data.toList)).toNat, by omega, by omega⟩

def frL (s : ByteArray) : List UInt8 := headOf s ++ s.data.toList
def catF (fs : List ByteArray) : ByteArray := ⟨(fs.flatMap frL).toArray⟩
def endsF (fs : List ByteArray) : List Int := (List.range (fs.length + 1)).map fun k => ((catF (fs.take k)).size : Int)
theorem frL_length (s : ByteArray) : (frL s).length = 8 + s.size := by
  unfold frL
  rw [List.length_append, headOf_length, Array.length_toList]
  rfl
theorem catF_size (fs : List ByteArray) : (catF fs).size = (fs.flatMap frL).length := rfl
theorem catF_snoc (fs : List ByteArray) (s : ByteArray) : catF (fs ++ [s]) = catF fs ++ frameOf s := by
  unfold catF frameOf
  apply ByteArray.ext
  simp [ByteArray.data_append, frL]
theorem endsF_length (fs : List ByteArray) : (endsF fs).length = fs.length + 1 := by simp [endsF]
theorem endsF_snoc (fs : List ByteArray) (s : ByteArray) : endsF fs ++ [((catF (fs ++ [s])).size : Int)] = endsF (fs ++ [s]) := by
  unfold endsF
  rw [List.length_append, List.length_singleton, List.range_succ (n := fs.length + 1), List.map_append]
  congr 1
  · apply List.map_congr_left
    intro k hk
    have := List.mem_range.1 hk
    rw [List.take_append_of_le_length (by omega)]
  · simp [List.take_of_length_le]
theorem endsF_get (fs : List ByteArray) (k : Nat) (h : k ≤ fs.length) : (endsF fs)[k]? = some ((catF (fs.take k)).size : Int) := by
  unfold endsF
  rw [List.getElem?_map, List.getElem?_range (by omega)]
  rfl

theorem frameR_ok (s : ByteArray) (h : (frameR s).2 = 0) : frameR s = (frameOf s, 0) ∧ 0 < s.size := by
  unfold frameR at h ⊢
  split at h
  · simp at h
  · rename_i h1
    split at h
    · simp at h
    · rename_i h2
      rw [if_neg h1, if_neg h2]
      refine ⟨rfl, Nat.pos_of_ne_zero fun h0 => h1 ?_⟩
      have : s.data = #[] := Array.eq_empty_of_size_eq_zero h0
      cases s with
      | mk d => cases this; unfold seq; exact beq_self_eq_true _

def wantF (es : List Int) (at_ : Int) : Nat → Int
  | 0 => 0
  | k + 1 => if es.getD k 0 ≤ at_ then (k : Int) else wantF es at_ k
theorem wantF_eq (es : List Int) (a : Int) (k : Nat) (h0 : es.getD k 0 ≤ a) : ∀ m, k < m → (∀ j, k < j → j < m → a < es.getD j 0) → wantF es a m = (k : Int)
  | 0, h, _ => by omega
  | m + 1, h, hj => by
    simp only [wantF]
    by_cases e : k = m
    · subst e
      rw [if_pos h0]
    · rw [if_neg (by have := hj m (by omega) (by omega); omega)]
      exact wantF_eq es a k h0 m (by omega) fun j h1 h2 => hj j h1 (by omega)

section
variable {fs : List ByteArray} {at_ : Int} {cut : ByteArray}
theorem split_at (k : Nat) (hk : k < fs.length) : fs.flatMap frL = (fs.take k).flatMap frL ++ (frL fs[k] ++ (fs.drop (k + 1)).flatMap frL) := by
  conv => lhs; rw [← List.take_append_drop k fs]
  rw [List.flatMap_append, List.drop_eq_getElem_cons hk, List.flatMap_cons]
theorem ends_mono (k j : Nat) (h : k ≤ j) : ((fs.take k).flatMap frL).length ≤ ((fs.take j).flatMap frL).length := by
  have : fs.take k = (fs.take j).take k := by rw [List.take_take, Nat.min_eq_left h]
  rw [this]
  conv => rhs; rw [← List.take_append_drop k (fs.take j)]
  rw [List.flatMap_append, List.length_append]
  omega
theorem ends_succ (k : Nat) (hk : k < fs.length) : ((fs.take (k + 1)).flatMap frL).length = ((fs.take k).flatMap frL).length + 8 + fs[k].size := by
  rw [List.take_succ_eq_append_getElem hk, List.flatMap_append, List.length_append]
  simp [frL_length]
  omega

theorem cut_head (k : Nat) (hk : k < fs.length) (a : Nat) (hc : cut.data.toList = (fs.flatMap frL).take a) (hu : ((fs.take k).flatMap frL).length + 8 ≤ a) :
    (cut.data.toList.drop ((fs.take k).flatMap frL).length).take 4 = numB (IntKind.wrap .u64 (fs[k].size : Int)) 4 ∧ (cut.data.toList.drop (((fs.take k).flatMap frL).length + 4)).take 4 = numB (sumOf fs[k]) 4 := by
  rw [hc, split_at k hk]
  generalize (fs.take k).flatMap frL = A at *
  generalize (fs.drop (k + 1)).flatMap frL = C
  unfold frL headOf
  have n1 := numB_length (IntKind.wrap .u64 (fs[k].size : Int)) 4
  have n2 := numB_length (sumOf fs[k]) 4
  generalize numB (IntKind.wrap .u64 (fs[k].size : Int)) 4 = X at *
  generalize numB (sumOf fs[k]) 4 = Y at *
  constructor
  · rw [List.drop_take, List.take_take, List.drop_left, Nat.min_eq_left (by omega)]
    simp only [List.append_assoc]
    rw [← n1, List.take_left]
  · rw [List.drop_take, List.take_take, Nat.min_eq_left (by omega), ← List.drop_drop, List.drop_left]
    simp only [List.append_assoc]
    rw [← n1, List.drop_left, show X.length = Y.length by omega, List.take_left]
theorem cut_pay (k : Nat) (hk : k < fs.length) (a : Nat) (hc : cut.data.toList = (fs.flatMap frL).take a) (hu : ((fs.take k).flatMap frL).length + 8 + fs[k].size ≤ a) :
    cut.extract (((fs.take k).flatMap frL).length + 8) (((fs.take k).flatMap frL).length + 8 + fs[k].size) = fs[k] := by
  have key : ∀ (x y : ByteArray), x.data.toList = y.data.toList → x = y := fun x y h => by
    cases x; cases y
    congr 1
    exact Array.toList_inj.1 h
  apply key
  rw [ex_list, hc, split_at k hk]
  have hs : fs[k].data.toList.length = fs[k].size := by rw [Array.length_toList]; rfl
  generalize (fs.take k).flatMap frL = A at *
  generalize (fs.drop (k + 1)).flatMap frL = C
  rw [List.drop_take, List.take_take, Nat.min_eq_left (by omega), ← List.drop_drop, List.drop_left]
  unfold frL
  simp only [List.append_assoc]
  have hh := headOf_length fs[k]
  rw [← hh, List.drop_left, show A.length + (headOf fs[k]).length + fs[k].size - (A.length + (headOf fs[k]).length) = fs[k].data.toList.length by omega, List.take_left]

theorem size_num (n : Nat) (h : n ≤ 100) : numOf (numB (IntKind.wrap .u64 (n : Int)) 4) = (n : Int) := by
  have e : IntKind.wrap .u64 (n : Int) = (n : Int) := by
    simp only [IntKind.wrap, IntKind.bits, IntKind.signed]
    simp
    omega
  rw [e]
  exact numOf_numB n 4 (by omega) (by omega)
theorem sum_num (b : ByteArray) : numOf (numB (sumOf b) 4) = sumOf b := by
  obtain ⟨x, hx, hl⟩ := sumOf_range b
  rw [hx]
  exact numOf_numB x 4 (by omega) (by omega)

theorem chain_ends (hfs : ∀ s ∈ fs, s.size ≤ 100) (a : Nat) (ha : a ≤ (fs.flatMap frL).length) (hc : cut.data.toList = (fs.flatMap frL).take a) {l : List ByteArray} {u : Nat} (h : Chain cut l u) :
    ∃ k, l.length = k ∧ k ≤ fs.length ∧ u = ((fs.take k).flatMap frL).length ∧ u ≤ a := by
  have hsz : cut.size = a := by
    have : cut.size = cut.data.toList.length := by rw [Array.length_toList]; rfl
    rw [this, hc, List.length_take]
    omega
  induction h with
  | nil => exact ⟨0, rfl, by omega, by simp, by omega⟩
  | @snoc l u n h k ih =>
    obtain ⟨j, h1, h2, h3, h4⟩ := ih
    obtain ⟨k1, k2, k3, k4, k5⟩ := k
    have hj : j < fs.length := by
      refine Nat.lt_of_le_of_ne h2 fun e => ?_
      subst e
      rw [List.take_length] at h3
      omega
    subst h3
    obtain ⟨e1, e2⟩ := cut_head j hj a hc (by omega)
    rw [e1, size_num _ (hfs _ (List.getElem_mem hj))] at k4
    have hn : n = fs[j].size := by omega
    subst hn
    refine ⟨j + 1, by simp [h1], by omega, ?_, by omega⟩
    rw [ends_succ j hj]

theorem sum_le (hfs : ∀ s ∈ fs, 0 < s.size ∧ s.size ≤ 100) : ∀ m, ((fs.take m).flatMap frL).length ≤ 108 * m := by
  intro m
  induction m with
  | zero => simp
  | succ m ih =>
    by_cases hm : m < fs.length
    · rw [ends_succ m hm]
      have := (hfs _ (List.getElem_mem hm)).2
      omega
    · rw [List.take_of_length_le (by omega)]
      rw [List.take_of_length_le (by omega)] at ih
      omega
theorem cat_le (hfs : ∀ s ∈ fs, 0 < s.size ∧ s.size ≤ 100) : (catF fs).size ≤ 108 * fs.length := by
  have := sum_le hfs fs.length
  rw [List.take_length] at this
  exact this
theorem frameOf_size (s : ByteArray) : (frameOf s).size = 8 + s.size := by
  unfold frameOf
  rw [ByteArray.size_append]
  have h9 : (⟨(headOf s).toArray⟩ : ByteArray).size = 8 := headOf_length s
  omega

theorem torn (hfs : ∀ s ∈ fs, 0 < s.size ∧ s.size ≤ 100) (hl : fs.length ≤ 8) (h0 : 0 ≤ at_) (h1 : at_ ≤ ((catF fs).size : Int)) (hcut : (catF fs).extract 0 at_.toNat = cut) {l : List ByteArray} {u e : Int} (hJ : framesJ cut l u e) :
    e = 0 ∧ (l.length : Int) = wantF (endsF fs) at_ (endsF fs).length ∧ l.length < (endsF fs).length ∧ (endsF fs)[l.length]? = some u := by
  have hc : cut.data.toList = (fs.flatMap frL).take at_.toNat := by
    rw [← hcut, ex_list]
    simp [catF]
  rw [catF_size] at h1
  have hsz : cut.size = at_.toNat := by
    have : cut.size = cut.data.toList.length := by rw [Array.length_toList]; rfl
    rw [this, hc, List.length_take]
    omega
  have hsum : ∀ m, ((fs.take m).flatMap frL).length ≤ 108 * m := by
    intro m
    induction m with
    | zero => simp
    | succ m ih =>
      by_cases hm : m < fs.length
      · rw [ends_succ m hm]
        have := (hfs _ (List.getElem_mem hm)).2
        omega
      · rw [List.take_of_length_le (by omega)]
        rw [List.take_of_length_le (by omega)] at ih
        omega
  have hall := hsum 8
  rw [List.take_of_length_le hl] at hall
  rcases hJ with ⟨hbig, _⟩ | ⟨_, he, hu, hch, hnone⟩
  · omega
  · obtain ⟨k, k1, k2, k3, k4⟩ := chain_ends (fun s hs => (hfs s hs).2) at_.toNat (by omega) hc hch
    have hget : ∀ j, j ≤ fs.length → (endsF fs).getD j 0 = (((fs.take j).flatMap frL).length : Int) := by
      intro j hj
      rw [List.getD_eq_getElem?_getD, endsF_get fs j hj]
      rfl
    have hnext : ∀ hk : k < fs.length, at_ < (((fs.take (k + 1)).flatMap frL).length : Int) := by
      intro hk
      refine Int.not_le.1 fun hle => ?_
      rw [ends_succ k hk] at hle
      have hs := hfs _ (List.getElem_mem hk)
      obtain ⟨e1, e2⟩ := cut_head k hk at_.toNat hc (by omega)
      refine hnone fs[k].size ⟨by omega, hs.1, by omega, ?_, ?_⟩
      · rw [k3, e1, size_num _ hs.2]
      · rw [k3, e2, cut_pay k hk at_.toNat hc (by omega), sum_num]
    refine ⟨he, ?_, by rw [endsF_length]; omega, ?_⟩
    · rw [k1]
      refine (wantF_eq (endsF fs) at_ k (by rw [hget k k2]; omega) _ (by rw [endsF_length]; omega) fun j h2 h3 => ?_).symm
      rw [endsF_length] at h3
      rw [hget j (by omega)]
      have := hnext (by omega)
      have := ends_mono (fs := fs) (k + 1) j (by omega)
      omega
    · rw [k1, endsF_get fs k k2, catF_size]
      congr 1
      omega
end
end Go.Proofs.YtdngaeekecbgpaaDoor

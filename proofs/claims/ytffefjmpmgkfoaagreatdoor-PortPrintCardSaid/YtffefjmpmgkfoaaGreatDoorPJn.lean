/- Plain: strings.Join of a few texts. No program. -/
import Derived.Test.YtffefjmpmgkfoaaGreatDoorPHigh
import Derived.Test.YtffefjmpmgkfoaaGreatDoorPLib
namespace Pure.Hi
open Esp Ev Go Pure
set_option linter.unusedSimpArgs false
set_option linter.unusedVariables false
def jT (sep : List UInt8) : List ByteArray → List UInt8
  | [] => []
  | x :: r => sep ++ (x.data.toList ++ jT sep r)
def jL (sep : List UInt8) : List ByteArray → List UInt8
  | [] => []
  | x :: r => x.data.toList ++ jT sep r
def tot : List ByteArray → Nat
  | [] => 0
  | x :: r => x.size + tot r
theorem jT_len (sep : List UInt8) (l : List ByteArray) : (jT sep l).length = sep.length * l.length + tot l := by
  induction l with
  | nil => rfl
  | cons x r ih =>
    have e : x.data.toList.length = x.size := rfl
    rw [jT, List.length_append, List.length_append, ih, tot, List.length_cons, Nat.mul_add, e]
    omega
theorem wStr (m : List UInt8) (s : ByteArray) (hm : m.length + s.size ≤ 140000000000000) : q6z (s, (), bi m, ()) = some ((s.size : Int), (), bi (m ++ s.data.toList), ()) := by
  unfold q6z copyCheckN
  have e : bi m ++ bytesI s = bi (m ++ s.data.toList) := by rw [bi_app]; rfl
  simp only [Option.bind_some, e]
  rw [ck_ok (room1 (by rw [bi_length, List.length_append]; have : s.data.toList.length = s.size := rfl; omega))]
theorem bytesOf_bi (m : List UInt8) : Lib.bytesOf (bi m) = m := by
  unfold Lib.bytesOf bi
  rw [List.map_map]
  conv => rhs; rw [← List.map_id m]
  apply List.map_congr_left
  intro x _
  simp
theorem stringN_bi (m : List UInt8) : stringN ((), bi m, ()) = some (⟨m.toArray⟩, ()) := by
  unfold stringN bytesZ
  dsimp only
  rw [bytesOf_bi]
theorem fold1 {ρ : Type} (n : Nat) (kr : Unit → Option ρ) (k : (List ByteArray) × ByteArray × Int × Unit → Option ρ) (a1 : List ByteArray) (a2 : ByteArray) :
    ∀ (r : List ByteArray) (i : Int) (v : Nat), v + tot r ≤ 140000000000000 → foldK (F_strings_Join_s1 n kr) k i r (a1, a2, (v : Int), ()) = k (a1, a2, ((v + tot r : Nat) : Int), ())
  | [], i, v, h => by rw [foldK, tot]; rfl
  | x :: r, i, v, h => by
    rw [tot] at h
    rw [foldK]
    unfold F_strings_Join_s1
    dsimp only
    have w1 : IntKind.wrap .i64 (9223372036854775807 - (v : Int)) = 9223372036854775807 - (v : Int) := wrap64 (by omega) (by omega)
    have w2 : IntKind.wrap .i64 ((v : Int) + (x.size : Int)) = ((v + x.size : Nat) : Int) := by rw [wrap64 (by omega) (by omega)]; omega
    rw [w1, w2, decide_eq_false (by omega), cond_false]
    have := fold1 n kr k a1 a2 r (i + 1) (v + x.size) (by omega)
    unfold F_strings_Join_s1 at this
    rw [this, tot, Nat.add_assoc]
theorem fold3 {ρ : Type} (n : Nat) (kr : Unit → Option ρ) (k : ByteArray × Unit × List Int × Unit → Option ρ) (a2 : ByteArray) (ha : a2.size ≤ 100) :
    ∀ (r : List ByteArray) (i : Int) (m : List UInt8), m.length + (jT a2.data.toList r).length ≤ 130000000000000 → foldK (F_strings_Join_s3 n kr) k i r (a2, (), bi m, ()) = k (a2, (), bi (m ++ jT a2.data.toList r), ())
  | [], i, m, h => by rw [foldK, jT, List.append_nil]
  | x :: r, i, m, h => by
    have e1 : x.data.toList.length = x.size := rfl
    have e2 : a2.data.toList.length = a2.size := rfl
    rw [jT, List.length_append, List.length_append, e1, e2] at h
    rw [foldK]
    have := fold3 n kr k a2 ha r (i + 1) (m ++ a2.data.toList ++ x.data.toList) (by rw [List.length_append, List.length_append, e1, e2]; omega)
    unfold F_strings_Join_s3 at this ⊢
    dsimp only
    rw [wStr m a2 (by omega), Option.bind_some]
    dsimp only
    rw [wStr _ x (by rw [List.length_append, e2]; omega), Option.bind_some]
    dsimp only
    rw [this, jT, List.append_assoc, List.append_assoc]
theorem join_tail (n : Nat) (x : ByteArray) (r : List ByteArray) (a2 : ByteArray) (ha : a2.size ≤ 100) (hr : 1 ≤ r.length) (hn : r.length + 1 < n) (hl : r.length ≤ 100000) (hz : x.size + (jT a2.data.toList r).length ≤ 60000000000000) (v : Nat) (hv : v = a2.size * r.length + tot (x :: r)) :
    ((growN ((v : Int), (()), ([] : List Int), ())).bind fun (o15, o16, _) =>
      (ix (x :: r) 0).bind fun x17 =>
      (q6z (x17, (()), o16, ())).bind fun (y18, o19, o20, _) =>
      (lsl (x :: r) 1 ((x :: r).length : Int)).bind fun l21 =>
      iterN (fun rc38 => strings_Join_s3 n rc38 (fun (o35, o36, _) =>
      (stringN ((()), o36, ())).bind fun (y37, _) => some (y37, ())) (fun (_) => none)) (n) (a2, l21, (l21.length : Int), 0, (()), o20, ())) = some (⟨(jL a2.data.toList (x :: r)).toArray⟩, ()) := by
  have e1 : x.data.toList.length = x.size := rfl
  have e2 : a2.data.toList.length = a2.size := rfl
  have e3 := jT_len a2.data.toList r
  rw [e2] at e3
  rw [tot] at hv
  have hg : growN ((v : Int), (()), ([] : List Int), ()) = some ((), [], ()) := by
    unfold growN
    dsimp only
    rw [decide_eq_true (show (0 : Int) ≤ (v : Int) by omega), decide_eq_true (show (v : Int) ≤ 70000000000000 by omega)]
    rfl
  rw [hg, Option.bind_some]
  dsimp only
  rw [show ix (x :: r) 0 = some x from rfl, Option.bind_some]
  have h1 := wStr [] x (by simp; omega)
  rw [show bi [] = [] from rfl, List.nil_append] at h1
  rw [h1, Option.bind_some]
  dsimp only
  have h2 : lsl (x :: r) 1 ((x :: r).length : Int) = some r := by
    unfold lsl
    rw [if_pos (by rw [List.length_cons]; omega)]
    simp
  rw [h2, Option.bind_some, R_strings_Join_s3 n _ _ r n a2 () _ (by omega) (by omega), fold3 n _ _ a2 ha r 0 _ (by rw [e1]; omega)]
  dsimp only
  rw [stringN_bi, Option.bind_some]
  rfl
theorem join_ok (n : Nat) (l : List ByteArray) (a2 : ByteArray) (h1 : 1 ≤ a2.size) (ha : a2.size ≤ 100) (hn : l.length < n) (hl : l.length ≤ 100000) (hz : (jL a2.data.toList l).length ≤ 60000000000000) :
    strings_Join n (l, a2, ()) = some (⟨(jL a2.data.toList l).toArray⟩, ()) := by
  unfold strings_Join
  dsimp only
  match l, hn, hl, hz with
  | [], _, _, _ => rfl
  | [x], _, _, _ =>
    show some (x, ()) = _
    rw [jL, jT, List.append_nil]
  | x :: y :: r, hn, hl, hz =>
    have e1 : x.data.toList.length = x.size := rfl
    have e2 : a2.data.toList.length = a2.size := rfl
    rw [jL, List.length_append, e1] at hz
    generalize hyr : y :: r = t at hn hl hz
    have ht : 1 ≤ t.length := by rw [← hyr]; simp
    simp only [List.length_cons] at hn hl
    have e3 := jT_len a2.data.toList t
    rw [e2] at e3
    have hmul : a2.size * t.length ≤ 60000000000000 := by omega
    have c1 : ((x :: t).length : Int) = (t.length : Int) + 1 := by simp
    rw [show ((((x :: t).length : Int) : Int) == 0) = false by rw [c1, beq_eq_false_iff_ne]; omega, cond_false, show ((((x :: t).length : Int) : Int) == 1) = false by rw [c1, beq_eq_false_iff_ne]; omega, cond_false, decide_eq_true (show ((a2.size : Int) : Int) > 0 by omega), cond_true]
    have w1 : IntKind.wrap .i64 (((x :: t).length : Int) - 1) = (t.length : Int) := by rw [wrap64 (by omega) (by omega)]; omega
    have w2 : nz? (t.length : Int) = some (t.length : Int) := by unfold nz?; rw [if_neg (by omega)]
    rw [w1, w2, Option.bind_some]
    have w3 : bquo .i64 9223372036854775807 (t.length : Int) ≥ 92233720368547 := by
      unfold bquo
      rw [Int.tdiv_eq_ediv_of_nonneg (by decide)]
      have q1 : (9223372036854775807 : Int) / (t.length : Int) ≤ 9223372036854775807 := Int.ediv_le_self _ (by decide)
      have q2 : 92233720368547 ≤ (9223372036854775807 : Int) / (t.length : Int) := by
        rw [Int.le_ediv_iff_mul_le (by omega)]
        omega
      rw [wrap64 (by omega) q1]
      exact q2
    rw [decide_eq_false (by omega), cond_false]
    have w4 : IntKind.wrap .i64 ((a2.size : Int) * (t.length : Int)) = ((a2.size * t.length : Nat) : Int) := by
      rw [Int.natCast_mul]
      exact wrap64 (by have : (0 : Int) ≤ (a2.size : Int) * (t.length : Int) := Int.mul_nonneg (by omega) (by omega); omega) (by rw [← Int.natCast_mul]; omega)
    have w5 : IntKind.wrap .i64 (0 + ((a2.size * t.length : Nat) : Int)) = ((a2.size * t.length : Nat) : Int) := by rw [wrap64 (by omega) (by omega)]; omega
    rw [w4, w5, R_strings_Join_s1 n _ _ (x :: t) n _ _ _ (by simp; omega) (by simp; omega), fold1 n _ _ (x :: t) a2 (x :: t) 0 _ (by rw [tot]; omega)]
    exact join_tail n x t a2 ha ht (by omega) (by omega) hz _ rfl
end Pure.Hi

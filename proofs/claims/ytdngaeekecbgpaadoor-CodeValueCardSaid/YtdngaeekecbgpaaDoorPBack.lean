/- The laws CodeBack and CodeSplits of the plain functions. No program. -/
import Derived.Test.YtdngaeekecbgpaaDoorPRead
import Derived.KernelRfl
namespace Pure
open Esp Ev Go
set_option linter.unusedSimpArgs false
set_option linter.unusedVariables false
set_option linter.unusedSimpArgs false
set_option linter.unusedVariables false

theorem coded_ok (n : Nat) (h : 100 ≤ n) : espalierlaw_coded n () = some (true, ()) := by
  obtain ⟨m, rfl⟩ : ∃ m, n = m + 100 := ⟨n - 100, by omega⟩
  kernel_rfl

def bytesR (v : Val) : ByteArray × Int := if chk v 1 ≠ 0 then (⟨#[]⟩, chk v 1) else if 8000 < (putL v).length then (⟨#[]⟩, 2) else (⟨(putL v).toArray⟩, 0)
theorem Bytes_ok (v : Val) (hv : vOk v) (n : Nat) (h : 60 ≤ n) : code_Bytes n (v, ()) = some ((bytesR v).1, (bytesR v).2, ()) := by
  simp only [code_Bytes, Val.eta, Check_ok v n (by omega), Option.bind_some, bytesR]
  by_cases hc : chk v 1 = 0
  · rw [hc]
    have hr := right_of v 1 hv hc
    have hp := put_ok hr n [] (by omega) (by omega) (by omega) (by have := putL_le hr; have := top_all 1 (by omega); simp; omega)
    rw [show bi [] = [] from rfl] at hp
    rw [show ((0 : Int) != 0) = false from rfl, cond_false, hp]
    simp only [List.nil_append, Option.bind_some, bi_length, str_ok]
    by_cases hl : 8000 < (putL v).length
    · rw [if_neg (by simp), if_pos hl]
      rw [show decide (((putL v).length : Int) > 8000) = true by rw [decide_eq_true_iff]; omega]
      rfl
    · rw [if_neg (by simp), if_neg hl]
      rw [show decide (((putL v).length : Int) > 8000) = false by rw [decide_eq_false_iff_not]; omega]
      rfl
  · rw [if_pos hc, show (chk v 1 != 0) = true by simpa using hc]
    rfl
theorem chk_right {v : Val} {d : Int} (h : Right v d) : chk v d = 0 := by
  induction h with
  | null d => rw [chk, seq_refl]; rfl
  | truth a d h => rcases h with rfl | rfl <;> (rw [chk, seq_refl]; rfl)
  | int a d h => rw [chk, seq_refl]; rfl
  | text s d h1 h2 =>
    rw [chk]
    rw [show ((3 : Int) == 0) = false from rfl, show ((3 : Int) == 1) = false from rfl, show ((3 : Int) == 2) = false from rfl, show ((3 : Int) == 3) = true from rfl, h2]
    simp only [cond_false, cond_true]
    rw [show decide ((s.size : Int) > 4000) = false by rw [decide_eq_false_iff_not]; omega]
    rfl
  | list l d h1 h2 h3 ih =>
    have hc : ∀ (r : List Val), (∀ x ∈ r, chk x (d + 1) = 0) → chks r (d + 1) = 0 := by
      intro r
      induction r with
      | nil => intro _; rfl
      | cons x r ih2 =>
        intro hr
        rw [chks, hr x (by simp)]
        exact ih2 fun y hy => hr y (by simp [hy])
    rw [chk, hc l ih]
    rw [show ((4 : Int) == 0) = false from rfl, show ((4 : Int) == 1) = false from rfl, show ((4 : Int) == 2) = false from rfl, show ((4 : Int) == 3) = false from rfl, show ((4 : Int) == 4) = true from rfl]
    simp only [cond_false, cond_true]
    rw [show decide ((l.length : Int) > 30) = false by rw [decide_eq_false_iff_not]; omega, show decide (d > 6) = false by rw [decide_eq_false_iff_not]; omega, seq_refl]
    rfl
theorem size_mk (l : List UInt8) : (⟨l.toArray⟩ : ByteArray).size = l.length := by show l.toArray.size = _; simp
theorem Value_ok {v : Val} (h : Right v 1) (hl : (putL v).length ≤ 8000) (n : Nat) (hn : 60 ≤ n) : code_Value n (⟨(putL v).toArray⟩, ()) = some (v, 0, ()) := by
  have e := read_ok h n [] (by omega) (by omega) (by omega)
  rw [List.append_nil] at e
  simp only [code_Value, Val.eta]
  rw [size_mk, show decide (((putL v).length : Int) > 8000) = false by rw [decide_eq_false_iff_not]; omega, cond_false, bytesI_eq, e]
  simp only [Option.bind_some, Check_ok v n (by omega), chk_right h]
  rfl
theorem Long_ok {v : Val} (h : Right v 1) (s : ByteArray) (t : List UInt8) (hs : s.data.toList = putL v ++ t) (hz : s.size ≤ 9223372036854775807) (n : Nat) (hn : 60 ≤ n) : code_Long n (s, ()) = some (((putL v).length : Int), true, ()) := by
  have e := read_ok h n t (by omega) (by omega) (by omega)
  have e2 : s.size = (putL v).length + t.length := by
    rw [← List.length_append, ← hs, Array.length_toList]
    rfl
  simp only [code_Long, Val.eta]
  rw [bytesI_eq, hs, e]
  simp only [Option.bind_some, Check_ok v n (by omega), chk_right h, cond_false, bi_length]
  rw [show ((0 : Int) != 0) = false from rfl, cond_false, wrap64 (by omega) (by omega), show (s.size : Int) - (t.length : Int) = ((putL v).length : Int) by omega]
theorem bytesR_0 {v : Val} (hv : vOk v) (h : (bytesR v).2 = 0) : Right v 1 ∧ (putL v).length ≤ 8000 ∧ bytesR v = (⟨(putL v).toArray⟩, 0) := by
  unfold bytesR at h ⊢
  split at h
  · rename_i hc; exact absurd h hc
  · rename_i hc
    have hc0 : chk v 1 = 0 := by simpa using hc
    split at h
    · simp at h
    · rename_i hl
      rw [if_neg hc, if_neg hl]
      exact ⟨right_of v 1 hv hc0, by omega, rfl⟩

theorem CodeBack_ok (v : Val) (hv : vOk v) (rest : ByteArray) (hr : rest.size ≤ 1152921504606846976) (n : Nat) (hn : 100 ≤ n) : espalierlaw_CodeBack n (v, rest, ()) = some (true, ()) := by
  simp only [espalierlaw_CodeBack, Val.eta, Bytes_ok v hv n (by omega), coded_ok n hn, Option.bind_some, Bool.not_true, Bool.false_or]
  by_cases hc : (bytesR v).2 = 0
  · obtain ⟨h1, h2, h3⟩ := bytesR_0 hv hc
    rw [h3]
    rw [show ((0 : Int) != 0) = false from rfl, cond_false]
    have e1 := Value_ok h1 h2 n (by omega)
    have e2 : cat? ⟨(putL v).toArray⟩ rest = some (⟨(putL v).toArray⟩ ++ rest) := by
      unfold cat?
      rw [if_pos (by rw [size_mk]; omega)]
    have e3 := Long_ok h1 (⟨(putL v).toArray⟩ ++ rest) rest.data.toList (by rw [ByteArray.data_append]; simp) (by rw [ByteArray.size_append, size_mk]; omega) n (by omega)
    simp only [e1, e2, e3, same_ok h1 n (by omega), Option.bind_some, size_mk]
    simp
  · rw [show ((bytesR v).2 != 0) = true by simpa using hc]
    rfl

/-! ## several values -/
def Good (ks : List Val) : Prop := (∀ k ∈ ks, Right k 1 ∧ (putL k).length ≤ 8000) ∧ (putLs ks).length ≤ 10000
theorem putL_pos (v : Val) : 1 ≤ (putL v).length := by
  cases v
  rw [putL]
  split
  · simp
  · split
    · simp
    · split <;> simp
theorem putLs_ge (l : List Val) : l.length ≤ (putLs l).length := by
  induction l with
  | nil => simp [putLs]
  | cons x r ih => have := putL_pos x; rw [putLs, List.length_append, List.length_cons]; omega
theorem putLs_snoc (l : List Val) (x : Val) : putLs (l ++ [x]) = putLs l ++ putL x := by
  induction l with
  | nil => simp [putLs]
  | cons y r ih => simp [putLs, ih]
theorem splits_loop {ρ : Type} (n : Nat) (hn : 60 ≤ n) (l : List Val) (hl : l.length ≤ maxLen) (hv : ∀ x ∈ l, vOk x) (kx : ByteArray × List Val × Unit → Option ρ) (kr : Unit → Option ρ) :
    ∀ (r p : List Val), l = p ++ r → ∀ (fuel : Nat) (ks : List Val), r.length < fuel → Good ks →
      ∃ ks2, Good ks2 ∧ iterN (fun rc => espalierlaw_CodeSplits_s0 n rc kx kr) fuel (⟨(putLs ks).toArray⟩, l, (l.length : Int), (p.length : Int), ks, ()) = kx (⟨(putLs ks2).toArray⟩, ks2, ()) := by
  have hm : l.length ≤ 9223372036854775807 := by unfold maxLen at hl; omega
  intro r
  induction r with
  | nil =>
    intro p hp fuel ks hf hg
    obtain ⟨m, rfl⟩ : ∃ m, fuel = m + 1 := ⟨fuel - 1, by omega⟩
    have e : decide ((p.length : Int) < (l.length : Int)) = false := by rw [decide_eq_false_iff_not]; subst hp; simp
    refine ⟨ks, hg, ?_⟩
    rw [iterN]
    simp only [espalierlaw_CodeSplits_s0, e, cond_false]
  | cons y r ih =>
    intro p hp fuel ks hf hg
    obtain ⟨m, rfl⟩ : ∃ m, fuel = m + 1 := ⟨fuel - 1, by omega⟩
    have hlen : l.length = p.length + (r.length + 1) := by rw [hp]; simp
    have e : decide ((p.length : Int) < (l.length : Int)) = true := by rw [decide_eq_true_iff]; omega
    have e2 : ix l (p.length : Int) = some y := ix_ok (by rw [hp]; simp)
    have e3 : IntKind.wrap .i64 ((p.length : Int) + 1) = ((p ++ [y]).length : Int) := by rw [wrap64 (by omega) (by omega)]; simp
    have hy := hv y (by rw [hp]; simp)
    have e4 := Bytes_ok y hy n hn
    simp only [iterN]
    simp only [espalierlaw_CodeSplits_s0, Val.eta, e, e2, e3, e4, cond_true, Option.bind_some]
    rw [size_mk]
    by_cases hc : (bytesR y).2 = 0 ∧ (putLs ks).length < 2000
    · obtain ⟨h1, h2, h3⟩ := bytesR_0 hy hc.1
      rw [h3]
      rw [show (((0 : Int) == 0) && decide (((putLs ks).length : Int) < 2000)) = true by rw [Bool.and_eq_true, decide_eq_true_iff]; exact ⟨rfl, by omega⟩, cond_true]
      have e5 : cat? ⟨(putLs ks).toArray⟩ ⟨(putL y).toArray⟩ = some ⟨(putLs (ks ++ [y])).toArray⟩ := by
        unfold cat?
        rw [if_pos (by rw [size_mk, size_mk]; omega), putLs_snoc]
        congr 1
      have hg2 : Good (ks ++ [y]) := ⟨fun k hk => by
        rcases List.mem_append.1 hk with hk | hk
        · exact hg.1 k hk
        · obtain rfl := List.mem_singleton.1 hk
          exact ⟨h1, h2⟩, by rw [putLs_snoc, List.length_append]; omega⟩
      obtain ⟨ks2, hg3, e6⟩ := ih (p ++ [y]) (by simp [hp]) m (ks ++ [y]) (by simp at hf; omega) hg2
      refine ⟨ks2, hg3, ?_⟩
      simp only [e5, Option.bind_some]
      rw [ck_ok (room56 (by have := putLs_ge (ks ++ [y]); have := hg2.2; omega))]
      exact e6
    · obtain ⟨ks2, hg3, e6⟩ := ih (p ++ [y]) (by simp [hp]) m ks (by simp at hf; omega) hg
      refine ⟨ks2, hg3, ?_⟩
      rw [show (((bytesR y).2 == 0) && decide (((putLs ks).length : Int) < 2000)) = false by
        rw [Bool.eq_false_iff]
        intro h
        rw [Bool.and_eq_true, decide_eq_true_iff] at h
        exact hc ⟨by simpa using h.1, by omega⟩, cond_false]
      exact e6
theorem apart_loop {ρ : Type} (n : Nat) (hn : 60 ≤ n) (l : List Val) (hg : Good l) (kx : ByteArray × Unit → Option ρ) (kr : Bool × Unit → Option ρ) :
    ∀ (r p : List Val), l = p ++ r → ∀ (fuel : Nat), r.length < fuel →
      iterN (fun rc => espalierlaw_CodeSplits_s2 n rc kx kr) fuel (⟨(putLs r).toArray⟩, l, (l.length : Int), (p.length : Int), ()) = kx (⟨#[]⟩, ()) := by
  have hm : l.length ≤ 10000 := by have := putLs_ge l; have := hg.2; omega
  intro r
  induction r with
  | nil =>
    intro p hp fuel hf
    obtain ⟨m, rfl⟩ : ∃ m, fuel = m + 1 := ⟨fuel - 1, by omega⟩
    have e : decide ((p.length : Int) < (l.length : Int)) = false := by rw [decide_eq_false_iff_not]; subst hp; simp
    rw [iterN]
    simp only [espalierlaw_CodeSplits_s2, e, cond_false]
    rfl
  | cons y r ih =>
    intro p hp fuel hf
    obtain ⟨m, rfl⟩ : ∃ m, fuel = m + 1 := ⟨fuel - 1, by omega⟩
    have hlen : l.length = p.length + (r.length + 1) := by rw [hp]; simp
    have e : decide ((p.length : Int) < (l.length : Int)) = true := by rw [decide_eq_true_iff]; omega
    have e2 : ix l (p.length : Int) = some y := ix_ok (by rw [hp]; simp)
    have e3 : IntKind.wrap .i64 ((p.length : Int) + 1) = ((p ++ [y]).length : Int) := by rw [wrap64 (by omega) (by omega)]; simp
    obtain ⟨h1, h2⟩ := hg.1 y (by rw [hp]; simp)
    have hpr : ∀ (q s : List Val), putLs (q ++ s) = putLs q ++ putLs s := by
      intro q s
      induction q with
      | nil => simp [putLs]
      | cons a q ihq => simp [putLs, ihq]
    have hz : (putL y).length + (putLs r).length ≤ 10000 := by
      have := hg.2
      rw [hp, hpr, putLs, List.length_append, List.length_append] at this
      omega
    have e4 := Long_ok h1 ⟨(putLs (y :: r)).toArray⟩ (putLs r) (by rw [putLs]) (by rw [size_mk, putLs, List.length_append]; omega) n hn
    have e5 : ssl ⟨(putLs (y :: r)).toArray⟩ 0 ((putL y).length : Int) = some ⟨(putL y).toArray⟩ := by
      unfold ssl
      rw [if_pos ⟨by omega, by omega, by rw [size_mk, putLs, List.length_append]; omega⟩]
      congr 1
      apply ByteArray.ext
      rw [ByteArray.data_extract]
      simp [putLs]
    have e6 : ssl ⟨(putLs (y :: r)).toArray⟩ ((putL y).length : Int) (((putLs (y :: r)).length : Nat) : Int) = some ⟨(putLs r).toArray⟩ := by
      unfold ssl
      rw [if_pos ⟨by omega, by rw [putLs, List.length_append]; omega, by rw [size_mk]; omega⟩]
      congr 1
      apply ByteArray.ext
      rw [ByteArray.data_extract]
      apply Array.toList_inj.1
      rw [Array.toList_extract, List.extract_eq_take_drop]
      have e : (putLs (y :: r)).toArray.toList.drop ((putL y).length : Int).toNat = putLs r := by simp [putLs]
      rw [e, List.take_of_length_le (by rw [putLs, List.length_append]; omega)]
    have e7 : decide (((putL y).length : Int) > (((putLs (y :: r)).length : Nat) : Int)) = false := by
      rw [decide_eq_false_iff_not, putLs, List.length_append]
      omega
    have e8 := ih (p ++ [y]) (by simp [hp]) m (by simp at hf; omega)
    rw [iterN]
    simp only [espalierlaw_CodeSplits_s2, Val.eta, e, e2, e3, e4, e5, size_mk, e6, e7, Value_ok h1 h2 n hn, same_ok h1 n (by omega), cond_true, cond_false, Bool.not_true, Bool.or_false, Option.bind_some]
    rw [show ((0 : Int) != 0) = false from rfl, cond_false]
    exact e8
theorem CodeSplits_ok (l : List Val) (hv : ∀ x ∈ l, vOk x) (hl : l.length ≤ maxLen) (n : Nat) (hn : 20000 ≤ n) (hn2 : l.length < n) : espalierlaw_CodeSplits n (l, ()) = some (true, ()) := by
  simp only [espalierlaw_CodeSplits]
  obtain ⟨ks, hg, e⟩ := splits_loop (ρ := Bool × Unit) n (by omega) l hl hv (fun (v11, o12, _) => iterN (fun rc28 => espalierlaw_CodeSplits_s2 n rc28 (fun (v25, _) => (espalierlaw_coded n (())).bind fun (y27, _) => some (y27 && (seq v25 (⟨#[]⟩ : ByteArray)), ())) (fun (v26, _) => some (v26, ()))) (n) (v11, o12, (o12.length : Int), 0, ())) (fun (_) => none)
    l [] rfl n [] hn2 ⟨fun _ h => (List.not_mem_nil h).elim, by simp [putLs]⟩
  refine e.trans ?_
  have hm : ks.length ≤ 10000 := by have := putLs_ge ks; have := hg.2; omega
  refine (apart_loop (ρ := Bool × Unit) n (by omega) ks hg _ _ ks [] rfl n (by omega)).trans ?_
  simp only [coded_ok n (by omega), Option.bind_some, seq_refl, Bool.and_self]
end Pure

/- The law CodeBytes of the plain functions. No program. -/
import Derived.Test.YtcdfapbfocdhjaaDoorPPut
import Derived.Test.YtcdfapbfocdhjaaDoorPOrder
import Derived.KernelRfl
namespace Pure
open Esp Ev Go
set_option linter.unusedSimpArgs false
set_option linter.unusedVariables false
set_option linter.unusedSimpArgs false
set_option linter.unusedVariables false

theorem coded_ok (n : Nat) (h : 100 ≤ n) : q2z n () = some (true, ()) := by
  obtain ⟨m, rfl⟩ : ∃ m, n = m + 100 := ⟨n - 100, by omega⟩
  kernel_rfl

def bytesR (v : Val) : ByteArray × Int := if chk v 1 ≠ 0 then (⟨#[]⟩, chk v 1) else if 8000 < (putL v).length then (⟨#[]⟩, 2) else (⟨(putL v).toArray⟩, 0)
theorem Bytes_ok (v : Val) (hv : vOk v) (n : Nat) (h : 60 ≤ n) : q7z n (v, ()) = some ((bytesR v).1, (bytesR v).2, ()) := by
  simp only [q7z, Val.eta, Check_ok v n (by omega), Option.bind_some, bytesR]
  by_cases hc : chk v 1 = 0
  · rw [hc]
    have hr := right_of v 1 hv hc
    have hp := put_ok hr n [] (by omega) (by omega) (by omega) (by have := putL_le hr; have := top_all 1 (by omega); simp; omega)
    rw [show bi [] = [] from rfl] at hp
    rw [show ((0 : Int) != 0) = false from rfl, cond_false, hp]
    simp only [List.nil_append, Option.bind_some, bi_length, str_ok]
    by_cases hl : 8000 < (putL v).length
    · rw [if_neg (by simp), if_pos hl]
      rw [show decide (((putL v).length : Int) > 8000) = true by rw [decide_eq_true_iff]; omega]
      rfl
    · rw [if_neg (by simp), if_neg hl]
      rw [show decide (((putL v).length : Int) > 8000) = false by rw [decide_eq_false_iff_not]; omega]
      rfl
  · rw [if_pos hc, show (chk v 1 != 0) = true by simpa using hc]
    rfl
theorem okV_right {v : Val} {d : Int} (h : Right v d) : OkV v d ∧ encL v = putL v := by
  induction h with
  | null d => exact ⟨.null _ _ _ _, rfl⟩
  | truth n d h => exact ⟨.truth _ _ _ _ (by omega) (by omega), rfl⟩
  | int n d h =>
    have hr : -9223372036854775808 ≤ n ∧ n ≤ 9223372036854775807 := by
      unfold wfI Lit.wf at h
      simp [IntKind.bits, IntKind.signed, IntKind.min, IntKind.max] at h
      omega
    exact ⟨.int _ _ _ _ hr.1 hr.2, rfl⟩
  | text s d h1 h2 => exact ⟨.text _ _ _ _ h1, rfl⟩
  | list l d h1 h2 h3 ih =>
    refine ⟨.list _ _ _ _ h1 h2 fun x hx => (ih x hx).1, ?_⟩
    have : encLs l = putLs l := by
      clear h1 h3
      induction l with
      | nil => rfl
      | cons x r ih2 => rw [encLs, putLs, (ih x (by simp)).2, ih2 fun y hy => ih y (by simp [hy])]
    simp [encL, putL, this]
theorem CodeBytes_ok (v : Val) (hv : vOk v) (n : Nat) (h : 100 ≤ n) : q1z n (v, ()) = some (true, ()) := by
  simp only [q1z, Val.eta, Bytes_ok v hv n (by omega), Option.bind_some, rcheck_ok v 1 n (by omega) (by omega) (by omega), coded_ok n h]
  by_cases hc : chk v 1 = 0
  · have hr := right_of v 1 hv hc
    obtain ⟨h1, h2⟩ := okV_right hr
    have hb : bytesOfN (v, ()) = some (⟨(putL v).toArray⟩, ()) := by
      simp only [bytesOfN, if_pos h1, h2]
    have hz : (⟨(putL v).toArray⟩ : ByteArray).size = (putL v).length := by show (putL v).toArray.size = _; simp
    rw [hc, show ((!true) || ((0 : Int) != 0)) = false from rfl, cond_false, hb]
    simp only [Option.bind_some, hz, bytesR]
    by_cases hl : 8000 < (putL v).length
    · rw [if_neg (by simp [hc]), if_pos hl, show decide (((putL v).length : Int) > 8000) = true by rw [decide_eq_true_iff]; omega, cond_true, seq_refl]
      rfl
    · rw [if_neg (by simp [hc]), if_neg hl, show decide (((putL v).length : Int) > 8000) = false by rw [decide_eq_false_iff_not]; omega, cond_false, seq_refl]
      rfl
  · rw [show ((!true) || (chk v 1 != 0)) = true by simpa using hc, cond_true]
    simp only [bytesR, if_pos hc, seq_refl]
    simp
end Pure

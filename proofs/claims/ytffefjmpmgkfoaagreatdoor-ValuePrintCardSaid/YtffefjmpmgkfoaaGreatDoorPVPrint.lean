/- ValuePrint: the plain law. No program. -/
import Derived.Test.YtffefjmpmgkfoaaGreatDoorPS
import Derived.Test.YtffefjmpmgkfoaaGreatDoorPPrR
namespace Pure
open Esp Ev Go
set_option linter.unusedSimpArgs false
set_option linter.unusedVariables false
set_option linter.unusedSimpArgs false
set_option linter.unusedVariables false
theorem okP_right {v : Val} {d : Int} (h : Right v d) : OkP v d := by
  induction h with
  | null d => exact .null _ _ _ _
  | truth n d h => exact .truth _ _ _ _ h
  | int n d h =>
    have hr := i64_range h
    exact .int _ _ _ _ hr.1 hr.2
  | text s d h1 h2 => exact .text _ _ _ _ h1
  | list l d h1 h2 h3 ih => exact .list _ _ _ _ h1 h2 ih
theorem printOf_ok {v : Val} (h : Right v 1) : printOfN (v, ()) = some (⟨(prV v).toArray⟩, ()) := by
  simp only [printOfN, if_pos (okP_right h)]
theorem ValuePrint_ok (v : Val) (hv : vOk v) (n : Nat) (hn : 10000 ≤ n) : q7z n (v, ()) = some (true, ()) := by
  have hval : q13z n () = some (true, ()) := by
    have := valued_ok (n - 40)
    rwa [show n - 40 + 40 = n by omega] at this
  unfold q7z
  have hs0 : ∀ b : ByteArray, seq b b = true := fun b => by unfold seq; simp
  cases hc : chk v 1 != 0
  · have h0 : chk v 1 = 0 := by simpa using hc
    have hr := right_of v 1 hv h0
    have hz : (⟨(prV v).toArray⟩ : ByteArray).size = (prV v).length := by show (prV v).toArray.size = _; simp
    simp only [Val.eta, Print_ok v n (by omega) h0 hr]
    by_cases hl : ((prV v).length : Int) > 4000
    · rw [decide_eq_true hl, cond_true]
      simp only [Option.bind_some, rcheck_ok v 1 n (by omega) (by omega) (by omega), hval, h0, printOf_ok hr, hz]
      rw [decide_eq_true hl]
      simp [hs0]
    · rw [decide_eq_false hl, cond_false]
      simp only [Option.bind_some, rcheck_ok v 1 n (by omega) (by omega) (by omega), hval, h0, printOf_ok hr, hz]
      rw [decide_eq_false hl]
      simp [hs0]
  · simp only [Val.eta, Print_bad v n (by omega) hc, Option.bind_some, rcheck_ok v 1 n (by omega) (by omega) (by omega), hval]
    rw [show ((!true) || (chk v 1 != 0)) = true by rw [hc]; rfl, cond_true]
    simp [hs0]
end Pure


/- The law on what a bag is. No program. -/
import Derived.Test.YtnfoajgolcenlaaDoorPBag2
namespace Pure
open Esp Ev Go
set_option linter.unusedSimpArgs false
set_option linter.unusedVariables false
set_option linter.unusedSimpArgs false
set_option linter.unusedVariables false

theorem bagged_ok (n : Nat) (hn : 300 ≤ n) : espalierlaw_bagged n () = some (true, ()) := by
  obtain ⟨m, rfl⟩ : ∃ m, n = m + 300 := ⟨n - 300, by omega⟩
  kernel_rfl
theorem BagCheck_ok (b : List Cnt) (x y : List Val) (hw : ∀ c ∈ b, cOk c) (hx : x.length ≤ maxLen) (hx2 : ∀ v ∈ x, vOk v) (n : Nat) (hn : bSz b + lSz x + 3000 ≤ n) : espalierlaw_BagCheck n (b, x, y, ()) = some (true, ()) := by
  unfold espalierlaw_BagCheck
  dsimp only
  rw [bagged_ok n (by omega), Option.bind_some]
  dsimp only
  rw [cond_true, bcheck_ok b n hw (by omega), rbcheck_ok b n hw (by omega), Option.bind_some, Option.bind_some]
  dsimp only
  rw [beq_self_eq_true, cond_true, compare_ok x y n hx hx2 (by omega), rcompare_ok x y n hx hx2 (by omega), Option.bind_some, Option.bind_some]
  dsimp only
  rw [beq_self_eq_true]
end Pure

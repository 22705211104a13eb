/- ValueCheck: the plain law. -/
import Derived.Test.YtlheengcpaepnaaDoorPOrder
import Derived.KernelRfl
namespace Pure
open Esp Ev Go
set_option linter.unusedSimpArgs false
set_option linter.unusedVariables false
theorem valued_ok (n : Nat) : espalierlaw_valued (n + 40) () = some (true, ()) := by kernel_rfl
theorem ValueCheck_ok (v : Val) : espalierlaw_ValueCheck 100 (v, ()) = some (true, ()) := by
  have h1 := valued_ok 60
  have h2 := Check_ok v 100 (by omega)
  have h3 := rcheck_ok v 1 100 (by omega) (by omega) (by omega)
  simp only [espalierlaw_ValueCheck, Val.eta, h1, h2, h3, Option.bind_some, cond_true]
  simp
end Pure

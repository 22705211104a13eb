import Derived.Test.YtmpcgmlknbmpbaaDoorProg
import Derived.WalkKit
import Derived.KernelRfl
import Derived.LoopN
import Derived.RegionTactic
import Derived.ChangeAlike
import Derived.Deep.RegionWith
import Derived.Deep.QuietTactic
import Derived.BigQuiet
import Derived.Test.YtmpcgmlknbmpbaaDoorEvSortL
namespace Go.Proofs.YtmpcgmlknbmpbaaDoor
open Go Go.Sort Esp
set_option linter.unusedSimpArgs false
set_option linter.unusedVariables false
set_option maxHeartbeats 2000000
set_option maxRecDepth 100000
theorem nanF (i : Int) (W : World) : Calls Tryd.prog 77 #[.int .i64 i] W fun e w' => e = .returned (.bool false) ∧ w' = W := by
 go_enter Tryd.func77, Tryd.ntmps77
 go_wp2
 go_ret
 simp
theorem cmpF (i j : Int) (W : World) : Calls Tryd.prog 49 #[.int .i64 i, .int .i64 j] W fun e w' => e = .returned (.int .i64 (cmpI i j)) ∧ w' = W := by
 have h1 := nanF i W
 have h2 := nanF j W
 unfold cmpI
 by_cases hlt : i < j
 ·go_enter Tryd.func49, Tryd.ntmps49
  go_wp2_with (first
   | (go_at_call 77; refine h1.mono ?_; rintro e w' ⟨rfl, rfl⟩)
   | (go_at_call 77; refine h2.mono ?_; rintro e w' ⟨rfl, rfl⟩))
  go_ret
  simp [hlt]
 ·by_cases hgt : i > j
  ·go_enter Tryd.func49, Tryd.ntmps49
   go_wp2_with (first
    | (go_at_call 77; refine h1.mono ?_; rintro e w' ⟨rfl, rfl⟩)
    | (go_at_call 77; refine h2.mono ?_; rintro e w' ⟨rfl, rfl⟩))
   go_ret
   simp [hlt, hgt]
  ·go_enter Tryd.func49, Tryd.ntmps49
   go_wp2_with (first
    | (go_at_call 77; refine h1.mono ?_; rintro e w' ⟨rfl, rfl⟩)
    | (go_at_call 77; refine h2.mono ?_; rintro e w' ⟨rfl, rfl⟩))
   go_ret
   simp [hlt, hgt]
theorem cmpS (W : World) (g1 g2 : Nat) (a b : Ev.Pair) (h0 : W.cell? ⟨g1, 0, none⟩ = some (.int .i64 a.p)) (h1 : W.cell? ⟨g1, 1, none⟩ = some (.int .i64 a.q)) (k0 : W.cell? ⟨g2, 0, none⟩ = some (.int .i64 b.p)) (k1 : W.cell? ⟨g2, 1, none⟩ = some (.int .i64 b.q)) :
  Calls Tryd.prog 16 #[.slice (some ⟨g1, 0, none⟩) 2 2, .slice (some ⟨g2, 0, none⟩) 2 2] W fun e w' => e = .returned (.int .i64 (cmpP a b)) ∧ w' = W := by
 obtain ⟨ap, aq⟩ := a
 obtain ⟨bp, bq⟩ := b
 dsimp only at h0 h1 k0 k1
 have c0 := cmpF ap bp W
 have c1 := cmpF aq bq W
 have hz : cmpP ⟨ap, aq⟩ ⟨bp, bq⟩ = if cmpI ap bp ≠ 0 then cmpI ap bp else cmpI aq bq := by
  unfold cmpP cmpI
  dsimp only
  by_cases h1 : ap < bp
  ·simp [h1]
  ·by_cases h2 : ap > bp <;> simp [h1, h2]
 rw [hz]
 generalize cmpI ap bp = r0 at c0 ⊢
 generalize cmpI aq bq = r1 at c1 ⊢
 by_cases hr0 : r0 = 0
 ·subst hr0
  by_cases hr1 : r1 = 0
  ·subst hr1
   go_enter Tryd.func16, Tryd.ntmps16
   go_wp2
   refine wp_loop_rounds 3 ?_
   rw [rounds_succ]
   go_wp2_with (go_at_call 49; refine c0.mono ?_; rintro e w' ⟨rfl, rfl⟩)
   rw [rounds_succ]
   go_wp2_with (go_at_call 49; refine c1.mono ?_; rintro e w' ⟨rfl, rfl⟩)
   rw [rounds_succ]
   go_wp2
   go_ret
   simp
  ·have hne : (r1 != 0) = true := by simpa using hr1
   go_enter Tryd.func16, Tryd.ntmps16
   go_wp2
   refine wp_loop_rounds 3 ?_
   rw [rounds_succ]
   go_wp2_with (go_at_call 49; refine c0.mono ?_; rintro e w' ⟨rfl, rfl⟩)
   rw [rounds_succ]
   go_wp2_with (go_at_call 49; refine c1.mono ?_; rintro e w' ⟨rfl, rfl⟩)
   go_ret
   simp
 ·have hne : (r0 != 0) = true := by simpa using hr0
  go_enter Tryd.func16, Tryd.ntmps16
  go_wp2
  refine wp_loop_rounds 3 ?_
  rw [rounds_succ]
  go_wp2_with (go_at_call 49; refine c0.mono ?_; rintro e w' ⟨rfl, rfl⟩)
  go_ret
  simp [hr0]
end Go.Proofs.YtmpcgmlknbmpbaaDoor

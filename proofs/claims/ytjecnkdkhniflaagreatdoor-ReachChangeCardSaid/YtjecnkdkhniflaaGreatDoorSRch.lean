/- reach.compare and the document's order of pairs, walked at the seat. -/
import Derived.Test.YtjecnkdkhniflaaGreatDoorProg
import Derived.WalkKit
import Derived.KernelRfl
import Derived.LoopN
import Derived.RegionTactic
import Derived.ChangeAlike
import Derived.Deep.RegionWith
import Derived.Deep.QuietTactic
import Derived.BigQuiet
import Derived.Test.YtjecnkdkhniflaaGreatDoorEvSortC
namespace Go.Proofs.YtjecnkdkhniflaaGreatDoor
open Go Go.Sort Esp
set_option linter.unusedSimpArgs false
set_option linter.unusedVariables false
set_option maxHeartbeats 2000000
set_option maxRecDepth 100000
theorem nanF (i : Int) (W : World) : Calls Tryz.prog 89 #[.int .i64 i] W fun e w' => e = .returned (.bool false) ∧ w' = W := by
  go_enter Tryz.func89, Tryz.ntmps89
  go_wp2
  go_ret
  simp
theorem cmpF (i j : Int) (W : World) : Calls Tryz.prog 52 #[.int .i64 i, .int .i64 j] W fun e w' => e = .returned (.int .i64 (cmpI i j)) ∧ w' = W := by
  have h1 := nanF i W
  have h2 := nanF j W
  unfold cmpI
  by_cases hlt : i < j
  · go_enter Tryz.func52, Tryz.ntmps52
    go_wp2_with (first
      | (go_at_call 89; refine h1.mono ?_; rintro e w' ⟨rfl, rfl⟩)
      | (go_at_call 89; refine h2.mono ?_; rintro e w' ⟨rfl, rfl⟩))
    go_ret
    simp [hlt]
  · by_cases hgt : i > j
    · go_enter Tryz.func52, Tryz.ntmps52
      go_wp2_with (first
        | (go_at_call 89; refine h1.mono ?_; rintro e w' ⟨rfl, rfl⟩)
        | (go_at_call 89; refine h2.mono ?_; rintro e w' ⟨rfl, rfl⟩))
      go_ret
      simp [hlt, hgt]
    · go_enter Tryz.func52, Tryz.ntmps52
      go_wp2_with (first
        | (go_at_call 89; refine h1.mono ?_; rintro e w' ⟨rfl, rfl⟩)
        | (go_at_call 89; refine h2.mono ?_; rintro e w' ⟨rfl, rfl⟩))
      go_ret
      simp [hlt, hgt]
theorem cmpS (W : World) (g1 g2 : Nat) (a b : Ev.Pair) (h0 : W.cell? ⟨g1, 0, none⟩ = some (.int .i64 a.p)) (h1 : W.cell? ⟨g1, 1, none⟩ = some (.int .i64 a.q)) (k0 : W.cell? ⟨g2, 0, none⟩ = some (.int .i64 b.p)) (k1 : W.cell? ⟨g2, 1, none⟩ = some (.int .i64 b.q)) :
    Calls Tryz.prog 48 #[.slice (some ⟨g1, 0, none⟩) 2 2, .slice (some ⟨g2, 0, none⟩) 2 2] W fun e w' => e = .returned (.int .i64 (cmpP a b)) ∧ w' = W := by
  obtain ⟨ap, aq⟩ := a
  obtain ⟨bp, bq⟩ := b
  dsimp only at h0 h1 k0 k1
  have c0 := cmpF ap bp W
  have c1 := cmpF aq bq W
  have hz : cmpP ⟨ap, aq⟩ ⟨bp, bq⟩ = if cmpI ap bp ≠ 0 then cmpI ap bp else cmpI aq bq := by
    unfold cmpP cmpI
    dsimp only
    by_cases h1 : ap < bp
    · simp [h1]
    · by_cases h2 : ap > bp <;> simp [h1, h2]
  rw [hz]
  generalize cmpI ap bp = r0 at c0 ⊢
  generalize cmpI aq bq = r1 at c1 ⊢
  by_cases hr0 : r0 = 0
  · subst hr0
    by_cases hr1 : r1 = 0
    · subst hr1
      go_enter Tryz.func48, Tryz.ntmps48
      go_wp2
      refine wp_loop_rounds 3 ?_
      rw [rounds_succ]
      go_wp2_with (go_at_call 52; refine c0.mono ?_; rintro e w' ⟨rfl, rfl⟩)
      rw [rounds_succ]
      go_wp2_with (go_at_call 52; refine c1.mono ?_; rintro e w' ⟨rfl, rfl⟩)
      rw [rounds_succ]
      go_wp2
      go_ret
      simp
    · have hne : (r1 != 0) = true := by simpa using hr1
      go_enter Tryz.func48, Tryz.ntmps48
      go_wp2
      refine wp_loop_rounds 3 ?_
      rw [rounds_succ]
      go_wp2_with (go_at_call 52; refine c0.mono ?_; rintro e w' ⟨rfl, rfl⟩)
      rw [rounds_succ]
      go_wp2_with (go_at_call 52; refine c1.mono ?_; rintro e w' ⟨rfl, rfl⟩)
      go_ret
      simp
  · have hne : (r0 != 0) = true := by simpa using hr0
    go_enter Tryz.func48, Tryz.ntmps48
    go_wp2
    refine wp_loop_rounds 3 ?_
    rw [rounds_succ]
    go_wp2_with (go_at_call 52; refine c0.mono ?_; rintro e w' ⟨rfl, rfl⟩)
    go_ret
    simp [hr0]
theorem cmpR (a b : Ev.Pair) (W : World) : Calls Tryz.prog 32 #[.agg #[.int .i64 a.p, .int .i64 a.q], .agg #[.int .i64 b.p, .int .i64 b.q]] W fun e w' => e = .returned (.int .i64 (cmpP a b)) ∧ ∃ n os, w' = grow (W.drewN n) os := by
  have hb1 : (W.alloc (.cells #[.int .i64 a.p, .int .i64 a.q] 66)).heap[W.heap.size]? = some (.cells #[.int .i64 a.p, .int .i64 a.q] 66 (0, 0)) := heap_alloc_new W _
  have z1 : (W.alloc (.cells #[.int .i64 a.p, .int .i64 a.q] 66)).heap.size = W.heap.size + 1 := Array.size_push ..
  have hb2 : ((W.alloc (.cells #[.int .i64 a.p, .int .i64 a.q] 66)).alloc (.cells #[.int .i64 b.p, .int .i64 b.q] 66)).heap[W.heap.size + 1]? = some (.cells #[.int .i64 b.p, .int .i64 b.q] 66 (0, 0)) := by
    have := heap_alloc_new (W.alloc (.cells #[.int .i64 a.p, .int .i64 a.q] 66)) (.cells #[.int .i64 b.p, .int .i64 b.q] 66)
    rw [z1] at this
    exact this
  have hb1' : ((W.alloc (.cells #[.int .i64 a.p, .int .i64 a.q] 66)).alloc (.cells #[.int .i64 b.p, .int .i64 b.q] 66)).heap[W.heap.size]? = some (.cells #[.int .i64 a.p, .int .i64 a.q] 66 (0, 0)) :=
    (Go.RowKit.Below.heap_alloc _ _ W.heap.size (by rw [z1]; omega)).trans hb1
  generalize hX : (W.alloc (.cells #[.int .i64 a.p, .int .i64 a.q] 66)).alloc (.cells #[.int .i64 b.p, .int .i64 b.q] 66) = X at *
  have hc : Calls Tryz.prog 48 #[.slice (some ⟨W.heap.size, 0, none⟩) 2 2, .slice (some ⟨W.heap.size + 1, 0, none⟩) 2 2] X.drew fun e w' => e = .returned (.int .i64 (cmpP a b)) ∧ w' = X.drew :=
    cmpS _ _ _ a b ((Lib.cell_of_heap (w := X.drew) hb1' 0).trans rfl) ((Lib.cell_of_heap (w := X.drew) hb1' 1).trans rfl) ((Lib.cell_of_heap (w := X.drew) hb2 0).trans rfl) ((Lib.cell_of_heap (w := X.drew) hb2 1).trans rfl)
  generalize cmpP a b = r at hc ⊢
  go_enter Tryz.func32, Tryz.ntmps32
  go_wp2
  go_region_with (go_at_call 48; refine hc.mono ?_; rintro e w' ⟨rfl, rfl⟩)
  all_goals go_wp2
  all_goals go_ret
  all_goals exact ⟨rfl, 1, _, by rw [← hX, alloc_eq_grow, alloc_eq_grow, grow_grow]; rfl⟩
theorem lessR (gb bx n cap : Nat) (dk : Array Ev.Pair) (W : World) (t : TypeId) (hn : dk.size = n) (hb : W.heap[bx]? = some (.cells #[.slice (some ⟨gb, 0, none⟩) n cap] t (0, 0))) (hH : HoldsK scPair.enc 2 W gb 0 dk) (hcap : n ≤ cap) (i j : Nat) (hi : i < n) (hj : j < n) :
    Calls Tryz.prog 25 #[.int .i64 i, .int .i64 j, .pointer (some ⟨bx, 0, none⟩)] W fun e w' => e = .returned (.bool (ltP dk[i]! dk[j]!)) ∧ ∃ q, w' = W.drewN q := by
  have hget : ∀ k, k < n → ∀ o, o < 2 → W.cell? ⟨gb, k * 2 + o, none⟩ = some ((scPair.enc dk[k]!)[o]!) := fun k hk o ho => by
    have h1 := (hH (k * 2 + o) (by rw [size_flatK, hn]; omega)).1
    rw [get_flatK _ _ _ _ (by rw [hn]; omega), Nat.zero_add] at h1
    rw [h1, show (k * 2 + o) / 2 = k by omega, show (k * 2 + o) % 2 = o by omega]
    rfl
  have c0 : W.cell? ⟨bx, 0, none⟩ = some (.slice (some ⟨gb, 0, none⟩) n cap) := (Lib.cell_of_heap hb 0).trans rfl
  have i0 : W.cell? ⟨gb, i * 2, none⟩ = some (.int .i64 dk[i]!.p) := hget i hi 0 (by omega)
  have i1 : W.cell? ⟨gb, i * 2 + 1, none⟩ = some (.int .i64 dk[i]!.q) := hget i hi 1 (by omega)
  have j0 : W.cell? ⟨gb, j * 2, none⟩ = some (.int .i64 dk[j]!.p) := hget j hj 0 (by omega)
  have j1 : W.cell? ⟨gb, j * 2 + 1, none⟩ = some (.int .i64 dk[j]!.q) := hget j hj 1 (by omega)
  have hlt : ltP dk[i]! dk[j]! = (decide (dk[i]!.p < dk[j]!.p) || ((dk[i]!.p == dk[j]!.p) && decide (dk[i]!.q < dk[j]!.q))) := by
    unfold ltP
    by_cases h1 : dk[i]!.p < dk[j]!.p
    · simp [h1]
    · by_cases h2 : dk[i]!.p = dk[j]!.p <;> simp [h1, h2]
  rw [hlt]
  generalize dk[i]!.p = a at i0 ⊢
  generalize dk[i]!.q = b at i1 ⊢
  generalize dk[j]!.p = c at j0 ⊢
  generalize dk[j]!.q = d at j1 ⊢
  clear hget hH hlt
  have li : (i : Int) < (n : Int) := by omega
  have lj : (j : Int) < (n : Int) := by omega
  have li0 : (0 : Int) ≤ (i : Int) := by omega
  have lj0 : (0 : Int) ≤ (j : Int) := by omega
  by_cases h1 : a < c
  · go_enter Tryz.func25, Tryz.ntmps25
    go_wp2
    go_quiet (fail)
    go_wp2
    go_ret
    exact ⟨by simp [h1], _, rfl⟩
  · have h1' : decide (a < c) = false := by simpa using h1
    by_cases h2 : a = c
    · subst h2
      go_enter Tryz.func25, Tryz.ntmps25
      go_wp2
      go_quiet (fail)
      go_wp2
      go_ret
      exact ⟨by simp, _, rfl⟩
    · have h2' : (a == c) = false := by simpa using h2
      go_enter Tryz.func25, Tryz.ntmps25
      go_wp2
      go_quiet (fail)
      go_wp2
      go_ret
      exact ⟨by simp [h1, h2], _, rfl⟩
end Go.Proofs.YtjecnkdkhniflaaGreatDoor

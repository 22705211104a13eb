/- The closures that slices.SortFunc is handed, walked at the seat. -/
import Derived.Test.YtneindkhjadnaaaGreatDoorProg
import Derived.WalkKit
import Derived.KernelRfl
import Derived.Laws.Externs
import Derived.Test.YtneindkhjadnaaaGreatDoorEvSortF
namespace Go.Proofs.YtneindkhjadnaaaGreatDoor
open Go Go.Sort Esp
set_option linter.unusedSimpArgs false
set_option linter.unusedVariables false
set_option maxHeartbeats 1000000 in
set_option maxRecDepth 100000 in
theorem cmpF (i j : Int) (W : World) : Calls Tryz.prog 22 #[.int .i64 i, .int .i64 j] W fun e w' => e = .returned (.int .i64 (cmpI i j)) ∧ w' = W := by
  unfold cmpI
  by_cases h1 : i < j
  · go_enter Tryz.func22, Tryz.ntmps22
    go_wp2
    go_ret
    simp [h1]
  · by_cases h2 : i > j
    · go_enter Tryz.func22, Tryz.ntmps22
      go_wp2
      go_ret
      simp [h1, h2]
    · go_enter Tryz.func22, Tryz.ntmps22
      go_wp2
      go_ret
      simp [h1, h2]
theorem heads {p : List Value} {v : Value} {n : Nat} (h : p.length = n + 1) (h0 : p[0]? = some v) : ∃ r, p = v :: r ∧ r.length = n := by
  cases p with
  | nil => cases h0
  | cons a r => cases h0; exact ⟨r, rfl, by simpa using h⟩
theorem tails {p : List Value} {n : Nat} (h : p.length = n + 1) : ∃ v r, p = v :: r ∧ r.length = n := by
  cases p with
  | nil => cases h
  | cons a r => exact ⟨a, r, rfl, by simpa using h⟩
set_option maxHeartbeats 1000000 in
set_option maxRecDepth 100000 in
theorem cloNode (i j : Int) (a0 a1 b0 b1 : Value) (W : World) : Calls Tryz.prog 21 #[.agg #[.int .i64 i, a0, a1], .agg #[.int .i64 j, b0, b1]] W fun e w' => e = .returned (.int .i64 (cmpI i j)) ∧ ∃ n os, w' = grow (W.drewN n) os := by
  have hcon := fun W' => cmpF i j W'
  generalize cmpI i j = r at hcon ⊢
  go_enter Tryz.func21, Tryz.ntmps21
  go_wp2_with (go_at_call 22; refine (hcon _).mono ?_; rintro e w' ⟨rfl, rfl⟩)
  go_ret
  exact ⟨rfl, 0, _, by rw [alloc_eq_grow, alloc_eq_grow, grow_grow]; rfl⟩
theorem closNode (p q : List Value) (i j : Int) (W : World) (hp : p.length = 3) (hq : q.length = 3) (h0 : p[0]? = some (.int .i64 i)) (k0 : q[0]? = some (.int .i64 j)) : Calls Tryz.prog 21 #[.agg p.toArray, .agg q.toArray] W fun e w' => e = .returned (.int .i64 (cmpI i j)) ∧ ∃ n os, w' = grow (W.drewN n) os := by
  obtain ⟨r0p, rfl, hp0⟩ := heads (n := 2) (h := hp) h0
  obtain ⟨a0, r1p, rfl, hp1⟩ := tails (n := 1) hp0
  obtain ⟨a1, r2p, rfl, hp2⟩ := tails (n := 0) hp1
  obtain rfl := List.eq_nil_of_length_eq_zero hp2
  obtain ⟨r0q, rfl, hq0⟩ := heads (n := 2) (h := hq) k0
  obtain ⟨b0, r1q, rfl, hq1⟩ := tails (n := 1) hq0
  obtain ⟨b1, r2q, rfl, hq2⟩ := tails (n := 0) hq1
  obtain rfl := List.eq_nil_of_length_eq_zero hq2
  exact cloNode i j a0 a1 b0 b1 W
set_option maxHeartbeats 1000000 in
set_option maxRecDepth 100000 in
theorem cloEdge (i j : Int) (a0 a1 a2 a3 b0 b1 b2 b3 : Value) (W : World) : Calls Tryz.prog 24 #[.agg #[.int .i64 i, a0, a1, a2, a3], .agg #[.int .i64 j, b0, b1, b2, b3]] W fun e w' => e = .returned (.int .i64 (cmpI i j)) ∧ ∃ n os, w' = grow (W.drewN n) os := by
  have hcon := fun W' => cmpF i j W'
  generalize cmpI i j = r at hcon ⊢
  go_enter Tryz.func24, Tryz.ntmps24
  go_wp2_with (go_at_call 22; refine (hcon _).mono ?_; rintro e w' ⟨rfl, rfl⟩)
  go_ret
  exact ⟨rfl, 0, _, by rw [alloc_eq_grow, alloc_eq_grow, grow_grow]; rfl⟩
theorem closEdge (p q : List Value) (i j : Int) (W : World) (hp : p.length = 5) (hq : q.length = 5) (h0 : p[0]? = some (.int .i64 i)) (k0 : q[0]? = some (.int .i64 j)) : Calls Tryz.prog 24 #[.agg p.toArray, .agg q.toArray] W fun e w' => e = .returned (.int .i64 (cmpI i j)) ∧ ∃ n os, w' = grow (W.drewN n) os := by
  obtain ⟨r0p, rfl, hp0⟩ := heads (n := 4) (h := hp) h0
  obtain ⟨a0, r1p, rfl, hp1⟩ := tails (n := 3) hp0
  obtain ⟨a1, r2p, rfl, hp2⟩ := tails (n := 2) hp1
  obtain ⟨a2, r3p, rfl, hp3⟩ := tails (n := 1) hp2
  obtain ⟨a3, r4p, rfl, hp4⟩ := tails (n := 0) hp3
  obtain rfl := List.eq_nil_of_length_eq_zero hp4
  obtain ⟨r0q, rfl, hq0⟩ := heads (n := 4) (h := hq) k0
  obtain ⟨b0, r1q, rfl, hq1⟩ := tails (n := 3) hq0
  obtain ⟨b1, r2q, rfl, hq2⟩ := tails (n := 2) hq1
  obtain ⟨b2, r3q, rfl, hq3⟩ := tails (n := 1) hq2
  obtain ⟨b3, r4q, rfl, hq4⟩ := tails (n := 0) hq3
  obtain rfl := List.eq_nil_of_length_eq_zero hq4
  exact cloEdge i j a0 a1 a2 a3 b0 b1 b2 b3 W
end Go.Proofs.YtneindkhjadnaaaGreatDoor

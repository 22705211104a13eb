/- The walk of Names: slices.Equal of ints says whether two lists are one, and Names returns true. -/
import Derived.Test.YtdngaeekecbgpaaRows
import Derived.KernelRfl
import Derived.Test.YtdngaeekecbgpaaEspData
namespace Go.Proofs.Ytdngaeekecbgpaa
open Go Esp
set_option maxRecDepth 100000
set_option linter.unusedSimpArgs false
set_option linter.unusedVariables false
noncomputable def C4 : Code := (Try.f4.body).getD .skip

theorem equalI (a b : List Int) (ha : a.length ≤ 1152921504606846976) (hb : b.length ≤ 1152921504606846976) : PCalls Try.prog 4 [.cell (.d (.sl 1 a.length (encI a))), .cell (.d (.sl 1 b.length (encI b)))] (.cell (.d (.sc (.bool (decide (a = b)))))) := by
  refine ACalls.of_AWF (fn := Try.f4) (c := C4) (N := 26) (rs := [.tmp 4]) Try.func4 (by kernel_rfl) (by kernel_rfl) (by kernel_rfl) (by simp) (by kernel_rfl) ?_
  show AW Try.prog 26 C4 ⟨[(0, .cell (.d (.sl 1 a.length (encI a)))), (1, .cell (.d (.sl 1 b.length (encI b))))], []⟩ _
  refine AW.seq (by kernel_rfl) ?_
  refine AW.region (n := 1) (by kernel_rfl) (by kernel_rfl) ?_
  refine AOps.steps (i := 0) (m := 1) (r := 0) (i' := 1) (st' := ⟨[(4, .cell (.d (.sc (.bool false)))), (0, .cell (.d (.sl 1 a.length (encI a)))), (1, .cell (.d (.sl 1 b.length (encI b))))], []⟩) (by kernel_rfl) rfl rfl ?_
  refine AOps.keep [0, 1] [] (st' := ⟨[(0, .cell (.d (.sl 1 a.length (encI a)))), (1, .cell (.d (.sl 1 b.length (encI b))))], []⟩) (by kernel_rfl) ?_
  refine AOps.done ?_
  refine Then.go ?_
  refine AW.seq (by kernel_rfl) ?_
  refine AW.seq (by kernel_rfl) ?_
  refine AW.region (n := 5) (by kernel_rfl) (by kernel_rfl) ?_
  refine AOps.steps (i := 0) (m := 5) (r := 0) (i' := 5) (st' := ⟨[(10, .cell (.d (.sc (.bool (((a.length : Int) : Int) != (b.length : Int)))))), (9, .cell (.d (.sc (.int .i64 (b.length : Int))))), (8, .cell (.d (.sl 1 b.length (encI b)))), (7, .cell (.d (.sc (.int .i64 (a.length : Int))))), (6, .cell (.d (.sl 1 a.length (encI a)))), (0, .cell (.d (.sl 1 a.length (encI a)))), (1, .cell (.d (.sl 1 b.length (encI b))))], []⟩) (by kernel_rfl) rfl rfl ?_
  refine AOps.keep [0, 1, 10] [] (st' := ⟨[(0, .cell (.d (.sl 1 a.length (encI a)))), (1, .cell (.d (.sl 1 b.length (encI b)))), (10, .cell (.d (.sc (.bool (((a.length : Int) : Int) != (b.length : Int))))))], []⟩) (by kernel_rfl) ?_
  refine AOps.done ?_
  refine Then.go ?_
  refine AW.cond (b := ((a.length : Int) : Int) != (b.length : Int)) (by kernel_rfl) (by kernel_rfl) (fun h1 => ?_) (fun h1 => ?_)
  · -- ((a.length : Int) : Int) != (b.length : Int) = True
    try simp only [Bool.and_eq_true, Bool.or_eq_true, Bool.and_eq_false_iff, Bool.or_eq_false_iff, decide_eq_true_eq, decide_eq_false_iff_not, beq_iff_eq, bne_iff_ne, ne_eq, Bool.not_eq_true', Bool.not_eq_false', beq_eq_false_iff_ne, bne_eq_false_iff_eq, Decidable.not_not, Int.not_lt, Int.not_le, gt_iff_lt, ge_iff_le] at h1
    refine AW.seq (by kernel_rfl) ?_
    refine AW.region (n := 1) (by kernel_rfl) (by kernel_rfl) ?_
    refine AOps.steps (i := 0) (m := 1) (r := 0) (i' := 1) (st' := ⟨[(4, .cell (.d (.sc (.bool false)))), (0, .cell (.d (.sl 1 a.length (encI a)))), (1, .cell (.d (.sl 1 b.length (encI b)))), (10, .cell (.d (.sc (.bool (((a.length : Int) : Int) != (b.length : Int))))))], []⟩) (by kernel_rfl) rfl rfl ?_
    refine AOps.keep [4] [] (st' := ⟨[(4, .cell (.d (.sc (.bool false))))], []⟩) (by kernel_rfl) ?_
    refine AOps.done ?_
    refine Then.go ?_
    refine AW.ret (by kernel_rfl) ?_
    refine Then.ret ?_
    refine RetF.of_ret [] (x := .cell (.d (.sc (.bool false)))) (by kernel_rfl) ?_
    congr 4; simp; intro h; simp [h] at h1
  · -- ((a.length : Int) : Int) != (b.length : Int) = False
    try simp only [Bool.and_eq_true, Bool.or_eq_true, Bool.and_eq_false_iff, Bool.or_eq_false_iff, decide_eq_true_eq, decide_eq_false_iff_not, beq_iff_eq, bne_iff_ne, ne_eq, Bool.not_eq_true', Bool.not_eq_false', beq_eq_false_iff_ne, bne_eq_false_iff_eq, Decidable.not_not, Int.not_lt, Int.not_le, gt_iff_lt, ge_iff_le] at h1
    refine AW.skip (by kernel_rfl) ?_
    refine Then.go ?_
    refine AW.seq (by kernel_rfl) ?_
    refine AW.seq (by kernel_rfl) ?_
    refine AW.region (n := 3) (by kernel_rfl) (by kernel_rfl) ?_
    refine AOps.steps (i := 0) (m := 3) (r := 0) (i' := 3) (st' := ⟨[(13, .cell (.d (.sc (.int .i64 0)))), (12, .cell (.d (.sc (.int .i64 (a.length : Int))))), (11, .cell (.d (.sl 1 a.length (encI a)))), (0, .cell (.d (.sl 1 a.length (encI a)))), (1, .cell (.d (.sl 1 b.length (encI b)))), (10, .cell (.d (.sc (.bool (((a.length : Int) : Int) != (b.length : Int))))))], []⟩) (by kernel_rfl) rfl rfl ?_
    refine AOps.keep [0, 1, 12, 13] [] (st' := ⟨[(0, .cell (.d (.sl 1 a.length (encI a)))), (1, .cell (.d (.sl 1 b.length (encI b)))), (12, .cell (.d (.sc (.int .i64 (a.length : Int))))), (13, .cell (.d (.sc (.int .i64 0))))], []⟩) (by kernel_rfl) ?_
    refine AOps.done ?_
    refine Then.go ?_
    refine AW.block (by kernel_rfl) ?_
    refine AW.keep [0, 1, 12, 13] [] (st' := ⟨[(0, .cell (.d (.sl 1 a.length (encI a)))), (1, .cell (.d (.sl 1 b.length (encI b)))), (12, .cell (.d (.sc (.int .i64 (a.length : Int))))), (13, .cell (.d (.sc (.int .i64 0))))], []⟩) (by kernel_rfl) ?_
    refine AW.loopJ (α := Int) (by kernel_rfl) (fun j => (⟨[(0, .cell (.d (.sl 1 a.length (encI a)))), (1, .cell (.d (.sl 1 b.length (encI b)))), (12, .cell (.d (.sc (.int .i64 (a.length : Int))))), (13, .cell (.d (.sc (.int .i64 j))))], []⟩ : ASt)) (fun j => 0 ≤ j ∧ j ≤ (a.length : Int) ∧ a.length = b.length ∧ a.take j.toNat = b.take j.toNat) (fun j => a.length - j.toNat) 0 ?_ ?_ ?_
    · rfl
    · exact ⟨by omega, by omega, by omega, by simp⟩
    · intro j hJ
      obtain ⟨h0, h1, hab, htk⟩ := hJ
      refine AW.seq (by kernel_rfl) ?_
      refine AW.region (n := 1) (by kernel_rfl) (by kernel_rfl) ?_
      refine AOps.steps (i := 0) (m := 1) (r := 0) (i' := 1) (st' := ⟨[(14, .cell (.d (.sc (.bool (decide ((j : Int) < (a.length : Int))))))), (0, .cell (.d (.sl 1 a.length (encI a)))), (1, .cell (.d (.sl 1 b.length (encI b)))), (12, .cell (.d (.sc (.int .i64 (a.length : Int))))), (13, .cell (.d (.sc (.int .i64 j))))], []⟩) (by kernel_rfl) rfl rfl ?_
      refine AOps.keep [0, 1, 12, 13, 14] [] (st' := ⟨[(0, .cell (.d (.sl 1 a.length (encI a)))), (1, .cell (.d (.sl 1 b.length (encI b)))), (12, .cell (.d (.sc (.int .i64 (a.length : Int))))), (13, .cell (.d (.sc (.int .i64 j)))), (14, .cell (.d (.sc (.bool (decide ((j : Int) < (a.length : Int)))))))], []⟩) (by kernel_rfl) ?_
      refine AOps.done ?_
      refine Then.go ?_
      refine AW.seq (by kernel_rfl) ?_
      refine AW.cond (b := decide ((j : Int) < (a.length : Int))) (by kernel_rfl) (by kernel_rfl) (fun h2 => ?_) (fun h2 => ?_)
      · -- decide ((j : Int) < (a.length : Int)) = True
        try simp only [Bool.and_eq_true, Bool.or_eq_true, Bool.and_eq_false_iff, Bool.or_eq_false_iff, decide_eq_true_eq, decide_eq_false_iff_not, beq_iff_eq, bne_iff_ne, ne_eq, Bool.not_eq_true', Bool.not_eq_false', beq_eq_false_iff_ne, bne_eq_false_iff_eq, Decidable.not_not, Int.not_lt, Int.not_le, gt_iff_lt, ge_iff_le] at h2
        refine AW.skip (by kernel_rfl) ?_
        refine Then.go ?_
        refine AW.seq (by kernel_rfl) ?_
        refine AW.block (by kernel_rfl) ?_
        refine AW.seq (by kernel_rfl) ?_
        refine AW.region (n := 2) (by kernel_rfl) (by kernel_rfl) ?_
        refine AOps.steps (i := 0) (m := 2) (r := 0) (i' := 2) (st' := ⟨[(5, .cell (.d (.sc (.int .i64 j)))), (15, .cell (.d (.sc (.int .i64 j)))), (0, .cell (.d (.sl 1 a.length (encI a)))), (1, .cell (.d (.sl 1 b.length (encI b)))), (12, .cell (.d (.sc (.int .i64 (a.length : Int))))), (13, .cell (.d (.sc (.int .i64 j)))), (14, .cell (.d (.sc (.bool (decide ((j : Int) < (a.length : Int)))))))], []⟩) (by kernel_rfl) rfl rfl ?_
        refine AOps.keep [0, 1, 5, 12, 13] [] (st' := ⟨[(0, .cell (.d (.sl 1 a.length (encI a)))), (1, .cell (.d (.sl 1 b.length (encI b)))), (5, .cell (.d (.sc (.int .i64 j)))), (12, .cell (.d (.sc (.int .i64 (a.length : Int))))), (13, .cell (.d (.sc (.int .i64 j))))], []⟩) (by kernel_rfl) ?_
        refine AOps.done ?_
        refine Then.go ?_
        refine AW.seq (by kernel_rfl) ?_
        obtain ⟨x3, hx3⟩ := at_of (l := a) (i := (j).toNat) (by omega)
        obtain ⟨x4, hx4⟩ := at_of (l := b) (i := (j).toNat) (by omega)
        refine AW.drawn (by kernel_rfl) (by kernel_rfl) [.put 16 (.cell (.d (.sl 1 a.length (encI a)))), .put 17 (.cell (.d (.sc (.int .i64 j)))), .put 18 (.cell (.d (.rp [.sc (.int .i64 x3)]))), .put 19 (.cell (.d (.sc (.int .i64 x3)))), .put 20 (.cell (.d (.sl 1 b.length (encI b)))), .put 21 (.cell (.d (.sc (.int .i64 j)))), .put 22 (.cell (.d (.rp [.sc (.int .i64 x4)]))), .put 23 (.cell (.d (.sc (.int .i64 x4)))), .put 24 (.cell (.d (.sc (.bool ((x3 : Int) != x4)))))] [0, 0, 3, 7, 0, 0, 48, 112, 255] (by kernel_rfl) (by kernel_rfl) (by kernel_rfl) ⟨fun f => .step1 (by kernel_rfl), fun f => .step1 (by kernel_rfl), fun f => IEff.qindex (e := 1) (n := a.length) (cs := (encI a)) (es := [.sc (.int .i64 x3)]) (j := j) (by kernel_rfl) (by omega) (by omega) (encI_at hx3), fun f => .step1 (by kernel_rfl), fun f => .step1 (by kernel_rfl), fun f => .step1 (by kernel_rfl), fun f => IEff.qindex (e := 1) (n := b.length) (cs := (encI b)) (es := [.sc (.int .i64 x4)]) (j := j) (by kernel_rfl) (by omega) (by omega) (encI_at hx4), fun f => .step1 (by kernel_rfl), fun f => .step1 (by kernel_rfl), trivial⟩ (st' := ⟨[(24, .cell (.d (.sc (.bool ((x3 : Int) != x4))))), (23, .cell (.d (.sc (.int .i64 x4)))), (22, .cell (.d (.rp [.sc (.int .i64 x4)]))), (21, .cell (.d (.sc (.int .i64 j)))), (20, .cell (.d (.sl 1 b.length (encI b)))), (19, .cell (.d (.sc (.int .i64 x3)))), (18, .cell (.d (.rp [.sc (.int .i64 x3)]))), (17, .cell (.d (.sc (.int .i64 j)))), (16, .cell (.d (.sl 1 a.length (encI a)))), (0, .cell (.d (.sl 1 a.length (encI a)))), (1, .cell (.d (.sl 1 b.length (encI b)))), (5, .cell (.d (.sc (.int .i64 j)))), (12, .cell (.d (.sc (.int .i64 (a.length : Int))))), (13, .cell (.d (.sc (.int .i64 j))))], []⟩) (by kernel_rfl) ?_
        refine Then.go ?_
        refine AW.cond (b := (x3 : Int) != x4) (by kernel_rfl) (by kernel_rfl) (fun h5 => ?_) (fun h5 => ?_)
        · -- (x3 : Int) != x4 = True
          try simp only [Bool.and_eq_true, Bool.or_eq_true, Bool.and_eq_false_iff, Bool.or_eq_false_iff, decide_eq_true_eq, decide_eq_false_iff_not, beq_iff_eq, bne_iff_ne, ne_eq, Bool.not_eq_true', Bool.not_eq_false', beq_eq_false_iff_ne, bne_eq_false_iff_eq, Decidable.not_not, Int.not_lt, Int.not_le, gt_iff_lt, ge_iff_le] at h5
          refine AW.seq (by kernel_rfl) ?_
          refine AW.region (n := 1) (by kernel_rfl) (by kernel_rfl) ?_
          refine AOps.steps (i := 0) (m := 1) (r := 0) (i' := 1) (st' := ⟨[(4, .cell (.d (.sc (.bool false)))), (24, .cell (.d (.sc (.bool ((x3 : Int) != x4))))), (23, .cell (.d (.sc (.int .i64 x4)))), (22, .cell (.d (.rp [.sc (.int .i64 x4)]))), (21, .cell (.d (.sc (.int .i64 j)))), (20, .cell (.d (.sl 1 b.length (encI b)))), (19, .cell (.d (.sc (.int .i64 x3)))), (18, .cell (.d (.rp [.sc (.int .i64 x3)]))), (17, .cell (.d (.sc (.int .i64 j)))), (16, .cell (.d (.sl 1 a.length (encI a)))), (0, .cell (.d (.sl 1 a.length (encI a)))), (1, .cell (.d (.sl 1 b.length (encI b)))), (5, .cell (.d (.sc (.int .i64 j)))), (12, .cell (.d (.sc (.int .i64 (a.length : Int))))), (13, .cell (.d (.sc (.int .i64 j))))], []⟩) (by kernel_rfl) rfl rfl ?_
          refine AOps.keep [4] [] (st' := ⟨[(4, .cell (.d (.sc (.bool false))))], []⟩) (by kernel_rfl) ?_
          refine AOps.done ?_
          refine Then.go ?_
          refine AW.ret (by kernel_rfl) ?_
          refine InBlk.ret ?_
          refine Then.ret ?_
          refine LoopP.ret ?_
          refine InBlk.ret ?_
          refine Then.ret ?_
          refine RetF.of_ret [] (x := .cell (.d (.sc (.bool false)))) (by kernel_rfl) ?_
          congr 4; simp; intro h; subst h; rw [hx3] at hx4; exact h5 (Option.some.inj hx4)
        · -- (x3 : Int) != x4 = False
          try simp only [Bool.and_eq_true, Bool.or_eq_true, Bool.and_eq_false_iff, Bool.or_eq_false_iff, decide_eq_true_eq, decide_eq_false_iff_not, beq_iff_eq, bne_iff_ne, ne_eq, Bool.not_eq_true', Bool.not_eq_false', beq_eq_false_iff_ne, bne_eq_false_iff_eq, Decidable.not_not, Int.not_lt, Int.not_le, gt_iff_lt, ge_iff_le] at h5
          refine AW.skip (by kernel_rfl) ?_
          refine InBlk.go ?_
          refine Then.go ?_
          refine AW.region (n := 2) (by kernel_rfl) (by kernel_rfl) ?_
          refine AOps.steps (i := 0) (m := 2) (r := 0) (i' := 2) (st' := ⟨[(13, .cell (.d (.sc (.int .i64 (IntKind.wrap .i64 (j + 1)))))), (25, .cell (.d (.sc (.int .i64 (IntKind.wrap .i64 (j + 1)))))), (24, .cell (.d (.sc (.bool ((x3 : Int) != x4))))), (23, .cell (.d (.sc (.int .i64 x4)))), (22, .cell (.d (.rp [.sc (.int .i64 x4)]))), (21, .cell (.d (.sc (.int .i64 j)))), (20, .cell (.d (.sl 1 b.length (encI b)))), (19, .cell (.d (.sc (.int .i64 x3)))), (18, .cell (.d (.rp [.sc (.int .i64 x3)]))), (17, .cell (.d (.sc (.int .i64 j)))), (16, .cell (.d (.sl 1 a.length (encI a)))), (0, .cell (.d (.sl 1 a.length (encI a)))), (1, .cell (.d (.sl 1 b.length (encI b)))), (5, .cell (.d (.sc (.int .i64 j)))), (12, .cell (.d (.sc (.int .i64 (a.length : Int)))))], []⟩) (by kernel_rfl) rfl rfl ?_
          have w6 : IntKind.wrap .i64 (j + 1) = j + 1 := wrap_i64 _ (by omega) (by omega)
          rw [w6]
          clear w6
          refine AOps.keep [0, 1, 12, 13] [] (st' := ⟨[(0, .cell (.d (.sl 1 a.length (encI a)))), (1, .cell (.d (.sl 1 b.length (encI b)))), (12, .cell (.d (.sc (.int .i64 (a.length : Int))))), (13, .cell (.d (.sc (.int .i64 (j + 1)))))], []⟩) (by kernel_rfl) ?_
          refine AOps.done ?_
          refine LoopP.go (j + 1) [0, 1, 12, 13] [] ?_ ?_ ?_
          · kernel_rfl
          · refine ⟨by omega, by omega, hab, ?_⟩; rw [show (j+1).toNat = j.toNat + 1 by omega, take_succ_of hx3, take_succ_of hx4, htk, h5]
          · (try dsimp only); omega
      · -- decide ((j : Int) < (a.length : Int)) = False
        try simp only [Bool.and_eq_true, Bool.or_eq_true, Bool.and_eq_false_iff, Bool.or_eq_false_iff, decide_eq_true_eq, decide_eq_false_iff_not, beq_iff_eq, bne_iff_ne, ne_eq, Bool.not_eq_true', Bool.not_eq_false', beq_eq_false_iff_ne, bne_eq_false_iff_eq, Decidable.not_not, Int.not_lt, Int.not_le, gt_iff_lt, ge_iff_le] at h2
        refine AW.exit (by kernel_rfl) ?_
        refine Then.exit ?_
        refine LoopP.exit ?_
        refine InBlk.exit ?_
        refine Then.go ?_
        refine AW.seq (by kernel_rfl) ?_
        refine AW.region (n := 1) (by kernel_rfl) (by kernel_rfl) ?_
        refine AOps.steps (i := 0) (m := 1) (r := 0) (i' := 1) (st' := ⟨[(4, .cell (.d (.sc (.bool true)))), (0, .cell (.d (.sl 1 a.length (encI a)))), (1, .cell (.d (.sl 1 b.length (encI b)))), (12, .cell (.d (.sc (.int .i64 (a.length : Int))))), (13, .cell (.d (.sc (.int .i64 j)))), (14, .cell (.d (.sc (.bool (decide ((j : Int) < (a.length : Int)))))))], []⟩) (by kernel_rfl) rfl rfl ?_
        refine AOps.keep [4] [] (st' := ⟨[(4, .cell (.d (.sc (.bool true))))], []⟩) (by kernel_rfl) ?_
        refine AOps.done ?_
        refine Then.go ?_
        refine AW.ret (by kernel_rfl) ?_
        refine RetF.of_ret [] (x := .cell (.d (.sc (.bool true)))) (by kernel_rfl) ?_
        congr 4; simp; have e : j.toNat = a.length := by omega
        rw [e, List.take_length] at htk; rw [htk, hab, List.take_length]

theorem equalI_same (n : Nat) (a : List Int) (h : a.length ≤ 1152921504606846976) (hn : n = a.length) : PCalls Try.prog 4 [.cell (.d (.sl 1 n (encI a))), .cell (.d (.sl 1 n (encI a)))] (.cell (.d (.sc (.bool true)))) := by
  subst hn
  have e := equalI a a h h
  rwa [show decide (a = a) = true by simp] at e

noncomputable def C3 : Code := (Try.f3.body).getD .skip

theorem namesTrue  : PCalls Try.prog 3 [] (.cell (.d (.sc (.bool true)))) := by
  refine ACalls.of_AWF (fn := Try.f3) (c := C3) (N := 28) (rs := [.tmp 0]) Try.func3 (by kernel_rfl) (by kernel_rfl) (by kernel_rfl) (by simp) (by kernel_rfl) ?_
  show AW Try.prog 28 C3 ⟨[], []⟩ _
  refine AW.seq (by kernel_rfl) ?_
  refine AW.region (n := 1) (by kernel_rfl) (by kernel_rfl) ?_
  refine AOps.stepsK (i := 0) (m := 1) (r := 0) (i' := 1) (st' := ⟨[(0, .cell (.d (.sc (.bool false))))], []⟩) (by kernel_rfl) rfl rfl ?_
  refine AOps.keep [] [] (st' := ⟨[], []⟩) (by kernel_rfl) ?_
  refine AOps.done ?_
  refine Then.go ?_
  refine AW.seq (by kernel_rfl) ?_
  refine AW.region (n := 2) (by kernel_rfl) (by kernel_rfl) ?_
  refine AOps.stepsK (i := 0) (m := 2) (r := 0) (i' := 2) (st' := ⟨[(1, .cell (.own 6)), (6, .cell (.own 6))], [(6, .arr 22 1 13 [.sc (.int .i64 0), .sc (.int .i64 1), .sc (.int .i64 2), .sc (.int .i64 3), .sc (.int .i64 4), .sc (.int .i64 5), .sc (.int .i64 6), .sc (.int .i64 7), .sc (.int .i64 8), .sc (.int .i64 9), .sc (.int .i64 10), .sc (.int .i64 11), .sc (.int .i64 12)])]⟩) (by kernel_rfl) rfl rfl ?_
  refine AOps.keep [1] [6] (st' := ⟨[(1, .cell (.own 6))], [(6, .arr 22 1 13 [.sc (.int .i64 0), .sc (.int .i64 1), .sc (.int .i64 2), .sc (.int .i64 3), .sc (.int .i64 4), .sc (.int .i64 5), .sc (.int .i64 6), .sc (.int .i64 7), .sc (.int .i64 8), .sc (.int .i64 9), .sc (.int .i64 10), .sc (.int .i64 11), .sc (.int .i64 12)])]⟩) (by kernel_rfl) ?_
  refine AOps.done ?_
  refine Then.go ?_
  refine AW.seq (by kernel_rfl) ?_
  refine AW.seq (by kernel_rfl) ?_
  refine AW.region (n := 3) (by kernel_rfl) (by kernel_rfl) ?_
  refine AOps.stepsK (i := 0) (m := 3) (r := 0) (i' := 3) (st' := ⟨[(9, .cell (.d (.sc (.int .i64 0)))), (8, .cell (.d (.sc (.int .i64 13)))), (7, .cell (.own 6)), (1, .cell (.own 6))], [(6, .arr 22 1 13 [.sc (.int .i64 0), .sc (.int .i64 1), .sc (.int .i64 2), .sc (.int .i64 3), .sc (.int .i64 4), .sc (.int .i64 5), .sc (.int .i64 6), .sc (.int .i64 7), .sc (.int .i64 8), .sc (.int .i64 9), .sc (.int .i64 10), .sc (.int .i64 11), .sc (.int .i64 12)])]⟩) (by kernel_rfl) rfl rfl ?_
  refine AOps.keep [7, 8, 9] [6] (st' := ⟨[(7, .cell (.own 6)), (8, .cell (.d (.sc (.int .i64 13)))), (9, .cell (.d (.sc (.int .i64 0))))], [(6, .arr 22 1 13 [.sc (.int .i64 0), .sc (.int .i64 1), .sc (.int .i64 2), .sc (.int .i64 3), .sc (.int .i64 4), .sc (.int .i64 5), .sc (.int .i64 6), .sc (.int .i64 7), .sc (.int .i64 8), .sc (.int .i64 9), .sc (.int .i64 10), .sc (.int .i64 11), .sc (.int .i64 12)])]⟩) (by kernel_rfl) ?_
  refine AOps.done ?_
  refine Then.go ?_
  refine AW.block (by kernel_rfl) ?_
  refine AW.freeze 6 (st' := ⟨[(7, .cell (.d (.sl 1 13 (encI [0, 1, 2, 3, 4, 5, 6, 7, 8, 9, 10, 11, 12])))), (8, .cell (.d (.sc (.int .i64 13)))), (9, .cell (.d (.sc (.int .i64 0))))], [(6, .gone)]⟩) (by kernel_rfl) ?_
  refine AW.keep [7, 8, 9] [] (st' := ⟨[(7, .cell (.d (.sl 1 13 (encI [0, 1, 2, 3, 4, 5, 6, 7, 8, 9, 10, 11, 12])))), (8, .cell (.d (.sc (.int .i64 13)))), (9, .cell (.d (.sc (.int .i64 0))))], []⟩) (by kernel_rfl) ?_
  refine AW.loopJ (α := Int) (by kernel_rfl) (fun j => (⟨[(7, .cell (.d (.sl 1 13 (encI [0, 1, 2, 3, 4, 5, 6, 7, 8, 9, 10, 11, 12])))), (8, .cell (.d (.sc (.int .i64 13)))), (9, .cell (.d (.sc (.int .i64 j))))], []⟩ : ASt)) (fun j => 0 ≤ j ∧ j ≤ 13) (fun j => 13 - j.toNat) 0 ?_ ?_ ?_
  · rfl
  · exact ⟨by omega, by omega⟩
  · intro j hJ
    obtain ⟨h0, h1⟩ := hJ
    refine AW.seq (by kernel_rfl) ?_
    refine AW.region (n := 1) (by kernel_rfl) (by kernel_rfl) ?_
    refine AOps.stepsK (i := 0) (m := 1) (r := 0) (i' := 1) (st' := ⟨[(10, .cell (.d (.sc (.bool (decide ((j : Int) < 13)))))), (7, .cell (.d (.sl 1 13 (encI [0, 1, 2, 3, 4, 5, 6, 7, 8, 9, 10, 11, 12])))), (8, .cell (.d (.sc (.int .i64 13)))), (9, .cell (.d (.sc (.int .i64 j))))], []⟩) (by kernel_rfl) rfl rfl ?_
    refine AOps.keep [7, 8, 9, 10] [] (st' := ⟨[(7, .cell (.d (.sl 1 13 (encI [0, 1, 2, 3, 4, 5, 6, 7, 8, 9, 10, 11, 12])))), (8, .cell (.d (.sc (.int .i64 13)))), (9, .cell (.d (.sc (.int .i64 j)))), (10, .cell (.d (.sc (.bool (decide ((j : Int) < 13))))))], []⟩) (by kernel_rfl) ?_
    refine AOps.done ?_
    refine Then.go ?_
    refine AW.seq (by kernel_rfl) ?_
    refine AW.cond (b := decide ((j : Int) < 13)) (by kernel_rfl) (by kernel_rfl) (fun h1 => ?_) (fun h1 => ?_)
    · -- decide ((j : Int) < 13) = True
      try simp only [Bool.and_eq_true, Bool.or_eq_true, Bool.and_eq_false_iff, Bool.or_eq_false_iff, decide_eq_true_eq, decide_eq_false_iff_not, beq_iff_eq, bne_iff_ne, ne_eq, Bool.not_eq_true', Bool.not_eq_false', beq_eq_false_iff_ne, bne_eq_false_iff_eq, Decidable.not_not, Int.not_lt, Int.not_le, gt_iff_lt, ge_iff_le] at h1
      refine AW.skip (by kernel_rfl) ?_
      refine Then.go ?_
      refine AW.seq (by kernel_rfl) ?_
      refine AW.block (by kernel_rfl) ?_
      refine AW.seq (by kernel_rfl) ?_
      refine AW.region (n := 5) (by kernel_rfl) (by kernel_rfl) ?_
      refine AOps.stepsK (i := 0) (m := 1) (r := 4) (i' := 1) (st' := ⟨[(11, .cell (.d (.sc (.int .i64 j)))), (7, .cell (.d (.sl 1 13 (encI [0, 1, 2, 3, 4, 5, 6, 7, 8, 9, 10, 11, 12])))), (8, .cell (.d (.sc (.int .i64 13)))), (9, .cell (.d (.sc (.int .i64 j)))), (10, .cell (.d (.sc (.bool (decide ((j : Int) < 13))))))], []⟩) (by kernel_rfl) rfl rfl ?_
      obtain ⟨x2, hx2⟩ := at_of (l := ([0, 1, 2, 3, 4, 5, 6, 7, 8, 9, 10, 11, 12] : List Int)) (i := (j).toNat) (by simp; omega)
      refine AOps.one (i := 1) (r := 3) (i' := 2) (e := .put 12 (.cell (.d (.rp [.sc (.int .i64 x2)])))) (st' := ⟨[(12, .cell (.d (.rp [.sc (.int .i64 x2)]))), (11, .cell (.d (.sc (.int .i64 j)))), (7, .cell (.d (.sl 1 13 (encI [0, 1, 2, 3, 4, 5, 6, 7, 8, 9, 10, 11, 12])))), (8, .cell (.d (.sc (.int .i64 13)))), (9, .cell (.d (.sc (.int .i64 j)))), (10, .cell (.d (.sc (.bool (decide ((j : Int) < 13))))))], []⟩) (IEff.qindex (e := 1) (n := 13) (cs := (encI [0, 1, 2, 3, 4, 5, 6, 7, 8, 9, 10, 11, 12])) (es := [.sc (.int .i64 x2)]) (j := j) (by kernel_rfl) (by omega) (by omega) (encI_at hx2)) rfl rfl (by kernel_rfl) ?_
      refine AOps.stepsK (i := 2) (m := 3) (r := 0) (i' := 5) (st' := ⟨[(3, .cell (.d (.sc (.int .i64 x2)))), (2, .cell (.d (.sc (.int .i64 j)))), (13, .cell (.d (.sc (.int .i64 x2)))), (12, .cell (.d (.rp [.sc (.int .i64 x2)]))), (11, .cell (.d (.sc (.int .i64 j)))), (7, .cell (.d (.sl 1 13 (encI [0, 1, 2, 3, 4, 5, 6, 7, 8, 9, 10, 11, 12])))), (8, .cell (.d (.sc (.int .i64 13)))), (9, .cell (.d (.sc (.int .i64 j)))), (10, .cell (.d (.sc (.bool (decide ((j : Int) < 13))))))], []⟩) (by kernel_rfl) rfl rfl ?_
      refine AOps.keep [2, 3, 7, 8, 9] [] (st' := ⟨[(2, .cell (.d (.sc (.int .i64 j)))), (3, .cell (.d (.sc (.int .i64 x2)))), (7, .cell (.d (.sl 1 13 (encI [0, 1, 2, 3, 4, 5, 6, 7, 8, 9, 10, 11, 12])))), (8, .cell (.d (.sc (.int .i64 13)))), (9, .cell (.d (.sc (.int .i64 j))))], []⟩) (by kernel_rfl) ?_
      refine AOps.done ?_
      refine Then.go ?_
      refine AW.seq (by kernel_rfl) ?_
      refine AW.region (n := 3) (by kernel_rfl) (by kernel_rfl) ?_
      refine AOps.stepsK (i := 0) (m := 3) (r := 0) (i' := 3) (st' := ⟨[(16, .cell (.d (.sc (.bool ((x2 : Int) != j))))), (15, .cell (.d (.sc (.int .i64 j)))), (14, .cell (.d (.sc (.int .i64 x2)))), (2, .cell (.d (.sc (.int .i64 j)))), (3, .cell (.d (.sc (.int .i64 x2)))), (7, .cell (.d (.sl 1 13 (encI [0, 1, 2, 3, 4, 5, 6, 7, 8, 9, 10, 11, 12])))), (8, .cell (.d (.sc (.int .i64 13)))), (9, .cell (.d (.sc (.int .i64 j))))], []⟩) (by kernel_rfl) rfl rfl ?_
      refine AOps.keep [7, 8, 9, 16] [] (st' := ⟨[(7, .cell (.d (.sl 1 13 (encI [0, 1, 2, 3, 4, 5, 6, 7, 8, 9, 10, 11, 12])))), (8, .cell (.d (.sc (.int .i64 13)))), (9, .cell (.d (.sc (.int .i64 j)))), (16, .cell (.d (.sc (.bool ((x2 : Int) != j)))))], []⟩) (by kernel_rfl) ?_
      refine AOps.done ?_
      refine Then.go ?_
      refine AW.cond (b := (x2 : Int) != j) (by kernel_rfl) (by kernel_rfl) (fun h2 => ?_) (fun h2 => ?_)
      · -- (x2 : Int) != j = True
        try simp only [Bool.and_eq_true, Bool.or_eq_true, Bool.and_eq_false_iff, Bool.or_eq_false_iff, decide_eq_true_eq, decide_eq_false_iff_not, beq_iff_eq, bne_iff_ne, ne_eq, Bool.not_eq_true', Bool.not_eq_false', beq_eq_false_iff_ne, bne_eq_false_iff_eq, Decidable.not_not, Int.not_lt, Int.not_le, gt_iff_lt, ge_iff_le] at h2
        refine AW.seq (by kernel_rfl) ?_
        refine AW.region (n := 1) (by kernel_rfl) (by kernel_rfl) ?_
        refine AOps.stepsK (i := 0) (m := 1) (r := 0) (i' := 1) (st' := ⟨[(0, .cell (.d (.sc (.bool false)))), (7, .cell (.d (.sl 1 13 (encI [0, 1, 2, 3, 4, 5, 6, 7, 8, 9, 10, 11, 12])))), (8, .cell (.d (.sc (.int .i64 13)))), (9, .cell (.d (.sc (.int .i64 j)))), (16, .cell (.d (.sc (.bool ((x2 : Int) != j)))))], []⟩) (by kernel_rfl) rfl rfl ?_
        refine AOps.keep [0] [] (st' := ⟨[(0, .cell (.d (.sc (.bool false))))], []⟩) (by kernel_rfl) ?_
        refine AOps.done ?_
        refine Then.go ?_
        refine AW.ret (by kernel_rfl) ?_
        refine InBlk.ret ?_
        refine Then.ret ?_
        refine LoopP.ret ?_
        refine InBlk.ret ?_
        refine Then.ret ?_
        refine RetF.of_ret [] (x := .cell (.d (.sc (.bool false)))) (by kernel_rfl) ?_
        exfalso; have q : ∀ n : Nat, n < 13 → ([0, 1, 2, 3, 4, 5, 6, 7, 8, 9, 10, 11, 12] : List Int)[n]? = some (n : Int) := by decide
        rw [q _ (by omega)] at hx2; have := Option.some.inj hx2; omega
      · -- (x2 : Int) != j = False
        try simp only [Bool.and_eq_true, Bool.or_eq_true, Bool.and_eq_false_iff, Bool.or_eq_false_iff, decide_eq_true_eq, decide_eq_false_iff_not, beq_iff_eq, bne_iff_ne, ne_eq, Bool.not_eq_true', Bool.not_eq_false', beq_eq_false_iff_ne, bne_eq_false_iff_eq, Decidable.not_not, Int.not_lt, Int.not_le, gt_iff_lt, ge_iff_le] at h2
        refine AW.skip (by kernel_rfl) ?_
        refine InBlk.go ?_
        refine Then.go ?_
        refine AW.region (n := 2) (by kernel_rfl) (by kernel_rfl) ?_
        refine AOps.stepsK (i := 0) (m := 2) (r := 0) (i' := 2) (st' := ⟨[(9, .cell (.d (.sc (.int .i64 (IntKind.wrap .i64 (j + 1)))))), (17, .cell (.d (.sc (.int .i64 (IntKind.wrap .i64 (j + 1)))))), (7, .cell (.d (.sl 1 13 (encI [0, 1, 2, 3, 4, 5, 6, 7, 8, 9, 10, 11, 12])))), (8, .cell (.d (.sc (.int .i64 13)))), (16, .cell (.d (.sc (.bool ((x2 : Int) != j)))))], []⟩) (by kernel_rfl) rfl rfl ?_
        have w3 : IntKind.wrap .i64 (j + 1) = j + 1 := wrap_i64 _ (by omega) (by omega)
        rw [w3]
        clear w3
        refine AOps.keep [7, 8, 9] [] (st' := ⟨[(7, .cell (.d (.sl 1 13 (encI [0, 1, 2, 3, 4, 5, 6, 7, 8, 9, 10, 11, 12])))), (8, .cell (.d (.sc (.int .i64 13)))), (9, .cell (.d (.sc (.int .i64 (j + 1)))))], []⟩) (by kernel_rfl) ?_
        refine AOps.done ?_
        refine LoopP.go (j + 1) [7, 8, 9] [] ?_ ?_ ?_
        · kernel_rfl
        · exact ⟨by omega, by omega⟩
        · (try dsimp only); omega
    · -- decide ((j : Int) < 13) = False
      try simp only [Bool.and_eq_true, Bool.or_eq_true, Bool.and_eq_false_iff, Bool.or_eq_false_iff, decide_eq_true_eq, decide_eq_false_iff_not, beq_iff_eq, bne_iff_ne, ne_eq, Bool.not_eq_true', Bool.not_eq_false', beq_eq_false_iff_ne, bne_eq_false_iff_eq, Decidable.not_not, Int.not_lt, Int.not_le, gt_iff_lt, ge_iff_le] at h1
      refine AW.exit (by kernel_rfl) ?_
      refine Then.exit ?_
      refine LoopP.exit ?_
      refine InBlk.exit ?_
      refine Then.go ?_
      refine AW.seq (by kernel_rfl) ?_
      refine AW.region (n := 2) (by kernel_rfl) (by kernel_rfl) ?_
      refine AOps.stepsK (i := 0) (m := 2) (r := 0) (i' := 2) (st' := ⟨[(4, .cell (.own 18)), (18, .cell (.own 18)), (7, .cell (.d (.sl 1 13 (encI [0, 1, 2, 3, 4, 5, 6, 7, 8, 9, 10, 11, 12])))), (8, .cell (.d (.sc (.int .i64 13)))), (9, .cell (.d (.sc (.int .i64 j)))), (10, .cell (.d (.sc (.bool (decide ((j : Int) < 13))))))], [(18, .arr 3 1 17 [.sc (.int .i64 4000), .sc (.int .i64 6), .sc (.int .i64 30), .sc (.int .i64 40), .sc (.int .i64 60), .sc (.int .i64 6), .sc (.int .i64 4), .sc (.int .i64 12), .sc (.int .i64 20), .sc (.int .i64 4), .sc (.int .i64 5), .sc (.int .i64 2000), .sc (.int .i64 6), .sc (.int .i64 4), .sc (.int .i64 40), .sc (.int .i64 8000), .sc (.int .i64 60)])]⟩) (by kernel_rfl) rfl rfl ?_
      refine AOps.keep [4] [18] (st' := ⟨[(4, .cell (.own 18))], [(18, .arr 3 1 17 [.sc (.int .i64 4000), .sc (.int .i64 6), .sc (.int .i64 30), .sc (.int .i64 40), .sc (.int .i64 60), .sc (.int .i64 6), .sc (.int .i64 4), .sc (.int .i64 12), .sc (.int .i64 20), .sc (.int .i64 4), .sc (.int .i64 5), .sc (.int .i64 2000), .sc (.int .i64 6), .sc (.int .i64 4), .sc (.int .i64 40), .sc (.int .i64 8000), .sc (.int .i64 60)])]⟩) (by kernel_rfl) ?_
      refine AOps.done ?_
      refine Then.go ?_
      refine AW.seq (by kernel_rfl) ?_
      refine AW.region (n := 2) (by kernel_rfl) (by kernel_rfl) ?_
      refine AOps.stepsK (i := 0) (m := 2) (r := 0) (i' := 2) (st' := ⟨[(5, .cell (.own 19)), (19, .cell (.own 19)), (4, .cell (.own 18))], [(19, .arr 3 1 25 [.sc (.int .i64 0), .sc (.int .i64 1), .sc (.int .i64 2), .sc (.int .i64 3), .sc (.int .i64 4), .sc (.int .i64 1), .sc (.int .i64 2), .sc (.int .i64 3), .sc (.int .i64 4), .sc (.int .i64 5), .sc (.int .i64 6), .sc (.int .i64 7), .sc (.int .i64 1), .sc (.int .i64 2), .sc (.int .i64 3), .sc (.int .i64 4), .sc (.int .i64 1), .sc (.int .i64 2), .sc (.int .i64 3), .sc (.int .i64 4), .sc (.int .i64 5), .sc (.int .i64 6), .sc (.int .i64 1), .sc (.int .i64 2), .sc (.int .i64 3)]), (18, .arr 3 1 17 [.sc (.int .i64 4000), .sc (.int .i64 6), .sc (.int .i64 30), .sc (.int .i64 40), .sc (.int .i64 60), .sc (.int .i64 6), .sc (.int .i64 4), .sc (.int .i64 12), .sc (.int .i64 20), .sc (.int .i64 4), .sc (.int .i64 5), .sc (.int .i64 2000), .sc (.int .i64 6), .sc (.int .i64 4), .sc (.int .i64 40), .sc (.int .i64 8000), .sc (.int .i64 60)])]⟩) (by kernel_rfl) rfl rfl ?_
      refine AOps.keep [4, 5] [18, 19] (st' := ⟨[(4, .cell (.own 18)), (5, .cell (.own 19))], [(18, .arr 3 1 17 [.sc (.int .i64 4000), .sc (.int .i64 6), .sc (.int .i64 30), .sc (.int .i64 40), .sc (.int .i64 60), .sc (.int .i64 6), .sc (.int .i64 4), .sc (.int .i64 12), .sc (.int .i64 20), .sc (.int .i64 4), .sc (.int .i64 5), .sc (.int .i64 2000), .sc (.int .i64 6), .sc (.int .i64 4), .sc (.int .i64 40), .sc (.int .i64 8000), .sc (.int .i64 60)]), (19, .arr 3 1 25 [.sc (.int .i64 0), .sc (.int .i64 1), .sc (.int .i64 2), .sc (.int .i64 3), .sc (.int .i64 4), .sc (.int .i64 1), .sc (.int .i64 2), .sc (.int .i64 3), .sc (.int .i64 4), .sc (.int .i64 5), .sc (.int .i64 6), .sc (.int .i64 7), .sc (.int .i64 1), .sc (.int .i64 2), .sc (.int .i64 3), .sc (.int .i64 4), .sc (.int .i64 1), .sc (.int .i64 2), .sc (.int .i64 3), .sc (.int .i64 4), .sc (.int .i64 5), .sc (.int .i64 6), .sc (.int .i64 1), .sc (.int .i64 2), .sc (.int .i64 3)])]⟩) (by kernel_rfl) ?_
      refine AOps.done ?_
      refine Then.go ?_
      refine AW.seq (by kernel_rfl) ?_
      refine AW.region (n := 9) (by kernel_rfl) (by kernel_rfl) ?_
      refine AOps.stepsK (i := 0) (m := 2) (r := 7) (i' := 2) (st' := ⟨[(21, .cell (.own 21)), (20, .cell (.own 18)), (4, .cell (.own 18)), (5, .cell (.own 19))], [(21, .arr 3 1 17 [.sc (.int .i64 4000), .sc (.int .i64 6), .sc (.int .i64 30), .sc (.int .i64 40), .sc (.int .i64 60), .sc (.int .i64 6), .sc (.int .i64 4), .sc (.int .i64 12), .sc (.int .i64 20), .sc (.int .i64 4), .sc (.int .i64 5), .sc (.int .i64 2000), .sc (.int .i64 6), .sc (.int .i64 4), .sc (.int .i64 40), .sc (.int .i64 8000), .sc (.int .i64 60)]), (18, .arr 3 1 17 [.sc (.int .i64 4000), .sc (.int .i64 6), .sc (.int .i64 30), .sc (.int .i64 40), .sc (.int .i64 60), .sc (.int .i64 6), .sc (.int .i64 4), .sc (.int .i64 12), .sc (.int .i64 20), .sc (.int .i64 4), .sc (.int .i64 5), .sc (.int .i64 2000), .sc (.int .i64 6), .sc (.int .i64 4), .sc (.int .i64 40), .sc (.int .i64 8000), .sc (.int .i64 60)]), (19, .arr 3 1 25 [.sc (.int .i64 0), .sc (.int .i64 1), .sc (.int .i64 2), .sc (.int .i64 3), .sc (.int .i64 4), .sc (.int .i64 1), .sc (.int .i64 2), .sc (.int .i64 3), .sc (.int .i64 4), .sc (.int .i64 5), .sc (.int .i64 6), .sc (.int .i64 7), .sc (.int .i64 1), .sc (.int .i64 2), .sc (.int .i64 3), .sc (.int .i64 4), .sc (.int .i64 1), .sc (.int .i64 2), .sc (.int .i64 3), .sc (.int .i64 4), .sc (.int .i64 5), .sc (.int .i64 6), .sc (.int .i64 1), .sc (.int .i64 2), .sc (.int .i64 3)])]⟩) (by kernel_rfl) rfl rfl ?_
      refine AOps.freeze 18 (st' := ⟨[(21, .cell (.own 21)), (20, .cell (.d (.sl 1 17 (encI [4000, 6, 30, 40, 60, 6, 4, 12, 20, 4, 5, 2000, 6, 4, 40, 8000, 60])))), (4, .cell (.d (.sl 1 17 (encI [4000, 6, 30, 40, 60, 6, 4, 12, 20, 4, 5, 2000, 6, 4, 40, 8000, 60])))), (5, .cell (.own 19))], [(18, .gone), (21, .arr 3 1 17 [.sc (.int .i64 4000), .sc (.int .i64 6), .sc (.int .i64 30), .sc (.int .i64 40), .sc (.int .i64 60), .sc (.int .i64 6), .sc (.int .i64 4), .sc (.int .i64 12), .sc (.int .i64 20), .sc (.int .i64 4), .sc (.int .i64 5), .sc (.int .i64 2000), .sc (.int .i64 6), .sc (.int .i64 4), .sc (.int .i64 40), .sc (.int .i64 8000), .sc (.int .i64 60)]), (19, .arr 3 1 25 [.sc (.int .i64 0), .sc (.int .i64 1), .sc (.int .i64 2), .sc (.int .i64 3), .sc (.int .i64 4), .sc (.int .i64 1), .sc (.int .i64 2), .sc (.int .i64 3), .sc (.int .i64 4), .sc (.int .i64 5), .sc (.int .i64 6), .sc (.int .i64 7), .sc (.int .i64 1), .sc (.int .i64 2), .sc (.int .i64 3), .sc (.int .i64 4), .sc (.int .i64 1), .sc (.int .i64 2), .sc (.int .i64 3), .sc (.int .i64 4), .sc (.int .i64 5), .sc (.int .i64 6), .sc (.int .i64 1), .sc (.int .i64 2), .sc (.int .i64 3)])]⟩) (by kernel_rfl) ?_
      refine AOps.freeze 21 (st' := ⟨[(21, .cell (.d (.sl 1 17 (encI [4000, 6, 30, 40, 60, 6, 4, 12, 20, 4, 5, 2000, 6, 4, 40, 8000, 60])))), (20, .cell (.d (.sl 1 17 (encI [4000, 6, 30, 40, 60, 6, 4, 12, 20, 4, 5, 2000, 6, 4, 40, 8000, 60])))), (4, .cell (.d (.sl 1 17 (encI [4000, 6, 30, 40, 60, 6, 4, 12, 20, 4, 5, 2000, 6, 4, 40, 8000, 60])))), (5, .cell (.own 19))], [(21, .gone), (18, .gone), (19, .arr 3 1 25 [.sc (.int .i64 0), .sc (.int .i64 1), .sc (.int .i64 2), .sc (.int .i64 3), .sc (.int .i64 4), .sc (.int .i64 1), .sc (.int .i64 2), .sc (.int .i64 3), .sc (.int .i64 4), .sc (.int .i64 5), .sc (.int .i64 6), .sc (.int .i64 7), .sc (.int .i64 1), .sc (.int .i64 2), .sc (.int .i64 3), .sc (.int .i64 4), .sc (.int .i64 1), .sc (.int .i64 2), .sc (.int .i64 3), .sc (.int .i64 4), .sc (.int .i64 5), .sc (.int .i64 6), .sc (.int .i64 1), .sc (.int .i64 2), .sc (.int .i64 3)])]⟩) (by kernel_rfl) ?_
      refine AOps.one (i := 2) (r := 6) (i' := 3) (e := .put 22 (.cell (.d (.sc (.bool true))))) (st' := ⟨[(22, .cell (.d (.sc (.bool true)))), (21, .cell (.d (.sl 1 17 (encI [4000, 6, 30, 40, 60, 6, 4, 12, 20, 4, 5, 2000, 6, 4, 40, 8000, 60])))), (20, .cell (.d (.sl 1 17 (encI [4000, 6, 30, 40, 60, 6, 4, 12, 20, 4, 5, 2000, 6, 4, 40, 8000, 60])))), (4, .cell (.d (.sl 1 17 (encI [4000, 6, 30, 40, 60, 6, 4, 12, 20, 4, 5, 2000, 6, 4, 40, 8000, 60])))), (5, .cell (.own 19))], [(21, .gone), (18, .gone), (19, .arr 3 1 25 [.sc (.int .i64 0), .sc (.int .i64 1), .sc (.int .i64 2), .sc (.int .i64 3), .sc (.int .i64 4), .sc (.int .i64 1), .sc (.int .i64 2), .sc (.int .i64 3), .sc (.int .i64 4), .sc (.int .i64 5), .sc (.int .i64 6), .sc (.int .i64 7), .sc (.int .i64 1), .sc (.int .i64 2), .sc (.int .i64 3), .sc (.int .i64 4), .sc (.int .i64 1), .sc (.int .i64 2), .sc (.int .i64 3), .sc (.int .i64 4), .sc (.int .i64 5), .sc (.int .i64 6), .sc (.int .i64 1), .sc (.int .i64 2), .sc (.int .i64 3)])]⟩) (IEff.qpcall (f := 4) (args := [.cell (.d (.sl 1 17 (encI [4000, 6, 30, 40, 60, 6, 4, 12, 20, 4, 5, 2000, 6, 4, 40, 8000, 60]))), .cell (.d (.sl 1 17 (encI [4000, 6, 30, 40, 60, 6, 4, 12, 20, 4, 5, 2000, 6, 4, 40, 8000, 60])))]) (by kernel_rfl) (by kernel_rfl) (equalI_same 17 [4000, 6, 30, 40, 60, 6, 4, 12, 20, 4, 5, 2000, 6, 4, 40, 8000, 60] (by decide) (by decide)) (by kernel_rfl)) rfl rfl (by kernel_rfl) ?_
      refine AOps.stepsK (i := 3) (m := 3) (r := 3) (i' := 6) (st' := ⟨[(25, .cell (.own 25)), (24, .cell (.own 19)), (23, .cell (.d (.sc (.bool true)))), (22, .cell (.d (.sc (.bool true)))), (21, .cell (.d (.sl 1 17 (encI [4000, 6, 30, 40, 60, 6, 4, 12, 20, 4, 5, 2000, 6, 4, 40, 8000, 60])))), (20, .cell (.d (.sl 1 17 (encI [4000, 6, 30, 40, 60, 6, 4, 12, 20, 4, 5, 2000, 6, 4, 40, 8000, 60])))), (4, .cell (.d (.sl 1 17 (encI [4000, 6, 30, 40, 60, 6, 4, 12, 20, 4, 5, 2000, 6, 4, 40, 8000, 60])))), (5, .cell (.own 19))], [(25, .arr 3 1 25 [.sc (.int .i64 0), .sc (.int .i64 1), .sc (.int .i64 2), .sc (.int .i64 3), .sc (.int .i64 4), .sc (.int .i64 1), .sc (.int .i64 2), .sc (.int .i64 3), .sc (.int .i64 4), .sc (.int .i64 5), .sc (.int .i64 6), .sc (.int .i64 7), .sc (.int .i64 1), .sc (.int .i64 2), .sc (.int .i64 3), .sc (.int .i64 4), .sc (.int .i64 1), .sc (.int .i64 2), .sc (.int .i64 3), .sc (.int .i64 4), .sc (.int .i64 5), .sc (.int .i64 6), .sc (.int .i64 1), .sc (.int .i64 2), .sc (.int .i64 3)]), (21, .gone), (18, .gone), (19, .arr 3 1 25 [.sc (.int .i64 0), .sc (.int .i64 1), .sc (.int .i64 2), .sc (.int .i64 3), .sc (.int .i64 4), .sc (.int .i64 1), .sc (.int .i64 2), .sc (.int .i64 3), .sc (.int .i64 4), .sc (.int .i64 5), .sc (.int .i64 6), .sc (.int .i64 7), .sc (.int .i64 1), .sc (.int .i64 2), .sc (.int .i64 3), .sc (.int .i64 4), .sc (.int .i64 1), .sc (.int .i64 2), .sc (.int .i64 3), .sc (.int .i64 4), .sc (.int .i64 5), .sc (.int .i64 6), .sc (.int .i64 1), .sc (.int .i64 2), .sc (.int .i64 3)])]⟩) (by kernel_rfl) rfl rfl ?_
      refine AOps.freeze 19 (st' := ⟨[(25, .cell (.own 25)), (24, .cell (.d (.sl 1 25 (encI [0, 1, 2, 3, 4, 1, 2, 3, 4, 5, 6, 7, 1, 2, 3, 4, 1, 2, 3, 4, 5, 6, 1, 2, 3])))), (23, .cell (.d (.sc (.bool true)))), (22, .cell (.d (.sc (.bool true)))), (21, .cell (.d (.sl 1 17 (encI [4000, 6, 30, 40, 60, 6, 4, 12, 20, 4, 5, 2000, 6, 4, 40, 8000, 60])))), (20, .cell (.d (.sl 1 17 (encI [4000, 6, 30, 40, 60, 6, 4, 12, 20, 4, 5, 2000, 6, 4, 40, 8000, 60])))), (4, .cell (.d (.sl 1 17 (encI [4000, 6, 30, 40, 60, 6, 4, 12, 20, 4, 5, 2000, 6, 4, 40, 8000, 60])))), (5, .cell (.d (.sl 1 25 (encI [0, 1, 2, 3, 4, 1, 2, 3, 4, 5, 6, 7, 1, 2, 3, 4, 1, 2, 3, 4, 5, 6, 1, 2, 3]))))], [(19, .gone), (25, .arr 3 1 25 [.sc (.int .i64 0), .sc (.int .i64 1), .sc (.int .i64 2), .sc (.int .i64 3), .sc (.int .i64 4), .sc (.int .i64 1), .sc (.int .i64 2), .sc (.int .i64 3), .sc (.int .i64 4), .sc (.int .i64 5), .sc (.int .i64 6), .sc (.int .i64 7), .sc (.int .i64 1), .sc (.int .i64 2), .sc (.int .i64 3), .sc (.int .i64 4), .sc (.int .i64 1), .sc (.int .i64 2), .sc (.int .i64 3), .sc (.int .i64 4), .sc (.int .i64 5), .sc (.int .i64 6), .sc (.int .i64 1), .sc (.int .i64 2), .sc (.int .i64 3)]), (21, .gone), (18, .gone)]⟩) (by kernel_rfl) ?_
      refine AOps.freeze 25 (st' := ⟨[(25, .cell (.d (.sl 1 25 (encI [0, 1, 2, 3, 4, 1, 2, 3, 4, 5, 6, 7, 1, 2, 3, 4, 1, 2, 3, 4, 5, 6, 1, 2, 3])))), (24, .cell (.d (.sl 1 25 (encI [0, 1, 2, 3, 4, 1, 2, 3, 4, 5, 6, 7, 1, 2, 3, 4, 1, 2, 3, 4, 5, 6, 1, 2, 3])))), (23, .cell (.d (.sc (.bool true)))), (22, .cell (.d (.sc (.bool true)))), (21, .cell (.d (.sl 1 17 (encI [4000, 6, 30, 40, 60, 6, 4, 12, 20, 4, 5, 2000, 6, 4, 40, 8000, 60])))), (20, .cell (.d (.sl 1 17 (encI [4000, 6, 30, 40, 60, 6, 4, 12, 20, 4, 5, 2000, 6, 4, 40, 8000, 60])))), (4, .cell (.d (.sl 1 17 (encI [4000, 6, 30, 40, 60, 6, 4, 12, 20, 4, 5, 2000, 6, 4, 40, 8000, 60])))), (5, .cell (.d (.sl 1 25 (encI [0, 1, 2, 3, 4, 1, 2, 3, 4, 5, 6, 7, 1, 2, 3, 4, 1, 2, 3, 4, 5, 6, 1, 2, 3]))))], [(25, .gone), (19, .gone), (21, .gone), (18, .gone)]⟩) (by kernel_rfl) ?_
      refine AOps.one (i := 6) (r := 2) (i' := 7) (e := .put 26 (.cell (.d (.sc (.bool true))))) (st' := ⟨[(26, .cell (.d (.sc (.bool true)))), (25, .cell (.d (.sl 1 25 (encI [0, 1, 2, 3, 4, 1, 2, 3, 4, 5, 6, 7, 1, 2, 3, 4, 1, 2, 3, 4, 5, 6, 1, 2, 3])))), (24, .cell (.d (.sl 1 25 (encI [0, 1, 2, 3, 4, 1, 2, 3, 4, 5, 6, 7, 1, 2, 3, 4, 1, 2, 3, 4, 5, 6, 1, 2, 3])))), (23, .cell (.d (.sc (.bool true)))), (22, .cell (.d (.sc (.bool true)))), (21, .cell (.d (.sl 1 17 (encI [4000, 6, 30, 40, 60, 6, 4, 12, 20, 4, 5, 2000, 6, 4, 40, 8000, 60])))), (20, .cell (.d (.sl 1 17 (encI [4000, 6, 30, 40, 60, 6, 4, 12, 20, 4, 5, 2000, 6, 4, 40, 8000, 60])))), (4, .cell (.d (.sl 1 17 (encI [4000, 6, 30, 40, 60, 6, 4, 12, 20, 4, 5, 2000, 6, 4, 40, 8000, 60])))), (5, .cell (.d (.sl 1 25 (encI [0, 1, 2, 3, 4, 1, 2, 3, 4, 5, 6, 7, 1, 2, 3, 4, 1, 2, 3, 4, 5, 6, 1, 2, 3]))))], [(25, .gone), (19, .gone), (21, .gone), (18, .gone)]⟩) (IEff.qpcall (f := 4) (args := [.cell (.d (.sl 1 25 (encI [0, 1, 2, 3, 4, 1, 2, 3, 4, 5, 6, 7, 1, 2, 3, 4, 1, 2, 3, 4, 5, 6, 1, 2, 3]))), .cell (.d (.sl 1 25 (encI [0, 1, 2, 3, 4, 1, 2, 3, 4, 5, 6, 7, 1, 2, 3, 4, 1, 2, 3, 4, 5, 6, 1, 2, 3])))]) (by kernel_rfl) (by kernel_rfl) (equalI_same 25 [0, 1, 2, 3, 4, 1, 2, 3, 4, 5, 6, 7, 1, 2, 3, 4, 1, 2, 3, 4, 5, 6, 1, 2, 3] (by decide) (by decide)) (by kernel_rfl)) rfl rfl (by kernel_rfl) ?_
      refine AOps.stepsK (i := 7) (m := 2) (r := 0) (i' := 9) (st' := ⟨[(0, .cell (.d (.sc (.bool true)))), (27, .cell (.d (.sc (.bool true)))), (26, .cell (.d (.sc (.bool true)))), (25, .cell (.d (.sl 1 25 (encI [0, 1, 2, 3, 4, 1, 2, 3, 4, 5, 6, 7, 1, 2, 3, 4, 1, 2, 3, 4, 5, 6, 1, 2, 3])))), (24, .cell (.d (.sl 1 25 (encI [0, 1, 2, 3, 4, 1, 2, 3, 4, 5, 6, 7, 1, 2, 3, 4, 1, 2, 3, 4, 5, 6, 1, 2, 3])))), (23, .cell (.d (.sc (.bool true)))), (22, .cell (.d (.sc (.bool true)))), (21, .cell (.d (.sl 1 17 (encI [4000, 6, 30, 40, 60, 6, 4, 12, 20, 4, 5, 2000, 6, 4, 40, 8000, 60])))), (20, .cell (.d (.sl 1 17 (encI [4000, 6, 30, 40, 60, 6, 4, 12, 20, 4, 5, 2000, 6, 4, 40, 8000, 60])))), (4, .cell (.d (.sl 1 17 (encI [4000, 6, 30, 40, 60, 6, 4, 12, 20, 4, 5, 2000, 6, 4, 40, 8000, 60])))), (5, .cell (.d (.sl 1 25 (encI [0, 1, 2, 3, 4, 1, 2, 3, 4, 5, 6, 7, 1, 2, 3, 4, 1, 2, 3, 4, 5, 6, 1, 2, 3]))))], [(25, .gone), (19, .gone), (21, .gone), (18, .gone)]⟩) (by kernel_rfl) rfl rfl ?_
      refine AOps.keep [0] [] (st' := ⟨[(0, .cell (.d (.sc (.bool true))))], []⟩) (by kernel_rfl) ?_
      refine AOps.done ?_
      refine Then.go ?_
      refine AW.ret (by kernel_rfl) ?_
      refine RetF.of_ret [] (x := .cell (.d (.sc (.bool true)))) (by kernel_rfl) ?_
      exact ret_eq rfl

end Go.Proofs.Ytdngaeekecbgpaa
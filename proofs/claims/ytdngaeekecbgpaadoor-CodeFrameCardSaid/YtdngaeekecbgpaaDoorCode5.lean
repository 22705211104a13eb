/- The walk of CodeFrame. -/
import Derived.Test.YtdngaeekecbgpaaDoorCode4
namespace Go.Proofs.YtdngaeekecbgpaaDoor
open Go Esp
set_option maxRecDepth 100000
set_option linter.unusedSimpArgs false
set_option linter.unusedVariables false
noncomputable def C5 : Code := (Tryd.f5.body).getD .skip

theorem codeFrame (b c : ByteArray) (hb : b.size ≤ maxLen) (hc : c.size ≤ maxLen) : PCalls Tryd.prog 5 [.cell (.d (.sc (.string b))), .cell (.d (.sc (.string c)))] (.cell (.d (.sc (.bool true)))) := by
  have hb2 : b.size ≤ 9223372036854775807 := hb
  have hc2 : c.size ≤ 9223372036854775807 := hc
  refine ACalls.of_AWF (fn := Tryd.f5) (c := C5) (N := 83) (rs := [.tmp 4]) Tryd.func5 (by kernel_rfl) (by kernel_rfl) (by kernel_rfl) (by kernel_rfl) (by kernel_rfl) ?_
  show AW Tryd.prog 83 C5 ⟨[(0, .cell (.d (.sc (.string b)))), (1, .cell (.d (.sc (.string c))))], []⟩ _
  refine AW.seq (by kernel_rfl) ?_
  refine AW.region (n := 1) (by kernel_rfl) (by kernel_rfl) ?_
  refine AOps.steps (i := 0) (m := 1) (r := 0) (i' := 1) (st' := ⟨[(4, .cell (.d (.sc (.bool false)))), (0, .cell (.d (.sc (.string b)))), (1, .cell (.d (.sc (.string c))))], []⟩) (by kernel_rfl) rfl rfl ?_
  refine AOps.keep [0, 1] [] (st' := ⟨[(0, .cell (.d (.sc (.string b)))), (1, .cell (.d (.sc (.string c))))], []⟩) (by kernel_rfl) ?_
  refine AOps.done ?_
  refine Then.go ?_
  refine AW.seq (by kernel_rfl) ?_
  refine AW.region (n := 7) (by kernel_rfl) (by kernel_rfl) ?_
  refine AOps.steps (i := 0) (m := 1) (r := 6) (i' := 1) (st' := ⟨[(13, .cell (.d (.sc (.string b)))), (0, .cell (.d (.sc (.string b)))), (1, .cell (.d (.sc (.string c))))], []⟩) (by kernel_rfl) rfl rfl ?_
  refine AOps.one (i := 1) (r := 5) (i' := 2) (e := .put 14 (.tup [.cell (.d (.sc (.string ((frameR b).1)))), .cell (.d (.sc (.int .i64 ((frameR b).2))))])) (st' := ⟨[(14, .tup [.cell (.d (.sc (.string ((frameR b).1)))), .cell (.d (.sc (.int .i64 ((frameR b).2))))]), (13, .cell (.d (.sc (.string b)))), (0, .cell (.d (.sc (.string b)))), (1, .cell (.d (.sc (.string c))))], []⟩) (IEff.qpcall (f := 13) (args := [.cell (.d (.sc (.string b)))]) (by kernel_rfl) (by kernel_rfl) (Frame_all b hb) (by kernel_rfl)) rfl rfl (by kernel_rfl) ?_
  refine AOps.steps (i := 2) (m := 5) (r := 0) (i' := 7) (st' := ⟨[(6, .cell (.d (.sc (.int .i64 ((frameR b).2))))), (5, .cell (.d (.sc (.string ((frameR b).1))))), (16, .cell (.d (.sc (.int .i64 ((frameR b).2))))), (15, .cell (.d (.sc (.string ((frameR b).1))))), (12, .tup [.cell (.d (.sc (.string ((frameR b).1)))), .cell (.d (.sc (.int .i64 ((frameR b).2))))]), (14, .tup [.cell (.d (.sc (.string ((frameR b).1)))), .cell (.d (.sc (.int .i64 ((frameR b).2))))]), (13, .cell (.d (.sc (.string b)))), (0, .cell (.d (.sc (.string b)))), (1, .cell (.d (.sc (.string c))))], []⟩) (by kernel_rfl) rfl rfl ?_
  refine AOps.keep [0, 1, 5, 6] [] (st' := ⟨[(0, .cell (.d (.sc (.string b)))), (1, .cell (.d (.sc (.string c)))), (5, .cell (.d (.sc (.string ((frameR b).1))))), (6, .cell (.d (.sc (.int .i64 ((frameR b).2)))))], []⟩) (by kernel_rfl) ?_
  refine AOps.done ?_
  refine Then.go ?_
  refine AW.seq (by kernel_rfl) ?_
  refine AW.region (n := 9) (by kernel_rfl) (by kernel_rfl) ?_
  refine AOps.steps (i := 0) (m := 1) (r := 8) (i' := 1) (st' := ⟨[(18, .cell (.d (.sc (.string c)))), (0, .cell (.d (.sc (.string b)))), (1, .cell (.d (.sc (.string c)))), (5, .cell (.d (.sc (.string ((frameR b).1))))), (6, .cell (.d (.sc (.int .i64 ((frameR b).2)))))], []⟩) (by kernel_rfl) rfl rfl ?_
  refine AOps.ocallE (i := 1) (r := 7) (i' := 2) (d := some 19) (f := 14) (cargs := [.cell (.d (.sc (.string c)))]) (α := List ByteArray × Int × Int) (J := fun ⟨fl, fu, fe⟩ => framesJ c fl fu fe) (x := fun ⟨fl, fu, fe⟩ => .tup [.cell (.d (.sl 1 fl.length (encS fl))), .cell (.d (.sc (.int .i64 fu))), .cell (.d (.sc (.int .i64 fe)))]) (ob2 := fun ⟨fl, fu, fe⟩ => []) (by kernel_rfl) [] [] [] (by kernel_rfl) (by kernel_rfl) (by kernel_rfl) (by kernel_rfl) (Frames_c c hc) (fun _ => by kernel_rfl) (fun _ => by kernel_rfl) rfl rfl [0, 1, 5, 6, 19] [] (fun ⟨fl, fu, fe⟩ => (⟨[(0, .cell (.d (.sc (.string b)))), (1, .cell (.d (.sc (.string c)))), (5, .cell (.d (.sc (.string ((frameR b).1))))), (6, .cell (.d (.sc (.int .i64 ((frameR b).2))))), (19, .tup [.cell (.d (.sl 1 fl.length (encS fl))), .cell (.d (.sc (.int .i64 fu))), .cell (.d (.sc (.int .i64 fe)))])], []⟩ : ASt)) (fun _ => by kernel_rfl) ?_
  intro ⟨fl, fu, fe⟩ hfj
  try dsimp only
  dsimp only at hfj
  refine AOps.steps (i := 2) (m := 7) (r := 0) (i' := 9) (st' := ⟨[(9, .cell (.d (.sc (.int .i64 fe)))), (8, .cell (.d (.sc (.int .i64 fu)))), (7, .cell (.d (.sl 1 fl.length (encS fl)))), (22, .cell (.d (.sc (.int .i64 fe)))), (21, .cell (.d (.sc (.int .i64 fu)))), (20, .cell (.d (.sl 1 fl.length (encS fl)))), (17, .tup [.cell (.d (.sl 1 fl.length (encS fl))), .cell (.d (.sc (.int .i64 fu))), .cell (.d (.sc (.int .i64 fe)))]), (0, .cell (.d (.sc (.string b)))), (1, .cell (.d (.sc (.string c)))), (5, .cell (.d (.sc (.string ((frameR b).1))))), (6, .cell (.d (.sc (.int .i64 ((frameR b).2))))), (19, .tup [.cell (.d (.sl 1 fl.length (encS fl))), .cell (.d (.sc (.int .i64 fu))), .cell (.d (.sc (.int .i64 fe)))])], []⟩) (by kernel_rfl) rfl rfl ?_
  refine AOps.keep [0, 1, 5, 6, 7, 8, 9] [] (st' := ⟨[(0, .cell (.d (.sc (.string b)))), (1, .cell (.d (.sc (.string c)))), (5, .cell (.d (.sc (.string ((frameR b).1))))), (6, .cell (.d (.sc (.int .i64 ((frameR b).2))))), (7, .cell (.d (.sl 1 fl.length (encS fl)))), (8, .cell (.d (.sc (.int .i64 fu)))), (9, .cell (.d (.sc (.int .i64 fe))))], []⟩) (by kernel_rfl) ?_
  refine AOps.done ?_
  refine Then.go ?_
  refine AW.seq (by kernel_rfl) ?_
  refine AW.seq (by kernel_rfl) ?_
  refine AW.region (n := 2) (by kernel_rfl) (by kernel_rfl) ?_
  refine AOps.one (i := 0) (r := 1) (i' := 1) (e := .put 23 (.cell (.d (.sc (.bool true))))) (st' := ⟨[(23, .cell (.d (.sc (.bool true)))), (0, .cell (.d (.sc (.string b)))), (1, .cell (.d (.sc (.string c)))), (5, .cell (.d (.sc (.string ((frameR b).1))))), (6, .cell (.d (.sc (.int .i64 ((frameR b).2))))), (7, .cell (.d (.sl 1 fl.length (encS fl)))), (8, .cell (.d (.sc (.int .i64 fu)))), (9, .cell (.d (.sc (.int .i64 fe))))], []⟩) (IEff.qpcall (f := 12) (args := []) (by kernel_rfl) (by kernel_rfl) coded_c (by kernel_rfl)) rfl rfl (by kernel_rfl) ?_
  refine AOps.steps (i := 1) (m := 1) (r := 0) (i' := 2) (st' := ⟨[(24, .cell (.d (.sc (.bool false)))), (23, .cell (.d (.sc (.bool true)))), (0, .cell (.d (.sc (.string b)))), (1, .cell (.d (.sc (.string c)))), (5, .cell (.d (.sc (.string ((frameR b).1))))), (6, .cell (.d (.sc (.int .i64 ((frameR b).2))))), (7, .cell (.d (.sl 1 fl.length (encS fl)))), (8, .cell (.d (.sc (.int .i64 fu)))), (9, .cell (.d (.sc (.int .i64 fe))))], []⟩) (by kernel_rfl) rfl rfl ?_
  refine AOps.keep [0, 1, 5, 6, 7, 8, 9, 24] [] (st' := ⟨[(0, .cell (.d (.sc (.string b)))), (1, .cell (.d (.sc (.string c)))), (5, .cell (.d (.sc (.string ((frameR b).1))))), (6, .cell (.d (.sc (.int .i64 ((frameR b).2))))), (7, .cell (.d (.sl 1 fl.length (encS fl)))), (8, .cell (.d (.sc (.int .i64 fu)))), (9, .cell (.d (.sc (.int .i64 fe)))), (24, .cell (.d (.sc (.bool false))))], []⟩) (by kernel_rfl) ?_
  refine AOps.done ?_
  refine Then.go ?_
  refine AW.cond (b := false) (by kernel_rfl) (by kernel_rfl) (fun h => by cases h) (fun _ => ?_) 
  refine AW.skip (by kernel_rfl) ?_
  refine Then.go ?_
  refine AW.seq (by kernel_rfl) ?_
  refine AW.block (by kernel_rfl) ?_
  refine AW.seq (by kernel_rfl) ?_
  refine AW.region (n := 3) (by kernel_rfl) (by kernel_rfl) ?_
  refine AOps.steps (i := 0) (m := 3) (r := 0) (i' := 3) (st' := ⟨[(33, .cell (.d (.sc (.bool (seq b (⟨#[]⟩ : ByteArray)))))), (35, .cell (.d (.sc (.bool (seq b (⟨#[]⟩ : ByteArray)))))), (34, .cell (.d (.sc (.string b)))), (0, .cell (.d (.sc (.string b)))), (1, .cell (.d (.sc (.string c)))), (5, .cell (.d (.sc (.string ((frameR b).1))))), (6, .cell (.d (.sc (.int .i64 ((frameR b).2))))), (7, .cell (.d (.sl 1 fl.length (encS fl)))), (8, .cell (.d (.sc (.int .i64 fu)))), (9, .cell (.d (.sc (.int .i64 fe)))), (24, .cell (.d (.sc (.bool false))))], []⟩) (by kernel_rfl) rfl rfl ?_
  refine AOps.keep [0, 1, 5, 6, 7, 8, 9, 33] [] (st' := ⟨[(0, .cell (.d (.sc (.string b)))), (1, .cell (.d (.sc (.string c)))), (5, .cell (.d (.sc (.string ((frameR b).1))))), (6, .cell (.d (.sc (.int .i64 ((frameR b).2))))), (7, .cell (.d (.sl 1 fl.length (encS fl)))), (8, .cell (.d (.sc (.int .i64 fu)))), (9, .cell (.d (.sc (.int .i64 fe)))), (33, .cell (.d (.sc (.bool (seq b (⟨#[]⟩ : ByteArray))))))], []⟩) (by kernel_rfl) ?_
  refine AOps.done ?_
  refine Then.go ?_
  refine AW.cond (b := seq b (⟨#[]⟩ : ByteArray)) (by kernel_rfl) (by kernel_rfl) (fun h1 => ?_) (fun h1 => ?_)
  · -- seq b (⟨#[]⟩ : ByteArray) = True
    refine AW.seq (by kernel_rfl) ?_
    have e9 : frameR b = (⟨#[]⟩, 6) := by unfold frameR; rw [if_pos (by assumption)]
    rw [e9]
    refine AW.region (n := 6) (by kernel_rfl) (by kernel_rfl) ?_
    refine AOps.stepsK (i := 0) (m := 6) (r := 0) (i' := 6) (st' := ⟨[(41, .cell (.d (.sc (.bool false)))), (40, .cell (.d (.sc (.bool false)))), (39, .cell (.d (.sc (.string (⟨#[]⟩ : ByteArray))))), (38, .cell (.d (.sc (.bool false)))), (37, .cell (.d (.sc (.bool false)))), (36, .cell (.d (.sc (.int .i64 6)))), (0, .cell (.d (.sc (.string b)))), (1, .cell (.d (.sc (.string c)))), (5, .cell (.d (.sc (.string (⟨#[]⟩ : ByteArray))))), (6, .cell (.d (.sc (.int .i64 6)))), (7, .cell (.d (.sl 1 fl.length (encS fl)))), (8, .cell (.d (.sc (.int .i64 fu)))), (9, .cell (.d (.sc (.int .i64 fe)))), (33, .cell (.d (.sc (.bool (seq b (⟨#[]⟩ : ByteArray))))))], []⟩) (by kernel_rfl) rfl rfl ?_
    refine AOps.keep [1, 7, 8, 9, 41] [] (st' := ⟨[(1, .cell (.d (.sc (.string c)))), (7, .cell (.d (.sl 1 fl.length (encS fl)))), (8, .cell (.d (.sc (.int .i64 fu)))), (9, .cell (.d (.sc (.int .i64 fe)))), (41, .cell (.d (.sc (.bool false))))], []⟩) (by kernel_rfl) ?_
    refine AOps.done ?_
    refine Then.go ?_
    refine AW.cond (b := false) (by kernel_rfl) (by kernel_rfl) (fun h => by cases h) (fun _ => ?_) 
    refine AW.skip (by kernel_rfl) ?_
    refine InBlk.go ?_
    refine Then.go ?_
    refine AW.seq (by kernel_rfl) ?_
    refine AW.seq (by kernel_rfl) ?_
    refine AW.region (n := 3) (by kernel_rfl) (by kernel_rfl) ?_
    refine AOps.steps (i := 0) (m := 3) (r := 0) (i' := 3) (st' := ⟨[(54, .cell (.d (.sc (.bool (decide (((c.size : Int) : Int) > 16000)))))), (53, .cell (.d (.sc (.int .i64 (c.size : Int))))), (52, .cell (.d (.sc (.string c)))), (1, .cell (.d (.sc (.string c)))), (7, .cell (.d (.sl 1 fl.length (encS fl)))), (8, .cell (.d (.sc (.int .i64 fu)))), (9, .cell (.d (.sc (.int .i64 fe)))), (41, .cell (.d (.sc (.bool false))))], []⟩) (by kernel_rfl) rfl rfl ?_
    refine AOps.keep [1, 7, 8, 9, 54] [] (st' := ⟨[(1, .cell (.d (.sc (.string c)))), (7, .cell (.d (.sl 1 fl.length (encS fl)))), (8, .cell (.d (.sc (.int .i64 fu)))), (9, .cell (.d (.sc (.int .i64 fe)))), (54, .cell (.d (.sc (.bool (decide (((c.size : Int) : Int) > 16000))))))], []⟩) (by kernel_rfl) ?_
    refine AOps.done ?_
    refine Then.go ?_
    refine AW.cond (b := decide (((c.size : Int) : Int) > 16000)) (by kernel_rfl) (by kernel_rfl) (fun h2 => ?_) (fun h2 => ?_)
    · -- decide (((c.size : Int) : Int) > 16000) = True
      try simp only [Bool.and_eq_true, Bool.or_eq_true, Bool.and_eq_false_iff, Bool.or_eq_false_iff, decide_eq_true_eq, decide_eq_false_iff_not, beq_iff_eq, bne_iff_ne, ne_eq, Bool.not_eq_true', Bool.not_eq_false', beq_eq_false_iff_ne, bne_eq_false_iff_eq, Decidable.not_not, Int.not_lt, Int.not_le, gt_iff_lt, ge_iff_le] at h2
      refine AW.seq (by kernel_rfl) ?_
      have hA : fe = 2 ∧ fu = 0 ∧ fl.length = 0 := by (rcases hfj with ⟨_, h7, h8, h9⟩ | ⟨h9, _⟩; exact ⟨h9, h8, by rw [h7]; rfl⟩; omega)
      have hE0 : ((fe : Int) == 2) = true := by rw [hA.1]; rfl
      have hE1 : ((fu : Int) == 0) = true := by rw [hA.2.1]; rfl
      have hE2 : (((fl.length : Int) : Int) == 0) = true := by rw [hA.2.2]; rfl
      refine AW.region (n := 12) (by kernel_rfl) (by kernel_rfl) ?_
      refine AOps.steps (i := 0) (m := 2) (r := 10) (i' := 2) (st' := ⟨[(56, .cell (.d (.sc (.bool ((fe : Int) == 2))))), (55, .cell (.d (.sc (.int .i64 fe)))), (1, .cell (.d (.sc (.string c)))), (7, .cell (.d (.sl 1 fl.length (encS fl)))), (8, .cell (.d (.sc (.int .i64 fu)))), (9, .cell (.d (.sc (.int .i64 fe)))), (54, .cell (.d (.sc (.bool (decide (((c.size : Int) : Int) > 16000))))))], []⟩) (by kernel_rfl) rfl rfl ?_
      rw [hE0]
      refine AOps.stepsK (i := 2) (m := 3) (r := 7) (i' := 5) (st' := ⟨[(59, .cell (.d (.sc (.bool ((fu : Int) == 0))))), (58, .cell (.d (.sc (.int .i64 fu)))), (57, .cell (.d (.sc (.bool true)))), (56, .cell (.d (.sc (.bool true)))), (55, .cell (.d (.sc (.int .i64 fe)))), (1, .cell (.d (.sc (.string c)))), (7, .cell (.d (.sl 1 fl.length (encS fl)))), (8, .cell (.d (.sc (.int .i64 fu)))), (9, .cell (.d (.sc (.int .i64 fe)))), (54, .cell (.d (.sc (.bool (decide (((c.size : Int) : Int) > 16000))))))], []⟩) (by kernel_rfl) rfl rfl ?_
      rw [hE1]
      refine AOps.stepsK (i := 5) (m := 5) (r := 2) (i' := 10) (st' := ⟨[(64, .cell (.d (.sc (.bool (((fl.length : Int) : Int) == 0))))), (63, .cell (.d (.sc (.int .i64 (fl.length : Int))))), (62, .cell (.d (.sl 1 fl.length (encS fl)))), (61, .cell (.d (.sc (.bool true)))), (60, .cell (.d (.sc (.bool true)))), (59, .cell (.d (.sc (.bool true)))), (58, .cell (.d (.sc (.int .i64 fu)))), (57, .cell (.d (.sc (.bool true)))), (56, .cell (.d (.sc (.bool true)))), (55, .cell (.d (.sc (.int .i64 fe)))), (1, .cell (.d (.sc (.string c)))), (7, .cell (.d (.sl 1 fl.length (encS fl)))), (8, .cell (.d (.sc (.int .i64 fu)))), (9, .cell (.d (.sc (.int .i64 fe)))), (54, .cell (.d (.sc (.bool (decide (((c.size : Int) : Int) > 16000))))))], []⟩) (by kernel_rfl) rfl rfl ?_
      rw [hE2]
      refine AOps.steps (i := 10) (m := 2) (r := 0) (i' := 12) (st' := ⟨[(4, .cell (.d (.sc (.bool true)))), (65, .cell (.d (.sc (.bool true)))), (64, .cell (.d (.sc (.bool true)))), (63, .cell (.d (.sc (.int .i64 (fl.length : Int))))), (62, .cell (.d (.sl 1 fl.length (encS fl)))), (61, .cell (.d (.sc (.bool true)))), (60, .cell (.d (.sc (.bool true)))), (59, .cell (.d (.sc (.bool true)))), (58, .cell (.d (.sc (.int .i64 fu)))), (57, .cell (.d (.sc (.bool true)))), (56, .cell (.d (.sc (.bool true)))), (55, .cell (.d (.sc (.int .i64 fe)))), (1, .cell (.d (.sc (.string c)))), (7, .cell (.d (.sl 1 fl.length (encS fl)))), (8, .cell (.d (.sc (.int .i64 fu)))), (9, .cell (.d (.sc (.int .i64 fe)))), (54, .cell (.d (.sc (.bool (decide (((c.size : Int) : Int) > 16000))))))], []⟩) (by kernel_rfl) rfl rfl ?_
      refine AOps.keep [4] [] (st' := ⟨[(4, .cell (.d (.sc (.bool true))))], []⟩) (by kernel_rfl) ?_
      refine AOps.done ?_
      refine Then.go ?_
      refine AW.ret (by kernel_rfl) ?_
      refine Then.ret ?_
      refine RetF.of_ret [] (x := .cell (.d (.sc (.bool true)))) (by kernel_rfl) ?_
      exact ret_eq rfl
    · -- decide (((c.size : Int) : Int) > 16000) = False
      try simp only [Bool.and_eq_true, Bool.or_eq_true, Bool.and_eq_false_iff, Bool.or_eq_false_iff, decide_eq_true_eq, decide_eq_false_iff_not, beq_iff_eq, bne_iff_ne, ne_eq, Bool.not_eq_true', Bool.not_eq_false', beq_eq_false_iff_ne, bne_eq_false_iff_eq, Decidable.not_not, Int.not_lt, Int.not_le, gt_iff_lt, ge_iff_le] at h2
      refine AW.skip (by kernel_rfl) ?_
      refine Then.go ?_
      refine AW.seq (by kernel_rfl) ?_
      refine AW.region (n := 7) (by kernel_rfl) (by kernel_rfl) ?_
      refine AOps.steps (i := 0) (m := 1) (r := 6) (i' := 1) (st' := ⟨[(67, .cell (.d (.sc (.string c)))), (1, .cell (.d (.sc (.string c)))), (7, .cell (.d (.sl 1 fl.length (encS fl)))), (8, .cell (.d (.sc (.int .i64 fu)))), (9, .cell (.d (.sc (.int .i64 fe)))), (54, .cell (.d (.sc (.bool (decide (((c.size : Int) : Int) > 16000))))))], []⟩) (by kernel_rfl) rfl rfl ?_
      refine AOps.ocallE (i := 1) (r := 5) (i' := 2) (d := some 68) (f := 16) (cargs := [.cell (.d (.sc (.string c)))]) (α := List ByteArray × Int) (J := fun ⟨gl, gu⟩ => 0 ≤ gu ∧ Chain c gl gu.toNat ∧ ∀ n, ¬ isF c gu.toNat n) (x := fun ⟨gl, gu⟩ => .tup [.cell (.d (.sl 1 gl.length (encS gl))), .cell (.d (.sc (.int .i64 gu)))]) (ob2 := fun ⟨gl, gu⟩ => []) (by kernel_rfl) [] [] [] (by kernel_rfl) (by kernel_rfl) (by kernel_rfl) (by kernel_rfl) (FramesOf_c c (by omega)) (fun _ => by kernel_rfl) (fun _ => by kernel_rfl) rfl rfl [7, 8, 9, 68] [] (fun ⟨gl, gu⟩ => (⟨[(7, .cell (.d (.sl 1 fl.length (encS fl)))), (8, .cell (.d (.sc (.int .i64 fu)))), (9, .cell (.d (.sc (.int .i64 fe)))), (68, .tup [.cell (.d (.sl 1 gl.length (encS gl))), .cell (.d (.sc (.int .i64 gu)))])], []⟩ : ASt)) (fun _ => by kernel_rfl) ?_
      intro ⟨gl, gu⟩ hgj
      try dsimp only
      obtain ⟨hg0, hgch, hgn⟩ := hgj
      have hB : fe = 0 ∧ fl = gl ∧ fu = gu := by (rcases hfj with ⟨h9, _⟩ | ⟨_, h9, h8, hch, hn⟩; exact absurd h9 (by omega); obtain ⟨e1, e2⟩ := chain_max hch hn hgch hgn; exact ⟨h9, e1, by omega⟩)
      refine AOps.steps (i := 2) (m := 5) (r := 0) (i' := 7) (st' := ⟨[(11, .cell (.d (.sc (.int .i64 gu)))), (10, .cell (.d (.sl 1 gl.length (encS gl)))), (70, .cell (.d (.sc (.int .i64 gu)))), (69, .cell (.d (.sl 1 gl.length (encS gl)))), (66, .tup [.cell (.d (.sl 1 gl.length (encS gl))), .cell (.d (.sc (.int .i64 gu)))]), (7, .cell (.d (.sl 1 fl.length (encS fl)))), (8, .cell (.d (.sc (.int .i64 fu)))), (9, .cell (.d (.sc (.int .i64 fe)))), (68, .tup [.cell (.d (.sl 1 gl.length (encS gl))), .cell (.d (.sc (.int .i64 gu)))])], []⟩) (by kernel_rfl) rfl rfl ?_
      refine AOps.keep [7, 8, 9, 10, 11] [] (st' := ⟨[(7, .cell (.d (.sl 1 fl.length (encS fl)))), (8, .cell (.d (.sc (.int .i64 fu)))), (9, .cell (.d (.sc (.int .i64 fe)))), (10, .cell (.d (.sl 1 gl.length (encS gl)))), (11, .cell (.d (.sc (.int .i64 gu))))], []⟩) (by kernel_rfl) ?_
      refine AOps.done ?_
      refine Then.go ?_
      refine AW.seq (by kernel_rfl) ?_
      have hE0 : ((fe : Int) == 0) = true := by rw [hB.1]; rfl
      have hE1 : ((fu : Int) == gu) = true := by rw [hB.2.2]; exact beq_self_eq_true _
      have hE2 : (decide (fl = gl)) = true := by rw [hB.2.1]; exact decide_eq_true rfl
      refine AW.region (n := 13) (by kernel_rfl) (by kernel_rfl) ?_
      refine AOps.steps (i := 0) (m := 2) (r := 11) (i' := 2) (st' := ⟨[(72, .cell (.d (.sc (.bool ((fe : Int) == 0))))), (71, .cell (.d (.sc (.int .i64 fe)))), (7, .cell (.d (.sl 1 fl.length (encS fl)))), (8, .cell (.d (.sc (.int .i64 fu)))), (9, .cell (.d (.sc (.int .i64 fe)))), (10, .cell (.d (.sl 1 gl.length (encS gl)))), (11, .cell (.d (.sc (.int .i64 gu))))], []⟩) (by kernel_rfl) rfl rfl ?_
      rw [hE0]
      refine AOps.stepsK (i := 2) (m := 4) (r := 7) (i' := 6) (st' := ⟨[(76, .cell (.d (.sc (.bool ((fu : Int) == gu))))), (75, .cell (.d (.sc (.int .i64 gu)))), (74, .cell (.d (.sc (.int .i64 fu)))), (73, .cell (.d (.sc (.bool true)))), (72, .cell (.d (.sc (.bool true)))), (71, .cell (.d (.sc (.int .i64 fe)))), (7, .cell (.d (.sl 1 fl.length (encS fl)))), (8, .cell (.d (.sc (.int .i64 fu)))), (9, .cell (.d (.sc (.int .i64 fe)))), (10, .cell (.d (.sl 1 gl.length (encS gl)))), (11, .cell (.d (.sc (.int .i64 gu))))], []⟩) (by kernel_rfl) rfl rfl ?_
      rw [hE1]
      refine AOps.stepsK (i := 6) (m := 4) (r := 3) (i' := 10) (st' := ⟨[(80, .cell (.d (.sl 1 gl.length (encS gl)))), (79, .cell (.d (.sl 1 fl.length (encS fl)))), (78, .cell (.d (.sc (.bool true)))), (77, .cell (.d (.sc (.bool true)))), (76, .cell (.d (.sc (.bool true)))), (75, .cell (.d (.sc (.int .i64 gu)))), (74, .cell (.d (.sc (.int .i64 fu)))), (73, .cell (.d (.sc (.bool true)))), (72, .cell (.d (.sc (.bool true)))), (71, .cell (.d (.sc (.int .i64 fe)))), (7, .cell (.d (.sl 1 fl.length (encS fl)))), (8, .cell (.d (.sc (.int .i64 fu)))), (9, .cell (.d (.sc (.int .i64 fe)))), (10, .cell (.d (.sl 1 gl.length (encS gl)))), (11, .cell (.d (.sc (.int .i64 gu))))], []⟩) (by kernel_rfl) rfl rfl ?_
      have zl1 := chain_len hgch
      have zl2 : fl.length = gl.length := by rw [hB.2.1]
      refine AOps.one (i := 10) (r := 2) (i' := 11) (e := .put 81 (.cell (.d (.sc (.bool (decide (fl = gl))))))) (st' := ⟨[(81, .cell (.d (.sc (.bool (decide (fl = gl)))))), (80, .cell (.d (.sl 1 gl.length (encS gl)))), (79, .cell (.d (.sl 1 fl.length (encS fl)))), (78, .cell (.d (.sc (.bool true)))), (77, .cell (.d (.sc (.bool true)))), (76, .cell (.d (.sc (.bool true)))), (75, .cell (.d (.sc (.int .i64 gu)))), (74, .cell (.d (.sc (.int .i64 fu)))), (73, .cell (.d (.sc (.bool true)))), (72, .cell (.d (.sc (.bool true)))), (71, .cell (.d (.sc (.int .i64 fe)))), (7, .cell (.d (.sl 1 fl.length (encS fl)))), (8, .cell (.d (.sc (.int .i64 fu)))), (9, .cell (.d (.sc (.int .i64 fe)))), (10, .cell (.d (.sl 1 gl.length (encS gl)))), (11, .cell (.d (.sc (.int .i64 gu))))], []⟩) (IEff.qpcall (f := 17) (args := [.cell (.d (.sl 1 fl.length (encS fl))), .cell (.d (.sl 1 gl.length (encS gl)))]) (by kernel_rfl) (by kernel_rfl) (equalS fl gl (by omega) (by omega)) (by kernel_rfl)) rfl rfl (by kernel_rfl) ?_
      rw [hE2]
      refine AOps.steps (i := 11) (m := 2) (r := 0) (i' := 13) (st' := ⟨[(4, .cell (.d (.sc (.bool true)))), (82, .cell (.d (.sc (.bool true)))), (81, .cell (.d (.sc (.bool true)))), (80, .cell (.d (.sl 1 gl.length (encS gl)))), (79, .cell (.d (.sl 1 fl.length (encS fl)))), (78, .cell (.d (.sc (.bool true)))), (77, .cell (.d (.sc (.bool true)))), (76, .cell (.d (.sc (.bool true)))), (75, .cell (.d (.sc (.int .i64 gu)))), (74, .cell (.d (.sc (.int .i64 fu)))), (73, .cell (.d (.sc (.bool true)))), (72, .cell (.d (.sc (.bool true)))), (71, .cell (.d (.sc (.int .i64 fe)))), (7, .cell (.d (.sl 1 fl.length (encS fl)))), (8, .cell (.d (.sc (.int .i64 fu)))), (9, .cell (.d (.sc (.int .i64 fe)))), (10, .cell (.d (.sl 1 gl.length (encS gl)))), (11, .cell (.d (.sc (.int .i64 gu))))], []⟩) (by kernel_rfl) rfl rfl ?_
      refine AOps.keep [4] [] (st' := ⟨[(4, .cell (.d (.sc (.bool true))))], []⟩) (by kernel_rfl) ?_
      refine AOps.done ?_
      refine Then.go ?_
      refine AW.ret (by kernel_rfl) ?_
      refine RetF.of_ret [] (x := .cell (.d (.sc (.bool true)))) (by kernel_rfl) ?_
      exact ret_eq rfl
  · -- seq b (⟨#[]⟩ : ByteArray) = False
    refine AW.seq (by kernel_rfl) ?_
    refine AW.region (n := 4) (by kernel_rfl) (by kernel_rfl) ?_
    refine AOps.steps (i := 0) (m := 4) (r := 0) (i' := 4) (st' := ⟨[(42, .cell (.d (.sc (.bool (decide (((b.size : Int) : Int) > 8000)))))), (45, .cell (.d (.sc (.bool (decide (((b.size : Int) : Int) > 8000)))))), (44, .cell (.d (.sc (.int .i64 (b.size : Int))))), (43, .cell (.d (.sc (.string b)))), (0, .cell (.d (.sc (.string b)))), (1, .cell (.d (.sc (.string c)))), (5, .cell (.d (.sc (.string ((frameR b).1))))), (6, .cell (.d (.sc (.int .i64 ((frameR b).2))))), (7, .cell (.d (.sl 1 fl.length (encS fl)))), (8, .cell (.d (.sc (.int .i64 fu)))), (9, .cell (.d (.sc (.int .i64 fe)))), (33, .cell (.d (.sc (.bool (seq b (⟨#[]⟩ : ByteArray))))))], []⟩) (by kernel_rfl) rfl rfl ?_
    refine AOps.keep [0, 1, 5, 6, 7, 8, 9, 42] [] (st' := ⟨[(0, .cell (.d (.sc (.string b)))), (1, .cell (.d (.sc (.string c)))), (5, .cell (.d (.sc (.string ((frameR b).1))))), (6, .cell (.d (.sc (.int .i64 ((frameR b).2))))), (7, .cell (.d (.sl 1 fl.length (encS fl)))), (8, .cell (.d (.sc (.int .i64 fu)))), (9, .cell (.d (.sc (.int .i64 fe)))), (42, .cell (.d (.sc (.bool (decide (((b.size : Int) : Int) > 8000))))))], []⟩) (by kernel_rfl) ?_
    refine AOps.done ?_
    refine Then.go ?_
    refine AW.cond (b := decide (((b.size : Int) : Int) > 8000)) (by kernel_rfl) (by kernel_rfl) (fun h3 => ?_) (fun h3 => ?_)
    · -- decide (((b.size : Int) : Int) > 8000) = True
      try simp only [Bool.and_eq_true, Bool.or_eq_true, Bool.and_eq_false_iff, Bool.or_eq_false_iff, decide_eq_true_eq, decide_eq_false_iff_not, beq_iff_eq, bne_iff_ne, ne_eq, Bool.not_eq_true', Bool.not_eq_false', beq_eq_false_iff_ne, bne_eq_false_iff_eq, Decidable.not_not, Int.not_lt, Int.not_le, gt_iff_lt, ge_iff_le] at h3
      refine AW.seq (by kernel_rfl) ?_
      have e9 : frameR b = (⟨#[]⟩, 2) := by unfold frameR; rw [if_neg (by simp [*]), if_pos (by omega)]
      rw [e9]
      refine AW.region (n := 6) (by kernel_rfl) (by kernel_rfl) ?_
      refine AOps.stepsK (i := 0) (m := 6) (r := 0) (i' := 6) (st' := ⟨[(51, .cell (.d (.sc (.bool false)))), (50, .cell (.d (.sc (.bool false)))), (49, .cell (.d (.sc (.string (⟨#[]⟩ : ByteArray))))), (48, .cell (.d (.sc (.bool false)))), (47, .cell (.d (.sc (.bool false)))), (46, .cell (.d (.sc (.int .i64 2)))), (0, .cell (.d (.sc (.string b)))), (1, .cell (.d (.sc (.string c)))), (5, .cell (.d (.sc (.string (⟨#[]⟩ : ByteArray))))), (6, .cell (.d (.sc (.int .i64 2)))), (7, .cell (.d (.sl 1 fl.length (encS fl)))), (8, .cell (.d (.sc (.int .i64 fu)))), (9, .cell (.d (.sc (.int .i64 fe)))), (42, .cell (.d (.sc (.bool (decide (((b.size : Int) : Int) > 8000))))))], []⟩) (by kernel_rfl) rfl rfl ?_
      refine AOps.keep [1, 7, 8, 9, 51] [] (st' := ⟨[(1, .cell (.d (.sc (.string c)))), (7, .cell (.d (.sl 1 fl.length (encS fl)))), (8, .cell (.d (.sc (.int .i64 fu)))), (9, .cell (.d (.sc (.int .i64 fe)))), (51, .cell (.d (.sc (.bool false))))], []⟩) (by kernel_rfl) ?_
      refine AOps.done ?_
      refine Then.go ?_
      refine AW.cond (b := false) (by kernel_rfl) (by kernel_rfl) (fun h => by cases h) (fun _ => ?_) 
      refine AW.skip (by kernel_rfl) ?_
      refine InBlk.go ?_
      refine Then.go ?_
      refine AW.seq (by kernel_rfl) ?_
      refine AW.seq (by kernel_rfl) ?_
      refine AW.region (n := 3) (by kernel_rfl) (by kernel_rfl) ?_
      refine AOps.steps (i := 0) (m := 3) (r := 0) (i' := 3) (st' := ⟨[(54, .cell (.d (.sc (.bool (decide (((c.size : Int) : Int) > 16000)))))), (53, .cell (.d (.sc (.int .i64 (c.size : Int))))), (52, .cell (.d (.sc (.string c)))), (1, .cell (.d (.sc (.string c)))), (7, .cell (.d (.sl 1 fl.length (encS fl)))), (8, .cell (.d (.sc (.int .i64 fu)))), (9, .cell (.d (.sc (.int .i64 fe)))), (51, .cell (.d (.sc (.bool false))))], []⟩) (by kernel_rfl) rfl rfl ?_
      refine AOps.keep [1, 7, 8, 9, 54] [] (st' := ⟨[(1, .cell (.d (.sc (.string c)))), (7, .cell (.d (.sl 1 fl.length (encS fl)))), (8, .cell (.d (.sc (.int .i64 fu)))), (9, .cell (.d (.sc (.int .i64 fe)))), (54, .cell (.d (.sc (.bool (decide (((c.size : Int) : Int) > 16000))))))], []⟩) (by kernel_rfl) ?_
      refine AOps.done ?_
      refine Then.go ?_
      refine AW.cond (b := decide (((c.size : Int) : Int) > 16000)) (by kernel_rfl) (by kernel_rfl) (fun h4 => ?_) (fun h4 => ?_)
      · -- decide (((c.size : Int) : Int) > 16000) = True
        try simp only [Bool.and_eq_true, Bool.or_eq_true, Bool.and_eq_false_iff, Bool.or_eq_false_iff, decide_eq_true_eq, decide_eq_false_iff_not, beq_iff_eq, bne_iff_ne, ne_eq, Bool.not_eq_true', Bool.not_eq_false', beq_eq_false_iff_ne, bne_eq_false_iff_eq, Decidable.not_not, Int.not_lt, Int.not_le, gt_iff_lt, ge_iff_le] at h4
        refine AW.seq (by kernel_rfl) ?_
        have hA : fe = 2 ∧ fu = 0 ∧ fl.length = 0 := by (rcases hfj with ⟨_, h7, h8, h9⟩ | ⟨h9, _⟩; exact ⟨h9, h8, by rw [h7]; rfl⟩; omega)
        have hE0 : ((fe : Int) == 2) = true := by rw [hA.1]; rfl
        have hE1 : ((fu : Int) == 0) = true := by rw [hA.2.1]; rfl
        have hE2 : (((fl.length : Int) : Int) == 0) = true := by rw [hA.2.2]; rfl
        refine AW.region (n := 12) (by kernel_rfl) (by kernel_rfl) ?_
        refine AOps.steps (i := 0) (m := 2) (r := 10) (i' := 2) (st' := ⟨[(56, .cell (.d (.sc (.bool ((fe : Int) == 2))))), (55, .cell (.d (.sc (.int .i64 fe)))), (1, .cell (.d (.sc (.string c)))), (7, .cell (.d (.sl 1 fl.length (encS fl)))), (8, .cell (.d (.sc (.int .i64 fu)))), (9, .cell (.d (.sc (.int .i64 fe)))), (54, .cell (.d (.sc (.bool (decide (((c.size : Int) : Int) > 16000))))))], []⟩) (by kernel_rfl) rfl rfl ?_
        rw [hE0]
        refine AOps.stepsK (i := 2) (m := 3) (r := 7) (i' := 5) (st' := ⟨[(59, .cell (.d (.sc (.bool ((fu : Int) == 0))))), (58, .cell (.d (.sc (.int .i64 fu)))), (57, .cell (.d (.sc (.bool true)))), (56, .cell (.d (.sc (.bool true)))), (55, .cell (.d (.sc (.int .i64 fe)))), (1, .cell (.d (.sc (.string c)))), (7, .cell (.d (.sl 1 fl.length (encS fl)))), (8, .cell (.d (.sc (.int .i64 fu)))), (9, .cell (.d (.sc (.int .i64 fe)))), (54, .cell (.d (.sc (.bool (decide (((c.size : Int) : Int) > 16000))))))], []⟩) (by kernel_rfl) rfl rfl ?_
        rw [hE1]
        refine AOps.stepsK (i := 5) (m := 5) (r := 2) (i' := 10) (st' := ⟨[(64, .cell (.d (.sc (.bool (((fl.length : Int) : Int) == 0))))), (63, .cell (.d (.sc (.int .i64 (fl.length : Int))))), (62, .cell (.d (.sl 1 fl.length (encS fl)))), (61, .cell (.d (.sc (.bool true)))), (60, .cell (.d (.sc (.bool true)))), (59, .cell (.d (.sc (.bool true)))), (58, .cell (.d (.sc (.int .i64 fu)))), (57, .cell (.d (.sc (.bool true)))), (56, .cell (.d (.sc (.bool true)))), (55, .cell (.d (.sc (.int .i64 fe)))), (1, .cell (.d (.sc (.string c)))), (7, .cell (.d (.sl 1 fl.length (encS fl)))), (8, .cell (.d (.sc (.int .i64 fu)))), (9, .cell (.d (.sc (.int .i64 fe)))), (54, .cell (.d (.sc (.bool (decide (((c.size : Int) : Int) > 16000))))))], []⟩) (by kernel_rfl) rfl rfl ?_
        rw [hE2]
        refine AOps.steps (i := 10) (m := 2) (r := 0) (i' := 12) (st' := ⟨[(4, .cell (.d (.sc (.bool true)))), (65, .cell (.d (.sc (.bool true)))), (64, .cell (.d (.sc (.bool true)))), (63, .cell (.d (.sc (.int .i64 (fl.length : Int))))), (62, .cell (.d (.sl 1 fl.length (encS fl)))), (61, .cell (.d (.sc (.bool true)))), (60, .cell (.d (.sc (.bool true)))), (59, .cell (.d (.sc (.bool true)))), (58, .cell (.d (.sc (.int .i64 fu)))), (57, .cell (.d (.sc (.bool true)))), (56, .cell (.d (.sc (.bool true)))), (55, .cell (.d (.sc (.int .i64 fe)))), (1, .cell (.d (.sc (.string c)))), (7, .cell (.d (.sl 1 fl.length (encS fl)))), (8, .cell (.d (.sc (.int .i64 fu)))), (9, .cell (.d (.sc (.int .i64 fe)))), (54, .cell (.d (.sc (.bool (decide (((c.size : Int) : Int) > 16000))))))], []⟩) (by kernel_rfl) rfl rfl ?_
        refine AOps.keep [4] [] (st' := ⟨[(4, .cell (.d (.sc (.bool true))))], []⟩) (by kernel_rfl) ?_
        refine AOps.done ?_
        refine Then.go ?_
        refine AW.ret (by kernel_rfl) ?_
        refine Then.ret ?_
        refine RetF.of_ret [] (x := .cell (.d (.sc (.bool true)))) (by kernel_rfl) ?_
        exact ret_eq rfl
      · -- decide (((c.size : Int) : Int) > 16000) = False
        try simp only [Bool.and_eq_true, Bool.or_eq_true, Bool.and_eq_false_iff, Bool.or_eq_false_iff, decide_eq_true_eq, decide_eq_false_iff_not, beq_iff_eq, bne_iff_ne, ne_eq, Bool.not_eq_true', Bool.not_eq_false', beq_eq_false_iff_ne, bne_eq_false_iff_eq, Decidable.not_not, Int.not_lt, Int.not_le, gt_iff_lt, ge_iff_le] at h4
        refine AW.skip (by kernel_rfl) ?_
        refine Then.go ?_
        refine AW.seq (by kernel_rfl) ?_
        refine AW.region (n := 7) (by kernel_rfl) (by kernel_rfl) ?_
        refine AOps.steps (i := 0) (m := 1) (r := 6) (i' := 1) (st' := ⟨[(67, .cell (.d (.sc (.string c)))), (1, .cell (.d (.sc (.string c)))), (7, .cell (.d (.sl 1 fl.length (encS fl)))), (8, .cell (.d (.sc (.int .i64 fu)))), (9, .cell (.d (.sc (.int .i64 fe)))), (54, .cell (.d (.sc (.bool (decide (((c.size : Int) : Int) > 16000))))))], []⟩) (by kernel_rfl) rfl rfl ?_
        refine AOps.ocallE (i := 1) (r := 5) (i' := 2) (d := some 68) (f := 16) (cargs := [.cell (.d (.sc (.string c)))]) (α := List ByteArray × Int) (J := fun ⟨gl, gu⟩ => 0 ≤ gu ∧ Chain c gl gu.toNat ∧ ∀ n, ¬ isF c gu.toNat n) (x := fun ⟨gl, gu⟩ => .tup [.cell (.d (.sl 1 gl.length (encS gl))), .cell (.d (.sc (.int .i64 gu)))]) (ob2 := fun ⟨gl, gu⟩ => []) (by kernel_rfl) [] [] [] (by kernel_rfl) (by kernel_rfl) (by kernel_rfl) (by kernel_rfl) (FramesOf_c c (by omega)) (fun _ => by kernel_rfl) (fun _ => by kernel_rfl) rfl rfl [7, 8, 9, 68] [] (fun ⟨gl, gu⟩ => (⟨[(7, .cell (.d (.sl 1 fl.length (encS fl)))), (8, .cell (.d (.sc (.int .i64 fu)))), (9, .cell (.d (.sc (.int .i64 fe)))), (68, .tup [.cell (.d (.sl 1 gl.length (encS gl))), .cell (.d (.sc (.int .i64 gu)))])], []⟩ : ASt)) (fun _ => by kernel_rfl) ?_
        intro ⟨gl, gu⟩ hgj
        try dsimp only
        obtain ⟨hg0, hgch, hgn⟩ := hgj
        have hB : fe = 0 ∧ fl = gl ∧ fu = gu := by (rcases hfj with ⟨h9, _⟩ | ⟨_, h9, h8, hch, hn⟩; exact absurd h9 (by omega); obtain ⟨e1, e2⟩ := chain_max hch hn hgch hgn; exact ⟨h9, e1, by omega⟩)
        refine AOps.steps (i := 2) (m := 5) (r := 0) (i' := 7) (st' := ⟨[(11, .cell (.d (.sc (.int .i64 gu)))), (10, .cell (.d (.sl 1 gl.length (encS gl)))), (70, .cell (.d (.sc (.int .i64 gu)))), (69, .cell (.d (.sl 1 gl.length (encS gl)))), (66, .tup [.cell (.d (.sl 1 gl.length (encS gl))), .cell (.d (.sc (.int .i64 gu)))]), (7, .cell (.d (.sl 1 fl.length (encS fl)))), (8, .cell (.d (.sc (.int .i64 fu)))), (9, .cell (.d (.sc (.int .i64 fe)))), (68, .tup [.cell (.d (.sl 1 gl.length (encS gl))), .cell (.d (.sc (.int .i64 gu)))])], []⟩) (by kernel_rfl) rfl rfl ?_
        refine AOps.keep [7, 8, 9, 10, 11] [] (st' := ⟨[(7, .cell (.d (.sl 1 fl.length (encS fl)))), (8, .cell (.d (.sc (.int .i64 fu)))), (9, .cell (.d (.sc (.int .i64 fe)))), (10, .cell (.d (.sl 1 gl.length (encS gl)))), (11, .cell (.d (.sc (.int .i64 gu))))], []⟩) (by kernel_rfl) ?_
        refine AOps.done ?_
        refine Then.go ?_
        refine AW.seq (by kernel_rfl) ?_
        have hE0 : ((fe : Int) == 0) = true := by rw [hB.1]; rfl
        have hE1 : ((fu : Int) == gu) = true := by rw [hB.2.2]; exact beq_self_eq_true _
        have hE2 : (decide (fl = gl)) = true := by rw [hB.2.1]; exact decide_eq_true rfl
        refine AW.region (n := 13) (by kernel_rfl) (by kernel_rfl) ?_
        refine AOps.steps (i := 0) (m := 2) (r := 11) (i' := 2) (st' := ⟨[(72, .cell (.d (.sc (.bool ((fe : Int) == 0))))), (71, .cell (.d (.sc (.int .i64 fe)))), (7, .cell (.d (.sl 1 fl.length (encS fl)))), (8, .cell (.d (.sc (.int .i64 fu)))), (9, .cell (.d (.sc (.int .i64 fe)))), (10, .cell (.d (.sl 1 gl.length (encS gl)))), (11, .cell (.d (.sc (.int .i64 gu))))], []⟩) (by kernel_rfl) rfl rfl ?_
        rw [hE0]
        refine AOps.stepsK (i := 2) (m := 4) (r := 7) (i' := 6) (st' := ⟨[(76, .cell (.d (.sc (.bool ((fu : Int) == gu))))), (75, .cell (.d (.sc (.int .i64 gu)))), (74, .cell (.d (.sc (.int .i64 fu)))), (73, .cell (.d (.sc (.bool true)))), (72, .cell (.d (.sc (.bool true)))), (71, .cell (.d (.sc (.int .i64 fe)))), (7, .cell (.d (.sl 1 fl.length (encS fl)))), (8, .cell (.d (.sc (.int .i64 fu)))), (9, .cell (.d (.sc (.int .i64 fe)))), (10, .cell (.d (.sl 1 gl.length (encS gl)))), (11, .cell (.d (.sc (.int .i64 gu))))], []⟩) (by kernel_rfl) rfl rfl ?_
        rw [hE1]
        refine AOps.stepsK (i := 6) (m := 4) (r := 3) (i' := 10) (st' := ⟨[(80, .cell (.d (.sl 1 gl.length (encS gl)))), (79, .cell (.d (.sl 1 fl.length (encS fl)))), (78, .cell (.d (.sc (.bool true)))), (77, .cell (.d (.sc (.bool true)))), (76, .cell (.d (.sc (.bool true)))), (75, .cell (.d (.sc (.int .i64 gu)))), (74, .cell (.d (.sc (.int .i64 fu)))), (73, .cell (.d (.sc (.bool true)))), (72, .cell (.d (.sc (.bool true)))), (71, .cell (.d (.sc (.int .i64 fe)))), (7, .cell (.d (.sl 1 fl.length (encS fl)))), (8, .cell (.d (.sc (.int .i64 fu)))), (9, .cell (.d (.sc (.int .i64 fe)))), (10, .cell (.d (.sl 1 gl.length (encS gl)))), (11, .cell (.d (.sc (.int .i64 gu))))], []⟩) (by kernel_rfl) rfl rfl ?_
        have zl1 := chain_len hgch
        have zl2 : fl.length = gl.length := by rw [hB.2.1]
        refine AOps.one (i := 10) (r := 2) (i' := 11) (e := .put 81 (.cell (.d (.sc (.bool (decide (fl = gl))))))) (st' := ⟨[(81, .cell (.d (.sc (.bool (decide (fl = gl)))))), (80, .cell (.d (.sl 1 gl.length (encS gl)))), (79, .cell (.d (.sl 1 fl.length (encS fl)))), (78, .cell (.d (.sc (.bool true)))), (77, .cell (.d (.sc (.bool true)))), (76, .cell (.d (.sc (.bool true)))), (75, .cell (.d (.sc (.int .i64 gu)))), (74, .cell (.d (.sc (.int .i64 fu)))), (73, .cell (.d (.sc (.bool true)))), (72, .cell (.d (.sc (.bool true)))), (71, .cell (.d (.sc (.int .i64 fe)))), (7, .cell (.d (.sl 1 fl.length (encS fl)))), (8, .cell (.d (.sc (.int .i64 fu)))), (9, .cell (.d (.sc (.int .i64 fe)))), (10, .cell (.d (.sl 1 gl.length (encS gl)))), (11, .cell (.d (.sc (.int .i64 gu))))], []⟩) (IEff.qpcall (f := 17) (args := [.cell (.d (.sl 1 fl.length (encS fl))), .cell (.d (.sl 1 gl.length (encS gl)))]) (by kernel_rfl) (by kernel_rfl) (equalS fl gl (by omega) (by omega)) (by kernel_rfl)) rfl rfl (by kernel_rfl) ?_
        rw [hE2]
        refine AOps.steps (i := 11) (m := 2) (r := 0) (i' := 13) (st' := ⟨[(4, .cell (.d (.sc (.bool true)))), (82, .cell (.d (.sc (.bool true)))), (81, .cell (.d (.sc (.bool true)))), (80, .cell (.d (.sl 1 gl.length (encS gl)))), (79, .cell (.d (.sl 1 fl.length (encS fl)))), (78, .cell (.d (.sc (.bool true)))), (77, .cell (.d (.sc (.bool true)))), (76, .cell (.d (.sc (.bool true)))), (75, .cell (.d (.sc (.int .i64 gu)))), (74, .cell (.d (.sc (.int .i64 fu)))), (73, .cell (.d (.sc (.bool true)))), (72, .cell (.d (.sc (.bool true)))), (71, .cell (.d (.sc (.int .i64 fe)))), (7, .cell (.d (.sl 1 fl.length (encS fl)))), (8, .cell (.d (.sc (.int .i64 fu)))), (9, .cell (.d (.sc (.int .i64 fe)))), (10, .cell (.d (.sl 1 gl.length (encS gl)))), (11, .cell (.d (.sc (.int .i64 gu))))], []⟩) (by kernel_rfl) rfl rfl ?_
        refine AOps.keep [4] [] (st' := ⟨[(4, .cell (.d (.sc (.bool true))))], []⟩) (by kernel_rfl) ?_
        refine AOps.done ?_
        refine Then.go ?_
        refine AW.ret (by kernel_rfl) ?_
        refine RetF.of_ret [] (x := .cell (.d (.sc (.bool true)))) (by kernel_rfl) ?_
        exact ret_eq rfl
    · -- decide (((b.size : Int) : Int) > 8000) = False
      try simp only [Bool.and_eq_true, Bool.or_eq_true, Bool.and_eq_false_iff, Bool.or_eq_false_iff, decide_eq_true_eq, decide_eq_false_iff_not, beq_iff_eq, bne_iff_ne, ne_eq, Bool.not_eq_true', Bool.not_eq_false', beq_eq_false_iff_ne, bne_eq_false_iff_eq, Decidable.not_not, Int.not_lt, Int.not_le, gt_iff_lt, ge_iff_le] at h3
      refine AW.seq (by kernel_rfl) ?_
      have e9 : frameR b = (frameOf b, 0) := by unfold frameR; rw [if_neg (by simp [*]), if_neg (by omega)]
      rw [e9]
      have hsf : (!(seq (frameOf b) (frameOf b))) = false := by rw [(seq_iff _ _).2 rfl]; rfl
      refine AW.region (n := 8) (by kernel_rfl) (by kernel_rfl) ?_
      refine AOps.stepsK (i := 0) (m := 5) (r := 3) (i' := 5) (st' := ⟨[(29, .cell (.d (.sc (.string b)))), (28, .cell (.d (.sc (.string (frameOf b))))), (27, .cell (.d (.sc (.bool false)))), (26, .cell (.d (.sc (.bool false)))), (25, .cell (.d (.sc (.int .i64 0)))), (0, .cell (.d (.sc (.string b)))), (1, .cell (.d (.sc (.string c)))), (5, .cell (.d (.sc (.string (frameOf b))))), (6, .cell (.d (.sc (.int .i64 0)))), (7, .cell (.d (.sl 1 fl.length (encS fl)))), (8, .cell (.d (.sc (.int .i64 fu)))), (9, .cell (.d (.sc (.int .i64 fe)))), (42, .cell (.d (.sc (.bool (decide (((b.size : Int) : Int) > 8000))))))], []⟩) (by kernel_rfl) rfl rfl ?_
      refine AOps.one (i := 5) (r := 2) (i' := 6) (e := .put 30 (.cell (.d (.sc (.string (frameOf b)))))) (st' := ⟨[(30, .cell (.d (.sc (.string (frameOf b))))), (29, .cell (.d (.sc (.string b)))), (28, .cell (.d (.sc (.string (frameOf b))))), (27, .cell (.d (.sc (.bool false)))), (26, .cell (.d (.sc (.bool false)))), (25, .cell (.d (.sc (.int .i64 0)))), (0, .cell (.d (.sc (.string b)))), (1, .cell (.d (.sc (.string c)))), (5, .cell (.d (.sc (.string (frameOf b))))), (6, .cell (.d (.sc (.int .i64 0)))), (7, .cell (.d (.sl 1 fl.length (encS fl)))), (8, .cell (.d (.sc (.int .i64 fu)))), (9, .cell (.d (.sc (.int .i64 fe)))), (42, .cell (.d (.sc (.bool (decide (((b.size : Int) : Int) > 8000))))))], []⟩) (IEff.qpcall (f := 15) (args := [.cell (.d (.sc (.string b)))]) (by kernel_rfl) (by kernel_rfl) (FrameOf_c b (by omega)) (by kernel_rfl)) rfl rfl (by kernel_rfl) ?_
      refine AOps.stepsK (i := 6) (m := 1) (r := 1) (i' := 7) (st' := ⟨[(31, .cell (.d (.sc (.bool (!(seq (frameOf b) (frameOf b))))))), (30, .cell (.d (.sc (.string (frameOf b))))), (29, .cell (.d (.sc (.string b)))), (28, .cell (.d (.sc (.string (frameOf b))))), (27, .cell (.d (.sc (.bool false)))), (26, .cell (.d (.sc (.bool false)))), (25, .cell (.d (.sc (.int .i64 0)))), (0, .cell (.d (.sc (.string b)))), (1, .cell (.d (.sc (.string c)))), (5, .cell (.d (.sc (.string (frameOf b))))), (6, .cell (.d (.sc (.int .i64 0)))), (7, .cell (.d (.sl 1 fl.length (encS fl)))), (8, .cell (.d (.sc (.int .i64 fu)))), (9, .cell (.d (.sc (.int .i64 fe)))), (42, .cell (.d (.sc (.bool (decide (((b.size : Int) : Int) > 8000))))))], []⟩) (by kernel_rfl) rfl rfl ?_
      rw [hsf]
      refine AOps.steps (i := 7) (m := 1) (r := 0) (i' := 8) (st' := ⟨[(32, .cell (.d (.sc (.bool false)))), (31, .cell (.d (.sc (.bool false)))), (30, .cell (.d (.sc (.string (frameOf b))))), (29, .cell (.d (.sc (.string b)))), (28, .cell (.d (.sc (.string (frameOf b))))), (27, .cell (.d (.sc (.bool false)))), (26, .cell (.d (.sc (.bool false)))), (25, .cell (.d (.sc (.int .i64 0)))), (0, .cell (.d (.sc (.string b)))), (1, .cell (.d (.sc (.string c)))), (5, .cell (.d (.sc (.string (frameOf b))))), (6, .cell (.d (.sc (.int .i64 0)))), (7, .cell (.d (.sl 1 fl.length (encS fl)))), (8, .cell (.d (.sc (.int .i64 fu)))), (9, .cell (.d (.sc (.int .i64 fe)))), (42, .cell (.d (.sc (.bool (decide (((b.size : Int) : Int) > 8000))))))], []⟩) (by kernel_rfl) rfl rfl ?_
      refine AOps.keep [1, 7, 8, 9, 32] [] (st' := ⟨[(1, .cell (.d (.sc (.string c)))), (7, .cell (.d (.sl 1 fl.length (encS fl)))), (8, .cell (.d (.sc (.int .i64 fu)))), (9, .cell (.d (.sc (.int .i64 fe)))), (32, .cell (.d (.sc (.bool false))))], []⟩) (by kernel_rfl) ?_
      refine AOps.done ?_
      refine Then.go ?_
      refine AW.cond (b := false) (by kernel_rfl) (by kernel_rfl) (fun h => by cases h) (fun _ => ?_) 
      refine AW.skip (by kernel_rfl) ?_
      refine InBlk.go ?_
      refine Then.go ?_
      refine AW.seq (by kernel_rfl) ?_
      refine AW.seq (by kernel_rfl) ?_
      refine AW.region (n := 3) (by kernel_rfl) (by kernel_rfl) ?_
      refine AOps.steps (i := 0) (m := 3) (r := 0) (i' := 3) (st' := ⟨[(54, .cell (.d (.sc (.bool (decide (((c.size : Int) : Int) > 16000)))))), (53, .cell (.d (.sc (.int .i64 (c.size : Int))))), (52, .cell (.d (.sc (.string c)))), (1, .cell (.d (.sc (.string c)))), (7, .cell (.d (.sl 1 fl.length (encS fl)))), (8, .cell (.d (.sc (.int .i64 fu)))), (9, .cell (.d (.sc (.int .i64 fe)))), (32, .cell (.d (.sc (.bool false))))], []⟩) (by kernel_rfl) rfl rfl ?_
      refine AOps.keep [1, 7, 8, 9, 54] [] (st' := ⟨[(1, .cell (.d (.sc (.string c)))), (7, .cell (.d (.sl 1 fl.length (encS fl)))), (8, .cell (.d (.sc (.int .i64 fu)))), (9, .cell (.d (.sc (.int .i64 fe)))), (54, .cell (.d (.sc (.bool (decide (((c.size : Int) : Int) > 16000))))))], []⟩) (by kernel_rfl) ?_
      refine AOps.done ?_
      refine Then.go ?_
      refine AW.cond (b := decide (((c.size : Int) : Int) > 16000)) (by kernel_rfl) (by kernel_rfl) (fun h5 => ?_) (fun h5 => ?_)
      · -- decide (((c.size : Int) : Int) > 16000) = True
        try simp only [Bool.and_eq_true, Bool.or_eq_true, Bool.and_eq_false_iff, Bool.or_eq_false_iff, decide_eq_true_eq, decide_eq_false_iff_not, beq_iff_eq, bne_iff_ne, ne_eq, Bool.not_eq_true', Bool.not_eq_false', beq_eq_false_iff_ne, bne_eq_false_iff_eq, Decidable.not_not, Int.not_lt, Int.not_le, gt_iff_lt, ge_iff_le] at h5
        refine AW.seq (by kernel_rfl) ?_
        have hA : fe = 2 ∧ fu = 0 ∧ fl.length = 0 := by (rcases hfj with ⟨_, h7, h8, h9⟩ | ⟨h9, _⟩; exact ⟨h9, h8, by rw [h7]; rfl⟩; omega)
        have hE0 : ((fe : Int) == 2) = true := by rw [hA.1]; rfl
        have hE1 : ((fu : Int) == 0) = true := by rw [hA.2.1]; rfl
        have hE2 : (((fl.length : Int) : Int) == 0) = true := by rw [hA.2.2]; rfl
        refine AW.region (n := 12) (by kernel_rfl) (by kernel_rfl) ?_
        refine AOps.steps (i := 0) (m := 2) (r := 10) (i' := 2) (st' := ⟨[(56, .cell (.d (.sc (.bool ((fe : Int) == 2))))), (55, .cell (.d (.sc (.int .i64 fe)))), (1, .cell (.d (.sc (.string c)))), (7, .cell (.d (.sl 1 fl.length (encS fl)))), (8, .cell (.d (.sc (.int .i64 fu)))), (9, .cell (.d (.sc (.int .i64 fe)))), (54, .cell (.d (.sc (.bool (decide (((c.size : Int) : Int) > 16000))))))], []⟩) (by kernel_rfl) rfl rfl ?_
        rw [hE0]
        refine AOps.stepsK (i := 2) (m := 3) (r := 7) (i' := 5) (st' := ⟨[(59, .cell (.d (.sc (.bool ((fu : Int) == 0))))), (58, .cell (.d (.sc (.int .i64 fu)))), (57, .cell (.d (.sc (.bool true)))), (56, .cell (.d (.sc (.bool true)))), (55, .cell (.d (.sc (.int .i64 fe)))), (1, .cell (.d (.sc (.string c)))), (7, .cell (.d (.sl 1 fl.length (encS fl)))), (8, .cell (.d (.sc (.int .i64 fu)))), (9, .cell (.d (.sc (.int .i64 fe)))), (54, .cell (.d (.sc (.bool (decide (((c.size : Int) : Int) > 16000))))))], []⟩) (by kernel_rfl) rfl rfl ?_
        rw [hE1]
        refine AOps.stepsK (i := 5) (m := 5) (r := 2) (i' := 10) (st' := ⟨[(64, .cell (.d (.sc (.bool (((fl.length : Int) : Int) == 0))))), (63, .cell (.d (.sc (.int .i64 (fl.length : Int))))), (62, .cell (.d (.sl 1 fl.length (encS fl)))), (61, .cell (.d (.sc (.bool true)))), (60, .cell (.d (.sc (.bool true)))), (59, .cell (.d (.sc (.bool true)))), (58, .cell (.d (.sc (.int .i64 fu)))), (57, .cell (.d (.sc (.bool true)))), (56, .cell (.d (.sc (.bool true)))), (55, .cell (.d (.sc (.int .i64 fe)))), (1, .cell (.d (.sc (.string c)))), (7, .cell (.d (.sl 1 fl.length (encS fl)))), (8, .cell (.d (.sc (.int .i64 fu)))), (9, .cell (.d (.sc (.int .i64 fe)))), (54, .cell (.d (.sc (.bool (decide (((c.size : Int) : Int) > 16000))))))], []⟩) (by kernel_rfl) rfl rfl ?_
        rw [hE2]
        refine AOps.steps (i := 10) (m := 2) (r := 0) (i' := 12) (st' := ⟨[(4, .cell (.d (.sc (.bool true)))), (65, .cell (.d (.sc (.bool true)))), (64, .cell (.d (.sc (.bool true)))), (63, .cell (.d (.sc (.int .i64 (fl.length : Int))))), (62, .cell (.d (.sl 1 fl.length (encS fl)))), (61, .cell (.d (.sc (.bool true)))), (60, .cell (.d (.sc (.bool true)))), (59, .cell (.d (.sc (.bool true)))), (58, .cell (.d (.sc (.int .i64 fu)))), (57, .cell (.d (.sc (.bool true)))), (56, .cell (.d (.sc (.bool true)))), (55, .cell (.d (.sc (.int .i64 fe)))), (1, .cell (.d (.sc (.string c)))), (7, .cell (.d (.sl 1 fl.length (encS fl)))), (8, .cell (.d (.sc (.int .i64 fu)))), (9, .cell (.d (.sc (.int .i64 fe)))), (54, .cell (.d (.sc (.bool (decide (((c.size : Int) : Int) > 16000))))))], []⟩) (by kernel_rfl) rfl rfl ?_
        refine AOps.keep [4] [] (st' := ⟨[(4, .cell (.d (.sc (.bool true))))], []⟩) (by kernel_rfl) ?_
        refine AOps.done ?_
        refine Then.go ?_
        refine AW.ret (by kernel_rfl) ?_
        refine Then.ret ?_
        refine RetF.of_ret [] (x := .cell (.d (.sc (.bool true)))) (by kernel_rfl) ?_
        exact ret_eq rfl
      · -- decide (((c.size : Int) : Int) > 16000) = False
        try simp only [Bool.and_eq_true, Bool.or_eq_true, Bool.and_eq_false_iff, Bool.or_eq_false_iff, decide_eq_true_eq, decide_eq_false_iff_not, beq_iff_eq, bne_iff_ne, ne_eq, Bool.not_eq_true', Bool.not_eq_false', beq_eq_false_iff_ne, bne_eq_false_iff_eq, Decidable.not_not, Int.not_lt, Int.not_le, gt_iff_lt, ge_iff_le] at h5
        refine AW.skip (by kernel_rfl) ?_
        refine Then.go ?_
        refine AW.seq (by kernel_rfl) ?_
        refine AW.region (n := 7) (by kernel_rfl) (by kernel_rfl) ?_
        refine AOps.steps (i := 0) (m := 1) (r := 6) (i' := 1) (st' := ⟨[(67, .cell (.d (.sc (.string c)))), (1, .cell (.d (.sc (.string c)))), (7, .cell (.d (.sl 1 fl.length (encS fl)))), (8, .cell (.d (.sc (.int .i64 fu)))), (9, .cell (.d (.sc (.int .i64 fe)))), (54, .cell (.d (.sc (.bool (decide (((c.size : Int) : Int) > 16000))))))], []⟩) (by kernel_rfl) rfl rfl ?_
        refine AOps.ocallE (i := 1) (r := 5) (i' := 2) (d := some 68) (f := 16) (cargs := [.cell (.d (.sc (.string c)))]) (α := List ByteArray × Int) (J := fun ⟨gl, gu⟩ => 0 ≤ gu ∧ Chain c gl gu.toNat ∧ ∀ n, ¬ isF c gu.toNat n) (x := fun ⟨gl, gu⟩ => .tup [.cell (.d (.sl 1 gl.length (encS gl))), .cell (.d (.sc (.int .i64 gu)))]) (ob2 := fun ⟨gl, gu⟩ => []) (by kernel_rfl) [] [] [] (by kernel_rfl) (by kernel_rfl) (by kernel_rfl) (by kernel_rfl) (FramesOf_c c (by omega)) (fun _ => by kernel_rfl) (fun _ => by kernel_rfl) rfl rfl [7, 8, 9, 68] [] (fun ⟨gl, gu⟩ => (⟨[(7, .cell (.d (.sl 1 fl.length (encS fl)))), (8, .cell (.d (.sc (.int .i64 fu)))), (9, .cell (.d (.sc (.int .i64 fe)))), (68, .tup [.cell (.d (.sl 1 gl.length (encS gl))), .cell (.d (.sc (.int .i64 gu)))])], []⟩ : ASt)) (fun _ => by kernel_rfl) ?_
        intro ⟨gl, gu⟩ hgj
        try dsimp only
        obtain ⟨hg0, hgch, hgn⟩ := hgj
        have hB : fe = 0 ∧ fl = gl ∧ fu = gu := by (rcases hfj with ⟨h9, _⟩ | ⟨_, h9, h8, hch, hn⟩; exact absurd h9 (by omega); obtain ⟨e1, e2⟩ := chain_max hch hn hgch hgn; exact ⟨h9, e1, by omega⟩)
        refine AOps.steps (i := 2) (m := 5) (r := 0) (i' := 7) (st' := ⟨[(11, .cell (.d (.sc (.int .i64 gu)))), (10, .cell (.d (.sl 1 gl.length (encS gl)))), (70, .cell (.d (.sc (.int .i64 gu)))), (69, .cell (.d (.sl 1 gl.length (encS gl)))), (66, .tup [.cell (.d (.sl 1 gl.length (encS gl))), .cell (.d (.sc (.int .i64 gu)))]), (7, .cell (.d (.sl 1 fl.length (encS fl)))), (8, .cell (.d (.sc (.int .i64 fu)))), (9, .cell (.d (.sc (.int .i64 fe)))), (68, .tup [.cell (.d (.sl 1 gl.length (encS gl))), .cell (.d (.sc (.int .i64 gu)))])], []⟩) (by kernel_rfl) rfl rfl ?_
        refine AOps.keep [7, 8, 9, 10, 11] [] (st' := ⟨[(7, .cell (.d (.sl 1 fl.length (encS fl)))), (8, .cell (.d (.sc (.int .i64 fu)))), (9, .cell (.d (.sc (.int .i64 fe)))), (10, .cell (.d (.sl 1 gl.length (encS gl)))), (11, .cell (.d (.sc (.int .i64 gu))))], []⟩) (by kernel_rfl) ?_
        refine AOps.done ?_
        refine Then.go ?_
        refine AW.seq (by kernel_rfl) ?_
        have hE0 : ((fe : Int) == 0) = true := by rw [hB.1]; rfl
        have hE1 : ((fu : Int) == gu) = true := by rw [hB.2.2]; exact beq_self_eq_true _
        have hE2 : (decide (fl = gl)) = true := by rw [hB.2.1]; exact decide_eq_true rfl
        refine AW.region (n := 13) (by kernel_rfl) (by kernel_rfl) ?_
        refine AOps.steps (i := 0) (m := 2) (r := 11) (i' := 2) (st' := ⟨[(72, .cell (.d (.sc (.bool ((fe : Int) == 0))))), (71, .cell (.d (.sc (.int .i64 fe)))), (7, .cell (.d (.sl 1 fl.length (encS fl)))), (8, .cell (.d (.sc (.int .i64 fu)))), (9, .cell (.d (.sc (.int .i64 fe)))), (10, .cell (.d (.sl 1 gl.length (encS gl)))), (11, .cell (.d (.sc (.int .i64 gu))))], []⟩) (by kernel_rfl) rfl rfl ?_
        rw [hE0]
        refine AOps.stepsK (i := 2) (m := 4) (r := 7) (i' := 6) (st' := ⟨[(76, .cell (.d (.sc (.bool ((fu : Int) == gu))))), (75, .cell (.d (.sc (.int .i64 gu)))), (74, .cell (.d (.sc (.int .i64 fu)))), (73, .cell (.d (.sc (.bool true)))), (72, .cell (.d (.sc (.bool true)))), (71, .cell (.d (.sc (.int .i64 fe)))), (7, .cell (.d (.sl 1 fl.length (encS fl)))), (8, .cell (.d (.sc (.int .i64 fu)))), (9, .cell (.d (.sc (.int .i64 fe)))), (10, .cell (.d (.sl 1 gl.length (encS gl)))), (11, .cell (.d (.sc (.int .i64 gu))))], []⟩) (by kernel_rfl) rfl rfl ?_
        rw [hE1]
        refine AOps.stepsK (i := 6) (m := 4) (r := 3) (i' := 10) (st' := ⟨[(80, .cell (.d (.sl 1 gl.length (encS gl)))), (79, .cell (.d (.sl 1 fl.length (encS fl)))), (78, .cell (.d (.sc (.bool true)))), (77, .cell (.d (.sc (.bool true)))), (76, .cell (.d (.sc (.bool true)))), (75, .cell (.d (.sc (.int .i64 gu)))), (74, .cell (.d (.sc (.int .i64 fu)))), (73, .cell (.d (.sc (.bool true)))), (72, .cell (.d (.sc (.bool true)))), (71, .cell (.d (.sc (.int .i64 fe)))), (7, .cell (.d (.sl 1 fl.length (encS fl)))), (8, .cell (.d (.sc (.int .i64 fu)))), (9, .cell (.d (.sc (.int .i64 fe)))), (10, .cell (.d (.sl 1 gl.length (encS gl)))), (11, .cell (.d (.sc (.int .i64 gu))))], []⟩) (by kernel_rfl) rfl rfl ?_
        have zl1 := chain_len hgch
        have zl2 : fl.length = gl.length := by rw [hB.2.1]
        refine AOps.one (i := 10) (r := 2) (i' := 11) (e := .put 81 (.cell (.d (.sc (.bool (decide (fl = gl))))))) (st' := ⟨[(81, .cell (.d (.sc (.bool (decide (fl = gl)))))), (80, .cell (.d (.sl 1 gl.length (encS gl)))), (79, .cell (.d (.sl 1 fl.length (encS fl)))), (78, .cell (.d (.sc (.bool true)))), (77, .cell (.d (.sc (.bool true)))), (76, .cell (.d (.sc (.bool true)))), (75, .cell (.d (.sc (.int .i64 gu)))), (74, .cell (.d (.sc (.int .i64 fu)))), (73, .cell (.d (.sc (.bool true)))), (72, .cell (.d (.sc (.bool true)))), (71, .cell (.d (.sc (.int .i64 fe)))), (7, .cell (.d (.sl 1 fl.length (encS fl)))), (8, .cell (.d (.sc (.int .i64 fu)))), (9, .cell (.d (.sc (.int .i64 fe)))), (10, .cell (.d (.sl 1 gl.length (encS gl)))), (11, .cell (.d (.sc (.int .i64 gu))))], []⟩) (IEff.qpcall (f := 17) (args := [.cell (.d (.sl 1 fl.length (encS fl))), .cell (.d (.sl 1 gl.length (encS gl)))]) (by kernel_rfl) (by kernel_rfl) (equalS fl gl (by omega) (by omega)) (by kernel_rfl)) rfl rfl (by kernel_rfl) ?_
        rw [hE2]
        refine AOps.steps (i := 11) (m := 2) (r := 0) (i' := 13) (st' := ⟨[(4, .cell (.d (.sc (.bool true)))), (82, .cell (.d (.sc (.bool true)))), (81, .cell (.d (.sc (.bool true)))), (80, .cell (.d (.sl 1 gl.length (encS gl)))), (79, .cell (.d (.sl 1 fl.length (encS fl)))), (78, .cell (.d (.sc (.bool true)))), (77, .cell (.d (.sc (.bool true)))), (76, .cell (.d (.sc (.bool true)))), (75, .cell (.d (.sc (.int .i64 gu)))), (74, .cell (.d (.sc (.int .i64 fu)))), (73, .cell (.d (.sc (.bool true)))), (72, .cell (.d (.sc (.bool true)))), (71, .cell (.d (.sc (.int .i64 fe)))), (7, .cell (.d (.sl 1 fl.length (encS fl)))), (8, .cell (.d (.sc (.int .i64 fu)))), (9, .cell (.d (.sc (.int .i64 fe)))), (10, .cell (.d (.sl 1 gl.length (encS gl)))), (11, .cell (.d (.sc (.int .i64 gu))))], []⟩) (by kernel_rfl) rfl rfl ?_
        refine AOps.keep [4] [] (st' := ⟨[(4, .cell (.d (.sc (.bool true))))], []⟩) (by kernel_rfl) ?_
        refine AOps.done ?_
        refine Then.go ?_
        refine AW.ret (by kernel_rfl) ?_
        refine RetF.of_ret [] (x := .cell (.d (.sc (.bool true)))) (by kernel_rfl) ?_
        exact ret_eq rfl

end Go.Proofs.YtdngaeekecbgpaaDoor
/- Walks of Frame, numberOf and Frames. -/
import Derived.Test.YtdngaeekecbgpaaDoorCode1
import Derived.Test.YtdngaeekecbgpaaDoorCodeDefs2
namespace Go.Proofs.YtdngaeekecbgpaaDoor
open Go Esp
set_option maxRecDepth 100000
set_option linter.unusedSimpArgs false
set_option linter.unusedVariables false
noncomputable def C13b : Code := (Tryd.f13.body).getD .skip

theorem Frame_all (b : ByteArray) (hb : b.size ≤ maxLen) : PCalls Tryd.prog 13 [.cell (.d (.sc (.string b)))] (.tup [.cell (.d (.sc (.string ((frameR b).1)))), .cell (.d (.sc (.int .i64 ((frameR b).2))))]) := by
  have hb2 : b.size ≤ 9223372036854775807 := hb
  refine ACalls.of_AWF (fn := Tryd.f13) (c := C13b) (N := 19) (rs := [.tmp 2, .tmp 3]) Tryd.func13 (by kernel_rfl) (by kernel_rfl) (by kernel_rfl) (by kernel_rfl) (by kernel_rfl) ?_
  show AW Tryd.prog 19 C13b ⟨[(0, .cell (.d (.sc (.string b))))], []⟩ _
  refine AW.seq (by kernel_rfl) ?_
  refine AW.region (n := 2) (by kernel_rfl) (by kernel_rfl) ?_
  refine AOps.steps (i := 0) (m := 2) (r := 0) (i' := 2) (st' := ⟨[(3, .cell (.d (.sc (.int .i64 0)))), (2, .cell (.d (.sc (.string (⟨#[]⟩ : ByteArray))))), (0, .cell (.d (.sc (.string b))))], []⟩) (by kernel_rfl) rfl rfl ?_
  refine AOps.keep [0] [] (st' := ⟨[(0, .cell (.d (.sc (.string b))))], []⟩) (by kernel_rfl) ?_
  refine AOps.done ?_
  refine Then.go ?_
  refine AW.seq (by kernel_rfl) ?_
  refine AW.seq (by kernel_rfl) ?_
  refine AW.region (n := 2) (by kernel_rfl) (by kernel_rfl) ?_
  refine AOps.steps (i := 0) (m := 2) (r := 0) (i' := 2) (st' := ⟨[(5, .cell (.d (.sc (.bool (seq b (⟨#[]⟩ : ByteArray)))))), (4, .cell (.d (.sc (.string b)))), (0, .cell (.d (.sc (.string b))))], []⟩) (by kernel_rfl) rfl rfl ?_
  refine AOps.keep [0, 5] [] (st' := ⟨[(0, .cell (.d (.sc (.string b)))), (5, .cell (.d (.sc (.bool (seq b (⟨#[]⟩ : ByteArray))))))], []⟩) (by kernel_rfl) ?_
  refine AOps.done ?_
  refine Then.go ?_
  refine AW.cond (b := seq b (⟨#[]⟩ : ByteArray)) (by kernel_rfl) (by kernel_rfl) (fun h1 => ?_) (fun h1 => ?_)
  · -- seq b (⟨#[]⟩ : ByteArray) = True
    refine AW.seq (by kernel_rfl) ?_
    refine AW.region (n := 2) (by kernel_rfl) (by kernel_rfl) ?_
    refine AOps.steps (i := 0) (m := 2) (r := 0) (i' := 2) (st' := ⟨[(3, .cell (.d (.sc (.int .i64 6)))), (2, .cell (.d (.sc (.string (⟨#[]⟩ : ByteArray))))), (0, .cell (.d (.sc (.string b)))), (5, .cell (.d (.sc (.bool (seq b (⟨#[]⟩ : ByteArray))))))], []⟩) (by kernel_rfl) rfl rfl ?_
    refine AOps.keep [2, 3] [] (st' := ⟨[(2, .cell (.d (.sc (.string (⟨#[]⟩ : ByteArray))))), (3, .cell (.d (.sc (.int .i64 6))))], []⟩) (by kernel_rfl) ?_
    refine AOps.done ?_
    refine Then.go ?_
    refine AW.ret (by kernel_rfl) ?_
    refine Then.ret ?_
    refine RetF.of_ret [] (x := .tup [.cell (.d (.sc (.string (⟨#[]⟩ : ByteArray)))), .cell (.d (.sc (.int .i64 6)))]) (by kernel_rfl) ?_
    have e9 : frameR b = (⟨#[]⟩, 6) := by unfold frameR; rw [if_pos h1]
    rw [e9]
    try exact ret_eq rfl
  · -- seq b (⟨#[]⟩ : ByteArray) = False
    refine AW.skip (by kernel_rfl) ?_
    refine Then.go ?_
    refine AW.seq (by kernel_rfl) ?_
    refine AW.seq (by kernel_rfl) ?_
    refine AW.region (n := 3) (by kernel_rfl) (by kernel_rfl) ?_
    refine AOps.steps (i := 0) (m := 3) (r := 0) (i' := 3) (st' := ⟨[(8, .cell (.d (.sc (.bool (decide (((b.size : Int) : Int) > 8000)))))), (7, .cell (.d (.sc (.int .i64 (b.size : Int))))), (6, .cell (.d (.sc (.string b)))), (0, .cell (.d (.sc (.string b)))), (5, .cell (.d (.sc (.bool (seq b (⟨#[]⟩ : ByteArray))))))], []⟩) (by kernel_rfl) rfl rfl ?_
    refine AOps.keep [0, 8] [] (st' := ⟨[(0, .cell (.d (.sc (.string b)))), (8, .cell (.d (.sc (.bool (decide (((b.size : Int) : Int) > 8000))))))], []⟩) (by kernel_rfl) ?_
    refine AOps.done ?_
    refine Then.go ?_
    refine AW.cond (b := decide (((b.size : Int) : Int) > 8000)) (by kernel_rfl) (by kernel_rfl) (fun h2 => ?_) (fun h2 => ?_)
    · -- decide (((b.size : Int) : Int) > 8000) = True
      try simp only [Bool.and_eq_true, Bool.or_eq_true, Bool.and_eq_false_iff, Bool.or_eq_false_iff, decide_eq_true_eq, decide_eq_false_iff_not, beq_iff_eq, bne_iff_ne, ne_eq, Bool.not_eq_true', Bool.not_eq_false', beq_eq_false_iff_ne, bne_eq_false_iff_eq, Decidable.not_not, Int.not_lt, Int.not_le, gt_iff_lt, ge_iff_le] at h2
      refine AW.seq (by kernel_rfl) ?_
      refine AW.region (n := 2) (by kernel_rfl) (by kernel_rfl) ?_
      refine AOps.steps (i := 0) (m := 2) (r := 0) (i' := 2) (st' := ⟨[(3, .cell (.d (.sc (.int .i64 2)))), (2, .cell (.d (.sc (.string (⟨#[]⟩ : ByteArray))))), (0, .cell (.d (.sc (.string b)))), (8, .cell (.d (.sc (.bool (decide (((b.size : Int) : Int) > 8000))))))], []⟩) (by kernel_rfl) rfl rfl ?_
      refine AOps.keep [2, 3] [] (st' := ⟨[(2, .cell (.d (.sc (.string (⟨#[]⟩ : ByteArray))))), (3, .cell (.d (.sc (.int .i64 2))))], []⟩) (by kernel_rfl) ?_
      refine AOps.done ?_
      refine Then.go ?_
      refine AW.ret (by kernel_rfl) ?_
      refine Then.ret ?_
      refine RetF.of_ret [] (x := .tup [.cell (.d (.sc (.string (⟨#[]⟩ : ByteArray)))), .cell (.d (.sc (.int .i64 2)))]) (by kernel_rfl) ?_
      have e9 : frameR b = (⟨#[]⟩, 2) := by unfold frameR; rw [if_neg (by simp [h1]), if_pos (by omega)]
      rw [e9]
      try exact ret_eq rfl
    · -- decide (((b.size : Int) : Int) > 8000) = False
      try simp only [Bool.and_eq_true, Bool.or_eq_true, Bool.and_eq_false_iff, Bool.or_eq_false_iff, decide_eq_true_eq, decide_eq_false_iff_not, beq_iff_eq, bne_iff_ne, ne_eq, Bool.not_eq_true', Bool.not_eq_false', beq_eq_false_iff_ne, bne_eq_false_iff_eq, Decidable.not_not, Int.not_lt, Int.not_le, gt_iff_lt, ge_iff_le] at h2
      refine AW.skip (by kernel_rfl) ?_
      refine Then.go ?_
      refine AW.seq (by kernel_rfl) ?_
      refine AW.region (n := 12) (by kernel_rfl) (by kernel_rfl) ?_
      refine AOps.steps (i := 0) (m := 3) (r := 9) (i' := 3) (st' := ⟨[(11, .cell (.d (.sc (.int .u64 (IntKind.wrap .u64 ((b.size : Int))))))), (10, .cell (.d (.sc (.int .i64 (b.size : Int))))), (9, .cell (.d (.sc (.string b)))), (0, .cell (.d (.sc (.string b)))), (8, .cell (.d (.sc (.bool (decide (((b.size : Int) : Int) > 8000))))))], []⟩) (by kernel_rfl) rfl rfl ?_
      refine AOps.ocallE (i := 3) (r := 8) (i' := 4) (d := some 12) (f := 27) (cargs := [.cell (.d (.sc (.slice none 0 0))), .cell (.d (.sc (.int .u64 (IntKind.wrap .u64 ((b.size : Int)))))), .cell (.d (.sc (.int .i64 4)))]) (α := Unit) (J := fun _ => True) (x := fun _ => .cell (.own 1000000)) (ob2 := fun _ => [(1000000, .arr 5 1 (([] ++ numB (IntKind.wrap .u64 ((b.size : Int))) 4).length) (bytesD ([] ++ numB (IntKind.wrap .u64 ((b.size : Int))) 4)))]) (by kernel_rfl) [] [(1000000, 12)] [⟨0, 1000000, 5, 1⟩] (by kernel_rfl) (by kernel_rfl) (by kernel_rfl) (by kernel_rfl) (number_c [] (IntKind.wrap .u64 ((b.size : Int))) 4 (by simp [numB_length] <;> omega) (by omega)) (fun _ => by kernel_rfl) (fun _ => by kernel_rfl) rfl rfl [0, 12] [12] (fun _ => (⟨[(0, .cell (.d (.sc (.string b)))), (12, .cell (.own 12))], [(12, .arr 5 1 (([] ++ numB (IntKind.wrap .u64 ((b.size : Int))) 4).length) (bytesD ([] ++ numB (IntKind.wrap .u64 ((b.size : Int))) 4)))]⟩ : ASt)) (fun _ => by kernel_rfl) ?_
      intro _ _
      try dsimp only
      refine AOps.steps (i := 4) (m := 1) (r := 7) (i' := 5) (st' := ⟨[(13, .cell (.d (.sc (.string b)))), (0, .cell (.d (.sc (.string b)))), (12, .cell (.own 12))], [(12, .arr 5 1 (([] ++ numB (IntKind.wrap .u64 ((b.size : Int))) 4).length) (bytesD ([] ++ numB (IntKind.wrap .u64 ((b.size : Int))) 4)))]⟩) (by kernel_rfl) rfl rfl ?_
      refine AOps.one (i := 5) (r := 6) (i' := 6) (e := .put 14 (.cell (.d (.sc (.int .u64 (sumOf b)))))) (st' := ⟨[(14, .cell (.d (.sc (.int .u64 (sumOf b))))), (13, .cell (.d (.sc (.string b)))), (0, .cell (.d (.sc (.string b)))), (12, .cell (.own 12))], [(12, .arr 5 1 (([] ++ numB (IntKind.wrap .u64 ((b.size : Int))) 4).length) (bytesD ([] ++ numB (IntKind.wrap .u64 ((b.size : Int))) 4)))]⟩) (IEff.qpcall (f := 28) (args := [.cell (.d (.sc (.string b)))]) (by kernel_rfl) (by kernel_rfl) (sum_c b (by omega)) (by kernel_rfl)) rfl rfl (by kernel_rfl) ?_
      refine AOps.ocallE (i := 6) (r := 5) (i' := 7) (d := some 15) (f := 27) (cargs := [.cell (.own 12), .cell (.d (.sc (.int .u64 (sumOf b)))), .cell (.d (.sc (.int .i64 4)))]) (α := Unit) (J := fun _ => True) (x := fun _ => .cell (.own 1000000)) (ob2 := fun _ => [(1000000, .arr 5 1 ((([] ++ numB (IntKind.wrap .u64 ((b.size : Int))) 4) ++ numB (sumOf b) 4).length) (bytesD (([] ++ numB (IntKind.wrap .u64 ((b.size : Int))) 4) ++ numB (sumOf b) 4)))]) (by kernel_rfl) [(1000000, 12)] [] [] (by kernel_rfl) (by kernel_rfl) (by kernel_rfl) (by kernel_rfl) (number_c ([] ++ numB (IntKind.wrap .u64 ((b.size : Int))) 4) (sumOf b) 4 (by simp [numB_length] <;> omega) (by omega)) (fun _ => by kernel_rfl) (fun _ => by kernel_rfl) rfl rfl [0, 15] [12] (fun _ => (⟨[(0, .cell (.d (.sc (.string b)))), (15, .cell (.own 12))], [(12, .arr 5 1 ((([] ++ numB (IntKind.wrap .u64 ((b.size : Int))) 4) ++ numB (sumOf b) 4).length) (bytesD (([] ++ numB (IntKind.wrap .u64 ((b.size : Int))) 4) ++ numB (sumOf b) 4)))]⟩ : ASt)) (fun _ => by kernel_rfl) ?_
      intro _ _
      try dsimp only
      refine AOps.freeze 12 (st' := ⟨[(0, .cell (.d (.sc (.string b)))), (15, .cell (.d (.sl 1 ((([] ++ numB (IntKind.wrap .u64 ((b.size : Int))) 4) ++ numB (sumOf b) 4).length) (bytesD (([] ++ numB (IntKind.wrap .u64 ((b.size : Int))) 4) ++ numB (sumOf b) 4)))))], [(12, .gone)]⟩) (by kernel_rfl) ?_
      refine AOps.one (i := 7) (r := 4) (i' := 8) (e := .put 16 (.cell (.d (.sc (.string (⟨(([] ++ numB (IntKind.wrap .u64 ((b.size : Int))) 4) ++ numB (sumOf b) 4).toArray⟩ : ByteArray)))))) (st' := ⟨[(16, .cell (.d (.sc (.string (⟨(([] ++ numB (IntKind.wrap .u64 ((b.size : Int))) 4) ++ numB (sumOf b) 4).toArray⟩ : ByteArray))))), (0, .cell (.d (.sc (.string b)))), (15, .cell (.d (.sl 1 ((([] ++ numB (IntKind.wrap .u64 ((b.size : Int))) 4) ++ numB (sumOf b) 4).length) (bytesD (([] ++ numB (IntKind.wrap .u64 ((b.size : Int))) 4) ++ numB (sumOf b) 4)))))], [(12, .gone)]⟩) (IEff.qofBytes (n := ((([] ++ numB (IntKind.wrap .u64 ((b.size : Int))) 4) ++ numB (sumOf b) 4).length)) (cs := (bytesD (([] ++ numB (IntKind.wrap .u64 ((b.size : Int))) 4) ++ numB (sumOf b) 4))) (b := (([] ++ numB (IntKind.wrap .u64 ((b.size : Int))) 4) ++ numB (sumOf b) 4)) (r := (⟨(([] ++ numB (IntKind.wrap .u64 ((b.size : Int))) 4) ++ numB (sumOf b) 4).toArray⟩ : ByteArray)) (by kernel_rfl) rfl rfl rfl) rfl rfl (by kernel_rfl) ?_
      refine AOps.steps (i := 8) (m := 1) (r := 3) (i' := 9) (st' := ⟨[(17, .cell (.d (.sc (.string b)))), (16, .cell (.d (.sc (.string (⟨(([] ++ numB (IntKind.wrap .u64 ((b.size : Int))) 4) ++ numB (sumOf b) 4).toArray⟩ : ByteArray))))), (0, .cell (.d (.sc (.string b)))), (15, .cell (.d (.sl 1 ((([] ++ numB (IntKind.wrap .u64 ((b.size : Int))) 4) ++ numB (sumOf b) 4).length) (bytesD (([] ++ numB (IntKind.wrap .u64 ((b.size : Int))) 4) ++ numB (sumOf b) 4)))))], [(12, .gone)]⟩) (by kernel_rfl) rfl rfl ?_
      refine AOps.one (i := 9) (r := 2) (i' := 10) (e := .put 18 (.cell (.d (.sc (.string ((⟨(([] ++ numB (IntKind.wrap .u64 ((b.size : Int))) 4) ++ numB (sumOf b) 4).toArray⟩ : ByteArray) ++ b)))))) (st' := ⟨[(18, .cell (.d (.sc (.string ((⟨(([] ++ numB (IntKind.wrap .u64 ((b.size : Int))) 4) ++ numB (sumOf b) 4).toArray⟩ : ByteArray) ++ b))))), (17, .cell (.d (.sc (.string b)))), (16, .cell (.d (.sc (.string (⟨(([] ++ numB (IntKind.wrap .u64 ((b.size : Int))) 4) ++ numB (sumOf b) 4).toArray⟩ : ByteArray))))), (0, .cell (.d (.sc (.string b)))), (15, .cell (.d (.sl 1 ((([] ++ numB (IntKind.wrap .u64 ((b.size : Int))) 4) ++ numB (sumOf b) 4).length) (bytesD (([] ++ numB (IntKind.wrap .u64 ((b.size : Int))) 4) ++ numB (sumOf b) 4)))))], [(12, .gone)]⟩) (IEff.qcat (a := (⟨(([] ++ numB (IntKind.wrap .u64 ((b.size : Int))) 4) ++ numB (sumOf b) 4).toArray⟩ : ByteArray)) (b := b) (r := ((⟨(([] ++ numB (IntKind.wrap .u64 ((b.size : Int))) 4) ++ numB (sumOf b) 4).toArray⟩ : ByteArray) ++ b)) (by kernel_rfl) (show (⟨(headOf b).toArray⟩ : ByteArray).size + b.size ≤ 9223372036854775807 by have h9 : (⟨(headOf b).toArray⟩ : ByteArray).size = 8 := headOf_length b; omega) rfl) rfl rfl (by kernel_rfl) ?_
      refine AOps.steps (i := 10) (m := 2) (r := 0) (i' := 12) (st' := ⟨[(3, .cell (.d (.sc (.int .i64 0)))), (2, .cell (.d (.sc (.string ((⟨(([] ++ numB (IntKind.wrap .u64 ((b.size : Int))) 4) ++ numB (sumOf b) 4).toArray⟩ : ByteArray) ++ b))))), (18, .cell (.d (.sc (.string ((⟨(([] ++ numB (IntKind.wrap .u64 ((b.size : Int))) 4) ++ numB (sumOf b) 4).toArray⟩ : ByteArray) ++ b))))), (17, .cell (.d (.sc (.string b)))), (16, .cell (.d (.sc (.string (⟨(([] ++ numB (IntKind.wrap .u64 ((b.size : Int))) 4) ++ numB (sumOf b) 4).toArray⟩ : ByteArray))))), (0, .cell (.d (.sc (.string b)))), (15, .cell (.d (.sl 1 ((([] ++ numB (IntKind.wrap .u64 ((b.size : Int))) 4) ++ numB (sumOf b) 4).length) (bytesD (([] ++ numB (IntKind.wrap .u64 ((b.size : Int))) 4) ++ numB (sumOf b) 4)))))], [(12, .gone)]⟩) (by kernel_rfl) rfl rfl ?_
      refine AOps.keep [2, 3] [] (st' := ⟨[(2, .cell (.d (.sc (.string ((⟨(([] ++ numB (IntKind.wrap .u64 ((b.size : Int))) 4) ++ numB (sumOf b) 4).toArray⟩ : ByteArray) ++ b))))), (3, .cell (.d (.sc (.int .i64 0))))], []⟩) (by kernel_rfl) ?_
      refine AOps.done ?_
      refine Then.go ?_
      refine AW.ret (by kernel_rfl) ?_
      refine RetF.of_ret [] (x := .tup [.cell (.d (.sc (.string ((⟨(([] ++ numB (IntKind.wrap .u64 ((b.size : Int))) 4) ++ numB (sumOf b) 4).toArray⟩ : ByteArray) ++ b)))), .cell (.d (.sc (.int .i64 0)))]) (by kernel_rfl) ?_
      have e9 : frameR b = (frameOf b, 0) := by unfold frameR; rw [if_neg (by simp [h1]), if_neg (by omega)]
      rw [e9]
      try exact ret_eq rfl

noncomputable def C29 : Code := (Tryd.f29.body).getD .skip

theorem numberOf_c (l : List UInt8) (hl : l.length ≤ 1099511627776) : PCalls Tryd.prog 29 [.cell (.d (.sl 1 l.length (bytesD l)))] (.cell (.d (.sc (.int .u64 (numOf l))))) := by
  refine ACalls.of_AWF (fn := Tryd.f29) (c := C29) (N := 19) (rs := [.tmp 2]) Tryd.func29 (by kernel_rfl) (by kernel_rfl) (by kernel_rfl) (by kernel_rfl) (by kernel_rfl) ?_
  show AW Tryd.prog 19 C29 ⟨[(0, .cell (.d (.sl 1 l.length (bytesD l))))], []⟩ _
  refine AW.seq (by kernel_rfl) ?_
  refine AW.region (n := 1) (by kernel_rfl) (by kernel_rfl) ?_
  refine AOps.steps (i := 0) (m := 1) (r := 0) (i' := 1) (st' := ⟨[(2, .cell (.d (.sc (.int .u64 0)))), (0, .cell (.d (.sl 1 l.length (bytesD l))))], []⟩) (by kernel_rfl) rfl rfl ?_
  refine AOps.keep [0] [] (st' := ⟨[(0, .cell (.d (.sl 1 l.length (bytesD l))))], []⟩) (by kernel_rfl) ?_
  refine AOps.done ?_
  refine Then.go ?_
  refine AW.seq (by kernel_rfl) ?_
  refine AW.region (n := 1) (by kernel_rfl) (by kernel_rfl) ?_
  refine AOps.steps (i := 0) (m := 1) (r := 0) (i' := 1) (st' := ⟨[(3, .cell (.d (.sc (.int .u64 0)))), (0, .cell (.d (.sl 1 l.length (bytesD l))))], []⟩) (by kernel_rfl) rfl rfl ?_
  refine AOps.keep [0, 3] [] (st' := ⟨[(0, .cell (.d (.sl 1 l.length (bytesD l)))), (3, .cell (.d (.sc (.int .u64 0))))], []⟩) (by kernel_rfl) ?_
  refine AOps.done ?_
  refine Then.go ?_
  refine AW.seq (by kernel_rfl) ?_
  refine AW.seq (by kernel_rfl) ?_
  refine AW.region (n := 3) (by kernel_rfl) (by kernel_rfl) ?_
  refine AOps.steps (i := 0) (m := 3) (r := 0) (i' := 3) (st' := ⟨[(8, .cell (.d (.sc (.int .i64 0)))), (7, .cell (.d (.sc (.int .i64 (l.length : Int))))), (6, .cell (.d (.sl 1 l.length (bytesD l)))), (0, .cell (.d (.sl 1 l.length (bytesD l)))), (3, .cell (.d (.sc (.int .u64 0))))], []⟩) (by kernel_rfl) rfl rfl ?_
  refine AOps.keep [3, 6, 7, 8] [] (st' := ⟨[(3, .cell (.d (.sc (.int .u64 0)))), (6, .cell (.d (.sl 1 l.length (bytesD l)))), (7, .cell (.d (.sc (.int .i64 (l.length : Int))))), (8, .cell (.d (.sc (.int .i64 0))))], []⟩) (by kernel_rfl) ?_
  refine AOps.done ?_
  refine Then.go ?_
  refine AW.block (by kernel_rfl) ?_
  refine AW.keep [3, 6, 7, 8] [] (st' := ⟨[(3, .cell (.d (.sc (.int .u64 0)))), (6, .cell (.d (.sl 1 l.length (bytesD l)))), (7, .cell (.d (.sc (.int .i64 (l.length : Int))))), (8, .cell (.d (.sc (.int .i64 0))))], []⟩) (by kernel_rfl) ?_
  refine AW.loopJ (α := Int) (by kernel_rfl) (fun i => (⟨[(3, .cell (.d (.sc (.int .u64 (numOf (l.take i.toNat)))))), (6, .cell (.d (.sl 1 l.length (bytesD l)))), (7, .cell (.d (.sc (.int .i64 (l.length : Int))))), (8, .cell (.d (.sc (.int .i64 i))))], []⟩ : ASt)) (fun i => 0 ≤ i ∧ i ≤ (l.length : Int)) (fun i => l.length - i.toNat) 0 ?_ ?_ ?_
  · rfl
  · exact ⟨by omega, by omega⟩
  · intro i hJ
    obtain ⟨h0, h1⟩ := hJ
    refine AW.seq (by kernel_rfl) ?_
    refine AW.region (n := 1) (by kernel_rfl) (by kernel_rfl) ?_
    refine AOps.steps (i := 0) (m := 1) (r := 0) (i' := 1) (st' := ⟨[(9, .cell (.d (.sc (.bool (decide ((i : Int) < (l.length : Int))))))), (3, .cell (.d (.sc (.int .u64 (numOf (l.take i.toNat)))))), (6, .cell (.d (.sl 1 l.length (bytesD l)))), (7, .cell (.d (.sc (.int .i64 (l.length : Int))))), (8, .cell (.d (.sc (.int .i64 i))))], []⟩) (by kernel_rfl) rfl rfl ?_
    refine AOps.keep [3, 6, 7, 8, 9] [] (st' := ⟨[(3, .cell (.d (.sc (.int .u64 (numOf (l.take i.toNat)))))), (6, .cell (.d (.sl 1 l.length (bytesD l)))), (7, .cell (.d (.sc (.int .i64 (l.length : Int))))), (8, .cell (.d (.sc (.int .i64 i)))), (9, .cell (.d (.sc (.bool (decide ((i : Int) < (l.length : Int)))))))], []⟩) (by kernel_rfl) ?_
    refine AOps.done ?_
    refine Then.go ?_
    refine AW.seq (by kernel_rfl) ?_
    refine AW.cond (b := decide ((i : Int) < (l.length : Int))) (by kernel_rfl) (by kernel_rfl) (fun h1 => ?_) (fun h1 => ?_)
    · -- decide ((i : Int) < (l.length : Int)) = True
      try simp only [Bool.and_eq_true, Bool.or_eq_true, Bool.and_eq_false_iff, Bool.or_eq_false_iff, decide_eq_true_eq, decide_eq_false_iff_not, beq_iff_eq, bne_iff_ne, ne_eq, Bool.not_eq_true', Bool.not_eq_false', beq_eq_false_iff_ne, bne_eq_false_iff_eq, Decidable.not_not, Int.not_lt, Int.not_le, gt_iff_lt, ge_iff_le] at h1
      refine AW.skip (by kernel_rfl) ?_
      refine Then.go ?_
      refine AW.seq (by kernel_rfl) ?_
      refine AW.block (by kernel_rfl) ?_
      refine AW.seq (by kernel_rfl) ?_
      refine AW.region (n := 3) (by kernel_rfl) (by kernel_rfl) ?_
      obtain ⟨c4, hc4⟩ := at_of (l := l) (i := (i).toNat) (by omega)
      refine AOps.one (i := 0) (r := 2) (i' := 1) (e := .put 10 (.cell (.d (.rp [.sc (.int .u8 (c4.toNat : Int))])))) (st' := ⟨[(10, .cell (.d (.rp [.sc (.int .u8 (c4.toNat : Int))]))), (3, .cell (.d (.sc (.int .u64 (numOf (l.take i.toNat)))))), (6, .cell (.d (.sl 1 l.length (bytesD l)))), (7, .cell (.d (.sc (.int .i64 (l.length : Int))))), (8, .cell (.d (.sc (.int .i64 i)))), (9, .cell (.d (.sc (.bool (decide ((i : Int) < (l.length : Int)))))))], []⟩) (IEff.qindex (e := 1) (n := l.length) (cs := (bytesD l)) (es := [.sc (.int .u8 (c4.toNat : Int))]) (j := i) (by kernel_rfl) (by omega) (by omega) (bytesD_at hc4)) rfl rfl (by kernel_rfl) ?_
      refine AOps.steps (i := 1) (m := 2) (r := 0) (i' := 3) (st' := ⟨[(5, .cell (.d (.sc (.int .u8 (c4.toNat : Int))))), (11, .cell (.d (.sc (.int .u8 (c4.toNat : Int))))), (10, .cell (.d (.rp [.sc (.int .u8 (c4.toNat : Int))]))), (3, .cell (.d (.sc (.int .u64 (numOf (l.take i.toNat)))))), (6, .cell (.d (.sl 1 l.length (bytesD l)))), (7, .cell (.d (.sc (.int .i64 (l.length : Int))))), (8, .cell (.d (.sc (.int .i64 i)))), (9, .cell (.d (.sc (.bool (decide ((i : Int) < (l.length : Int)))))))], []⟩) (by kernel_rfl) rfl rfl ?_
      refine AOps.keep [3, 5, 6, 7, 8] [] (st' := ⟨[(3, .cell (.d (.sc (.int .u64 (numOf (l.take i.toNat)))))), (5, .cell (.d (.sc (.int .u8 (c4.toNat : Int))))), (6, .cell (.d (.sl 1 l.length (bytesD l)))), (7, .cell (.d (.sc (.int .i64 (l.length : Int))))), (8, .cell (.d (.sc (.int .i64 i))))], []⟩) (by kernel_rfl) ?_
      refine AOps.done ?_
      refine Then.go ?_
      refine AW.region (n := 6) (by kernel_rfl) (by kernel_rfl) ?_
      refine AOps.steps (i := 0) (m := 6) (r := 0) (i' := 6) (st' := ⟨[(3, .cell (.d (.sc (.int .u64 (bor .u64 (bshl .u64 (numOf (l.take i.toNat)) 8) (IntKind.wrap .u64 ((c4.toNat : Int)))))))), (16, .cell (.d (.sc (.int .u64 (bor .u64 (bshl .u64 (numOf (l.take i.toNat)) 8) (IntKind.wrap .u64 ((c4.toNat : Int)))))))), (15, .cell (.d (.sc (.int .u64 (IntKind.wrap .u64 ((c4.toNat : Int))))))), (14, .cell (.d (.sc (.int .u8 (c4.toNat : Int))))), (13, .cell (.d (.sc (.int .u64 (bshl .u64 (numOf (l.take i.toNat)) 8))))), (12, .cell (.d (.sc (.int .u64 (numOf (l.take i.toNat)))))), (5, .cell (.d (.sc (.int .u8 (c4.toNat : Int))))), (6, .cell (.d (.sl 1 l.length (bytesD l)))), (7, .cell (.d (.sc (.int .i64 (l.length : Int))))), (8, .cell (.d (.sc (.int .i64 i))))], []⟩) (by kernel_rfl) rfl rfl ?_
      refine AOps.keep [3, 6, 7, 8] [] (st' := ⟨[(3, .cell (.d (.sc (.int .u64 (bor .u64 (bshl .u64 (numOf (l.take i.toNat)) 8) (IntKind.wrap .u64 ((c4.toNat : Int)))))))), (6, .cell (.d (.sl 1 l.length (bytesD l)))), (7, .cell (.d (.sc (.int .i64 (l.length : Int))))), (8, .cell (.d (.sc (.int .i64 i))))], []⟩) (by kernel_rfl) ?_
      refine AOps.done ?_
      refine InBlk.go ?_
      refine Then.go ?_
      refine AW.region (n := 2) (by kernel_rfl) (by kernel_rfl) ?_
      refine AOps.steps (i := 0) (m := 2) (r := 0) (i' := 2) (st' := ⟨[(8, .cell (.d (.sc (.int .i64 (IntKind.wrap .i64 (i + 1)))))), (17, .cell (.d (.sc (.int .i64 (IntKind.wrap .i64 (i + 1)))))), (3, .cell (.d (.sc (.int .u64 (bor .u64 (bshl .u64 (numOf (l.take i.toNat)) 8) (IntKind.wrap .u64 ((c4.toNat : Int)))))))), (6, .cell (.d (.sl 1 l.length (bytesD l)))), (7, .cell (.d (.sc (.int .i64 (l.length : Int)))))], []⟩) (by kernel_rfl) rfl rfl ?_
      have w2 : IntKind.wrap .i64 (i + 1) = i + 1 := wrap_i64 _ (by omega) (by omega)
      rw [w2]
      clear w2
      refine AOps.keep [3, 6, 7, 8] [] (st' := ⟨[(3, .cell (.d (.sc (.int .u64 (bor .u64 (bshl .u64 (numOf (l.take i.toNat)) 8) (IntKind.wrap .u64 ((c4.toNat : Int)))))))), (6, .cell (.d (.sl 1 l.length (bytesD l)))), (7, .cell (.d (.sc (.int .i64 (l.length : Int))))), (8, .cell (.d (.sc (.int .i64 (i + 1)))))], []⟩) (by kernel_rfl) ?_
      refine AOps.done ?_
      refine LoopP.go (i + 1) [3, 6, 7, 8] [] ?_ ?_ ?_
      · (have e9 : numOf (l.take (i + 1).toNat) = numStep (numOf (l.take i.toNat)) c4 := by rw [show (i + 1).toNat = i.toNat + 1 by omega, numOf_take hc4]); rw [e9]; show _ = _; kernel_rfl
      · exact ⟨by omega, by omega⟩
      · (try dsimp only); omega
    · -- decide ((i : Int) < (l.length : Int)) = False
      try simp only [Bool.and_eq_true, Bool.or_eq_true, Bool.and_eq_false_iff, Bool.or_eq_false_iff, decide_eq_true_eq, decide_eq_false_iff_not, beq_iff_eq, bne_iff_ne, ne_eq, Bool.not_eq_true', Bool.not_eq_false', beq_eq_false_iff_ne, bne_eq_false_iff_eq, Decidable.not_not, Int.not_lt, Int.not_le, gt_iff_lt, ge_iff_le] at h1
      refine AW.exit (by kernel_rfl) ?_
      refine Then.exit ?_
      refine LoopP.exit ?_
      refine InBlk.exit ?_
      refine Then.go ?_
      refine AW.seq (by kernel_rfl) ?_
      refine AW.region (n := 2) (by kernel_rfl) (by kernel_rfl) ?_
      refine AOps.steps (i := 0) (m := 2) (r := 0) (i' := 2) (st' := ⟨[(2, .cell (.d (.sc (.int .u64 (numOf (l.take i.toNat)))))), (18, .cell (.d (.sc (.int .u64 (numOf (l.take i.toNat)))))), (3, .cell (.d (.sc (.int .u64 (numOf (l.take i.toNat)))))), (6, .cell (.d (.sl 1 l.length (bytesD l)))), (7, .cell (.d (.sc (.int .i64 (l.length : Int))))), (8, .cell (.d (.sc (.int .i64 i)))), (9, .cell (.d (.sc (.bool (decide ((i : Int) < (l.length : Int)))))))], []⟩) (by kernel_rfl) rfl rfl ?_
      refine AOps.keep [2] [] (st' := ⟨[(2, .cell (.d (.sc (.int .u64 (numOf (l.take i.toNat))))))], []⟩) (by kernel_rfl) ?_
      refine AOps.done ?_
      refine Then.go ?_
      refine AW.ret (by kernel_rfl) ?_
      refine RetF.of_ret [] (x := .cell (.d (.sc (.int .u64 (numOf (l.take i.toNat)))))) (by kernel_rfl) ?_
      refine ret_eq ?_
      rw [show i.toNat = l.length by omega, List.take_length]

noncomputable def C14 : Code := (Tryd.f14.body).getD .skip

theorem Frames_c (b : ByteArray) (hb : b.size ≤ maxLen) : ACalls Tryd.prog 14 [.cell (.d (.sc (.string b)))] [] (ER (α := List ByteArray × Int × Int) (fun ⟨l, u, e⟩ => framesJ b l u e) (fun ⟨l, u, e⟩ => .tup [.cell (.d (.sl 1 l.length (encS l))), .cell (.d (.sc (.int .i64 u))), .cell (.d (.sc (.int .i64 e)))]) (fun ⟨l, u, e⟩ => [])) := by
  have hb2 : b.size ≤ 9223372036854775807 := hb
  refine ACalls.of_AWF (fn := Tryd.f14) (c := C14) (N := 63) (rs := [.tmp 2, .tmp 3, .tmp 4]) Tryd.func14 (by kernel_rfl) (by kernel_rfl) (by kernel_rfl) (by kernel_rfl) (by kernel_rfl) ?_
  show AW Tryd.prog 63 C14 ⟨[(0, .cell (.d (.sc (.string b))))], []⟩ _
  refine AW.seq (by kernel_rfl) ?_
  refine AW.region (n := 3) (by kernel_rfl) (by kernel_rfl) ?_
  refine AOps.steps (i := 0) (m := 3) (r := 0) (i' := 3) (st' := ⟨[(4, .cell (.d (.sc (.int .i64 0)))), (3, .cell (.d (.sc (.int .i64 0)))), (2, .cell (.d (.sc (.slice none 0 0)))), (0, .cell (.d (.sc (.string b))))], []⟩) (by kernel_rfl) rfl rfl ?_
  refine AOps.keep [0, 2, 3] [] (st' := ⟨[(0, .cell (.d (.sc (.string b)))), (2, .cell (.d (.sc (.slice none 0 0)))), (3, .cell (.d (.sc (.int .i64 0))))], []⟩) (by kernel_rfl) ?_
  refine AOps.done ?_
  refine Then.go ?_
  refine AW.seq (by kernel_rfl) ?_
  refine AW.seq (by kernel_rfl) ?_
  refine AW.region (n := 3) (by kernel_rfl) (by kernel_rfl) ?_
  refine AOps.steps (i := 0) (m := 3) (r := 0) (i' := 3) (st' := ⟨[(10, .cell (.d (.sc (.bool (decide (((b.size : Int) : Int) > 16000)))))), (9, .cell (.d (.sc (.int .i64 (b.size : Int))))), (8, .cell (.d (.sc (.string b)))), (0, .cell (.d (.sc (.string b)))), (2, .cell (.d (.sc (.slice none 0 0)))), (3, .cell (.d (.sc (.int .i64 0))))], []⟩) (by kernel_rfl) rfl rfl ?_
  refine AOps.keep [0, 2, 3, 10] [] (st' := ⟨[(0, .cell (.d (.sc (.string b)))), (2, .cell (.d (.sc (.slice none 0 0)))), (3, .cell (.d (.sc (.int .i64 0)))), (10, .cell (.d (.sc (.bool (decide (((b.size : Int) : Int) > 16000))))))], []⟩) (by kernel_rfl) ?_
  refine AOps.done ?_
  refine Then.go ?_
  refine AW.cond (b := decide (((b.size : Int) : Int) > 16000)) (by kernel_rfl) (by kernel_rfl) (fun h1 => ?_) (fun h1 => ?_)
  · -- decide (((b.size : Int) : Int) > 16000) = True
    try simp only [Bool.and_eq_true, Bool.or_eq_true, Bool.and_eq_false_iff, Bool.or_eq_false_iff, decide_eq_true_eq, decide_eq_false_iff_not, beq_iff_eq, bne_iff_ne, ne_eq, Bool.not_eq_true', Bool.not_eq_false', beq_eq_false_iff_ne, bne_eq_false_iff_eq, Decidable.not_not, Int.not_lt, Int.not_le, gt_iff_lt, ge_iff_le] at h1
    refine AW.seq (by kernel_rfl) ?_
    refine AW.region (n := 3) (by kernel_rfl) (by kernel_rfl) ?_
    refine AOps.steps (i := 0) (m := 3) (r := 0) (i' := 3) (st' := ⟨[(4, .cell (.d (.sc (.int .i64 2)))), (3, .cell (.d (.sc (.int .i64 0)))), (2, .cell (.d (.sc (.slice none 0 0)))), (0, .cell (.d (.sc (.string b)))), (10, .cell (.d (.sc (.bool (decide (((b.size : Int) : Int) > 16000))))))], []⟩) (by kernel_rfl) rfl rfl ?_
    refine AOps.keep [2, 3, 4] [] (st' := ⟨[(2, .cell (.d (.sc (.slice none 0 0)))), (3, .cell (.d (.sc (.int .i64 0)))), (4, .cell (.d (.sc (.int .i64 2))))], []⟩) (by kernel_rfl) ?_
    refine AOps.done ?_
    refine AW.weak 2 (.cell (.d (.sc (.slice none 0 0)))) (.cell (.d (.sl 1 0 []))) (by kernel_rfl) (.one (.cell (.nil 1))) [2, 3, 4] [] (st' := ⟨[(2, .cell (.d (.sl 1 0 []))), (3, .cell (.d (.sc (.int .i64 0)))), (4, .cell (.d (.sc (.int .i64 2))))], []⟩) (by kernel_rfl) ?_
    refine Then.go ?_
    refine AW.ret (by kernel_rfl) ?_
    refine Then.ret ?_
    refine RetF.of_ret [] (x := .tup [.cell (.d (.sl 1 0 [])), .cell (.d (.sc (.int .i64 0))), .cell (.d (.sc (.int .i64 2)))]) (by kernel_rfl) ?_
    exact ⟨([], 0, 2), .inl ⟨by omega, rfl, rfl, rfl⟩, ret_eq rfl, trivial⟩
  · -- decide (((b.size : Int) : Int) > 16000) = False
    try simp only [Bool.and_eq_true, Bool.or_eq_true, Bool.and_eq_false_iff, Bool.or_eq_false_iff, decide_eq_true_eq, decide_eq_false_iff_not, beq_iff_eq, bne_iff_ne, ne_eq, Bool.not_eq_true', Bool.not_eq_false', beq_eq_false_iff_ne, bne_eq_false_iff_eq, Decidable.not_not, Int.not_lt, Int.not_le, gt_iff_lt, ge_iff_le] at h1
    refine AW.skip (by kernel_rfl) ?_
    refine Then.go ?_
    refine AW.block (by kernel_rfl) ?_
    refine AW.adopt 2 2 9 1 (by kernel_rfl) (by kernel_rfl) (st' := ⟨[(2, .cell (.own 2)), (0, .cell (.d (.sc (.string b)))), (3, .cell (.d (.sc (.int .i64 0)))), (10, .cell (.d (.sc (.bool (decide (((b.size : Int) : Int) > 16000))))))], [(2, .arr 9 1 0 [])]⟩) (by kernel_rfl) ?_
    refine AW.keep [0, 2, 3] [2] (st' := ⟨[(0, .cell (.d (.sc (.string b)))), (2, .cell (.own 2)), (3, .cell (.d (.sc (.int .i64 0))))], [(2, .arr 9 1 0 [])]⟩) (by kernel_rfl) ?_
    refine AW.loopJ (α := List ByteArray × Int) (by kernel_rfl) (fun ⟨l, u⟩ => (⟨[(0, .cell (.d (.sc (.string b)))), (2, .cell (.own 2)), (3, .cell (.d (.sc (.int .i64 u))))], [(2, .arr 9 1 l.length (encS l))]⟩ : ASt)) (fun ⟨l, u⟩ => 0 ≤ u ∧ u ≤ (b.size : Int) ∧ (l.length : Int) ≤ u ∧ Chain b l u.toNat) (fun ⟨l, u⟩ => b.size - u.toNat) ([], 0) ?_ ?_ ?_
    · rfl
    · exact ⟨by omega, by omega, by simp, .nil⟩
    · intro ⟨l, u⟩ hJ
      obtain ⟨h0, h1, hlu, hch⟩ := hJ
      dsimp only at h0 h1 hlu hch ⊢
      refine AW.block (by kernel_rfl) ?_
      refine AW.seq (by kernel_rfl) ?_
      refine AW.region (n := 4) (by kernel_rfl) (by kernel_rfl) ?_
      refine AOps.steps (i := 0) (m := 2) (r := 2) (i' := 2) (st' := ⟨[(12, .cell (.d (.sc (.int .i64 u)))), (11, .cell (.d (.sc (.string b)))), (0, .cell (.d (.sc (.string b)))), (2, .cell (.own 2)), (3, .cell (.d (.sc (.int .i64 u))))], [(2, .arr 9 1 l.length (encS l))]⟩) (by kernel_rfl) rfl rfl ?_
      obtain ⟨rest, hrest⟩ : ∃ r, b.extract (u : Int).toNat ((b.size : Int) : Int).toNat = r := ⟨_, rfl⟩
      have zrest : rest.size = b.size - u.toNat := by rw [← hrest, ex_size _ _ _ (by omega)]; omega
      refine AOps.one (i := 2) (r := 1) (i' := 3) (e := .put 13 (.cell (.d (.sc (.string rest))))) (st' := ⟨[(13, .cell (.d (.sc (.string rest)))), (12, .cell (.d (.sc (.int .i64 u)))), (11, .cell (.d (.sc (.string b)))), (0, .cell (.d (.sc (.string b)))), (2, .cell (.own 2)), (3, .cell (.d (.sc (.int .i64 u))))], [(2, .arr 9 1 l.length (encS l))]⟩) (IEff.qstrSlice (s := b) (r := rest) (p := u) (q := (b.size : Int)) (by kernel_rfl) (by omega) (by omega) (by omega) hrest) rfl rfl (by kernel_rfl) ?_
      refine AOps.steps (i := 3) (m := 1) (r := 0) (i' := 4) (st' := ⟨[(5, .cell (.d (.sc (.string rest)))), (13, .cell (.d (.sc (.string rest)))), (12, .cell (.d (.sc (.int .i64 u)))), (11, .cell (.d (.sc (.string b)))), (0, .cell (.d (.sc (.string b)))), (2, .cell (.own 2)), (3, .cell (.d (.sc (.int .i64 u))))], [(2, .arr 9 1 l.length (encS l))]⟩) (by kernel_rfl) rfl rfl ?_
      refine AOps.keep [0, 2, 3, 5] [2] (st' := ⟨[(0, .cell (.d (.sc (.string b)))), (2, .cell (.own 2)), (3, .cell (.d (.sc (.int .i64 u)))), (5, .cell (.d (.sc (.string rest))))], [(2, .arr 9 1 l.length (encS l))]⟩) (by kernel_rfl) ?_
      refine AOps.done ?_
      refine Then.go ?_
      refine AW.seq (by kernel_rfl) ?_
      refine AW.seq (by kernel_rfl) ?_
      refine AW.region (n := 3) (by kernel_rfl) (by kernel_rfl) ?_
      refine AOps.steps (i := 0) (m := 3) (r := 0) (i' := 3) (st' := ⟨[(16, .cell (.d (.sc (.bool (decide (((rest.size : Int) : Int) < 8)))))), (15, .cell (.d (.sc (.int .i64 (rest.size : Int))))), (14, .cell (.d (.sc (.string rest)))), (0, .cell (.d (.sc (.string b)))), (2, .cell (.own 2)), (3, .cell (.d (.sc (.int .i64 u)))), (5, .cell (.d (.sc (.string rest))))], [(2, .arr 9 1 l.length (encS l))]⟩) (by kernel_rfl) rfl rfl ?_
      refine AOps.keep [0, 2, 3, 5, 16] [2] (st' := ⟨[(0, .cell (.d (.sc (.string b)))), (2, .cell (.own 2)), (3, .cell (.d (.sc (.int .i64 u)))), (5, .cell (.d (.sc (.string rest)))), (16, .cell (.d (.sc (.bool (decide (((rest.size : Int) : Int) < 8))))))], [(2, .arr 9 1 l.length (encS l))]⟩) (by kernel_rfl) ?_
      refine AOps.done ?_
      refine Then.go ?_
      refine AW.cond (b := decide (((rest.size : Int) : Int) < 8)) (by kernel_rfl) (by kernel_rfl) (fun h2 => ?_) (fun h2 => ?_)
      · -- decide (((rest.size : Int) : Int) < 8) = True
        try simp only [Bool.and_eq_true, Bool.or_eq_true, Bool.and_eq_false_iff, Bool.or_eq_false_iff, decide_eq_true_eq, decide_eq_false_iff_not, beq_iff_eq, bne_iff_ne, ne_eq, Bool.not_eq_true', Bool.not_eq_false', beq_eq_false_iff_ne, bne_eq_false_iff_eq, Decidable.not_not, Int.not_lt, Int.not_le, gt_iff_lt, ge_iff_le] at h2
        refine AW.seq (by kernel_rfl) ?_
        refine AW.region (n := 5) (by kernel_rfl) (by kernel_rfl) ?_
        refine AOps.steps (i := 0) (m := 5) (r := 0) (i' := 5) (st' := ⟨[(4, .cell (.d (.sc (.int .i64 0)))), (3, .cell (.d (.sc (.int .i64 u)))), (2, .cell (.own 2)), (18, .cell (.d (.sc (.int .i64 u)))), (17, .cell (.own 2)), (0, .cell (.d (.sc (.string b)))), (5, .cell (.d (.sc (.string rest)))), (16, .cell (.d (.sc (.bool (decide (((rest.size : Int) : Int) < 8))))))], [(2, .arr 9 1 l.length (encS l))]⟩) (by kernel_rfl) rfl rfl ?_
        refine AOps.keep [2, 3, 4] [2] (st' := ⟨[(2, .cell (.own 2)), (3, .cell (.d (.sc (.int .i64 u)))), (4, .cell (.d (.sc (.int .i64 0))))], [(2, .arr 9 1 l.length (encS l))]⟩) (by kernel_rfl) ?_
        refine AOps.done ?_
        refine Then.go ?_
        refine AW.ret (by kernel_rfl) ?_
        refine Then.ret ?_
        refine InBlk.ret ?_
        refine LoopP.ret ?_
        refine InBlk.ret ?_
        refine RetF.of_ret [2] (x := .tup [.cell (.d (.sl 1 l.length (encS l))), .cell (.d (.sc (.int .i64 u))), .cell (.d (.sc (.int .i64 0)))]) (by kernel_rfl) ?_
        refine ⟨(l, u, 0), .inr ⟨by omega, rfl, by omega, hch, fun k hk => ?_⟩, ret_eq rfl, trivial⟩
        obtain ⟨k1, k2, k3, k4, k5⟩ := hk
        dsimp only at k1 k2 k3 k4 k5
        first
          | omega
          | (rw [← k4a, hn] at k4; omega)
          | (rw [← k4a, hn] at k4; subst k4; have e8 : ((8 : Int) + (k : Int)).toNat = 8 + k := (by omega); rw [e8] at hpay; rw [payL b rest pay u.toNat k (by omega) (by simpa using hrest) hpay, ← k4b, hm4] at k5; contradiction)
      · -- decide (((rest.size : Int) : Int) < 8) = False
        try simp only [Bool.and_eq_true, Bool.or_eq_true, Bool.and_eq_false_iff, Bool.or_eq_false_iff, decide_eq_true_eq, decide_eq_false_iff_not, beq_iff_eq, bne_iff_ne, ne_eq, Bool.not_eq_true', Bool.not_eq_false', beq_eq_false_iff_ne, bne_eq_false_iff_eq, Decidable.not_not, Int.not_lt, Int.not_le, gt_iff_lt, ge_iff_le] at h2
        refine AW.skip (by kernel_rfl) ?_
        refine Then.go ?_
        refine AW.seq (by kernel_rfl) ?_
        refine AW.region (n := 4) (by kernel_rfl) (by kernel_rfl) ?_
        refine AOps.steps (i := 0) (m := 1) (r := 3) (i' := 1) (st' := ⟨[(19, .cell (.d (.sc (.string rest)))), (0, .cell (.d (.sc (.string b)))), (2, .cell (.own 2)), (3, .cell (.d (.sc (.int .i64 u)))), (5, .cell (.d (.sc (.string rest)))), (16, .cell (.d (.sc (.bool (decide (((rest.size : Int) : Int) < 8))))))], [(2, .arr 9 1 l.length (encS l))]⟩) (by kernel_rfl) rfl rfl ?_
        obtain ⟨hd, hhd⟩ : ∃ r, rest.extract (0 : Int).toNat (8 : Int).toNat = r := ⟨_, rfl⟩
        obtain ⟨k4a, k4b, zhd⟩ := head4 b rest hd u.toNat (by omega) hrest (by simpa using hhd)
        refine AOps.one (i := 1) (r := 2) (i' := 2) (e := .put 20 (.cell (.d (.sc (.string hd))))) (st' := ⟨[(20, .cell (.d (.sc (.string hd)))), (19, .cell (.d (.sc (.string rest)))), (0, .cell (.d (.sc (.string b)))), (2, .cell (.own 2)), (3, .cell (.d (.sc (.int .i64 u)))), (5, .cell (.d (.sc (.string rest)))), (16, .cell (.d (.sc (.bool (decide (((rest.size : Int) : Int) < 8))))))], [(2, .arr 9 1 l.length (encS l))]⟩) (IEff.qstrSlice (s := rest) (r := hd) (p := 0) (q := 8) (by kernel_rfl) (by omega) (by omega) (by omega) hhd) rfl rfl (by kernel_rfl) ?_
        refine AOps.one (i := 2) (r := 1) (i' := 3) (e := .put 21 (.cell (.d (.sl 1 hd.size (bytesD hd.data.toList))))) (st' := ⟨[(21, .cell (.d (.sl 1 hd.size (bytesD hd.data.toList)))), (20, .cell (.d (.sc (.string hd)))), (19, .cell (.d (.sc (.string rest)))), (0, .cell (.d (.sc (.string b)))), (2, .cell (.own 2)), (3, .cell (.d (.sc (.int .i64 u)))), (5, .cell (.d (.sc (.string rest)))), (16, .cell (.d (.sc (.bool (decide (((rest.size : Int) : Int) < 8))))))], [(2, .arr 9 1 l.length (encS l))]⟩) (IEff.qbytesOf (s := hd) (by kernel_rfl)) rfl rfl (by kernel_rfl) ?_
        refine AOps.steps (i := 3) (m := 1) (r := 0) (i' := 4) (st' := ⟨[(6, .cell (.d (.sl 1 hd.size (bytesD hd.data.toList)))), (21, .cell (.d (.sl 1 hd.size (bytesD hd.data.toList)))), (20, .cell (.d (.sc (.string hd)))), (19, .cell (.d (.sc (.string rest)))), (0, .cell (.d (.sc (.string b)))), (2, .cell (.own 2)), (3, .cell (.d (.sc (.int .i64 u)))), (5, .cell (.d (.sc (.string rest)))), (16, .cell (.d (.sc (.bool (decide (((rest.size : Int) : Int) < 8))))))], [(2, .arr 9 1 l.length (encS l))]⟩) (by kernel_rfl) rfl rfl ?_
        refine AOps.keep [0, 2, 3, 5, 6] [2] (st' := ⟨[(0, .cell (.d (.sc (.string b)))), (2, .cell (.own 2)), (3, .cell (.d (.sc (.int .i64 u)))), (5, .cell (.d (.sc (.string rest)))), (6, .cell (.d (.sl 1 hd.size (bytesD hd.data.toList))))], [(2, .arr 9 1 l.length (encS l))]⟩) (by kernel_rfl) ?_
        refine AOps.done ?_
        refine Then.go ?_
        refine AW.seq (by kernel_rfl) ?_
        refine AW.region (n := 5) (by kernel_rfl) (by kernel_rfl) ?_
        refine AOps.steps (i := 0) (m := 1) (r := 4) (i' := 1) (st' := ⟨[(22, .cell (.d (.sl 1 hd.size (bytesD hd.data.toList)))), (0, .cell (.d (.sc (.string b)))), (2, .cell (.own 2)), (3, .cell (.d (.sc (.int .i64 u)))), (5, .cell (.d (.sc (.string rest)))), (6, .cell (.d (.sl 1 hd.size (bytesD hd.data.toList))))], [(2, .arr 9 1 l.length (encS l))]⟩) (by kernel_rfl) rfl rfl ?_
        refine AOps.one (i := 1) (r := 3) (i' := 2) (e := .put 23 (.cell (.d (.sl 1 4 (bytesD ((hd.data.toList.drop 0).take 4)))))) (st' := ⟨[(23, .cell (.d (.sl 1 4 (bytesD ((hd.data.toList.drop 0).take 4))))), (22, .cell (.d (.sl 1 hd.size (bytesD hd.data.toList)))), (0, .cell (.d (.sc (.string b)))), (2, .cell (.own 2)), (3, .cell (.d (.sc (.int .i64 u)))), (5, .cell (.d (.sc (.string rest)))), (6, .cell (.d (.sl 1 hd.size (bytesD hd.data.toList))))], [(2, .arr 9 1 l.length (encS l))]⟩) (IEff.qslice (e := 1) (n := hd.size) (cs := (bytesD hd.data.toList)) (es := (bytesD ((hd.data.toList.drop 0).take 4))) (p := 0) (q := 4) (m := 4) (by kernel_rfl) (by omega) (by omega) (by omega) (by omega) (bytesD_sub _ 0 4)) rfl rfl (by kernel_rfl) ?_
        obtain ⟨n, hn⟩ : ∃ n, numOf ((hd.data.toList.drop 0).take 4) = n := ⟨_, rfl⟩
        have rn := numOf_range ((hd.data.toList.drop 0).take 4) (by simp <;> omega)
        rw [hn] at rn
        have sn := numberOf_c ((hd.data.toList.drop 0).take 4) (by simp <;> omega)
        have ln : (((hd.data.toList.drop 0).take 4)).length = 4 := by simp <;> omega
        rw [hn, ln] at sn
        refine AOps.one (i := 2) (r := 2) (i' := 3) (e := .put 24 (.cell (.d (.sc (.int .u64 n))))) (st' := ⟨[(24, .cell (.d (.sc (.int .u64 n)))), (23, .cell (.d (.sl 1 4 (bytesD ((hd.data.toList.drop 0).take 4))))), (22, .cell (.d (.sl 1 hd.size (bytesD hd.data.toList)))), (0, .cell (.d (.sc (.string b)))), (2, .cell (.own 2)), (3, .cell (.d (.sc (.int .i64 u)))), (5, .cell (.d (.sc (.string rest)))), (6, .cell (.d (.sl 1 hd.size (bytesD hd.data.toList))))], [(2, .arr 9 1 l.length (encS l))]⟩) (IEff.qpcall (f := 29) (args := [.cell (.d (.sl 1 4 (bytesD ((hd.data.toList.drop 0).take 4))))]) (by kernel_rfl) (by kernel_rfl) sn (by kernel_rfl)) rfl rfl (by kernel_rfl) ?_
        refine AOps.steps (i := 3) (m := 2) (r := 0) (i' := 5) (st' := ⟨[(7, .cell (.d (.sc (.int .i64 (IntKind.wrap .i64 (n)))))), (25, .cell (.d (.sc (.int .i64 (IntKind.wrap .i64 (n)))))), (24, .cell (.d (.sc (.int .u64 n)))), (23, .cell (.d (.sl 1 4 (bytesD ((hd.data.toList.drop 0).take 4))))), (22, .cell (.d (.sl 1 hd.size (bytesD hd.data.toList)))), (0, .cell (.d (.sc (.string b)))), (2, .cell (.own 2)), (3, .cell (.d (.sc (.int .i64 u)))), (5, .cell (.d (.sc (.string rest)))), (6, .cell (.d (.sl 1 hd.size (bytesD hd.data.toList))))], [(2, .arr 9 1 l.length (encS l))]⟩) (by kernel_rfl) rfl rfl ?_
        have w3 : IntKind.wrap .i64 (n) = n := wrap_i64 _ (by omega) (by omega)
        rw [w3]
        clear w3
        refine AOps.keep [0, 2, 3, 5, 6, 7] [2] (st' := ⟨[(0, .cell (.d (.sc (.string b)))), (2, .cell (.own 2)), (3, .cell (.d (.sc (.int .i64 u)))), (5, .cell (.d (.sc (.string rest)))), (6, .cell (.d (.sl 1 hd.size (bytesD hd.data.toList)))), (7, .cell (.d (.sc (.int .i64 n))))], [(2, .arr 9 1 l.length (encS l))]⟩) (by kernel_rfl) ?_
        refine AOps.done ?_
        refine Then.go ?_
        refine AW.seq (by kernel_rfl) ?_
        refine AW.seq (by kernel_rfl) ?_
        obtain hs4 | hs4 : ((n : Int) == 0) = true ∨ ((n : Int) == 0) = false := by cases ((n : Int) == 0) <;> simp
        · have hs4n := hs4
          try simp only [Bool.and_eq_true, Bool.or_eq_true, Bool.and_eq_false_iff, Bool.or_eq_false_iff, decide_eq_true_eq, decide_eq_false_iff_not, beq_iff_eq, bne_iff_ne, ne_eq, Bool.not_eq_true', Bool.not_eq_false', beq_eq_false_iff_ne, bne_eq_false_iff_eq, Decidable.not_not, Int.not_lt, Int.not_le, gt_iff_lt, ge_iff_le] at hs4n
          refine AW.drawn (by kernel_rfl) (by kernel_rfl) [.put 26 (.cell (.d (.sc (.int .i64 n)))), .put 27 (.cell (.d (.sc (.bool true)))), .put 28 (.cell (.d (.sc (.bool true)))), .put 29 (.junk), .put 30 (.junk), .put 31 (.cell (.d (.sc (.bool true)))), .put 32 (.cell (.d (.sc (.bool true)))), .put 33 (.junk), .put 34 (.junk), .put 35 (.junk), .put 36 (.junk), .put 37 (.junk), .put 38 (.cell (.d (.sc (.bool true)))), .put 39 (.cell (.d (.sc (.bool true)))), .put 40 (.junk), .put 41 (.junk), .put 42 (.junk), .put 43 (.junk), .put 44 (.junk), .put 45 (.junk), .put 46 (.junk), .put 47 (.junk), .put 48 (.junk), .put 49 (.cell (.d (.sc (.bool true))))] [0, 1, 3, 7, 15, 31, 63, 127, 127, 383, 895, 2047, 4095, 8191, 16383, 16383, 49151, 131071, 262143, 16383, 540671, 2097151, 4194303, 8388607] (by kernel_rfl) (by kernel_rfl) (by kernel_rfl) ⟨fun f => .step1 (by kernel_rfl), fun f => .cast (e := .put 27 (.cell (.d (.sc (.bool ((n : Int) == 0)))))) (.step1 (by kernel_rfl)) (by rw [hs4]), fun f => .step1 (by kernel_rfl), fun f => .stepK (by kernel_rfl), fun f => .stepK (by kernel_rfl), fun f => .step1 (by kernel_rfl), fun f => .step1 (by kernel_rfl), fun f => .stepK (by kernel_rfl), fun f => .stepK (by kernel_rfl), fun f => .stepK (by kernel_rfl), fun f => .stepK (by kernel_rfl), fun f => .stepK (by kernel_rfl), fun f => .step1 (by kernel_rfl), fun f => .step1 (by kernel_rfl), fun f => .stepK (by kernel_rfl), fun f => .stepK (by kernel_rfl), fun f => .stepK (by kernel_rfl), fun f => .stepK (by kernel_rfl), fun f => .stepK (by kernel_rfl), fun f => .stepK (by kernel_rfl), fun f => .stepK (by kernel_rfl), fun f => .stepK (by kernel_rfl), fun f => .stepK (by kernel_rfl), fun f => .step1 (by kernel_rfl), trivial⟩ (st' := ⟨[(49, .cell (.d (.sc (.bool true)))), (48, .junk), (47, .junk), (46, .junk), (45, .junk), (44, .junk), (43, .junk), (42, .junk), (41, .junk), (40, .junk), (39, .cell (.d (.sc (.bool true)))), (38, .cell (.d (.sc (.bool true)))), (37, .junk), (36, .junk), (35, .junk), (34, .junk), (33, .junk), (32, .cell (.d (.sc (.bool true)))), (31, .cell (.d (.sc (.bool true)))), (30, .junk), (29, .junk), (28, .cell (.d (.sc (.bool true)))), (27, .cell (.d (.sc (.bool true)))), (26, .cell (.d (.sc (.int .i64 n)))), (0, .cell (.d (.sc (.string b)))), (2, .cell (.own 2)), (3, .cell (.d (.sc (.int .i64 u)))), (5, .cell (.d (.sc (.string rest)))), (6, .cell (.d (.sl 1 hd.size (bytesD hd.data.toList)))), (7, .cell (.d (.sc (.int .i64 n))))], [(2, .arr 9 1 l.length (encS l))]⟩) (by kernel_rfl) ?_
          refine Then.go ?_
          refine AW.cond (b := true) (by kernel_rfl) (by kernel_rfl) (fun _ => ?_) (fun h => by cases h) 
          refine AW.seq (by kernel_rfl) ?_
          refine AW.region (n := 5) (by kernel_rfl) (by kernel_rfl) ?_
          refine AOps.steps (i := 0) (m := 5) (r := 0) (i' := 5) (st' := ⟨[(4, .cell (.d (.sc (.int .i64 0)))), (3, .cell (.d (.sc (.int .i64 u)))), (2, .cell (.own 2)), (51, .cell (.d (.sc (.int .i64 u)))), (50, .cell (.own 2)), (49, .cell (.d (.sc (.bool true)))), (48, .junk), (47, .junk), (46, .junk), (45, .junk), (44, .junk), (43, .junk), (42, .junk), (41, .junk), (40, .junk), (39, .cell (.d (.sc (.bool true)))), (38, .cell (.d (.sc (.bool true)))), (37, .junk), (36, .junk), (35, .junk), (34, .junk), (33, .junk), (32, .cell (.d (.sc (.bool true)))), (31, .cell (.d (.sc (.bool true)))), (30, .junk), (29, .junk), (28, .cell (.d (.sc (.bool true)))), (27, .cell (.d (.sc (.bool true)))), (26, .cell (.d (.sc (.int .i64 n)))), (0, .cell (.d (.sc (.string b)))), (5, .cell (.d (.sc (.string rest)))), (6, .cell (.d (.sl 1 hd.size (bytesD hd.data.toList)))), (7, .cell (.d (.sc (.int .i64 n))))], [(2, .arr 9 1 l.length (encS l))]⟩) (by kernel_rfl) rfl rfl ?_
          refine AOps.keep [2, 3, 4] [2] (st' := ⟨[(2, .cell (.own 2)), (3, .cell (.d (.sc (.int .i64 u)))), (4, .cell (.d (.sc (.int .i64 0))))], [(2, .arr 9 1 l.length (encS l))]⟩) (by kernel_rfl) ?_
          refine AOps.done ?_
          refine Then.go ?_
          refine AW.ret (by kernel_rfl) ?_
          refine Then.ret ?_
          refine InBlk.ret ?_
          refine LoopP.ret ?_
          refine InBlk.ret ?_
          refine RetF.of_ret [2] (x := .tup [.cell (.d (.sl 1 l.length (encS l))), .cell (.d (.sc (.int .i64 u))), .cell (.d (.sc (.int .i64 0)))]) (by kernel_rfl) ?_
          refine ⟨(l, u, 0), .inr ⟨by omega, rfl, by omega, hch, fun k hk => ?_⟩, ret_eq rfl, trivial⟩
          obtain ⟨k1, k2, k3, k4, k5⟩ := hk
          dsimp only at k1 k2 k3 k4 k5
          first
            | omega
            | (rw [← k4a, hn] at k4; omega)
            | (rw [← k4a, hn] at k4; subst k4; have e8 : ((8 : Int) + (k : Int)).toNat = 8 + k := (by omega); rw [e8] at hpay; rw [payL b rest pay u.toNat k (by omega) (by simpa using hrest) hpay, ← k4b, hm4] at k5; contradiction)
        · have hs4n := hs4
          try simp only [Bool.and_eq_true, Bool.or_eq_true, Bool.and_eq_false_iff, Bool.or_eq_false_iff, decide_eq_true_eq, decide_eq_false_iff_not, beq_iff_eq, bne_iff_ne, ne_eq, Bool.not_eq_true', Bool.not_eq_false', beq_eq_false_iff_ne, bne_eq_false_iff_eq, Decidable.not_not, Int.not_lt, Int.not_le, gt_iff_lt, ge_iff_le] at hs4n
          obtain hs5 | hs5 : (decide ((n : Int) > 8000)) = true ∨ (decide ((n : Int) > 8000)) = false := by cases (decide ((n : Int) > 8000)) <;> simp
          · have hs5n := hs5
            try simp only [Bool.and_eq_true, Bool.or_eq_true, Bool.and_eq_false_iff, Bool.or_eq_false_iff, decide_eq_true_eq, decide_eq_false_iff_not, beq_iff_eq, bne_iff_ne, ne_eq, Bool.not_eq_true', Bool.not_eq_false', beq_eq_false_iff_ne, bne_eq_false_iff_eq, Decidable.not_not, Int.not_lt, Int.not_le, gt_iff_lt, ge_iff_le] at hs5n
            refine AW.drawn (by kernel_rfl) (by kernel_rfl) [.put 26 (.cell (.d (.sc (.int .i64 n)))), .put 27 (.cell (.d (.sc (.bool false)))), .put 28 (.cell (.d (.sc (.bool false)))), .put 29 (.cell (.d (.sc (.int .i64 n)))), .put 30 (.cell (.d (.sc (.bool true)))), .put 31 (.cell (.d (.sc (.bool true)))), .put 32 (.cell (.d (.sc (.bool true)))), .put 33 (.junk), .put 34 (.junk), .put 35 (.junk), .put 36 (.junk), .put 37 (.junk), .put 38 (.cell (.d (.sc (.bool true)))), .put 39 (.cell (.d (.sc (.bool true)))), .put 40 (.junk), .put 41 (.junk), .put 42 (.junk), .put 43 (.junk), .put 44 (.junk), .put 45 (.junk), .put 46 (.junk), .put 47 (.junk), .put 48 (.junk), .put 49 (.cell (.d (.sc (.bool true))))] [0, 1, 3, 7, 15, 31, 63, 127, 127, 383, 895, 2047, 4095, 8191, 16383, 16383, 49151, 131071, 262143, 16383, 540671, 2097151, 4194303, 8388607] (by kernel_rfl) (by kernel_rfl) (by kernel_rfl) ⟨fun f => .step1 (by kernel_rfl), fun f => .cast (e := .put 27 (.cell (.d (.sc (.bool ((n : Int) == 0)))))) (.step1 (by kernel_rfl)) (by rw [hs4]), fun f => .step1 (by kernel_rfl), fun f => .stepK (by kernel_rfl), fun f => .cast (e := .put 30 (.cell (.d (.sc (.bool (decide ((n : Int) > 8000))))))) (.stepK (by kernel_rfl)) (by rw [hs5]), fun f => .step1 (by kernel_rfl), fun f => .step1 (by kernel_rfl), fun f => .stepK (by kernel_rfl), fun f => .stepK (by kernel_rfl), fun f => .stepK (by kernel_rfl), fun f => .stepK (by kernel_rfl), fun f => .stepK (by kernel_rfl), fun f => .step1 (by kernel_rfl), fun f => .step1 (by kernel_rfl), fun f => .stepK (by kernel_rfl), fun f => .stepK (by kernel_rfl), fun f => .stepK (by kernel_rfl), fun f => .stepK (by kernel_rfl), fun f => .stepK (by kernel_rfl), fun f => .stepK (by kernel_rfl), fun f => .stepK (by kernel_rfl), fun f => .stepK (by kernel_rfl), fun f => .stepK (by kernel_rfl), fun f => .step1 (by kernel_rfl), trivial⟩ (st' := ⟨[(49, .cell (.d (.sc (.bool true)))), (48, .junk), (47, .junk), (46, .junk), (45, .junk), (44, .junk), (43, .junk), (42, .junk), (41, .junk), (40, .junk), (39, .cell (.d (.sc (.bool true)))), (38, .cell (.d (.sc (.bool true)))), (37, .junk), (36, .junk), (35, .junk), (34, .junk), (33, .junk), (32, .cell (.d (.sc (.bool true)))), (31, .cell (.d (.sc (.bool true)))), (30, .cell (.d (.sc (.bool true)))), (29, .cell (.d (.sc (.int .i64 n)))), (28, .cell (.d (.sc (.bool false)))), (27, .cell (.d (.sc (.bool false)))), (26, .cell (.d (.sc (.int .i64 n)))), (0, .cell (.d (.sc (.string b)))), (2, .cell (.own 2)), (3, .cell (.d (.sc (.int .i64 u)))), (5, .cell (.d (.sc (.string rest)))), (6, .cell (.d (.sl 1 hd.size (bytesD hd.data.toList)))), (7, .cell (.d (.sc (.int .i64 n))))], [(2, .arr 9 1 l.length (encS l))]⟩) (by kernel_rfl) ?_
            refine Then.go ?_
            refine AW.cond (b := true) (by kernel_rfl) (by kernel_rfl) (fun _ => ?_) (fun h => by cases h) 
            refine AW.seq (by kernel_rfl) ?_
            refine AW.region (n := 5) (by kernel_rfl) (by kernel_rfl) ?_
            refine AOps.steps (i := 0) (m := 5) (r := 0) (i' := 5) (st' := ⟨[(4, .cell (.d (.sc (.int .i64 0)))), (3, .cell (.d (.sc (.int .i64 u)))), (2, .cell (.own 2)), (51, .cell (.d (.sc (.int .i64 u)))), (50, .cell (.own 2)), (49, .cell (.d (.sc (.bool true)))), (48, .junk), (47, .junk), (46, .junk), (45, .junk), (44, .junk), (43, .junk), (42, .junk), (41, .junk), (40, .junk), (39, .cell (.d (.sc (.bool true)))), (38, .cell (.d (.sc (.bool true)))), (37, .junk), (36, .junk), (35, .junk), (34, .junk), (33, .junk), (32, .cell (.d (.sc (.bool true)))), (31, .cell (.d (.sc (.bool true)))), (30, .cell (.d (.sc (.bool true)))), (29, .cell (.d (.sc (.int .i64 n)))), (28, .cell (.d (.sc (.bool false)))), (27, .cell (.d (.sc (.bool false)))), (26, .cell (.d (.sc (.int .i64 n)))), (0, .cell (.d (.sc (.string b)))), (5, .cell (.d (.sc (.string rest)))), (6, .cell (.d (.sl 1 hd.size (bytesD hd.data.toList)))), (7, .cell (.d (.sc (.int .i64 n))))], [(2, .arr 9 1 l.length (encS l))]⟩) (by kernel_rfl) rfl rfl ?_
            refine AOps.keep [2, 3, 4] [2] (st' := ⟨[(2, .cell (.own 2)), (3, .cell (.d (.sc (.int .i64 u)))), (4, .cell (.d (.sc (.int .i64 0))))], [(2, .arr 9 1 l.length (encS l))]⟩) (by kernel_rfl) ?_
            refine AOps.done ?_
            refine Then.go ?_
            refine AW.ret (by kernel_rfl) ?_
            refine Then.ret ?_
            refine InBlk.ret ?_
            refine LoopP.ret ?_
            refine InBlk.ret ?_
            refine RetF.of_ret [2] (x := .tup [.cell (.d (.sl 1 l.length (encS l))), .cell (.d (.sc (.int .i64 u))), .cell (.d (.sc (.int .i64 0)))]) (by kernel_rfl) ?_
            refine ⟨(l, u, 0), .inr ⟨by omega, rfl, by omega, hch, fun k hk => ?_⟩, ret_eq rfl, trivial⟩
            obtain ⟨k1, k2, k3, k4, k5⟩ := hk
            dsimp only at k1 k2 k3 k4 k5
            first
              | omega
              | (rw [← k4a, hn] at k4; omega)
              | (rw [← k4a, hn] at k4; subst k4; have e8 : ((8 : Int) + (k : Int)).toNat = 8 + k := (by omega); rw [e8] at hpay; rw [payL b rest pay u.toNat k (by omega) (by simpa using hrest) hpay, ← k4b, hm4] at k5; contradiction)
          · have hs5n := hs5
            try simp only [Bool.and_eq_true, Bool.or_eq_true, Bool.and_eq_false_iff, Bool.or_eq_false_iff, decide_eq_true_eq, decide_eq_false_iff_not, beq_iff_eq, bne_iff_ne, ne_eq, Bool.not_eq_true', Bool.not_eq_false', beq_eq_false_iff_ne, bne_eq_false_iff_eq, Decidable.not_not, Int.not_lt, Int.not_le, gt_iff_lt, ge_iff_le] at hs5n
            obtain hs6 | hs6 : (decide ((n : Int) > ((rest.size : Int) - 8))) = true ∨ (decide ((n : Int) > ((rest.size : Int) - 8))) = false := by cases (decide ((n : Int) > ((rest.size : Int) - 8))) <;> simp
            · have hs6n := hs6
              try simp only [Bool.and_eq_true, Bool.or_eq_true, Bool.and_eq_false_iff, Bool.or_eq_false_iff, decide_eq_true_eq, decide_eq_false_iff_not, beq_iff_eq, bne_iff_ne, ne_eq, Bool.not_eq_true', Bool.not_eq_false', beq_eq_false_iff_ne, bne_eq_false_iff_eq, Decidable.not_not, Int.not_lt, Int.not_le, gt_iff_lt, ge_iff_le] at hs6n
              have w7 : IntKind.wrap .i64 ((rest.size : Int) - 8) = (rest.size : Int) - 8 := wrap_i64 _ (by omega) (by omega)
              refine AW.drawn (by kernel_rfl) (by kernel_rfl) [.put 26 (.cell (.d (.sc (.int .i64 n)))), .put 27 (.cell (.d (.sc (.bool false)))), .put 28 (.cell (.d (.sc (.bool false)))), .put 29 (.cell (.d (.sc (.int .i64 n)))), .put 30 (.cell (.d (.sc (.bool false)))), .put 31 (.cell (.d (.sc (.bool false)))), .put 32 (.cell (.d (.sc (.bool false)))), .put 33 (.cell (.d (.sc (.int .i64 n)))), .put 34 (.cell (.d (.sc (.string rest)))), .put 35 (.cell (.d (.sc (.int .i64 (rest.size : Int))))), .put 36 (.cell (.d (.sc (.int .i64 ((rest.size : Int) - 8))))), .put 37 (.cell (.d (.sc (.bool true)))), .put 38 (.cell (.d (.sc (.bool true)))), .put 39 (.cell (.d (.sc (.bool true)))), .put 40 (.junk), .put 41 (.junk), .put 42 (.junk), .put 43 (.junk), .put 44 (.junk), .put 45 (.junk), .put 46 (.junk), .put 47 (.junk), .put 48 (.junk), .put 49 (.cell (.d (.sc (.bool true))))] [0, 1, 3, 7, 15, 31, 63, 127, 127, 383, 895, 2047, 4095, 8191, 16383, 16383, 49151, 131071, 262143, 16383, 540671, 2097151, 4194303, 8388607] (by kernel_rfl) (by kernel_rfl) (by kernel_rfl) ⟨fun f => .step1 (by kernel_rfl), fun f => .cast (e := .put 27 (.cell (.d (.sc (.bool ((n : Int) == 0)))))) (.step1 (by kernel_rfl)) (by rw [hs4]), fun f => .step1 (by kernel_rfl), fun f => .stepK (by kernel_rfl), fun f => .cast (e := .put 30 (.cell (.d (.sc (.bool (decide ((n : Int) > 8000))))))) (.stepK (by kernel_rfl)) (by rw [hs5]), fun f => .step1 (by kernel_rfl), fun f => .step1 (by kernel_rfl), fun f => .stepK (by kernel_rfl), fun f => .stepK (by kernel_rfl), fun f => .stepK (by kernel_rfl), fun f => .cast (e := .put 36 (.cell (.d (.sc (.int .i64 (IntKind.wrap .i64 ((rest.size : Int) - 8))))))) (.stepK (by kernel_rfl)) (by rw [w7]), fun f => .cast (e := .put 37 (.cell (.d (.sc (.bool (decide ((n : Int) > ((rest.size : Int) - 8)))))))) (.stepK (by kernel_rfl)) (by rw [hs6]), fun f => .step1 (by kernel_rfl), fun f => .step1 (by kernel_rfl), fun f => .stepK (by kernel_rfl), fun f => .stepK (by kernel_rfl), fun f => .stepK (by kernel_rfl), fun f => .stepK (by kernel_rfl), fun f => .stepK (by kernel_rfl), fun f => .stepK (by kernel_rfl), fun f => .stepK (by kernel_rfl), fun f => .stepK (by kernel_rfl), fun f => .stepK (by kernel_rfl), fun f => .step1 (by kernel_rfl), trivial⟩ (st' := ⟨[(49, .cell (.d (.sc (.bool true)))), (48, .junk), (47, .junk), (46, .junk), (45, .junk), (44, .junk), (43, .junk), (42, .junk), (41, .junk), (40, .junk), (39, .cell (.d (.sc (.bool true)))), (38, .cell (.d (.sc (.bool true)))), (37, .cell (.d (.sc (.bool true)))), (36, .cell (.d (.sc (.int .i64 ((rest.size : Int) - 8))))), (35, .cell (.d (.sc (.int .i64 (rest.size : Int))))), (34, .cell (.d (.sc (.string rest)))), (33, .cell (.d (.sc (.int .i64 n)))), (32, .cell (.d (.sc (.bool false)))), (31, .cell (.d (.sc (.bool false)))), (30, .cell (.d (.sc (.bool false)))), (29, .cell (.d (.sc (.int .i64 n)))), (28, .cell (.d (.sc (.bool false)))), (27, .cell (.d (.sc (.bool false)))), (26, .cell (.d (.sc (.int .i64 n)))), (0, .cell (.d (.sc (.string b)))), (2, .cell (.own 2)), (3, .cell (.d (.sc (.int .i64 u)))), (5, .cell (.d (.sc (.string rest)))), (6, .cell (.d (.sl 1 hd.size (bytesD hd.data.toList)))), (7, .cell (.d (.sc (.int .i64 n))))], [(2, .arr 9 1 l.length (encS l))]⟩) (by kernel_rfl) ?_
              refine Then.go ?_
              refine AW.cond (b := true) (by kernel_rfl) (by kernel_rfl) (fun _ => ?_) (fun h => by cases h) 
              refine AW.seq (by kernel_rfl) ?_
              refine AW.region (n := 5) (by kernel_rfl) (by kernel_rfl) ?_
              refine AOps.steps (i := 0) (m := 5) (r := 0) (i' := 5) (st' := ⟨[(4, .cell (.d (.sc (.int .i64 0)))), (3, .cell (.d (.sc (.int .i64 u)))), (2, .cell (.own 2)), (51, .cell (.d (.sc (.int .i64 u)))), (50, .cell (.own 2)), (49, .cell (.d (.sc (.bool true)))), (48, .junk), (47, .junk), (46, .junk), (45, .junk), (44, .junk), (43, .junk), (42, .junk), (41, .junk), (40, .junk), (39, .cell (.d (.sc (.bool true)))), (38, .cell (.d (.sc (.bool true)))), (37, .cell (.d (.sc (.bool true)))), (36, .cell (.d (.sc (.int .i64 ((rest.size : Int) - 8))))), (35, .cell (.d (.sc (.int .i64 (rest.size : Int))))), (34, .cell (.d (.sc (.string rest)))), (33, .cell (.d (.sc (.int .i64 n)))), (32, .cell (.d (.sc (.bool false)))), (31, .cell (.d (.sc (.bool false)))), (30, .cell (.d (.sc (.bool false)))), (29, .cell (.d (.sc (.int .i64 n)))), (28, .cell (.d (.sc (.bool false)))), (27, .cell (.d (.sc (.bool false)))), (26, .cell (.d (.sc (.int .i64 n)))), (0, .cell (.d (.sc (.string b)))), (5, .cell (.d (.sc (.string rest)))), (6, .cell (.d (.sl 1 hd.size (bytesD hd.data.toList)))), (7, .cell (.d (.sc (.int .i64 n))))], [(2, .arr 9 1 l.length (encS l))]⟩) (by kernel_rfl) rfl rfl ?_
              refine AOps.keep [2, 3, 4] [2] (st' := ⟨[(2, .cell (.own 2)), (3, .cell (.d (.sc (.int .i64 u)))), (4, .cell (.d (.sc (.int .i64 0))))], [(2, .arr 9 1 l.length (encS l))]⟩) (by kernel_rfl) ?_
              refine AOps.done ?_
              refine Then.go ?_
              refine AW.ret (by kernel_rfl) ?_
              refine Then.ret ?_
              refine InBlk.ret ?_
              refine LoopP.ret ?_
              refine InBlk.ret ?_
              refine RetF.of_ret [2] (x := .tup [.cell (.d (.sl 1 l.length (encS l))), .cell (.d (.sc (.int .i64 u))), .cell (.d (.sc (.int .i64 0)))]) (by kernel_rfl) ?_
              refine ⟨(l, u, 0), .inr ⟨by omega, rfl, by omega, hch, fun k hk => ?_⟩, ret_eq rfl, trivial⟩
              obtain ⟨k1, k2, k3, k4, k5⟩ := hk
              dsimp only at k1 k2 k3 k4 k5
              first
                | omega
                | (rw [← k4a, hn] at k4; omega)
                | (rw [← k4a, hn] at k4; subst k4; have e8 : ((8 : Int) + (k : Int)).toNat = 8 + k := (by omega); rw [e8] at hpay; rw [payL b rest pay u.toNat k (by omega) (by simpa using hrest) hpay, ← k4b, hm4] at k5; contradiction)
            · have hs6n := hs6
              try simp only [Bool.and_eq_true, Bool.or_eq_true, Bool.and_eq_false_iff, Bool.or_eq_false_iff, decide_eq_true_eq, decide_eq_false_iff_not, beq_iff_eq, bne_iff_ne, ne_eq, Bool.not_eq_true', Bool.not_eq_false', beq_eq_false_iff_ne, bne_eq_false_iff_eq, Decidable.not_not, Int.not_lt, Int.not_le, gt_iff_lt, ge_iff_le] at hs6n
              have w8 : IntKind.wrap .i64 ((rest.size : Int) - 8) = (rest.size : Int) - 8 := wrap_i64 _ (by omega) (by omega)
              have w9 : IntKind.wrap .i64 (8 + n) = 8 + n := wrap_i64 _ (by omega) (by omega)
              obtain ⟨pay, hpay⟩ : ∃ r, rest.extract (8 : Int).toNat (8 + n : Int).toNat = r := ⟨_, rfl⟩
              have zpay : pay.size ≤ 8000 := by rw [← hpay, ex_size _ _ _ (by omega)]; omega
              obtain ⟨m4, hm4⟩ : ∃ n, numOf ((hd.data.toList.drop 4).take 4) = n := ⟨_, rfl⟩
              have rm4 := numOf_range ((hd.data.toList.drop 4).take 4) (by simp <;> omega)
              rw [hm4] at rm4
              have sm4 := numberOf_c ((hd.data.toList.drop 4).take 4) (by simp <;> omega)
              have lm4 : (((hd.data.toList.drop 4).take 4)).length = 4 := by simp <;> omega
              rw [hm4, lm4] at sm4
              refine AW.drawn (by kernel_rfl) (by kernel_rfl) [.put 26 (.cell (.d (.sc (.int .i64 n)))), .put 27 (.cell (.d (.sc (.bool false)))), .put 28 (.cell (.d (.sc (.bool false)))), .put 29 (.cell (.d (.sc (.int .i64 n)))), .put 30 (.cell (.d (.sc (.bool false)))), .put 31 (.cell (.d (.sc (.bool false)))), .put 32 (.cell (.d (.sc (.bool false)))), .put 33 (.cell (.d (.sc (.int .i64 n)))), .put 34 (.cell (.d (.sc (.string rest)))), .put 35 (.cell (.d (.sc (.int .i64 (rest.size : Int))))), .put 36 (.cell (.d (.sc (.int .i64 ((rest.size : Int) - 8))))), .put 37 (.cell (.d (.sc (.bool false)))), .put 38 (.cell (.d (.sc (.bool false)))), .put 39 (.cell (.d (.sc (.bool false)))), .put 40 (.cell (.d (.sc (.string rest)))), .put 41 (.cell (.d (.sc (.int .i64 n)))), .put 42 (.cell (.d (.sc (.int .i64 (8 + n))))), .put 43 (.cell (.d (.sc (.string pay)))), .put 44 (.cell (.d (.sc (.int .u64 (sumOf pay))))), .put 45 (.cell (.d (.sl 1 hd.size (bytesD hd.data.toList)))), .put 46 (.cell (.d (.sl 1 4 (bytesD ((hd.data.toList.drop 4).take 4))))), .put 47 (.cell (.d (.sc (.int .u64 m4)))), .put 48 (.cell (.d (.sc (.bool ((sumOf pay : Int) != m4))))), .put 49 (.cell (.d (.sc (.bool ((sumOf pay : Int) != m4)))))] [0, 1, 3, 7, 15, 31, 63, 127, 127, 383, 895, 2047, 4095, 8191, 16383, 16383, 49151, 131071, 262143, 16383, 540671, 2097151, 4194303, 8388607] (by kernel_rfl) (by kernel_rfl) (by kernel_rfl) ⟨fun f => .step1 (by kernel_rfl), fun f => .cast (e := .put 27 (.cell (.d (.sc (.bool ((n : Int) == 0)))))) (.step1 (by kernel_rfl)) (by rw [hs4]), fun f => .step1 (by kernel_rfl), fun f => .stepK (by kernel_rfl), fun f => .cast (e := .put 30 (.cell (.d (.sc (.bool (decide ((n : Int) > 8000))))))) (.stepK (by kernel_rfl)) (by rw [hs5]), fun f => .step1 (by kernel_rfl), fun f => .step1 (by kernel_rfl), fun f => .stepK (by kernel_rfl), fun f => .stepK (by kernel_rfl), fun f => .stepK (by kernel_rfl), fun f => .cast (e := .put 36 (.cell (.d (.sc (.int .i64 (IntKind.wrap .i64 ((rest.size : Int) - 8))))))) (.stepK (by kernel_rfl)) (by rw [w8]), fun f => .cast (e := .put 37 (.cell (.d (.sc (.bool (decide ((n : Int) > ((rest.size : Int) - 8)))))))) (.stepK (by kernel_rfl)) (by rw [hs6]), fun f => .step1 (by kernel_rfl), fun f => .step1 (by kernel_rfl), fun f => .stepK (by kernel_rfl), fun f => .stepK (by kernel_rfl), fun f => .cast (e := .put 42 (.cell (.d (.sc (.int .i64 (IntKind.wrap .i64 (8 + n))))))) (.stepK (by kernel_rfl)) (by rw [w9]), fun f => IEff.qstrSlice (s := rest) (r := pay) (p := 8) (q := (8 + n)) (by kernel_rfl) (by omega) (by omega) (by omega) hpay, fun f => IEff.qpcall (f := 28) (args := [.cell (.d (.sc (.string pay)))]) (by kernel_rfl) (by kernel_rfl) (sum_c pay (by omega)) (by kernel_rfl), fun f => .stepK (by kernel_rfl), fun f => IEff.qslice (e := 1) (n := hd.size) (cs := (bytesD hd.data.toList)) (es := (bytesD ((hd.data.toList.drop 4).take 4))) (p := 4) (q := (hd.size : Int)) (m := 4) (by kernel_rfl) (by omega) (by omega) (by omega) (by omega) (bytesD_sub _ 4 4), fun f => IEff.qpcall (f := 29) (args := [.cell (.d (.sl 1 4 (bytesD ((hd.data.toList.drop 4).take 4))))]) (by kernel_rfl) (by kernel_rfl) sm4 (by kernel_rfl), fun f => .stepK (by kernel_rfl), fun f => .step1 (by kernel_rfl), trivial⟩ (st' := ⟨[(49, .cell (.d (.sc (.bool ((sumOf pay : Int) != m4))))), (48, .cell (.d (.sc (.bool ((sumOf pay : Int) != m4))))), (47, .cell (.d (.sc (.int .u64 m4)))), (46, .cell (.d (.sl 1 4 (bytesD ((hd.data.toList.drop 4).take 4))))), (45, .cell (.d (.sl 1 hd.size (bytesD hd.data.toList)))), (44, .cell (.d (.sc (.int .u64 (sumOf pay))))), (43, .cell (.d (.sc (.string pay)))), (42, .cell (.d (.sc (.int .i64 (8 + n))))), (41, .cell (.d (.sc (.int .i64 n)))), (40, .cell (.d (.sc (.string rest)))), (39, .cell (.d (.sc (.bool false)))), (38, .cell (.d (.sc (.bool false)))), (37, .cell (.d (.sc (.bool false)))), (36, .cell (.d (.sc (.int .i64 ((rest.size : Int) - 8))))), (35, .cell (.d (.sc (.int .i64 (rest.size : Int))))), (34, .cell (.d (.sc (.string rest)))), (33, .cell (.d (.sc (.int .i64 n)))), (32, .cell (.d (.sc (.bool false)))), (31, .cell (.d (.sc (.bool false)))), (30, .cell (.d (.sc (.bool false)))), (29, .cell (.d (.sc (.int .i64 n)))), (28, .cell (.d (.sc (.bool false)))), (27, .cell (.d (.sc (.bool false)))), (26, .cell (.d (.sc (.int .i64 n)))), (0, .cell (.d (.sc (.string b)))), (2, .cell (.own 2)), (3, .cell (.d (.sc (.int .i64 u)))), (5, .cell (.d (.sc (.string rest)))), (6, .cell (.d (.sl 1 hd.size (bytesD hd.data.toList)))), (7, .cell (.d (.sc (.int .i64 n))))], [(2, .arr 9 1 l.length (encS l))]⟩) (by kernel_rfl) ?_
              refine Then.go ?_
              refine AW.cond (b := (sumOf pay : Int) != m4) (by kernel_rfl) (by kernel_rfl) (fun h10 => ?_) (fun h10 => ?_)
              · -- (sumOf pay : Int) != m4 = True
                try simp only [Bool.and_eq_true, Bool.or_eq_true, Bool.and_eq_false_iff, Bool.or_eq_false_iff, decide_eq_true_eq, decide_eq_false_iff_not, beq_iff_eq, bne_iff_ne, ne_eq, Bool.not_eq_true', Bool.not_eq_false', beq_eq_false_iff_ne, bne_eq_false_iff_eq, Decidable.not_not, Int.not_lt, Int.not_le, gt_iff_lt, ge_iff_le] at h10
                refine AW.seq (by kernel_rfl) ?_
                refine AW.region (n := 5) (by kernel_rfl) (by kernel_rfl) ?_
                refine AOps.steps (i := 0) (m := 5) (r := 0) (i' := 5) (st' := ⟨[(4, .cell (.d (.sc (.int .i64 0)))), (3, .cell (.d (.sc (.int .i64 u)))), (2, .cell (.own 2)), (51, .cell (.d (.sc (.int .i64 u)))), (50, .cell (.own 2)), (49, .cell (.d (.sc (.bool ((sumOf pay : Int) != m4))))), (48, .cell (.d (.sc (.bool ((sumOf pay : Int) != m4))))), (47, .cell (.d (.sc (.int .u64 m4)))), (46, .cell (.d (.sl 1 4 (bytesD ((hd.data.toList.drop 4).take 4))))), (45, .cell (.d (.sl 1 hd.size (bytesD hd.data.toList)))), (44, .cell (.d (.sc (.int .u64 (sumOf pay))))), (43, .cell (.d (.sc (.string pay)))), (42, .cell (.d (.sc (.int .i64 (8 + n))))), (41, .cell (.d (.sc (.int .i64 n)))), (40, .cell (.d (.sc (.string rest)))), (39, .cell (.d (.sc (.bool false)))), (38, .cell (.d (.sc (.bool false)))), (37, .cell (.d (.sc (.bool false)))), (36, .cell (.d (.sc (.int .i64 ((rest.size : Int) - 8))))), (35, .cell (.d (.sc (.int .i64 (rest.size : Int))))), (34, .cell (.d (.sc (.string rest)))), (33, .cell (.d (.sc (.int .i64 n)))), (32, .cell (.d (.sc (.bool false)))), (31, .cell (.d (.sc (.bool false)))), (30, .cell (.d (.sc (.bool false)))), (29, .cell (.d (.sc (.int .i64 n)))), (28, .cell (.d (.sc (.bool false)))), (27, .cell (.d (.sc (.bool false)))), (26, .cell (.d (.sc (.int .i64 n)))), (0, .cell (.d (.sc (.string b)))), (5, .cell (.d (.sc (.string rest)))), (6, .cell (.d (.sl 1 hd.size (bytesD hd.data.toList)))), (7, .cell (.d (.sc (.int .i64 n))))], [(2, .arr 9 1 l.length (encS l))]⟩) (by kernel_rfl) rfl rfl ?_
                refine AOps.keep [2, 3, 4] [2] (st' := ⟨[(2, .cell (.own 2)), (3, .cell (.d (.sc (.int .i64 u)))), (4, .cell (.d (.sc (.int .i64 0))))], [(2, .arr 9 1 l.length (encS l))]⟩) (by kernel_rfl) ?_
                refine AOps.done ?_
                refine Then.go ?_
                refine AW.ret (by kernel_rfl) ?_
                refine Then.ret ?_
                refine InBlk.ret ?_
                refine LoopP.ret ?_
                refine InBlk.ret ?_
                refine RetF.of_ret [2] (x := .tup [.cell (.d (.sl 1 l.length (encS l))), .cell (.d (.sc (.int .i64 u))), .cell (.d (.sc (.int .i64 0)))]) (by kernel_rfl) ?_
                refine ⟨(l, u, 0), .inr ⟨by omega, rfl, by omega, hch, fun k hk => ?_⟩, ret_eq rfl, trivial⟩
                obtain ⟨k1, k2, k3, k4, k5⟩ := hk
                dsimp only at k1 k2 k3 k4 k5
                first
                  | omega
                  | (rw [← k4a, hn] at k4; omega)
                  | (rw [← k4a, hn] at k4; subst k4; have e8 : ((8 : Int) + (k : Int)).toNat = 8 + k := (by omega); rw [e8] at hpay; rw [payL b rest pay u.toNat k (by omega) (by simpa using hrest) hpay, ← k4b, hm4] at k5; contradiction)
              · -- (sumOf pay : Int) != m4 = False
                try simp only [Bool.and_eq_true, Bool.or_eq_true, Bool.and_eq_false_iff, Bool.or_eq_false_iff, decide_eq_true_eq, decide_eq_false_iff_not, beq_iff_eq, bne_iff_ne, ne_eq, Bool.not_eq_true', Bool.not_eq_false', beq_eq_false_iff_ne, bne_eq_false_iff_eq, Decidable.not_not, Int.not_lt, Int.not_le, gt_iff_lt, ge_iff_le] at h10
                refine AW.skip (by kernel_rfl) ?_
                refine Then.go ?_
                refine AW.seq (by kernel_rfl) ?_
                refine AW.region (n := 8) (by kernel_rfl) (by kernel_rfl) ?_
                refine AOps.steps (i := 0) (m := 4) (r := 4) (i' := 4) (st' := ⟨[(55, .cell (.d (.sc (.int .i64 (IntKind.wrap .i64 (8 + n)))))), (54, .cell (.d (.sc (.int .i64 n)))), (53, .cell (.d (.sc (.string rest)))), (52, .cell (.own 2)), (49, .cell (.d (.sc (.bool ((sumOf pay : Int) != m4))))), (48, .cell (.d (.sc (.bool ((sumOf pay : Int) != m4))))), (47, .cell (.d (.sc (.int .u64 m4)))), (46, .cell (.d (.sl 1 4 (bytesD ((hd.data.toList.drop 4).take 4))))), (45, .cell (.d (.sl 1 hd.size (bytesD hd.data.toList)))), (44, .cell (.d (.sc (.int .u64 (sumOf pay))))), (43, .cell (.d (.sc (.string pay)))), (42, .cell (.d (.sc (.int .i64 (8 + n))))), (41, .cell (.d (.sc (.int .i64 n)))), (40, .cell (.d (.sc (.string rest)))), (39, .cell (.d (.sc (.bool false)))), (38, .cell (.d (.sc (.bool false)))), (37, .cell (.d (.sc (.bool false)))), (36, .cell (.d (.sc (.int .i64 ((rest.size : Int) - 8))))), (35, .cell (.d (.sc (.int .i64 (rest.size : Int))))), (34, .cell (.d (.sc (.string rest)))), (33, .cell (.d (.sc (.int .i64 n)))), (32, .cell (.d (.sc (.bool false)))), (31, .cell (.d (.sc (.bool false)))), (30, .cell (.d (.sc (.bool false)))), (29, .cell (.d (.sc (.int .i64 n)))), (28, .cell (.d (.sc (.bool false)))), (27, .cell (.d (.sc (.bool false)))), (26, .cell (.d (.sc (.int .i64 n)))), (0, .cell (.d (.sc (.string b)))), (2, .cell (.own 2)), (3, .cell (.d (.sc (.int .i64 u)))), (5, .cell (.d (.sc (.string rest)))), (6, .cell (.d (.sl 1 hd.size (bytesD hd.data.toList)))), (7, .cell (.d (.sc (.int .i64 n))))], [(2, .arr 9 1 l.length (encS l))]⟩) (by kernel_rfl) rfl rfl ?_
                have w11 : IntKind.wrap .i64 (8 + n) = 8 + n := wrap_i64 _ (by omega) (by omega)
                rw [w11]
                clear w11
                obtain ⟨pay2, hpay2⟩ : ∃ r, rest.extract (8 : Int).toNat (8 + n : Int).toNat = r := ⟨_, rfl⟩
                refine AOps.one (i := 4) (r := 3) (i' := 5) (e := .put 56 (.cell (.d (.sc (.string pay2))))) (st' := ⟨[(56, .cell (.d (.sc (.string pay2)))), (55, .cell (.d (.sc (.int .i64 (8 + n))))), (54, .cell (.d (.sc (.int .i64 n)))), (53, .cell (.d (.sc (.string rest)))), (52, .cell (.own 2)), (49, .cell (.d (.sc (.bool ((sumOf pay : Int) != m4))))), (48, .cell (.d (.sc (.bool ((sumOf pay : Int) != m4))))), (47, .cell (.d (.sc (.int .u64 m4)))), (46, .cell (.d (.sl 1 4 (bytesD ((hd.data.toList.drop 4).take 4))))), (45, .cell (.d (.sl 1 hd.size (bytesD hd.data.toList)))), (44, .cell (.d (.sc (.int .u64 (sumOf pay))))), (43, .cell (.d (.sc (.string pay)))), (42, .cell (.d (.sc (.int .i64 (8 + n))))), (41, .cell (.d (.sc (.int .i64 n)))), (40, .cell (.d (.sc (.string rest)))), (39, .cell (.d (.sc (.bool false)))), (38, .cell (.d (.sc (.bool false)))), (37, .cell (.d (.sc (.bool false)))), (36, .cell (.d (.sc (.int .i64 ((rest.size : Int) - 8))))), (35, .cell (.d (.sc (.int .i64 (rest.size : Int))))), (34, .cell (.d (.sc (.string rest)))), (33, .cell (.d (.sc (.int .i64 n)))), (32, .cell (.d (.sc (.bool false)))), (31, .cell (.d (.sc (.bool false)))), (30, .cell (.d (.sc (.bool false)))), (29, .cell (.d (.sc (.int .i64 n)))), (28, .cell (.d (.sc (.bool false)))), (27, .cell (.d (.sc (.bool false)))), (26, .cell (.d (.sc (.int .i64 n)))), (0, .cell (.d (.sc (.string b)))), (2, .cell (.own 2)), (3, .cell (.d (.sc (.int .i64 u)))), (5, .cell (.d (.sc (.string rest)))), (6, .cell (.d (.sl 1 hd.size (bytesD hd.data.toList)))), (7, .cell (.d (.sc (.int .i64 n))))], [(2, .arr 9 1 l.length (encS l))]⟩) (IEff.qstrSlice (s := rest) (r := pay2) (p := 8) (q := (8 + n)) (by kernel_rfl) (by omega) (by omega) (by omega) hpay2) rfl rfl (by kernel_rfl) ?_
                refine AOps.steps (i := 5) (m := 1) (r := 2) (i' := 6) (st' := ⟨[(57, .cell (.own 57)), (56, .cell (.d (.sc (.string pay2)))), (55, .cell (.d (.sc (.int .i64 (8 + n))))), (54, .cell (.d (.sc (.int .i64 n)))), (53, .cell (.d (.sc (.string rest)))), (52, .cell (.own 2)), (49, .cell (.d (.sc (.bool ((sumOf pay : Int) != m4))))), (48, .cell (.d (.sc (.bool ((sumOf pay : Int) != m4))))), (47, .cell (.d (.sc (.int .u64 m4)))), (46, .cell (.d (.sl 1 4 (bytesD ((hd.data.toList.drop 4).take 4))))), (45, .cell (.d (.sl 1 hd.size (bytesD hd.data.toList)))), (44, .cell (.d (.sc (.int .u64 (sumOf pay))))), (43, .cell (.d (.sc (.string pay)))), (42, .cell (.d (.sc (.int .i64 (8 + n))))), (41, .cell (.d (.sc (.int .i64 n)))), (40, .cell (.d (.sc (.string rest)))), (39, .cell (.d (.sc (.bool false)))), (38, .cell (.d (.sc (.bool false)))), (37, .cell (.d (.sc (.bool false)))), (36, .cell (.d (.sc (.int .i64 ((rest.size : Int) - 8))))), (35, .cell (.d (.sc (.int .i64 (rest.size : Int))))), (34, .cell (.d (.sc (.string rest)))), (33, .cell (.d (.sc (.int .i64 n)))), (32, .cell (.d (.sc (.bool false)))), (31, .cell (.d (.sc (.bool false)))), (30, .cell (.d (.sc (.bool false)))), (29, .cell (.d (.sc (.int .i64 n)))), (28, .cell (.d (.sc (.bool false)))), (27, .cell (.d (.sc (.bool false)))), (26, .cell (.d (.sc (.int .i64 n)))), (0, .cell (.d (.sc (.string b)))), (2, .cell (.own 2)), (3, .cell (.d (.sc (.int .i64 u)))), (5, .cell (.d (.sc (.string rest)))), (6, .cell (.d (.sl 1 hd.size (bytesD hd.data.toList)))), (7, .cell (.d (.sc (.int .i64 n))))], [(57, .arr 9 1 1 [.sc (.string pay2)]), (2, .arr 9 1 l.length (encS l))]⟩) (by kernel_rfl) rfl rfl ?_
                refine AOps.one (i := 6) (r := 1) (i' := 7) (e := .new 2 (.arr 9 1 ((l ++ [pay2]).length) (encS (l ++ [pay2]))) 58 (.cell (.own 2))) (st' := ⟨[(58, .cell (.own 2)), (57, .cell (.own 57)), (56, .cell (.d (.sc (.string pay2)))), (55, .cell (.d (.sc (.int .i64 (8 + n))))), (54, .cell (.d (.sc (.int .i64 n)))), (53, .cell (.d (.sc (.string rest)))), (52, .cell (.junk)), (49, .cell (.d (.sc (.bool ((sumOf pay : Int) != m4))))), (48, .cell (.d (.sc (.bool ((sumOf pay : Int) != m4))))), (47, .cell (.d (.sc (.int .u64 m4)))), (46, .cell (.d (.sl 1 4 (bytesD ((hd.data.toList.drop 4).take 4))))), (45, .cell (.d (.sl 1 hd.size (bytesD hd.data.toList)))), (44, .cell (.d (.sc (.int .u64 (sumOf pay))))), (43, .cell (.d (.sc (.string pay)))), (42, .cell (.d (.sc (.int .i64 (8 + n))))), (41, .cell (.d (.sc (.int .i64 n)))), (40, .cell (.d (.sc (.string rest)))), (39, .cell (.d (.sc (.bool false)))), (38, .cell (.d (.sc (.bool false)))), (37, .cell (.d (.sc (.bool false)))), (36, .cell (.d (.sc (.int .i64 ((rest.size : Int) - 8))))), (35, .cell (.d (.sc (.int .i64 (rest.size : Int))))), (34, .cell (.d (.sc (.string rest)))), (33, .cell (.d (.sc (.int .i64 n)))), (32, .cell (.d (.sc (.bool false)))), (31, .cell (.d (.sc (.bool false)))), (30, .cell (.d (.sc (.bool false)))), (29, .cell (.d (.sc (.int .i64 n)))), (28, .cell (.d (.sc (.bool false)))), (27, .cell (.d (.sc (.bool false)))), (26, .cell (.d (.sc (.int .i64 n)))), (0, .cell (.d (.sc (.string b)))), (2, .cell (.junk)), (3, .cell (.d (.sc (.int .i64 u)))), (5, .cell (.d (.sc (.string rest)))), (6, .cell (.d (.sl 1 hd.size (bytesD hd.data.toList)))), (7, .cell (.d (.sc (.int .i64 n))))], [(2, .arr 9 1 ((l ++ [pay2]).length) (encS (l ++ [pay2]))), (57, .arr 9 1 1 [.sc (.string pay2)])]⟩) (IEff.qappend (te := 9) (e := 1) (bytes := 16) (n := l.length) (m := 1) (cs := (encS l)) (ys := [.sc (.string pay2)]) (by kernel_rfl) (ml (by omega)) (by omega) (by simp) (by simp [encS])) rfl rfl (by kernel_rfl) ?_
                refine AOps.steps (i := 7) (m := 1) (r := 0) (i' := 8) (st' := ⟨[(2, .cell (.own 2)), (58, .cell (.own 2)), (57, .cell (.own 57)), (56, .cell (.d (.sc (.string pay2)))), (55, .cell (.d (.sc (.int .i64 (8 + n))))), (54, .cell (.d (.sc (.int .i64 n)))), (53, .cell (.d (.sc (.string rest)))), (52, .cell (.junk)), (49, .cell (.d (.sc (.bool ((sumOf pay : Int) != m4))))), (48, .cell (.d (.sc (.bool ((sumOf pay : Int) != m4))))), (47, .cell (.d (.sc (.int .u64 m4)))), (46, .cell (.d (.sl 1 4 (bytesD ((hd.data.toList.drop 4).take 4))))), (45, .cell (.d (.sl 1 hd.size (bytesD hd.data.toList)))), (44, .cell (.d (.sc (.int .u64 (sumOf pay))))), (43, .cell (.d (.sc (.string pay)))), (42, .cell (.d (.sc (.int .i64 (8 + n))))), (41, .cell (.d (.sc (.int .i64 n)))), (40, .cell (.d (.sc (.string rest)))), (39, .cell (.d (.sc (.bool false)))), (38, .cell (.d (.sc (.bool false)))), (37, .cell (.d (.sc (.bool false)))), (36, .cell (.d (.sc (.int .i64 ((rest.size : Int) - 8))))), (35, .cell (.d (.sc (.int .i64 (rest.size : Int))))), (34, .cell (.d (.sc (.string rest)))), (33, .cell (.d (.sc (.int .i64 n)))), (32, .cell (.d (.sc (.bool false)))), (31, .cell (.d (.sc (.bool false)))), (30, .cell (.d (.sc (.bool false)))), (29, .cell (.d (.sc (.int .i64 n)))), (28, .cell (.d (.sc (.bool false)))), (27, .cell (.d (.sc (.bool false)))), (26, .cell (.d (.sc (.int .i64 n)))), (0, .cell (.d (.sc (.string b)))), (3, .cell (.d (.sc (.int .i64 u)))), (5, .cell (.d (.sc (.string rest)))), (6, .cell (.d (.sl 1 hd.size (bytesD hd.data.toList)))), (7, .cell (.d (.sc (.int .i64 n))))], [(2, .arr 9 1 ((l ++ [pay2]).length) (encS (l ++ [pay2]))), (57, .arr 9 1 1 [.sc (.string pay2)])]⟩) (by kernel_rfl) rfl rfl ?_
                refine AOps.keep [0, 2, 3, 7] [2] (st' := ⟨[(0, .cell (.d (.sc (.string b)))), (2, .cell (.own 2)), (3, .cell (.d (.sc (.int .i64 u)))), (7, .cell (.d (.sc (.int .i64 n))))], [(2, .arr 9 1 ((l ++ [pay2]).length) (encS (l ++ [pay2])))]⟩) (by kernel_rfl) ?_
                refine AOps.done ?_
                refine Then.go ?_
                refine AW.region (n := 5) (by kernel_rfl) (by kernel_rfl) ?_
                refine AOps.steps (i := 0) (m := 5) (r := 0) (i' := 5) (st' := ⟨[(3, .cell (.d (.sc (.int .i64 (IntKind.wrap .i64 (u + (IntKind.wrap .i64 (8 + n)))))))), (62, .cell (.d (.sc (.int .i64 (IntKind.wrap .i64 (u + (IntKind.wrap .i64 (8 + n)))))))), (61, .cell (.d (.sc (.int .i64 (IntKind.wrap .i64 (8 + n)))))), (60, .cell (.d (.sc (.int .i64 n)))), (59, .cell (.d (.sc (.int .i64 u)))), (0, .cell (.d (.sc (.string b)))), (2, .cell (.own 2)), (7, .cell (.d (.sc (.int .i64 n))))], [(2, .arr 9 1 ((l ++ [pay2]).length) (encS (l ++ [pay2])))]⟩) (by kernel_rfl) rfl rfl ?_
                have w12 : IntKind.wrap .i64 (8 + n) = 8 + n := wrap_i64 _ (by omega) (by omega)
                rw [w12]
                clear w12
                have w13 : IntKind.wrap .i64 (u + (8 + n)) = u + (8 + n) := wrap_i64 _ (by omega) (by omega)
                rw [w13]
                clear w13
                refine AOps.keep [0, 2, 3] [2] (st' := ⟨[(0, .cell (.d (.sc (.string b)))), (2, .cell (.own 2)), (3, .cell (.d (.sc (.int .i64 (u + (8 + n))))))], [(2, .arr 9 1 ((l ++ [pay2]).length) (encS (l ++ [pay2])))]⟩) (by kernel_rfl) ?_
                refine AOps.done ?_
                refine InBlk.go ?_
                refine LoopP.go (l ++ [pay2], u + (8 + n)) [0, 2, 3] [2] ?_ ?_ ?_
                · kernel_rfl
                · exact ⟨by omega, by omega, by simp; omega, frames_step b l u n rest hd pay pay2 m4 (by omega) (by omega) hrest hpay hpay2 k4a k4b hn hm4 (by omega) (by omega) (by omega) (by assumption) hch⟩
                · (try dsimp only); omega

end Go.Proofs.YtdngaeekecbgpaaDoor
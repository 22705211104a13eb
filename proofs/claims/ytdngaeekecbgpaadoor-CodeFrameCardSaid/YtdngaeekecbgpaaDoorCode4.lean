/- Walks of the reference of frames. -/
import Derived.Test.YtdngaeekecbgpaaDoorCode2
import Derived.Test.YtdngaeekecbgpaaDoorCodeDefs3
namespace Go.Proofs.YtdngaeekecbgpaaDoor
open Go Esp
set_option maxRecDepth 100000
set_option linter.unusedSimpArgs false
set_option linter.unusedVariables false
noncomputable def C30 : Code := (Tryd.f30.body).getD .skip

theorem high_c (x size : Nat) (hx : x < 18446744073709551616) (hs : size ≤ 8) : PCalls Tryd.prog 30 [.cell (.d (.sc (.int .u64 (x : Int)))), .cell (.d (.sc (.int .i64 (size : Int))))] (.cell (.d (.sc (.string (⟨(numB (x : Int) size).toArray⟩ : ByteArray))))) := by
  refine ACalls.of_AWF (fn := Tryd.f30) (c := C30) (N := 20) (rs := [.tmp 4]) Tryd.func30 (by kernel_rfl) (by kernel_rfl) (by kernel_rfl) (by kernel_rfl) (by kernel_rfl) ?_
  show AW Tryd.prog 20 C30 ⟨[(0, .cell (.d (.sc (.int .u64 (x : Int))))), (1, .cell (.d (.sc (.int .i64 (size : Int)))))], []⟩ _
  refine AW.seq (by kernel_rfl) ?_
  refine AW.region (n := 1) (by kernel_rfl) (by kernel_rfl) ?_
  refine AOps.steps (i := 0) (m := 1) (r := 0) (i' := 1) (st' := ⟨[(4, .cell (.d (.sc (.string (⟨#[]⟩ : ByteArray))))), (0, .cell (.d (.sc (.int .u64 (x : Int))))), (1, .cell (.d (.sc (.int .i64 (size : Int)))))], []⟩) (by kernel_rfl) rfl rfl ?_
  refine AOps.keep [0, 1] [] (st' := ⟨[(0, .cell (.d (.sc (.int .u64 (x : Int))))), (1, .cell (.d (.sc (.int .i64 (size : Int)))))], []⟩) (by kernel_rfl) ?_
  refine AOps.done ?_
  refine Then.go ?_
  refine AW.seq (by kernel_rfl) ?_
  refine AW.region (n := 1) (by kernel_rfl) (by kernel_rfl) ?_
  refine AOps.steps (i := 0) (m := 1) (r := 0) (i' := 1) (st' := ⟨[(5, .cell (.d (.sc (.string (⟨#[]⟩ : ByteArray))))), (0, .cell (.d (.sc (.int .u64 (x : Int))))), (1, .cell (.d (.sc (.int .i64 (size : Int)))))], []⟩) (by kernel_rfl) rfl rfl ?_
  refine AOps.keep [0, 1, 5] [] (st' := ⟨[(0, .cell (.d (.sc (.int .u64 (x : Int))))), (1, .cell (.d (.sc (.int .i64 (size : Int))))), (5, .cell (.d (.sc (.string (⟨#[]⟩ : ByteArray)))))], []⟩) (by kernel_rfl) ?_
  refine AOps.done ?_
  refine Then.go ?_
  refine AW.seq (by kernel_rfl) ?_
  refine AW.seq (by kernel_rfl) ?_
  refine AW.region (n := 2) (by kernel_rfl) (by kernel_rfl) ?_
  refine AOps.steps (i := 0) (m := 2) (r := 0) (i' := 2) (st' := ⟨[(7, .cell (.d (.sc (.int .i64 0)))), (6, .cell (.d (.sc (.int .i64 (size : Int))))), (0, .cell (.d (.sc (.int .u64 (x : Int))))), (1, .cell (.d (.sc (.int .i64 (size : Int))))), (5, .cell (.d (.sc (.string (⟨#[]⟩ : ByteArray)))))], []⟩) (by kernel_rfl) rfl rfl ?_
  refine AOps.keep [0, 5, 6, 7] [] (st' := ⟨[(0, .cell (.d (.sc (.int .u64 (x : Int))))), (5, .cell (.d (.sc (.string (⟨#[]⟩ : ByteArray))))), (6, .cell (.d (.sc (.int .i64 (size : Int))))), (7, .cell (.d (.sc (.int .i64 0))))], []⟩) (by kernel_rfl) ?_
  refine AOps.done ?_
  refine Then.go ?_
  refine AW.block (by kernel_rfl) ?_
  refine AW.keep [0, 5, 6, 7] [] (st' := ⟨[(0, .cell (.d (.sc (.int .u64 (x : Int))))), (5, .cell (.d (.sc (.string (⟨#[]⟩ : ByteArray))))), (6, .cell (.d (.sc (.int .i64 (size : Int))))), (7, .cell (.d (.sc (.int .i64 0))))], []⟩) (by kernel_rfl) ?_
  refine AW.loopJ (α := Nat) (by kernel_rfl) (fun i => (⟨[(0, .cell (.d (.sc (.int .u64 ((x / 256 ^ i : Nat) : Int))))), (5, .cell (.d (.sc (.string (⟨(numB (x : Int) i).toArray⟩ : ByteArray))))), (6, .cell (.d (.sc (.int .i64 (size : Int))))), (7, .cell (.d (.sc (.int .i64 (i : Int)))))], []⟩ : ASt)) (fun i => i ≤ size) (fun i => size - i) 0 ?_ ?_ ?_
  · (rw [show x / 256 ^ 0 = x by simp]; rfl)
  · exact Nat.zero_le _
  · intro i hJ
    skip
    refine AW.seq (by kernel_rfl) ?_
    refine AW.region (n := 1) (by kernel_rfl) (by kernel_rfl) ?_
    refine AOps.steps (i := 0) (m := 1) (r := 0) (i' := 1) (st' := ⟨[(8, .cell (.d (.sc (.bool (decide (((i : Int) : Int) < (size : Int))))))), (0, .cell (.d (.sc (.int .u64 ((x / 256 ^ i : Nat) : Int))))), (5, .cell (.d (.sc (.string (⟨(numB (x : Int) i).toArray⟩ : ByteArray))))), (6, .cell (.d (.sc (.int .i64 (size : Int))))), (7, .cell (.d (.sc (.int .i64 (i : Int)))))], []⟩) (by kernel_rfl) rfl rfl ?_
    refine AOps.keep [0, 5, 6, 7, 8] [] (st' := ⟨[(0, .cell (.d (.sc (.int .u64 ((x / 256 ^ i : Nat) : Int))))), (5, .cell (.d (.sc (.string (⟨(numB (x : Int) i).toArray⟩ : ByteArray))))), (6, .cell (.d (.sc (.int .i64 (size : Int))))), (7, .cell (.d (.sc (.int .i64 (i : Int))))), (8, .cell (.d (.sc (.bool (decide (((i : Int) : Int) < (size : Int)))))))], []⟩) (by kernel_rfl) ?_
    refine AOps.done ?_
    refine Then.go ?_
    refine AW.seq (by kernel_rfl) ?_
    refine AW.cond (b := decide (((i : Int) : Int) < (size : Int))) (by kernel_rfl) (by kernel_rfl) (fun h1 => ?_) (fun h1 => ?_)
    · -- decide (((i : Int) : Int) < (size : Int)) = True
      try simp only [Bool.and_eq_true, Bool.or_eq_true, Bool.and_eq_false_iff, Bool.or_eq_false_iff, decide_eq_true_eq, decide_eq_false_iff_not, beq_iff_eq, bne_iff_ne, ne_eq, Bool.not_eq_true', Bool.not_eq_false', beq_eq_false_iff_ne, bne_eq_false_iff_eq, Decidable.not_not, Int.not_lt, Int.not_le, gt_iff_lt, ge_iff_le] at h1
      refine AW.skip (by kernel_rfl) ?_
      refine Then.go ?_
      refine AW.seq (by kernel_rfl) ?_
      refine AW.block (by kernel_rfl) ?_
      refine AW.seq (by kernel_rfl) ?_
      refine AW.region (n := 8) (by kernel_rfl) (by kernel_rfl) ?_
      refine AOps.steps (i := 0) (m := 4) (r := 4) (i' := 4) (st' := ⟨[(12, .cell (.own 12)), (11, .cell (.d (.sc (.int .u8 (IntKind.wrap .u8 (brem .u64 ((x / 256 ^ i : Nat) : Int) 256)))))), (10, .cell (.d (.sc (.int .u64 (brem .u64 ((x / 256 ^ i : Nat) : Int) 256))))), (9, .cell (.d (.sc (.int .u64 ((x / 256 ^ i : Nat) : Int))))), (0, .cell (.d (.sc (.int .u64 ((x / 256 ^ i : Nat) : Int))))), (5, .cell (.d (.sc (.string (⟨(numB (x : Int) i).toArray⟩ : ByteArray))))), (6, .cell (.d (.sc (.int .i64 (size : Int))))), (7, .cell (.d (.sc (.int .i64 (i : Int))))), (8, .cell (.d (.sc (.bool (decide (((i : Int) : Int) < (size : Int)))))))], [(12, .arr 5 1 1 [.sc (.int .u8 (IntKind.wrap .u8 (brem .u64 ((x / 256 ^ i : Nat) : Int) 256)))])]⟩) (by kernel_rfl) rfl rfl ?_
      refine AOps.freeze 12 (st' := ⟨[(12, .cell (.d (.sl 1 1 [.sc (.int .u8 (IntKind.wrap .u8 (brem .u64 ((x / 256 ^ i : Nat) : Int) 256)))]))), (11, .cell (.d (.sc (.int .u8 (IntKind.wrap .u8 (brem .u64 ((x / 256 ^ i : Nat) : Int) 256)))))), (10, .cell (.d (.sc (.int .u64 (brem .u64 ((x / 256 ^ i : Nat) : Int) 256))))), (9, .cell (.d (.sc (.int .u64 ((x / 256 ^ i : Nat) : Int))))), (0, .cell (.d (.sc (.int .u64 ((x / 256 ^ i : Nat) : Int))))), (5, .cell (.d (.sc (.string (⟨(numB (x : Int) i).toArray⟩ : ByteArray))))), (6, .cell (.d (.sc (.int .i64 (size : Int))))), (7, .cell (.d (.sc (.int .i64 (i : Int))))), (8, .cell (.d (.sc (.bool (decide (((i : Int) : Int) < (size : Int)))))))], [(12, .gone)]⟩) (by kernel_rfl) ?_
      refine AOps.one (i := 4) (r := 3) (i' := 5) (e := .put 13 (.cell (.d (.sc (.string (⟨[byteAt (x : Int) (8 * ((i : Nat) : Int))].toArray⟩ : ByteArray)))))) (st' := ⟨[(13, .cell (.d (.sc (.string (⟨[byteAt (x : Int) (8 * ((i : Nat) : Int))].toArray⟩ : ByteArray))))), (12, .cell (.d (.sl 1 1 [.sc (.int .u8 (IntKind.wrap .u8 (brem .u64 ((x / 256 ^ i : Nat) : Int) 256)))]))), (11, .cell (.d (.sc (.int .u8 (IntKind.wrap .u8 (brem .u64 ((x / 256 ^ i : Nat) : Int) 256)))))), (10, .cell (.d (.sc (.int .u64 (brem .u64 ((x / 256 ^ i : Nat) : Int) 256))))), (9, .cell (.d (.sc (.int .u64 ((x / 256 ^ i : Nat) : Int))))), (0, .cell (.d (.sc (.int .u64 ((x / 256 ^ i : Nat) : Int))))), (5, .cell (.d (.sc (.string (⟨(numB (x : Int) i).toArray⟩ : ByteArray))))), (6, .cell (.d (.sc (.int .i64 (size : Int))))), (7, .cell (.d (.sc (.int .i64 (i : Int))))), (8, .cell (.d (.sc (.bool (decide (((i : Int) : Int) < (size : Int)))))))], [(12, .gone)]⟩) (IEff.qofBytes (n := 1) (cs := [.sc (.int .u8 (IntKind.wrap .u8 (brem .u64 ((x / 256 ^ i : Nat) : Int) 256)))]) (b := [byteAt (x : Int) (8 * ((i : Nat) : Int))]) (r := (⟨[byteAt (x : Int) (8 * ((i : Nat) : Int))].toArray⟩ : ByteArray)) (by kernel_rfl) rfl (by rw [high_byte x i (by omega)]; rfl) rfl) rfl rfl (by kernel_rfl) ?_
      refine AOps.steps (i := 5) (m := 1) (r := 2) (i' := 6) (st' := ⟨[(14, .cell (.d (.sc (.string (⟨(numB (x : Int) i).toArray⟩ : ByteArray))))), (13, .cell (.d (.sc (.string (⟨[byteAt (x : Int) (8 * ((i : Nat) : Int))].toArray⟩ : ByteArray))))), (12, .cell (.d (.sl 1 1 [.sc (.int .u8 (IntKind.wrap .u8 (brem .u64 ((x / 256 ^ i : Nat) : Int) 256)))]))), (11, .cell (.d (.sc (.int .u8 (IntKind.wrap .u8 (brem .u64 ((x / 256 ^ i : Nat) : Int) 256)))))), (10, .cell (.d (.sc (.int .u64 (brem .u64 ((x / 256 ^ i : Nat) : Int) 256))))), (9, .cell (.d (.sc (.int .u64 ((x / 256 ^ i : Nat) : Int))))), (0, .cell (.d (.sc (.int .u64 ((x / 256 ^ i : Nat) : Int))))), (5, .cell (.d (.sc (.string (⟨(numB (x : Int) i).toArray⟩ : ByteArray))))), (6, .cell (.d (.sc (.int .i64 (size : Int))))), (7, .cell (.d (.sc (.int .i64 (i : Int))))), (8, .cell (.d (.sc (.bool (decide (((i : Int) : Int) < (size : Int)))))))], [(12, .gone)]⟩) (by kernel_rfl) rfl rfl ?_
      refine AOps.one (i := 6) (r := 1) (i' := 7) (e := .put 15 (.cell (.d (.sc (.string (⟨(numB (x : Int) (i + 1)).toArray⟩ : ByteArray)))))) (st' := ⟨[(15, .cell (.d (.sc (.string (⟨(numB (x : Int) (i + 1)).toArray⟩ : ByteArray))))), (14, .cell (.d (.sc (.string (⟨(numB (x : Int) i).toArray⟩ : ByteArray))))), (13, .cell (.d (.sc (.string (⟨[byteAt (x : Int) (8 * ((i : Nat) : Int))].toArray⟩ : ByteArray))))), (12, .cell (.d (.sl 1 1 [.sc (.int .u8 (IntKind.wrap .u8 (brem .u64 ((x / 256 ^ i : Nat) : Int) 256)))]))), (11, .cell (.d (.sc (.int .u8 (IntKind.wrap .u8 (brem .u64 ((x / 256 ^ i : Nat) : Int) 256)))))), (10, .cell (.d (.sc (.int .u64 (brem .u64 ((x / 256 ^ i : Nat) : Int) 256))))), (9, .cell (.d (.sc (.int .u64 ((x / 256 ^ i : Nat) : Int))))), (0, .cell (.d (.sc (.int .u64 ((x / 256 ^ i : Nat) : Int))))), (5, .cell (.d (.sc (.string (⟨(numB (x : Int) i).toArray⟩ : ByteArray))))), (6, .cell (.d (.sc (.int .i64 (size : Int))))), (7, .cell (.d (.sc (.int .i64 (i : Int))))), (8, .cell (.d (.sc (.bool (decide (((i : Int) : Int) < (size : Int)))))))], [(12, .gone)]⟩) (IEff.qcat (a := (⟨[byteAt (x : Int) (8 * ((i : Nat) : Int))].toArray⟩ : ByteArray)) (b := (⟨(numB (x : Int) i).toArray⟩ : ByteArray)) (r := (⟨(numB (x : Int) (i + 1)).toArray⟩ : ByteArray)) (by kernel_rfl) (by show 1 + (numB (x : Int) i).length ≤ _; rw [numB_length]; omega) (str_cons _ _)) rfl rfl (by kernel_rfl) ?_
      refine AOps.steps (i := 7) (m := 1) (r := 0) (i' := 8) (st' := ⟨[(5, .cell (.d (.sc (.string (⟨(numB (x : Int) (i + 1)).toArray⟩ : ByteArray))))), (15, .cell (.d (.sc (.string (⟨(numB (x : Int) (i + 1)).toArray⟩ : ByteArray))))), (14, .cell (.d (.sc (.string (⟨(numB (x : Int) i).toArray⟩ : ByteArray))))), (13, .cell (.d (.sc (.string (⟨[byteAt (x : Int) (8 * ((i : Nat) : Int))].toArray⟩ : ByteArray))))), (12, .cell (.d (.sl 1 1 [.sc (.int .u8 (IntKind.wrap .u8 (brem .u64 ((x / 256 ^ i : Nat) : Int) 256)))]))), (11, .cell (.d (.sc (.int .u8 (IntKind.wrap .u8 (brem .u64 ((x / 256 ^ i : Nat) : Int) 256)))))), (10, .cell (.d (.sc (.int .u64 (brem .u64 ((x / 256 ^ i : Nat) : Int) 256))))), (9, .cell (.d (.sc (.int .u64 ((x / 256 ^ i : Nat) : Int))))), (0, .cell (.d (.sc (.int .u64 ((x / 256 ^ i : Nat) : Int))))), (6, .cell (.d (.sc (.int .i64 (size : Int))))), (7, .cell (.d (.sc (.int .i64 (i : Int))))), (8, .cell (.d (.sc (.bool (decide (((i : Int) : Int) < (size : Int)))))))], [(12, .gone)]⟩) (by kernel_rfl) rfl rfl ?_
      refine AOps.keep [0, 5, 6, 7] [] (st' := ⟨[(0, .cell (.d (.sc (.int .u64 ((x / 256 ^ i : Nat) : Int))))), (5, .cell (.d (.sc (.string (⟨(numB (x : Int) (i + 1)).toArray⟩ : ByteArray))))), (6, .cell (.d (.sc (.int .i64 (size : Int))))), (7, .cell (.d (.sc (.int .i64 (i : Int)))))], []⟩) (by kernel_rfl) ?_
      refine AOps.done ?_
      refine Then.go ?_
      refine AW.region (n := 3) (by kernel_rfl) (by kernel_rfl) ?_
      refine AOps.steps (i := 0) (m := 3) (r := 0) (i' := 3) (st' := ⟨[(0, .cell (.d (.sc (.int .u64 (bquo .u64 ((x / 256 ^ i : Nat) : Int) 256))))), (17, .cell (.d (.sc (.int .u64 (bquo .u64 ((x / 256 ^ i : Nat) : Int) 256))))), (16, .cell (.d (.sc (.int .u64 ((x / 256 ^ i : Nat) : Int))))), (5, .cell (.d (.sc (.string (⟨(numB (x : Int) (i + 1)).toArray⟩ : ByteArray))))), (6, .cell (.d (.sc (.int .i64 (size : Int))))), (7, .cell (.d (.sc (.int .i64 (i : Int)))))], []⟩) (by kernel_rfl) rfl rfl ?_
      refine AOps.keep [0, 5, 6, 7] [] (st' := ⟨[(0, .cell (.d (.sc (.int .u64 (bquo .u64 ((x / 256 ^ i : Nat) : Int) 256))))), (5, .cell (.d (.sc (.string (⟨(numB (x : Int) (i + 1)).toArray⟩ : ByteArray))))), (6, .cell (.d (.sc (.int .i64 (size : Int))))), (7, .cell (.d (.sc (.int .i64 (i : Int)))))], []⟩) (by kernel_rfl) ?_
      refine AOps.done ?_
      refine InBlk.go ?_
      refine Then.go ?_
      refine AW.region (n := 2) (by kernel_rfl) (by kernel_rfl) ?_
      refine AOps.steps (i := 0) (m := 2) (r := 0) (i' := 2) (st' := ⟨[(7, .cell (.d (.sc (.int .i64 (IntKind.wrap .i64 ((i : Int) + 1)))))), (18, .cell (.d (.sc (.int .i64 (IntKind.wrap .i64 ((i : Int) + 1)))))), (0, .cell (.d (.sc (.int .u64 (bquo .u64 ((x / 256 ^ i : Nat) : Int) 256))))), (5, .cell (.d (.sc (.string (⟨(numB (x : Int) (i + 1)).toArray⟩ : ByteArray))))), (6, .cell (.d (.sc (.int .i64 (size : Int)))))], []⟩) (by kernel_rfl) rfl rfl ?_
      have w2 : IntKind.wrap .i64 ((i : Int) + 1) = (i : Int) + 1 := wrap_i64 _ (by omega) (by omega)
      rw [w2]
      clear w2
      refine AOps.keep [0, 5, 6, 7] [] (st' := ⟨[(0, .cell (.d (.sc (.int .u64 (bquo .u64 ((x / 256 ^ i : Nat) : Int) 256))))), (5, .cell (.d (.sc (.string (⟨(numB (x : Int) (i + 1)).toArray⟩ : ByteArray))))), (6, .cell (.d (.sc (.int .i64 (size : Int))))), (7, .cell (.d (.sc (.int .i64 ((i : Int) + 1)))))], []⟩) (by kernel_rfl) ?_
      refine AOps.done ?_
      refine LoopP.go (i + 1) [0, 5, 6, 7] [] ?_ ?_ ?_
      · (rw [high_quo x i hx, show ((i : Int) + 1) = ((i + 1 : Nat) : Int) by omega]; show _ = _; kernel_rfl)
      · (try dsimp only); omega
      · (try dsimp only); omega
    · -- decide (((i : Int) : Int) < (size : Int)) = False
      try simp only [Bool.and_eq_true, Bool.or_eq_true, Bool.and_eq_false_iff, Bool.or_eq_false_iff, decide_eq_true_eq, decide_eq_false_iff_not, beq_iff_eq, bne_iff_ne, ne_eq, Bool.not_eq_true', Bool.not_eq_false', beq_eq_false_iff_ne, bne_eq_false_iff_eq, Decidable.not_not, Int.not_lt, Int.not_le, gt_iff_lt, ge_iff_le] at h1
      refine AW.exit (by kernel_rfl) ?_
      refine Then.exit ?_
      refine LoopP.exit ?_
      refine InBlk.exit ?_
      refine Then.go ?_
      refine AW.seq (by kernel_rfl) ?_
      refine AW.region (n := 2) (by kernel_rfl) (by kernel_rfl) ?_
      refine AOps.steps (i := 0) (m := 2) (r := 0) (i' := 2) (st' := ⟨[(4, .cell (.d (.sc (.string (⟨(numB (x : Int) i).toArray⟩ : ByteArray))))), (19, .cell (.d (.sc (.string (⟨(numB (x : Int) i).toArray⟩ : ByteArray))))), (0, .cell (.d (.sc (.int .u64 ((x / 256 ^ i : Nat) : Int))))), (5, .cell (.d (.sc (.string (⟨(numB (x : Int) i).toArray⟩ : ByteArray))))), (6, .cell (.d (.sc (.int .i64 (size : Int))))), (7, .cell (.d (.sc (.int .i64 (i : Int))))), (8, .cell (.d (.sc (.bool (decide (((i : Int) : Int) < (size : Int)))))))], []⟩) (by kernel_rfl) rfl rfl ?_
      refine AOps.keep [4] [] (st' := ⟨[(4, .cell (.d (.sc (.string (⟨(numB (x : Int) i).toArray⟩ : ByteArray)))))], []⟩) (by kernel_rfl) ?_
      refine AOps.done ?_
      refine Then.go ?_
      refine AW.ret (by kernel_rfl) ?_
      refine RetF.of_ret [] (x := .cell (.d (.sc (.string (⟨(numB (x : Int) i).toArray⟩ : ByteArray))))) (by kernel_rfl) ?_
      exact ret_eq (by rw [show i = size by omega])

noncomputable def C31 : Code := (Tryd.f31.body).getD .skip

theorem crcOf_c (b : ByteArray) (hb : b.size ≤ 1099511627776) : PCalls Tryd.prog 31 [.cell (.d (.sc (.string b)))] (.cell (.d (.sc (.int .u32 (bnot .u32 (crcL b.data.toList)))))) := by
  refine ACalls.of_AWF (fn := Tryd.f31) (c := C31) (N := 31) (rs := [.tmp 2]) Tryd.func31 (by kernel_rfl) (by kernel_rfl) (by kernel_rfl) (by kernel_rfl) (by kernel_rfl) ?_
  show AW Tryd.prog 31 C31 ⟨[(0, .cell (.d (.sc (.string b))))], []⟩ _
  refine AW.seq (by kernel_rfl) ?_
  refine AW.region (n := 1) (by kernel_rfl) (by kernel_rfl) ?_
  refine AOps.steps (i := 0) (m := 1) (r := 0) (i' := 1) (st' := ⟨[(2, .cell (.d (.sc (.int .u32 0)))), (0, .cell (.d (.sc (.string b))))], []⟩) (by kernel_rfl) rfl rfl ?_
  refine AOps.keep [0] [] (st' := ⟨[(0, .cell (.d (.sc (.string b))))], []⟩) (by kernel_rfl) ?_
  refine AOps.done ?_
  refine Then.go ?_
  refine AW.seq (by kernel_rfl) ?_
  refine AW.region (n := 1) (by kernel_rfl) (by kernel_rfl) ?_
  refine AOps.steps (i := 0) (m := 1) (r := 0) (i' := 1) (st' := ⟨[(3, .cell (.d (.sc (.int .u32 4294967295)))), (0, .cell (.d (.sc (.string b))))], []⟩) (by kernel_rfl) rfl rfl ?_
  refine AOps.keep [0, 3] [] (st' := ⟨[(0, .cell (.d (.sc (.string b)))), (3, .cell (.d (.sc (.int .u32 4294967295))))], []⟩) (by kernel_rfl) ?_
  refine AOps.done ?_
  refine Then.go ?_
  refine AW.seq (by kernel_rfl) ?_
  refine AW.seq (by kernel_rfl) ?_
  refine AW.region (n := 3) (by kernel_rfl) (by kernel_rfl) ?_
  refine AOps.steps (i := 0) (m := 3) (r := 0) (i' := 3) (st' := ⟨[(8, .cell (.d (.sc (.int .i64 0)))), (7, .cell (.d (.sc (.int .i64 (b.size : Int))))), (6, .cell (.d (.sc (.string b)))), (0, .cell (.d (.sc (.string b)))), (3, .cell (.d (.sc (.int .u32 4294967295))))], []⟩) (by kernel_rfl) rfl rfl ?_
  refine AOps.keep [0, 3, 7, 8] [] (st' := ⟨[(0, .cell (.d (.sc (.string b)))), (3, .cell (.d (.sc (.int .u32 4294967295)))), (7, .cell (.d (.sc (.int .i64 (b.size : Int))))), (8, .cell (.d (.sc (.int .i64 0))))], []⟩) (by kernel_rfl) ?_
  refine AOps.done ?_
  refine Then.go ?_
  refine AW.block (by kernel_rfl) ?_
  refine AW.keep [0, 3, 7, 8] [] (st' := ⟨[(0, .cell (.d (.sc (.string b)))), (3, .cell (.d (.sc (.int .u32 4294967295)))), (7, .cell (.d (.sc (.int .i64 (b.size : Int))))), (8, .cell (.d (.sc (.int .i64 0))))], []⟩) (by kernel_rfl) ?_
  refine AW.loopJ (α := Int) (by kernel_rfl) (fun i => (⟨[(0, .cell (.d (.sc (.string b)))), (3, .cell (.d (.sc (.int .u32 (crcL (b.data.toList.take i.toNat)))))), (7, .cell (.d (.sc (.int .i64 (b.size : Int))))), (8, .cell (.d (.sc (.int .i64 i))))], []⟩ : ASt)) (fun i => 0 ≤ i ∧ i ≤ (b.size : Int)) (fun i => b.size - i.toNat) 0 ?_ ?_ ?_
  · rfl
  · exact ⟨by omega, by omega⟩
  · intro i hJ
    obtain ⟨h0, h1⟩ := hJ
    refine AW.seq (by kernel_rfl) ?_
    refine AW.region (n := 1) (by kernel_rfl) (by kernel_rfl) ?_
    refine AOps.steps (i := 0) (m := 1) (r := 0) (i' := 1) (st' := ⟨[(9, .cell (.d (.sc (.bool (decide ((i : Int) < (b.size : Int))))))), (0, .cell (.d (.sc (.string b)))), (3, .cell (.d (.sc (.int .u32 (crcL (b.data.toList.take i.toNat)))))), (7, .cell (.d (.sc (.int .i64 (b.size : Int))))), (8, .cell (.d (.sc (.int .i64 i))))], []⟩) (by kernel_rfl) rfl rfl ?_
    refine AOps.keep [0, 3, 7, 8, 9] [] (st' := ⟨[(0, .cell (.d (.sc (.string b)))), (3, .cell (.d (.sc (.int .u32 (crcL (b.data.toList.take i.toNat)))))), (7, .cell (.d (.sc (.int .i64 (b.size : Int))))), (8, .cell (.d (.sc (.int .i64 i)))), (9, .cell (.d (.sc (.bool (decide ((i : Int) < (b.size : Int)))))))], []⟩) (by kernel_rfl) ?_
    refine AOps.done ?_
    refine Then.go ?_
    refine AW.seq (by kernel_rfl) ?_
    refine AW.cond (b := decide ((i : Int) < (b.size : Int))) (by kernel_rfl) (by kernel_rfl) (fun h1 => ?_) (fun h1 => ?_)
    · -- decide ((i : Int) < (b.size : Int)) = True
      try simp only [Bool.and_eq_true, Bool.or_eq_true, Bool.and_eq_false_iff, Bool.or_eq_false_iff, decide_eq_true_eq, decide_eq_false_iff_not, beq_iff_eq, bne_iff_ne, ne_eq, Bool.not_eq_true', Bool.not_eq_false', beq_eq_false_iff_ne, bne_eq_false_iff_eq, Decidable.not_not, Int.not_lt, Int.not_le, gt_iff_lt, ge_iff_le] at h1
      refine AW.skip (by kernel_rfl) ?_
      refine Then.go ?_
      refine AW.seq (by kernel_rfl) ?_
      refine AW.block (by kernel_rfl) ?_
      refine AW.seq (by kernel_rfl) ?_
      refine AW.region (n := 2) (by kernel_rfl) (by kernel_rfl) ?_
      refine AOps.steps (i := 0) (m := 2) (r := 0) (i' := 2) (st' := ⟨[(4, .cell (.d (.sc (.int .i64 i)))), (10, .cell (.d (.sc (.int .i64 i)))), (0, .cell (.d (.sc (.string b)))), (3, .cell (.d (.sc (.int .u32 (crcL (b.data.toList.take i.toNat)))))), (7, .cell (.d (.sc (.int .i64 (b.size : Int))))), (8, .cell (.d (.sc (.int .i64 i)))), (9, .cell (.d (.sc (.bool (decide ((i : Int) < (b.size : Int)))))))], []⟩) (by kernel_rfl) rfl rfl ?_
      refine AOps.keep [0, 3, 4, 7, 8] [] (st' := ⟨[(0, .cell (.d (.sc (.string b)))), (3, .cell (.d (.sc (.int .u32 (crcL (b.data.toList.take i.toNat)))))), (4, .cell (.d (.sc (.int .i64 i)))), (7, .cell (.d (.sc (.int .i64 (b.size : Int))))), (8, .cell (.d (.sc (.int .i64 i))))], []⟩) (by kernel_rfl) ?_
      refine AOps.done ?_
      refine Then.go ?_
      refine AW.seq (by kernel_rfl) ?_
      refine AW.region (n := 7) (by kernel_rfl) (by kernel_rfl) ?_
      refine AOps.steps (i := 0) (m := 3) (r := 4) (i' := 3) (st' := ⟨[(13, .cell (.d (.sc (.int .i64 i)))), (12, .cell (.d (.sc (.string b)))), (11, .cell (.d (.sc (.int .u32 (crcL (b.data.toList.take i.toNat)))))), (0, .cell (.d (.sc (.string b)))), (3, .cell (.d (.sc (.int .u32 (crcL (b.data.toList.take i.toNat)))))), (4, .cell (.d (.sc (.int .i64 i)))), (7, .cell (.d (.sc (.int .i64 (b.size : Int))))), (8, .cell (.d (.sc (.int .i64 i))))], []⟩) (by kernel_rfl) rfl rfl ?_
      obtain ⟨b4, hb4⟩ : ∃ b_, b.data.toList[(i).toNat]? = some b_ := str_at (by omega) (by omega)
      refine AOps.one (i := 3) (r := 3) (i' := 4) (e := .put 14 (.cell (.d (.sc (.int .u8 (b4.toNat : Int)))))) (st' := ⟨[(14, .cell (.d (.sc (.int .u8 (b4.toNat : Int))))), (13, .cell (.d (.sc (.int .i64 i)))), (12, .cell (.d (.sc (.string b)))), (11, .cell (.d (.sc (.int .u32 (crcL (b.data.toList.take i.toNat)))))), (0, .cell (.d (.sc (.string b)))), (3, .cell (.d (.sc (.int .u32 (crcL (b.data.toList.take i.toNat)))))), (4, .cell (.d (.sc (.int .i64 i)))), (7, .cell (.d (.sc (.int .i64 (b.size : Int))))), (8, .cell (.d (.sc (.int .i64 i))))], []⟩) (IEff.qstrIndex (s := b) (j := i) (b := b4) (by kernel_rfl) (by omega) hb4) rfl rfl (by kernel_rfl) ?_
      refine AOps.steps (i := 4) (m := 3) (r := 0) (i' := 7) (st' := ⟨[(3, .cell (.d (.sc (.int .u32 (bxor .u32 (crcL (b.data.toList.take i.toNat)) (IntKind.wrap .u32 ((b4.toNat : Int)))))))), (16, .cell (.d (.sc (.int .u32 (bxor .u32 (crcL (b.data.toList.take i.toNat)) (IntKind.wrap .u32 ((b4.toNat : Int)))))))), (15, .cell (.d (.sc (.int .u32 (IntKind.wrap .u32 ((b4.toNat : Int))))))), (14, .cell (.d (.sc (.int .u8 (b4.toNat : Int))))), (13, .cell (.d (.sc (.int .i64 i)))), (12, .cell (.d (.sc (.string b)))), (11, .cell (.d (.sc (.int .u32 (crcL (b.data.toList.take i.toNat)))))), (0, .cell (.d (.sc (.string b)))), (4, .cell (.d (.sc (.int .i64 i)))), (7, .cell (.d (.sc (.int .i64 (b.size : Int))))), (8, .cell (.d (.sc (.int .i64 i))))], []⟩) (by kernel_rfl) rfl rfl ?_
      refine AOps.keep [0, 3, 7, 8] [] (st' := ⟨[(0, .cell (.d (.sc (.string b)))), (3, .cell (.d (.sc (.int .u32 (bxor .u32 (crcL (b.data.toList.take i.toNat)) (IntKind.wrap .u32 ((b4.toNat : Int)))))))), (7, .cell (.d (.sc (.int .i64 (b.size : Int))))), (8, .cell (.d (.sc (.int .i64 i))))], []⟩) (by kernel_rfl) ?_
      refine AOps.done ?_
      refine Then.go ?_
      refine AW.seq (by kernel_rfl) ?_
      refine AW.region (n := 1) (by kernel_rfl) (by kernel_rfl) ?_
      refine AOps.steps (i := 0) (m := 1) (r := 0) (i' := 1) (st' := ⟨[(17, .cell (.d (.sc (.int .i64 0)))), (0, .cell (.d (.sc (.string b)))), (3, .cell (.d (.sc (.int .u32 (bxor .u32 (crcL (b.data.toList.take i.toNat)) (IntKind.wrap .u32 ((b4.toNat : Int)))))))), (7, .cell (.d (.sc (.int .i64 (b.size : Int))))), (8, .cell (.d (.sc (.int .i64 i))))], []⟩) (by kernel_rfl) rfl rfl ?_
      refine AOps.keep [0, 3, 7, 8, 17] [] (st' := ⟨[(0, .cell (.d (.sc (.string b)))), (3, .cell (.d (.sc (.int .u32 (bxor .u32 (crcL (b.data.toList.take i.toNat)) (IntKind.wrap .u32 ((b4.toNat : Int)))))))), (7, .cell (.d (.sc (.int .i64 (b.size : Int))))), (8, .cell (.d (.sc (.int .i64 i)))), (17, .cell (.d (.sc (.int .i64 0))))], []⟩) (by kernel_rfl) ?_
      refine AOps.done ?_
      refine Then.go ?_
      refine AW.block (by kernel_rfl) ?_
      refine AW.keep [0, 3, 7, 8, 17] [] (st' := ⟨[(0, .cell (.d (.sc (.string b)))), (3, .cell (.d (.sc (.int .u32 (bxor .u32 (crcL (b.data.toList.take i.toNat)) (IntKind.wrap .u32 ((b4.toNat : Int)))))))), (7, .cell (.d (.sc (.int .i64 (b.size : Int))))), (8, .cell (.d (.sc (.int .i64 i)))), (17, .cell (.d (.sc (.int .i64 0))))], []⟩) (by kernel_rfl) ?_
      refine AW.loopJ (α := Int) (by kernel_rfl) (fun j => (⟨[(0, .cell (.d (.sc (.string b)))), (3, .cell (.d (.sc (.int .u32 (crcIt j.toNat (bxor .u32 (crcL (b.data.toList.take i.toNat)) (IntKind.wrap .u32 (b4.toNat : Int)))))))), (7, .cell (.d (.sc (.int .i64 (b.size : Int))))), (8, .cell (.d (.sc (.int .i64 i)))), (17, .cell (.d (.sc (.int .i64 j))))], []⟩ : ASt)) (fun j => 0 ≤ j ∧ j ≤ 8) (fun j => 8 - j.toNat) 0 ?_ ?_ ?_
      · rfl
      · exact ⟨by omega, by omega⟩
      · intro j hJ
        obtain ⟨h2, h3⟩ := hJ
        have hrg : ∃ x : Nat, crcIt j.toNat (bxor .u32 (crcL (b.data.toList.take i.toNat)) (IntKind.wrap .u32 (b4.toNat : Int))) = (x : Int) ∧ x < 4294967296 := by (obtain ⟨y, ey, hy⟩ := bxor32_range (crcL (b.data.toList.take i.toNat)) (IntKind.wrap .u32 (b4.toNat : Int)); rw [ey]; exact crcIt_range _ _ hy)
        refine AW.seq (by kernel_rfl) ?_
        refine AW.region (n := 1) (by kernel_rfl) (by kernel_rfl) ?_
        refine AOps.steps (i := 0) (m := 1) (r := 0) (i' := 1) (st' := ⟨[(18, .cell (.d (.sc (.bool (decide ((j : Int) < 8)))))), (0, .cell (.d (.sc (.string b)))), (3, .cell (.d (.sc (.int .u32 (crcIt j.toNat (bxor .u32 (crcL (b.data.toList.take i.toNat)) (IntKind.wrap .u32 (b4.toNat : Int)))))))), (7, .cell (.d (.sc (.int .i64 (b.size : Int))))), (8, .cell (.d (.sc (.int .i64 i)))), (17, .cell (.d (.sc (.int .i64 j))))], []⟩) (by kernel_rfl) rfl rfl ?_
        refine AOps.keep [0, 3, 7, 8, 17, 18] [] (st' := ⟨[(0, .cell (.d (.sc (.string b)))), (3, .cell (.d (.sc (.int .u32 (crcIt j.toNat (bxor .u32 (crcL (b.data.toList.take i.toNat)) (IntKind.wrap .u32 (b4.toNat : Int)))))))), (7, .cell (.d (.sc (.int .i64 (b.size : Int))))), (8, .cell (.d (.sc (.int .i64 i)))), (17, .cell (.d (.sc (.int .i64 j)))), (18, .cell (.d (.sc (.bool (decide ((j : Int) < 8))))))], []⟩) (by kernel_rfl) ?_
        refine AOps.done ?_
        refine Then.go ?_
        refine AW.seq (by kernel_rfl) ?_
        refine AW.cond (b := decide ((j : Int) < 8)) (by kernel_rfl) (by kernel_rfl) (fun h2 => ?_) (fun h2 => ?_)
        · -- decide ((j : Int) < 8) = True
          try simp only [Bool.and_eq_true, Bool.or_eq_true, Bool.and_eq_false_iff, Bool.or_eq_false_iff, decide_eq_true_eq, decide_eq_false_iff_not, beq_iff_eq, bne_iff_ne, ne_eq, Bool.not_eq_true', Bool.not_eq_false', beq_eq_false_iff_ne, bne_eq_false_iff_eq, Decidable.not_not, Int.not_lt, Int.not_le, gt_iff_lt, ge_iff_le] at h2
          refine AW.skip (by kernel_rfl) ?_
          refine Then.go ?_
          refine AW.seq (by kernel_rfl) ?_
          refine AW.block (by kernel_rfl) ?_
          refine AW.seq (by kernel_rfl) ?_
          refine AW.region (n := 3) (by kernel_rfl) (by kernel_rfl) ?_
          refine AOps.steps (i := 0) (m := 3) (r := 0) (i' := 3) (st' := ⟨[(5, .cell (.d (.sc (.int .u32 (brem .u32 (crcIt j.toNat (bxor .u32 (crcL (b.data.toList.take i.toNat)) (IntKind.wrap .u32 (b4.toNat : Int)))) 2))))), (20, .cell (.d (.sc (.int .u32 (brem .u32 (crcIt j.toNat (bxor .u32 (crcL (b.data.toList.take i.toNat)) (IntKind.wrap .u32 (b4.toNat : Int)))) 2))))), (19, .cell (.d (.sc (.int .u32 (crcIt j.toNat (bxor .u32 (crcL (b.data.toList.take i.toNat)) (IntKind.wrap .u32 (b4.toNat : Int)))))))), (0, .cell (.d (.sc (.string b)))), (3, .cell (.d (.sc (.int .u32 (crcIt j.toNat (bxor .u32 (crcL (b.data.toList.take i.toNat)) (IntKind.wrap .u32 (b4.toNat : Int)))))))), (7, .cell (.d (.sc (.int .i64 (b.size : Int))))), (8, .cell (.d (.sc (.int .i64 i)))), (17, .cell (.d (.sc (.int .i64 j)))), (18, .cell (.d (.sc (.bool (decide ((j : Int) < 8))))))], []⟩) (by kernel_rfl) rfl rfl ?_
          refine AOps.keep [0, 3, 5, 7, 8, 17] [] (st' := ⟨[(0, .cell (.d (.sc (.string b)))), (3, .cell (.d (.sc (.int .u32 (crcIt j.toNat (bxor .u32 (crcL (b.data.toList.take i.toNat)) (IntKind.wrap .u32 (b4.toNat : Int)))))))), (5, .cell (.d (.sc (.int .u32 (brem .u32 (crcIt j.toNat (bxor .u32 (crcL (b.data.toList.take i.toNat)) (IntKind.wrap .u32 (b4.toNat : Int)))) 2))))), (7, .cell (.d (.sc (.int .i64 (b.size : Int))))), (8, .cell (.d (.sc (.int .i64 i)))), (17, .cell (.d (.sc (.int .i64 j))))], []⟩) (by kernel_rfl) ?_
          refine AOps.done ?_
          refine Then.go ?_
          refine AW.seq (by kernel_rfl) ?_
          refine AW.region (n := 3) (by kernel_rfl) (by kernel_rfl) ?_
          refine AOps.steps (i := 0) (m := 3) (r := 0) (i' := 3) (st' := ⟨[(3, .cell (.d (.sc (.int .u32 (bquo .u32 (crcIt j.toNat (bxor .u32 (crcL (b.data.toList.take i.toNat)) (IntKind.wrap .u32 (b4.toNat : Int)))) 2))))), (22, .cell (.d (.sc (.int .u32 (bquo .u32 (crcIt j.toNat (bxor .u32 (crcL (b.data.toList.take i.toNat)) (IntKind.wrap .u32 (b4.toNat : Int)))) 2))))), (21, .cell (.d (.sc (.int .u32 (crcIt j.toNat (bxor .u32 (crcL (b.data.toList.take i.toNat)) (IntKind.wrap .u32 (b4.toNat : Int)))))))), (0, .cell (.d (.sc (.string b)))), (5, .cell (.d (.sc (.int .u32 (brem .u32 (crcIt j.toNat (bxor .u32 (crcL (b.data.toList.take i.toNat)) (IntKind.wrap .u32 (b4.toNat : Int)))) 2))))), (7, .cell (.d (.sc (.int .i64 (b.size : Int))))), (8, .cell (.d (.sc (.int .i64 i)))), (17, .cell (.d (.sc (.int .i64 j))))], []⟩) (by kernel_rfl) rfl rfl ?_
          refine AOps.keep [0, 3, 5, 7, 8, 17] [] (st' := ⟨[(0, .cell (.d (.sc (.string b)))), (3, .cell (.d (.sc (.int .u32 (bquo .u32 (crcIt j.toNat (bxor .u32 (crcL (b.data.toList.take i.toNat)) (IntKind.wrap .u32 (b4.toNat : Int)))) 2))))), (5, .cell (.d (.sc (.int .u32 (brem .u32 (crcIt j.toNat (bxor .u32 (crcL (b.data.toList.take i.toNat)) (IntKind.wrap .u32 (b4.toNat : Int)))) 2))))), (7, .cell (.d (.sc (.int .i64 (b.size : Int))))), (8, .cell (.d (.sc (.int .i64 i)))), (17, .cell (.d (.sc (.int .i64 j))))], []⟩) (by kernel_rfl) ?_
          refine AOps.done ?_
          refine Then.go ?_
          refine AW.seq (by kernel_rfl) ?_
          refine AW.region (n := 2) (by kernel_rfl) (by kernel_rfl) ?_
          refine AOps.steps (i := 0) (m := 2) (r := 0) (i' := 2) (st' := ⟨[(24, .cell (.d (.sc (.bool ((brem .u32 (crcIt j.toNat (bxor .u32 (crcL (b.data.toList.take i.toNat)) (IntKind.wrap .u32 (b4.toNat : Int)))) 2 : Int) == 1))))), (23, .cell (.d (.sc (.int .u32 (brem .u32 (crcIt j.toNat (bxor .u32 (crcL (b.data.toList.take i.toNat)) (IntKind.wrap .u32 (b4.toNat : Int)))) 2))))), (0, .cell (.d (.sc (.string b)))), (3, .cell (.d (.sc (.int .u32 (bquo .u32 (crcIt j.toNat (bxor .u32 (crcL (b.data.toList.take i.toNat)) (IntKind.wrap .u32 (b4.toNat : Int)))) 2))))), (5, .cell (.d (.sc (.int .u32 (brem .u32 (crcIt j.toNat (bxor .u32 (crcL (b.data.toList.take i.toNat)) (IntKind.wrap .u32 (b4.toNat : Int)))) 2))))), (7, .cell (.d (.sc (.int .i64 (b.size : Int))))), (8, .cell (.d (.sc (.int .i64 i)))), (17, .cell (.d (.sc (.int .i64 j))))], []⟩) (by kernel_rfl) rfl rfl ?_
          refine AOps.keep [0, 3, 7, 8, 17, 24] [] (st' := ⟨[(0, .cell (.d (.sc (.string b)))), (3, .cell (.d (.sc (.int .u32 (bquo .u32 (crcIt j.toNat (bxor .u32 (crcL (b.data.toList.take i.toNat)) (IntKind.wrap .u32 (b4.toNat : Int)))) 2))))), (7, .cell (.d (.sc (.int .i64 (b.size : Int))))), (8, .cell (.d (.sc (.int .i64 i)))), (17, .cell (.d (.sc (.int .i64 j)))), (24, .cell (.d (.sc (.bool ((brem .u32 (crcIt j.toNat (bxor .u32 (crcL (b.data.toList.take i.toNat)) (IntKind.wrap .u32 (b4.toNat : Int)))) 2 : Int) == 1)))))], []⟩) (by kernel_rfl) ?_
          refine AOps.done ?_
          refine Then.go ?_
          refine AW.cond (b := (brem .u32 (crcIt j.toNat (bxor .u32 (crcL (b.data.toList.take i.toNat)) (IntKind.wrap .u32 (b4.toNat : Int)))) 2 : Int) == 1) (by kernel_rfl) (by kernel_rfl) (fun h3 => ?_) (fun h3 => ?_)
          · -- (brem .u32 (crcIt j.toNat (bxor .u32 (crcL (b.data.toList.take i.toNat)) (IntKin = True
            try simp only [Bool.and_eq_true, Bool.or_eq_true, Bool.and_eq_false_iff, Bool.or_eq_false_iff, decide_eq_true_eq, decide_eq_false_iff_not, beq_iff_eq, bne_iff_ne, ne_eq, Bool.not_eq_true', Bool.not_eq_false', beq_eq_false_iff_ne, bne_eq_false_iff_eq, Decidable.not_not, Int.not_lt, Int.not_le, gt_iff_lt, ge_iff_le] at h3
            refine AW.region (n := 3) (by kernel_rfl) (by kernel_rfl) ?_
            refine AOps.steps (i := 0) (m := 3) (r := 0) (i' := 3) (st' := ⟨[(3, .cell (.d (.sc (.int .u32 (bxor .u32 (bquo .u32 (crcIt j.toNat (bxor .u32 (crcL (b.data.toList.take i.toNat)) (IntKind.wrap .u32 (b4.toNat : Int)))) 2) 3988292384))))), (26, .cell (.d (.sc (.int .u32 (bxor .u32 (bquo .u32 (crcIt j.toNat (bxor .u32 (crcL (b.data.toList.take i.toNat)) (IntKind.wrap .u32 (b4.toNat : Int)))) 2) 3988292384))))), (25, .cell (.d (.sc (.int .u32 (bquo .u32 (crcIt j.toNat (bxor .u32 (crcL (b.data.toList.take i.toNat)) (IntKind.wrap .u32 (b4.toNat : Int)))) 2))))), (0, .cell (.d (.sc (.string b)))), (7, .cell (.d (.sc (.int .i64 (b.size : Int))))), (8, .cell (.d (.sc (.int .i64 i)))), (17, .cell (.d (.sc (.int .i64 j)))), (24, .cell (.d (.sc (.bool ((brem .u32 (crcIt j.toNat (bxor .u32 (crcL (b.data.toList.take i.toNat)) (IntKind.wrap .u32 (b4.toNat : Int)))) 2 : Int) == 1)))))], []⟩) (by kernel_rfl) rfl rfl ?_
            refine AOps.keep [0, 3, 7, 8, 17] [] (st' := ⟨[(0, .cell (.d (.sc (.string b)))), (3, .cell (.d (.sc (.int .u32 (bxor .u32 (bquo .u32 (crcIt j.toNat (bxor .u32 (crcL (b.data.toList.take i.toNat)) (IntKind.wrap .u32 (b4.toNat : Int)))) 2) 3988292384))))), (7, .cell (.d (.sc (.int .i64 (b.size : Int))))), (8, .cell (.d (.sc (.int .i64 i)))), (17, .cell (.d (.sc (.int .i64 j))))], []⟩) (by kernel_rfl) ?_
            refine AOps.done ?_
            refine InBlk.go ?_
            refine Then.go ?_
            refine AW.region (n := 2) (by kernel_rfl) (by kernel_rfl) ?_
            refine AOps.steps (i := 0) (m := 2) (r := 0) (i' := 2) (st' := ⟨[(17, .cell (.d (.sc (.int .i64 (IntKind.wrap .i64 (j + 1)))))), (27, .cell (.d (.sc (.int .i64 (IntKind.wrap .i64 (j + 1)))))), (0, .cell (.d (.sc (.string b)))), (3, .cell (.d (.sc (.int .u32 (bxor .u32 (bquo .u32 (crcIt j.toNat (bxor .u32 (crcL (b.data.toList.take i.toNat)) (IntKind.wrap .u32 (b4.toNat : Int)))) 2) 3988292384))))), (7, .cell (.d (.sc (.int .i64 (b.size : Int))))), (8, .cell (.d (.sc (.int .i64 i))))], []⟩) (by kernel_rfl) rfl rfl ?_
            have w4 : IntKind.wrap .i64 (j + 1) = j + 1 := wrap_i64 _ (by omega) (by omega)
            rw [w4]
            clear w4
            refine AOps.keep [0, 3, 7, 8, 17] [] (st' := ⟨[(0, .cell (.d (.sc (.string b)))), (3, .cell (.d (.sc (.int .u32 (bxor .u32 (bquo .u32 (crcIt j.toNat (bxor .u32 (crcL (b.data.toList.take i.toNat)) (IntKind.wrap .u32 (b4.toNat : Int)))) 2) 3988292384))))), (7, .cell (.d (.sc (.int .i64 (b.size : Int))))), (8, .cell (.d (.sc (.int .i64 i)))), (17, .cell (.d (.sc (.int .i64 (j + 1)))))], []⟩) (by kernel_rfl) ?_
            refine AOps.done ?_
            refine LoopP.go (j + 1) [0, 3, 7, 8, 17] [] ?_ ?_ ?_
            · (rw [show (j + 1).toNat = j.toNat + 1 by omega]; rw [show bxor .u32 (bquo .u32 (crcIt j.toNat (bxor .u32 (crcL (b.data.toList.take i.toNat)) (IntKind.wrap .u32 (b4.toNat : Int)))) 2) 3988292384 = crcIt (j.toNat + 1) (bxor .u32 (crcL (b.data.toList.take i.toNat)) (IntKind.wrap .u32 (b4.toNat : Int))) from crc_odd _ hrg (by assumption)]; show _ = _; kernel_rfl)
            · exact ⟨by omega, by omega⟩
            · (try dsimp only); omega
          · -- (brem .u32 (crcIt j.toNat (bxor .u32 (crcL (b.data.toList.take i.toNat)) (IntKin = False
            try simp only [Bool.and_eq_true, Bool.or_eq_true, Bool.and_eq_false_iff, Bool.or_eq_false_iff, decide_eq_true_eq, decide_eq_false_iff_not, beq_iff_eq, bne_iff_ne, ne_eq, Bool.not_eq_true', Bool.not_eq_false', beq_eq_false_iff_ne, bne_eq_false_iff_eq, Decidable.not_not, Int.not_lt, Int.not_le, gt_iff_lt, ge_iff_le] at h3
            refine AW.skip (by kernel_rfl) ?_
            refine InBlk.go ?_
            refine Then.go ?_
            refine AW.region (n := 2) (by kernel_rfl) (by kernel_rfl) ?_
            refine AOps.steps (i := 0) (m := 2) (r := 0) (i' := 2) (st' := ⟨[(17, .cell (.d (.sc (.int .i64 (IntKind.wrap .i64 (j + 1)))))), (27, .cell (.d (.sc (.int .i64 (IntKind.wrap .i64 (j + 1)))))), (0, .cell (.d (.sc (.string b)))), (3, .cell (.d (.sc (.int .u32 (bquo .u32 (crcIt j.toNat (bxor .u32 (crcL (b.data.toList.take i.toNat)) (IntKind.wrap .u32 (b4.toNat : Int)))) 2))))), (7, .cell (.d (.sc (.int .i64 (b.size : Int))))), (8, .cell (.d (.sc (.int .i64 i)))), (24, .cell (.d (.sc (.bool ((brem .u32 (crcIt j.toNat (bxor .u32 (crcL (b.data.toList.take i.toNat)) (IntKind.wrap .u32 (b4.toNat : Int)))) 2 : Int) == 1)))))], []⟩) (by kernel_rfl) rfl rfl ?_
            have w5 : IntKind.wrap .i64 (j + 1) = j + 1 := wrap_i64 _ (by omega) (by omega)
            rw [w5]
            clear w5
            refine AOps.keep [0, 3, 7, 8, 17] [] (st' := ⟨[(0, .cell (.d (.sc (.string b)))), (3, .cell (.d (.sc (.int .u32 (bquo .u32 (crcIt j.toNat (bxor .u32 (crcL (b.data.toList.take i.toNat)) (IntKind.wrap .u32 (b4.toNat : Int)))) 2))))), (7, .cell (.d (.sc (.int .i64 (b.size : Int))))), (8, .cell (.d (.sc (.int .i64 i)))), (17, .cell (.d (.sc (.int .i64 (j + 1)))))], []⟩) (by kernel_rfl) ?_
            refine AOps.done ?_
            refine LoopP.go (j + 1) [0, 3, 7, 8, 17] [] ?_ ?_ ?_
            · (rw [show (j + 1).toNat = j.toNat + 1 by omega]; rw [show bquo .u32 (crcIt j.toNat (bxor .u32 (crcL (b.data.toList.take i.toNat)) (IntKind.wrap .u32 (b4.toNat : Int)))) 2 = crcIt (j.toNat + 1) (bxor .u32 (crcL (b.data.toList.take i.toNat)) (IntKind.wrap .u32 (b4.toNat : Int))) from crc_even _ hrg (by assumption)]; show _ = _; kernel_rfl)
            · exact ⟨by omega, by omega⟩
            · (try dsimp only); omega
        · -- decide ((j : Int) < 8) = False
          try simp only [Bool.and_eq_true, Bool.or_eq_true, Bool.and_eq_false_iff, Bool.or_eq_false_iff, decide_eq_true_eq, decide_eq_false_iff_not, beq_iff_eq, bne_iff_ne, ne_eq, Bool.not_eq_true', Bool.not_eq_false', beq_eq_false_iff_ne, bne_eq_false_iff_eq, Decidable.not_not, Int.not_lt, Int.not_le, gt_iff_lt, ge_iff_le] at h2
          refine AW.exit (by kernel_rfl) ?_
          refine Then.exit ?_
          refine LoopP.exit ?_
          refine InBlk.exit ?_
          refine InBlk.go ?_
          refine Then.go ?_
          refine AW.region (n := 2) (by kernel_rfl) (by kernel_rfl) ?_
          refine AOps.steps (i := 0) (m := 2) (r := 0) (i' := 2) (st' := ⟨[(8, .cell (.d (.sc (.int .i64 (IntKind.wrap .i64 (i + 1)))))), (28, .cell (.d (.sc (.int .i64 (IntKind.wrap .i64 (i + 1)))))), (0, .cell (.d (.sc (.string b)))), (3, .cell (.d (.sc (.int .u32 (crcIt j.toNat (bxor .u32 (crcL (b.data.toList.take i.toNat)) (IntKind.wrap .u32 (b4.toNat : Int)))))))), (7, .cell (.d (.sc (.int .i64 (b.size : Int))))), (17, .cell (.d (.sc (.int .i64 j)))), (18, .cell (.d (.sc (.bool (decide ((j : Int) < 8))))))], []⟩) (by kernel_rfl) rfl rfl ?_
          have w6 : IntKind.wrap .i64 (i + 1) = i + 1 := wrap_i64 _ (by omega) (by omega)
          rw [w6]
          clear w6
          refine AOps.keep [0, 3, 7, 8] [] (st' := ⟨[(0, .cell (.d (.sc (.string b)))), (3, .cell (.d (.sc (.int .u32 (crcIt j.toNat (bxor .u32 (crcL (b.data.toList.take i.toNat)) (IntKind.wrap .u32 (b4.toNat : Int)))))))), (7, .cell (.d (.sc (.int .i64 (b.size : Int))))), (8, .cell (.d (.sc (.int .i64 (i + 1)))))], []⟩) (by kernel_rfl) ?_
          refine AOps.done ?_
          refine LoopP.go (i + 1) [0, 3, 7, 8] [] ?_ ?_ ?_
          · (have e9 : crcL (b.data.toList.take (i + 1).toNat) = crcIt j.toNat (bxor .u32 (crcL (b.data.toList.take i.toNat)) (IntKind.wrap .u32 (b4.toNat : Int))) := (by rw [show (i + 1).toNat = i.toNat + 1 by omega, crcL_succ hb4, show j.toNat = 8 by omega]; rfl); rw [e9]; show _ = _; kernel_rfl)
          · exact ⟨by omega, by omega⟩
          · (try dsimp only); omega
    · -- decide ((i : Int) < (b.size : Int)) = False
      try simp only [Bool.and_eq_true, Bool.or_eq_true, Bool.and_eq_false_iff, Bool.or_eq_false_iff, decide_eq_true_eq, decide_eq_false_iff_not, beq_iff_eq, bne_iff_ne, ne_eq, Bool.not_eq_true', Bool.not_eq_false', beq_eq_false_iff_ne, bne_eq_false_iff_eq, Decidable.not_not, Int.not_lt, Int.not_le, gt_iff_lt, ge_iff_le] at h1
      refine AW.exit (by kernel_rfl) ?_
      refine Then.exit ?_
      refine LoopP.exit ?_
      refine InBlk.exit ?_
      refine Then.go ?_
      refine AW.seq (by kernel_rfl) ?_
      refine AW.region (n := 3) (by kernel_rfl) (by kernel_rfl) ?_
      refine AOps.steps (i := 0) (m := 3) (r := 0) (i' := 3) (st' := ⟨[(2, .cell (.d (.sc (.int .u32 (bnot .u32 (crcL (b.data.toList.take i.toNat))))))), (30, .cell (.d (.sc (.int .u32 (bnot .u32 (crcL (b.data.toList.take i.toNat))))))), (29, .cell (.d (.sc (.int .u32 (crcL (b.data.toList.take i.toNat)))))), (0, .cell (.d (.sc (.string b)))), (3, .cell (.d (.sc (.int .u32 (crcL (b.data.toList.take i.toNat)))))), (7, .cell (.d (.sc (.int .i64 (b.size : Int))))), (8, .cell (.d (.sc (.int .i64 i)))), (9, .cell (.d (.sc (.bool (decide ((i : Int) < (b.size : Int)))))))], []⟩) (by kernel_rfl) rfl rfl ?_
      refine AOps.keep [2] [] (st' := ⟨[(2, .cell (.d (.sc (.int .u32 (bnot .u32 (crcL (b.data.toList.take i.toNat)))))))], []⟩) (by kernel_rfl) ?_
      refine AOps.done ?_
      refine Then.go ?_
      refine AW.ret (by kernel_rfl) ?_
      refine RetF.of_ret [] (x := .cell (.d (.sc (.int .u32 (bnot .u32 (crcL (b.data.toList.take i.toNat))))))) (by kernel_rfl) ?_
      exact ret_eq (by rw [show i.toNat = b.data.toList.length by (have : b.data.toList.length = b.size := (by rw [Array.length_toList]; rfl)); omega, List.take_length])

noncomputable def C32 : Code := (Tryd.f32.body).getD .skip

theorem ofHigh_c (b : ByteArray) (hb : b.size ≤ 8) : PCalls Tryd.prog 32 [.cell (.d (.sc (.string b)))] (.cell (.d (.sc (.int .u64 (numOf b.data.toList))))) := by
  refine ACalls.of_AWF (fn := Tryd.f32) (c := C32) (N := 19) (rs := [.tmp 2]) Tryd.func32 (by kernel_rfl) (by kernel_rfl) (by kernel_rfl) (by kernel_rfl) (by kernel_rfl) ?_
  show AW Tryd.prog 19 C32 ⟨[(0, .cell (.d (.sc (.string b))))], []⟩ _
  refine AW.seq (by kernel_rfl) ?_
  refine AW.region (n := 1) (by kernel_rfl) (by kernel_rfl) ?_
  refine AOps.steps (i := 0) (m := 1) (r := 0) (i' := 1) (st' := ⟨[(2, .cell (.d (.sc (.int .u64 0)))), (0, .cell (.d (.sc (.string b))))], []⟩) (by kernel_rfl) rfl rfl ?_
  refine AOps.keep [0] [] (st' := ⟨[(0, .cell (.d (.sc (.string b))))], []⟩) (by kernel_rfl) ?_
  refine AOps.done ?_
  refine Then.go ?_
  refine AW.seq (by kernel_rfl) ?_
  refine AW.region (n := 1) (by kernel_rfl) (by kernel_rfl) ?_
  refine AOps.steps (i := 0) (m := 1) (r := 0) (i' := 1) (st' := ⟨[(3, .cell (.d (.sc (.int .u64 0)))), (0, .cell (.d (.sc (.string b))))], []⟩) (by kernel_rfl) rfl rfl ?_
  refine AOps.keep [0, 3] [] (st' := ⟨[(0, .cell (.d (.sc (.string b)))), (3, .cell (.d (.sc (.int .u64 0))))], []⟩) (by kernel_rfl) ?_
  refine AOps.done ?_
  refine Then.go ?_
  refine AW.seq (by kernel_rfl) ?_
  refine AW.seq (by kernel_rfl) ?_
  refine AW.region (n := 3) (by kernel_rfl) (by kernel_rfl) ?_
  refine AOps.steps (i := 0) (m := 3) (r := 0) (i' := 3) (st' := ⟨[(7, .cell (.d (.sc (.int .i64 0)))), (6, .cell (.d (.sc (.int .i64 (b.size : Int))))), (5, .cell (.d (.sc (.string b)))), (0, .cell (.d (.sc (.string b)))), (3, .cell (.d (.sc (.int .u64 0))))], []⟩) (by kernel_rfl) rfl rfl ?_
  refine AOps.keep [0, 3, 6, 7] [] (st' := ⟨[(0, .cell (.d (.sc (.string b)))), (3, .cell (.d (.sc (.int .u64 0)))), (6, .cell (.d (.sc (.int .i64 (b.size : Int))))), (7, .cell (.d (.sc (.int .i64 0))))], []⟩) (by kernel_rfl) ?_
  refine AOps.done ?_
  refine Then.go ?_
  refine AW.block (by kernel_rfl) ?_
  refine AW.keep [0, 3, 6, 7] [] (st' := ⟨[(0, .cell (.d (.sc (.string b)))), (3, .cell (.d (.sc (.int .u64 0)))), (6, .cell (.d (.sc (.int .i64 (b.size : Int))))), (7, .cell (.d (.sc (.int .i64 0))))], []⟩) (by kernel_rfl) ?_
  refine AW.loopJ (α := Int) (by kernel_rfl) (fun i => (⟨[(0, .cell (.d (.sc (.string b)))), (3, .cell (.d (.sc (.int .u64 (numOf (b.data.toList.take i.toNat)))))), (6, .cell (.d (.sc (.int .i64 (b.size : Int))))), (7, .cell (.d (.sc (.int .i64 i))))], []⟩ : ASt)) (fun i => 0 ≤ i ∧ i ≤ (b.size : Int)) (fun i => b.size - i.toNat) 0 ?_ ?_ ?_
  · rfl
  · exact ⟨by omega, by omega⟩
  · intro i hJ
    obtain ⟨h0, h1⟩ := hJ
    refine AW.seq (by kernel_rfl) ?_
    refine AW.region (n := 1) (by kernel_rfl) (by kernel_rfl) ?_
    refine AOps.steps (i := 0) (m := 1) (r := 0) (i' := 1) (st' := ⟨[(8, .cell (.d (.sc (.bool (decide ((i : Int) < (b.size : Int))))))), (0, .cell (.d (.sc (.string b)))), (3, .cell (.d (.sc (.int .u64 (numOf (b.data.toList.take i.toNat)))))), (6, .cell (.d (.sc (.int .i64 (b.size : Int))))), (7, .cell (.d (.sc (.int .i64 i))))], []⟩) (by kernel_rfl) rfl rfl ?_
    refine AOps.keep [0, 3, 6, 7, 8] [] (st' := ⟨[(0, .cell (.d (.sc (.string b)))), (3, .cell (.d (.sc (.int .u64 (numOf (b.data.toList.take i.toNat)))))), (6, .cell (.d (.sc (.int .i64 (b.size : Int))))), (7, .cell (.d (.sc (.int .i64 i)))), (8, .cell (.d (.sc (.bool (decide ((i : Int) < (b.size : Int)))))))], []⟩) (by kernel_rfl) ?_
    refine AOps.done ?_
    refine Then.go ?_
    refine AW.seq (by kernel_rfl) ?_
    refine AW.cond (b := decide ((i : Int) < (b.size : Int))) (by kernel_rfl) (by kernel_rfl) (fun h1 => ?_) (fun h1 => ?_)
    · -- decide ((i : Int) < (b.size : Int)) = True
      try simp only [Bool.and_eq_true, Bool.or_eq_true, Bool.and_eq_false_iff, Bool.or_eq_false_iff, decide_eq_true_eq, decide_eq_false_iff_not, beq_iff_eq, bne_iff_ne, ne_eq, Bool.not_eq_true', Bool.not_eq_false', beq_eq_false_iff_ne, bne_eq_false_iff_eq, Decidable.not_not, Int.not_lt, Int.not_le, gt_iff_lt, ge_iff_le] at h1
      refine AW.skip (by kernel_rfl) ?_
      refine Then.go ?_
      refine AW.seq (by kernel_rfl) ?_
      refine AW.block (by kernel_rfl) ?_
      refine AW.seq (by kernel_rfl) ?_
      refine AW.region (n := 2) (by kernel_rfl) (by kernel_rfl) ?_
      refine AOps.steps (i := 0) (m := 2) (r := 0) (i' := 2) (st' := ⟨[(4, .cell (.d (.sc (.int .i64 i)))), (9, .cell (.d (.sc (.int .i64 i)))), (0, .cell (.d (.sc (.string b)))), (3, .cell (.d (.sc (.int .u64 (numOf (b.data.toList.take i.toNat)))))), (6, .cell (.d (.sc (.int .i64 (b.size : Int))))), (7, .cell (.d (.sc (.int .i64 i)))), (8, .cell (.d (.sc (.bool (decide ((i : Int) < (b.size : Int)))))))], []⟩) (by kernel_rfl) rfl rfl ?_
      refine AOps.keep [0, 3, 4, 6, 7] [] (st' := ⟨[(0, .cell (.d (.sc (.string b)))), (3, .cell (.d (.sc (.int .u64 (numOf (b.data.toList.take i.toNat)))))), (4, .cell (.d (.sc (.int .i64 i)))), (6, .cell (.d (.sc (.int .i64 (b.size : Int))))), (7, .cell (.d (.sc (.int .i64 i))))], []⟩) (by kernel_rfl) ?_
      refine AOps.done ?_
      refine Then.go ?_
      refine AW.region (n := 8) (by kernel_rfl) (by kernel_rfl) ?_
      refine AOps.steps (i := 0) (m := 4) (r := 4) (i' := 4) (st' := ⟨[(13, .cell (.d (.sc (.int .i64 i)))), (12, .cell (.d (.sc (.string b)))), (11, .cell (.d (.sc (.int .u64 (IntKind.wrap .u64 (256 * (numOf (b.data.toList.take i.toNat)))))))), (10, .cell (.d (.sc (.int .u64 (numOf (b.data.toList.take i.toNat)))))), (0, .cell (.d (.sc (.string b)))), (3, .cell (.d (.sc (.int .u64 (numOf (b.data.toList.take i.toNat)))))), (4, .cell (.d (.sc (.int .i64 i)))), (6, .cell (.d (.sc (.int .i64 (b.size : Int))))), (7, .cell (.d (.sc (.int .i64 i))))], []⟩) (by kernel_rfl) rfl rfl ?_
      obtain ⟨c4, hc4⟩ : ∃ b_, b.data.toList[(i).toNat]? = some b_ := str_at (by omega) (by omega)
      refine AOps.one (i := 4) (r := 3) (i' := 5) (e := .put 14 (.cell (.d (.sc (.int .u8 (c4.toNat : Int)))))) (st' := ⟨[(14, .cell (.d (.sc (.int .u8 (c4.toNat : Int))))), (13, .cell (.d (.sc (.int .i64 i)))), (12, .cell (.d (.sc (.string b)))), (11, .cell (.d (.sc (.int .u64 (IntKind.wrap .u64 (256 * (numOf (b.data.toList.take i.toNat)))))))), (10, .cell (.d (.sc (.int .u64 (numOf (b.data.toList.take i.toNat)))))), (0, .cell (.d (.sc (.string b)))), (3, .cell (.d (.sc (.int .u64 (numOf (b.data.toList.take i.toNat)))))), (4, .cell (.d (.sc (.int .i64 i)))), (6, .cell (.d (.sc (.int .i64 (b.size : Int))))), (7, .cell (.d (.sc (.int .i64 i))))], []⟩) (IEff.qstrIndex (s := b) (j := i) (b := c4) (by kernel_rfl) (by omega) hc4) rfl rfl (by kernel_rfl) ?_
      refine AOps.steps (i := 5) (m := 3) (r := 0) (i' := 8) (st' := ⟨[(3, .cell (.d (.sc (.int .u64 (IntKind.wrap .u64 ((IntKind.wrap .u64 (256 * (numOf (b.data.toList.take i.toNat)))) + (IntKind.wrap .u64 ((c4.toNat : Int))))))))), (16, .cell (.d (.sc (.int .u64 (IntKind.wrap .u64 ((IntKind.wrap .u64 (256 * (numOf (b.data.toList.take i.toNat)))) + (IntKind.wrap .u64 ((c4.toNat : Int))))))))), (15, .cell (.d (.sc (.int .u64 (IntKind.wrap .u64 ((c4.toNat : Int))))))), (14, .cell (.d (.sc (.int .u8 (c4.toNat : Int))))), (13, .cell (.d (.sc (.int .i64 i)))), (12, .cell (.d (.sc (.string b)))), (11, .cell (.d (.sc (.int .u64 (IntKind.wrap .u64 (256 * (numOf (b.data.toList.take i.toNat)))))))), (10, .cell (.d (.sc (.int .u64 (numOf (b.data.toList.take i.toNat)))))), (0, .cell (.d (.sc (.string b)))), (4, .cell (.d (.sc (.int .i64 i)))), (6, .cell (.d (.sc (.int .i64 (b.size : Int))))), (7, .cell (.d (.sc (.int .i64 i))))], []⟩) (by kernel_rfl) rfl rfl ?_
      refine AOps.keep [0, 3, 6, 7] [] (st' := ⟨[(0, .cell (.d (.sc (.string b)))), (3, .cell (.d (.sc (.int .u64 (IntKind.wrap .u64 ((IntKind.wrap .u64 (256 * (numOf (b.data.toList.take i.toNat)))) + (IntKind.wrap .u64 ((c4.toNat : Int))))))))), (6, .cell (.d (.sc (.int .i64 (b.size : Int))))), (7, .cell (.d (.sc (.int .i64 i))))], []⟩) (by kernel_rfl) ?_
      refine AOps.done ?_
      refine InBlk.go ?_
      refine Then.go ?_
      refine AW.region (n := 2) (by kernel_rfl) (by kernel_rfl) ?_
      refine AOps.steps (i := 0) (m := 2) (r := 0) (i' := 2) (st' := ⟨[(7, .cell (.d (.sc (.int .i64 (IntKind.wrap .i64 (i + 1)))))), (17, .cell (.d (.sc (.int .i64 (IntKind.wrap .i64 (i + 1)))))), (0, .cell (.d (.sc (.string b)))), (3, .cell (.d (.sc (.int .u64 (IntKind.wrap .u64 ((IntKind.wrap .u64 (256 * (numOf (b.data.toList.take i.toNat)))) + (IntKind.wrap .u64 ((c4.toNat : Int))))))))), (6, .cell (.d (.sc (.int .i64 (b.size : Int)))))], []⟩) (by kernel_rfl) rfl rfl ?_
      have w2 : IntKind.wrap .i64 (i + 1) = i + 1 := wrap_i64 _ (by omega) (by omega)
      rw [w2]
      clear w2
      refine AOps.keep [0, 3, 6, 7] [] (st' := ⟨[(0, .cell (.d (.sc (.string b)))), (3, .cell (.d (.sc (.int .u64 (IntKind.wrap .u64 ((IntKind.wrap .u64 (256 * (numOf (b.data.toList.take i.toNat)))) + (IntKind.wrap .u64 ((c4.toNat : Int))))))))), (6, .cell (.d (.sc (.int .i64 (b.size : Int))))), (7, .cell (.d (.sc (.int .i64 (i + 1)))))], []⟩) (by kernel_rfl) ?_
      refine AOps.done ?_
      refine LoopP.go (i + 1) [0, 3, 6, 7] [] ?_ ?_ ?_
      · (have e9 : numOf (b.data.toList.take (i + 1).toNat) = IntKind.wrap .u64 (IntKind.wrap .u64 (256 * numOf (b.data.toList.take i.toNat)) + IntKind.wrap .u64 (c4.toNat : Int)) := (by rw [show (i + 1).toNat = i.toNat + 1 by omega, numOf_take hc4, numOf_step _ _ (numOf_small _ (by rw [List.length_take]; omega))]); rw [e9]; show _ = _; kernel_rfl)
      · exact ⟨by omega, by omega⟩
      · (try dsimp only); omega
    · -- decide ((i : Int) < (b.size : Int)) = False
      try simp only [Bool.and_eq_true, Bool.or_eq_true, Bool.and_eq_false_iff, Bool.or_eq_false_iff, decide_eq_true_eq, decide_eq_false_iff_not, beq_iff_eq, bne_iff_ne, ne_eq, Bool.not_eq_true', Bool.not_eq_false', beq_eq_false_iff_ne, bne_eq_false_iff_eq, Decidable.not_not, Int.not_lt, Int.not_le, gt_iff_lt, ge_iff_le] at h1
      refine AW.exit (by kernel_rfl) ?_
      refine Then.exit ?_
      refine LoopP.exit ?_
      refine InBlk.exit ?_
      refine Then.go ?_
      refine AW.seq (by kernel_rfl) ?_
      refine AW.region (n := 2) (by kernel_rfl) (by kernel_rfl) ?_
      refine AOps.steps (i := 0) (m := 2) (r := 0) (i' := 2) (st' := ⟨[(2, .cell (.d (.sc (.int .u64 (numOf (b.data.toList.take i.toNat)))))), (18, .cell (.d (.sc (.int .u64 (numOf (b.data.toList.take i.toNat)))))), (0, .cell (.d (.sc (.string b)))), (3, .cell (.d (.sc (.int .u64 (numOf (b.data.toList.take i.toNat)))))), (6, .cell (.d (.sc (.int .i64 (b.size : Int))))), (7, .cell (.d (.sc (.int .i64 i)))), (8, .cell (.d (.sc (.bool (decide ((i : Int) < (b.size : Int)))))))], []⟩) (by kernel_rfl) rfl rfl ?_
      refine AOps.keep [2] [] (st' := ⟨[(2, .cell (.d (.sc (.int .u64 (numOf (b.data.toList.take i.toNat))))))], []⟩) (by kernel_rfl) ?_
      refine AOps.done ?_
      refine Then.go ?_
      refine AW.ret (by kernel_rfl) ?_
      refine RetF.of_ret [] (x := .cell (.d (.sc (.int .u64 (numOf (b.data.toList.take i.toNat)))))) (by kernel_rfl) ?_
      exact ret_eq (by rw [show i.toNat = b.data.toList.length by (have : b.data.toList.length = b.size := (by rw [Array.length_toList]; rfl)); omega, List.take_length])

noncomputable def C15 : Code := (Tryd.f15.body).getD .skip

theorem FrameOf_c (b : ByteArray) (hb : b.size ≤ 8000) : PCalls Tryd.prog 15 [.cell (.d (.sc (.string b)))] (.cell (.d (.sc (.string (frameOf b))))) := by
  refine ACalls.of_AWF (fn := Tryd.f15) (c := C15) (N := 14) (rs := [.tmp 2]) Tryd.func15 (by kernel_rfl) (by kernel_rfl) (by kernel_rfl) (by kernel_rfl) (by kernel_rfl) ?_
  show AW Tryd.prog 14 C15 ⟨[(0, .cell (.d (.sc (.string b))))], []⟩ _
  refine AW.seq (by kernel_rfl) ?_
  refine AW.region (n := 1) (by kernel_rfl) (by kernel_rfl) ?_
  refine AOps.steps (i := 0) (m := 1) (r := 0) (i' := 1) (st' := ⟨[(2, .cell (.d (.sc (.string (⟨#[]⟩ : ByteArray))))), (0, .cell (.d (.sc (.string b))))], []⟩) (by kernel_rfl) rfl rfl ?_
  refine AOps.keep [0] [] (st' := ⟨[(0, .cell (.d (.sc (.string b))))], []⟩) (by kernel_rfl) ?_
  refine AOps.done ?_
  refine Then.go ?_
  refine AW.seq (by kernel_rfl) ?_
  refine AW.region (n := 12) (by kernel_rfl) (by kernel_rfl) ?_
  refine AOps.steps (i := 0) (m := 3) (r := 9) (i' := 3) (st' := ⟨[(5, .cell (.d (.sc (.int .u64 (IntKind.wrap .u64 ((b.size : Int))))))), (4, .cell (.d (.sc (.int .i64 (b.size : Int))))), (3, .cell (.d (.sc (.string b)))), (0, .cell (.d (.sc (.string b))))], []⟩) (by kernel_rfl) rfl rfl ?_
  have sp1 := high_c b.size 4 (by omega) (by omega)
  rw [← u64_nat b.size (by omega)] at sp1
  refine AOps.one (i := 3) (r := 8) (i' := 4) (e := .put 6 (.cell (.d (.sc (.string (⟨(numB (IntKind.wrap .u64 (b.size : Int)) 4).toArray⟩ : ByteArray)))))) (st' := ⟨[(6, .cell (.d (.sc (.string (⟨(numB (IntKind.wrap .u64 (b.size : Int)) 4).toArray⟩ : ByteArray))))), (5, .cell (.d (.sc (.int .u64 (IntKind.wrap .u64 ((b.size : Int))))))), (4, .cell (.d (.sc (.int .i64 (b.size : Int))))), (3, .cell (.d (.sc (.string b)))), (0, .cell (.d (.sc (.string b))))], []⟩) (IEff.qpcall (f := 30) (args := [.cell (.d (.sc (.int .u64 (IntKind.wrap .u64 ((b.size : Int)))))), .cell (.d (.sc (.int .i64 4)))]) (by kernel_rfl) (by kernel_rfl) sp1 (by kernel_rfl)) rfl rfl (by kernel_rfl) ?_
  refine AOps.steps (i := 4) (m := 1) (r := 7) (i' := 5) (st' := ⟨[(7, .cell (.d (.sc (.string b)))), (6, .cell (.d (.sc (.string (⟨(numB (IntKind.wrap .u64 (b.size : Int)) 4).toArray⟩ : ByteArray))))), (5, .cell (.d (.sc (.int .u64 (IntKind.wrap .u64 ((b.size : Int))))))), (4, .cell (.d (.sc (.int .i64 (b.size : Int))))), (3, .cell (.d (.sc (.string b)))), (0, .cell (.d (.sc (.string b))))], []⟩) (by kernel_rfl) rfl rfl ?_
  refine AOps.one (i := 5) (r := 6) (i' := 6) (e := .put 8 (.cell (.d (.sc (.int .u32 (bnot .u32 (crcL b.data.toList))))))) (st' := ⟨[(8, .cell (.d (.sc (.int .u32 (bnot .u32 (crcL b.data.toList)))))), (7, .cell (.d (.sc (.string b)))), (6, .cell (.d (.sc (.string (⟨(numB (IntKind.wrap .u64 (b.size : Int)) 4).toArray⟩ : ByteArray))))), (5, .cell (.d (.sc (.int .u64 (IntKind.wrap .u64 ((b.size : Int))))))), (4, .cell (.d (.sc (.int .i64 (b.size : Int))))), (3, .cell (.d (.sc (.string b)))), (0, .cell (.d (.sc (.string b))))], []⟩) (IEff.qpcall (f := 31) (args := [.cell (.d (.sc (.string b)))]) (by kernel_rfl) (by kernel_rfl) (crcOf_c b (by omega)) (by kernel_rfl)) rfl rfl (by kernel_rfl) ?_
  refine AOps.steps (i := 6) (m := 1) (r := 5) (i' := 7) (st' := ⟨[(9, .cell (.d (.sc (.int .u64 (IntKind.wrap .u64 (bnot .u32 (crcL b.data.toList))))))), (8, .cell (.d (.sc (.int .u32 (bnot .u32 (crcL b.data.toList)))))), (7, .cell (.d (.sc (.string b)))), (6, .cell (.d (.sc (.string (⟨(numB (IntKind.wrap .u64 (b.size : Int)) 4).toArray⟩ : ByteArray))))), (5, .cell (.d (.sc (.int .u64 (IntKind.wrap .u64 ((b.size : Int))))))), (4, .cell (.d (.sc (.int .i64 (b.size : Int))))), (3, .cell (.d (.sc (.string b)))), (0, .cell (.d (.sc (.string b))))], []⟩) (by kernel_rfl) rfl rfl ?_
  obtain ⟨sx, hsx, hsl⟩ := sumOf_range b
  have sp2 := high_c sx 4 (by omega) (by omega)
  rw [← hsx] at sp2
  refine AOps.one (i := 7) (r := 4) (i' := 8) (e := .put 10 (.cell (.d (.sc (.string (⟨(numB (sumOf b) 4).toArray⟩ : ByteArray)))))) (st' := ⟨[(10, .cell (.d (.sc (.string (⟨(numB (sumOf b) 4).toArray⟩ : ByteArray))))), (9, .cell (.d (.sc (.int .u64 (IntKind.wrap .u64 (bnot .u32 (crcL b.data.toList))))))), (8, .cell (.d (.sc (.int .u32 (bnot .u32 (crcL b.data.toList)))))), (7, .cell (.d (.sc (.string b)))), (6, .cell (.d (.sc (.string (⟨(numB (IntKind.wrap .u64 (b.size : Int)) 4).toArray⟩ : ByteArray))))), (5, .cell (.d (.sc (.int .u64 (IntKind.wrap .u64 ((b.size : Int))))))), (4, .cell (.d (.sc (.int .i64 (b.size : Int))))), (3, .cell (.d (.sc (.string b)))), (0, .cell (.d (.sc (.string b))))], []⟩) (IEff.qpcall (f := 30) (args := [.cell (.d (.sc (.int .u64 (IntKind.wrap .u64 (bnot .u32 (crcL b.data.toList)))))), .cell (.d (.sc (.int .i64 4)))]) (by kernel_rfl) (by kernel_rfl) sp2 (by kernel_rfl)) rfl rfl (by kernel_rfl) ?_
  refine AOps.one (i := 8) (r := 3) (i' := 9) (e := .put 11 (.cell (.d (.sc (.string (⟨(headOf b).toArray⟩ : ByteArray)))))) (st' := ⟨[(11, .cell (.d (.sc (.string (⟨(headOf b).toArray⟩ : ByteArray))))), (10, .cell (.d (.sc (.string (⟨(numB (sumOf b) 4).toArray⟩ : ByteArray))))), (9, .cell (.d (.sc (.int .u64 (IntKind.wrap .u64 (bnot .u32 (crcL b.data.toList))))))), (8, .cell (.d (.sc (.int .u32 (bnot .u32 (crcL b.data.toList)))))), (7, .cell (.d (.sc (.string b)))), (6, .cell (.d (.sc (.string (⟨(numB (IntKind.wrap .u64 (b.size : Int)) 4).toArray⟩ : ByteArray))))), (5, .cell (.d (.sc (.int .u64 (IntKind.wrap .u64 ((b.size : Int))))))), (4, .cell (.d (.sc (.int .i64 (b.size : Int))))), (3, .cell (.d (.sc (.string b)))), (0, .cell (.d (.sc (.string b))))], []⟩) (IEff.qcat (a := (⟨(numB (IntKind.wrap .u64 (b.size : Int)) 4).toArray⟩ : ByteArray)) (b := (⟨(numB (sumOf b) 4).toArray⟩ : ByteArray)) (r := (⟨(headOf b).toArray⟩ : ByteArray)) (by kernel_rfl) (by show (numB _ 4).length + (numB _ 4).length ≤ _; rw [numB_length, numB_length]; omega) (str_app _ _)) rfl rfl (by kernel_rfl) ?_
  refine AOps.steps (i := 9) (m := 1) (r := 2) (i' := 10) (st' := ⟨[(12, .cell (.d (.sc (.string b)))), (11, .cell (.d (.sc (.string (⟨(headOf b).toArray⟩ : ByteArray))))), (10, .cell (.d (.sc (.string (⟨(numB (sumOf b) 4).toArray⟩ : ByteArray))))), (9, .cell (.d (.sc (.int .u64 (IntKind.wrap .u64 (bnot .u32 (crcL b.data.toList))))))), (8, .cell (.d (.sc (.int .u32 (bnot .u32 (crcL b.data.toList)))))), (7, .cell (.d (.sc (.string b)))), (6, .cell (.d (.sc (.string (⟨(numB (IntKind.wrap .u64 (b.size : Int)) 4).toArray⟩ : ByteArray))))), (5, .cell (.d (.sc (.int .u64 (IntKind.wrap .u64 ((b.size : Int))))))), (4, .cell (.d (.sc (.int .i64 (b.size : Int))))), (3, .cell (.d (.sc (.string b)))), (0, .cell (.d (.sc (.string b))))], []⟩) (by kernel_rfl) rfl rfl ?_
  refine AOps.one (i := 10) (r := 1) (i' := 11) (e := .put 13 (.cell (.d (.sc (.string (frameOf b)))))) (st' := ⟨[(13, .cell (.d (.sc (.string (frameOf b))))), (12, .cell (.d (.sc (.string b)))), (11, .cell (.d (.sc (.string (⟨(headOf b).toArray⟩ : ByteArray))))), (10, .cell (.d (.sc (.string (⟨(numB (sumOf b) 4).toArray⟩ : ByteArray))))), (9, .cell (.d (.sc (.int .u64 (IntKind.wrap .u64 (bnot .u32 (crcL b.data.toList))))))), (8, .cell (.d (.sc (.int .u32 (bnot .u32 (crcL b.data.toList)))))), (7, .cell (.d (.sc (.string b)))), (6, .cell (.d (.sc (.string (⟨(numB (IntKind.wrap .u64 (b.size : Int)) 4).toArray⟩ : ByteArray))))), (5, .cell (.d (.sc (.int .u64 (IntKind.wrap .u64 ((b.size : Int))))))), (4, .cell (.d (.sc (.int .i64 (b.size : Int))))), (3, .cell (.d (.sc (.string b)))), (0, .cell (.d (.sc (.string b))))], []⟩) (IEff.qcat (a := (⟨(headOf b).toArray⟩ : ByteArray)) (b := b) (r := (frameOf b)) (by kernel_rfl) (by have h9 : (⟨(headOf b).toArray⟩ : ByteArray).size = 8 := headOf_length b; omega) rfl) rfl rfl (by kernel_rfl) ?_
  refine AOps.steps (i := 11) (m := 1) (r := 0) (i' := 12) (st' := ⟨[(2, .cell (.d (.sc (.string (frameOf b))))), (13, .cell (.d (.sc (.string (frameOf b))))), (12, .cell (.d (.sc (.string b)))), (11, .cell (.d (.sc (.string (⟨(headOf b).toArray⟩ : ByteArray))))), (10, .cell (.d (.sc (.string (⟨(numB (sumOf b) 4).toArray⟩ : ByteArray))))), (9, .cell (.d (.sc (.int .u64 (IntKind.wrap .u64 (bnot .u32 (crcL b.data.toList))))))), (8, .cell (.d (.sc (.int .u32 (bnot .u32 (crcL b.data.toList)))))), (7, .cell (.d (.sc (.string b)))), (6, .cell (.d (.sc (.string (⟨(numB (IntKind.wrap .u64 (b.size : Int)) 4).toArray⟩ : ByteArray))))), (5, .cell (.d (.sc (.int .u64 (IntKind.wrap .u64 ((b.size : Int))))))), (4, .cell (.d (.sc (.int .i64 (b.size : Int))))), (3, .cell (.d (.sc (.string b)))), (0, .cell (.d (.sc (.string b))))], []⟩) (by kernel_rfl) rfl rfl ?_
  refine AOps.keep [2] [] (st' := ⟨[(2, .cell (.d (.sc (.string (frameOf b)))))], []⟩) (by kernel_rfl) ?_
  refine AOps.done ?_
  refine Then.go ?_
  refine AW.ret (by kernel_rfl) ?_
  refine RetF.of_ret [] (x := .cell (.d (.sc (.string (frameOf b))))) (by kernel_rfl) ?_
  exact ret_eq rfl

noncomputable def C16 : Code := (Tryd.f16.body).getD .skip

theorem FramesOf_c (b : ByteArray) (hb : b.size ≤ 16000) : ACalls Tryd.prog 16 [.cell (.d (.sc (.string b)))] [] (ER (α := List ByteArray × Int) (fun ⟨l, u⟩ => 0 ≤ u ∧ Chain b l u.toNat ∧ ∀ n, ¬ isF b u.toNat n) (fun ⟨l, u⟩ => .tup [.cell (.d (.sl 1 l.length (encS l))), .cell (.d (.sc (.int .i64 u)))]) (fun ⟨l, u⟩ => [])) := by
  refine ACalls.of_AWF (fn := Tryd.f16) (c := C16) (N := 71) (rs := [.tmp 2, .tmp 3]) Tryd.func16 (by kernel_rfl) (by kernel_rfl) (by kernel_rfl) (by kernel_rfl) (by kernel_rfl) ?_
  show AW Tryd.prog 71 C16 ⟨[(0, .cell (.d (.sc (.string b))))], []⟩ _
  refine AW.seq (by kernel_rfl) ?_
  refine AW.region (n := 2) (by kernel_rfl) (by kernel_rfl) ?_
  refine AOps.steps (i := 0) (m := 2) (r := 0) (i' := 2) (st' := ⟨[(3, .cell (.d (.sc (.int .i64 0)))), (2, .cell (.d (.sc (.slice none 0 0)))), (0, .cell (.d (.sc (.string b))))], []⟩) (by kernel_rfl) rfl rfl ?_
  refine AOps.keep [0, 2, 3] [] (st' := ⟨[(0, .cell (.d (.sc (.string b)))), (2, .cell (.d (.sc (.slice none 0 0)))), (3, .cell (.d (.sc (.int .i64 0))))], []⟩) (by kernel_rfl) ?_
  refine AOps.done ?_
  refine Then.go ?_
  refine AW.seq (by kernel_rfl) ?_
  refine AW.seq (by kernel_rfl) ?_
  refine AW.region (n := 5) (by kernel_rfl) (by kernel_rfl) ?_
  refine AOps.steps (i := 0) (m := 5) (r := 0) (i' := 5) (st' := ⟨[(4, .cell (.d (.sc (.int .i64 (IntKind.wrap .i64 ((b.size : Int) - 0)))))), (9, .cell (.d (.sc (.int .i64 (IntKind.wrap .i64 ((b.size : Int) - 0)))))), (8, .cell (.d (.sc (.int .i64 0)))), (7, .cell (.d (.sc (.int .i64 (b.size : Int))))), (6, .cell (.d (.sc (.string b)))), (0, .cell (.d (.sc (.string b)))), (2, .cell (.d (.sc (.slice none 0 0)))), (3, .cell (.d (.sc (.int .i64 0))))], []⟩) (by kernel_rfl) rfl rfl ?_
  have w1 : IntKind.wrap .i64 ((b.size : Int) - 0) = (b.size : Int) - 0 := wrap_i64 _ (by omega) (by omega)
  rw [w1]
  clear w1
  refine AOps.keep [0, 2, 3, 4] [] (st' := ⟨[(0, .cell (.d (.sc (.string b)))), (2, .cell (.d (.sc (.slice none 0 0)))), (3, .cell (.d (.sc (.int .i64 0)))), (4, .cell (.d (.sc (.int .i64 ((b.size : Int) - 0)))))], []⟩) (by kernel_rfl) ?_
  refine AOps.done ?_
  refine Then.go ?_
  refine AW.block (by kernel_rfl) ?_
  refine AW.adopt 2 2 9 1 (by kernel_rfl) (by kernel_rfl) (st' := ⟨[(2, .cell (.own 2)), (0, .cell (.d (.sc (.string b)))), (3, .cell (.d (.sc (.int .i64 0)))), (4, .cell (.d (.sc (.int .i64 ((b.size : Int) - 0)))))], [(2, .arr 9 1 0 [])]⟩) (by kernel_rfl) ?_
  refine AW.keep [0, 2, 3, 4] [2] (st' := ⟨[(0, .cell (.d (.sc (.string b)))), (2, .cell (.own 2)), (3, .cell (.d (.sc (.int .i64 0)))), (4, .cell (.d (.sc (.int .i64 ((b.size : Int) - 0)))))], [(2, .arr 9 1 0 [])]⟩) (by kernel_rfl) ?_
  refine AW.loopJ (α := List ByteArray × Int) (by kernel_rfl) (fun ⟨l, u⟩ => (⟨[(0, .cell (.d (.sc (.string b)))), (2, .cell (.own 2)), (3, .cell (.d (.sc (.int .i64 u)))), (4, .cell (.d (.sc (.int .i64 ((b.size : Int) - u)))))], [(2, .arr 9 1 l.length (encS l))]⟩ : ASt)) (fun ⟨l, u⟩ => 0 ≤ u ∧ u ≤ (b.size : Int) ∧ (l.length : Int) ≤ u ∧ Chain b l u.toNat) (fun ⟨l, u⟩ => b.size - u.toNat) ([], 0) ?_ ?_ ?_
  · rfl
  · exact ⟨by omega, by omega, by simp, .nil⟩
  · intro ⟨l, u⟩ hJ
    obtain ⟨h0, h1, hlu, hch⟩ := hJ
    dsimp only at h0 h1 hlu hch ⊢
    refine AW.seq (by kernel_rfl) ?_
    refine AW.seq (by kernel_rfl) ?_
    refine AW.region (n := 2) (by kernel_rfl) (by kernel_rfl) ?_
    refine AOps.steps (i := 0) (m := 2) (r := 0) (i' := 2) (st' := ⟨[(11, .cell (.d (.sc (.bool (decide (((b.size : Int) - u : Int) > 8)))))), (10, .cell (.d (.sc (.int .i64 ((b.size : Int) - u))))), (0, .cell (.d (.sc (.string b)))), (2, .cell (.own 2)), (3, .cell (.d (.sc (.int .i64 u)))), (4, .cell (.d (.sc (.int .i64 ((b.size : Int) - u)))))], [(2, .arr 9 1 l.length (encS l))]⟩) (by kernel_rfl) rfl rfl ?_
    refine AOps.keep [0, 2, 3, 4, 11] [2] (st' := ⟨[(0, .cell (.d (.sc (.string b)))), (2, .cell (.own 2)), (3, .cell (.d (.sc (.int .i64 u)))), (4, .cell (.d (.sc (.int .i64 ((b.size : Int) - u))))), (11, .cell (.d (.sc (.bool (decide (((b.size : Int) - u : Int) > 8))))))], [(2, .arr 9 1 l.length (encS l))]⟩) (by kernel_rfl) ?_
    refine AOps.done ?_
    refine Then.go ?_
    refine AW.cond (b := decide (((b.size : Int) - u : Int) > 8)) (by kernel_rfl) (by kernel_rfl) (fun h2 => ?_) (fun h2 => ?_)
    · -- decide (((b.size : Int) - u : Int) > 8) = True
      try simp only [Bool.and_eq_true, Bool.or_eq_true, Bool.and_eq_false_iff, Bool.or_eq_false_iff, decide_eq_true_eq, decide_eq_false_iff_not, beq_iff_eq, bne_iff_ne, ne_eq, Bool.not_eq_true', Bool.not_eq_false', beq_eq_false_iff_ne, bne_eq_false_iff_eq, Decidable.not_not, Int.not_lt, Int.not_le, gt_iff_lt, ge_iff_le] at h2
      refine AW.skip (by kernel_rfl) ?_
      refine Then.go ?_
      refine AW.seq (by kernel_rfl) ?_
      refine AW.block (by kernel_rfl) ?_
      refine AW.seq (by kernel_rfl) ?_
      refine AW.region (n := 8) (by kernel_rfl) (by kernel_rfl) ?_
      refine AOps.steps (i := 0) (m := 4) (r := 4) (i' := 4) (st' := ⟨[(19, .cell (.d (.sc (.int .i64 (IntKind.wrap .i64 (u + 4)))))), (18, .cell (.d (.sc (.int .i64 u)))), (17, .cell (.d (.sc (.int .i64 u)))), (16, .cell (.d (.sc (.string b)))), (0, .cell (.d (.sc (.string b)))), (2, .cell (.own 2)), (3, .cell (.d (.sc (.int .i64 u)))), (4, .cell (.d (.sc (.int .i64 ((b.size : Int) - u))))), (11, .cell (.d (.sc (.bool (decide (((b.size : Int) - u : Int) > 8))))))], [(2, .arr 9 1 l.length (encS l))]⟩) (by kernel_rfl) rfl rfl ?_
      have w3 : IntKind.wrap .i64 (u + 4) = u + 4 := wrap_i64 _ (by omega) (by omega)
      rw [w3]
      clear w3
      obtain ⟨hd4, hhd4⟩ : ∃ r, b.extract (u : Int).toNat (u + 4 : Int).toNat = r := ⟨_, rfl⟩
      have hd4b : hd4.data.toList = (b.data.toList.drop u.toNat).take 4 := by rw [← hhd4, ex_list, show (u + 4).toNat - u.toNat = 4 by omega]
      have zhd4 : hd4.size = 4 := by rw [← hhd4, ex_size _ _ _ (by omega)]; omega
      have hd4l : hd4.data.toList.length = 4 := by rw [Array.length_toList]; exact zhd4
      refine AOps.one (i := 4) (r := 3) (i' := 5) (e := .put 20 (.cell (.d (.sc (.string hd4))))) (st' := ⟨[(20, .cell (.d (.sc (.string hd4)))), (19, .cell (.d (.sc (.int .i64 (u + 4))))), (18, .cell (.d (.sc (.int .i64 u)))), (17, .cell (.d (.sc (.int .i64 u)))), (16, .cell (.d (.sc (.string b)))), (0, .cell (.d (.sc (.string b)))), (2, .cell (.own 2)), (3, .cell (.d (.sc (.int .i64 u)))), (4, .cell (.d (.sc (.int .i64 ((b.size : Int) - u))))), (11, .cell (.d (.sc (.bool (decide (((b.size : Int) - u : Int) > 8))))))], [(2, .arr 9 1 l.length (encS l))]⟩) (IEff.qstrSlice (s := b) (r := hd4) (p := u) (q := (u + 4)) (by kernel_rfl) (by omega) (by omega) (by omega) hhd4) rfl rfl (by kernel_rfl) ?_
      obtain ⟨n, hn⟩ : ∃ n, numOf hd4.data.toList = n := ⟨_, rfl⟩
      have rn := numOf_range hd4.data.toList (by rw [hd4l]; omega)
      rw [hn] at rn
      have sn := ofHigh_c hd4 (by omega)
      rw [hn] at sn
      have hn2 : numOf ((b.data.toList.drop u.toNat).take 4) = n := by rw [← hd4b]; exact hn
      refine AOps.one (i := 5) (r := 2) (i' := 6) (e := .put 21 (.cell (.d (.sc (.int .u64 n))))) (st' := ⟨[(21, .cell (.d (.sc (.int .u64 n)))), (20, .cell (.d (.sc (.string hd4)))), (19, .cell (.d (.sc (.int .i64 (u + 4))))), (18, .cell (.d (.sc (.int .i64 u)))), (17, .cell (.d (.sc (.int .i64 u)))), (16, .cell (.d (.sc (.string b)))), (0, .cell (.d (.sc (.string b)))), (2, .cell (.own 2)), (3, .cell (.d (.sc (.int .i64 u)))), (4, .cell (.d (.sc (.int .i64 ((b.size : Int) - u))))), (11, .cell (.d (.sc (.bool (decide (((b.size : Int) - u : Int) > 8))))))], [(2, .arr 9 1 l.length (encS l))]⟩) (IEff.qpcall (f := 32) (args := [.cell (.d (.sc (.string hd4)))]) (by kernel_rfl) (by kernel_rfl) sn (by kernel_rfl)) rfl rfl (by kernel_rfl) ?_
      refine AOps.steps (i := 6) (m := 2) (r := 0) (i' := 8) (st' := ⟨[(5, .cell (.d (.sc (.int .i64 (IntKind.wrap .i64 (n)))))), (22, .cell (.d (.sc (.int .i64 (IntKind.wrap .i64 (n)))))), (21, .cell (.d (.sc (.int .u64 n)))), (20, .cell (.d (.sc (.string hd4)))), (19, .cell (.d (.sc (.int .i64 (u + 4))))), (18, .cell (.d (.sc (.int .i64 u)))), (17, .cell (.d (.sc (.int .i64 u)))), (16, .cell (.d (.sc (.string b)))), (0, .cell (.d (.sc (.string b)))), (2, .cell (.own 2)), (3, .cell (.d (.sc (.int .i64 u)))), (4, .cell (.d (.sc (.int .i64 ((b.size : Int) - u))))), (11, .cell (.d (.sc (.bool (decide (((b.size : Int) - u : Int) > 8))))))], [(2, .arr 9 1 l.length (encS l))]⟩) (by kernel_rfl) rfl rfl ?_
      have w4 : IntKind.wrap .i64 (n) = n := wrap_i64 _ (by omega) (by omega)
      rw [w4]
      clear w4
      refine AOps.keep [0, 2, 3, 4, 5] [2] (st' := ⟨[(0, .cell (.d (.sc (.string b)))), (2, .cell (.own 2)), (3, .cell (.d (.sc (.int .i64 u)))), (4, .cell (.d (.sc (.int .i64 ((b.size : Int) - u))))), (5, .cell (.d (.sc (.int .i64 n))))], [(2, .arr 9 1 l.length (encS l))]⟩) (by kernel_rfl) ?_
      refine AOps.done ?_
      refine Then.go ?_
      refine AW.seq (by kernel_rfl) ?_
      refine AW.seq (by kernel_rfl) ?_
      obtain hs5 | hs5 : (decide ((n : Int) < 1)) = true ∨ (decide ((n : Int) < 1)) = false := by cases (decide ((n : Int) < 1)) <;> simp
      · have hs5n := hs5
        try simp only [Bool.and_eq_true, Bool.or_eq_true, Bool.and_eq_false_iff, Bool.or_eq_false_iff, decide_eq_true_eq, decide_eq_false_iff_not, beq_iff_eq, bne_iff_ne, ne_eq, Bool.not_eq_true', Bool.not_eq_false', beq_eq_false_iff_ne, bne_eq_false_iff_eq, Decidable.not_not, Int.not_lt, Int.not_le, gt_iff_lt, ge_iff_le] at hs5n
        refine AW.drawn (by kernel_rfl) (by kernel_rfl) [.put 23 (.cell (.d (.sc (.int .i64 n)))), .put 24 (.cell (.d (.sc (.bool true)))), .put 25 (.cell (.d (.sc (.bool true)))), .put 26 (.junk), .put 27 (.junk), .put 28 (.cell (.d (.sc (.bool true)))), .put 29 (.cell (.d (.sc (.bool true)))), .put 30 (.junk), .put 31 (.junk), .put 32 (.junk), .put 33 (.junk), .put 34 (.cell (.d (.sc (.bool true)))), .put 35 (.cell (.d (.sc (.bool true)))), .put 36 (.junk), .put 37 (.junk), .put 38 (.junk), .put 39 (.junk), .put 40 (.junk), .put 41 (.junk), .put 42 (.junk), .put 43 (.junk), .put 44 (.junk), .put 45 (.junk), .put 46 (.junk), .put 47 (.junk), .put 48 (.junk), .put 49 (.junk), .put 50 (.junk), .put 51 (.junk), .put 52 (.junk), .put 53 (.cell (.d (.sc (.bool true))))] [0, 1, 3, 7, 15, 31, 63, 127, 127, 383, 1023, 2047, 4095, 8191, 8191, 24575, 8191, 73727, 8191, 466943, 1048575, 2097151, 8191, 8191, 8191, 16785407, 8191, 117448703, 264249343, 536870911, 1073741823] (by kernel_rfl) (by kernel_rfl) (by kernel_rfl) ⟨fun f => .step1 (by kernel_rfl), fun f => .cast (e := .put 24 (.cell (.d (.sc (.bool (decide ((n : Int) < 1))))))) (.step1 (by kernel_rfl)) (by rw [hs5]), fun f => .step1 (by kernel_rfl), fun f => .stepK (by kernel_rfl), fun f => .stepK (by kernel_rfl), fun f => .step1 (by kernel_rfl), fun f => .step1 (by kernel_rfl), fun f => .stepK (by kernel_rfl), fun f => .stepK (by kernel_rfl), fun f => .stepK (by kernel_rfl), fun f => .stepK (by kernel_rfl), fun f => .step1 (by kernel_rfl), fun f => .step1 (by kernel_rfl), fun f => .stepK (by kernel_rfl), fun f => .stepK (by kernel_rfl), fun f => .stepK (by kernel_rfl), fun f => .stepK (by kernel_rfl), fun f => .stepK (by kernel_rfl), fun f => .stepK (by kernel_rfl), fun f => .stepK (by kernel_rfl), fun f => .stepK (by kernel_rfl), fun f => .stepK (by kernel_rfl), fun f => .stepK (by kernel_rfl), fun f => .stepK (by kernel_rfl), fun f => .stepK (by kernel_rfl), fun f => .stepK (by kernel_rfl), fun f => .stepK (by kernel_rfl), fun f => .stepK (by kernel_rfl), fun f => .stepK (by kernel_rfl), fun f => .stepK (by kernel_rfl), fun f => .step1 (by kernel_rfl), trivial⟩ (st' := ⟨[(53, .cell (.d (.sc (.bool true)))), (52, .junk), (51, .junk), (50, .junk), (49, .junk), (48, .junk), (47, .junk), (46, .junk), (45, .junk), (44, .junk), (43, .junk), (42, .junk), (41, .junk), (40, .junk), (39, .junk), (38, .junk), (37, .junk), (36, .junk), (35, .cell (.d (.sc (.bool true)))), (34, .cell (.d (.sc (.bool true)))), (33, .junk), (32, .junk), (31, .junk), (30, .junk), (29, .cell (.d (.sc (.bool true)))), (28, .cell (.d (.sc (.bool true)))), (27, .junk), (26, .junk), (25, .cell (.d (.sc (.bool true)))), (24, .cell (.d (.sc (.bool true)))), (23, .cell (.d (.sc (.int .i64 n)))), (0, .cell (.d (.sc (.string b)))), (2, .cell (.own 2)), (3, .cell (.d (.sc (.int .i64 u)))), (4, .cell (.d (.sc (.int .i64 ((b.size : Int) - u))))), (5, .cell (.d (.sc (.int .i64 n))))], [(2, .arr 9 1 l.length (encS l))]⟩) (by kernel_rfl) ?_
        refine Then.go ?_
        refine AW.cond (b := true) (by kernel_rfl) (by kernel_rfl) (fun _ => ?_) (fun h => by cases h) 
        refine AW.exit (by kernel_rfl) ?_
        refine Then.exit ?_
        refine InBlk.pass (by kernel_rfl) ?_
        refine Then.exit ?_
        refine LoopP.exit ?_
        refine InBlk.exit ?_
        refine Then.go ?_
        refine AW.seq (by kernel_rfl) ?_
        refine AW.region (n := 4) (by kernel_rfl) (by kernel_rfl) ?_
        refine AOps.steps (i := 0) (m := 4) (r := 0) (i' := 4) (st' := ⟨[(3, .cell (.d (.sc (.int .i64 u)))), (2, .cell (.own 2)), (70, .cell (.d (.sc (.int .i64 u)))), (69, .cell (.own 2)), (53, .cell (.d (.sc (.bool true)))), (52, .junk), (51, .junk), (50, .junk), (49, .junk), (48, .junk), (47, .junk), (46, .junk), (45, .junk), (44, .junk), (43, .junk), (42, .junk), (41, .junk), (40, .junk), (39, .junk), (38, .junk), (37, .junk), (36, .junk), (35, .cell (.d (.sc (.bool true)))), (34, .cell (.d (.sc (.bool true)))), (33, .junk), (32, .junk), (31, .junk), (30, .junk), (29, .cell (.d (.sc (.bool true)))), (28, .cell (.d (.sc (.bool true)))), (27, .junk), (26, .junk), (25, .cell (.d (.sc (.bool true)))), (24, .cell (.d (.sc (.bool true)))), (23, .cell (.d (.sc (.int .i64 n)))), (0, .cell (.d (.sc (.string b)))), (4, .cell (.d (.sc (.int .i64 ((b.size : Int) - u))))), (5, .cell (.d (.sc (.int .i64 n))))], [(2, .arr 9 1 l.length (encS l))]⟩) (by kernel_rfl) rfl rfl ?_
        refine AOps.keep [2, 3] [2] (st' := ⟨[(2, .cell (.own 2)), (3, .cell (.d (.sc (.int .i64 u))))], [(2, .arr 9 1 l.length (encS l))]⟩) (by kernel_rfl) ?_
        refine AOps.done ?_
        refine Then.go ?_
        refine AW.ret (by kernel_rfl) ?_
        refine RetF.of_ret [2] (x := .tup [.cell (.d (.sl 1 l.length (encS l))), .cell (.d (.sc (.int .i64 u)))]) (by kernel_rfl) ?_
        refine ⟨(l, u), ⟨by omega, hch, fun k hk => ?_⟩, ret_eq rfl, trivial⟩
        have hk2 := hk
        obtain ⟨k1, k2, k3, k4, k5⟩ := hk
        dsimp only at k1 k2 k3 k4 k5
        first
          | omega
          | (rw [hn2] at k4; omega)
          | (rw [hn2] at k4; subst k4; have := (ref_isF b pay whole u.toNat k hn2 (by omega) (by omega) (by omega) (by rw [← hpay]; congr 1 <;> omega) (by rw [← hwhole]; congr 1 <;> omega)).1 hk2; rw [(seq_iff _ _).2 this] at hcmp; cases hcmp)
      · have hs5n := hs5
        try simp only [Bool.and_eq_true, Bool.or_eq_true, Bool.and_eq_false_iff, Bool.or_eq_false_iff, decide_eq_true_eq, decide_eq_false_iff_not, beq_iff_eq, bne_iff_ne, ne_eq, Bool.not_eq_true', Bool.not_eq_false', beq_eq_false_iff_ne, bne_eq_false_iff_eq, Decidable.not_not, Int.not_lt, Int.not_le, gt_iff_lt, ge_iff_le] at hs5n
        obtain hs6 | hs6 : (decide ((n : Int) > 8000)) = true ∨ (decide ((n : Int) > 8000)) = false := by cases (decide ((n : Int) > 8000)) <;> simp
        · have hs6n := hs6
          try simp only [Bool.and_eq_true, Bool.or_eq_true, Bool.and_eq_false_iff, Bool.or_eq_false_iff, decide_eq_true_eq, decide_eq_false_iff_not, beq_iff_eq, bne_iff_ne, ne_eq, Bool.not_eq_true', Bool.not_eq_false', beq_eq_false_iff_ne, bne_eq_false_iff_eq, Decidable.not_not, Int.not_lt, Int.not_le, gt_iff_lt, ge_iff_le] at hs6n
          refine AW.drawn (by kernel_rfl) (by kernel_rfl) [.put 23 (.cell (.d (.sc (.int .i64 n)))), .put 24 (.cell (.d (.sc (.bool false)))), .put 25 (.cell (.d (.sc (.bool false)))), .put 26 (.cell (.d (.sc (.int .i64 n)))), .put 27 (.cell (.d (.sc (.bool true)))), .put 28 (.cell (.d (.sc (.bool true)))), .put 29 (.cell (.d (.sc (.bool true)))), .put 30 (.junk), .put 31 (.junk), .put 32 (.junk), .put 33 (.junk), .put 34 (.cell (.d (.sc (.bool true)))), .put 35 (.cell (.d (.sc (.bool true)))), .put 36 (.junk), .put 37 (.junk), .put 38 (.junk), .put 39 (.junk), .put 40 (.junk), .put 41 (.junk), .put 42 (.junk), .put 43 (.junk), .put 44 (.junk), .put 45 (.junk), .put 46 (.junk), .put 47 (.junk), .put 48 (.junk), .put 49 (.junk), .put 50 (.junk), .put 51 (.junk), .put 52 (.junk), .put 53 (.cell (.d (.sc (.bool true))))] [0, 1, 3, 7, 15, 31, 63, 127, 127, 383, 1023, 2047, 4095, 8191, 8191, 24575, 8191, 73727, 8191, 466943, 1048575, 2097151, 8191, 8191, 8191, 16785407, 8191, 117448703, 264249343, 536870911, 1073741823] (by kernel_rfl) (by kernel_rfl) (by kernel_rfl) ⟨fun f => .step1 (by kernel_rfl), fun f => .cast (e := .put 24 (.cell (.d (.sc (.bool (decide ((n : Int) < 1))))))) (.step1 (by kernel_rfl)) (by rw [hs5]), fun f => .step1 (by kernel_rfl), fun f => .stepK (by kernel_rfl), fun f => .cast (e := .put 27 (.cell (.d (.sc (.bool (decide ((n : Int) > 8000))))))) (.stepK (by kernel_rfl)) (by rw [hs6]), fun f => .step1 (by kernel_rfl), fun f => .step1 (by kernel_rfl), fun f => .stepK (by kernel_rfl), fun f => .stepK (by kernel_rfl), fun f => .stepK (by kernel_rfl), fun f => .stepK (by kernel_rfl), fun f => .step1 (by kernel_rfl), fun f => .step1 (by kernel_rfl), fun f => .stepK (by kernel_rfl), fun f => .stepK (by kernel_rfl), fun f => .stepK (by kernel_rfl), fun f => .stepK (by kernel_rfl), fun f => .stepK (by kernel_rfl), fun f => .stepK (by kernel_rfl), fun f => .stepK (by kernel_rfl), fun f => .stepK (by kernel_rfl), fun f => .stepK (by kernel_rfl), fun f => .stepK (by kernel_rfl), fun f => .stepK (by kernel_rfl), fun f => .stepK (by kernel_rfl), fun f => .stepK (by kernel_rfl), fun f => .stepK (by kernel_rfl), fun f => .stepK (by kernel_rfl), fun f => .stepK (by kernel_rfl), fun f => .stepK (by kernel_rfl), fun f => .step1 (by kernel_rfl), trivial⟩ (st' := ⟨[(53, .cell (.d (.sc (.bool true)))), (52, .junk), (51, .junk), (50, .junk), (49, .junk), (48, .junk), (47, .junk), (46, .junk), (45, .junk), (44, .junk), (43, .junk), (42, .junk), (41, .junk), (40, .junk), (39, .junk), (38, .junk), (37, .junk), (36, .junk), (35, .cell (.d (.sc (.bool true)))), (34, .cell (.d (.sc (.bool true)))), (33, .junk), (32, .junk), (31, .junk), (30, .junk), (29, .cell (.d (.sc (.bool true)))), (28, .cell (.d (.sc (.bool true)))), (27, .cell (.d (.sc (.bool true)))), (26, .cell (.d (.sc (.int .i64 n)))), (25, .cell (.d (.sc (.bool false)))), (24, .cell (.d (.sc (.bool false)))), (23, .cell (.d (.sc (.int .i64 n)))), (0, .cell (.d (.sc (.string b)))), (2, .cell (.own 2)), (3, .cell (.d (.sc (.int .i64 u)))), (4, .cell (.d (.sc (.int .i64 ((b.size : Int) - u))))), (5, .cell (.d (.sc (.int .i64 n))))], [(2, .arr 9 1 l.length (encS l))]⟩) (by kernel_rfl) ?_
          refine Then.go ?_
          refine AW.cond (b := true) (by kernel_rfl) (by kernel_rfl) (fun _ => ?_) (fun h => by cases h) 
          refine AW.exit (by kernel_rfl) ?_
          refine Then.exit ?_
          refine InBlk.pass (by kernel_rfl) ?_
          refine Then.exit ?_
          refine LoopP.exit ?_
          refine InBlk.exit ?_
          refine Then.go ?_
          refine AW.seq (by kernel_rfl) ?_
          refine AW.region (n := 4) (by kernel_rfl) (by kernel_rfl) ?_
          refine AOps.steps (i := 0) (m := 4) (r := 0) (i' := 4) (st' := ⟨[(3, .cell (.d (.sc (.int .i64 u)))), (2, .cell (.own 2)), (70, .cell (.d (.sc (.int .i64 u)))), (69, .cell (.own 2)), (53, .cell (.d (.sc (.bool true)))), (52, .junk), (51, .junk), (50, .junk), (49, .junk), (48, .junk), (47, .junk), (46, .junk), (45, .junk), (44, .junk), (43, .junk), (42, .junk), (41, .junk), (40, .junk), (39, .junk), (38, .junk), (37, .junk), (36, .junk), (35, .cell (.d (.sc (.bool true)))), (34, .cell (.d (.sc (.bool true)))), (33, .junk), (32, .junk), (31, .junk), (30, .junk), (29, .cell (.d (.sc (.bool true)))), (28, .cell (.d (.sc (.bool true)))), (27, .cell (.d (.sc (.bool true)))), (26, .cell (.d (.sc (.int .i64 n)))), (25, .cell (.d (.sc (.bool false)))), (24, .cell (.d (.sc (.bool false)))), (23, .cell (.d (.sc (.int .i64 n)))), (0, .cell (.d (.sc (.string b)))), (4, .cell (.d (.sc (.int .i64 ((b.size : Int) - u))))), (5, .cell (.d (.sc (.int .i64 n))))], [(2, .arr 9 1 l.length (encS l))]⟩) (by kernel_rfl) rfl rfl ?_
          refine AOps.keep [2, 3] [2] (st' := ⟨[(2, .cell (.own 2)), (3, .cell (.d (.sc (.int .i64 u))))], [(2, .arr 9 1 l.length (encS l))]⟩) (by kernel_rfl) ?_
          refine AOps.done ?_
          refine Then.go ?_
          refine AW.ret (by kernel_rfl) ?_
          refine RetF.of_ret [2] (x := .tup [.cell (.d (.sl 1 l.length (encS l))), .cell (.d (.sc (.int .i64 u)))]) (by kernel_rfl) ?_
          refine ⟨(l, u), ⟨by omega, hch, fun k hk => ?_⟩, ret_eq rfl, trivial⟩
          have hk2 := hk
          obtain ⟨k1, k2, k3, k4, k5⟩ := hk
          dsimp only at k1 k2 k3 k4 k5
          first
            | omega
            | (rw [hn2] at k4; omega)
            | (rw [hn2] at k4; subst k4; have := (ref_isF b pay whole u.toNat k hn2 (by omega) (by omega) (by omega) (by rw [← hpay]; congr 1 <;> omega) (by rw [← hwhole]; congr 1 <;> omega)).1 hk2; rw [(seq_iff _ _).2 this] at hcmp; cases hcmp)
        · have hs6n := hs6
          try simp only [Bool.and_eq_true, Bool.or_eq_true, Bool.and_eq_false_iff, Bool.or_eq_false_iff, decide_eq_true_eq, decide_eq_false_iff_not, beq_iff_eq, bne_iff_ne, ne_eq, Bool.not_eq_true', Bool.not_eq_false', beq_eq_false_iff_ne, bne_eq_false_iff_eq, Decidable.not_not, Int.not_lt, Int.not_le, gt_iff_lt, ge_iff_le] at hs6n
          obtain hs7 | hs7 : (decide ((n : Int) > (((b.size : Int) - u) - 8))) = true ∨ (decide ((n : Int) > (((b.size : Int) - u) - 8))) = false := by cases (decide ((n : Int) > (((b.size : Int) - u) - 8))) <;> simp
          · have hs7n := hs7
            try simp only [Bool.and_eq_true, Bool.or_eq_true, Bool.and_eq_false_iff, Bool.or_eq_false_iff, decide_eq_true_eq, decide_eq_false_iff_not, beq_iff_eq, bne_iff_ne, ne_eq, Bool.not_eq_true', Bool.not_eq_false', beq_eq_false_iff_ne, bne_eq_false_iff_eq, Decidable.not_not, Int.not_lt, Int.not_le, gt_iff_lt, ge_iff_le] at hs7n
            have w8 : IntKind.wrap .i64 (((b.size : Int) - u) - 8) = ((b.size : Int) - u) - 8 := wrap_i64 _ (by omega) (by omega)
            refine AW.drawn (by kernel_rfl) (by kernel_rfl) [.put 23 (.cell (.d (.sc (.int .i64 n)))), .put 24 (.cell (.d (.sc (.bool false)))), .put 25 (.cell (.d (.sc (.bool false)))), .put 26 (.cell (.d (.sc (.int .i64 n)))), .put 27 (.cell (.d (.sc (.bool false)))), .put 28 (.cell (.d (.sc (.bool false)))), .put 29 (.cell (.d (.sc (.bool false)))), .put 30 (.cell (.d (.sc (.int .i64 n)))), .put 31 (.cell (.d (.sc (.int .i64 ((b.size : Int) - u))))), .put 32 (.cell (.d (.sc (.int .i64 (((b.size : Int) - u) - 8))))), .put 33 (.cell (.d (.sc (.bool true)))), .put 34 (.cell (.d (.sc (.bool true)))), .put 35 (.cell (.d (.sc (.bool true)))), .put 36 (.junk), .put 37 (.junk), .put 38 (.junk), .put 39 (.junk), .put 40 (.junk), .put 41 (.junk), .put 42 (.junk), .put 43 (.junk), .put 44 (.junk), .put 45 (.junk), .put 46 (.junk), .put 47 (.junk), .put 48 (.junk), .put 49 (.junk), .put 50 (.junk), .put 51 (.junk), .put 52 (.junk), .put 53 (.cell (.d (.sc (.bool true))))] [0, 1, 3, 7, 15, 31, 63, 127, 127, 383, 1023, 2047, 4095, 8191, 8191, 24575, 8191, 73727, 8191, 466943, 1048575, 2097151, 8191, 8191, 8191, 16785407, 8191, 117448703, 264249343, 536870911, 1073741823] (by kernel_rfl) (by kernel_rfl) (by kernel_rfl) ⟨fun f => .step1 (by kernel_rfl), fun f => .cast (e := .put 24 (.cell (.d (.sc (.bool (decide ((n : Int) < 1))))))) (.step1 (by kernel_rfl)) (by rw [hs5]), fun f => .step1 (by kernel_rfl), fun f => .stepK (by kernel_rfl), fun f => .cast (e := .put 27 (.cell (.d (.sc (.bool (decide ((n : Int) > 8000))))))) (.stepK (by kernel_rfl)) (by rw [hs6]), fun f => .step1 (by kernel_rfl), fun f => .step1 (by kernel_rfl), fun f => .stepK (by kernel_rfl), fun f => .stepK (by kernel_rfl), fun f => .cast (e := .put 32 (.cell (.d (.sc (.int .i64 (IntKind.wrap .i64 (((b.size : Int) - u) - 8))))))) (.stepK (by kernel_rfl)) (by rw [w8]), fun f => .cast (e := .put 33 (.cell (.d (.sc (.bool (decide ((n : Int) > (((b.size : Int) - u) - 8)))))))) (.stepK (by kernel_rfl)) (by rw [hs7]), fun f => .step1 (by kernel_rfl), fun f => .step1 (by kernel_rfl), fun f => .stepK (by kernel_rfl), fun f => .stepK (by kernel_rfl), fun f => .stepK (by kernel_rfl), fun f => .stepK (by kernel_rfl), fun f => .stepK (by kernel_rfl), fun f => .stepK (by kernel_rfl), fun f => .stepK (by kernel_rfl), fun f => .stepK (by kernel_rfl), fun f => .stepK (by kernel_rfl), fun f => .stepK (by kernel_rfl), fun f => .stepK (by kernel_rfl), fun f => .stepK (by kernel_rfl), fun f => .stepK (by kernel_rfl), fun f => .stepK (by kernel_rfl), fun f => .stepK (by kernel_rfl), fun f => .stepK (by kernel_rfl), fun f => .stepK (by kernel_rfl), fun f => .step1 (by kernel_rfl), trivial⟩ (st' := ⟨[(53, .cell (.d (.sc (.bool true)))), (52, .junk), (51, .junk), (50, .junk), (49, .junk), (48, .junk), (47, .junk), (46, .junk), (45, .junk), (44, .junk), (43, .junk), (42, .junk), (41, .junk), (40, .junk), (39, .junk), (38, .junk), (37, .junk), (36, .junk), (35, .cell (.d (.sc (.bool true)))), (34, .cell (.d (.sc (.bool true)))), (33, .cell (.d (.sc (.bool true)))), (32, .cell (.d (.sc (.int .i64 (((b.size : Int) - u) - 8))))), (31, .cell (.d (.sc (.int .i64 ((b.size : Int) - u))))), (30, .cell (.d (.sc (.int .i64 n)))), (29, .cell (.d (.sc (.bool false)))), (28, .cell (.d (.sc (.bool false)))), (27, .cell (.d (.sc (.bool false)))), (26, .cell (.d (.sc (.int .i64 n)))), (25, .cell (.d (.sc (.bool false)))), (24, .cell (.d (.sc (.bool false)))), (23, .cell (.d (.sc (.int .i64 n)))), (0, .cell (.d (.sc (.string b)))), (2, .cell (.own 2)), (3, .cell (.d (.sc (.int .i64 u)))), (4, .cell (.d (.sc (.int .i64 ((b.size : Int) - u))))), (5, .cell (.d (.sc (.int .i64 n))))], [(2, .arr 9 1 l.length (encS l))]⟩) (by kernel_rfl) ?_
            refine Then.go ?_
            refine AW.cond (b := true) (by kernel_rfl) (by kernel_rfl) (fun _ => ?_) (fun h => by cases h) 
            refine AW.exit (by kernel_rfl) ?_
            refine Then.exit ?_
            refine InBlk.pass (by kernel_rfl) ?_
            refine Then.exit ?_
            refine LoopP.exit ?_
            refine InBlk.exit ?_
            refine Then.go ?_
            refine AW.seq (by kernel_rfl) ?_
            refine AW.region (n := 4) (by kernel_rfl) (by kernel_rfl) ?_
            refine AOps.steps (i := 0) (m := 4) (r := 0) (i' := 4) (st' := ⟨[(3, .cell (.d (.sc (.int .i64 u)))), (2, .cell (.own 2)), (70, .cell (.d (.sc (.int .i64 u)))), (69, .cell (.own 2)), (53, .cell (.d (.sc (.bool true)))), (52, .junk), (51, .junk), (50, .junk), (49, .junk), (48, .junk), (47, .junk), (46, .junk), (45, .junk), (44, .junk), (43, .junk), (42, .junk), (41, .junk), (40, .junk), (39, .junk), (38, .junk), (37, .junk), (36, .junk), (35, .cell (.d (.sc (.bool true)))), (34, .cell (.d (.sc (.bool true)))), (33, .cell (.d (.sc (.bool true)))), (32, .cell (.d (.sc (.int .i64 (((b.size : Int) - u) - 8))))), (31, .cell (.d (.sc (.int .i64 ((b.size : Int) - u))))), (30, .cell (.d (.sc (.int .i64 n)))), (29, .cell (.d (.sc (.bool false)))), (28, .cell (.d (.sc (.bool false)))), (27, .cell (.d (.sc (.bool false)))), (26, .cell (.d (.sc (.int .i64 n)))), (25, .cell (.d (.sc (.bool false)))), (24, .cell (.d (.sc (.bool false)))), (23, .cell (.d (.sc (.int .i64 n)))), (0, .cell (.d (.sc (.string b)))), (4, .cell (.d (.sc (.int .i64 ((b.size : Int) - u))))), (5, .cell (.d (.sc (.int .i64 n))))], [(2, .arr 9 1 l.length (encS l))]⟩) (by kernel_rfl) rfl rfl ?_
            refine AOps.keep [2, 3] [2] (st' := ⟨[(2, .cell (.own 2)), (3, .cell (.d (.sc (.int .i64 u))))], [(2, .arr 9 1 l.length (encS l))]⟩) (by kernel_rfl) ?_
            refine AOps.done ?_
            refine Then.go ?_
            refine AW.ret (by kernel_rfl) ?_
            refine RetF.of_ret [2] (x := .tup [.cell (.d (.sl 1 l.length (encS l))), .cell (.d (.sc (.int .i64 u)))]) (by kernel_rfl) ?_
            refine ⟨(l, u), ⟨by omega, hch, fun k hk => ?_⟩, ret_eq rfl, trivial⟩
            have hk2 := hk
            obtain ⟨k1, k2, k3, k4, k5⟩ := hk
            dsimp only at k1 k2 k3 k4 k5
            first
              | omega
              | (rw [hn2] at k4; omega)
              | (rw [hn2] at k4; subst k4; have := (ref_isF b pay whole u.toNat k hn2 (by omega) (by omega) (by omega) (by rw [← hpay]; congr 1 <;> omega) (by rw [← hwhole]; congr 1 <;> omega)).1 hk2; rw [(seq_iff _ _).2 this] at hcmp; cases hcmp)
          · have hs7n := hs7
            try simp only [Bool.and_eq_true, Bool.or_eq_true, Bool.and_eq_false_iff, Bool.or_eq_false_iff, decide_eq_true_eq, decide_eq_false_iff_not, beq_iff_eq, bne_iff_ne, ne_eq, Bool.not_eq_true', Bool.not_eq_false', beq_eq_false_iff_ne, bne_eq_false_iff_eq, Decidable.not_not, Int.not_lt, Int.not_le, gt_iff_lt, ge_iff_le] at hs7n
            have w9 : IntKind.wrap .i64 (((b.size : Int) - u) - 8) = ((b.size : Int) - u) - 8 := wrap_i64 _ (by omega) (by omega)
            have w10 : IntKind.wrap .i64 (u + 8) = u + 8 := wrap_i64 _ (by omega) (by omega)
            have w11 : IntKind.wrap .i64 (u + 8) = u + 8 := wrap_i64 _ (by omega) (by omega)
            have w12 : IntKind.wrap .i64 ((u + 8) + n) = (u + 8) + n := wrap_i64 _ (by omega) (by omega)
            obtain ⟨pay, hpay⟩ : ∃ r, b.extract (u + 8 : Int).toNat ((u + 8) + n : Int).toNat = r := ⟨_, rfl⟩
            have zpay : pay.size ≤ 8000 := by rw [← hpay, ex_size _ _ _ (by omega)]; omega
            have w13 : IntKind.wrap .i64 (u + 8) = u + 8 := wrap_i64 _ (by omega) (by omega)
            have w14 : IntKind.wrap .i64 ((u + 8) + n) = (u + 8) + n := wrap_i64 _ (by omega) (by omega)
            obtain ⟨whole, hwhole⟩ : ∃ r, b.extract (u : Int).toNat ((u + 8) + n : Int).toNat = r := ⟨_, rfl⟩
            refine AW.drawn (by kernel_rfl) (by kernel_rfl) [.put 23 (.cell (.d (.sc (.int .i64 n)))), .put 24 (.cell (.d (.sc (.bool false)))), .put 25 (.cell (.d (.sc (.bool false)))), .put 26 (.cell (.d (.sc (.int .i64 n)))), .put 27 (.cell (.d (.sc (.bool false)))), .put 28 (.cell (.d (.sc (.bool false)))), .put 29 (.cell (.d (.sc (.bool false)))), .put 30 (.cell (.d (.sc (.int .i64 n)))), .put 31 (.cell (.d (.sc (.int .i64 ((b.size : Int) - u))))), .put 32 (.cell (.d (.sc (.int .i64 (((b.size : Int) - u) - 8))))), .put 33 (.cell (.d (.sc (.bool false)))), .put 34 (.cell (.d (.sc (.bool false)))), .put 35 (.cell (.d (.sc (.bool false)))), .put 36 (.cell (.d (.sc (.string b)))), .put 37 (.cell (.d (.sc (.int .i64 u)))), .put 38 (.cell (.d (.sc (.int .i64 (u + 8))))), .put 39 (.cell (.d (.sc (.int .i64 u)))), .put 40 (.cell (.d (.sc (.int .i64 (u + 8))))), .put 41 (.cell (.d (.sc (.int .i64 n)))), .put 42 (.cell (.d (.sc (.int .i64 ((u + 8) + n))))), .put 43 (.cell (.d (.sc (.string pay)))), .put 44 (.cell (.d (.sc (.string (frameOf pay))))), .put 45 (.cell (.d (.sc (.string b)))), .put 46 (.cell (.d (.sc (.int .i64 u)))), .put 47 (.cell (.d (.sc (.int .i64 u)))), .put 48 (.cell (.d (.sc (.int .i64 (u + 8))))), .put 49 (.cell (.d (.sc (.int .i64 n)))), .put 50 (.cell (.d (.sc (.int .i64 ((u + 8) + n))))), .put 51 (.cell (.d (.sc (.string whole)))), .put 52 (.cell (.d (.sc (.bool (!(seq (frameOf pay) whole)))))), .put 53 (.cell (.d (.sc (.bool (!(seq (frameOf pay) whole))))))] [0, 1, 3, 7, 15, 31, 63, 127, 127, 383, 1023, 2047, 4095, 8191, 8191, 24575, 8191, 73727, 8191, 466943, 1048575, 2097151, 8191, 8191, 8191, 16785407, 8191, 117448703, 264249343, 536870911, 1073741823] (by kernel_rfl) (by kernel_rfl) (by kernel_rfl) ⟨fun f => .step1 (by kernel_rfl), fun f => .cast (e := .put 24 (.cell (.d (.sc (.bool (decide ((n : Int) < 1))))))) (.step1 (by kernel_rfl)) (by rw [hs5]), fun f => .step1 (by kernel_rfl), fun f => .stepK (by kernel_rfl), fun f => .cast (e := .put 27 (.cell (.d (.sc (.bool (decide ((n : Int) > 8000))))))) (.stepK (by kernel_rfl)) (by rw [hs6]), fun f => .step1 (by kernel_rfl), fun f => .step1 (by kernel_rfl), fun f => .stepK (by kernel_rfl), fun f => .stepK (by kernel_rfl), fun f => .cast (e := .put 32 (.cell (.d (.sc (.int .i64 (IntKind.wrap .i64 (((b.size : Int) - u) - 8))))))) (.stepK (by kernel_rfl)) (by rw [w9]), fun f => .cast (e := .put 33 (.cell (.d (.sc (.bool (decide ((n : Int) > (((b.size : Int) - u) - 8)))))))) (.stepK (by kernel_rfl)) (by rw [hs7]), fun f => .step1 (by kernel_rfl), fun f => .step1 (by kernel_rfl), fun f => .stepK (by kernel_rfl), fun f => .stepK (by kernel_rfl), fun f => .cast (e := .put 38 (.cell (.d (.sc (.int .i64 (IntKind.wrap .i64 (u + 8))))))) (.stepK (by kernel_rfl)) (by rw [w10]), fun f => .stepK (by kernel_rfl), fun f => .cast (e := .put 40 (.cell (.d (.sc (.int .i64 (IntKind.wrap .i64 (u + 8))))))) (.stepK (by kernel_rfl)) (by rw [w11]), fun f => .stepK (by kernel_rfl), fun f => .cast (e := .put 42 (.cell (.d (.sc (.int .i64 (IntKind.wrap .i64 ((u + 8) + n))))))) (.stepK (by kernel_rfl)) (by rw [w12]), fun f => IEff.qstrSlice (s := b) (r := pay) (p := (u + 8)) (q := ((u + 8) + n)) (by kernel_rfl) (by omega) (by omega) (by omega) hpay, fun f => IEff.qpcall (f := 15) (args := [.cell (.d (.sc (.string pay)))]) (by kernel_rfl) (by kernel_rfl) (FrameOf_c pay (by omega)) (by kernel_rfl), fun f => .stepK (by kernel_rfl), fun f => .stepK (by kernel_rfl), fun f => .stepK (by kernel_rfl), fun f => .cast (e := .put 48 (.cell (.d (.sc (.int .i64 (IntKind.wrap .i64 (u + 8))))))) (.stepK (by kernel_rfl)) (by rw [w13]), fun f => .stepK (by kernel_rfl), fun f => .cast (e := .put 50 (.cell (.d (.sc (.int .i64 (IntKind.wrap .i64 ((u + 8) + n))))))) (.stepK (by kernel_rfl)) (by rw [w14]), fun f => IEff.qstrSlice (s := b) (r := whole) (p := u) (q := ((u + 8) + n)) (by kernel_rfl) (by omega) (by omega) (by omega) hwhole, fun f => .stepK (by kernel_rfl), fun f => .step1 (by kernel_rfl), trivial⟩ (st' := ⟨[(53, .cell (.d (.sc (.bool (!(seq (frameOf pay) whole)))))), (52, .cell (.d (.sc (.bool (!(seq (frameOf pay) whole)))))), (51, .cell (.d (.sc (.string whole)))), (50, .cell (.d (.sc (.int .i64 ((u + 8) + n))))), (49, .cell (.d (.sc (.int .i64 n)))), (48, .cell (.d (.sc (.int .i64 (u + 8))))), (47, .cell (.d (.sc (.int .i64 u)))), (46, .cell (.d (.sc (.int .i64 u)))), (45, .cell (.d (.sc (.string b)))), (44, .cell (.d (.sc (.string (frameOf pay))))), (43, .cell (.d (.sc (.string pay)))), (42, .cell (.d (.sc (.int .i64 ((u + 8) + n))))), (41, .cell (.d (.sc (.int .i64 n)))), (40, .cell (.d (.sc (.int .i64 (u + 8))))), (39, .cell (.d (.sc (.int .i64 u)))), (38, .cell (.d (.sc (.int .i64 (u + 8))))), (37, .cell (.d (.sc (.int .i64 u)))), (36, .cell (.d (.sc (.string b)))), (35, .cell (.d (.sc (.bool false)))), (34, .cell (.d (.sc (.bool false)))), (33, .cell (.d (.sc (.bool false)))), (32, .cell (.d (.sc (.int .i64 (((b.size : Int) - u) - 8))))), (31, .cell (.d (.sc (.int .i64 ((b.size : Int) - u))))), (30, .cell (.d (.sc (.int .i64 n)))), (29, .cell (.d (.sc (.bool false)))), (28, .cell (.d (.sc (.bool false)))), (27, .cell (.d (.sc (.bool false)))), (26, .cell (.d (.sc (.int .i64 n)))), (25, .cell (.d (.sc (.bool false)))), (24, .cell (.d (.sc (.bool false)))), (23, .cell (.d (.sc (.int .i64 n)))), (0, .cell (.d (.sc (.string b)))), (2, .cell (.own 2)), (3, .cell (.d (.sc (.int .i64 u)))), (4, .cell (.d (.sc (.int .i64 ((b.size : Int) - u))))), (5, .cell (.d (.sc (.int .i64 n))))], [(2, .arr 9 1 l.length (encS l))]⟩) (by kernel_rfl) ?_
            refine Then.go ?_
            refine AW.cond (b := !(seq (frameOf pay) whole)) (by kernel_rfl) (by kernel_rfl) (fun h15 => ?_) (fun h15 => ?_)
            · -- !(seq (frameOf pay) whole) = True
              have hcmp := h15
              simp only [Bool.not_eq_true', Bool.not_eq_false'] at hcmp
              refine AW.exit (by kernel_rfl) ?_
              refine Then.exit ?_
              refine InBlk.pass (by kernel_rfl) ?_
              refine Then.exit ?_
              refine LoopP.exit ?_
              refine InBlk.exit ?_
              refine Then.go ?_
              refine AW.seq (by kernel_rfl) ?_
              refine AW.region (n := 4) (by kernel_rfl) (by kernel_rfl) ?_
              refine AOps.steps (i := 0) (m := 4) (r := 0) (i' := 4) (st' := ⟨[(3, .cell (.d (.sc (.int .i64 u)))), (2, .cell (.own 2)), (70, .cell (.d (.sc (.int .i64 u)))), (69, .cell (.own 2)), (53, .cell (.d (.sc (.bool (!(seq (frameOf pay) whole)))))), (52, .cell (.d (.sc (.bool (!(seq (frameOf pay) whole)))))), (51, .cell (.d (.sc (.string whole)))), (50, .cell (.d (.sc (.int .i64 ((u + 8) + n))))), (49, .cell (.d (.sc (.int .i64 n)))), (48, .cell (.d (.sc (.int .i64 (u + 8))))), (47, .cell (.d (.sc (.int .i64 u)))), (46, .cell (.d (.sc (.int .i64 u)))), (45, .cell (.d (.sc (.string b)))), (44, .cell (.d (.sc (.string (frameOf pay))))), (43, .cell (.d (.sc (.string pay)))), (42, .cell (.d (.sc (.int .i64 ((u + 8) + n))))), (41, .cell (.d (.sc (.int .i64 n)))), (40, .cell (.d (.sc (.int .i64 (u + 8))))), (39, .cell (.d (.sc (.int .i64 u)))), (38, .cell (.d (.sc (.int .i64 (u + 8))))), (37, .cell (.d (.sc (.int .i64 u)))), (36, .cell (.d (.sc (.string b)))), (35, .cell (.d (.sc (.bool false)))), (34, .cell (.d (.sc (.bool false)))), (33, .cell (.d (.sc (.bool false)))), (32, .cell (.d (.sc (.int .i64 (((b.size : Int) - u) - 8))))), (31, .cell (.d (.sc (.int .i64 ((b.size : Int) - u))))), (30, .cell (.d (.sc (.int .i64 n)))), (29, .cell (.d (.sc (.bool false)))), (28, .cell (.d (.sc (.bool false)))), (27, .cell (.d (.sc (.bool false)))), (26, .cell (.d (.sc (.int .i64 n)))), (25, .cell (.d (.sc (.bool false)))), (24, .cell (.d (.sc (.bool false)))), (23, .cell (.d (.sc (.int .i64 n)))), (0, .cell (.d (.sc (.string b)))), (4, .cell (.d (.sc (.int .i64 ((b.size : Int) - u))))), (5, .cell (.d (.sc (.int .i64 n))))], [(2, .arr 9 1 l.length (encS l))]⟩) (by kernel_rfl) rfl rfl ?_
              refine AOps.keep [2, 3] [2] (st' := ⟨[(2, .cell (.own 2)), (3, .cell (.d (.sc (.int .i64 u))))], [(2, .arr 9 1 l.length (encS l))]⟩) (by kernel_rfl) ?_
              refine AOps.done ?_
              refine Then.go ?_
              refine AW.ret (by kernel_rfl) ?_
              refine RetF.of_ret [2] (x := .tup [.cell (.d (.sl 1 l.length (encS l))), .cell (.d (.sc (.int .i64 u)))]) (by kernel_rfl) ?_
              refine ⟨(l, u), ⟨by omega, hch, fun k hk => ?_⟩, ret_eq rfl, trivial⟩
              have hk2 := hk
              obtain ⟨k1, k2, k3, k4, k5⟩ := hk
              dsimp only at k1 k2 k3 k4 k5
              first
                | omega
                | (rw [hn2] at k4; omega)
                | (rw [hn2] at k4; subst k4; have := (ref_isF b pay whole u.toNat k hn2 (by omega) (by omega) (by omega) (by rw [← hpay]; congr 1 <;> omega) (by rw [← hwhole]; congr 1 <;> omega)).1 hk2; rw [(seq_iff _ _).2 this] at hcmp; cases hcmp)
            · -- !(seq (frameOf pay) whole) = False
              have hcmp := h15
              simp only [Bool.not_eq_true', Bool.not_eq_false'] at hcmp
              refine AW.skip (by kernel_rfl) ?_
              refine Then.go ?_
              refine AW.seq (by kernel_rfl) ?_
              refine AW.region (n := 12) (by kernel_rfl) (by kernel_rfl) ?_
              refine AOps.steps (i := 0) (m := 8) (r := 4) (i' := 8) (st' := ⟨[(61, .cell (.d (.sc (.int .i64 (IntKind.wrap .i64 ((IntKind.wrap .i64 (u + 8)) + n)))))), (60, .cell (.d (.sc (.int .i64 n)))), (59, .cell (.d (.sc (.int .i64 (IntKind.wrap .i64 (u + 8)))))), (58, .cell (.d (.sc (.int .i64 u)))), (57, .cell (.d (.sc (.int .i64 (IntKind.wrap .i64 (u + 8)))))), (56, .cell (.d (.sc (.int .i64 u)))), (55, .cell (.d (.sc (.string b)))), (54, .cell (.own 2)), (53, .cell (.d (.sc (.bool (!(seq (frameOf pay) whole)))))), (52, .cell (.d (.sc (.bool (!(seq (frameOf pay) whole)))))), (51, .cell (.d (.sc (.string whole)))), (50, .cell (.d (.sc (.int .i64 ((u + 8) + n))))), (49, .cell (.d (.sc (.int .i64 n)))), (48, .cell (.d (.sc (.int .i64 (u + 8))))), (47, .cell (.d (.sc (.int .i64 u)))), (46, .cell (.d (.sc (.int .i64 u)))), (45, .cell (.d (.sc (.string b)))), (44, .cell (.d (.sc (.string (frameOf pay))))), (43, .cell (.d (.sc (.string pay)))), (42, .cell (.d (.sc (.int .i64 ((u + 8) + n))))), (41, .cell (.d (.sc (.int .i64 n)))), (40, .cell (.d (.sc (.int .i64 (u + 8))))), (39, .cell (.d (.sc (.int .i64 u)))), (38, .cell (.d (.sc (.int .i64 (u + 8))))), (37, .cell (.d (.sc (.int .i64 u)))), (36, .cell (.d (.sc (.string b)))), (35, .cell (.d (.sc (.bool false)))), (34, .cell (.d (.sc (.bool false)))), (33, .cell (.d (.sc (.bool false)))), (32, .cell (.d (.sc (.int .i64 (((b.size : Int) - u) - 8))))), (31, .cell (.d (.sc (.int .i64 ((b.size : Int) - u))))), (30, .cell (.d (.sc (.int .i64 n)))), (29, .cell (.d (.sc (.bool false)))), (28, .cell (.d (.sc (.bool false)))), (27, .cell (.d (.sc (.bool false)))), (26, .cell (.d (.sc (.int .i64 n)))), (25, .cell (.d (.sc (.bool false)))), (24, .cell (.d (.sc (.bool false)))), (23, .cell (.d (.sc (.int .i64 n)))), (0, .cell (.d (.sc (.string b)))), (2, .cell (.own 2)), (3, .cell (.d (.sc (.int .i64 u)))), (4, .cell (.d (.sc (.int .i64 ((b.size : Int) - u))))), (5, .cell (.d (.sc (.int .i64 n))))], [(2, .arr 9 1 l.length (encS l))]⟩) (by kernel_rfl) rfl rfl ?_
              have w16 : IntKind.wrap .i64 (u + 8) = u + 8 := wrap_i64 _ (by omega) (by omega)
              rw [w16]
              clear w16
              have w17 : IntKind.wrap .i64 ((u + 8) + n) = (u + 8) + n := wrap_i64 _ (by omega) (by omega)
              rw [w17]
              clear w17
              obtain ⟨pay2, hpay2⟩ : ∃ r, b.extract (u + 8 : Int).toNat ((u + 8) + n : Int).toNat = r := ⟨_, rfl⟩
              refine AOps.one (i := 8) (r := 3) (i' := 9) (e := .put 62 (.cell (.d (.sc (.string pay2))))) (st' := ⟨[(62, .cell (.d (.sc (.string pay2)))), (61, .cell (.d (.sc (.int .i64 ((u + 8) + n))))), (60, .cell (.d (.sc (.int .i64 n)))), (59, .cell (.d (.sc (.int .i64 (u + 8))))), (58, .cell (.d (.sc (.int .i64 u)))), (57, .cell (.d (.sc (.int .i64 (u + 8))))), (56, .cell (.d (.sc (.int .i64 u)))), (55, .cell (.d (.sc (.string b)))), (54, .cell (.own 2)), (53, .cell (.d (.sc (.bool (!(seq (frameOf pay) whole)))))), (52, .cell (.d (.sc (.bool (!(seq (frameOf pay) whole)))))), (51, .cell (.d (.sc (.string whole)))), (50, .cell (.d (.sc (.int .i64 ((u + 8) + n))))), (49, .cell (.d (.sc (.int .i64 n)))), (48, .cell (.d (.sc (.int .i64 (u + 8))))), (47, .cell (.d (.sc (.int .i64 u)))), (46, .cell (.d (.sc (.int .i64 u)))), (45, .cell (.d (.sc (.string b)))), (44, .cell (.d (.sc (.string (frameOf pay))))), (43, .cell (.d (.sc (.string pay)))), (42, .cell (.d (.sc (.int .i64 ((u + 8) + n))))), (41, .cell (.d (.sc (.int .i64 n)))), (40, .cell (.d (.sc (.int .i64 (u + 8))))), (39, .cell (.d (.sc (.int .i64 u)))), (38, .cell (.d (.sc (.int .i64 (u + 8))))), (37, .cell (.d (.sc (.int .i64 u)))), (36, .cell (.d (.sc (.string b)))), (35, .cell (.d (.sc (.bool false)))), (34, .cell (.d (.sc (.bool false)))), (33, .cell (.d (.sc (.bool false)))), (32, .cell (.d (.sc (.int .i64 (((b.size : Int) - u) - 8))))), (31, .cell (.d (.sc (.int .i64 ((b.size : Int) - u))))), (30, .cell (.d (.sc (.int .i64 n)))), (29, .cell (.d (.sc (.bool false)))), (28, .cell (.d (.sc (.bool false)))), (27, .cell (.d (.sc (.bool false)))), (26, .cell (.d (.sc (.int .i64 n)))), (25, .cell (.d (.sc (.bool false)))), (24, .cell (.d (.sc (.bool false)))), (23, .cell (.d (.sc (.int .i64 n)))), (0, .cell (.d (.sc (.string b)))), (2, .cell (.own 2)), (3, .cell (.d (.sc (.int .i64 u)))), (4, .cell (.d (.sc (.int .i64 ((b.size : Int) - u))))), (5, .cell (.d (.sc (.int .i64 n))))], [(2, .arr 9 1 l.length (encS l))]⟩) (IEff.qstrSlice (s := b) (r := pay2) (p := (u + 8)) (q := ((u + 8) + n)) (by kernel_rfl) (by omega) (by omega) (by omega) hpay2) rfl rfl (by kernel_rfl) ?_
              refine AOps.steps (i := 9) (m := 1) (r := 2) (i' := 10) (st' := ⟨[(63, .cell (.own 63)), (62, .cell (.d (.sc (.string pay2)))), (61, .cell (.d (.sc (.int .i64 ((u + 8) + n))))), (60, .cell (.d (.sc (.int .i64 n)))), (59, .cell (.d (.sc (.int .i64 (u + 8))))), (58, .cell (.d (.sc (.int .i64 u)))), (57, .cell (.d (.sc (.int .i64 (u + 8))))), (56, .cell (.d (.sc (.int .i64 u)))), (55, .cell (.d (.sc (.string b)))), (54, .cell (.own 2)), (53, .cell (.d (.sc (.bool (!(seq (frameOf pay) whole)))))), (52, .cell (.d (.sc (.bool (!(seq (frameOf pay) whole)))))), (51, .cell (.d (.sc (.string whole)))), (50, .cell (.d (.sc (.int .i64 ((u + 8) + n))))), (49, .cell (.d (.sc (.int .i64 n)))), (48, .cell (.d (.sc (.int .i64 (u + 8))))), (47, .cell (.d (.sc (.int .i64 u)))), (46, .cell (.d (.sc (.int .i64 u)))), (45, .cell (.d (.sc (.string b)))), (44, .cell (.d (.sc (.string (frameOf pay))))), (43, .cell (.d (.sc (.string pay)))), (42, .cell (.d (.sc (.int .i64 ((u + 8) + n))))), (41, .cell (.d (.sc (.int .i64 n)))), (40, .cell (.d (.sc (.int .i64 (u + 8))))), (39, .cell (.d (.sc (.int .i64 u)))), (38, .cell (.d (.sc (.int .i64 (u + 8))))), (37, .cell (.d (.sc (.int .i64 u)))), (36, .cell (.d (.sc (.string b)))), (35, .cell (.d (.sc (.bool false)))), (34, .cell (.d (.sc (.bool false)))), (33, .cell (.d (.sc (.bool false)))), (32, .cell (.d (.sc (.int .i64 (((b.size : Int) - u) - 8))))), (31, .cell (.d (.sc (.int .i64 ((b.size : Int) - u))))), (30, .cell (.d (.sc (.int .i64 n)))), (29, .cell (.d (.sc (.bool false)))), (28, .cell (.d (.sc (.bool false)))), (27, .cell (.d (.sc (.bool false)))), (26, .cell (.d (.sc (.int .i64 n)))), (25, .cell (.d (.sc (.bool false)))), (24, .cell (.d (.sc (.bool false)))), (23, .cell (.d (.sc (.int .i64 n)))), (0, .cell (.d (.sc (.string b)))), (2, .cell (.own 2)), (3, .cell (.d (.sc (.int .i64 u)))), (4, .cell (.d (.sc (.int .i64 ((b.size : Int) - u))))), (5, .cell (.d (.sc (.int .i64 n))))], [(63, .arr 9 1 1 [.sc (.string pay2)]), (2, .arr 9 1 l.length (encS l))]⟩) (by kernel_rfl) rfl rfl ?_
              refine AOps.one (i := 10) (r := 1) (i' := 11) (e := .new 2 (.arr 9 1 ((l ++ [pay2]).length) (encS (l ++ [pay2]))) 64 (.cell (.own 2))) (st' := ⟨[(64, .cell (.own 2)), (63, .cell (.own 63)), (62, .cell (.d (.sc (.string pay2)))), (61, .cell (.d (.sc (.int .i64 ((u + 8) + n))))), (60, .cell (.d (.sc (.int .i64 n)))), (59, .cell (.d (.sc (.int .i64 (u + 8))))), (58, .cell (.d (.sc (.int .i64 u)))), (57, .cell (.d (.sc (.int .i64 (u + 8))))), (56, .cell (.d (.sc (.int .i64 u)))), (55, .cell (.d (.sc (.string b)))), (54, .cell (.junk)), (53, .cell (.d (.sc (.bool (!(seq (frameOf pay) whole)))))), (52, .cell (.d (.sc (.bool (!(seq (frameOf pay) whole)))))), (51, .cell (.d (.sc (.string whole)))), (50, .cell (.d (.sc (.int .i64 ((u + 8) + n))))), (49, .cell (.d (.sc (.int .i64 n)))), (48, .cell (.d (.sc (.int .i64 (u + 8))))), (47, .cell (.d (.sc (.int .i64 u)))), (46, .cell (.d (.sc (.int .i64 u)))), (45, .cell (.d (.sc (.string b)))), (44, .cell (.d (.sc (.string (frameOf pay))))), (43, .cell (.d (.sc (.string pay)))), (42, .cell (.d (.sc (.int .i64 ((u + 8) + n))))), (41, .cell (.d (.sc (.int .i64 n)))), (40, .cell (.d (.sc (.int .i64 (u + 8))))), (39, .cell (.d (.sc (.int .i64 u)))), (38, .cell (.d (.sc (.int .i64 (u + 8))))), (37, .cell (.d (.sc (.int .i64 u)))), (36, .cell (.d (.sc (.string b)))), (35, .cell (.d (.sc (.bool false)))), (34, .cell (.d (.sc (.bool false)))), (33, .cell (.d (.sc (.bool false)))), (32, .cell (.d (.sc (.int .i64 (((b.size : Int) - u) - 8))))), (31, .cell (.d (.sc (.int .i64 ((b.size : Int) - u))))), (30, .cell (.d (.sc (.int .i64 n)))), (29, .cell (.d (.sc (.bool false)))), (28, .cell (.d (.sc (.bool false)))), (27, .cell (.d (.sc (.bool false)))), (26, .cell (.d (.sc (.int .i64 n)))), (25, .cell (.d (.sc (.bool false)))), (24, .cell (.d (.sc (.bool false)))), (23, .cell (.d (.sc (.int .i64 n)))), (0, .cell (.d (.sc (.string b)))), (2, .cell (.junk)), (3, .cell (.d (.sc (.int .i64 u)))), (4, .cell (.d (.sc (.int .i64 ((b.size : Int) - u))))), (5, .cell (.d (.sc (.int .i64 n))))], [(2, .arr 9 1 ((l ++ [pay2]).length) (encS (l ++ [pay2]))), (63, .arr 9 1 1 [.sc (.string pay2)])]⟩) (IEff.qappend (te := 9) (e := 1) (bytes := 16) (n := l.length) (m := 1) (cs := (encS l)) (ys := [.sc (.string pay2)]) (by kernel_rfl) (ml (by omega)) (by omega) (by simp) (by simp [encS])) rfl rfl (by kernel_rfl) ?_
              refine AOps.steps (i := 11) (m := 1) (r := 0) (i' := 12) (st' := ⟨[(2, .cell (.own 2)), (64, .cell (.own 2)), (63, .cell (.own 63)), (62, .cell (.d (.sc (.string pay2)))), (61, .cell (.d (.sc (.int .i64 ((u + 8) + n))))), (60, .cell (.d (.sc (.int .i64 n)))), (59, .cell (.d (.sc (.int .i64 (u + 8))))), (58, .cell (.d (.sc (.int .i64 u)))), (57, .cell (.d (.sc (.int .i64 (u + 8))))), (56, .cell (.d (.sc (.int .i64 u)))), (55, .cell (.d (.sc (.string b)))), (54, .cell (.junk)), (53, .cell (.d (.sc (.bool (!(seq (frameOf pay) whole)))))), (52, .cell (.d (.sc (.bool (!(seq (frameOf pay) whole)))))), (51, .cell (.d (.sc (.string whole)))), (50, .cell (.d (.sc (.int .i64 ((u + 8) + n))))), (49, .cell (.d (.sc (.int .i64 n)))), (48, .cell (.d (.sc (.int .i64 (u + 8))))), (47, .cell (.d (.sc (.int .i64 u)))), (46, .cell (.d (.sc (.int .i64 u)))), (45, .cell (.d (.sc (.string b)))), (44, .cell (.d (.sc (.string (frameOf pay))))), (43, .cell (.d (.sc (.string pay)))), (42, .cell (.d (.sc (.int .i64 ((u + 8) + n))))), (41, .cell (.d (.sc (.int .i64 n)))), (40, .cell (.d (.sc (.int .i64 (u + 8))))), (39, .cell (.d (.sc (.int .i64 u)))), (38, .cell (.d (.sc (.int .i64 (u + 8))))), (37, .cell (.d (.sc (.int .i64 u)))), (36, .cell (.d (.sc (.string b)))), (35, .cell (.d (.sc (.bool false)))), (34, .cell (.d (.sc (.bool false)))), (33, .cell (.d (.sc (.bool false)))), (32, .cell (.d (.sc (.int .i64 (((b.size : Int) - u) - 8))))), (31, .cell (.d (.sc (.int .i64 ((b.size : Int) - u))))), (30, .cell (.d (.sc (.int .i64 n)))), (29, .cell (.d (.sc (.bool false)))), (28, .cell (.d (.sc (.bool false)))), (27, .cell (.d (.sc (.bool false)))), (26, .cell (.d (.sc (.int .i64 n)))), (25, .cell (.d (.sc (.bool false)))), (24, .cell (.d (.sc (.bool false)))), (23, .cell (.d (.sc (.int .i64 n)))), (0, .cell (.d (.sc (.string b)))), (3, .cell (.d (.sc (.int .i64 u)))), (4, .cell (.d (.sc (.int .i64 ((b.size : Int) - u))))), (5, .cell (.d (.sc (.int .i64 n))))], [(2, .arr 9 1 ((l ++ [pay2]).length) (encS (l ++ [pay2]))), (63, .arr 9 1 1 [.sc (.string pay2)])]⟩) (by kernel_rfl) rfl rfl ?_
              refine AOps.keep [0, 2, 3, 5] [2] (st' := ⟨[(0, .cell (.d (.sc (.string b)))), (2, .cell (.own 2)), (3, .cell (.d (.sc (.int .i64 u)))), (5, .cell (.d (.sc (.int .i64 n))))], [(2, .arr 9 1 ((l ++ [pay2]).length) (encS (l ++ [pay2])))]⟩) (by kernel_rfl) ?_
              refine AOps.done ?_
              refine Then.go ?_
              refine AW.region (n := 5) (by kernel_rfl) (by kernel_rfl) ?_
              refine AOps.steps (i := 0) (m := 5) (r := 0) (i' := 5) (st' := ⟨[(3, .cell (.d (.sc (.int .i64 (IntKind.wrap .i64 (u + (IntKind.wrap .i64 (8 + n)))))))), (68, .cell (.d (.sc (.int .i64 (IntKind.wrap .i64 (u + (IntKind.wrap .i64 (8 + n)))))))), (67, .cell (.d (.sc (.int .i64 (IntKind.wrap .i64 (8 + n)))))), (66, .cell (.d (.sc (.int .i64 n)))), (65, .cell (.d (.sc (.int .i64 u)))), (0, .cell (.d (.sc (.string b)))), (2, .cell (.own 2)), (5, .cell (.d (.sc (.int .i64 n))))], [(2, .arr 9 1 ((l ++ [pay2]).length) (encS (l ++ [pay2])))]⟩) (by kernel_rfl) rfl rfl ?_
              have w18 : IntKind.wrap .i64 (8 + n) = 8 + n := wrap_i64 _ (by omega) (by omega)
              rw [w18]
              clear w18
              have w19 : IntKind.wrap .i64 (u + (8 + n)) = u + (8 + n) := wrap_i64 _ (by omega) (by omega)
              rw [w19]
              clear w19
              refine AOps.keep [0, 2, 3] [2] (st' := ⟨[(0, .cell (.d (.sc (.string b)))), (2, .cell (.own 2)), (3, .cell (.d (.sc (.int .i64 (u + (8 + n))))))], [(2, .arr 9 1 ((l ++ [pay2]).length) (encS (l ++ [pay2])))]⟩) (by kernel_rfl) ?_
              refine AOps.done ?_
              refine InBlk.go ?_
              refine Then.go ?_
              refine AW.region (n := 5) (by kernel_rfl) (by kernel_rfl) ?_
              refine AOps.steps (i := 0) (m := 5) (r := 0) (i' := 5) (st' := ⟨[(4, .cell (.d (.sc (.int .i64 (IntKind.wrap .i64 ((b.size : Int) - (u + (8 + n)))))))), (15, .cell (.d (.sc (.int .i64 (IntKind.wrap .i64 ((b.size : Int) - (u + (8 + n)))))))), (14, .cell (.d (.sc (.int .i64 (u + (8 + n)))))), (13, .cell (.d (.sc (.int .i64 (b.size : Int))))), (12, .cell (.d (.sc (.string b)))), (0, .cell (.d (.sc (.string b)))), (2, .cell (.own 2)), (3, .cell (.d (.sc (.int .i64 (u + (8 + n))))))], [(2, .arr 9 1 ((l ++ [pay2]).length) (encS (l ++ [pay2])))]⟩) (by kernel_rfl) rfl rfl ?_
              have w20 : IntKind.wrap .i64 ((b.size : Int) - (u + (8 + n))) = (b.size : Int) - (u + (8 + n)) := wrap_i64 _ (by omega) (by omega)
              rw [w20]
              clear w20
              refine AOps.keep [0, 2, 3, 4] [2] (st' := ⟨[(0, .cell (.d (.sc (.string b)))), (2, .cell (.own 2)), (3, .cell (.d (.sc (.int .i64 (u + (8 + n)))))), (4, .cell (.d (.sc (.int .i64 ((b.size : Int) - (u + (8 + n)))))))], [(2, .arr 9 1 ((l ++ [pay2]).length) (encS (l ++ [pay2])))]⟩) (by kernel_rfl) ?_
              refine AOps.done ?_
              refine LoopP.go (l ++ [pay2], u + (8 + n)) [0, 2, 3, 4] [2] ?_ ?_ ?_
              · kernel_rfl
              · exact ⟨by omega, by omega, by simp; omega, frames_step2 b l u n pay whole pay2 h0 hn2 (by omega) (by omega) (by omega) hpay hwhole hpay2 ((seq_iff _ _).1 hcmp) hch⟩
              · (try dsimp only); omega
    · -- decide (((b.size : Int) - u : Int) > 8) = False
      try simp only [Bool.and_eq_true, Bool.or_eq_true, Bool.and_eq_false_iff, Bool.or_eq_false_iff, decide_eq_true_eq, decide_eq_false_iff_not, beq_iff_eq, bne_iff_ne, ne_eq, Bool.not_eq_true', Bool.not_eq_false', beq_eq_false_iff_ne, bne_eq_false_iff_eq, Decidable.not_not, Int.not_lt, Int.not_le, gt_iff_lt, ge_iff_le] at h2
      refine AW.exit (by kernel_rfl) ?_
      refine Then.exit ?_
      refine LoopP.exit ?_
      refine InBlk.exit ?_
      refine Then.go ?_
      refine AW.seq (by kernel_rfl) ?_
      refine AW.region (n := 4) (by kernel_rfl) (by kernel_rfl) ?_
      refine AOps.steps (i := 0) (m := 4) (r := 0) (i' := 4) (st' := ⟨[(3, .cell (.d (.sc (.int .i64 u)))), (2, .cell (.own 2)), (70, .cell (.d (.sc (.int .i64 u)))), (69, .cell (.own 2)), (0, .cell (.d (.sc (.string b)))), (4, .cell (.d (.sc (.int .i64 ((b.size : Int) - u))))), (11, .cell (.d (.sc (.bool (decide (((b.size : Int) - u : Int) > 8))))))], [(2, .arr 9 1 l.length (encS l))]⟩) (by kernel_rfl) rfl rfl ?_
      refine AOps.keep [2, 3] [2] (st' := ⟨[(2, .cell (.own 2)), (3, .cell (.d (.sc (.int .i64 u))))], [(2, .arr 9 1 l.length (encS l))]⟩) (by kernel_rfl) ?_
      refine AOps.done ?_
      refine Then.go ?_
      refine AW.ret (by kernel_rfl) ?_
      refine RetF.of_ret [2] (x := .tup [.cell (.d (.sl 1 l.length (encS l))), .cell (.d (.sc (.int .i64 u)))]) (by kernel_rfl) ?_
      refine ⟨(l, u), ⟨by omega, hch, fun k hk => ?_⟩, ret_eq rfl, trivial⟩
      have hk2 := hk
      obtain ⟨k1, k2, k3, k4, k5⟩ := hk
      dsimp only at k1 k2 k3 k4 k5
      first
        | omega
        | (rw [hn2] at k4; omega)
        | (rw [hn2] at k4; subst k4; have := (ref_isF b pay whole u.toNat k hn2 (by omega) (by omega) (by omega) (by rw [← hpay]; congr 1 <;> omega) (by rw [← hwhole]; congr 1 <;> omega)).1 hk2; rw [(seq_iff _ _).2 this] at hcmp; cases hcmp)

noncomputable def C17 : Code := (Tryd.f17.body).getD .skip

theorem equalS (a b : List ByteArray) (ha : a.length ≤ 1152921504606846976) (hb : b.length ≤ 1152921504606846976) : PCalls Tryd.prog 17 [.cell (.d (.sl 1 a.length (encS a))), .cell (.d (.sl 1 b.length (encS b)))] (.cell (.d (.sc (.bool (decide (a = b)))))) := by
  refine ACalls.of_AWF (fn := Tryd.f17) (c := C17) (N := 26) (rs := [.tmp 4]) Tryd.func17 (by kernel_rfl) (by kernel_rfl) (by kernel_rfl) (by kernel_rfl) (by kernel_rfl) ?_
  show AW Tryd.prog 26 C17 ⟨[(0, .cell (.d (.sl 1 a.length (encS a)))), (1, .cell (.d (.sl 1 b.length (encS b))))], []⟩ _
  refine AW.seq (by kernel_rfl) ?_
  refine AW.region (n := 1) (by kernel_rfl) (by kernel_rfl) ?_
  refine AOps.steps (i := 0) (m := 1) (r := 0) (i' := 1) (st' := ⟨[(4, .cell (.d (.sc (.bool false)))), (0, .cell (.d (.sl 1 a.length (encS a)))), (1, .cell (.d (.sl 1 b.length (encS b))))], []⟩) (by kernel_rfl) rfl rfl ?_
  refine AOps.keep [0, 1] [] (st' := ⟨[(0, .cell (.d (.sl 1 a.length (encS a)))), (1, .cell (.d (.sl 1 b.length (encS b))))], []⟩) (by kernel_rfl) ?_
  refine AOps.done ?_
  refine Then.go ?_
  refine AW.seq (by kernel_rfl) ?_
  refine AW.seq (by kernel_rfl) ?_
  refine AW.region (n := 5) (by kernel_rfl) (by kernel_rfl) ?_
  refine AOps.steps (i := 0) (m := 5) (r := 0) (i' := 5) (st' := ⟨[(10, .cell (.d (.sc (.bool (((a.length : Int) : Int) != (b.length : Int)))))), (9, .cell (.d (.sc (.int .i64 (b.length : Int))))), (8, .cell (.d (.sl 1 b.length (encS b)))), (7, .cell (.d (.sc (.int .i64 (a.length : Int))))), (6, .cell (.d (.sl 1 a.length (encS a)))), (0, .cell (.d (.sl 1 a.length (encS a)))), (1, .cell (.d (.sl 1 b.length (encS b))))], []⟩) (by kernel_rfl) rfl rfl ?_
  refine AOps.keep [0, 1, 10] [] (st' := ⟨[(0, .cell (.d (.sl 1 a.length (encS a)))), (1, .cell (.d (.sl 1 b.length (encS b)))), (10, .cell (.d (.sc (.bool (((a.length : Int) : Int) != (b.length : Int))))))], []⟩) (by kernel_rfl) ?_
  refine AOps.done ?_
  refine Then.go ?_
  refine AW.cond (b := ((a.length : Int) : Int) != (b.length : Int)) (by kernel_rfl) (by kernel_rfl) (fun h1 => ?_) (fun h1 => ?_)
  · -- ((a.length : Int) : Int) != (b.length : Int) = True
    try simp only [Bool.and_eq_true, Bool.or_eq_true, Bool.and_eq_false_iff, Bool.or_eq_false_iff, decide_eq_true_eq, decide_eq_false_iff_not, beq_iff_eq, bne_iff_ne, ne_eq, Bool.not_eq_true', Bool.not_eq_false', beq_eq_false_iff_ne, bne_eq_false_iff_eq, Decidable.not_not, Int.not_lt, Int.not_le, gt_iff_lt, ge_iff_le] at h1
    refine AW.seq (by kernel_rfl) ?_
    refine AW.region (n := 1) (by kernel_rfl) (by kernel_rfl) ?_
    refine AOps.steps (i := 0) (m := 1) (r := 0) (i' := 1) (st' := ⟨[(4, .cell (.d (.sc (.bool false)))), (0, .cell (.d (.sl 1 a.length (encS a)))), (1, .cell (.d (.sl 1 b.length (encS b)))), (10, .cell (.d (.sc (.bool (((a.length : Int) : Int) != (b.length : Int))))))], []⟩) (by kernel_rfl) rfl rfl ?_
    refine AOps.keep [4] [] (st' := ⟨[(4, .cell (.d (.sc (.bool false))))], []⟩) (by kernel_rfl) ?_
    refine AOps.done ?_
    refine Then.go ?_
    refine AW.ret (by kernel_rfl) ?_
    refine Then.ret ?_
    refine RetF.of_ret [] (x := .cell (.d (.sc (.bool false)))) (by kernel_rfl) ?_
    congr 4; simp; intro h; simp [h] at h1
  · -- ((a.length : Int) : Int) != (b.length : Int) = False
    try simp only [Bool.and_eq_true, Bool.or_eq_true, Bool.and_eq_false_iff, Bool.or_eq_false_iff, decide_eq_true_eq, decide_eq_false_iff_not, beq_iff_eq, bne_iff_ne, ne_eq, Bool.not_eq_true', Bool.not_eq_false', beq_eq_false_iff_ne, bne_eq_false_iff_eq, Decidable.not_not, Int.not_lt, Int.not_le, gt_iff_lt, ge_iff_le] at h1
    refine AW.skip (by kernel_rfl) ?_
    refine Then.go ?_
    refine AW.seq (by kernel_rfl) ?_
    refine AW.seq (by kernel_rfl) ?_
    refine AW.region (n := 3) (by kernel_rfl) (by kernel_rfl) ?_
    refine AOps.steps (i := 0) (m := 3) (r := 0) (i' := 3) (st' := ⟨[(13, .cell (.d (.sc (.int .i64 0)))), (12, .cell (.d (.sc (.int .i64 (a.length : Int))))), (11, .cell (.d (.sl 1 a.length (encS a)))), (0, .cell (.d (.sl 1 a.length (encS a)))), (1, .cell (.d (.sl 1 b.length (encS b)))), (10, .cell (.d (.sc (.bool (((a.length : Int) : Int) != (b.length : Int))))))], []⟩) (by kernel_rfl) rfl rfl ?_
    refine AOps.keep [0, 1, 12, 13] [] (st' := ⟨[(0, .cell (.d (.sl 1 a.length (encS a)))), (1, .cell (.d (.sl 1 b.length (encS b)))), (12, .cell (.d (.sc (.int .i64 (a.length : Int))))), (13, .cell (.d (.sc (.int .i64 0))))], []⟩) (by kernel_rfl) ?_
    refine AOps.done ?_
    refine Then.go ?_
    refine AW.block (by kernel_rfl) ?_
    refine AW.keep [0, 1, 12, 13] [] (st' := ⟨[(0, .cell (.d (.sl 1 a.length (encS a)))), (1, .cell (.d (.sl 1 b.length (encS b)))), (12, .cell (.d (.sc (.int .i64 (a.length : Int))))), (13, .cell (.d (.sc (.int .i64 0))))], []⟩) (by kernel_rfl) ?_
    refine AW.loopJ (α := Int) (by kernel_rfl) (fun j => (⟨[(0, .cell (.d (.sl 1 a.length (encS a)))), (1, .cell (.d (.sl 1 b.length (encS b)))), (12, .cell (.d (.sc (.int .i64 (a.length : Int))))), (13, .cell (.d (.sc (.int .i64 j))))], []⟩ : ASt)) (fun j => 0 ≤ j ∧ j ≤ (a.length : Int) ∧ a.length = b.length ∧ a.take j.toNat = b.take j.toNat) (fun j => a.length - j.toNat) 0 ?_ ?_ ?_
    · rfl
    · exact ⟨by omega, by omega, by omega, by simp⟩
    · intro j hJ
      obtain ⟨h0, h1, hab, htk⟩ := hJ
      refine AW.seq (by kernel_rfl) ?_
      refine AW.region (n := 1) (by kernel_rfl) (by kernel_rfl) ?_
      refine AOps.steps (i := 0) (m := 1) (r := 0) (i' := 1) (st' := ⟨[(14, .cell (.d (.sc (.bool (decide ((j : Int) < (a.length : Int))))))), (0, .cell (.d (.sl 1 a.length (encS a)))), (1, .cell (.d (.sl 1 b.length (encS b)))), (12, .cell (.d (.sc (.int .i64 (a.length : Int))))), (13, .cell (.d (.sc (.int .i64 j))))], []⟩) (by kernel_rfl) rfl rfl ?_
      refine AOps.keep [0, 1, 12, 13, 14] [] (st' := ⟨[(0, .cell (.d (.sl 1 a.length (encS a)))), (1, .cell (.d (.sl 1 b.length (encS b)))), (12, .cell (.d (.sc (.int .i64 (a.length : Int))))), (13, .cell (.d (.sc (.int .i64 j)))), (14, .cell (.d (.sc (.bool (decide ((j : Int) < (a.length : Int)))))))], []⟩) (by kernel_rfl) ?_
      refine AOps.done ?_
      refine Then.go ?_
      refine AW.seq (by kernel_rfl) ?_
      refine AW.cond (b := decide ((j : Int) < (a.length : Int))) (by kernel_rfl) (by kernel_rfl) (fun h2 => ?_) (fun h2 => ?_)
      · -- decide ((j : Int) < (a.length : Int)) = True
        try simp only [Bool.and_eq_true, Bool.or_eq_true, Bool.and_eq_false_iff, Bool.or_eq_false_iff, decide_eq_true_eq, decide_eq_false_iff_not, beq_iff_eq, bne_iff_ne, ne_eq, Bool.not_eq_true', Bool.not_eq_false', beq_eq_false_iff_ne, bne_eq_false_iff_eq, Decidable.not_not, Int.not_lt, Int.not_le, gt_iff_lt, ge_iff_le] at h2
        refine AW.skip (by kernel_rfl) ?_
        refine Then.go ?_
        refine AW.seq (by kernel_rfl) ?_
        refine AW.block (by kernel_rfl) ?_
        refine AW.seq (by kernel_rfl) ?_
        refine AW.region (n := 2) (by kernel_rfl) (by kernel_rfl) ?_
        refine AOps.steps (i := 0) (m := 2) (r := 0) (i' := 2) (st' := ⟨[(5, .cell (.d (.sc (.int .i64 j)))), (15, .cell (.d (.sc (.int .i64 j)))), (0, .cell (.d (.sl 1 a.length (encS a)))), (1, .cell (.d (.sl 1 b.length (encS b)))), (12, .cell (.d (.sc (.int .i64 (a.length : Int))))), (13, .cell (.d (.sc (.int .i64 j)))), (14, .cell (.d (.sc (.bool (decide ((j : Int) < (a.length : Int)))))))], []⟩) (by kernel_rfl) rfl rfl ?_
        refine AOps.keep [0, 1, 5, 12, 13] [] (st' := ⟨[(0, .cell (.d (.sl 1 a.length (encS a)))), (1, .cell (.d (.sl 1 b.length (encS b)))), (5, .cell (.d (.sc (.int .i64 j)))), (12, .cell (.d (.sc (.int .i64 (a.length : Int))))), (13, .cell (.d (.sc (.int .i64 j))))], []⟩) (by kernel_rfl) ?_
        refine AOps.done ?_
        refine Then.go ?_
        refine AW.seq (by kernel_rfl) ?_
        obtain ⟨x3, hx3⟩ := at_of (l := a) (i := (j).toNat) (by omega)
        obtain ⟨x4, hx4⟩ := at_of (l := b) (i := (j).toNat) (by omega)
        refine AW.drawn (by kernel_rfl) (by kernel_rfl) [.put 16 (.cell (.d (.sl 1 a.length (encS a)))), .put 17 (.cell (.d (.sc (.int .i64 j)))), .put 18 (.cell (.d (.rp [.sc (.string x3)]))), .put 19 (.cell (.d (.sc (.string x3)))), .put 20 (.cell (.d (.sl 1 b.length (encS b)))), .put 21 (.cell (.d (.sc (.int .i64 j)))), .put 22 (.cell (.d (.rp [.sc (.string x4)]))), .put 23 (.cell (.d (.sc (.string x4)))), .put 24 (.cell (.d (.sc (.bool (!(seq x3 x4))))))] [0, 0, 3, 7, 0, 0, 48, 112, 255] (by kernel_rfl) (by kernel_rfl) (by kernel_rfl) ⟨fun f => .step1 (by kernel_rfl), fun f => .step1 (by kernel_rfl), fun f => IEff.qindex (e := 1) (n := a.length) (cs := (encS a)) (es := [.sc (.string x3)]) (j := j) (by kernel_rfl) (by omega) (by omega) (encS_at hx3), fun f => .step1 (by kernel_rfl), fun f => .step1 (by kernel_rfl), fun f => .step1 (by kernel_rfl), fun f => IEff.qindex (e := 1) (n := b.length) (cs := (encS b)) (es := [.sc (.string x4)]) (j := j) (by kernel_rfl) (by omega) (by omega) (encS_at hx4), fun f => .step1 (by kernel_rfl), fun f => .step1 (by kernel_rfl), trivial⟩ (st' := ⟨[(24, .cell (.d (.sc (.bool (!(seq x3 x4)))))), (23, .cell (.d (.sc (.string x4)))), (22, .cell (.d (.rp [.sc (.string x4)]))), (21, .cell (.d (.sc (.int .i64 j)))), (20, .cell (.d (.sl 1 b.length (encS b)))), (19, .cell (.d (.sc (.string x3)))), (18, .cell (.d (.rp [.sc (.string x3)]))), (17, .cell (.d (.sc (.int .i64 j)))), (16, .cell (.d (.sl 1 a.length (encS a)))), (0, .cell (.d (.sl 1 a.length (encS a)))), (1, .cell (.d (.sl 1 b.length (encS b)))), (5, .cell (.d (.sc (.int .i64 j)))), (12, .cell (.d (.sc (.int .i64 (a.length : Int))))), (13, .cell (.d (.sc (.int .i64 j))))], []⟩) (by kernel_rfl) ?_
        refine Then.go ?_
        refine AW.cond (b := !(seq x3 x4)) (by kernel_rfl) (by kernel_rfl) (fun h3 => ?_) (fun h3 => ?_)
        · -- !(seq x3 x4) = True
          have hse := h3
          simp only [Bool.not_eq_true', Bool.not_eq_false'] at hse
          refine AW.seq (by kernel_rfl) ?_
          refine AW.region (n := 1) (by kernel_rfl) (by kernel_rfl) ?_
          refine AOps.steps (i := 0) (m := 1) (r := 0) (i' := 1) (st' := ⟨[(4, .cell (.d (.sc (.bool false)))), (24, .cell (.d (.sc (.bool (!(seq x3 x4)))))), (23, .cell (.d (.sc (.string x4)))), (22, .cell (.d (.rp [.sc (.string x4)]))), (21, .cell (.d (.sc (.int .i64 j)))), (20, .cell (.d (.sl 1 b.length (encS b)))), (19, .cell (.d (.sc (.string x3)))), (18, .cell (.d (.rp [.sc (.string x3)]))), (17, .cell (.d (.sc (.int .i64 j)))), (16, .cell (.d (.sl 1 a.length (encS a)))), (0, .cell (.d (.sl 1 a.length (encS a)))), (1, .cell (.d (.sl 1 b.length (encS b)))), (5, .cell (.d (.sc (.int .i64 j)))), (12, .cell (.d (.sc (.int .i64 (a.length : Int))))), (13, .cell (.d (.sc (.int .i64 j))))], []⟩) (by kernel_rfl) rfl rfl ?_
          refine AOps.keep [4] [] (st' := ⟨[(4, .cell (.d (.sc (.bool false))))], []⟩) (by kernel_rfl) ?_
          refine AOps.done ?_
          refine Then.go ?_
          refine AW.ret (by kernel_rfl) ?_
          refine InBlk.ret ?_
          refine Then.ret ?_
          refine LoopP.ret ?_
          refine InBlk.ret ?_
          refine Then.ret ?_
          refine RetF.of_ret [] (x := .cell (.d (.sc (.bool false)))) (by kernel_rfl) ?_
          congr 4; simp; intro h; subst h; rw [hx3] at hx4; have e5 := Option.some.inj hx4; subst e5; rw [(seq_iff _ _).2 rfl] at hse; cases hse
        · -- !(seq x3 x4) = False
          have hse := h3
          simp only [Bool.not_eq_true', Bool.not_eq_false'] at hse
          refine AW.skip (by kernel_rfl) ?_
          refine InBlk.go ?_
          refine Then.go ?_
          refine AW.region (n := 2) (by kernel_rfl) (by kernel_rfl) ?_
          refine AOps.steps (i := 0) (m := 2) (r := 0) (i' := 2) (st' := ⟨[(13, .cell (.d (.sc (.int .i64 (IntKind.wrap .i64 (j + 1)))))), (25, .cell (.d (.sc (.int .i64 (IntKind.wrap .i64 (j + 1)))))), (24, .cell (.d (.sc (.bool (!(seq x3 x4)))))), (23, .cell (.d (.sc (.string x4)))), (22, .cell (.d (.rp [.sc (.string x4)]))), (21, .cell (.d (.sc (.int .i64 j)))), (20, .cell (.d (.sl 1 b.length (encS b)))), (19, .cell (.d (.sc (.string x3)))), (18, .cell (.d (.rp [.sc (.string x3)]))), (17, .cell (.d (.sc (.int .i64 j)))), (16, .cell (.d (.sl 1 a.length (encS a)))), (0, .cell (.d (.sl 1 a.length (encS a)))), (1, .cell (.d (.sl 1 b.length (encS b)))), (5, .cell (.d (.sc (.int .i64 j)))), (12, .cell (.d (.sc (.int .i64 (a.length : Int)))))], []⟩) (by kernel_rfl) rfl rfl ?_
          have w4 : IntKind.wrap .i64 (j + 1) = j + 1 := wrap_i64 _ (by omega) (by omega)
          rw [w4]
          clear w4
          refine AOps.keep [0, 1, 12, 13] [] (st' := ⟨[(0, .cell (.d (.sl 1 a.length (encS a)))), (1, .cell (.d (.sl 1 b.length (encS b)))), (12, .cell (.d (.sc (.int .i64 (a.length : Int))))), (13, .cell (.d (.sc (.int .i64 (j + 1)))))], []⟩) (by kernel_rfl) ?_
          refine AOps.done ?_
          refine LoopP.go (j + 1) [0, 1, 12, 13] [] ?_ ?_ ?_
          · kernel_rfl
          · refine ⟨by omega, by omega, hab, ?_⟩; rw [show (j+1).toNat = j.toNat + 1 by omega, take_succ_of hx3, take_succ_of hx4, htk, (seq_iff _ _).1 hse]
          · (try dsimp only); omega
      · -- decide ((j : Int) < (a.length : Int)) = False
        try simp only [Bool.and_eq_true, Bool.or_eq_true, Bool.and_eq_false_iff, Bool.or_eq_false_iff, decide_eq_true_eq, decide_eq_false_iff_not, beq_iff_eq, bne_iff_ne, ne_eq, Bool.not_eq_true', Bool.not_eq_false', beq_eq_false_iff_ne, bne_eq_false_iff_eq, Decidable.not_not, Int.not_lt, Int.not_le, gt_iff_lt, ge_iff_le] at h2
        refine AW.exit (by kernel_rfl) ?_
        refine Then.exit ?_
        refine LoopP.exit ?_
        refine InBlk.exit ?_
        refine Then.go ?_
        refine AW.seq (by kernel_rfl) ?_
        refine AW.region (n := 1) (by kernel_rfl) (by kernel_rfl) ?_
        refine AOps.steps (i := 0) (m := 1) (r := 0) (i' := 1) (st' := ⟨[(4, .cell (.d (.sc (.bool true)))), (0, .cell (.d (.sl 1 a.length (encS a)))), (1, .cell (.d (.sl 1 b.length (encS b)))), (12, .cell (.d (.sc (.int .i64 (a.length : Int))))), (13, .cell (.d (.sc (.int .i64 j)))), (14, .cell (.d (.sc (.bool (decide ((j : Int) < (a.length : Int)))))))], []⟩) (by kernel_rfl) rfl rfl ?_
        refine AOps.keep [4] [] (st' := ⟨[(4, .cell (.d (.sc (.bool true))))], []⟩) (by kernel_rfl) ?_
        refine AOps.done ?_
        refine Then.go ?_
        refine AW.ret (by kernel_rfl) ?_
        refine RetF.of_ret [] (x := .cell (.d (.sc (.bool true)))) (by kernel_rfl) ?_
        congr 4; simp; have e : j.toNat = a.length := by omega
        rw [e, List.take_length] at htk; rw [htk, hab, List.take_length]

end Go.Proofs.YtdngaeekecbgpaaDoor
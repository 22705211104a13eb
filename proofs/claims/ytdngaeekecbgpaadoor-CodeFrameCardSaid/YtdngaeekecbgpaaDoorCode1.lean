/- Walks of package code, over numbers. -/
import Derived.Test.YtdngaeekecbgpaaDoorCodeLaw
namespace Go.Proofs.YtdngaeekecbgpaaDoor
open Go Esp
set_option maxRecDepth 100000
set_option linter.unusedSimpArgs false
set_option linter.unusedVariables false
noncomputable def C27 : Code := (Tryd.f27.body).getD .skip

theorem number_c (l : List UInt8) (n : Int) (size : Nat) (hl : l.length ≤ 1099511627776) (hs : size ≤ 8) : ACalls Tryd.prog 27 [.cell (.own 1000000), .cell (.d (.sc (.int .u64 n))), .cell (.d (.sc (.int .i64 (size : Int))))] [(1000000, .arr 5 1 l.length (bytesD l))] (ER (α := Unit) (fun _ => True) (fun _ => .cell (.own 1000000)) (fun _ => [(1000000, .arr 5 1 ((l ++ numB n size).length) (bytesD (l ++ numB n size)))])) := by
  refine ACalls.of_AWF (fn := Tryd.f27) (c := C27) (N := 23) (rs := [.tmp 6]) Tryd.func27 (by kernel_rfl) (by kernel_rfl) (by kernel_rfl) (by kernel_rfl) (by kernel_rfl) ?_
  show AW Tryd.prog 23 C27 ⟨[(0, .cell (.own 1000000)), (1, .cell (.d (.sc (.int .u64 n)))), (2, .cell (.d (.sc (.int .i64 (size : Int)))))], [(1000000, .arr 5 1 l.length (bytesD l))]⟩ _
  refine AW.seq (by kernel_rfl) ?_
  refine AW.region (n := 1) (by kernel_rfl) (by kernel_rfl) ?_
  refine AOps.steps (i := 0) (m := 1) (r := 0) (i' := 1) (st' := ⟨[(6, .cell (.d (.sc (.slice none 0 0)))), (0, .cell (.own 1000000)), (1, .cell (.d (.sc (.int .u64 n)))), (2, .cell (.d (.sc (.int .i64 (size : Int)))))], [(1000000, .arr 5 1 l.length (bytesD l))]⟩) (by kernel_rfl) rfl rfl ?_
  refine AOps.keep [0, 1, 2] [1000000] (st' := ⟨[(0, .cell (.own 1000000)), (1, .cell (.d (.sc (.int .u64 n)))), (2, .cell (.d (.sc (.int .i64 (size : Int)))))], [(1000000, .arr 5 1 l.length (bytesD l))]⟩) (by kernel_rfl) ?_
  refine AOps.done ?_
  refine Then.go ?_
  refine AW.seq (by kernel_rfl) ?_
  refine AW.seq (by kernel_rfl) ?_
  refine AW.region (n := 3) (by kernel_rfl) (by kernel_rfl) ?_
  refine AOps.steps (i := 0) (m := 3) (r := 0) (i' := 3) (st' := ⟨[(7, .cell (.d (.sc (.int .i64 (IntKind.wrap .i64 ((size : Int) - 1)))))), (9, .cell (.d (.sc (.int .i64 (IntKind.wrap .i64 ((size : Int) - 1)))))), (8, .cell (.d (.sc (.int .i64 (size : Int))))), (0, .cell (.own 1000000)), (1, .cell (.d (.sc (.int .u64 n)))), (2, .cell (.d (.sc (.int .i64 (size : Int)))))], [(1000000, .arr 5 1 l.length (bytesD l))]⟩) (by kernel_rfl) rfl rfl ?_
  have w1 : IntKind.wrap .i64 ((size : Int) - 1) = (size : Int) - 1 := wrap_i64 _ (by omega) (by omega)
  rw [w1]
  clear w1
  refine AOps.keep [0, 1, 7] [1000000] (st' := ⟨[(0, .cell (.own 1000000)), (1, .cell (.d (.sc (.int .u64 n)))), (7, .cell (.d (.sc (.int .i64 ((size : Int) - 1)))))], [(1000000, .arr 5 1 l.length (bytesD l))]⟩) (by kernel_rfl) ?_
  refine AOps.done ?_
  refine Then.go ?_
  refine AW.block (by kernel_rfl) ?_
  refine AW.keep [0, 1, 7] [1000000] (st' := ⟨[(0, .cell (.own 1000000)), (1, .cell (.d (.sc (.int .u64 n)))), (7, .cell (.d (.sc (.int .i64 ((size : Int) - 1)))))], [(1000000, .arr 5 1 l.length (bytesD l))]⟩) (by kernel_rfl) ?_
  refine AW.loopJ (α := List UInt8 × Int) (by kernel_rfl) (fun ⟨acc, i⟩ => (⟨[(0, .cell (.own 1000000)), (1, .cell (.d (.sc (.int .u64 n)))), (7, .cell (.d (.sc (.int .i64 i))))], [(1000000, .arr 5 1 ((l ++ acc).length) (bytesD (l ++ acc)))]⟩ : ASt)) (fun ⟨acc, i⟩ => acc ++ numB n (i + 1).toNat = numB n size ∧ -1 ≤ i ∧ i < (size : Int) ∧ (acc.length : Int) + i + 1 = size) (fun ⟨acc, i⟩ => (i + 1).toNat) ([], (size : Int) - 1) ?_ ?_ ?_
  · simp
  · exact ⟨by simp, by omega, by omega, by simp⟩
  · intro ⟨acc, i⟩ hJ
    obtain ⟨hJ, h0, h1, hac⟩ := hJ
    dsimp only at hJ h0 h1 hac ⊢
    refine AW.seq (by kernel_rfl) ?_
    refine AW.seq (by kernel_rfl) ?_
    refine AW.region (n := 2) (by kernel_rfl) (by kernel_rfl) ?_
    refine AOps.steps (i := 0) (m := 2) (r := 0) (i' := 2) (st' := ⟨[(11, .cell (.d (.sc (.bool (decide ((i : Int) ≥ 0)))))), (10, .cell (.d (.sc (.int .i64 i)))), (0, .cell (.own 1000000)), (1, .cell (.d (.sc (.int .u64 n)))), (7, .cell (.d (.sc (.int .i64 i))))], [(1000000, .arr 5 1 ((l ++ acc).length) (bytesD (l ++ acc)))]⟩) (by kernel_rfl) rfl rfl ?_
    refine AOps.keep [0, 1, 7, 11] [1000000] (st' := ⟨[(0, .cell (.own 1000000)), (1, .cell (.d (.sc (.int .u64 n)))), (7, .cell (.d (.sc (.int .i64 i)))), (11, .cell (.d (.sc (.bool (decide ((i : Int) ≥ 0))))))], [(1000000, .arr 5 1 ((l ++ acc).length) (bytesD (l ++ acc)))]⟩) (by kernel_rfl) ?_
    refine AOps.done ?_
    refine Then.go ?_
    refine AW.cond (b := decide ((i : Int) ≥ 0)) (by kernel_rfl) (by kernel_rfl) (fun h2 => ?_) (fun h2 => ?_)
    · -- decide ((i : Int) ≥ 0) = True
      try simp only [Bool.and_eq_true, Bool.or_eq_true, Bool.and_eq_false_iff, Bool.or_eq_false_iff, decide_eq_true_eq, decide_eq_false_iff_not, beq_iff_eq, bne_iff_ne, ne_eq, Bool.not_eq_true', Bool.not_eq_false', beq_eq_false_iff_ne, bne_eq_false_iff_eq, Decidable.not_not, Int.not_lt, Int.not_le, gt_iff_lt, ge_iff_le] at h2
      refine AW.skip (by kernel_rfl) ?_
      refine Then.go ?_
      refine AW.seq (by kernel_rfl) ?_
      refine AW.block (by kernel_rfl) ?_
      refine AW.region (n := 9) (by kernel_rfl) (by kernel_rfl) ?_
      refine AOps.steps (i := 0) (m := 4) (r := 5) (i' := 4) (st' := ⟨[(17, .cell (.d (.sc (.int .i64 (IntKind.wrap .i64 (8 * i)))))), (16, .cell (.d (.sc (.int .i64 i)))), (15, .cell (.d (.sc (.int .u64 n)))), (14, .cell (.own 1000000)), (0, .cell (.own 1000000)), (1, .cell (.d (.sc (.int .u64 n)))), (7, .cell (.d (.sc (.int .i64 i)))), (11, .cell (.d (.sc (.bool (decide ((i : Int) ≥ 0))))))], [(1000000, .arr 5 1 ((l ++ acc).length) (bytesD (l ++ acc)))]⟩) (by kernel_rfl) rfl rfl ?_
      have w3 : IntKind.wrap .i64 (8 * i) = 8 * i := wrap_i64 _ (by omega) (by omega)
      rw [w3]
      clear w3
      refine AOps.one (i := 4) (r := 4) (i' := 5) (e := .put 18 (.cell (.d (.sc (.int .u64 (bshr .u64 n (8 * i))))))) (st' := ⟨[(18, .cell (.d (.sc (.int .u64 (bshr .u64 n (8 * i)))))), (17, .cell (.d (.sc (.int .i64 (8 * i))))), (16, .cell (.d (.sc (.int .i64 i)))), (15, .cell (.d (.sc (.int .u64 n)))), (14, .cell (.own 1000000)), (0, .cell (.own 1000000)), (1, .cell (.d (.sc (.int .u64 n)))), (7, .cell (.d (.sc (.int .i64 i)))), (11, .cell (.d (.sc (.bool (decide ((i : Int) ≥ 0))))))], [(1000000, .arr 5 1 ((l ++ acc).length) (bytesD (l ++ acc)))]⟩) (IEff.qshr (k := .u64) (k2 := .i64) (x := n) (y := (8 * i)) (by kernel_rfl) (by omega)) rfl rfl (by kernel_rfl) ?_
      refine AOps.steps (i := 5) (m := 2) (r := 2) (i' := 7) (st' := ⟨[(20, .cell (.own 20)), (19, .cell (.d (.sc (.int .u8 (IntKind.wrap .u8 (bshr .u64 n (8 * i))))))), (18, .cell (.d (.sc (.int .u64 (bshr .u64 n (8 * i)))))), (17, .cell (.d (.sc (.int .i64 (8 * i))))), (16, .cell (.d (.sc (.int .i64 i)))), (15, .cell (.d (.sc (.int .u64 n)))), (14, .cell (.own 1000000)), (0, .cell (.own 1000000)), (1, .cell (.d (.sc (.int .u64 n)))), (7, .cell (.d (.sc (.int .i64 i)))), (11, .cell (.d (.sc (.bool (decide ((i : Int) ≥ 0))))))], [(20, .arr 5 1 1 [.sc (.int .u8 (IntKind.wrap .u8 (bshr .u64 n (8 * i))))]), (1000000, .arr 5 1 ((l ++ acc).length) (bytesD (l ++ acc)))]⟩) (by kernel_rfl) rfl rfl ?_
      refine AOps.one (i := 7) (r := 1) (i' := 8) (e := .new 1000000 (.arr 5 1 ((l ++ (acc ++ [byteAt n (8 * i)])).length) (bytesD (l ++ (acc ++ [byteAt n (8 * i)])))) 21 (.cell (.own 1000000))) (st' := ⟨[(21, .cell (.own 1000000)), (20, .cell (.own 20)), (19, .cell (.d (.sc (.int .u8 (IntKind.wrap .u8 (bshr .u64 n (8 * i))))))), (18, .cell (.d (.sc (.int .u64 (bshr .u64 n (8 * i)))))), (17, .cell (.d (.sc (.int .i64 (8 * i))))), (16, .cell (.d (.sc (.int .i64 i)))), (15, .cell (.d (.sc (.int .u64 n)))), (14, .cell (.junk)), (0, .cell (.junk)), (1, .cell (.d (.sc (.int .u64 n)))), (7, .cell (.d (.sc (.int .i64 i)))), (11, .cell (.d (.sc (.bool (decide ((i : Int) ≥ 0))))))], [(1000000, .arr 5 1 ((l ++ (acc ++ [byteAt n (8 * i)])).length) (bytesD (l ++ (acc ++ [byteAt n (8 * i)])))), (20, .arr 5 1 1 [.sc (.int .u8 (IntKind.wrap .u8 (bshr .u64 n (8 * i))))])]⟩) (IEff.qappend (te := 5) (e := 1) (bytes := 1) (n := ((l ++ acc).length)) (m := 1) (cs := (bytesD (l ++ acc))) (ys := [.sc (.int .u8 (IntKind.wrap .u8 (bshr .u64 n (8 * i))))]) (by kernel_rfl) (ml (by simp; omega)) (by simp; omega) (by simp; omega) (by rw [← List.append_assoc]; exact bytesD_snoc _ _ _ (byteAt_eq _ _))) rfl rfl (by kernel_rfl) ?_
      refine AOps.steps (i := 8) (m := 1) (r := 0) (i' := 9) (st' := ⟨[(0, .cell (.own 1000000)), (21, .cell (.own 1000000)), (20, .cell (.own 20)), (19, .cell (.d (.sc (.int .u8 (IntKind.wrap .u8 (bshr .u64 n (8 * i))))))), (18, .cell (.d (.sc (.int .u64 (bshr .u64 n (8 * i)))))), (17, .cell (.d (.sc (.int .i64 (8 * i))))), (16, .cell (.d (.sc (.int .i64 i)))), (15, .cell (.d (.sc (.int .u64 n)))), (14, .cell (.junk)), (1, .cell (.d (.sc (.int .u64 n)))), (7, .cell (.d (.sc (.int .i64 i)))), (11, .cell (.d (.sc (.bool (decide ((i : Int) ≥ 0))))))], [(1000000, .arr 5 1 ((l ++ (acc ++ [byteAt n (8 * i)])).length) (bytesD (l ++ (acc ++ [byteAt n (8 * i)])))), (20, .arr 5 1 1 [.sc (.int .u8 (IntKind.wrap .u8 (bshr .u64 n (8 * i))))])]⟩) (by kernel_rfl) rfl rfl ?_
      refine AOps.keep [0, 1, 7] [1000000] (st' := ⟨[(0, .cell (.own 1000000)), (1, .cell (.d (.sc (.int .u64 n)))), (7, .cell (.d (.sc (.int .i64 i))))], [(1000000, .arr 5 1 ((l ++ (acc ++ [byteAt n (8 * i)])).length) (bytesD (l ++ (acc ++ [byteAt n (8 * i)]))))]⟩) (by kernel_rfl) ?_
      refine AOps.done ?_
      refine InBlk.go ?_
      refine Then.go ?_
      refine AW.region (n := 3) (by kernel_rfl) (by kernel_rfl) ?_
      refine AOps.steps (i := 0) (m := 3) (r := 0) (i' := 3) (st' := ⟨[(7, .cell (.d (.sc (.int .i64 (IntKind.wrap .i64 (i - 1)))))), (13, .cell (.d (.sc (.int .i64 (IntKind.wrap .i64 (i - 1)))))), (12, .cell (.d (.sc (.int .i64 i)))), (0, .cell (.own 1000000)), (1, .cell (.d (.sc (.int .u64 n))))], [(1000000, .arr 5 1 ((l ++ (acc ++ [byteAt n (8 * i)])).length) (bytesD (l ++ (acc ++ [byteAt n (8 * i)]))))]⟩) (by kernel_rfl) rfl rfl ?_
      have w4 : IntKind.wrap .i64 (i - 1) = i - 1 := wrap_i64 _ (by omega) (by omega)
      rw [w4]
      clear w4
      refine AOps.keep [0, 1, 7] [1000000] (st' := ⟨[(0, .cell (.own 1000000)), (1, .cell (.d (.sc (.int .u64 n)))), (7, .cell (.d (.sc (.int .i64 (i - 1)))))], [(1000000, .arr 5 1 ((l ++ (acc ++ [byteAt n (8 * i)])).length) (bytesD (l ++ (acc ++ [byteAt n (8 * i)]))))]⟩) (by kernel_rfl) ?_
      refine AOps.done ?_
      refine LoopP.go (acc ++ [byteAt n (8 * i)], i - 1) [0, 1, 7] [1000000] ?_ ?_ ?_
      · kernel_rfl
      · exact ⟨by rw [show i - 1 + 1 = i by omega, ← hJ, numB_step _ _ (by omega)]; simp, by omega, by omega, by simp; omega⟩
      · (try dsimp only); omega
    · -- decide ((i : Int) ≥ 0) = False
      try simp only [Bool.and_eq_true, Bool.or_eq_true, Bool.and_eq_false_iff, Bool.or_eq_false_iff, decide_eq_true_eq, decide_eq_false_iff_not, beq_iff_eq, bne_iff_ne, ne_eq, Bool.not_eq_true', Bool.not_eq_false', beq_eq_false_iff_ne, bne_eq_false_iff_eq, Decidable.not_not, Int.not_lt, Int.not_le, gt_iff_lt, ge_iff_le] at h2
      refine AW.exit (by kernel_rfl) ?_
      refine Then.exit ?_
      refine LoopP.exit ?_
      refine InBlk.exit ?_
      refine Then.go ?_
      refine AW.seq (by kernel_rfl) ?_
      refine AW.region (n := 2) (by kernel_rfl) (by kernel_rfl) ?_
      refine AOps.steps (i := 0) (m := 2) (r := 0) (i' := 2) (st' := ⟨[(6, .cell (.own 1000000)), (22, .cell (.own 1000000)), (0, .cell (.own 1000000)), (1, .cell (.d (.sc (.int .u64 n)))), (7, .cell (.d (.sc (.int .i64 i)))), (11, .cell (.d (.sc (.bool (decide ((i : Int) ≥ 0))))))], [(1000000, .arr 5 1 ((l ++ acc).length) (bytesD (l ++ acc)))]⟩) (by kernel_rfl) rfl rfl ?_
      refine AOps.keep [6] [1000000] (st' := ⟨[(6, .cell (.own 1000000))], [(1000000, .arr 5 1 ((l ++ acc).length) (bytesD (l ++ acc)))]⟩) (by kernel_rfl) ?_
      refine AOps.done ?_
      refine Then.go ?_
      refine AW.ret (by kernel_rfl) ?_
      refine RetF.of_ret [] (x := .cell (.own 1000000)) (by kernel_rfl) ?_
      refine ⟨(), trivial, ret_eq rfl, ?_, trivial⟩
      have e0 : (i + 1).toNat = 0 := by omega
      rw [e0] at hJ
      simp only [numB, List.append_nil] at hJ
      subst hJ
      rfl

noncomputable def C28 : Code := (Tryd.f28.body).getD .skip

theorem sum_c (b : ByteArray) (hb : b.size ≤ 1099511627776) : PCalls Tryd.prog 28 [.cell (.d (.sc (.string b)))] (.cell (.d (.sc (.int .u64 (sumOf b))))) := by
  refine ACalls.of_AWF (fn := Tryd.f28) (c := C28) (N := 30) (rs := [.tmp 2]) Tryd.func28 (by kernel_rfl) (by kernel_rfl) (by kernel_rfl) (by kernel_rfl) (by kernel_rfl) ?_
  show AW Tryd.prog 30 C28 ⟨[(0, .cell (.d (.sc (.string b))))], []⟩ _
  refine AW.seq (by kernel_rfl) ?_
  refine AW.region (n := 1) (by kernel_rfl) (by kernel_rfl) ?_
  refine AOps.steps (i := 0) (m := 1) (r := 0) (i' := 1) (st' := ⟨[(2, .cell (.d (.sc (.int .u64 0)))), (0, .cell (.d (.sc (.string b))))], []⟩) (by kernel_rfl) rfl rfl ?_
  refine AOps.keep [0] [] (st' := ⟨[(0, .cell (.d (.sc (.string b))))], []⟩) (by kernel_rfl) ?_
  refine AOps.done ?_
  refine Then.go ?_
  refine AW.seq (by kernel_rfl) ?_
  refine AW.region (n := 1) (by kernel_rfl) (by kernel_rfl) ?_
  refine AOps.steps (i := 0) (m := 1) (r := 0) (i' := 1) (st' := ⟨[(3, .cell (.d (.sc (.int .u32 4294967295)))), (0, .cell (.d (.sc (.string b))))], []⟩) (by kernel_rfl) rfl rfl ?_
  refine AOps.keep [0, 3] [] (st' := ⟨[(0, .cell (.d (.sc (.string b)))), (3, .cell (.d (.sc (.int .u32 4294967295))))], []⟩) (by kernel_rfl) ?_
  refine AOps.done ?_
  refine Then.go ?_
  refine AW.seq (by kernel_rfl) ?_
  refine AW.seq (by kernel_rfl) ?_
  refine AW.region (n := 3) (by kernel_rfl) (by kernel_rfl) ?_
  refine AOps.steps (i := 0) (m := 3) (r := 0) (i' := 3) (st' := ⟨[(7, .cell (.d (.sc (.int .i64 0)))), (6, .cell (.d (.sc (.int .i64 (b.size : Int))))), (5, .cell (.d (.sc (.string b)))), (0, .cell (.d (.sc (.string b)))), (3, .cell (.d (.sc (.int .u32 4294967295))))], []⟩) (by kernel_rfl) rfl rfl ?_
  refine AOps.keep [0, 3, 6, 7] [] (st' := ⟨[(0, .cell (.d (.sc (.string b)))), (3, .cell (.d (.sc (.int .u32 4294967295)))), (6, .cell (.d (.sc (.int .i64 (b.size : Int))))), (7, .cell (.d (.sc (.int .i64 0))))], []⟩) (by kernel_rfl) ?_
  refine AOps.done ?_
  refine Then.go ?_
  refine AW.block (by kernel_rfl) ?_
  refine AW.keep [0, 3, 6, 7] [] (st' := ⟨[(0, .cell (.d (.sc (.string b)))), (3, .cell (.d (.sc (.int .u32 4294967295)))), (6, .cell (.d (.sc (.int .i64 (b.size : Int))))), (7, .cell (.d (.sc (.int .i64 0))))], []⟩) (by kernel_rfl) ?_
  refine AW.loopJ (α := Int) (by kernel_rfl) (fun i => (⟨[(0, .cell (.d (.sc (.string b)))), (3, .cell (.d (.sc (.int .u32 (crcL (b.data.toList.take i.toNat)))))), (6, .cell (.d (.sc (.int .i64 (b.size : Int))))), (7, .cell (.d (.sc (.int .i64 i))))], []⟩ : ASt)) (fun i => 0 ≤ i ∧ i ≤ (b.size : Int)) (fun i => b.size - i.toNat) 0 ?_ ?_ ?_
  · rfl
  · exact ⟨by omega, by omega⟩
  · intro i hJ
    obtain ⟨h0, h1⟩ := hJ
    refine AW.seq (by kernel_rfl) ?_
    refine AW.region (n := 1) (by kernel_rfl) (by kernel_rfl) ?_
    refine AOps.steps (i := 0) (m := 1) (r := 0) (i' := 1) (st' := ⟨[(8, .cell (.d (.sc (.bool (decide ((i : Int) < (b.size : Int))))))), (0, .cell (.d (.sc (.string b)))), (3, .cell (.d (.sc (.int .u32 (crcL (b.data.toList.take i.toNat)))))), (6, .cell (.d (.sc (.int .i64 (b.size : Int))))), (7, .cell (.d (.sc (.int .i64 i))))], []⟩) (by kernel_rfl) rfl rfl ?_
    refine AOps.keep [0, 3, 6, 7, 8] [] (st' := ⟨[(0, .cell (.d (.sc (.string b)))), (3, .cell (.d (.sc (.int .u32 (crcL (b.data.toList.take i.toNat)))))), (6, .cell (.d (.sc (.int .i64 (b.size : Int))))), (7, .cell (.d (.sc (.int .i64 i)))), (8, .cell (.d (.sc (.bool (decide ((i : Int) < (b.size : Int)))))))], []⟩) (by kernel_rfl) ?_
    refine AOps.done ?_
    refine Then.go ?_
    refine AW.seq (by kernel_rfl) ?_
    refine AW.cond (b := decide ((i : Int) < (b.size : Int))) (by kernel_rfl) (by kernel_rfl) (fun h1 => ?_) (fun h1 => ?_)
    · -- decide ((i : Int) < (b.size : Int)) = True
      try simp only [Bool.and_eq_true, Bool.or_eq_true, Bool.and_eq_false_iff, Bool.or_eq_false_iff, decide_eq_true_eq, decide_eq_false_iff_not, beq_iff_eq, bne_iff_ne, ne_eq, Bool.not_eq_true', Bool.not_eq_false', beq_eq_false_iff_ne, bne_eq_false_iff_eq, Decidable.not_not, Int.not_lt, Int.not_le, gt_iff_lt, ge_iff_le] at h1
      refine AW.skip (by kernel_rfl) ?_
      refine Then.go ?_
      refine AW.seq (by kernel_rfl) ?_
      refine AW.block (by kernel_rfl) ?_
      refine AW.seq (by kernel_rfl) ?_
      refine AW.region (n := 2) (by kernel_rfl) (by kernel_rfl) ?_
      refine AOps.steps (i := 0) (m := 2) (r := 0) (i' := 2) (st' := ⟨[(4, .cell (.d (.sc (.int .i64 i)))), (9, .cell (.d (.sc (.int .i64 i)))), (0, .cell (.d (.sc (.string b)))), (3, .cell (.d (.sc (.int .u32 (crcL (b.data.toList.take i.toNat)))))), (6, .cell (.d (.sc (.int .i64 (b.size : Int))))), (7, .cell (.d (.sc (.int .i64 i)))), (8, .cell (.d (.sc (.bool (decide ((i : Int) < (b.size : Int)))))))], []⟩) (by kernel_rfl) rfl rfl ?_
      refine AOps.keep [0, 3, 4, 6, 7] [] (st' := ⟨[(0, .cell (.d (.sc (.string b)))), (3, .cell (.d (.sc (.int .u32 (crcL (b.data.toList.take i.toNat)))))), (4, .cell (.d (.sc (.int .i64 i)))), (6, .cell (.d (.sc (.int .i64 (b.size : Int))))), (7, .cell (.d (.sc (.int .i64 i))))], []⟩) (by kernel_rfl) ?_
      refine AOps.done ?_
      refine Then.go ?_
      refine AW.seq (by kernel_rfl) ?_
      refine AW.region (n := 7) (by kernel_rfl) (by kernel_rfl) ?_
      refine AOps.steps (i := 0) (m := 3) (r := 4) (i' := 3) (st' := ⟨[(12, .cell (.d (.sc (.int .i64 i)))), (11, .cell (.d (.sc (.string b)))), (10, .cell (.d (.sc (.int .u32 (crcL (b.data.toList.take i.toNat)))))), (0, .cell (.d (.sc (.string b)))), (3, .cell (.d (.sc (.int .u32 (crcL (b.data.toList.take i.toNat)))))), (4, .cell (.d (.sc (.int .i64 i)))), (6, .cell (.d (.sc (.int .i64 (b.size : Int))))), (7, .cell (.d (.sc (.int .i64 i))))], []⟩) (by kernel_rfl) rfl rfl ?_
      obtain ⟨b4, hb4⟩ : ∃ b_, b.data.toList[(i).toNat]? = some b_ := str_at (by omega) (by omega)
      refine AOps.one (i := 3) (r := 3) (i' := 4) (e := .put 13 (.cell (.d (.sc (.int .u8 (b4.toNat : Int)))))) (st' := ⟨[(13, .cell (.d (.sc (.int .u8 (b4.toNat : Int))))), (12, .cell (.d (.sc (.int .i64 i)))), (11, .cell (.d (.sc (.string b)))), (10, .cell (.d (.sc (.int .u32 (crcL (b.data.toList.take i.toNat)))))), (0, .cell (.d (.sc (.string b)))), (3, .cell (.d (.sc (.int .u32 (crcL (b.data.toList.take i.toNat)))))), (4, .cell (.d (.sc (.int .i64 i)))), (6, .cell (.d (.sc (.int .i64 (b.size : Int))))), (7, .cell (.d (.sc (.int .i64 i))))], []⟩) (IEff.qstrIndex (s := b) (j := i) (b := b4) (by kernel_rfl) (by omega) hb4) rfl rfl (by kernel_rfl) ?_
      refine AOps.steps (i := 4) (m := 3) (r := 0) (i' := 7) (st' := ⟨[(3, .cell (.d (.sc (.int .u32 (bxor .u32 (crcL (b.data.toList.take i.toNat)) (IntKind.wrap .u32 ((b4.toNat : Int)))))))), (15, .cell (.d (.sc (.int .u32 (bxor .u32 (crcL (b.data.toList.take i.toNat)) (IntKind.wrap .u32 ((b4.toNat : Int)))))))), (14, .cell (.d (.sc (.int .u32 (IntKind.wrap .u32 ((b4.toNat : Int))))))), (13, .cell (.d (.sc (.int .u8 (b4.toNat : Int))))), (12, .cell (.d (.sc (.int .i64 i)))), (11, .cell (.d (.sc (.string b)))), (10, .cell (.d (.sc (.int .u32 (crcL (b.data.toList.take i.toNat)))))), (0, .cell (.d (.sc (.string b)))), (4, .cell (.d (.sc (.int .i64 i)))), (6, .cell (.d (.sc (.int .i64 (b.size : Int))))), (7, .cell (.d (.sc (.int .i64 i))))], []⟩) (by kernel_rfl) rfl rfl ?_
      refine AOps.keep [0, 3, 6, 7] [] (st' := ⟨[(0, .cell (.d (.sc (.string b)))), (3, .cell (.d (.sc (.int .u32 (bxor .u32 (crcL (b.data.toList.take i.toNat)) (IntKind.wrap .u32 ((b4.toNat : Int)))))))), (6, .cell (.d (.sc (.int .i64 (b.size : Int))))), (7, .cell (.d (.sc (.int .i64 i))))], []⟩) (by kernel_rfl) ?_
      refine AOps.done ?_
      refine Then.go ?_
      refine AW.seq (by kernel_rfl) ?_
      refine AW.region (n := 1) (by kernel_rfl) (by kernel_rfl) ?_
      refine AOps.steps (i := 0) (m := 1) (r := 0) (i' := 1) (st' := ⟨[(16, .cell (.d (.sc (.int .i64 0)))), (0, .cell (.d (.sc (.string b)))), (3, .cell (.d (.sc (.int .u32 (bxor .u32 (crcL (b.data.toList.take i.toNat)) (IntKind.wrap .u32 ((b4.toNat : Int)))))))), (6, .cell (.d (.sc (.int .i64 (b.size : Int))))), (7, .cell (.d (.sc (.int .i64 i))))], []⟩) (by kernel_rfl) rfl rfl ?_
      refine AOps.keep [0, 3, 6, 7, 16] [] (st' := ⟨[(0, .cell (.d (.sc (.string b)))), (3, .cell (.d (.sc (.int .u32 (bxor .u32 (crcL (b.data.toList.take i.toNat)) (IntKind.wrap .u32 ((b4.toNat : Int)))))))), (6, .cell (.d (.sc (.int .i64 (b.size : Int))))), (7, .cell (.d (.sc (.int .i64 i)))), (16, .cell (.d (.sc (.int .i64 0))))], []⟩) (by kernel_rfl) ?_
      refine AOps.done ?_
      refine Then.go ?_
      refine AW.block (by kernel_rfl) ?_
      refine AW.keep [0, 3, 6, 7, 16] [] (st' := ⟨[(0, .cell (.d (.sc (.string b)))), (3, .cell (.d (.sc (.int .u32 (bxor .u32 (crcL (b.data.toList.take i.toNat)) (IntKind.wrap .u32 ((b4.toNat : Int)))))))), (6, .cell (.d (.sc (.int .i64 (b.size : Int))))), (7, .cell (.d (.sc (.int .i64 i)))), (16, .cell (.d (.sc (.int .i64 0))))], []⟩) (by kernel_rfl) ?_
      refine AW.loopJ (α := Int) (by kernel_rfl) (fun j => (⟨[(0, .cell (.d (.sc (.string b)))), (3, .cell (.d (.sc (.int .u32 (crcIt j.toNat (bxor .u32 (crcL (b.data.toList.take i.toNat)) (IntKind.wrap .u32 (b4.toNat : Int)))))))), (6, .cell (.d (.sc (.int .i64 (b.size : Int))))), (7, .cell (.d (.sc (.int .i64 i)))), (16, .cell (.d (.sc (.int .i64 j))))], []⟩ : ASt)) (fun j => 0 ≤ j ∧ j ≤ 8) (fun j => 8 - j.toNat) 0 ?_ ?_ ?_
      · rfl
      · exact ⟨by omega, by omega⟩
      · intro j hJ
        obtain ⟨h2, h3⟩ := hJ
        refine AW.seq (by kernel_rfl) ?_
        refine AW.region (n := 1) (by kernel_rfl) (by kernel_rfl) ?_
        refine AOps.steps (i := 0) (m := 1) (r := 0) (i' := 1) (st' := ⟨[(17, .cell (.d (.sc (.bool (decide ((j : Int) < 8)))))), (0, .cell (.d (.sc (.string b)))), (3, .cell (.d (.sc (.int .u32 (crcIt j.toNat (bxor .u32 (crcL (b.data.toList.take i.toNat)) (IntKind.wrap .u32 (b4.toNat : Int)))))))), (6, .cell (.d (.sc (.int .i64 (b.size : Int))))), (7, .cell (.d (.sc (.int .i64 i)))), (16, .cell (.d (.sc (.int .i64 j))))], []⟩) (by kernel_rfl) rfl rfl ?_
        refine AOps.keep [0, 3, 6, 7, 16, 17] [] (st' := ⟨[(0, .cell (.d (.sc (.string b)))), (3, .cell (.d (.sc (.int .u32 (crcIt j.toNat (bxor .u32 (crcL (b.data.toList.take i.toNat)) (IntKind.wrap .u32 (b4.toNat : Int)))))))), (6, .cell (.d (.sc (.int .i64 (b.size : Int))))), (7, .cell (.d (.sc (.int .i64 i)))), (16, .cell (.d (.sc (.int .i64 j)))), (17, .cell (.d (.sc (.bool (decide ((j : Int) < 8))))))], []⟩) (by kernel_rfl) ?_
        refine AOps.done ?_
        refine Then.go ?_
        refine AW.seq (by kernel_rfl) ?_
        refine AW.cond (b := decide ((j : Int) < 8)) (by kernel_rfl) (by kernel_rfl) (fun h2 => ?_) (fun h2 => ?_)
        · -- decide ((j : Int) < 8) = True
          try simp only [Bool.and_eq_true, Bool.or_eq_true, Bool.and_eq_false_iff, Bool.or_eq_false_iff, decide_eq_true_eq, decide_eq_false_iff_not, beq_iff_eq, bne_iff_ne, ne_eq, Bool.not_eq_true', Bool.not_eq_false', beq_eq_false_iff_ne, bne_eq_false_iff_eq, Decidable.not_not, Int.not_lt, Int.not_le, gt_iff_lt, ge_iff_le] at h2
          refine AW.skip (by kernel_rfl) ?_
          refine Then.go ?_
          refine AW.seq (by kernel_rfl) ?_
          refine AW.block (by kernel_rfl) ?_
          refine AW.region (n := 8) (by kernel_rfl) (by kernel_rfl) ?_
          refine AOps.steps (i := 0) (m := 8) (r := 0) (i' := 8) (st' := ⟨[(3, .cell (.d (.sc (.int .u32 (bxor .u32 (bshr .u32 (crcIt j.toNat (bxor .u32 (crcL (b.data.toList.take i.toNat)) (IntKind.wrap .u32 (b4.toNat : Int)))) 1) (band .u32 3988292384 (IntKind.wrap .u32 (0 - (band .u32 (crcIt j.toNat (bxor .u32 (crcL (b.data.toList.take i.toNat)) (IntKind.wrap .u32 (b4.toNat : Int)))) 1))))))))), (24, .cell (.d (.sc (.int .u32 (bxor .u32 (bshr .u32 (crcIt j.toNat (bxor .u32 (crcL (b.data.toList.take i.toNat)) (IntKind.wrap .u32 (b4.toNat : Int)))) 1) (band .u32 3988292384 (IntKind.wrap .u32 (0 - (band .u32 (crcIt j.toNat (bxor .u32 (crcL (b.data.toList.take i.toNat)) (IntKind.wrap .u32 (b4.toNat : Int)))) 1))))))))), (23, .cell (.d (.sc (.int .u32 (band .u32 3988292384 (IntKind.wrap .u32 (0 - (band .u32 (crcIt j.toNat (bxor .u32 (crcL (b.data.toList.take i.toNat)) (IntKind.wrap .u32 (b4.toNat : Int)))) 1)))))))), (22, .cell (.d (.sc (.int .u32 (IntKind.wrap .u32 (0 - (band .u32 (crcIt j.toNat (bxor .u32 (crcL (b.data.toList.take i.toNat)) (IntKind.wrap .u32 (b4.toNat : Int)))) 1))))))), (21, .cell (.d (.sc (.int .u32 (band .u32 (crcIt j.toNat (bxor .u32 (crcL (b.data.toList.take i.toNat)) (IntKind.wrap .u32 (b4.toNat : Int)))) 1))))), (20, .cell (.d (.sc (.int .u32 (crcIt j.toNat (bxor .u32 (crcL (b.data.toList.take i.toNat)) (IntKind.wrap .u32 (b4.toNat : Int)))))))), (19, .cell (.d (.sc (.int .u32 (bshr .u32 (crcIt j.toNat (bxor .u32 (crcL (b.data.toList.take i.toNat)) (IntKind.wrap .u32 (b4.toNat : Int)))) 1))))), (18, .cell (.d (.sc (.int .u32 (crcIt j.toNat (bxor .u32 (crcL (b.data.toList.take i.toNat)) (IntKind.wrap .u32 (b4.toNat : Int)))))))), (0, .cell (.d (.sc (.string b)))), (6, .cell (.d (.sc (.int .i64 (b.size : Int))))), (7, .cell (.d (.sc (.int .i64 i)))), (16, .cell (.d (.sc (.int .i64 j)))), (17, .cell (.d (.sc (.bool (decide ((j : Int) < 8))))))], []⟩) (by kernel_rfl) rfl rfl ?_
          refine AOps.keep [0, 3, 6, 7, 16] [] (st' := ⟨[(0, .cell (.d (.sc (.string b)))), (3, .cell (.d (.sc (.int .u32 (bxor .u32 (bshr .u32 (crcIt j.toNat (bxor .u32 (crcL (b.data.toList.take i.toNat)) (IntKind.wrap .u32 (b4.toNat : Int)))) 1) (band .u32 3988292384 (IntKind.wrap .u32 (0 - (band .u32 (crcIt j.toNat (bxor .u32 (crcL (b.data.toList.take i.toNat)) (IntKind.wrap .u32 (b4.toNat : Int)))) 1))))))))), (6, .cell (.d (.sc (.int .i64 (b.size : Int))))), (7, .cell (.d (.sc (.int .i64 i)))), (16, .cell (.d (.sc (.int .i64 j))))], []⟩) (by kernel_rfl) ?_
          refine AOps.done ?_
          refine InBlk.go ?_
          refine Then.go ?_
          refine AW.region (n := 2) (by kernel_rfl) (by kernel_rfl) ?_
          refine AOps.steps (i := 0) (m := 2) (r := 0) (i' := 2) (st' := ⟨[(16, .cell (.d (.sc (.int .i64 (IntKind.wrap .i64 (j + 1)))))), (25, .cell (.d (.sc (.int .i64 (IntKind.wrap .i64 (j + 1)))))), (0, .cell (.d (.sc (.string b)))), (3, .cell (.d (.sc (.int .u32 (bxor .u32 (bshr .u32 (crcIt j.toNat (bxor .u32 (crcL (b.data.toList.take i.toNat)) (IntKind.wrap .u32 (b4.toNat : Int)))) 1) (band .u32 3988292384 (IntKind.wrap .u32 (0 - (band .u32 (crcIt j.toNat (bxor .u32 (crcL (b.data.toList.take i.toNat)) (IntKind.wrap .u32 (b4.toNat : Int)))) 1))))))))), (6, .cell (.d (.sc (.int .i64 (b.size : Int))))), (7, .cell (.d (.sc (.int .i64 i))))], []⟩) (by kernel_rfl) rfl rfl ?_
          have w3 : IntKind.wrap .i64 (j + 1) = j + 1 := wrap_i64 _ (by omega) (by omega)
          rw [w3]
          clear w3
          refine AOps.keep [0, 3, 6, 7, 16] [] (st' := ⟨[(0, .cell (.d (.sc (.string b)))), (3, .cell (.d (.sc (.int .u32 (bxor .u32 (bshr .u32 (crcIt j.toNat (bxor .u32 (crcL (b.data.toList.take i.toNat)) (IntKind.wrap .u32 (b4.toNat : Int)))) 1) (band .u32 3988292384 (IntKind.wrap .u32 (0 - (band .u32 (crcIt j.toNat (bxor .u32 (crcL (b.data.toList.take i.toNat)) (IntKind.wrap .u32 (b4.toNat : Int)))) 1))))))))), (6, .cell (.d (.sc (.int .i64 (b.size : Int))))), (7, .cell (.d (.sc (.int .i64 i)))), (16, .cell (.d (.sc (.int .i64 (j + 1)))))], []⟩) (by kernel_rfl) ?_
          refine AOps.done ?_
          refine LoopP.go (j + 1) [0, 3, 6, 7, 16] [] ?_ ?_ ?_
          · (rw [show (j + 1).toNat = j.toNat + 1 by omega]; kernel_rfl)
          · exact ⟨by omega, by omega⟩
          · (try dsimp only); omega
        · -- decide ((j : Int) < 8) = False
          try simp only [Bool.and_eq_true, Bool.or_eq_true, Bool.and_eq_false_iff, Bool.or_eq_false_iff, decide_eq_true_eq, decide_eq_false_iff_not, beq_iff_eq, bne_iff_ne, ne_eq, Bool.not_eq_true', Bool.not_eq_false', beq_eq_false_iff_ne, bne_eq_false_iff_eq, Decidable.not_not, Int.not_lt, Int.not_le, gt_iff_lt, ge_iff_le] at h2
          refine AW.exit (by kernel_rfl) ?_
          refine Then.exit ?_
          refine LoopP.exit ?_
          refine InBlk.exit ?_
          refine InBlk.go ?_
          refine Then.go ?_
          refine AW.region (n := 2) (by kernel_rfl) (by kernel_rfl) ?_
          refine AOps.steps (i := 0) (m := 2) (r := 0) (i' := 2) (st' := ⟨[(7, .cell (.d (.sc (.int .i64 (IntKind.wrap .i64 (i + 1)))))), (26, .cell (.d (.sc (.int .i64 (IntKind.wrap .i64 (i + 1)))))), (0, .cell (.d (.sc (.string b)))), (3, .cell (.d (.sc (.int .u32 (crcIt j.toNat (bxor .u32 (crcL (b.data.toList.take i.toNat)) (IntKind.wrap .u32 (b4.toNat : Int)))))))), (6, .cell (.d (.sc (.int .i64 (b.size : Int))))), (16, .cell (.d (.sc (.int .i64 j)))), (17, .cell (.d (.sc (.bool (decide ((j : Int) < 8))))))], []⟩) (by kernel_rfl) rfl rfl ?_
          have w4 : IntKind.wrap .i64 (i + 1) = i + 1 := wrap_i64 _ (by omega) (by omega)
          rw [w4]
          clear w4
          refine AOps.keep [0, 3, 6, 7] [] (st' := ⟨[(0, .cell (.d (.sc (.string b)))), (3, .cell (.d (.sc (.int .u32 (crcIt j.toNat (bxor .u32 (crcL (b.data.toList.take i.toNat)) (IntKind.wrap .u32 (b4.toNat : Int)))))))), (6, .cell (.d (.sc (.int .i64 (b.size : Int))))), (7, .cell (.d (.sc (.int .i64 (i + 1)))))], []⟩) (by kernel_rfl) ?_
          refine AOps.done ?_
          refine LoopP.go (i + 1) [0, 3, 6, 7] [] ?_ ?_ ?_
          · (have e9 : crcL (b.data.toList.take (i + 1).toNat) = crcIt j.toNat (bxor .u32 (crcL (b.data.toList.take i.toNat)) (IntKind.wrap .u32 (b4.toNat : Int))) := by rw [show (i + 1).toNat = i.toNat + 1 by omega, crcL_succ hb4, show j.toNat = 8 by omega]; rfl); rw [e9]; show _ = _; kernel_rfl
          · exact ⟨by omega, by omega⟩
          · (try dsimp only); omega
    · -- decide ((i : Int) < (b.size : Int)) = False
      try simp only [Bool.and_eq_true, Bool.or_eq_true, Bool.and_eq_false_iff, Bool.or_eq_false_iff, decide_eq_true_eq, decide_eq_false_iff_not, beq_iff_eq, bne_iff_ne, ne_eq, Bool.not_eq_true', Bool.not_eq_false', beq_eq_false_iff_ne, bne_eq_false_iff_eq, Decidable.not_not, Int.not_lt, Int.not_le, gt_iff_lt, ge_iff_le] at h1
      refine AW.exit (by kernel_rfl) ?_
      refine Then.exit ?_
      refine LoopP.exit ?_
      refine InBlk.exit ?_
      refine Then.go ?_
      refine AW.seq (by kernel_rfl) ?_
      refine AW.region (n := 4) (by kernel_rfl) (by kernel_rfl) ?_
      refine AOps.steps (i := 0) (m := 4) (r := 0) (i' := 4) (st' := ⟨[(2, .cell (.d (.sc (.int .u64 (IntKind.wrap .u64 (bnot .u32 (crcL (b.data.toList.take i.toNat)))))))), (29, .cell (.d (.sc (.int .u64 (IntKind.wrap .u64 (bnot .u32 (crcL (b.data.toList.take i.toNat)))))))), (28, .cell (.d (.sc (.int .u32 (bnot .u32 (crcL (b.data.toList.take i.toNat))))))), (27, .cell (.d (.sc (.int .u32 (crcL (b.data.toList.take i.toNat)))))), (0, .cell (.d (.sc (.string b)))), (3, .cell (.d (.sc (.int .u32 (crcL (b.data.toList.take i.toNat)))))), (6, .cell (.d (.sc (.int .i64 (b.size : Int))))), (7, .cell (.d (.sc (.int .i64 i)))), (8, .cell (.d (.sc (.bool (decide ((i : Int) < (b.size : Int)))))))], []⟩) (by kernel_rfl) rfl rfl ?_
      refine AOps.keep [2] [] (st' := ⟨[(2, .cell (.d (.sc (.int .u64 (IntKind.wrap .u64 (bnot .u32 (crcL (b.data.toList.take i.toNat))))))))], []⟩) (by kernel_rfl) ?_
      refine AOps.done ?_
      refine Then.go ?_
      refine AW.ret (by kernel_rfl) ?_
      refine RetF.of_ret [] (x := .cell (.d (.sc (.int .u64 (IntKind.wrap .u64 (bnot .u32 (crcL (b.data.toList.take i.toNat)))))))) (by kernel_rfl) ?_
      have e0 : i.toNat = b.size := by omega
      refine ret_eq ?_
      have e1 : b.data.toList.length = b.size := by rw [Array.length_toList]; rfl
      rw [e0, ← e1, List.take_length]; rfl

noncomputable def C11 : Code := (Tryd.f11.body).getD .skip

theorem num_c (n : Int) : PCalls Tryd.prog 11 [.cell (.d (.sc (.int .i64 n)))] (.aggD [.sc (.int .i64 2), .sc (.int .i64 n), .sc (.string (⟨#[]⟩ : ByteArray)), .sc (.slice none 0 0)]) := by
  refine ACalls.of_AWF (fn := Tryd.f11) (c := C11) (N := 5) (rs := [.cell 2 27]) Tryd.func11 (by kernel_rfl) (by kernel_rfl) (by kernel_rfl) (by kernel_rfl) (by kernel_rfl) ?_
  show AW Tryd.prog 5 C11 ⟨[(0, .cell (.d (.sc (.int .i64 n))))], []⟩ _
  refine AW.seq (by kernel_rfl) ?_
  refine AW.region (n := 1) (by kernel_rfl) (by kernel_rfl) ?_
  refine AOps.steps (i := 0) (m := 1) (r := 0) (i' := 1) (st' := ⟨[(2, .cell (.ptr 2 0)), (0, .cell (.d (.sc (.int .i64 n))))], [(2, .box [.d (.sc (.int .i64 0)), .d (.sc (.int .i64 0)), .d (.sc (.string (⟨#[]⟩ : ByteArray))), .d (.sc (.slice none 0 0))])]⟩) (by kernel_rfl) rfl rfl ?_
  refine AOps.keep [0, 2] [2] (st' := ⟨[(0, .cell (.d (.sc (.int .i64 n)))), (2, .cell (.ptr 2 0))], [(2, .box [.d (.sc (.int .i64 0)), .d (.sc (.int .i64 0)), .d (.sc (.string (⟨#[]⟩ : ByteArray))), .d (.sc (.slice none 0 0))])]⟩) (by kernel_rfl) ?_
  refine AOps.done ?_
  refine Then.go ?_
  refine AW.seq (by kernel_rfl) ?_
  refine AW.region (n := 3) (by kernel_rfl) (by kernel_rfl) ?_
  refine AOps.steps (i := 0) (m := 3) (r := 0) (i' := 3) (st' := ⟨[(4, .aggD [.sc (.int .i64 2), .sc (.int .i64 n), .sc (.string (⟨#[]⟩ : ByteArray)), .sc (.slice none 0 0)]), (3, .cell (.d (.sc (.int .i64 n)))), (0, .cell (.d (.sc (.int .i64 n)))), (2, .cell (.ptr 2 0))], [(2, .box [.d (.sc (.int .i64 2)), .d (.sc (.int .i64 n)), .d (.sc (.string (⟨#[]⟩ : ByteArray))), .d (.sc (.slice none 0 0))])]⟩) (by kernel_rfl) rfl rfl ?_
  refine AOps.keep [2] [2] (st' := ⟨[(2, .cell (.ptr 2 0))], [(2, .box [.d (.sc (.int .i64 2)), .d (.sc (.int .i64 n)), .d (.sc (.string (⟨#[]⟩ : ByteArray))), .d (.sc (.slice none 0 0))])]⟩) (by kernel_rfl) ?_
  refine AOps.done ?_
  refine Then.go ?_
  refine AW.ret (by kernel_rfl) ?_
  refine RetF.of_ret [] (x := .aggD [.sc (.int .i64 2), .sc (.int .i64 n), .sc (.string (⟨#[]⟩ : ByteArray)), .sc (.slice none 0 0)]) (by kernel_rfl) ?_
  exact ret_eq rfl

noncomputable def C41 : Code := (Tryd.f41.body).getD .skip

theorem check_int (n : Int) (deep : Int) : PCalls Tryd.prog 41 [.aggD [.sc (.int .i64 2), .sc (.int .i64 n), .sc (.string (⟨#[]⟩ : ByteArray)), .sc (.slice none 0 0)], .cell (.d (.sc (.int .i64 deep)))] (.cell (.d (.sc (.int .i64 0)))) := by
  refine ACalls.of_AWF (fn := Tryd.f41) (c := C41) (N := 114) (rs := [.tmp 4]) Tryd.func41 (by kernel_rfl) (by kernel_rfl) (by kernel_rfl) (by kernel_rfl) (by kernel_rfl) ?_
  show AW Tryd.prog 114 C41 ⟨[(0, .aggD [.sc (.int .i64 2), .sc (.int .i64 n), .sc (.string (⟨#[]⟩ : ByteArray)), .sc (.slice none 0 0)]), (1, .cell (.d (.sc (.int .i64 deep))))], []⟩ _
  refine AW.seq (by kernel_rfl) ?_
  refine AW.region (n := 2) (by kernel_rfl) (by kernel_rfl) ?_
  refine AOps.steps (i := 0) (m := 2) (r := 0) (i' := 2) (st' := ⟨[(4, .cell (.d (.sc (.int .i64 0)))), (2, .cell (.ptr 2 0)), (0, .aggD [.sc (.int .i64 2), .sc (.int .i64 n), .sc (.string (⟨#[]⟩ : ByteArray)), .sc (.slice none 0 0)]), (1, .cell (.d (.sc (.int .i64 deep))))], [(2, .box [.d (.sc (.int .i64 2)), .d (.sc (.int .i64 n)), .d (.sc (.string (⟨#[]⟩ : ByteArray))), .d (.sc (.slice none 0 0))])]⟩) (by kernel_rfl) rfl rfl ?_
  refine AOps.keep [1, 2] [2] (st' := ⟨[(1, .cell (.d (.sc (.int .i64 deep)))), (2, .cell (.ptr 2 0))], [(2, .box [.d (.sc (.int .i64 2)), .d (.sc (.int .i64 n)), .d (.sc (.string (⟨#[]⟩ : ByteArray))), .d (.sc (.slice none 0 0))])]⟩) (by kernel_rfl) ?_
  refine AOps.done ?_
  refine Then.go ?_
  refine AW.seq (by kernel_rfl) ?_
  refine AW.region (n := 15) (by kernel_rfl) (by kernel_rfl) ?_
  refine AOps.steps (i := 0) (m := 15) (r := 0) (i' := 15) (st' := ⟨[(5, .cell (.d (.sc (.bool ((((n : Int) == 0) && true) && true))))), (22, .cell (.d (.sc (.bool ((((n : Int) == 0) && true) && true))))), (21, .whn 17 true (.cell (.d (.sc (.bool true))))), (20, .whn 17 true (.cell (.d (.sc (.int .i64 0))))), (19, .whn 17 true (.cell (.d (.sc (.slice none 0 0))))), (18, .whn 17 true (.cell (.ptr 2 3))), (17, .cell (.d (.sc (.bool (((n : Int) == 0) && true))))), (16, .cell (.d (.sc (.bool (((n : Int) == 0) && true))))), (15, .whn 12 true (.cell (.d (.sc (.bool true))))), (14, .whn 12 true (.cell (.d (.sc (.string (⟨#[]⟩ : ByteArray)))))), (13, .whn 12 true (.cell (.ptr 2 2))), (12, .cell (.d (.sc (.bool ((n : Int) == 0))))), (11, .cell (.d (.sc (.bool ((n : Int) == 0))))), (10, .cell (.d (.sc (.int .i64 n)))), (9, .cell (.ptr 2 1)), (1, .cell (.d (.sc (.int .i64 deep)))), (2, .cell (.ptr 2 0))], [(2, .box [.d (.sc (.int .i64 2)), .d (.sc (.int .i64 n)), .d (.sc (.string (⟨#[]⟩ : ByteArray))), .d (.sc (.slice none 0 0))])]⟩) (by kernel_rfl) rfl rfl ?_
  refine AOps.keep [1, 2, 5] [2] (st' := ⟨[(1, .cell (.d (.sc (.int .i64 deep)))), (2, .cell (.ptr 2 0)), (5, .cell (.d (.sc (.bool ((((n : Int) == 0) && true) && true)))))], [(2, .box [.d (.sc (.int .i64 2)), .d (.sc (.int .i64 n)), .d (.sc (.string (⟨#[]⟩ : ByteArray))), .d (.sc (.slice none 0 0))])]⟩) (by kernel_rfl) ?_
  refine AOps.done ?_
  refine Then.go ?_
  refine AW.seq (by kernel_rfl) ?_
  refine AW.seq (by kernel_rfl) ?_
  refine AW.region (n := 2) (by kernel_rfl) (by kernel_rfl) ?_
  refine AOps.steps (i := 0) (m := 2) (r := 0) (i' := 2) (st' := ⟨[(24, .cell (.d (.sc (.int .i64 2)))), (23, .cell (.ptr 2 0)), (1, .cell (.d (.sc (.int .i64 deep)))), (2, .cell (.ptr 2 0)), (5, .cell (.d (.sc (.bool ((((n : Int) == 0) && true) && true)))))], [(2, .box [.d (.sc (.int .i64 2)), .d (.sc (.int .i64 n)), .d (.sc (.string (⟨#[]⟩ : ByteArray))), .d (.sc (.slice none 0 0))])]⟩) (by kernel_rfl) rfl rfl ?_
  refine AOps.keep [1, 2, 5, 24] [2] (st' := ⟨[(1, .cell (.d (.sc (.int .i64 deep)))), (2, .cell (.ptr 2 0)), (5, .cell (.d (.sc (.bool ((((n : Int) == 0) && true) && true))))), (24, .cell (.d (.sc (.int .i64 2))))], [(2, .box [.d (.sc (.int .i64 2)), .d (.sc (.int .i64 n)), .d (.sc (.string (⟨#[]⟩ : ByteArray))), .d (.sc (.slice none 0 0))])]⟩) (by kernel_rfl) ?_
  refine AOps.done ?_
  refine Then.go ?_
  refine AW.block (by kernel_rfl) ?_
  refine AW.seq (by kernel_rfl) ?_
  refine AW.region (n := 2) (by kernel_rfl) (by kernel_rfl) ?_
  refine AOps.steps (i := 0) (m := 2) (r := 0) (i' := 2) (st' := ⟨[(25, .cell (.d (.sc (.bool false)))), (26, .cell (.d (.sc (.bool false)))), (1, .cell (.d (.sc (.int .i64 deep)))), (2, .cell (.ptr 2 0)), (5, .cell (.d (.sc (.bool ((((n : Int) == 0) && true) && true))))), (24, .cell (.d (.sc (.int .i64 2))))], [(2, .box [.d (.sc (.int .i64 2)), .d (.sc (.int .i64 n)), .d (.sc (.string (⟨#[]⟩ : ByteArray))), .d (.sc (.slice none 0 0))])]⟩) (by kernel_rfl) rfl rfl ?_
  refine AOps.keep [1, 2, 5, 24, 25] [2] (st' := ⟨[(1, .cell (.d (.sc (.int .i64 deep)))), (2, .cell (.ptr 2 0)), (5, .cell (.d (.sc (.bool ((((n : Int) == 0) && true) && true))))), (24, .cell (.d (.sc (.int .i64 2)))), (25, .cell (.d (.sc (.bool false))))], [(2, .box [.d (.sc (.int .i64 2)), .d (.sc (.int .i64 n)), .d (.sc (.string (⟨#[]⟩ : ByteArray))), .d (.sc (.slice none 0 0))])]⟩) (by kernel_rfl) ?_
  refine AOps.done ?_
  refine Then.go ?_
  refine AW.cond (b := false) (by kernel_rfl) (by kernel_rfl) (fun h => by cases h) (fun _ => ?_) 
  refine AW.seq (by kernel_rfl) ?_
  refine AW.region (n := 2) (by kernel_rfl) (by kernel_rfl) ?_
  refine AOps.steps (i := 0) (m := 2) (r := 0) (i' := 2) (st' := ⟨[(27, .cell (.d (.sc (.bool false)))), (28, .cell (.d (.sc (.bool false)))), (1, .cell (.d (.sc (.int .i64 deep)))), (2, .cell (.ptr 2 0)), (5, .cell (.d (.sc (.bool ((((n : Int) == 0) && true) && true))))), (24, .cell (.d (.sc (.int .i64 2)))), (25, .cell (.d (.sc (.bool false))))], [(2, .box [.d (.sc (.int .i64 2)), .d (.sc (.int .i64 n)), .d (.sc (.string (⟨#[]⟩ : ByteArray))), .d (.sc (.slice none 0 0))])]⟩) (by kernel_rfl) rfl rfl ?_
  refine AOps.keep [1, 2, 24, 27] [2] (st' := ⟨[(1, .cell (.d (.sc (.int .i64 deep)))), (2, .cell (.ptr 2 0)), (24, .cell (.d (.sc (.int .i64 2)))), (27, .cell (.d (.sc (.bool false))))], [(2, .box [.d (.sc (.int .i64 2)), .d (.sc (.int .i64 n)), .d (.sc (.string (⟨#[]⟩ : ByteArray))), .d (.sc (.slice none 0 0))])]⟩) (by kernel_rfl) ?_
  refine AOps.done ?_
  refine Then.go ?_
  refine AW.cond (b := false) (by kernel_rfl) (by kernel_rfl) (fun h => by cases h) (fun _ => ?_) 
  refine AW.seq (by kernel_rfl) ?_
  refine AW.region (n := 2) (by kernel_rfl) (by kernel_rfl) ?_
  refine AOps.steps (i := 0) (m := 2) (r := 0) (i' := 2) (st' := ⟨[(48, .cell (.d (.sc (.bool true)))), (49, .cell (.d (.sc (.bool true)))), (1, .cell (.d (.sc (.int .i64 deep)))), (2, .cell (.ptr 2 0)), (24, .cell (.d (.sc (.int .i64 2)))), (27, .cell (.d (.sc (.bool false))))], [(2, .box [.d (.sc (.int .i64 2)), .d (.sc (.int .i64 n)), .d (.sc (.string (⟨#[]⟩ : ByteArray))), .d (.sc (.slice none 0 0))])]⟩) (by kernel_rfl) rfl rfl ?_
  refine AOps.keep [1, 2, 24, 48] [2] (st' := ⟨[(1, .cell (.d (.sc (.int .i64 deep)))), (2, .cell (.ptr 2 0)), (24, .cell (.d (.sc (.int .i64 2)))), (48, .cell (.d (.sc (.bool true))))], [(2, .box [.d (.sc (.int .i64 2)), .d (.sc (.int .i64 n)), .d (.sc (.string (⟨#[]⟩ : ByteArray))), .d (.sc (.slice none 0 0))])]⟩) (by kernel_rfl) ?_
  refine AOps.done ?_
  refine Then.go ?_
  refine AW.cond (b := true) (by kernel_rfl) (by kernel_rfl) (fun _ => ?_) (fun h => by cases h) 
  refine AW.region (n := 10) (by kernel_rfl) (by kernel_rfl) ?_
  refine AOps.stepsK (i := 0) (m := 10) (r := 0) (i' := 10) (st' := ⟨[(5, .cell (.d (.sc (.bool true)))), (58, .cell (.d (.sc (.bool true)))), (57, .cell (.d (.sc (.bool true)))), (56, .cell (.d (.sc (.int .i64 0)))), (55, .cell (.d (.sc (.slice none 0 0)))), (54, .cell (.ptr 2 3)), (53, .cell (.d (.sc (.bool true)))), (52, .cell (.d (.sc (.bool true)))), (51, .cell (.d (.sc (.string (⟨#[]⟩ : ByteArray))))), (50, .cell (.ptr 2 2)), (1, .cell (.d (.sc (.int .i64 deep)))), (2, .cell (.ptr 2 0)), (24, .cell (.d (.sc (.int .i64 2)))), (48, .cell (.d (.sc (.bool true))))], [(2, .box [.d (.sc (.int .i64 2)), .d (.sc (.int .i64 n)), .d (.sc (.string (⟨#[]⟩ : ByteArray))), .d (.sc (.slice none 0 0))])]⟩) (by kernel_rfl) rfl rfl ?_
  refine AOps.keep [5] [] (st' := ⟨[(5, .cell (.d (.sc (.bool true))))], []⟩) (by kernel_rfl) ?_
  refine AOps.done ?_
  refine InBlk.go ?_
  refine Then.go ?_
  refine AW.seq (by kernel_rfl) ?_
  refine AW.seq (by kernel_rfl) ?_
  refine AW.region (n := 2) (by kernel_rfl) (by kernel_rfl) ?_
  refine AOps.steps (i := 0) (m := 2) (r := 0) (i' := 2) (st' := ⟨[(113, .cell (.d (.sc (.bool false)))), (112, .cell (.d (.sc (.bool true)))), (5, .cell (.d (.sc (.bool true))))], []⟩) (by kernel_rfl) rfl rfl ?_
  refine AOps.keep [113] [] (st' := ⟨[(113, .cell (.d (.sc (.bool false))))], []⟩) (by kernel_rfl) ?_
  refine AOps.done ?_
  refine Then.go ?_
  refine AW.cond (b := false) (by kernel_rfl) (by kernel_rfl) (fun h => by cases h) (fun _ => ?_) 
  refine AW.skip (by kernel_rfl) ?_
  refine Then.go ?_
  refine AW.seq (by kernel_rfl) ?_
  refine AW.region (n := 1) (by kernel_rfl) (by kernel_rfl) ?_
  refine AOps.steps (i := 0) (m := 1) (r := 0) (i' := 1) (st' := ⟨[(4, .cell (.d (.sc (.int .i64 0)))), (113, .cell (.d (.sc (.bool false))))], []⟩) (by kernel_rfl) rfl rfl ?_
  refine AOps.keep [4] [] (st' := ⟨[(4, .cell (.d (.sc (.int .i64 0))))], []⟩) (by kernel_rfl) ?_
  refine AOps.done ?_
  refine Then.go ?_
  refine AW.ret (by kernel_rfl) ?_
  refine RetF.of_ret [] (x := .cell (.d (.sc (.int .i64 0)))) (by kernel_rfl) ?_
  exact ret_eq rfl

noncomputable def C25 : Code := (Tryd.f25.body).getD .skip

theorem Check_int (n : Int) : PCalls Tryd.prog 25 [.aggD [.sc (.int .i64 2), .sc (.int .i64 n), .sc (.string (⟨#[]⟩ : ByteArray)), .sc (.slice none 0 0)]] (.cell (.d (.sc (.int .i64 0)))) := by
  refine ACalls.of_AWF (fn := Tryd.f25) (c := C25) (N := 5) (rs := [.tmp 2]) Tryd.func25 (by kernel_rfl) (by kernel_rfl) (by kernel_rfl) (by kernel_rfl) (by kernel_rfl) ?_
  show AW Tryd.prog 5 C25 ⟨[(0, .aggD [.sc (.int .i64 2), .sc (.int .i64 n), .sc (.string (⟨#[]⟩ : ByteArray)), .sc (.slice none 0 0)])], []⟩ _
  refine AW.seq (by kernel_rfl) ?_
  refine AW.region (n := 2) (by kernel_rfl) (by kernel_rfl) ?_
  refine AOps.steps (i := 0) (m := 2) (r := 0) (i' := 2) (st' := ⟨[(2, .cell (.d (.sc (.int .i64 0)))), (1, .cell (.ptr 1 0)), (0, .aggD [.sc (.int .i64 2), .sc (.int .i64 n), .sc (.string (⟨#[]⟩ : ByteArray)), .sc (.slice none 0 0)])], [(1, .box [.d (.sc (.int .i64 2)), .d (.sc (.int .i64 n)), .d (.sc (.string (⟨#[]⟩ : ByteArray))), .d (.sc (.slice none 0 0))])]⟩) (by kernel_rfl) rfl rfl ?_
  refine AOps.keep [1] [1] (st' := ⟨[(1, .cell (.ptr 1 0))], [(1, .box [.d (.sc (.int .i64 2)), .d (.sc (.int .i64 n)), .d (.sc (.string (⟨#[]⟩ : ByteArray))), .d (.sc (.slice none 0 0))])]⟩) (by kernel_rfl) ?_
  refine AOps.done ?_
  refine Then.go ?_
  refine AW.seq (by kernel_rfl) ?_
  refine AW.region (n := 3) (by kernel_rfl) (by kernel_rfl) ?_
  refine AOps.steps (i := 0) (m := 1) (r := 2) (i' := 1) (st' := ⟨[(3, .aggD [.sc (.int .i64 2), .sc (.int .i64 n), .sc (.string (⟨#[]⟩ : ByteArray)), .sc (.slice none 0 0)]), (1, .cell (.ptr 1 0))], [(1, .box [.d (.sc (.int .i64 2)), .d (.sc (.int .i64 n)), .d (.sc (.string (⟨#[]⟩ : ByteArray))), .d (.sc (.slice none 0 0))])]⟩) (by kernel_rfl) rfl rfl ?_
  refine AOps.one (i := 1) (r := 1) (i' := 2) (e := .put 4 (.cell (.d (.sc (.int .i64 0))))) (st' := ⟨[(4, .cell (.d (.sc (.int .i64 0)))), (3, .aggD [.sc (.int .i64 2), .sc (.int .i64 n), .sc (.string (⟨#[]⟩ : ByteArray)), .sc (.slice none 0 0)]), (1, .cell (.ptr 1 0))], [(1, .box [.d (.sc (.int .i64 2)), .d (.sc (.int .i64 n)), .d (.sc (.string (⟨#[]⟩ : ByteArray))), .d (.sc (.slice none 0 0))])]⟩) (IEff.qpcall (f := 41) (args := [.aggD [.sc (.int .i64 2), .sc (.int .i64 n), .sc (.string (⟨#[]⟩ : ByteArray)), .sc (.slice none 0 0)], .cell (.d (.sc (.int .i64 1)))]) (by kernel_rfl) (by kernel_rfl) (check_int n 1) (by kernel_rfl)) rfl rfl (by kernel_rfl) ?_
  refine AOps.steps (i := 2) (m := 1) (r := 0) (i' := 3) (st' := ⟨[(2, .cell (.d (.sc (.int .i64 0)))), (4, .cell (.d (.sc (.int .i64 0)))), (3, .aggD [.sc (.int .i64 2), .sc (.int .i64 n), .sc (.string (⟨#[]⟩ : ByteArray)), .sc (.slice none 0 0)]), (1, .cell (.ptr 1 0))], [(1, .box [.d (.sc (.int .i64 2)), .d (.sc (.int .i64 n)), .d (.sc (.string (⟨#[]⟩ : ByteArray))), .d (.sc (.slice none 0 0))])]⟩) (by kernel_rfl) rfl rfl ?_
  refine AOps.keep [2] [] (st' := ⟨[(2, .cell (.d (.sc (.int .i64 0))))], []⟩) (by kernel_rfl) ?_
  refine AOps.done ?_
  refine Then.go ?_
  refine AW.ret (by kernel_rfl) ?_
  refine RetF.of_ret [] (x := .cell (.d (.sc (.int .i64 0)))) (by kernel_rfl) ?_
  exact ret_eq rfl

noncomputable def C26 : Code := (Tryd.f26.body).getD .skip

theorem Put_int (l : List UInt8) (n : Int) (hl : l.length ≤ 1099511627700) : ACalls Tryd.prog 26 [.cell (.own 1000000), .aggD [.sc (.int .i64 2), .sc (.int .i64 n), .sc (.string (⟨#[]⟩ : ByteArray)), .sc (.slice none 0 0)]] [(1000000, .arr 5 1 l.length (bytesD l))] (ER (α := Unit) (fun _ => True) (fun _ => .cell (.own 1000000)) (fun _ => [(1000000, .arr 5 1 ((l ++ putI n).length) (bytesD (l ++ putI n)))])) := by
  refine ACalls.of_AWF (fn := Tryd.f26) (c := C26) (N := 57) (rs := [.tmp 4]) Tryd.func26 (by kernel_rfl) (by kernel_rfl) (by kernel_rfl) (by kernel_rfl) (by kernel_rfl) ?_
  show AW Tryd.prog 57 C26 ⟨[(0, .cell (.own 1000000)), (1, .aggD [.sc (.int .i64 2), .sc (.int .i64 n), .sc (.string (⟨#[]⟩ : ByteArray)), .sc (.slice none 0 0)])], [(1000000, .arr 5 1 l.length (bytesD l))]⟩ _
  refine AW.seq (by kernel_rfl) ?_
  refine AW.region (n := 2) (by kernel_rfl) (by kernel_rfl) ?_
  refine AOps.steps (i := 0) (m := 2) (r := 0) (i' := 2) (st' := ⟨[(4, .cell (.d (.sc (.slice none 0 0)))), (3, .cell (.ptr 3 0)), (0, .cell (.own 1000000)), (1, .aggD [.sc (.int .i64 2), .sc (.int .i64 n), .sc (.string (⟨#[]⟩ : ByteArray)), .sc (.slice none 0 0)])], [(3, .box [.d (.sc (.int .i64 2)), .d (.sc (.int .i64 n)), .d (.sc (.string (⟨#[]⟩ : ByteArray))), .d (.sc (.slice none 0 0))]), (1000000, .arr 5 1 l.length (bytesD l))]⟩) (by kernel_rfl) rfl rfl ?_
  refine AOps.keep [0, 3] [3, 1000000] (st' := ⟨[(0, .cell (.own 1000000)), (3, .cell (.ptr 3 0))], [(3, .box [.d (.sc (.int .i64 2)), .d (.sc (.int .i64 n)), .d (.sc (.string (⟨#[]⟩ : ByteArray))), .d (.sc (.slice none 0 0))]), (1000000, .arr 5 1 l.length (bytesD l))]⟩) (by kernel_rfl) ?_
  refine AOps.done ?_
  refine Then.go ?_
  refine AW.seq (by kernel_rfl) ?_
  refine AW.region (n := 7) (by kernel_rfl) (by kernel_rfl) ?_
  refine AOps.steps (i := 0) (m := 5) (r := 2) (i' := 5) (st' := ⟨[(11, .cell (.own 11)), (10, .cell (.d (.sc (.int .u8 2)))), (9, .cell (.d (.sc (.int .i64 2)))), (8, .cell (.ptr 3 0)), (7, .cell (.own 1000000)), (0, .cell (.own 1000000)), (3, .cell (.ptr 3 0))], [(11, .arr 5 1 1 [.sc (.int .u8 2)]), (3, .box [.d (.sc (.int .i64 2)), .d (.sc (.int .i64 n)), .d (.sc (.string (⟨#[]⟩ : ByteArray))), .d (.sc (.slice none 0 0))]), (1000000, .arr 5 1 l.length (bytesD l))]⟩) (by kernel_rfl) rfl rfl ?_
  refine AOps.one (i := 5) (r := 1) (i' := 6) (e := .new 1000000 (.arr 5 1 ((l ++ [2]).length) (bytesD (l ++ [2]))) 12 (.cell (.own 1000000))) (st' := ⟨[(12, .cell (.own 1000000)), (11, .cell (.own 11)), (10, .cell (.d (.sc (.int .u8 2)))), (9, .cell (.d (.sc (.int .i64 2)))), (8, .cell (.ptr 3 0)), (7, .cell (.junk)), (0, .cell (.junk)), (3, .cell (.ptr 3 0))], [(1000000, .arr 5 1 ((l ++ [2]).length) (bytesD (l ++ [2]))), (11, .arr 5 1 1 [.sc (.int .u8 2)]), (3, .box [.d (.sc (.int .i64 2)), .d (.sc (.int .i64 n)), .d (.sc (.string (⟨#[]⟩ : ByteArray))), .d (.sc (.slice none 0 0))])]⟩) (IEff.qappend (te := 5) (e := 1) (bytes := 1) (n := l.length) (m := 1) (cs := (bytesD l)) (ys := [.sc (.int .u8 2)]) (by kernel_rfl) (ml (by simp <;> omega)) (by simp <;> omega) (by simp [ByteArray.size]) (bytesD_snoc _ _ _ rfl)) rfl rfl (by kernel_rfl) ?_
  refine AOps.steps (i := 6) (m := 1) (r := 0) (i' := 7) (st' := ⟨[(0, .cell (.own 1000000)), (12, .cell (.own 1000000)), (11, .cell (.own 11)), (10, .cell (.d (.sc (.int .u8 2)))), (9, .cell (.d (.sc (.int .i64 2)))), (8, .cell (.ptr 3 0)), (7, .cell (.junk)), (3, .cell (.ptr 3 0))], [(1000000, .arr 5 1 ((l ++ [2]).length) (bytesD (l ++ [2]))), (11, .arr 5 1 1 [.sc (.int .u8 2)]), (3, .box [.d (.sc (.int .i64 2)), .d (.sc (.int .i64 n)), .d (.sc (.string (⟨#[]⟩ : ByteArray))), .d (.sc (.slice none 0 0))])]⟩) (by kernel_rfl) rfl rfl ?_
  refine AOps.keep [0, 3] [3, 1000000] (st' := ⟨[(0, .cell (.own 1000000)), (3, .cell (.ptr 3 0))], [(3, .box [.d (.sc (.int .i64 2)), .d (.sc (.int .i64 n)), .d (.sc (.string (⟨#[]⟩ : ByteArray))), .d (.sc (.slice none 0 0))]), (1000000, .arr 5 1 ((l ++ [2]).length) (bytesD (l ++ [2])))]⟩) (by kernel_rfl) ?_
  refine AOps.done ?_
  refine Then.go ?_
  refine AW.seq (by kernel_rfl) ?_
  refine AW.seq (by kernel_rfl) ?_
  refine AW.region (n := 2) (by kernel_rfl) (by kernel_rfl) ?_
  refine AOps.steps (i := 0) (m := 2) (r := 0) (i' := 2) (st' := ⟨[(14, .cell (.d (.sc (.int .i64 2)))), (13, .cell (.ptr 3 0)), (0, .cell (.own 1000000)), (3, .cell (.ptr 3 0))], [(3, .box [.d (.sc (.int .i64 2)), .d (.sc (.int .i64 n)), .d (.sc (.string (⟨#[]⟩ : ByteArray))), .d (.sc (.slice none 0 0))]), (1000000, .arr 5 1 ((l ++ [2]).length) (bytesD (l ++ [2])))]⟩) (by kernel_rfl) rfl rfl ?_
  refine AOps.keep [0, 3, 14] [3, 1000000] (st' := ⟨[(0, .cell (.own 1000000)), (3, .cell (.ptr 3 0)), (14, .cell (.d (.sc (.int .i64 2))))], [(3, .box [.d (.sc (.int .i64 2)), .d (.sc (.int .i64 n)), .d (.sc (.string (⟨#[]⟩ : ByteArray))), .d (.sc (.slice none 0 0))]), (1000000, .arr 5 1 ((l ++ [2]).length) (bytesD (l ++ [2])))]⟩) (by kernel_rfl) ?_
  refine AOps.done ?_
  refine Then.go ?_
  refine AW.block (by kernel_rfl) ?_
  refine AW.seq (by kernel_rfl) ?_
  refine AW.seq (by kernel_rfl) ?_
  refine AW.region (n := 2) (by kernel_rfl) (by kernel_rfl) ?_
  refine AOps.steps (i := 0) (m := 2) (r := 0) (i' := 2) (st' := ⟨[(15, .cell (.d (.sc (.bool false)))), (16, .cell (.d (.sc (.bool false)))), (0, .cell (.own 1000000)), (3, .cell (.ptr 3 0)), (14, .cell (.d (.sc (.int .i64 2))))], [(3, .box [.d (.sc (.int .i64 2)), .d (.sc (.int .i64 n)), .d (.sc (.string (⟨#[]⟩ : ByteArray))), .d (.sc (.slice none 0 0))]), (1000000, .arr 5 1 ((l ++ [2]).length) (bytesD (l ++ [2])))]⟩) (by kernel_rfl) rfl rfl ?_
  refine AOps.keep [0, 3, 14, 15] [3, 1000000] (st' := ⟨[(0, .cell (.own 1000000)), (3, .cell (.ptr 3 0)), (14, .cell (.d (.sc (.int .i64 2)))), (15, .cell (.d (.sc (.bool false))))], [(3, .box [.d (.sc (.int .i64 2)), .d (.sc (.int .i64 n)), .d (.sc (.string (⟨#[]⟩ : ByteArray))), .d (.sc (.slice none 0 0))]), (1000000, .arr 5 1 ((l ++ [2]).length) (bytesD (l ++ [2])))]⟩) (by kernel_rfl) ?_
  refine AOps.done ?_
  refine Then.go ?_
  refine AW.cond (b := false) (by kernel_rfl) (by kernel_rfl) (fun h => by cases h) (fun _ => ?_) 
  refine AW.region (n := 2) (by kernel_rfl) (by kernel_rfl) ?_
  refine AOps.steps (i := 0) (m := 2) (r := 0) (i' := 2) (st' := ⟨[(15, .cell (.d (.sc (.bool true)))), (17, .cell (.d (.sc (.bool true)))), (0, .cell (.own 1000000)), (3, .cell (.ptr 3 0)), (14, .cell (.d (.sc (.int .i64 2))))], [(3, .box [.d (.sc (.int .i64 2)), .d (.sc (.int .i64 n)), .d (.sc (.string (⟨#[]⟩ : ByteArray))), .d (.sc (.slice none 0 0))]), (1000000, .arr 5 1 ((l ++ [2]).length) (bytesD (l ++ [2])))]⟩) (by kernel_rfl) rfl rfl ?_
  refine AOps.keep [0, 3, 14, 15] [3, 1000000] (st' := ⟨[(0, .cell (.own 1000000)), (3, .cell (.ptr 3 0)), (14, .cell (.d (.sc (.int .i64 2)))), (15, .cell (.d (.sc (.bool true))))], [(3, .box [.d (.sc (.int .i64 2)), .d (.sc (.int .i64 n)), .d (.sc (.string (⟨#[]⟩ : ByteArray))), .d (.sc (.slice none 0 0))]), (1000000, .arr 5 1 ((l ++ [2]).length) (bytesD (l ++ [2])))]⟩) (by kernel_rfl) ?_
  refine AOps.done ?_
  refine Then.go ?_
  refine AW.cond (b := true) (by kernel_rfl) (by kernel_rfl) (fun _ => ?_) (fun h => by cases h) 
  refine AW.region (n := 7) (by kernel_rfl) (by kernel_rfl) ?_
  refine AOps.steps (i := 0) (m := 5) (r := 2) (i' := 5) (st' := ⟨[(22, .cell (.d (.sc (.int .u64 (bxor .u64 (IntKind.wrap .u64 (n)) 9223372036854775808))))), (21, .cell (.d (.sc (.int .u64 (IntKind.wrap .u64 (n)))))), (20, .cell (.d (.sc (.int .i64 n)))), (19, .cell (.ptr 3 1)), (18, .cell (.own 1000000)), (0, .cell (.own 1000000)), (3, .cell (.ptr 3 0)), (14, .cell (.d (.sc (.int .i64 2)))), (15, .cell (.d (.sc (.bool true))))], [(3, .box [.d (.sc (.int .i64 2)), .d (.sc (.int .i64 n)), .d (.sc (.string (⟨#[]⟩ : ByteArray))), .d (.sc (.slice none 0 0))]), (1000000, .arr 5 1 ((l ++ [2]).length) (bytesD (l ++ [2])))]⟩) (by kernel_rfl) rfl rfl ?_
  refine AOps.ocallE (i := 5) (r := 1) (i' := 6) (d := some 23) (f := 27) (cargs := [.cell (.own 1000000), .cell (.d (.sc (.int .u64 (bxor .u64 (IntKind.wrap .u64 (n)) 9223372036854775808)))), .cell (.d (.sc (.int .i64 8)))]) (α := Unit) (J := fun _ => True) (x := fun _ => .cell (.own 1000000)) (ob2 := fun _ => [(1000000, .arr 5 1 (((l ++ [2]) ++ numB (bxor .u64 (IntKind.wrap .u64 (n)) 9223372036854775808) 8).length) (bytesD ((l ++ [2]) ++ numB (bxor .u64 (IntKind.wrap .u64 (n)) 9223372036854775808) 8)))]) (by kernel_rfl) [(1000000, 1000000)] [] [] (by kernel_rfl) (by kernel_rfl) (by kernel_rfl) (by kernel_rfl) (number_c (l ++ [2]) (bxor .u64 (IntKind.wrap .u64 (n)) 9223372036854775808) 8 (by simp <;> omega) (by omega)) (fun _ => by kernel_rfl) (fun _ => by kernel_rfl) rfl rfl [0, 23] [1000000] (fun _ => (⟨[(0, .cell (.junk)), (23, .cell (.own 1000000))], [(1000000, .arr 5 1 (((l ++ [2]) ++ numB (bxor .u64 (IntKind.wrap .u64 (n)) 9223372036854775808) 8).length) (bytesD ((l ++ [2]) ++ numB (bxor .u64 (IntKind.wrap .u64 (n)) 9223372036854775808) 8)))]⟩ : ASt)) (fun _ => by kernel_rfl) ?_
  intro _ _
  try dsimp only
  refine AOps.steps (i := 6) (m := 1) (r := 0) (i' := 7) (st' := ⟨[(0, .cell (.own 1000000)), (23, .cell (.own 1000000))], [(1000000, .arr 5 1 (((l ++ [2]) ++ numB (bxor .u64 (IntKind.wrap .u64 (n)) 9223372036854775808) 8).length) (bytesD ((l ++ [2]) ++ numB (bxor .u64 (IntKind.wrap .u64 (n)) 9223372036854775808) 8)))]⟩) (by kernel_rfl) rfl rfl ?_
  refine AOps.keep [0] [1000000] (st' := ⟨[(0, .cell (.own 1000000))], [(1000000, .arr 5 1 (((l ++ [2]) ++ numB (bxor .u64 (IntKind.wrap .u64 (n)) 9223372036854775808) 8).length) (bytesD ((l ++ [2]) ++ numB (bxor .u64 (IntKind.wrap .u64 (n)) 9223372036854775808) 8)))]⟩) (by kernel_rfl) ?_
  refine AOps.done ?_
  refine InBlk.go ?_
  refine Then.go ?_
  refine AW.seq (by kernel_rfl) ?_
  refine AW.region (n := 2) (by kernel_rfl) (by kernel_rfl) ?_
  refine AOps.steps (i := 0) (m := 2) (r := 0) (i' := 2) (st' := ⟨[(4, .cell (.own 1000000)), (56, .cell (.own 1000000)), (0, .cell (.own 1000000))], [(1000000, .arr 5 1 (((l ++ [2]) ++ numB (bxor .u64 (IntKind.wrap .u64 (n)) 9223372036854775808) 8).length) (bytesD ((l ++ [2]) ++ numB (bxor .u64 (IntKind.wrap .u64 (n)) 9223372036854775808) 8)))]⟩) (by kernel_rfl) rfl rfl ?_
  refine AOps.keep [4] [1000000] (st' := ⟨[(4, .cell (.own 1000000))], [(1000000, .arr 5 1 (((l ++ [2]) ++ numB (bxor .u64 (IntKind.wrap .u64 (n)) 9223372036854775808) 8).length) (bytesD ((l ++ [2]) ++ numB (bxor .u64 (IntKind.wrap .u64 (n)) 9223372036854775808) 8)))]⟩) (by kernel_rfl) ?_
  refine AOps.done ?_
  refine Then.go ?_
  refine AW.ret (by kernel_rfl) ?_
  refine RetF.of_ret [] (x := .cell (.own 1000000)) (by kernel_rfl) ?_
  exact ⟨(), trivial, ret_eq rfl, by simp [putI]; rfl, trivial⟩

noncomputable def C10 : Code := (Tryd.f10.body).getD .skip

theorem Bytes_int (n : Int) : PCalls Tryd.prog 10 [.aggD [.sc (.int .i64 2), .sc (.int .i64 n), .sc (.string (⟨#[]⟩ : ByteArray)), .sc (.slice none 0 0)]] (.tup [.cell (.d (.sc (.string (intStr n)))), .cell (.d (.sc (.int .i64 0)))]) := by
  refine ACalls.of_AWF (fn := Tryd.f10) (c := C10) (N := 18) (rs := [.tmp 2, .tmp 3]) Tryd.func10 (by kernel_rfl) (by kernel_rfl) (by kernel_rfl) (by kernel_rfl) (by kernel_rfl) ?_
  show AW Tryd.prog 18 C10 ⟨[(0, .aggD [.sc (.int .i64 2), .sc (.int .i64 n), .sc (.string (⟨#[]⟩ : ByteArray)), .sc (.slice none 0 0)])], []⟩ _
  refine AW.seq (by kernel_rfl) ?_
  refine AW.region (n := 3) (by kernel_rfl) (by kernel_rfl) ?_
  refine AOps.steps (i := 0) (m := 3) (r := 0) (i' := 3) (st' := ⟨[(3, .cell (.d (.sc (.int .i64 0)))), (2, .cell (.d (.sc (.string (⟨#[]⟩ : ByteArray))))), (1, .cell (.ptr 1 0)), (0, .aggD [.sc (.int .i64 2), .sc (.int .i64 n), .sc (.string (⟨#[]⟩ : ByteArray)), .sc (.slice none 0 0)])], [(1, .box [.d (.sc (.int .i64 2)), .d (.sc (.int .i64 n)), .d (.sc (.string (⟨#[]⟩ : ByteArray))), .d (.sc (.slice none 0 0))])]⟩) (by kernel_rfl) rfl rfl ?_
  refine AOps.keep [1] [1] (st' := ⟨[(1, .cell (.ptr 1 0))], [(1, .box [.d (.sc (.int .i64 2)), .d (.sc (.int .i64 n)), .d (.sc (.string (⟨#[]⟩ : ByteArray))), .d (.sc (.slice none 0 0))])]⟩) (by kernel_rfl) ?_
  refine AOps.done ?_
  refine Then.go ?_
  refine AW.seq (by kernel_rfl) ?_
  refine AW.seq (by kernel_rfl) ?_
  refine AW.region (n := 3) (by kernel_rfl) (by kernel_rfl) ?_
  refine AOps.steps (i := 0) (m := 1) (r := 2) (i' := 1) (st' := ⟨[(6, .aggD [.sc (.int .i64 2), .sc (.int .i64 n), .sc (.string (⟨#[]⟩ : ByteArray)), .sc (.slice none 0 0)]), (1, .cell (.ptr 1 0))], [(1, .box [.d (.sc (.int .i64 2)), .d (.sc (.int .i64 n)), .d (.sc (.string (⟨#[]⟩ : ByteArray))), .d (.sc (.slice none 0 0))])]⟩) (by kernel_rfl) rfl rfl ?_
  refine AOps.one (i := 1) (r := 1) (i' := 2) (e := .put 7 (.cell (.d (.sc (.int .i64 0))))) (st' := ⟨[(7, .cell (.d (.sc (.int .i64 0)))), (6, .aggD [.sc (.int .i64 2), .sc (.int .i64 n), .sc (.string (⟨#[]⟩ : ByteArray)), .sc (.slice none 0 0)]), (1, .cell (.ptr 1 0))], [(1, .box [.d (.sc (.int .i64 2)), .d (.sc (.int .i64 n)), .d (.sc (.string (⟨#[]⟩ : ByteArray))), .d (.sc (.slice none 0 0))])]⟩) (IEff.qpcall (f := 25) (args := [.aggD [.sc (.int .i64 2), .sc (.int .i64 n), .sc (.string (⟨#[]⟩ : ByteArray)), .sc (.slice none 0 0)]]) (by kernel_rfl) (by kernel_rfl) (Check_int n) (by kernel_rfl)) rfl rfl (by kernel_rfl) ?_
  refine AOps.steps (i := 2) (m := 1) (r := 0) (i' := 3) (st' := ⟨[(4, .cell (.d (.sc (.int .i64 0)))), (7, .cell (.d (.sc (.int .i64 0)))), (6, .aggD [.sc (.int .i64 2), .sc (.int .i64 n), .sc (.string (⟨#[]⟩ : ByteArray)), .sc (.slice none 0 0)]), (1, .cell (.ptr 1 0))], [(1, .box [.d (.sc (.int .i64 2)), .d (.sc (.int .i64 n)), .d (.sc (.string (⟨#[]⟩ : ByteArray))), .d (.sc (.slice none 0 0))])]⟩) (by kernel_rfl) rfl rfl ?_
  refine AOps.keep [1, 4] [1] (st' := ⟨[(1, .cell (.ptr 1 0)), (4, .cell (.d (.sc (.int .i64 0))))], [(1, .box [.d (.sc (.int .i64 2)), .d (.sc (.int .i64 n)), .d (.sc (.string (⟨#[]⟩ : ByteArray))), .d (.sc (.slice none 0 0))])]⟩) (by kernel_rfl) ?_
  refine AOps.done ?_
  refine Then.go ?_
  refine AW.seq (by kernel_rfl) ?_
  refine AW.region (n := 2) (by kernel_rfl) (by kernel_rfl) ?_
  refine AOps.steps (i := 0) (m := 2) (r := 0) (i' := 2) (st' := ⟨[(9, .cell (.d (.sc (.bool false)))), (8, .cell (.d (.sc (.int .i64 0)))), (1, .cell (.ptr 1 0)), (4, .cell (.d (.sc (.int .i64 0))))], [(1, .box [.d (.sc (.int .i64 2)), .d (.sc (.int .i64 n)), .d (.sc (.string (⟨#[]⟩ : ByteArray))), .d (.sc (.slice none 0 0))])]⟩) (by kernel_rfl) rfl rfl ?_
  refine AOps.keep [1, 4, 9] [1] (st' := ⟨[(1, .cell (.ptr 1 0)), (4, .cell (.d (.sc (.int .i64 0)))), (9, .cell (.d (.sc (.bool false))))], [(1, .box [.d (.sc (.int .i64 2)), .d (.sc (.int .i64 n)), .d (.sc (.string (⟨#[]⟩ : ByteArray))), .d (.sc (.slice none 0 0))])]⟩) (by kernel_rfl) ?_
  refine AOps.done ?_
  refine Then.go ?_
  refine AW.cond (b := false) (by kernel_rfl) (by kernel_rfl) (fun h => by cases h) (fun _ => ?_) 
  refine AW.skip (by kernel_rfl) ?_
  refine Then.go ?_
  refine AW.seq (by kernel_rfl) ?_
  refine AW.region (n := 3) (by kernel_rfl) (by kernel_rfl) ?_
  refine AOps.steps (i := 0) (m := 1) (r := 2) (i' := 1) (st' := ⟨[(11, .aggD [.sc (.int .i64 2), .sc (.int .i64 n), .sc (.string (⟨#[]⟩ : ByteArray)), .sc (.slice none 0 0)]), (1, .cell (.ptr 1 0)), (4, .cell (.d (.sc (.int .i64 0)))), (9, .cell (.d (.sc (.bool false))))], [(1, .box [.d (.sc (.int .i64 2)), .d (.sc (.int .i64 n)), .d (.sc (.string (⟨#[]⟩ : ByteArray))), .d (.sc (.slice none 0 0))])]⟩) (by kernel_rfl) rfl rfl ?_
  refine AOps.ocallE (i := 1) (r := 1) (i' := 2) (d := some 12) (f := 26) (cargs := [.cell (.d (.sc (.slice none 0 0))), .aggD [.sc (.int .i64 2), .sc (.int .i64 n), .sc (.string (⟨#[]⟩ : ByteArray)), .sc (.slice none 0 0)]]) (α := Unit) (J := fun _ => True) (x := fun _ => .cell (.own 1000000)) (ob2 := fun _ => [(1000000, .arr 5 1 (([] ++ putI n).length) (bytesD ([] ++ putI n)))]) (by kernel_rfl) [] [(1000000, 12)] [⟨0, 1000000, 5, 1⟩] (by kernel_rfl) (by kernel_rfl) (by kernel_rfl) (by kernel_rfl) (Put_int [] n (by simp)) (fun _ => by kernel_rfl) (fun _ => by kernel_rfl) rfl rfl [12] [12] (fun _ => (⟨[(12, .cell (.own 12))], [(12, .arr 5 1 (([] ++ putI n).length) (bytesD ([] ++ putI n)))]⟩ : ASt)) (fun _ => by kernel_rfl) ?_
  intro _ _
  try dsimp only
  refine AOps.steps (i := 2) (m := 1) (r := 0) (i' := 3) (st' := ⟨[(5, .cell (.own 12)), (12, .cell (.own 12))], [(12, .arr 5 1 (([] ++ putI n).length) (bytesD ([] ++ putI n)))]⟩) (by kernel_rfl) rfl rfl ?_
  refine AOps.keep [5] [12] (st' := ⟨[(5, .cell (.own 12))], [(12, .arr 5 1 (([] ++ putI n).length) (bytesD ([] ++ putI n)))]⟩) (by kernel_rfl) ?_
  refine AOps.done ?_
  refine Then.go ?_
  refine AW.seq (by kernel_rfl) ?_
  refine AW.seq (by kernel_rfl) ?_
  refine AW.region (n := 3) (by kernel_rfl) (by kernel_rfl) ?_
  refine AOps.steps (i := 0) (m := 3) (r := 0) (i' := 3) (st' := ⟨[(15, .cell (.d (.sc (.bool (decide ((((([] ++ putI n).length) : Int) : Int) > 8000)))))), (14, .cell (.d (.sc (.int .i64 ((([] ++ putI n).length) : Int))))), (13, .cell (.own 12)), (5, .cell (.own 12))], [(12, .arr 5 1 (([] ++ putI n).length) (bytesD ([] ++ putI n)))]⟩) (by kernel_rfl) rfl rfl ?_
  refine AOps.keep [5, 15] [12] (st' := ⟨[(5, .cell (.own 12)), (15, .cell (.d (.sc (.bool (decide ((((([] ++ putI n).length) : Int) : Int) > 8000))))))], [(12, .arr 5 1 (([] ++ putI n).length) (bytesD ([] ++ putI n)))]⟩) (by kernel_rfl) ?_
  refine AOps.done ?_
  refine Then.go ?_
  refine AW.cond (b := decide ((((([] ++ putI n).length) : Int) : Int) > 8000)) (by kernel_rfl) (by kernel_rfl) (fun h1 => ?_) (fun h1 => ?_)
  · -- decide ((((([] ++ putI n).length) : Int) : Int) > 8000) = True
    try simp only [Bool.and_eq_true, Bool.or_eq_true, Bool.and_eq_false_iff, Bool.or_eq_false_iff, decide_eq_true_eq, decide_eq_false_iff_not, beq_iff_eq, bne_iff_ne, ne_eq, Bool.not_eq_true', Bool.not_eq_false', beq_eq_false_iff_ne, bne_eq_false_iff_eq, Decidable.not_not, Int.not_lt, Int.not_le, gt_iff_lt, ge_iff_le] at h1
    simp [putI_length] at h1
  · -- decide ((((([] ++ putI n).length) : Int) : Int) > 8000) = False
    try simp only [Bool.and_eq_true, Bool.or_eq_true, Bool.and_eq_false_iff, Bool.or_eq_false_iff, decide_eq_true_eq, decide_eq_false_iff_not, beq_iff_eq, bne_iff_ne, ne_eq, Bool.not_eq_true', Bool.not_eq_false', beq_eq_false_iff_ne, bne_eq_false_iff_eq, Decidable.not_not, Int.not_lt, Int.not_le, gt_iff_lt, ge_iff_le] at h1
    refine AW.skip (by kernel_rfl) ?_
    refine Then.go ?_
    refine AW.seq (by kernel_rfl) ?_
    refine AW.region (n := 4) (by kernel_rfl) (by kernel_rfl) ?_
    refine AOps.steps (i := 0) (m := 1) (r := 3) (i' := 1) (st' := ⟨[(16, .cell (.own 12)), (5, .cell (.own 12)), (15, .cell (.d (.sc (.bool (decide ((((([] ++ putI n).length) : Int) : Int) > 8000))))))], [(12, .arr 5 1 (([] ++ putI n).length) (bytesD ([] ++ putI n)))]⟩) (by kernel_rfl) rfl rfl ?_
    refine AOps.freeze 12 (st' := ⟨[(16, .cell (.d (.sl 1 (([] ++ putI n).length) (bytesD ([] ++ putI n))))), (5, .cell (.d (.sl 1 (([] ++ putI n).length) (bytesD ([] ++ putI n))))), (15, .cell (.d (.sc (.bool (decide ((((([] ++ putI n).length) : Int) : Int) > 8000))))))], [(12, .gone)]⟩) (by kernel_rfl) ?_
    refine AOps.one (i := 1) (r := 2) (i' := 2) (e := .put 17 (.cell (.d (.sc (.string (⟨([] ++ putI n).toArray⟩ : ByteArray)))))) (st' := ⟨[(17, .cell (.d (.sc (.string (⟨([] ++ putI n).toArray⟩ : ByteArray))))), (16, .cell (.d (.sl 1 (([] ++ putI n).length) (bytesD ([] ++ putI n))))), (5, .cell (.d (.sl 1 (([] ++ putI n).length) (bytesD ([] ++ putI n))))), (15, .cell (.d (.sc (.bool (decide ((((([] ++ putI n).length) : Int) : Int) > 8000))))))], [(12, .gone)]⟩) (IEff.qofBytes (n := (([] ++ putI n).length)) (cs := (bytesD ([] ++ putI n))) (b := ([] ++ putI n)) (r := (⟨([] ++ putI n).toArray⟩ : ByteArray)) (by kernel_rfl) rfl rfl rfl) rfl rfl (by kernel_rfl) ?_
    refine AOps.steps (i := 2) (m := 2) (r := 0) (i' := 4) (st' := ⟨[(3, .cell (.d (.sc (.int .i64 0)))), (2, .cell (.d (.sc (.string (⟨([] ++ putI n).toArray⟩ : ByteArray))))), (17, .cell (.d (.sc (.string (⟨([] ++ putI n).toArray⟩ : ByteArray))))), (16, .cell (.d (.sl 1 (([] ++ putI n).length) (bytesD ([] ++ putI n))))), (5, .cell (.d (.sl 1 (([] ++ putI n).length) (bytesD ([] ++ putI n))))), (15, .cell (.d (.sc (.bool (decide ((((([] ++ putI n).length) : Int) : Int) > 8000))))))], [(12, .gone)]⟩) (by kernel_rfl) rfl rfl ?_
    refine AOps.keep [2, 3] [] (st' := ⟨[(2, .cell (.d (.sc (.string (⟨([] ++ putI n).toArray⟩ : ByteArray))))), (3, .cell (.d (.sc (.int .i64 0))))], []⟩) (by kernel_rfl) ?_
    refine AOps.done ?_
    refine Then.go ?_
    refine AW.ret (by kernel_rfl) ?_
    refine RetF.of_ret [] (x := .tup [.cell (.d (.sc (.string (⟨([] ++ putI n).toArray⟩ : ByteArray)))), .cell (.d (.sc (.int .i64 0)))]) (by kernel_rfl) ?_
    exact ret_eq rfl

noncomputable def C13 : Code := (Tryd.f13.body).getD .skip

theorem Frame_c (b : ByteArray) (h0 : seq b (⟨#[]⟩ : ByteArray) = false) (hb : b.size ≤ 8000) : PCalls Tryd.prog 13 [.cell (.d (.sc (.string b)))] (.tup [.cell (.d (.sc (.string (frameOf b)))), .cell (.d (.sc (.int .i64 0)))]) := by
  refine ACalls.of_AWF (fn := Tryd.f13) (c := C13) (N := 19) (rs := [.tmp 2, .tmp 3]) Tryd.func13 (by kernel_rfl) (by kernel_rfl) (by kernel_rfl) (by kernel_rfl) (by kernel_rfl) ?_
  show AW Tryd.prog 19 C13 ⟨[(0, .cell (.d (.sc (.string b))))], []⟩ _
  refine AW.seq (by kernel_rfl) ?_
  refine AW.region (n := 2) (by kernel_rfl) (by kernel_rfl) ?_
  refine AOps.steps (i := 0) (m := 2) (r := 0) (i' := 2) (st' := ⟨[(3, .cell (.d (.sc (.int .i64 0)))), (2, .cell (.d (.sc (.string (⟨#[]⟩ : ByteArray))))), (0, .cell (.d (.sc (.string b))))], []⟩) (by kernel_rfl) rfl rfl ?_
  refine AOps.keep [0] [] (st' := ⟨[(0, .cell (.d (.sc (.string b))))], []⟩) (by kernel_rfl) ?_
  refine AOps.done ?_
  refine Then.go ?_
  refine AW.seq (by kernel_rfl) ?_
  refine AW.seq (by kernel_rfl) ?_
  refine AW.region (n := 2) (by kernel_rfl) (by kernel_rfl) ?_
  refine AOps.steps (i := 0) (m := 2) (r := 0) (i' := 2) (st' := ⟨[(5, .cell (.d (.sc (.bool (seq b (⟨#[]⟩ : ByteArray)))))), (4, .cell (.d (.sc (.string b)))), (0, .cell (.d (.sc (.string b))))], []⟩) (by kernel_rfl) rfl rfl ?_
  refine AOps.keep [0, 5] [] (st' := ⟨[(0, .cell (.d (.sc (.string b)))), (5, .cell (.d (.sc (.bool (seq b (⟨#[]⟩ : ByteArray))))))], []⟩) (by kernel_rfl) ?_
  refine AOps.done ?_
  refine Then.go ?_
  refine AW.cond (b := seq b (⟨#[]⟩ : ByteArray)) (by kernel_rfl) (by kernel_rfl) (fun h1 => ?_) (fun h1 => ?_)
  · -- seq b (⟨#[]⟩ : ByteArray) = True
    exact absurd h1 (by simp [h0])
  · -- seq b (⟨#[]⟩ : ByteArray) = False
    refine AW.skip (by kernel_rfl) ?_
    refine Then.go ?_
    refine AW.seq (by kernel_rfl) ?_
    refine AW.seq (by kernel_rfl) ?_
    refine AW.region (n := 3) (by kernel_rfl) (by kernel_rfl) ?_
    refine AOps.steps (i := 0) (m := 3) (r := 0) (i' := 3) (st' := ⟨[(8, .cell (.d (.sc (.bool (decide (((b.size : Int) : Int) > 8000)))))), (7, .cell (.d (.sc (.int .i64 (b.size : Int))))), (6, .cell (.d (.sc (.string b)))), (0, .cell (.d (.sc (.string b)))), (5, .cell (.d (.sc (.bool (seq b (⟨#[]⟩ : ByteArray))))))], []⟩) (by kernel_rfl) rfl rfl ?_
    refine AOps.keep [0, 8] [] (st' := ⟨[(0, .cell (.d (.sc (.string b)))), (8, .cell (.d (.sc (.bool (decide (((b.size : Int) : Int) > 8000))))))], []⟩) (by kernel_rfl) ?_
    refine AOps.done ?_
    refine Then.go ?_
    refine AW.cond (b := decide (((b.size : Int) : Int) > 8000)) (by kernel_rfl) (by kernel_rfl) (fun h2 => ?_) (fun h2 => ?_)
    · -- decide (((b.size : Int) : Int) > 8000) = True
      try simp only [Bool.and_eq_true, Bool.or_eq_true, Bool.and_eq_false_iff, Bool.or_eq_false_iff, decide_eq_true_eq, decide_eq_false_iff_not, beq_iff_eq, bne_iff_ne, ne_eq, Bool.not_eq_true', Bool.not_eq_false', beq_eq_false_iff_ne, bne_eq_false_iff_eq, Decidable.not_not, Int.not_lt, Int.not_le, gt_iff_lt, ge_iff_le] at h2
      omega
    · -- decide (((b.size : Int) : Int) > 8000) = False
      try simp only [Bool.and_eq_true, Bool.or_eq_true, Bool.and_eq_false_iff, Bool.or_eq_false_iff, decide_eq_true_eq, decide_eq_false_iff_not, beq_iff_eq, bne_iff_ne, ne_eq, Bool.not_eq_true', Bool.not_eq_false', beq_eq_false_iff_ne, bne_eq_false_iff_eq, Decidable.not_not, Int.not_lt, Int.not_le, gt_iff_lt, ge_iff_le] at h2
      refine AW.skip (by kernel_rfl) ?_
      refine Then.go ?_
      refine AW.seq (by kernel_rfl) ?_
      refine AW.region (n := 12) (by kernel_rfl) (by kernel_rfl) ?_
      refine AOps.steps (i := 0) (m := 3) (r := 9) (i' := 3) (st' := ⟨[(11, .cell (.d (.sc (.int .u64 (IntKind.wrap .u64 ((b.size : Int))))))), (10, .cell (.d (.sc (.int .i64 (b.size : Int))))), (9, .cell (.d (.sc (.string b)))), (0, .cell (.d (.sc (.string b)))), (8, .cell (.d (.sc (.bool (decide (((b.size : Int) : Int) > 8000))))))], []⟩) (by kernel_rfl) rfl rfl ?_
      refine AOps.ocallE (i := 3) (r := 8) (i' := 4) (d := some 12) (f := 27) (cargs := [.cell (.d (.sc (.slice none 0 0))), .cell (.d (.sc (.int .u64 (IntKind.wrap .u64 ((b.size : Int)))))), .cell (.d (.sc (.int .i64 4)))]) (α := Unit) (J := fun _ => True) (x := fun _ => .cell (.own 1000000)) (ob2 := fun _ => [(1000000, .arr 5 1 (([] ++ numB (IntKind.wrap .u64 ((b.size : Int))) 4).length) (bytesD ([] ++ numB (IntKind.wrap .u64 ((b.size : Int))) 4)))]) (by kernel_rfl) [] [(1000000, 12)] [⟨0, 1000000, 5, 1⟩] (by kernel_rfl) (by kernel_rfl) (by kernel_rfl) (by kernel_rfl) (number_c [] (IntKind.wrap .u64 ((b.size : Int))) 4 (by simp [numB_length] <;> omega) (by omega)) (fun _ => by kernel_rfl) (fun _ => by kernel_rfl) rfl rfl [0, 12] [12] (fun _ => (⟨[(0, .cell (.d (.sc (.string b)))), (12, .cell (.own 12))], [(12, .arr 5 1 (([] ++ numB (IntKind.wrap .u64 ((b.size : Int))) 4).length) (bytesD ([] ++ numB (IntKind.wrap .u64 ((b.size : Int))) 4)))]⟩ : ASt)) (fun _ => by kernel_rfl) ?_
      intro _ _
      try dsimp only
      refine AOps.steps (i := 4) (m := 1) (r := 7) (i' := 5) (st' := ⟨[(13, .cell (.d (.sc (.string b)))), (0, .cell (.d (.sc (.string b)))), (12, .cell (.own 12))], [(12, .arr 5 1 (([] ++ numB (IntKind.wrap .u64 ((b.size : Int))) 4).length) (bytesD ([] ++ numB (IntKind.wrap .u64 ((b.size : Int))) 4)))]⟩) (by kernel_rfl) rfl rfl ?_
      refine AOps.one (i := 5) (r := 6) (i' := 6) (e := .put 14 (.cell (.d (.sc (.int .u64 (sumOf b)))))) (st' := ⟨[(14, .cell (.d (.sc (.int .u64 (sumOf b))))), (13, .cell (.d (.sc (.string b)))), (0, .cell (.d (.sc (.string b)))), (12, .cell (.own 12))], [(12, .arr 5 1 (([] ++ numB (IntKind.wrap .u64 ((b.size : Int))) 4).length) (bytesD ([] ++ numB (IntKind.wrap .u64 ((b.size : Int))) 4)))]⟩) (IEff.qpcall (f := 28) (args := [.cell (.d (.sc (.string b)))]) (by kernel_rfl) (by kernel_rfl) (sum_c b (by omega)) (by kernel_rfl)) rfl rfl (by kernel_rfl) ?_
      refine AOps.ocallE (i := 6) (r := 5) (i' := 7) (d := some 15) (f := 27) (cargs := [.cell (.own 12), .cell (.d (.sc (.int .u64 (sumOf b)))), .cell (.d (.sc (.int .i64 4)))]) (α := Unit) (J := fun _ => True) (x := fun _ => .cell (.own 1000000)) (ob2 := fun _ => [(1000000, .arr 5 1 ((([] ++ numB (IntKind.wrap .u64 ((b.size : Int))) 4) ++ numB (sumOf b) 4).length) (bytesD (([] ++ numB (IntKind.wrap .u64 ((b.size : Int))) 4) ++ numB (sumOf b) 4)))]) (by kernel_rfl) [(1000000, 12)] [] [] (by kernel_rfl) (by kernel_rfl) (by kernel_rfl) (by kernel_rfl) (number_c ([] ++ numB (IntKind.wrap .u64 ((b.size : Int))) 4) (sumOf b) 4 (by simp [numB_length] <;> omega) (by omega)) (fun _ => by kernel_rfl) (fun _ => by kernel_rfl) rfl rfl [0, 15] [12] (fun _ => (⟨[(0, .cell (.d (.sc (.string b)))), (15, .cell (.own 12))], [(12, .arr 5 1 ((([] ++ numB (IntKind.wrap .u64 ((b.size : Int))) 4) ++ numB (sumOf b) 4).length) (bytesD (([] ++ numB (IntKind.wrap .u64 ((b.size : Int))) 4) ++ numB (sumOf b) 4)))]⟩ : ASt)) (fun _ => by kernel_rfl) ?_
      intro _ _
      try dsimp only
      refine AOps.freeze 12 (st' := ⟨[(0, .cell (.d (.sc (.string b)))), (15, .cell (.d (.sl 1 ((([] ++ numB (IntKind.wrap .u64 ((b.size : Int))) 4) ++ numB (sumOf b) 4).length) (bytesD (([] ++ numB (IntKind.wrap .u64 ((b.size : Int))) 4) ++ numB (sumOf b) 4)))))], [(12, .gone)]⟩) (by kernel_rfl) ?_
      refine AOps.one (i := 7) (r := 4) (i' := 8) (e := .put 16 (.cell (.d (.sc (.string (⟨(([] ++ numB (IntKind.wrap .u64 ((b.size : Int))) 4) ++ numB (sumOf b) 4).toArray⟩ : ByteArray)))))) (st' := ⟨[(16, .cell (.d (.sc (.string (⟨(([] ++ numB (IntKind.wrap .u64 ((b.size : Int))) 4) ++ numB (sumOf b) 4).toArray⟩ : ByteArray))))), (0, .cell (.d (.sc (.string b)))), (15, .cell (.d (.sl 1 ((([] ++ numB (IntKind.wrap .u64 ((b.size : Int))) 4) ++ numB (sumOf b) 4).length) (bytesD (([] ++ numB (IntKind.wrap .u64 ((b.size : Int))) 4) ++ numB (sumOf b) 4)))))], [(12, .gone)]⟩) (IEff.qofBytes (n := ((([] ++ numB (IntKind.wrap .u64 ((b.size : Int))) 4) ++ numB (sumOf b) 4).length)) (cs := (bytesD (([] ++ numB (IntKind.wrap .u64 ((b.size : Int))) 4) ++ numB (sumOf b) 4))) (b := (([] ++ numB (IntKind.wrap .u64 ((b.size : Int))) 4) ++ numB (sumOf b) 4)) (r := (⟨(([] ++ numB (IntKind.wrap .u64 ((b.size : Int))) 4) ++ numB (sumOf b) 4).toArray⟩ : ByteArray)) (by kernel_rfl) rfl rfl rfl) rfl rfl (by kernel_rfl) ?_
      refine AOps.steps (i := 8) (m := 1) (r := 3) (i' := 9) (st' := ⟨[(17, .cell (.d (.sc (.string b)))), (16, .cell (.d (.sc (.string (⟨(([] ++ numB (IntKind.wrap .u64 ((b.size : Int))) 4) ++ numB (sumOf b) 4).toArray⟩ : ByteArray))))), (0, .cell (.d (.sc (.string b)))), (15, .cell (.d (.sl 1 ((([] ++ numB (IntKind.wrap .u64 ((b.size : Int))) 4) ++ numB (sumOf b) 4).length) (bytesD (([] ++ numB (IntKind.wrap .u64 ((b.size : Int))) 4) ++ numB (sumOf b) 4)))))], [(12, .gone)]⟩) (by kernel_rfl) rfl rfl ?_
      refine AOps.one (i := 9) (r := 2) (i' := 10) (e := .put 18 (.cell (.d (.sc (.string ((⟨(([] ++ numB (IntKind.wrap .u64 ((b.size : Int))) 4) ++ numB (sumOf b) 4).toArray⟩ : ByteArray) ++ b)))))) (st' := ⟨[(18, .cell (.d (.sc (.string ((⟨(([] ++ numB (IntKind.wrap .u64 ((b.size : Int))) 4) ++ numB (sumOf b) 4).toArray⟩ : ByteArray) ++ b))))), (17, .cell (.d (.sc (.string b)))), (16, .cell (.d (.sc (.string (⟨(([] ++ numB (IntKind.wrap .u64 ((b.size : Int))) 4) ++ numB (sumOf b) 4).toArray⟩ : ByteArray))))), (0, .cell (.d (.sc (.string b)))), (15, .cell (.d (.sl 1 ((([] ++ numB (IntKind.wrap .u64 ((b.size : Int))) 4) ++ numB (sumOf b) 4).length) (bytesD (([] ++ numB (IntKind.wrap .u64 ((b.size : Int))) 4) ++ numB (sumOf b) 4)))))], [(12, .gone)]⟩) (IEff.qcat (a := (⟨(([] ++ numB (IntKind.wrap .u64 ((b.size : Int))) 4) ++ numB (sumOf b) 4).toArray⟩ : ByteArray)) (b := b) (r := ((⟨(([] ++ numB (IntKind.wrap .u64 ((b.size : Int))) 4) ++ numB (sumOf b) 4).toArray⟩ : ByteArray) ++ b)) (by kernel_rfl) (show (⟨(headOf b).toArray⟩ : ByteArray).size + b.size ≤ 9223372036854775807 by have h9 : (⟨(headOf b).toArray⟩ : ByteArray).size = 8 := headOf_length b; omega) rfl) rfl rfl (by kernel_rfl) ?_
      refine AOps.steps (i := 10) (m := 2) (r := 0) (i' := 12) (st' := ⟨[(3, .cell (.d (.sc (.int .i64 0)))), (2, .cell (.d (.sc (.string ((⟨(([] ++ numB (IntKind.wrap .u64 ((b.size : Int))) 4) ++ numB (sumOf b) 4).toArray⟩ : ByteArray) ++ b))))), (18, .cell (.d (.sc (.string ((⟨(([] ++ numB (IntKind.wrap .u64 ((b.size : Int))) 4) ++ numB (sumOf b) 4).toArray⟩ : ByteArray) ++ b))))), (17, .cell (.d (.sc (.string b)))), (16, .cell (.d (.sc (.string (⟨(([] ++ numB (IntKind.wrap .u64 ((b.size : Int))) 4) ++ numB (sumOf b) 4).toArray⟩ : ByteArray))))), (0, .cell (.d (.sc (.string b)))), (15, .cell (.d (.sl 1 ((([] ++ numB (IntKind.wrap .u64 ((b.size : Int))) 4) ++ numB (sumOf b) 4).length) (bytesD (([] ++ numB (IntKind.wrap .u64 ((b.size : Int))) 4) ++ numB (sumOf b) 4)))))], [(12, .gone)]⟩) (by kernel_rfl) rfl rfl ?_
      refine AOps.keep [2, 3] [] (st' := ⟨[(2, .cell (.d (.sc (.string ((⟨(([] ++ numB (IntKind.wrap .u64 ((b.size : Int))) 4) ++ numB (sumOf b) 4).toArray⟩ : ByteArray) ++ b))))), (3, .cell (.d (.sc (.int .i64 0))))], []⟩) (by kernel_rfl) ?_
      refine AOps.done ?_
      refine Then.go ?_
      refine AW.ret (by kernel_rfl) ?_
      refine RetF.of_ret [] (x := .tup [.cell (.d (.sc (.string ((⟨(([] ++ numB (IntKind.wrap .u64 ((b.size : Int))) 4) ++ numB (sumOf b) 4).toArray⟩ : ByteArray) ++ b)))), .cell (.d (.sc (.int .i64 0)))]) (by kernel_rfl) ?_
      exact ret_eq rfl

noncomputable def C12 : Code := (Tryd.f12.body).getD .skip

theorem coded_c  : PCalls Tryd.prog 12 [] (.cell (.d (.sc (.bool true)))) := by
  refine ACalls.of_AWF (fn := Tryd.f12) (c := C12) (N := 28) (rs := [.tmp 0]) Tryd.func12 (by kernel_rfl) (by kernel_rfl) (by kernel_rfl) (by kernel_rfl) (by kernel_rfl) ?_
  show AW Tryd.prog 28 C12 ⟨[], []⟩ _
  refine AW.seq (by kernel_rfl) ?_
  refine AW.region (n := 1) (by kernel_rfl) (by kernel_rfl) ?_
  refine AOps.steps (i := 0) (m := 1) (r := 0) (i' := 1) (st' := ⟨[(0, .cell (.d (.sc (.bool false))))], []⟩) (by kernel_rfl) rfl rfl ?_
  refine AOps.keep [] [] (st' := ⟨[], []⟩) (by kernel_rfl) ?_
  refine AOps.done ?_
  refine Then.go ?_
  refine AW.seq (by kernel_rfl) ?_
  refine AW.region (n := 7) (by kernel_rfl) (by kernel_rfl) ?_
  refine AOps.one (i := 0) (r := 6) (i' := 1) (e := .put 6 (.aggD [.sc (.int .i64 2), .sc (.int .i64 1), .sc (.string (⟨#[]⟩ : ByteArray)), .sc (.slice none 0 0)])) (st' := ⟨[(6, .aggD [.sc (.int .i64 2), .sc (.int .i64 1), .sc (.string (⟨#[]⟩ : ByteArray)), .sc (.slice none 0 0)])], []⟩) (IEff.qpcall (f := 11) (args := [.cell (.d (.sc (.int .i64 1)))]) (by kernel_rfl) (by kernel_rfl) (num_c 1) (by kernel_rfl)) rfl rfl (by kernel_rfl) ?_
  refine AOps.one (i := 1) (r := 5) (i' := 2) (e := .put 7 (.tup [.cell (.d (.sc (.string (intStr 1)))), .cell (.d (.sc (.int .i64 0)))])) (st' := ⟨[(7, .tup [.cell (.d (.sc (.string (intStr 1)))), .cell (.d (.sc (.int .i64 0)))]), (6, .aggD [.sc (.int .i64 2), .sc (.int .i64 1), .sc (.string (⟨#[]⟩ : ByteArray)), .sc (.slice none 0 0)])], []⟩) (IEff.qpcall (f := 10) (args := [.aggD [.sc (.int .i64 2), .sc (.int .i64 1), .sc (.string (⟨#[]⟩ : ByteArray)), .sc (.slice none 0 0)]]) (by kernel_rfl) (by kernel_rfl) (Bytes_int 1) (by kernel_rfl)) rfl rfl (by kernel_rfl) ?_
  refine AOps.steps (i := 2) (m := 5) (r := 0) (i' := 7) (st' := ⟨[(2, .cell (.d (.sc (.int .i64 0)))), (1, .cell (.d (.sc (.string (intStr 1))))), (9, .cell (.d (.sc (.int .i64 0)))), (8, .cell (.d (.sc (.string (intStr 1))))), (5, .tup [.cell (.d (.sc (.string (intStr 1)))), .cell (.d (.sc (.int .i64 0)))]), (7, .tup [.cell (.d (.sc (.string (intStr 1)))), .cell (.d (.sc (.int .i64 0)))]), (6, .aggD [.sc (.int .i64 2), .sc (.int .i64 1), .sc (.string (⟨#[]⟩ : ByteArray)), .sc (.slice none 0 0)])], []⟩) (by kernel_rfl) rfl rfl ?_
  refine AOps.keep [1, 2] [] (st' := ⟨[(1, .cell (.d (.sc (.string (intStr 1))))), (2, .cell (.d (.sc (.int .i64 0))))], []⟩) (by kernel_rfl) ?_
  refine AOps.done ?_
  refine Then.go ?_
  refine AW.seq (by kernel_rfl) ?_
  refine AW.region (n := 6) (by kernel_rfl) (by kernel_rfl) ?_
  refine AOps.one (i := 0) (r := 5) (i' := 1) (e := .put 11 (.tup [.cell (.d (.sc (.string (frameOf (⟨#[97]⟩ : ByteArray))))), .cell (.d (.sc (.int .i64 0)))])) (st' := ⟨[(11, .tup [.cell (.d (.sc (.string (frameOf (⟨#[97]⟩ : ByteArray))))), .cell (.d (.sc (.int .i64 0)))]), (1, .cell (.d (.sc (.string (intStr 1))))), (2, .cell (.d (.sc (.int .i64 0))))], []⟩) (IEff.qpcall (f := 13) (args := [.cell (.d (.sc (.string (⟨#[97]⟩ : ByteArray))))]) (by kernel_rfl) (by kernel_rfl) (Frame_c (⟨#[97]⟩ : ByteArray) (by kernel_rfl) (by decide)) (by kernel_rfl)) rfl rfl (by kernel_rfl) ?_
  refine AOps.steps (i := 1) (m := 5) (r := 0) (i' := 6) (st' := ⟨[(4, .cell (.d (.sc (.int .i64 0)))), (3, .cell (.d (.sc (.string (frameOf (⟨#[97]⟩ : ByteArray)))))), (13, .cell (.d (.sc (.int .i64 0)))), (12, .cell (.d (.sc (.string (frameOf (⟨#[97]⟩ : ByteArray)))))), (10, .tup [.cell (.d (.sc (.string (frameOf (⟨#[97]⟩ : ByteArray))))), .cell (.d (.sc (.int .i64 0)))]), (11, .tup [.cell (.d (.sc (.string (frameOf (⟨#[97]⟩ : ByteArray))))), .cell (.d (.sc (.int .i64 0)))]), (1, .cell (.d (.sc (.string (intStr 1))))), (2, .cell (.d (.sc (.int .i64 0))))], []⟩) (by kernel_rfl) rfl rfl ?_
  refine AOps.keep [1, 2, 3, 4] [] (st' := ⟨[(1, .cell (.d (.sc (.string (intStr 1))))), (2, .cell (.d (.sc (.int .i64 0)))), (3, .cell (.d (.sc (.string (frameOf (⟨#[97]⟩ : ByteArray)))))), (4, .cell (.d (.sc (.int .i64 0))))], []⟩) (by kernel_rfl) ?_
  refine AOps.done ?_
  refine Then.go ?_
  refine AW.seq (by kernel_rfl) ?_
  refine AW.region (n := 15) (by kernel_rfl) (by kernel_rfl) ?_
  refine AOps.stepsK (i := 0) (m := 11) (r := 4) (i' := 11) (st' := ⟨[(24, .cell (.d (.sc (.bool (seq (intStr 1) (⟨#[2, 128, 0, 0, 0, 0, 0, 0, 1]⟩ : ByteArray)))))), (23, .cell (.d (.sc (.bool (seq (intStr 1) (⟨#[2, 128, 0, 0, 0, 0, 0, 0, 1]⟩ : ByteArray)))))), (22, .cell (.d (.sc (.bool (seq (intStr 1) (⟨#[2, 128, 0, 0, 0, 0, 0, 0, 1]⟩ : ByteArray)))))), (21, .cell (.d (.sc (.string (intStr 1))))), (20, .cell (.d (.sc (.bool true)))), (19, .cell (.d (.sc (.bool true)))), (18, .cell (.d (.sc (.bool true)))), (17, .cell (.d (.sc (.int .i64 0)))), (16, .cell (.d (.sc (.bool true)))), (15, .cell (.d (.sc (.bool true)))), (14, .cell (.d (.sc (.int .i64 0)))), (1, .cell (.d (.sc (.string (intStr 1))))), (2, .cell (.d (.sc (.int .i64 0)))), (3, .cell (.d (.sc (.string (frameOf (⟨#[97]⟩ : ByteArray)))))), (4, .cell (.d (.sc (.int .i64 0))))], []⟩) (by kernel_rfl) rfl rfl ?_
  refine AOps.steps (i := 11) (m := 4) (r := 0) (i' := 15) (st' := ⟨[(0, .cell (.d (.sc (.bool ((seq (intStr 1) (⟨#[2, 128, 0, 0, 0, 0, 0, 0, 1]⟩ : ByteArray)) && (seq (frameOf (⟨#[97]⟩ : ByteArray)) (⟨#[0, 0, 0, 1, 232, 183, 190, 67, 97]⟩ : ByteArray))))))), (27, .cell (.d (.sc (.bool ((seq (intStr 1) (⟨#[2, 128, 0, 0, 0, 0, 0, 0, 1]⟩ : ByteArray)) && (seq (frameOf (⟨#[97]⟩ : ByteArray)) (⟨#[0, 0, 0, 1, 232, 183, 190, 67, 97]⟩ : ByteArray))))))), (26, .whn 24 true (.cell (.d (.sc (.bool (seq (frameOf (⟨#[97]⟩ : ByteArray)) (⟨#[0, 0, 0, 1, 232, 183, 190, 67, 97]⟩ : ByteArray))))))), (25, .whn 24 true (.cell (.d (.sc (.string (frameOf (⟨#[97]⟩ : ByteArray))))))), (24, .cell (.d (.sc (.bool (seq (intStr 1) (⟨#[2, 128, 0, 0, 0, 0, 0, 0, 1]⟩ : ByteArray)))))), (23, .cell (.d (.sc (.bool (seq (intStr 1) (⟨#[2, 128, 0, 0, 0, 0, 0, 0, 1]⟩ : ByteArray)))))), (22, .cell (.d (.sc (.bool (seq (intStr 1) (⟨#[2, 128, 0, 0, 0, 0, 0, 0, 1]⟩ : ByteArray)))))), (21, .cell (.d (.sc (.string (intStr 1))))), (20, .cell (.d (.sc (.bool true)))), (19, .cell (.d (.sc (.bool true)))), (18, .cell (.d (.sc (.bool true)))), (17, .cell (.d (.sc (.int .i64 0)))), (16, .cell (.d (.sc (.bool true)))), (15, .cell (.d (.sc (.bool true)))), (14, .cell (.d (.sc (.int .i64 0)))), (1, .cell (.d (.sc (.string (intStr 1))))), (2, .cell (.d (.sc (.int .i64 0)))), (3, .cell (.d (.sc (.string (frameOf (⟨#[97]⟩ : ByteArray)))))), (4, .cell (.d (.sc (.int .i64 0))))], []⟩) (by kernel_rfl) rfl rfl ?_
  refine AOps.keep [0] [] (st' := ⟨[(0, .cell (.d (.sc (.bool ((seq (intStr 1) (⟨#[2, 128, 0, 0, 0, 0, 0, 0, 1]⟩ : ByteArray)) && (seq (frameOf (⟨#[97]⟩ : ByteArray)) (⟨#[0, 0, 0, 1, 232, 183, 190, 67, 97]⟩ : ByteArray)))))))], []⟩) (by kernel_rfl) ?_
  refine AOps.done ?_
  refine Then.go ?_
  refine AW.ret (by kernel_rfl) ?_
  refine RetF.of_ret [] (x := .cell (.d (.sc (.bool ((seq (intStr 1) (⟨#[2, 128, 0, 0, 0, 0, 0, 0, 1]⟩ : ByteArray)) && (seq (frameOf (⟨#[97]⟩ : ByteArray)) (⟨#[0, 0, 0, 1, 232, 183, 190, 67, 97]⟩ : ByteArray))))))) (by kernel_rfl) ?_
  exact ret_eq (by kernel_rfl)

noncomputable def C3 : Code := (Tryd.f3.body).getD .skip

theorem codeInts (a b : Int) (ha1 : -9223372036854775808 ≤ a) (ha2 : a ≤ 9223372036854775807) (hb1 : -9223372036854775808 ≤ b) (hb2 : b ≤ 9223372036854775807) : PCalls Tryd.prog 3 [.cell (.d (.sc (.int .i64 a))), .cell (.d (.sc (.int .i64 b)))] (.cell (.d (.sc (.bool true)))) := by
  refine ACalls.of_AWF (fn := Tryd.f3) (c := C3) (N := 48) (rs := [.tmp 4]) Tryd.func3 (by kernel_rfl) (by kernel_rfl) (by kernel_rfl) (by kernel_rfl) (by kernel_rfl) ?_
  show AW Tryd.prog 48 C3 ⟨[(0, .cell (.d (.sc (.int .i64 a)))), (1, .cell (.d (.sc (.int .i64 b))))], []⟩ _
  refine AW.seq (by kernel_rfl) ?_
  refine AW.region (n := 1) (by kernel_rfl) (by kernel_rfl) ?_
  refine AOps.steps (i := 0) (m := 1) (r := 0) (i' := 1) (st' := ⟨[(4, .cell (.d (.sc (.bool false)))), (0, .cell (.d (.sc (.int .i64 a)))), (1, .cell (.d (.sc (.int .i64 b))))], []⟩) (by kernel_rfl) rfl rfl ?_
  refine AOps.keep [0, 1] [] (st' := ⟨[(0, .cell (.d (.sc (.int .i64 a)))), (1, .cell (.d (.sc (.int .i64 b))))], []⟩) (by kernel_rfl) ?_
  refine AOps.done ?_
  refine Then.go ?_
  refine AW.seq (by kernel_rfl) ?_
  refine AW.region (n := 8) (by kernel_rfl) (by kernel_rfl) ?_
  refine AOps.steps (i := 0) (m := 1) (r := 7) (i' := 1) (st' := ⟨[(10, .cell (.d (.sc (.int .i64 a)))), (0, .cell (.d (.sc (.int .i64 a)))), (1, .cell (.d (.sc (.int .i64 b))))], []⟩) (by kernel_rfl) rfl rfl ?_
  refine AOps.one (i := 1) (r := 6) (i' := 2) (e := .put 11 (.aggD [.sc (.int .i64 2), .sc (.int .i64 a), .sc (.string (⟨#[]⟩ : ByteArray)), .sc (.slice none 0 0)])) (st' := ⟨[(11, .aggD [.sc (.int .i64 2), .sc (.int .i64 a), .sc (.string (⟨#[]⟩ : ByteArray)), .sc (.slice none 0 0)]), (10, .cell (.d (.sc (.int .i64 a)))), (0, .cell (.d (.sc (.int .i64 a)))), (1, .cell (.d (.sc (.int .i64 b))))], []⟩) (IEff.qpcall (f := 11) (args := [.cell (.d (.sc (.int .i64 a)))]) (by kernel_rfl) (by kernel_rfl) (num_c a) (by kernel_rfl)) rfl rfl (by kernel_rfl) ?_
  refine AOps.one (i := 2) (r := 5) (i' := 3) (e := .put 12 (.tup [.cell (.d (.sc (.string (intStr a)))), .cell (.d (.sc (.int .i64 0)))])) (st' := ⟨[(12, .tup [.cell (.d (.sc (.string (intStr a)))), .cell (.d (.sc (.int .i64 0)))]), (11, .aggD [.sc (.int .i64 2), .sc (.int .i64 a), .sc (.string (⟨#[]⟩ : ByteArray)), .sc (.slice none 0 0)]), (10, .cell (.d (.sc (.int .i64 a)))), (0, .cell (.d (.sc (.int .i64 a)))), (1, .cell (.d (.sc (.int .i64 b))))], []⟩) (IEff.qpcall (f := 10) (args := [.aggD [.sc (.int .i64 2), .sc (.int .i64 a), .sc (.string (⟨#[]⟩ : ByteArray)), .sc (.slice none 0 0)]]) (by kernel_rfl) (by kernel_rfl) (Bytes_int a) (by kernel_rfl)) rfl rfl (by kernel_rfl) ?_
  refine AOps.steps (i := 3) (m := 5) (r := 0) (i' := 8) (st' := ⟨[(6, .cell (.d (.sc (.int .i64 0)))), (5, .cell (.d (.sc (.string (intStr a))))), (14, .cell (.d (.sc (.int .i64 0)))), (13, .cell (.d (.sc (.string (intStr a))))), (9, .tup [.cell (.d (.sc (.string (intStr a)))), .cell (.d (.sc (.int .i64 0)))]), (12, .tup [.cell (.d (.sc (.string (intStr a)))), .cell (.d (.sc (.int .i64 0)))]), (11, .aggD [.sc (.int .i64 2), .sc (.int .i64 a), .sc (.string (⟨#[]⟩ : ByteArray)), .sc (.slice none 0 0)]), (10, .cell (.d (.sc (.int .i64 a)))), (0, .cell (.d (.sc (.int .i64 a)))), (1, .cell (.d (.sc (.int .i64 b))))], []⟩) (by kernel_rfl) rfl rfl ?_
  refine AOps.keep [0, 1, 5, 6] [] (st' := ⟨[(0, .cell (.d (.sc (.int .i64 a)))), (1, .cell (.d (.sc (.int .i64 b)))), (5, .cell (.d (.sc (.string (intStr a))))), (6, .cell (.d (.sc (.int .i64 0))))], []⟩) (by kernel_rfl) ?_
  refine AOps.done ?_
  refine Then.go ?_
  refine AW.seq (by kernel_rfl) ?_
  refine AW.region (n := 8) (by kernel_rfl) (by kernel_rfl) ?_
  refine AOps.steps (i := 0) (m := 1) (r := 7) (i' := 1) (st' := ⟨[(16, .cell (.d (.sc (.int .i64 b)))), (0, .cell (.d (.sc (.int .i64 a)))), (1, .cell (.d (.sc (.int .i64 b)))), (5, .cell (.d (.sc (.string (intStr a))))), (6, .cell (.d (.sc (.int .i64 0))))], []⟩) (by kernel_rfl) rfl rfl ?_
  refine AOps.one (i := 1) (r := 6) (i' := 2) (e := .put 17 (.aggD [.sc (.int .i64 2), .sc (.int .i64 b), .sc (.string (⟨#[]⟩ : ByteArray)), .sc (.slice none 0 0)])) (st' := ⟨[(17, .aggD [.sc (.int .i64 2), .sc (.int .i64 b), .sc (.string (⟨#[]⟩ : ByteArray)), .sc (.slice none 0 0)]), (16, .cell (.d (.sc (.int .i64 b)))), (0, .cell (.d (.sc (.int .i64 a)))), (1, .cell (.d (.sc (.int .i64 b)))), (5, .cell (.d (.sc (.string (intStr a))))), (6, .cell (.d (.sc (.int .i64 0))))], []⟩) (IEff.qpcall (f := 11) (args := [.cell (.d (.sc (.int .i64 b)))]) (by kernel_rfl) (by kernel_rfl) (num_c b) (by kernel_rfl)) rfl rfl (by kernel_rfl) ?_
  refine AOps.one (i := 2) (r := 5) (i' := 3) (e := .put 18 (.tup [.cell (.d (.sc (.string (intStr b)))), .cell (.d (.sc (.int .i64 0)))])) (st' := ⟨[(18, .tup [.cell (.d (.sc (.string (intStr b)))), .cell (.d (.sc (.int .i64 0)))]), (17, .aggD [.sc (.int .i64 2), .sc (.int .i64 b), .sc (.string (⟨#[]⟩ : ByteArray)), .sc (.slice none 0 0)]), (16, .cell (.d (.sc (.int .i64 b)))), (0, .cell (.d (.sc (.int .i64 a)))), (1, .cell (.d (.sc (.int .i64 b)))), (5, .cell (.d (.sc (.string (intStr a))))), (6, .cell (.d (.sc (.int .i64 0))))], []⟩) (IEff.qpcall (f := 10) (args := [.aggD [.sc (.int .i64 2), .sc (.int .i64 b), .sc (.string (⟨#[]⟩ : ByteArray)), .sc (.slice none 0 0)]]) (by kernel_rfl) (by kernel_rfl) (Bytes_int b) (by kernel_rfl)) rfl rfl (by kernel_rfl) ?_
  refine AOps.steps (i := 3) (m := 5) (r := 0) (i' := 8) (st' := ⟨[(8, .cell (.d (.sc (.int .i64 0)))), (7, .cell (.d (.sc (.string (intStr b))))), (20, .cell (.d (.sc (.int .i64 0)))), (19, .cell (.d (.sc (.string (intStr b))))), (15, .tup [.cell (.d (.sc (.string (intStr b)))), .cell (.d (.sc (.int .i64 0)))]), (18, .tup [.cell (.d (.sc (.string (intStr b)))), .cell (.d (.sc (.int .i64 0)))]), (17, .aggD [.sc (.int .i64 2), .sc (.int .i64 b), .sc (.string (⟨#[]⟩ : ByteArray)), .sc (.slice none 0 0)]), (16, .cell (.d (.sc (.int .i64 b)))), (0, .cell (.d (.sc (.int .i64 a)))), (1, .cell (.d (.sc (.int .i64 b)))), (5, .cell (.d (.sc (.string (intStr a))))), (6, .cell (.d (.sc (.int .i64 0))))], []⟩) (by kernel_rfl) rfl rfl ?_
  refine AOps.keep [0, 1, 5, 6, 7, 8] [] (st' := ⟨[(0, .cell (.d (.sc (.int .i64 a)))), (1, .cell (.d (.sc (.int .i64 b)))), (5, .cell (.d (.sc (.string (intStr a))))), (6, .cell (.d (.sc (.int .i64 0)))), (7, .cell (.d (.sc (.string (intStr b))))), (8, .cell (.d (.sc (.int .i64 0))))], []⟩) (by kernel_rfl) ?_
  refine AOps.done ?_
  refine Then.go ?_
  refine AW.seq (by kernel_rfl) ?_
  refine AW.region (n := 28) (by kernel_rfl) (by kernel_rfl) ?_
  refine AOps.one (i := 0) (r := 27) (i' := 1) (e := .put 21 (.cell (.d (.sc (.bool true))))) (st' := ⟨[(21, .cell (.d (.sc (.bool true)))), (0, .cell (.d (.sc (.int .i64 a)))), (1, .cell (.d (.sc (.int .i64 b)))), (5, .cell (.d (.sc (.string (intStr a))))), (6, .cell (.d (.sc (.int .i64 0)))), (7, .cell (.d (.sc (.string (intStr b))))), (8, .cell (.d (.sc (.int .i64 0))))], []⟩) (IEff.qpcall (f := 12) (args := []) (by kernel_rfl) (by kernel_rfl) coded_c (by kernel_rfl)) rfl rfl (by kernel_rfl) ?_
  refine AOps.stepsK (i := 1) (m := 18) (r := 9) (i' := 19) (st' := ⟨[(39, .cell (.d (.sc (.bool ((decide ((a : Int) < b)) == (sless (intStr a) (intStr b))))))), (38, .cell (.d (.sc (.bool ((decide ((a : Int) < b)) == (sless (intStr a) (intStr b))))))), (37, .cell (.d (.sc (.bool ((decide ((a : Int) < b)) == (sless (intStr a) (intStr b))))))), (36, .cell (.d (.sc (.bool (sless (intStr a) (intStr b)))))), (35, .cell (.d (.sc (.string (intStr b))))), (34, .cell (.d (.sc (.string (intStr a))))), (33, .cell (.d (.sc (.bool (decide ((a : Int) < b)))))), (32, .cell (.d (.sc (.int .i64 b)))), (31, .cell (.d (.sc (.int .i64 a)))), (30, .cell (.d (.sc (.bool true)))), (29, .cell (.d (.sc (.bool true)))), (28, .cell (.d (.sc (.bool true)))), (27, .cell (.d (.sc (.int .i64 0)))), (26, .cell (.d (.sc (.bool true)))), (25, .cell (.d (.sc (.bool true)))), (24, .cell (.d (.sc (.bool true)))), (23, .cell (.d (.sc (.int .i64 0)))), (22, .cell (.d (.sc (.bool true)))), (21, .cell (.d (.sc (.bool true)))), (0, .cell (.d (.sc (.int .i64 a)))), (1, .cell (.d (.sc (.int .i64 b)))), (5, .cell (.d (.sc (.string (intStr a))))), (6, .cell (.d (.sc (.int .i64 0)))), (7, .cell (.d (.sc (.string (intStr b))))), (8, .cell (.d (.sc (.int .i64 0))))], []⟩) (by kernel_rfl) rfl rfl ?_
  refine AOps.steps (i := 19) (m := 9) (r := 0) (i' := 28) (st' := ⟨[(4, .cell (.d (.sc (.bool (((decide ((a : Int) < b)) == (sless (intStr a) (intStr b))) && (((a : Int) == b) == (seq (intStr a) (intStr b)))))))), (47, .cell (.d (.sc (.bool (((decide ((a : Int) < b)) == (sless (intStr a) (intStr b))) && (((a : Int) == b) == (seq (intStr a) (intStr b)))))))), (46, .whn 39 true (.cell (.d (.sc (.bool (((a : Int) == b) == (seq (intStr a) (intStr b)))))))), (45, .whn 39 true (.cell (.d (.sc (.bool (seq (intStr a) (intStr b))))))), (44, .whn 39 true (.cell (.d (.sc (.string (intStr b)))))), (43, .whn 39 true (.cell (.d (.sc (.string (intStr a)))))), (42, .whn 39 true (.cell (.d (.sc (.bool ((a : Int) == b)))))), (41, .whn 39 true (.cell (.d (.sc (.int .i64 b))))), (40, .whn 39 true (.cell (.d (.sc (.int .i64 a))))), (39, .cell (.d (.sc (.bool ((decide ((a : Int) < b)) == (sless (intStr a) (intStr b))))))), (38, .cell (.d (.sc (.bool ((decide ((a : Int) < b)) == (sless (intStr a) (intStr b))))))), (37, .cell (.d (.sc (.bool ((decide ((a : Int) < b)) == (sless (intStr a) (intStr b))))))), (36, .cell (.d (.sc (.bool (sless (intStr a) (intStr b)))))), (35, .cell (.d (.sc (.string (intStr b))))), (34, .cell (.d (.sc (.string (intStr a))))), (33, .cell (.d (.sc (.bool (decide ((a : Int) < b)))))), (32, .cell (.d (.sc (.int .i64 b)))), (31, .cell (.d (.sc (.int .i64 a)))), (30, .cell (.d (.sc (.bool true)))), (29, .cell (.d (.sc (.bool true)))), (28, .cell (.d (.sc (.bool true)))), (27, .cell (.d (.sc (.int .i64 0)))), (26, .cell (.d (.sc (.bool true)))), (25, .cell (.d (.sc (.bool true)))), (24, .cell (.d (.sc (.bool true)))), (23, .cell (.d (.sc (.int .i64 0)))), (22, .cell (.d (.sc (.bool true)))), (21, .cell (.d (.sc (.bool true)))), (0, .cell (.d (.sc (.int .i64 a)))), (1, .cell (.d (.sc (.int .i64 b)))), (5, .cell (.d (.sc (.string (intStr a))))), (6, .cell (.d (.sc (.int .i64 0)))), (7, .cell (.d (.sc (.string (intStr b))))), (8, .cell (.d (.sc (.int .i64 0))))], []⟩) (by kernel_rfl) rfl rfl ?_
  refine AOps.keep [4] [] (st' := ⟨[(4, .cell (.d (.sc (.bool (((decide ((a : Int) < b)) == (sless (intStr a) (intStr b))) && (((a : Int) == b) == (seq (intStr a) (intStr b))))))))], []⟩) (by kernel_rfl) ?_
  refine AOps.done ?_
  refine Then.go ?_
  refine AW.ret (by kernel_rfl) ?_
  refine RetF.of_ret [] (x := .cell (.d (.sc (.bool (((decide ((a : Int) < b)) == (sless (intStr a) (intStr b))) && (((a : Int) == b) == (seq (intStr a) (intStr b)))))))) (by kernel_rfl) ?_
  exact ret_eq (by rw [ints_law a b ha1 ha2 hb1 hb2])

end Go.Proofs.YtdngaeekecbgpaaDoor
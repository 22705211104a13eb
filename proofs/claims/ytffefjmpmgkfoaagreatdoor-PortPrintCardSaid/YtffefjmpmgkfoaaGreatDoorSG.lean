/- Several texts in one (merge.py). -/
import Derived.Test.YtffefjmpmgkfoaaGreatDoorProg
import Derived.WalkKit
import Derived.Lib.Builder
import Derived.Lib.MakeNoZero
import Derived.RegionTactic
import Derived.RegionCalls
import Derived.Deep.RegionWith
import Derived.KernelRfl
import Derived.Test.YtffefjmpmgkfoaaGreatDoorCC
import Derived.Test.YtffefjmpmgkfoaaGreatDoorEvGrow
/- (*strings.Builder).grow and Grow, walked at the seat, at a builder that holds no bytes; its contract. -/
namespace Go.Proofs.YtffefjmpmgkfoaaGreatDoor
open Go Esp Ev
set_option linter.unusedSimpArgs false
set_option linter.unusedVariables false
set_option maxHeartbeats 2000000
set_option maxRecDepth 100000
theorem sizeByte5 : (Tryz.prog.info? 5).map (·.size) = some 1 := by kernel_rfl
theorem gr_inner (b n cp : Nat) (a : Option Addr) (w : World) (hbk : w.heap[b]? = some (.cells #[.pointer (some ⟨b, 0, none⟩), .slice a 0 cp] 45 (0, 0))) (hn : n ≤ 70000000000000) (hc : cp ≤ n) :
    Calls Tryz.prog 82 #[.pointer (some ⟨b, 0, none⟩), .int .i64 n] w fun e w' => e = .returned (.tuple #[]) ∧ GrownW 45 5 b a cp w w' := by
  obtain ⟨N, hN⟩ : ∃ N : Nat, N = 2 * cp + n := ⟨_, rfl⟩
  obtain ⟨cs, hrun, hle, hmax⟩ := Lib.run_makeNoZero (P := Tryz.prog) w.drew #[3] 43 5 Tryz.underlying43 N (by omega)
  have hw : IntKind.i64.wrap (IntKind.i64.wrap (2 * (cp : Int)) + (n : Int)) = (N : Int) := by
    rw [IntKind.wrap_i64, IntKind.wrap_i64]
    omega
  have hcall : (callFunc 115 #[.int .i64 (IntKind.i64.wrap (IntKind.i64.wrap (2 * (cp : Int)) + (n : Int)))]).run Tryz.prog w.drew = .ok (.value (.slice (some ⟨w.drew.heap.size, 0, none⟩) N cs.size)) (w.drew.drew.drew.alloc (.cells cs 5)) := by
    rw [hw, run_callFunc_extern Tryz.func115 (by kernel_rfl) (by kernel_rfl) (by kernel_rfl) (e := Extern.BytealgMakeNoZero.makeNoZero #[3] #[43]) (by kernel_rfl), hrun]
    rfl
  have hlt : b < w.heap.size := (Array.getElem?_eq_some_iff.1 hbk).1
  have c1 : w.drew.cell? ⟨b, 1, none⟩ = some (.slice a 0 cp) := by
    have : w.drew.heap[b]? = _ := hbk
    rw [Lib.cell_of_heap this]; rfl
  have c2 : (w.alloc (.cells cs 5)).cell? ⟨b, 1, none⟩ = some (.slice a 0 cp) := by
    have : (w.alloc (.cells cs 5)).heap[b]? = _ := (Lib.alloc_old w _ b hlt).trans hbk
    rw [Lib.cell_of_heap this]; rfl
  have f2 : (w.alloc (.cells cs 5)).frozen? ⟨b, 1, none⟩ = false := Lib.frozen_of_heap ((Lib.alloc_old w _ b hlt).trans hbk) 1
  have hcopy : ∀ W : World, (Builtin.copy_ #[43, 43] 3 #[.slice (some ⟨w.heap.size, 0, none⟩) 0 cs.size, .slice a 0 cp]).run Tryz.prog W = .ok (goInt 0) W :=
    fun W => run_copy_none W 43 43 3 5 _ _ 0 cs.size 0 cp Tryz.underlying43 sizeByte5 rfl
  clear hw
  have hfin : GrownW 45 5 b a cp w ((w.setCell ⟨b, 1, none⟩ (.slice (some ⟨w.heap.size, 0, none⟩) 0 cs.size)).alloc (.cells cs 5)).drew.drew.drew := by
    have s1 := heap_setCell_same w b 1 _ 45 (.slice (some ⟨w.heap.size, 0, none⟩) 0 cs.size) hbk
    generalize hW : w.setCell ⟨b, 1, none⟩ (.slice (some ⟨w.heap.size, 0, none⟩) 0 cs.size) = W at s1
    have hz : W.heap.size = w.heap.size := by rw [← hW]; exact setCell_size
    have ho : W.os = w.os ∧ W.tape = w.tape ∧ W.output = w.output := by rw [← hW]; exact ⟨rfl, rfl, rfl⟩
    have al : (W.alloc (.cells cs 5)).heap.size = w.heap.size + 1 := (Array.size_push ..).trans (by rw [hz])
    have oth : ∀ k, k < w.heap.size → (W.alloc (.cells cs 5)).heap[k]? = W.heap[k]? := fun k hk => Lib.alloc_old W _ k (by rw [hz]; exact hk)
    refine ⟨ho.1, ho.2.1, ho.2.2, ?_, fun k hk hne => ?_, .inr ⟨w.heap.size, cs, (oth b hlt).trans s1, Nat.le_refl _, ?_, hmax (by unfold maxLen; omega)⟩⟩
    · show w.heap.size ≤ (W.alloc (.cells cs 5)).heap.size
      rw [al]; omega
    · refine (oth k hk).trans ?_
      rw [← hW]
      exact heap_setCell_other _ ⟨b, 1, none⟩ k _ hne
    · have := heap_alloc_new W (.cells cs 5)
      rw [hz] at this
      exact this
  go_enter Tryz.func82, Tryz.ntmps82
  go_wp2
  go_region
  all_goals (go_wp2; go_end0; exact ⟨rfl, hfin⟩)
end Go.Proofs.YtffefjmpmgkfoaaGreatDoor

/- (*strings.Builder).Grow at a builder that holds no bytes; its contract. -/
namespace Go.Proofs.YtffefjmpmgkfoaaGreatDoor
open Go Esp Ev
set_option linter.unusedSimpArgs false
set_option linter.unusedVariables false
set_option maxHeartbeats 2000000
set_option maxRecDepth 100000
theorem gr_outer (b n cp : Nat) (p : Option Addr) (a : Option Addr) (w : World) (hp : p = none ∨ p = some ⟨b, 0, none⟩) (hbk : w.heap[b]? = some (.cells #[.pointer p, .slice a 0 cp] 45 (0, 0))) (hn : n ≤ 70000000000000) (hcp : cp ≤ 9223372036854775807) :
    Calls Tryz.prog 51 #[.pointer (some ⟨b, 0, none⟩), .int .i64 n] w fun e w' => e = .returned (.tuple #[]) ∧ GrownW 45 5 b a cp w w' := by
  have hlt : b < w.heap.size := (Array.getElem?_eq_some_iff.1 hbk).1
  have hcc : Calls Tryz.prog 57 #[.pointer (some ⟨b, 0, none⟩)] w fun e w' => e = .returned (.tuple #[]) ∧ w'.os = w.os ∧ w'.tape = w.tape ∧ w'.output = w.output ∧ w'.heap.size = w.heap.size ∧ (∀ k, k ≠ b → w'.heap[k]? = w.heap[k]?) ∧ w'.heap[b]? = some (.cells #[.pointer (some ⟨b, 0, none⟩), .slice a 0 cp] 45 (0, 0)) := by
    rcases hp with rfl | rfl
    · refine (cc_fresh b w ((Lib.cell_of_heap hbk 0).trans rfl) (by simp [World.shape?, hbk]) (Lib.frozen_of_heap hbk 0)).mono ?_
      rintro e w' ⟨rfl, rfl⟩
      exact ⟨rfl, rfl, rfl, rfl, setCell_size, fun k hk => heap_setCell_other _ ⟨b, 0, none⟩ k _ hk, heap_setCell_same w b 0 _ 45 _ hbk⟩
    · refine (cc_used b w ((Lib.cell_of_heap hbk 0).trans rfl)).mono ?_
      rintro e w' ⟨rfl, rfl⟩
      exact ⟨rfl, rfl, rfl, rfl, rfl, fun _ _ => rfl, hbk⟩
  clear hp hbk
  have hcond : ∀ W : World, W.cell? ⟨b, 1, none⟩ = W.cell? ⟨b, 1, none⟩ := fun _ => rfl
  have hwr : IntKind.i64.wrap ((cp : Int) - ((0 : Nat) : Int)) = (cp : Int) := by
    rw [IntKind.wrap_i64]
    omega
  go_enter Tryz.func51, Tryz.ntmps51
  go_wp2_with (go_at_call 57; refine hcc.mono ?_; rintro e w2 ⟨rfl, ho1, ho2, ho3, hz, hoth, hb2⟩; have c1 : w2.cell? ⟨b, 1, none⟩ = some (.slice a 0 cp) := (Lib.cell_of_heap hb2 1).trans rfl)
  have hfr : ∀ W, GrownW 45 5 b a cp w2.drew W → GrownW 45 5 b a cp w W := by
    rintro W ⟨g1, g2, g3, g4, g5, g6⟩
    refine ⟨g1.trans ho1, g2.trans ho2, g3.trans ho3, by rw [← hz]; exact g4, fun k hk hne => (g5 k (by rw [show w2.drew.heap.size = w2.heap.size from rfl, hz]; exact hk) hne).trans (hoth k hne), ?_⟩
    rcases g6 with g6 | ⟨g, cs, q1, q2, q3, q4⟩
    · exact .inl g6
    · exact .inr ⟨g, cs, q1, by rw [← hz]; exact q2, q3, q4⟩
  by_cases hlt2 : cp < n
  · have hin := gr_inner b n cp a w2.drew hb2 hn (by omega)
    have hcnd : decide ((cp : Int) < (n : Int)) = true := by rw [decide_eq_true_iff]; omega
    go_region
    all_goals (go_wp2_with (go_at_call 82; refine hin.mono ?_; rintro e w3 ⟨rfl, hW⟩))
    all_goals (go_end0; exact ⟨rfl, hfr _ hW⟩)
  · have hcnd : decide ((cp : Int) < (n : Int)) = false := by rw [decide_eq_false_iff_not]; omega
    go_region
    all_goals go_wp2
    all_goals (go_end0; exact ⟨rfl, hfr _ ⟨rfl, rfl, rfl, Nat.le_refl _, fun _ _ _ => rfl, .inl hb2⟩⟩)
theorem growN_ok [Tabs] : Contract Tryz.prog 51 (F_grow 45 5) growN := grow_of fun b n cp p a w h1 h2 h3 h4 => gr_outer b n cp p a w h1 h2 h3 h4
end Go.Proofs.YtffefjmpmgkfoaaGreatDoor

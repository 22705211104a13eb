/- Several texts in one (merge.py). -/
import Derived.Test.YtffefjmpmgkfoaaGreatDoorProg
import Derived.WalkKit
import Derived.KernelRfl
import Derived.Tactics
import Derived.Tactics2
import Derived.Defers
import Derived.Laws.Pointers
import Derived.Laws.LoneSync
import Derived.Laws.NewBlocks
import Derived.RegionTactic
import Derived.RegionCalls
import Derived.ChangeAlike
import Derived.LoopN
import Derived.Deep.WholeRow
import Derived.Lib.Builder
import Derived.Lib.LaidTab
import Derived.Deep.RegionWith
/- sync.Once, one goroutine, walked at the seat (after the kit's worked proof of it). -/
namespace Go.Proofs.YtffefjmpmgkfoaaGreatDoor
open Go
set_option linter.unusedSimpArgs false
set_option linter.unusedVariables false
set_option maxRecDepth 100000
set_option maxHeartbeats 1600000
theorem disable (w : World) : (callFunc 150 #[]).run Tryz.prog w = .ok (.value (.tuple #[])) w := run_call_mark0 Tryz.func150 (by kernel_rfl) (by kernel_rfl) (by kernel_rfl) .disable (by kernel_rfl) w
theorem enable (w : World) : (callFunc 152 #[]).run Tryz.prog w = .ok (.value (.tuple #[])) w := run_call_mark0 Tryz.func152 (by kernel_rfl) (by kernel_rfl) (by kernel_rfl) .enable (by kernel_rfl) w
theorem acquire (a : Addr) (w : World) : (callFunc 153 #[.pointer (some a)]).run Tryz.prog w = .ok (.value (.tuple #[])) w := run_call_marked Tryz.func153 (by kernel_rfl) (by kernel_rfl) (by kernel_rfl) .acquire (by kernel_rfl) a w
theorem releaseMerge (a : Addr) (w : World) : (callFunc 155 #[.pointer (some a)]).run Tryz.prog w = .ok (.value (.tuple #[])) w := run_call_marked Tryz.func155 (by kernel_rfl) (by kernel_rfl) (by kernel_rfl) .releaseMerge (by kernel_rfl) a w
theorem store_deferred (a : Addr) (x : Value) (u : FrameMode) (w : World) (hc : w.cell? a = some x) (hz : w.frozen? a = false) :
    CallsD Tryz.prog 112 #[.pointer (some a), .bool true] u w fun e u' w' => u' = u ∧ (e = .returned (.tuple #[]) ∧ w' = w.drew.setCell a (.int .u32 1)) := by
  have hc' : w.drew.cell? a = some x := by go_simp
  have hz' : w.drew.frozen? a = false := by go_simp
  have hst := run_call_store (P := Tryz.prog) Tryz.func137 (by kernel_rfl) (by kernel_rfl) (by kernel_rfl) (by kernel_rfl) (k := .u32) (y := 1) hc' hz'
  go_enter_d Tryz.func112, Tryz.ntmps112
  go_wp2
  go_region_calls
  all_goals (go_end0; exact ⟨rfl, rfl⟩)
theorem unlock_deferred (a : Addr) (u : FrameMode) (w : World) (hc : w.cell? a = some (.int .i32 1)) (hz : w.frozen? a = false) :
    CallsD Tryz.prog 111 #[.pointer (some a)] u w fun e u' w' => u' = u ∧ (e = .returned (.tuple #[]) ∧ w' = w.setCell a (.int .i32 0)) := by
  have hd := disable
  have he := enable
  have hr := releaseMerge
  have hadd := run_call_add (P := Tryz.prog) Tryz.func156 (by kernel_rfl) (by kernel_rfl) (by kernel_rfl) .i32 (by kernel_rfl) (y := -1) (s := 0) hc hz (by simp [go_sem]; rfl)
  have hcv := run_convert_to_unsafe (P := Tryz.prog) (src := 226) (dst := 148) Tryz.underlying226 Tryz.underlying148 (by kernel_rfl) hc
  go_enter_d Tryz.func111, Tryz.ntmps111
  go_wp2
  go_end0
  go_wp2
  go_end0
  exact ⟨rfl, rfl⟩
theorem lock_free (a : Addr) (w : World) (hc : w.cell? a = some (.int .i32 0)) (hz : w.frozen? a = false) :
    Calls Tryz.prog 110 #[.pointer (some a)] w fun e w' => e = .returned (.tuple #[]) ∧ w' = w.setCell a (.int .i32 1) := by
  have hd := disable
  have he := enable
  have ha := acquire
  have hcas := run_call_cas_hit (P := Tryz.prog) Tryz.func151 (by kernel_rfl) (by kernel_rfl) (by kernel_rfl) .i32 (by kernel_rfl) (y := 1) hc hz
  have hc' : (w.setCell a (.int .i32 1)).cell? a = some (.int .i32 1) := World.cell?_setCell_same w a _ hc
  have hcv := run_convert_to_unsafe (P := Tryz.prog) (src := 226) (dst := 148) Tryz.underlying226 Tryz.underlying148 (by kernel_rfl) hc'
  go_enter Tryz.func110, Tryz.ntmps110
  go_wp2
  first | go_end0 | (simp only [Exit.inBlock, Exit.then]; refine bodyPost_ret (results_none rfl _ _ _) rfl ?_) | refine bodyPost_ret (results_none rfl _ _ _) rfl ?_
  go_wp2
  go_end0
  exact ⟨rfl, rfl⟩
end Go.Proofs.YtffefjmpmgkfoaaGreatDoor

/- sync.Once, one goroutine, walked at the seat (after the kit's worked proof of it). -/
namespace Go.Proofs.YtffefjmpmgkfoaaGreatDoor
open Go
set_option linter.unusedSimpArgs false
set_option linter.unusedVariables false
set_option maxRecDepth 100000
set_option maxHeartbeats 400000
theorem slow_once (b : Nat) (w : World) (Q : World → Prop) (fv : Value) (g : FuncId) (args cb : Array Value) (hfv : fv = .func (.func g) args cb)
    (h0 : w.cell? ⟨b, 0, none⟩ = some (.int .u32 0)) (h1 : w.cell? ⟨b, 1, none⟩ = some (.int .i32 0)) (f0 : w.frozen? ⟨b, 0, none⟩ = false) (f1 : w.frozen? ⟨b, 1, none⟩ = false)
    (eg : ∀ xs W, (callFunc g xs).run Tryz.prog W = .ok (.enter g xs) W)
    (hf : Calls Tryz.prog g (args ++ cb) (w.setCell ⟨b, 1, none⟩ (.int .i32 1)) fun e w' => e = .returned (.tuple #[]) ∧ Q w')
    (hk : ∀ W2, Q W2 → W2.cell? ⟨b, 0, none⟩ = some (.int .u32 0) ∧ W2.cell? ⟨b, 1, none⟩ = some (.int .i32 1) ∧ W2.frozen? ⟨b, 0, none⟩ = false ∧ W2.frozen? ⟨b, 1, none⟩ = false) :
    Calls Tryz.prog 80 #[.pointer (some ⟨b, 0, none⟩), fv] w fun e w' => e = .returned (.tuple #[]) ∧ ∃ W2, Q W2 ∧ w' = (W2.drew.setCell ⟨b, 0, none⟩ (.int .u32 1)).setCell ⟨b, 1, none⟩ (.int .i32 0) := by
  subst hfv
  have hl := run_call_load (P := Tryz.prog) Tryz.func109 (by kernel_rfl) (by kernel_rfl) (by kernel_rfl) .u32 (by kernel_rfl) (w := w.setCell ⟨b, 1, none⟩ (.int .i32 1)) (a := ⟨b, 0, none⟩) (x := 0) ((World.cell?_setCell_other _ ⟨b, 1, none⟩ ⟨b, 0, none⟩ _ (by simp)).trans h0)
  have hnot : ∀ (x : Bool) (w : World), (Op.unary .not (.bool x)).run Tryz.prog w = .ok (.bool (!x)) w := fun _ _ => rfl
  have h1' : w.cell? ⟨b, 0 + 1, none⟩ = some (.int .i32 0) := h1
  go_enter_defers Tryz.func80, Tryz.ntmps80
  go_wp2_with (first | (go_at_call 110; refine (lock_free ⟨b, 1, none⟩ _ (by go_simp) (by go_simp)).mono ?_; rintro e w' ⟨rfl, rfl⟩))
  go_wp2
  refine hf.mono ?_
  rintro e w' ⟨rfl, hQw⟩
  obtain ⟨k0, k1, z0, z1⟩ := hk _ hQw
  go_wp2
  refine leaves_cons (f := 112) (args := #[.pointer (some ⟨b, 0, none⟩), .bool true]) (by simp) (by simp [go_sem]) ?_
  refine (store_deferred ⟨b, 0, none⟩ (.int .u32 0) .returning _ k0 z0).mono ?_
  rintro e u' w'' ⟨rfl, rfl, rfl⟩
  refine leaves_cons (f := 111) (args := #[.pointer (some ⟨b, 1, none⟩)]) (by simp [settle]) (by simp [go_sem]) ?_
  refine (unlock_deferred ⟨b, 1, none⟩ _ _ ?_ (by simp [z1])).mono ?_
  · refine (World.cell?_setCell_other _ ⟨b, 0, none⟩ ⟨b, 1, none⟩ _ (by simp)).trans ?_
    rw [World.cell?_drew]
    exact k1
  rintro e u' w'' ⟨rfl, rfl, rfl⟩
  simp [Leaves, settle, results, Tryz.results80]
  exact ⟨_, hQw, rfl⟩
theorem do_once (b : Nat) (w : World) (Q : World → Prop) (fv : Value) (g : FuncId) (args cb : Array Value) (hfv : fv = .func (.func g) args cb)
    (h0 : w.cell? ⟨b, 0, none⟩ = some (.int .u32 0)) (h1 : w.cell? ⟨b, 1, none⟩ = some (.int .i32 0)) (f0 : w.frozen? ⟨b, 0, none⟩ = false) (f1 : w.frozen? ⟨b, 1, none⟩ = false)
    (eg : ∀ xs W, (callFunc g xs).run Tryz.prog W = .ok (.enter g xs) W)
    (hf : Calls Tryz.prog g (args ++ cb) (w.setCell ⟨b, 1, none⟩ (.int .i32 1)) fun e w' => e = .returned (.tuple #[]) ∧ Q w')
    (hk : ∀ W2, Q W2 → W2.cell? ⟨b, 0, none⟩ = some (.int .u32 0) ∧ W2.cell? ⟨b, 1, none⟩ = some (.int .i32 1) ∧ W2.frozen? ⟨b, 0, none⟩ = false ∧ W2.frozen? ⟨b, 1, none⟩ = false) :
    Calls Tryz.prog 49 #[.pointer (some ⟨b, 0, none⟩), fv] w fun e w' => e = .returned (.tuple #[]) ∧ ∃ W2, Q W2 ∧ w' = (W2.drew.setCell ⟨b, 0, none⟩ (.int .u32 1)).setCell ⟨b, 1, none⟩ (.int .i32 0) := by
  have hs := slow_once b w Q fv g args cb hfv h0 h1 f0 f1 eg hf hk
  have hl := run_call_load (P := Tryz.prog) Tryz.func109 (by kernel_rfl) (by kernel_rfl) (by kernel_rfl) .u32 (by kernel_rfl) h0
  have hnot : ∀ (x : Bool) (w : World), (Op.unary .not (.bool x)).run Tryz.prog w = .ok (.bool (!x)) w := fun _ _ => rfl
  generalize (fun w' : World => ∃ W2, Q W2 ∧ w' = (W2.drew.setCell ⟨b, 0, none⟩ (.int .u32 1)).setCell ⟨b, 1, none⟩ (.int .i32 0)) = R at hs ⊢
  clear hf hk f0 f1 h1 eg hfv
  go_enter Tryz.func49, Tryz.ntmps49
  go_wp2_with (first | (go_at_call 80; refine hs.mono ?_; rintro e w' ⟨rfl, hR⟩) | (go_at_call 79; go_in))
  go_end0
  exact ⟨rfl, hR⟩
end Go.Proofs.YtffefjmpmgkfoaaGreatDoor

/- The world behind a round of the Replacer's building. -/
namespace Go
theorem next_world (X : World) (tb q : Nat) (S C : Array Value) (i o : Nat) (v1 v2 v3 : Value) (o1 o2 o3 : Obj) (hT : X.heap[tb]? = some (.cells S 9 (0, 0))) (hQ : X.heap[q]? = some (.cells C 184 (0, 0))) (hne : tb ≠ q) (hCs : C.size = 257) (ho : o < 256) (Y : World)
    (hW : ((((((X.setCell ⟨tb, i, none⟩ v1).setCell ⟨q, 256, none⟩ v2).setCell ⟨q, o, none⟩ v3).alloc o1).alloc o2).alloc o3).drew = Y) :
    Y.heap[tb]? = some (.cells (S.setIfInBounds i v1) 9 (0, 0)) ∧ (∃ D : Array Value, Y.heap[q]? = some (.cells D 184 (0, 0)) ∧ D.size = 257 ∧ D[o]? = some v3 ∧ D[256]? = some v2 ∧ ∀ j, j ≠ o → j ≠ 256 → D[j]? = C[j]?) ∧ Y.heap.size = X.heap.size + 3 ∧ Y.heap[X.heap.size + 2]? = some o3 ∧ (∀ k, k < X.heap.size → k ≠ tb → k ≠ q → Y.heap[k]? = X.heap[k]?) ∧ Y.os = X.os ∧ Y.tape = X.tape ∧ Y.output = X.output := by
  subst hW
  have htl : tb < X.heap.size := (Array.getElem?_eq_some_iff.1 hT).1
  have hql : q < X.heap.size := (Array.getElem?_eq_some_iff.1 hQ).1
  have hs : (((X.setCell ⟨tb, i, none⟩ v1).setCell ⟨q, 256, none⟩ v2).setCell ⟨q, o, none⟩ v3).heap.size = X.heap.size := by simp
  have al : ∀ (W : World) (ob : Obj), (W.alloc ob).heap.size = W.heap.size + 1 := fun W ob => Array.size_push ..
  have old : ∀ k, k < X.heap.size → ((((((X.setCell ⟨tb, i, none⟩ v1).setCell ⟨q, 256, none⟩ v2).setCell ⟨q, o, none⟩ v3).alloc o1).alloc o2).alloc o3).drew.heap[k]? = (((X.setCell ⟨tb, i, none⟩ v1).setCell ⟨q, 256, none⟩ v2).setCell ⟨q, o, none⟩ v3).heap[k]? := fun k hk => by
    show ((((((X.setCell ⟨tb, i, none⟩ v1).setCell ⟨q, 256, none⟩ v2).setCell ⟨q, o, none⟩ v3).alloc o1).alloc o2).alloc o3).heap[k]? = _
    rw [Go.RowKit.Below.heap_alloc _ _ k (by rw [al, al, hs]; omega), Go.RowKit.Below.heap_alloc _ _ k (by rw [al, hs]; omega), Go.RowKit.Below.heap_alloc _ _ k (by rw [hs]; omega)]
  have t1 := heap_setCell_same X tb i S 9 v1 hT
  have q1 : (X.setCell ⟨tb, i, none⟩ v1).heap[q]? = some (.cells C 184 (0, 0)) := (heap_setCell_other X ⟨tb, i, none⟩ q v1 (Ne.symm hne)).trans hQ
  have q2 := heap_setCell_same _ q 256 C 184 v2 q1
  have q3 := heap_setCell_same _ q o _ 184 v3 q2
  refine ⟨?_, ?_, ?_, ?_, fun k hk h1 h2 => ?_, rfl, rfl, rfl⟩
  · rw [old tb htl, heap_setCell_other _ _ tb _ hne, heap_setCell_other _ _ tb _ hne]
    exact t1
  · refine ⟨_, (old q hql).trans q3, by simp [hCs], ?_, ?_, fun j h1 h2 => ?_⟩
    · rw [Array.getElem?_setIfInBounds_self_of_lt (by simp [hCs]; omega)]
    · rw [Array.getElem?_setIfInBounds_ne (by omega), Array.getElem?_setIfInBounds_self_of_lt (by rw [hCs]; decide)]
    · rw [Array.getElem?_setIfInBounds_ne (Ne.symm h1), Array.getElem?_setIfInBounds_ne (Ne.symm h2)]
  · show ((((((X.setCell ⟨tb, i, none⟩ v1).setCell ⟨q, 256, none⟩ v2).setCell ⟨q, o, none⟩ v3).alloc o1).alloc o2).alloc o3).heap.size = _
    rw [al, al, al, hs]
  · have := heap_alloc_new (((((X.setCell ⟨tb, i, none⟩ v1).setCell ⟨q, 256, none⟩ v2).setCell ⟨q, o, none⟩ v3).alloc o1).alloc o2) o3
    rw [al, al, hs] at this
    exact this
  · rw [old k hk, heap_setCell_other _ _ k _ h2, heap_setCell_other _ _ k _ h2, heap_setCell_other _ _ k _ h1]
end Go

/- strings.Replacer at single bytes, walked at the seat. -/
namespace Go.Proofs.YtffefjmpmgkfoaaGreatDoor
open Go
set_option linter.unusedSimpArgs false
set_option linter.unusedVariables false
set_option maxRecDepth 100000
set_option maxHeartbeats 2000000
abbrev q92 : ByteArray := ⟨#[92]⟩
abbrev q9292 : ByteArray := ⟨#[92, 92]⟩
abbrev q39 : ByteArray := ⟨#[39]⟩
abbrev q9239 : ByteArray := ⟨#[92, 39]⟩
abbrev q10 : ByteArray := ⟨#[10]⟩
abbrev q92110 : ByteArray := ⟨#[92, 110]⟩
theorem mk3 (w : World) : (Instr.makeSlice 56 (.int .i64 0) (.int .i64 3)).run Tryz.prog w = .ok (.slice (some ⟨w.heap.size, 0, none⟩) 0 3) (w.alloc (.cells #[.string ⟨#[]⟩, .string ⟨#[]⟩, .string ⟨#[]⟩] 9)) := by
  have hi : (Tryz.prog.info? 9).map (fun i => (i.zero, i.size, i.bytes)) = some (some (.string ⟨#[]⟩), 1, 16) := by kernel_rfl
  obtain ⟨i, h1, h2⟩ := Option.map_eq_some_iff.1 hi
  simp only [Prod.mk.injEq] at h2
  obtain ⟨q1, q2, q3⟩ := h2
  have := run_makeSlice w 56 9 i _ Tryz.underlying56 h1 q1 .i64 .i64 0 3 (by omega) (by omega) (by rw [q2]; decide) (by rw [q3]; decide) (by omega)
  rw [q2] at this
  exact this.trans (by kernel_rfl)
abbrev strs0 : Obj := .cells #[.string ⟨#[]⟩, .string ⟨#[]⟩, .string ⟨#[]⟩] 9
theorem zsize : Tryz.zeroCells184.size = 257 := by kernel_rfl
theorem zone : Tryz.zeroCells184.all (·.oneCell') = true := by kernel_rfl
theorem store184 (w : World) (v : Value) (hv : v.oneCell' = true) : (storeCells ⟨w.heap.size, 0, none⟩ (Tryz.zeroCells184.toList.set 256 v) 0).run Tryz.prog (w.alloc (.cells Tryz.zeroCells184 184)) = .ok () (w.alloc (.cells (Tryz.zeroCells184.setIfInBounds 256 v) 184)) := by
  have := run_storeCells_new (P := Tryz.prog) w 184 Tryz.zeroCells184 (Tryz.zeroCells184.setIfInBounds 256 v) (by rw [Array.size_setIfInBounds, zsize]; kernel_rfl) (by simp) (by
    have h := zone
    rw [Array.all_eq_true] at h ⊢
    intro i hi
    rw [Array.getElem_setIfInBounds]
    split
    · exact hv
    · exact h i (by simpa using hi))
  rw [Array.toList_setIfInBounds] at this
  exact this
theorem nilEq (W : World) : (binOp .eql 43 (.slice none 0 0) (.slice none 0 0)).run Tryz.prog W = .ok (.bool true) W := by kernel_rfl
theorem gw {A : Sort _} {P : A → Prop} {x : A} (h : ∀ Y, x = Y → P Y) : P x := h x rfl
theorem conv1 (W : World) (c : UInt8) : (convert 43 9 (.slice (some ⟨W.heap.size, 0, none⟩) 1 1)).run Tryz.prog (W.alloc (.cells #[.int .u8 c.toNat] 5)) = .ok (.string ⟨#[c]⟩) (W.alloc (.cells #[.int .u8 c.toNat] 5)) := by
  have := run_convert_bytes_back (P := Tryz.prog) (W.alloc (.cells #[.int .u8 c.toNat] 5)) 43 9 5 ⟨W.heap.size, 0, none⟩ 1 [c] Tryz.underlying43 Tryz.underlying5 Tryz.underlying9 (fun j hj => by
    have hj0 : j = 0 := by simpa using hj
    subst hj0
    exact (Lib.cell_of_heap (heap_alloc_new W _) 0).trans rfl)
  exact this
theorem conv2 (W : World) (s : ByteArray) : (convert 9 43 (.string s)).run Tryz.prog W = .ok (.slice (some ⟨W.heap.size, 0, none⟩) s.size (grownCap W s.size 0 5))
      (W.drew.alloc (.cells (bytesRow s (grownCap W s.size 0 5)) 5 ((bytesRow s (grownCap W s.size 0 5)).size, (bytesRow s (grownCap W s.size 0 5)).size + 1))) :=
  run_bytes_of_string W 9 43 5 s Tryz.underlying9 Tryz.underlying43 Tryz.underlying5
theorem zrep : Tryz.zeroCells184 = Array.replicate 257 (.slice none 0 0) := by kernel_rfl
theorem cellB {W : World} {g cap : Nat} {s : ByteArray} {fz : Nat × Nat} (h : W.heap[g]? = some (.cells (bytesRow s cap) 5 fz)) (i : Nat) (hi : i < s.size) : W.cell? ⟨g, i, none⟩ = some (.int .u8 (s[i]'hi).toNat) := by
  rw [cell_of_row W g i _ 5 fz h]
  unfold bytesRow
  have h1 : i < (s.data.map (fun b => Value.int .u8 b.toNat)).size := by simpa using hi
  rw [Array.getElem?_append_left h1, Array.getElem?_eq_getElem h1, Array.getElem_map]
  rfl
def Built (W : World) (base q : Nat) : Prop := ∃ (tb : Nat) (D : Array Value) (g1 g2 g3 c1 c2 c3 : Nat), (base ≤ q ∧ base ≤ tb ∧ base ≤ g1 ∧ base ≤ g2 ∧ base ≤ g3) ∧
      W.heap[q]? = some (.cells D 184 (0, 0)) ∧ D.size = 257 ∧ D[256]? = some (.slice (some ⟨tb, 0, none⟩) 3 3) ∧ W.heap[tb]? = some (.cells #[.string ⟨#[10]⟩, .string ⟨#[39]⟩, .string ⟨#[92]⟩] 9 (0, 0)) ∧
      D[10]? = some (.slice (some ⟨g1, 0, none⟩) 2 c1) ∧ D[39]? = some (.slice (some ⟨g2, 0, none⟩) 2 c2) ∧ D[92]? = some (.slice (some ⟨g3, 0, none⟩) 2 c3) ∧
      (∀ j, j < 256 → j ≠ 10 → j ≠ 39 → j ≠ 92 → D[j]? = some (.slice none 0 0)) ∧
      (W.cell? ⟨g1, 0, none⟩ = some (.int .u8 92) ∧ W.cell? ⟨g1, 1, none⟩ = some (.int .u8 110)) ∧ (W.cell? ⟨g2, 0, none⟩ = some (.int .u8 92) ∧ W.cell? ⟨g2, 1, none⟩ = some (.int .u8 39)) ∧ (W.cell? ⟨g3, 0, none⟩ = some (.int .u8 92) ∧ W.cell? ⟨g3, 1, none⟩ = some (.int .u8 92))
theorem Built.through {W W' : World} {base q : Nat} (h : Built W base q) (hk : ∀ k, base ≤ k → W'.heap[k]? = W.heap[k]?) : Built W' base q := by
  obtain ⟨tb, D, g1, g2, g3, c1, c2, c3, ⟨b0, b1, b2, b3, b4⟩, h1, h2, h3, h4, h5, h6, h7, h8, ⟨h9, h10⟩, ⟨h11, h12⟩, h13, h14⟩ := h
  have cl : ∀ g i, base ≤ g → W'.cell? ⟨g, i, none⟩ = W.cell? ⟨g, i, none⟩ := fun g i hg => World.cell?_of_block (hk g hg)
  exact ⟨tb, D, g1, g2, g3, c1, c2, c3, ⟨b0, b1, b2, b3, b4⟩, (hk q b0).trans h1, h2, h3, (hk tb b1).trans h4, h5, h6, h7, h8, ⟨(cl _ _ b2).trans h9, (cl _ _ b2).trans h10⟩, ⟨(cl _ _ b3).trans h11, (cl _ _ b3).trans h12⟩, (cl _ _ b4).trans h13, (cl _ _ b4).trans h14⟩
theorem build_ok (rb ob oc : Nat) (w : World) (hr : w.cell? ⟨rb, 4, none⟩ = some (.slice (some ⟨ob, 0, none⟩) 6 oc))
    (h0 : w.cell? ⟨ob, 0, none⟩ = some (.string q92)) (h1 : w.cell? ⟨ob, 1, none⟩ = some (.string q9292)) (h2 : w.cell? ⟨ob, 2, none⟩ = some (.string q39)) (h3 : w.cell? ⟨ob, 3, none⟩ = some (.string q9239)) (h4 : w.cell? ⟨ob, 4, none⟩ = some (.string q10)) (h5 : w.cell? ⟨ob, 5, none⟩ = some (.string q92110)) (hob : ob < w.heap.size) :
    Calls Tryz.prog 81 #[.pointer (some ⟨rb, 0, none⟩)] w fun e w' => ∃ q, e = .returned (.iface 185 (.pointer (some ⟨q, 0, none⟩))) ∧ Go.RowKit.Below w.heap.size w w' ∧ Built w' w.heap.size q := by
  have hmk := mk3 w
  have hZ : (w.alloc strs0).heap.size = w.heap.size + 1 := Array.size_push ..
  have hst := store184 (w.alloc strs0) (.slice (some ⟨w.heap.size, 0, none⟩) 0 3) rfl
  rw [hZ] at hst
  unfold strs0 at hst hZ
  go_enter Tryz.func81, Tryz.ntmps81
  go_wp2
  refine wp_loop_rounds 4 ?_
  rw [rounds_succ]
  go_wp2
  rw [rounds_succ]
  go_wp2
  rw [rounds_succ]
  go_wp2
  rw [rounds_succ]
  go_wp2
  have hX : ∀ b off, b < w.heap.size → ((w.alloc (.cells #[.string ⟨#[]⟩, .string ⟨#[]⟩, .string ⟨#[]⟩] 9)).alloc (.cells (Tryz.zeroCells184.setIfInBounds 256 (.slice (some ⟨w.heap.size, 0, none⟩) 0 3)) 184)).cell? ⟨b, off, none⟩ = w.cell? ⟨b, off, none⟩ := fun b off hb => by
    rw [World.cell?_alloc_past _ _ _ (by rw [hZ]; omega), World.cell?_alloc_past _ _ _ hb]
  have hT : ((w.alloc (.cells #[.string ⟨#[]⟩, .string ⟨#[]⟩, .string ⟨#[]⟩] 9)).alloc (.cells (Tryz.zeroCells184.setIfInBounds 256 (.slice (some ⟨w.heap.size, 0, none⟩) 0 3)) 184)).heap[w.heap.size]? = some (.cells #[.string ⟨#[]⟩, .string ⟨#[]⟩, .string ⟨#[]⟩] 9 (0, 0)) :=
    (Go.RowKit.Below.heap_alloc _ _ w.heap.size (by rw [hZ]; omega)).trans (heap_alloc_new w _)
  have hQ : ((w.alloc (.cells #[.string ⟨#[]⟩, .string ⟨#[]⟩, .string ⟨#[]⟩] 9)).alloc (.cells (Tryz.zeroCells184.setIfInBounds 256 (.slice (some ⟨w.heap.size, 0, none⟩) 0 3)) 184)).heap[w.heap.size + 1]? = some (.cells (Tryz.zeroCells184.setIfInBounds 256 (.slice (some ⟨w.heap.size, 0, none⟩) 0 3)) 184 (0, 0)) := by
    have := heap_alloc_new (w.alloc (.cells #[.string ⟨#[]⟩, .string ⟨#[]⟩, .string ⟨#[]⟩] 9)) (.cells (Tryz.zeroCells184.setIfInBounds 256 (.slice (some ⟨w.heap.size, 0, none⟩) 0 3)) 184)
    rwa [hZ] at this
  have hS : ((w.alloc (.cells #[.string ⟨#[]⟩, .string ⟨#[]⟩, .string ⟨#[]⟩] 9)).alloc (.cells (Tryz.zeroCells184.setIfInBounds 256 (.slice (some ⟨w.heap.size, 0, none⟩) 0 3)) 184)).heap.size = w.heap.size + 2 := by
    rw [show ∀ (W : World) o, (W.alloc o).heap.size = W.heap.size + 1 from fun _ _ => Array.size_push .., hZ]
  have hBel : Go.RowKit.Below w.heap.size w ((w.alloc (.cells #[.string ⟨#[]⟩, .string ⟨#[]⟩, .string ⟨#[]⟩] 9)).alloc (.cells (Tryz.zeroCells184.setIfInBounds 256 (.slice (some ⟨w.heap.size, 0, none⟩) 0 3)) 184)) :=
    ((Go.RowKit.Below.refl _ w).alloc (Nat.le_refl _) _).alloc (by rw [hZ]; omega) _
  clear hst hmk
  generalize (w.alloc (.cells #[.string ⟨#[]⟩, .string ⟨#[]⟩, .string ⟨#[]⟩] 9)).alloc (.cells (Tryz.zeroCells184.setIfInBounds 256 (.slice (some ⟨w.heap.size, 0, none⟩) 0 3)) 184) = X at *
  rw [← hX _ _ hob] at h0 h1 h2 h3 h4 h5
  have hne := nilEq
  have e10 : ∀ h, ((q10)[0]'h).toNat = 10 := fun _ => rfl
  have e39 : ∀ h, ((q39)[0]'h).toNat = 39 := fun _ => rfl
  have e92 : ∀ h, ((q92)[0]'h).toNat = 92 := fun _ => rfl
  have hCn : ∀ j, j < 256 → (Tryz.zeroCells184.setIfInBounds 256 (.slice (some ⟨w.heap.size, 0, none⟩) 0 3))[j]? = some (Value.slice none 0 0) := fun j hj => by
    rw [Array.getElem?_setIfInBounds_ne (by omega), zrep, Array.getElem?_replicate, if_pos (by omega)]
  clear hX hZ
  have hC10 := (show ((Tryz.zeroCells184.setIfInBounds 256 (.slice (some ⟨w.heap.size, 0, none⟩) 0 3)))[10]? = some (Value.slice none 0 0) by rw [Array.getElem?_setIfInBounds_ne (by decide)]; kernel_rfl)
  have hC39 := (show ((Tryz.zeroCells184.setIfInBounds 256 (.slice (some ⟨w.heap.size, 0, none⟩) 0 3)))[39]? = some (Value.slice none 0 0) by rw [Array.getElem?_setIfInBounds_ne (by decide)]; kernel_rfl)
  have hC92 := (show ((Tryz.zeroCells184.setIfInBounds 256 (.slice (some ⟨w.heap.size, 0, none⟩) 0 3)))[92]? = some (Value.slice none 0 0) by rw [Array.getElem?_setIfInBounds_ne (by decide)]; kernel_rfl)
  have hC256 := (show ((Tryz.zeroCells184.setIfInBounds 256 (.slice (some ⟨w.heap.size, 0, none⟩) 0 3)))[256]? = some (Value.slice (some ⟨w.heap.size, 0, none⟩) 0 3) by rw [Array.getElem?_setIfInBounds_self_of_lt (by rw [zsize]; decide)])
  have hCs : ((Tryz.zeroCells184.setIfInBounds 256 (.slice (some ⟨w.heap.size, 0, none⟩) 0 3))).size = 257 := by rw [Array.size_setIfInBounds, zsize]
  generalize (Tryz.zeroCells184.setIfInBounds 256 (.slice (some ⟨w.heap.size, 0, none⟩) 0 3)) = C at hQ hC10 hC39 hC92 hC256 hCs hCn
  refine wp_loop_rounds 4 ?_
  have q0 : X.cell? ⟨w.heap.size + 1, 10, none⟩ = some (.slice none 0 0) := (Lib.cell_of_heap hQ 10).trans hC10
  have p0 : X.cell? ⟨w.heap.size + 1, 256, none⟩ = some (.slice (some ⟨w.heap.size, 0, none⟩) 0 3) := (Lib.cell_of_heap hQ 256).trans hC256
  have t0 : X.cell? ⟨w.heap.size, 0, none⟩ = some (.string ⟨#[]⟩) := (Lib.cell_of_heap hT 0).trans rfl
  have u0 : X.frozen? ⟨w.heap.size, 0, none⟩ = false := Lib.frozen_of_heap hT 0
  have v0 : X.frozen? ⟨w.heap.size + 1, 256, none⟩ = false := Lib.frozen_of_heap hQ 256
  have z0 : X.frozen? ⟨w.heap.size + 1, 10, none⟩ = false := Lib.frozen_of_heap hQ 10
  have hcb0 := fun W => conv2 W q92110
  have hc0 := conv1 X 10
  rw [hS] at hc0
  rw [show (((10 : UInt8).toNat : Nat) : Int) = 10 from rfl] at hc0
  rw [rounds_succ]
  go_wp2
  (refine gw ?_; intro Y1 hW0)
  obtain ⟨hT1, ⟨D1, hQ1, hCs1, hd10, hd256, hdo1⟩, hS1, hB1, hO1, hos1, htp1, hou1⟩ := next_world X w.heap.size (w.heap.size + 1) _ C 0 10 _ _ _ _ _ _ hT hQ (by omega) hCs (by decide) _ hW0
  clear hW0 q0 p0 t0 u0 v0 z0 hcb0 hc0
  rw [hS] at hS1 hB1 hO1
  replace hS1 : Y1.heap.size = w.heap.size + 5 := hS1.trans (by omega)
  have hob1 : Y1.heap[ob]? = X.heap[ob]? := hO1 ob (by omega) (by omega) (by omega)
  replace hC256 := hd256
  clear hd256
  replace hC39 := (hdo1 39 (by decide) (by decide)).trans hC39
  replace hC92 := (hdo1 92 (by decide) (by decide)).trans hC92
  replace h0 := (World.cell?_of_block hob1).trans h0
  replace h1 := (World.cell?_of_block hob1).trans h1
  replace h2 := (World.cell?_of_block hob1).trans h2
  replace h3 := (World.cell?_of_block hob1).trans h3
  replace h4 := (World.cell?_of_block hob1).trans h4
  replace h5 := (World.cell?_of_block hob1).trans h5
  have q1 : Y1.cell? ⟨w.heap.size + 1, 39, none⟩ = some (.slice none 0 0) := (Lib.cell_of_heap hQ1 39).trans hC39
  have p1 : Y1.cell? ⟨w.heap.size + 1, 256, none⟩ = some (.slice (some ⟨w.heap.size, 0, none⟩) 1 3) := (Lib.cell_of_heap hQ1 256).trans hC256
  have t1 : Y1.cell? ⟨w.heap.size, 1, none⟩ = some (.string ⟨#[]⟩) := (Lib.cell_of_heap hT1 1).trans rfl
  have u1 : Y1.frozen? ⟨w.heap.size, 1, none⟩ = false := Lib.frozen_of_heap hT1 1
  have v1 : Y1.frozen? ⟨w.heap.size + 1, 256, none⟩ = false := Lib.frozen_of_heap hQ1 256
  have z1 : Y1.frozen? ⟨w.heap.size + 1, 39, none⟩ = false := Lib.frozen_of_heap hQ1 39
  have hcb1 := fun W => conv2 W q9239
  have hc1 := conv1 Y1 39
  rw [hS1] at hc1
  rw [show (((39 : UInt8).toNat : Nat) : Int) = 39 from rfl] at hc1
  rw [rounds_succ]
  go_wp2
  (refine gw ?_; intro Y2 hW1)
  obtain ⟨hT2, ⟨D2, hQ2, hCs2, hd39, hd256, hdo2⟩, hS2, hB2, hO2, hos2, htp2, hou2⟩ := next_world Y1 w.heap.size (w.heap.size + 1) _ D1 1 39 _ _ _ _ _ _ hT1 hQ1 (by omega) hCs1 (by decide) _ hW1
  clear hW1 q1 p1 t1 u1 v1 z1 hcb1 hc1
  rw [hS1] at hS2 hB2 hO2
  replace hS2 : Y2.heap.size = w.heap.size + 8 := hS2.trans (by omega)
  have hob2 : Y2.heap[ob]? = Y1.heap[ob]? := hO2 ob (by omega) (by omega) (by omega)
  replace hC256 := hd256
  clear hd256
  replace hC92 := (hdo2 92 (by decide) (by decide)).trans hC92
  replace h0 := (World.cell?_of_block hob2).trans h0
  replace h1 := (World.cell?_of_block hob2).trans h1
  replace h2 := (World.cell?_of_block hob2).trans h2
  replace h3 := (World.cell?_of_block hob2).trans h3
  replace h4 := (World.cell?_of_block hob2).trans h4
  replace h5 := (World.cell?_of_block hob2).trans h5
  have q2 : Y2.cell? ⟨w.heap.size + 1, 92, none⟩ = some (.slice none 0 0) := (Lib.cell_of_heap hQ2 92).trans hC92
  have p2 : Y2.cell? ⟨w.heap.size + 1, 256, none⟩ = some (.slice (some ⟨w.heap.size, 0, none⟩) 2 3) := (Lib.cell_of_heap hQ2 256).trans hC256
  have t2 : Y2.cell? ⟨w.heap.size, 2, none⟩ = some (.string ⟨#[]⟩) := (Lib.cell_of_heap hT2 2).trans rfl
  have u2 : Y2.frozen? ⟨w.heap.size, 2, none⟩ = false := Lib.frozen_of_heap hT2 2
  have v2 : Y2.frozen? ⟨w.heap.size + 1, 256, none⟩ = false := Lib.frozen_of_heap hQ2 256
  have z2 : Y2.frozen? ⟨w.heap.size + 1, 92, none⟩ = false := Lib.frozen_of_heap hQ2 92
  have hcb2 := fun W => conv2 W q9292
  have hc2 := conv1 Y2 92
  rw [hS2] at hc2
  rw [show (((92 : UInt8).toNat : Nat) : Int) = 92 from rfl] at hc2
  rw [rounds_succ]
  go_wp2
  (refine gw ?_; intro Y3 hW2)
  obtain ⟨hT3, ⟨D3, hQ3, hCs3, hd92, hd256, hdo3⟩, hS3, hB3, hO3, hos3, htp3, hou3⟩ := next_world Y2 w.heap.size (w.heap.size + 1) _ D2 2 92 _ _ _ _ _ _ hT2 hQ2 (by omega) hCs2 (by decide) _ hW2
  clear hW2 q2 p2 t2 u2 v2 z2 hcb2 hc2
  rw [hS2] at hS3 hB3 hO3
  replace hS3 : Y3.heap.size = w.heap.size + 11 := hS3.trans (by omega)
  have hob3 : Y3.heap[ob]? = Y2.heap[ob]? := hO3 ob (by omega) (by omega) (by omega)
  replace hC256 := hd256
  clear hd256
  replace h0 := (World.cell?_of_block hob3).trans h0
  replace h1 := (World.cell?_of_block hob3).trans h1
  replace h2 := (World.cell?_of_block hob3).trans h2
  replace h3 := (World.cell?_of_block hob3).trans h3
  replace h4 := (World.cell?_of_block hob3).trans h4
  replace h5 := (World.cell?_of_block hob3).trans h5
  rw [rounds_succ]
  go_wp2
  go_ret
  obtain ⟨c1, k1⟩ : ∃ c, D3[10]? = some (.slice (some ⟨w.heap.size + 2 + 2, 0, none⟩) 2 c) := ⟨_, (hdo3 10 (by decide) (by decide)).trans ((hdo2 10 (by decide) (by decide)).trans hd10)⟩
  obtain ⟨c2, k2⟩ : ∃ c, D3[39]? = some (.slice (some ⟨w.heap.size + 5 + 2, 0, none⟩) 2 c) := ⟨_, (hdo3 39 (by decide) (by decide)).trans hd39⟩
  obtain ⟨c3, k3⟩ : ∃ c, D3[92]? = some (.slice (some ⟨w.heap.size + 8 + 2, 0, none⟩) 2 c) := ⟨_, hd92⟩
  refine ⟨w.heap.size + 1, rfl, ⟨?_, ?_, ?_, ?_, fun k hk => ?_⟩, w.heap.size, D3, w.heap.size + 2 + 2, w.heap.size + 5 + 2, w.heap.size + 8 + 2, c1, c2, c3, ⟨by omega, by omega, by omega, by omega, by omega⟩, hQ3, hCs3, hC256, hT3.trans rfl, k1, k2, k3, fun j hj j1 j2 j3 => ?_, ⟨?_, ?_⟩, ⟨?_, ?_⟩, ?_, ?_⟩
  · exact hos3.trans (hos2.trans (hos1.trans hBel.os))
  · exact htp3.trans (htp2.trans (htp1.trans hBel.tape))
  · exact hou3.trans (hou2.trans (hou1.trans hBel.output))
  · rw [hS3]; omega
  · rw [hO3 k (by omega) (by omega) (by omega), hO2 k (by omega) (by omega) (by omega), hO1 k (by omega) (by omega) (by omega)]
    exact hBel.block k hk
  · rw [hdo3 j j3 (by omega), hdo2 j j2 (by omega), hdo1 j j1 (by omega)]
    exact hCn j hj
  · exact cellB ((hO3 _ (by omega) (by omega) (by omega)).trans ((hO2 _ (by omega) (by omega) (by omega)).trans hB1)) 0 (by decide)
  · exact cellB ((hO3 _ (by omega) (by omega) (by omega)).trans ((hO2 _ (by omega) (by omega) (by omega)).trans hB1)) 1 (by decide)
  · exact cellB ((hO3 _ (by omega) (by omega) (by omega)).trans hB2) 0 (by decide)
  · exact cellB ((hO3 _ (by omega) (by omega) (by omega)).trans hB2) 1 (by decide)
  · exact cellB hB3 0 (by decide)
  · exact cellB hB3 1 (by decide)
end Go.Proofs.YtffefjmpmgkfoaaGreatDoor

/- strings.NewReplacer, buildOnce, walked at the seat. -/
namespace Go.Proofs.YtffefjmpmgkfoaaGreatDoor
open Go
set_option linter.unusedSimpArgs false
set_option linter.unusedVariables false
set_option maxRecDepth 100000
set_option maxHeartbeats 2000000
theorem new_ok (sb : Nat) (w : World) (h0 : w.cell? ⟨sb, 0, none⟩ = some (.string q92)) (h1 : w.cell? ⟨sb, 1, none⟩ = some (.string q9292)) (h2 : w.cell? ⟨sb, 2, none⟩ = some (.string q39)) (h3 : w.cell? ⟨sb, 3, none⟩ = some (.string q9239)) (h4 : w.cell? ⟨sb, 4, none⟩ = some (.string q10)) (h5 : w.cell? ⟨sb, 5, none⟩ = some (.string q92110)) :
    Calls Tryz.prog 24 #[.slice (some ⟨sb, 0, none⟩) 6 6] w fun e w' => ∃ (oc : Nat) (A : Array Value), e = .returned (.pointer (some ⟨w.heap.size + 1, 0, none⟩)) ∧ Go.RowKit.Below w.heap.size w w' ∧ w'.heap.size = w.heap.size + 2 ∧
      w'.heap[w.heap.size + 1]? = some (.cells #[.int .u32 0, .int .i32 0, .int .u32 0, .nilIface, .slice (some ⟨w.heap.size, 0, none⟩) 6 oc] 117 (0, 0)) ∧
      w'.heap[w.heap.size]? = some (.cells (#[.string q92, .string q9292, .string q39, .string q9239, .string q10, .string q92110] ++ A) 9 (0, 0)) := by
  have al : ∀ (W : World) (ob : Obj), (W.alloc ob).heap.size = W.heap.size + 1 := fun W ob => Array.size_push ..
  go_enter Tryz.func24, Tryz.ntmps24
  go_wp2
  go_ret
  refine ⟨(Question.appendCap 6 0 9).cut (w.tape w.drawn (Question.appendCap 6 0 9)), Builtin.zeroCells #[.string ⟨#[]⟩] ((Question.appendCap 6 0 9).cut (w.tape w.drawn (Question.appendCap 6 0 9)) - 6), rfl, ⟨rfl, rfl, rfl, ?_, fun k hk => ?_⟩, ?_, ?_, ?_⟩
  · show w.heap.size ≤ ((w.alloc _).alloc _).heap.size
    rw [al, al]; omega
  · show ((w.alloc _).alloc _).heap[k]? = _
    rw [Go.RowKit.Below.heap_alloc _ _ k (by rw [al]; omega), Go.RowKit.Below.heap_alloc _ _ k hk]
  · show ((w.alloc _).alloc _).heap.size = _
    rw [al, al]
  · have := heap_alloc_new (w.alloc (.cells (#[.string q92, .string q9292, .string q39, .string q9239, .string q10, .string q92110] ++ Builtin.zeroCells #[.string ⟨#[]⟩] ((Question.appendCap 6 0 9).cut (w.tape w.drawn (Question.appendCap 6 0 9)) - 6)) 9)) (.cells #[.int .u32 0, .int .i32 0, .int .u32 0, .nilIface, .slice (some ⟨w.heap.size, 0, none⟩) 6 ((Question.appendCap 6 0 9).cut (w.tape w.drawn (Question.appendCap 6 0 9)))] 117)
    rw [al] at this
    exact this
  · show ((w.alloc _).alloc _).heap[w.heap.size]? = _
    rw [Go.RowKit.Below.heap_alloc _ _ w.heap.size (by rw [al]; omega)]
    exact heap_alloc_new w _
theorem buildOnce_ok (rb ob oc : Nat) (w : World) (c0 c1 c2 c3 : Value) (hR : w.heap[rb]? = some (.cells #[c0, c1, c2, c3, .slice (some ⟨ob, 0, none⟩) 6 oc] 117 (0, 0)))
    (h0 : w.cell? ⟨ob, 0, none⟩ = some (.string q92)) (h1 : w.cell? ⟨ob, 1, none⟩ = some (.string q9292)) (h2 : w.cell? ⟨ob, 2, none⟩ = some (.string q39)) (h3 : w.cell? ⟨ob, 3, none⟩ = some (.string q9239)) (h4 : w.cell? ⟨ob, 4, none⟩ = some (.string q10)) (h5 : w.cell? ⟨ob, 5, none⟩ = some (.string q92110)) (hob : ob < w.heap.size) :
    Calls Tryz.prog 50 #[.pointer (some ⟨rb, 0, none⟩)] w fun e w' => e = .returned (.tuple #[]) ∧ ∃ q, Built w' w.heap.size q ∧ w'.heap[rb]? = some (.cells #[c0, c1, c2, .iface 185 (.pointer (some ⟨q, 0, none⟩)), .slice none 0 0] 117 (0, 0)) ∧
      w'.os = w.os ∧ w'.tape = w.tape ∧ w'.output = w.output ∧ w.heap.size ≤ w'.heap.size ∧ ∀ k, k < w.heap.size → k ≠ rb → w'.heap[k]? = w.heap[k]? := by
  have hrb : rb < w.heap.size := (Array.getElem?_eq_some_iff.1 hR).1
  have hb := build_ok rb ob oc w ((Lib.cell_of_heap hR 4).trans rfl) h0 h1 h2 h3 h4 h5 hob
  clear h0 h1 h2 h3 h4 h5
  go_enter Tryz.func50, Tryz.ntmps50
  go_wp2_with (go_at_call 81; refine hb.mono ?_; rintro e w2 ⟨q, rfl, hbel, hbu⟩; have hR2 := (hbel.block rb hrb).trans hR; have k3 : w2.cell? ⟨rb, 3, none⟩ = some c3 := (Lib.cell_of_heap hR2 3).trans rfl; have k4 : w2.cell? ⟨rb, 4, none⟩ = some (.slice (some ⟨ob, 0, none⟩) 6 oc) := (Lib.cell_of_heap hR2 4).trans rfl; have z3 : w2.frozen? ⟨rb, 3, none⟩ = false := Lib.frozen_of_heap hR2 3; have z4 : w2.frozen? ⟨rb, 4, none⟩ = false := Lib.frozen_of_heap hR2 4)
  go_end0
  have s1 := heap_setCell_same w2 rb 3 _ 117 (.iface 185 (.pointer (some ⟨q, 0, none⟩))) hR2
  have s2 := heap_setCell_same _ rb 4 _ 117 (.slice none 0 0) s1
  have oth : ∀ k, k ≠ rb → ((w2.setCell ⟨rb, 3, none⟩ (.iface 185 (.pointer (some ⟨q, 0, none⟩)))).setCell ⟨rb, 4, none⟩ (.slice none 0 0)).heap[k]? = w2.heap[k]? := fun k hk => by
    rw [heap_setCell_other _ _ k _ hk, heap_setCell_other _ _ k _ hk]
  refine ⟨rfl, q, hbu.through fun k hk => oth k (by omega), s2.trans rfl, hbel.os, hbel.tape, hbel.output, ?_, fun k hk hne => (oth k hne).trans (hbel.block k hk)⟩
  simpa using hbel.size
end Go.Proofs.YtffefjmpmgkfoaaGreatDoor

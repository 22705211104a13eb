/- Several texts in one (merge.py). -/
import Derived.Test.YtpfhkokjpmkbkaaGreatDoorProg
import Derived.Test.YtpfhkokjpmkbkaaGreatDoorShelf
import Derived.WalkKit
import Derived.KernelRfl
import Derived.Maps.AppendAt
import Derived.Maps.Own
import Derived.Maps.OwnOps
import Derived.Test.YtpfhkokjpmkbkaaGreatDoorEvWalk
import Derived.Test.YtpfhkokjpmkbkaaGreatDoorPFree
import Derived.Maps.OwnSet
import Derived.CallsIn
import Derived.Carry
import Derived.Laws.EntriesVeiled
import Derived.Sort.KeysCollected
/- term.Free and the law's freeOf, walked at the seat over the kit's contracts of slices.Sort, slices.Compact, maps.Keys and slices.Sorted. -/
namespace Go.Proofs.YtpfhkokjpmkbkaaGreatDoor
open Go Esp Ev Pure
set_option linter.unusedSimpArgs false
set_option linter.unusedVariables false
set_option maxHeartbeats 2000000
set_option maxRecDepth 100000
theorem info9 : (Tryz.prog.info? 9).map (fun i => (i.zero, i.size, i.bytes)) = some (some (.string ⟨#[]⟩), 1, 16) := by kernel_rfl
def iOf : Value → Int
  | .int _ n => n
  | _ => 0
def OwnB (w : World) (base : Nat) (v : Value) (ss : List (List UInt8)) : Prop := w.ownsRow base 9 1 v ss.length (ss.map encStr)
theorem OwnB.nil (w : World) (base : Nat) : OwnB w base (.slice none 0 0) [] := World.ownsRow_nil _ _ _ _
theorem sort_call {W : World} {m : Nat} {v : Value} {ss : List (List UInt8)} (ho : OwnB W m v ss) (hm : m ≤ W.heap.size) (hl : ss.length ≤ 2000000) :
    Calls Tryz.prog 24 #[v] W fun e w' => e = .returned (.tuple #[]) ∧ OwnB w' m v (sortB ss) ∧ RowKit.Below m W w' := by
  rcases own_shape ho with ⟨rfl, h0⟩ | ⟨g, cap, rfl, h1, h2⟩
  · obtain rfl : ss = [] := List.eq_nil_of_length_eq_zero h0
    refine (AnyM.slices_Sort_string_none Tryz.sortL none 0 W).mono fun e w' ⟨h3, h4⟩ => ⟨h3, ?_, ?_⟩
    · have : sortB [] = [] := by unfold sortB; simp
      rw [this]
      exact OwnB.nil _ _
    · rw [h4]
      exact .refl _ _
  · refine (AnyM.slices_Sort_string Tryz.sortL g 0 cap ss W (own_holds ho) (own_lt ho rfl) (by omega)).mono fun e w' ⟨h3, n, os, h4⟩ => ⟨h3, ?_⟩
    have h5 := own_put ho (zs := sortB ss) (sortB_length ss) (q := n) (os := os) h4
    have h6 : OwnB w' m (.slice (some ⟨g, 0, none⟩) ss.length cap) (sortB ss) := by
      unfold OwnB
      rw [sortB_length]
      exact h5.1
    exact ⟨h6, grown_below ho h5.2 hm⟩
theorem compact_call {W : World} {m : Nat} {v : Value} {ss : List (List UInt8)} (ho : OwnB W m v ss) (hm : m ≤ W.heap.size) (hl : ss.length ≤ 2000000) :
    Calls Tryz.prog 25 #[v] W fun e w' => ∃ v', e = .returned v' ∧ OwnB w' m v' (Lib.compact ss) ∧ RowKit.Below m W w' := by
  rcases own_shape ho with ⟨rfl, h0⟩ | ⟨g, cap, rfl, h1, h2⟩
  · obtain rfl : ss = [] := List.eq_nil_of_length_eq_zero h0
    refine (Any.slices_Compact_string_empty Tryz.laysCompact none 0 W).mono fun e w' ⟨h3, h4⟩ => ⟨_, h3, ?_, ?_⟩
    · exact OwnB.nil _ _
    · rw [h4]
      exact .refl _ _
  · refine (Any.slices_Compact_string Tryz.laysCompact g 0 cap ss W (own_holds ho) (by omega) h1).mono fun e w' ⟨h3, q, h4⟩ => ⟨_, h3, ?_⟩
    have hle := compact_le ss
    have h5 := own_put ho (zs := Lib.compact ss ++ List.replicate (ss.length - (Lib.compact ss).length) []) (by simp only [List.length_append, List.length_replicate]; exact Nat.add_sub_cancel' hle) (q := q) (os := #[]) (h4.trans (Sort.grow_empty _).symm)
    have h6 := own_take h5.1 (k := (Lib.compact ss).length) hle
    rw [List.map_append, List.take_left' (by simp)] at h6
    exact ⟨h6, grown_below ho h5.2 hm⟩
theorem pre_le (es : Nat → List (List UInt8)) {k n : Nat} (h : k ≤ n) : ((List.range k).flatMap es).length ≤ ((List.range n).flatMap es).length := by
  induction n with
  | zero => obtain rfl : k = 0 := by omega
            exact Nat.le_refl _
  | succ n ih =>
    by_cases e : k = n + 1
    · subst e
      exact Nat.le_refl _
    · have := ih (by omega)
      rw [List.range_succ, List.flatMap_append, List.length_append]
      omega
def Bx (n : Nat) (k vk vn : Int) (vs : ByteArray) (vl : Value) (s : ByteArray) (al : Value) (w W : World) : Prop :=
  n = w.heap.size ∧ W.heap[n]? = some (.cells #[.int .i64 k, .int .i64 vk, .int .i64 vn, .string vs, vl, .string s, al] 27 (0, 0)) ∧ RowKit.Below n w W
theorem Bx.start (k vk vn : Int) (vs : ByteArray) (vl : Value) (s : ByteArray) (al : Value) (w : World) : Bx w.heap.size k vk vn vs vl s al w (w.alloc (.cells #[.int .i64 k, .int .i64 vk, .int .i64 vn, .string vs, vl, .string s, al] 27)) :=
  ⟨rfl, heap_alloc_new w _, (RowKit.Below.refl _ w).alloc (Nat.le_refl _) _⟩
theorem Bx.step {n : Nat} {k vk vn : Int} {vs : ByteArray} {vl : Value} {s : ByteArray} {al : Value} {w W W' : World} (h : Bx n k vk vn vs vl s al w W) (h2 : RowKit.Below (n + 1) W W') : Bx n k vk vn vs vl s al w W' :=
  ⟨h.1, (h2.block _ (by omega)).trans h.2.1, h.2.2.trans (h2.mono (by omega))⟩
theorem Bx.lt {n : Nat} {k vk vn : Int} {vs : ByteArray} {vl : Value} {s : ByteArray} {al : Value} {w W : World} (h : Bx n k vk vn vs vl s al w W) : n + 1 ≤ W.heap.size := (Array.getElem?_eq_some_iff.1 h.2.1).1
theorem wlk2 (vk vn : Int) (vs : ByteArray) (vl : Value) (s : ByteArray) (w : World) (ao : Option Addr) (sb off n cap : Nat) (hao : n ≠ 0 → ao = some ⟨sb, off, none⟩) (f : Nat → Int × Int × Int × ByteArray × (Option Addr × Nat × Nat) × ByteArray × (Option Addr × Nat × Nat)) (es : Nat → List (List UInt8))
    (hsb : n ≠ 0 → sb < w.heap.size) (hnn : n ≤ 2000000) (hlim : ((List.range n).flatMap es).length ≤ 1900000)
    (h0c : ∀ i, i < n → w.cell? ⟨sb, off + i * 7, none⟩ = some (.int .i64 (f i).1) ∧ w.cell? ⟨sb, off + i * 7 + 1, none⟩ = some (.int .i64 (f i).2.1) ∧ w.cell? ⟨sb, off + i * 7 + 2, none⟩ = some (.int .i64 (f i).2.2.1) ∧ w.cell? ⟨sb, off + i * 7 + 3, none⟩ = some (.string (f i).2.2.2.1) ∧
      w.cell? ⟨sb, off + i * 7 + 4, none⟩ = some (.slice (f i).2.2.2.2.1.1 (f i).2.2.2.2.1.2.1 (f i).2.2.2.2.1.2.2) ∧ w.cell? ⟨sb, off + i * 7 + 5, none⟩ = some (.string (f i).2.2.2.2.2.1) ∧ w.cell? ⟨sb, off + i * 7 + 6, none⟩ = some (.slice (f i).2.2.2.2.2.2.1 (f i).2.2.2.2.2.2.2.1 (f i).2.2.2.2.2.2.2.2))
    (hrec : ∀ i, i < n → ∀ W, RowKit.Below w.heap.size w W → Calls Tryz.prog 11 #[.agg #[.int .i64 (f i).1, .int .i64 (f i).2.1, .int .i64 (f i).2.2.1, .string (f i).2.2.2.1, .slice (f i).2.2.2.2.1.1 (f i).2.2.2.2.1.2.1 (f i).2.2.2.2.1.2.2, .string (f i).2.2.2.2.2.1, .slice (f i).2.2.2.2.2.2.1 (f i).2.2.2.2.2.2.2.1 (f i).2.2.2.2.2.2.2.2]] W
      fun e w' => ∃ v, e = .returned v ∧ OwnB w' W.heap.size v (es i) ∧ RowKit.Below W.heap.size W w') :
    Calls Tryz.prog 11 #[.agg #[.int .i64 2, .int .i64 vk, .int .i64 vn, .string vs, vl, .string s, .slice ao n cap]] w fun e w' => ∃ v, e = .returned v ∧ OwnB w' w.heap.size v (Lib.compact (sortB ([s.data.toList] ++ (List.range n).flatMap es))) ∧ RowKit.Below w.heap.size w w' := by
  have h0 := Bx.start 2 vk vn vs vl s (.slice ao n cap) w
  obtain ⟨i0, hi, hz0, hz1, hz2⟩ := info_parts info9
  go_enter Tryz.func11, Tryz.ntmps11
  have hn0 : OwnB ((w.alloc (.cells #[.int .i64 2, .int .i64 vk, .int .i64 vn, .string vs, vl, .string s, .slice ao n cap] 27)).alloc (.cells #[.string s] 9)) (w.heap.size + 1) (.slice none 0 0) [] := OwnB.nil _ _
  have hz8 : (w.alloc (.cells #[.int .i64 2, .int .i64 vk, .int .i64 vn, .string vs, vl, .string s, .slice ao n cap] 27)).heap.size = w.heap.size + 1 := Array.size_push ..
  have hz9 : ((w.alloc (.cells #[.int .i64 2, .int .i64 vk, .int .i64 vn, .string vs, vl, .string s, .slice ao n cap] 27)).alloc (.cells #[.string s] 9)).heap.size = w.heap.size + 1 + 1 := (Array.size_push ..).trans (by rw [hz8])
  go_wp2_with (first
    | (at_builtin; refine wpList_append_own_at _ rfl _ _ 31 rfl (w.heap.size + 1) 9 i0 (.string ⟨#[]⟩) 1 16 Tryz.underlying31 hi hz0 hz1 hz2 rfl (by decide) _ _ _ rfl hn0 ⟨w.heap.size + 1, 0, none⟩ 1 1 [.string s] rfl rfl ?ha ?hb ?hc ?hd ?he ?hf)
    | go_in)
  case ha =>
    have := cell_one_new (w.alloc (.cells #[.int .i64 2, .int .i64 vk, .int .i64 vn, .string vs, vl, .string s, .slice ao n cap] 27)) (.string s) 9
    rw [hz8] at this
    exact this
  case hb => intro u hu; simp at hu; subst hu; rfl
  case hc => unfold maxLen; decide
  case hd => decide
  case he => rw [hz9]; omega
  case hf =>
  intro v1 W1 hown1 hgrow1 hnil1 hloc1
  have hb1 : Bx w.heap.size 2 vk vn vs vl s (.slice ao n cap) w W1 := h0.step (((RowKit.Below.refl _ _).alloc (by rw [hz8]; exact Nat.le_refl _) _).trans (grown_below hn0 hgrow1 (by rw [hz9]; omega)))
  have ho1 : OwnB W1 (w.heap.size + 1) v1 [s.data.toList] := hown1
  have hc6 := hb1.2.1
  have d6 : W1.cell? ⟨w.heap.size, 6, none⟩ = some (.slice ao n cap) := by rw [Lib.cell_of_heap hc6]; rfl
  go_wp2

  go_loopw [3, 17] (fun v i wr => ∃ (k : Nat), k ≤ n ∧ i = .int .i64 k ∧ OwnB wr (w.heap.size + 1) v ([s.data.toList] ++ (List.range k).flatMap es) ∧ Bx w.heap.size 2 vk vn vs vl s (.slice ao n cap) w wr)
    (fun _ i _ => n - (iOf i).toNat)
  case atStart => exact ⟨0, Nat.zero_le _, rfl, by simpa using ho1, hb1⟩
  case round =>
    obtain ⟨k, hk, rfl, hov, hst⟩ := hrel
    by_cases hkn : k < n
    · obtain rfl := hao (by omega)
      obtain ⟨x0, x1, x2, x3, x4, x5, x6⟩ := h0c k hkn
      have hle := pre_le es (show k + 1 ≤ n by omega)
      have hes : (List.range (k + 1)).flatMap es = (List.range k).flatMap es ++ es k := by rw [List.range_succ, List.flatMap_append]; simp
      rw [hes, List.length_append] at hle
      obtain ⟨ss, hss⟩ : ∃ ss, ss = [s.data.toList] ++ (List.range k).flatMap es := ⟨_, rfl⟩
      have hlen : ss.length + (es k).length ≤ 1900001 := by rw [hss]; simp only [List.length_append, List.length_cons, List.length_nil]; omega
      have hes2 : [s.data.toList] ++ (List.range (k + 1)).flatMap es = ss ++ es k := by rw [hes, hss, List.append_assoc]
      rw [← hss] at hov
      clear hss
      have hbl := hst.2.2
      have y0 := (hbl.cell (p := ⟨sb, off + k * 7, none⟩) (by exact hsb (by omega))).trans x0
      have y1 := (hbl.cell (p := ⟨sb, off + k * 7 + 1, none⟩) (by exact hsb (by omega))).trans x1
      have y2 := (hbl.cell (p := ⟨sb, off + k * 7 + 2, none⟩) (by exact hsb (by omega))).trans x2
      have y3 := (hbl.cell (p := ⟨sb, off + k * 7 + 3, none⟩) (by exact hsb (by omega))).trans x3
      have y4 := (hbl.cell (p := ⟨sb, off + k * 7 + 4, none⟩) (by exact hsb (by omega))).trans x4
      have y5 := (hbl.cell (p := ⟨sb, off + k * 7 + 5, none⟩) (by exact hsb (by omega))).trans x5
      have y6 := (hbl.cell (p := ⟨sb, off + k * 7 + 6, none⟩) (by exact hsb (by omega))).trans x6
      have hR := hrec k hkn
      have hnx : n ≤ 9000000000000000000 → True := fun _ => trivial
      generalize (f k).1 = a0 at y0 hR
      generalize (f k).2.1 = a1 at y1 hR
      generalize (f k).2.2.1 = a2 at y2 hR
      generalize (f k).2.2.2.1 = a3 at y3 hR
      generalize (f k).2.2.2.2.1.1 = a4 at y4 hR
      generalize (f k).2.2.2.2.1.2.1 = b4 at y4 hR
      generalize (f k).2.2.2.2.1.2.2 = c4 at y4 hR
      generalize (f k).2.2.2.2.2.1 = a5 at y5 hR
      generalize (f k).2.2.2.2.2.2.1 = a6 at y6 hR
      generalize (f k).2.2.2.2.2.2.2.1 = b6 at y6 hR
      generalize (f k).2.2.2.2.2.2.2.2 = c6 at y6 hR
      have hal := (RowKit.Below.refl wr.heap.size wr).alloc (Nat.le_refl _) (.cells #[.int .i64 a0, .int .i64 a1, .int .i64 a2, .string a3, .slice a4 b4 c4, .string a5, .slice a6 b6 c6] 27)
      have hst2 := hst.step (hal.mono hst.lt)
      go_wp2_with (go_at_call 11; refine (hR _ hst2.2.2).mono ?_)
      first | rintro e W3 v2 rfl ho2 hb3 | rintro e W3 ⟨v2, rfl, ho2, hb3⟩
      have hall := hal.trans (hb3.mono (by first | exact hal.size | exact Nat.le_succ _))
      have h3 := hst.step (hall.mono hst.lt)
      have hov3 := own_below hov hall
      rcases own_shape ho2 with ⟨rfl, hz2⟩ | ⟨g2, cap2, rfl, hc2, hm2⟩
      · have hez : es k = [] := List.eq_nil_of_length_eq_zero hz2
        rw [hez, List.append_nil] at hes2
        go_wp2_with (first
          | (at_builtin; refine wpList_append_none rfl _ _ 31 rfl _ rfl rfl (append_none_run _ Tryz.underlying31 hi hov3) ?_)
          | go_in)
        go_roundw
        case rel => exact ⟨k + 1, by omega, by go_num, by rw [hes2]; exact hov3, h3⟩
        case measure => simp [iOf]; omega
      · go_wp2_with (first
          | (at_builtin; refine wpList_append_own_at _ rfl _ _ 31 rfl (w.heap.size + 1) 9 i0 (.string ⟨#[]⟩) 1 16 Tryz.underlying31 hi hz0 hz1 hz2 rfl (by decide) _ _ _ rfl hov3 ⟨g2, 0, none⟩ (es k).length cap2 ((es k).map encStr) rfl ?ha ?hb ?hc ?hd ?he ?hf ?hg)
          | go_in)
        case ha => simp
        case hb => exact fun j u hu => ho2.cells (g := g2) rfl j u hu
        case hc => intro u hu; obtain ⟨x, _, rfl⟩ := List.mem_map.1 hu; rfl
        case hd => unfold maxLen; omega
        case he => omega
        case hf => exact h3.lt
        case hg =>
        intro v4 W4 hown4 hgrow4 hnil4 hloc4
        have hb4 := h3.step (grown_below hov3 hgrow4 h3.lt)
        have ho4 : OwnB W4 (w.heap.size + 1) v4 ([s.data.toList] ++ (List.range (k + 1)).flatMap es) := by
          unfold OwnB
          rw [hes2, List.length_append, List.map_append]
          exact hown4
        go_wp2
        go_roundw
        case rel => exact ⟨k + 1, by omega, by go_num, ho4, hb4⟩
        case measure => simp [iOf]; omega
    · have hkn : k = n := by omega
      subst hkn
      go_wp2_with (go_at_call 24; refine (sort_call hov hst.lt (by simp only [List.length_append, List.length_cons, List.length_nil]; omega)).mono ?_)
      first | rintro e W5 rfl ho5 hb5 | rintro e W5 ⟨rfl, ho5, hb5⟩
      have h5 := hst.step hb5
      go_wp2_with (go_at_call 25; refine (compact_call ho5 h5.lt (by rw [sortB_length]; simp only [List.length_append, List.length_cons, List.length_nil]; omega)).mono ?_)
      rintro e W6 ⟨v6, rfl, ho6, hb6⟩
      have h6 := h5.step hb6
      go_wp2
      go_ret
      exact ⟨_, rfl, own_base ho6 (by omega), h6.2.2⟩
theorem wlkN (kk : Int) (hk2 : kk ≠ 2) (vk vn : Int) (vs : ByteArray) (vl : Value) (s : ByteArray) (w : World) (ao : Option Addr) (sb off n cap : Nat) (hao : n ≠ 0 → ao = some ⟨sb, off, none⟩) (f : Nat → Int × Int × Int × ByteArray × (Option Addr × Nat × Nat) × ByteArray × (Option Addr × Nat × Nat)) (es : Nat → List (List UInt8))
    (hsb : n ≠ 0 → sb < w.heap.size) (hnn : n ≤ 2000000) (hlim : ((List.range n).flatMap es).length ≤ 1900000)
    (h0c : ∀ i, i < n → w.cell? ⟨sb, off + i * 7, none⟩ = some (.int .i64 (f i).1) ∧ w.cell? ⟨sb, off + i * 7 + 1, none⟩ = some (.int .i64 (f i).2.1) ∧ w.cell? ⟨sb, off + i * 7 + 2, none⟩ = some (.int .i64 (f i).2.2.1) ∧ w.cell? ⟨sb, off + i * 7 + 3, none⟩ = some (.string (f i).2.2.2.1) ∧
      w.cell? ⟨sb, off + i * 7 + 4, none⟩ = some (.slice (f i).2.2.2.2.1.1 (f i).2.2.2.2.1.2.1 (f i).2.2.2.2.1.2.2) ∧ w.cell? ⟨sb, off + i * 7 + 5, none⟩ = some (.string (f i).2.2.2.2.2.1) ∧ w.cell? ⟨sb, off + i * 7 + 6, none⟩ = some (.slice (f i).2.2.2.2.2.2.1 (f i).2.2.2.2.2.2.2.1 (f i).2.2.2.2.2.2.2.2))
    (hrec : ∀ i, i < n → ∀ W, RowKit.Below w.heap.size w W → Calls Tryz.prog 11 #[.agg #[.int .i64 (f i).1, .int .i64 (f i).2.1, .int .i64 (f i).2.2.1, .string (f i).2.2.2.1, .slice (f i).2.2.2.2.1.1 (f i).2.2.2.2.1.2.1 (f i).2.2.2.2.1.2.2, .string (f i).2.2.2.2.2.1, .slice (f i).2.2.2.2.2.2.1 (f i).2.2.2.2.2.2.2.1 (f i).2.2.2.2.2.2.2.2]] W
      fun e w' => ∃ v, e = .returned v ∧ OwnB w' W.heap.size v (es i) ∧ RowKit.Below W.heap.size W w') :
    Calls Tryz.prog 11 #[.agg #[.int .i64 kk, .int .i64 vk, .int .i64 vn, .string vs, vl, .string s, .slice ao n cap]] w fun e w' => ∃ v, e = .returned v ∧ OwnB w' w.heap.size v (Lib.compact (sortB (([] : List (List UInt8)) ++ (List.range n).flatMap es))) ∧ RowKit.Below w.heap.size w w' := by
  have h0 := Bx.start kk vk vn vs vl s (.slice ao n cap) w
  obtain ⟨i0, hi, hz0, hz1, hz2⟩ := info_parts info9
  go_enter Tryz.func11, Tryz.ntmps11
  have ho1 : OwnB (w.alloc (.cells #[.int .i64 kk, .int .i64 vk, .int .i64 vn, .string vs, vl, .string s, .slice ao n cap] 27)) (w.heap.size + 1) (.slice none 0 0) [] := OwnB.nil _ _
  have hb1 := h0
  go_wp2
  rw [show (kk == 2) = false by simpa using hk2]

  go_loopw [3, 17] (fun v i wr => ∃ (k : Nat), k ≤ n ∧ i = .int .i64 k ∧ OwnB wr (w.heap.size + 1) v (([] : List (List UInt8)) ++ (List.range k).flatMap es) ∧ Bx w.heap.size kk vk vn vs vl s (.slice ao n cap) w wr)
    (fun _ i _ => n - (iOf i).toNat)
  case atStart => exact ⟨0, Nat.zero_le _, rfl, by simpa using ho1, hb1⟩
  case round =>
    obtain ⟨k, hk, rfl, hov, hst⟩ := hrel
    by_cases hkn : k < n
    · obtain rfl := hao (by omega)
      obtain ⟨x0, x1, x2, x3, x4, x5, x6⟩ := h0c k hkn
      have hle := pre_le es (show k + 1 ≤ n by omega)
      have hes : (List.range (k + 1)).flatMap es = (List.range k).flatMap es ++ es k := by rw [List.range_succ, List.flatMap_append]; simp
      rw [hes, List.length_append] at hle
      obtain ⟨ss, hss⟩ : ∃ ss, ss = ([] : List (List UInt8)) ++ (List.range k).flatMap es := ⟨_, rfl⟩
      have hlen : ss.length + (es k).length ≤ 1900001 := by rw [hss]; simp only [List.length_append, List.length_cons, List.length_nil]; omega
      have hes2 : ([] : List (List UInt8)) ++ (List.range (k + 1)).flatMap es = ss ++ es k := by rw [hes, hss, List.append_assoc]
      rw [← hss] at hov
      clear hss
      have hbl := hst.2.2
      have y0 := (hbl.cell (p := ⟨sb, off + k * 7, none⟩) (by exact hsb (by omega))).trans x0
      have y1 := (hbl.cell (p := ⟨sb, off + k * 7 + 1, none⟩) (by exact hsb (by omega))).trans x1
      have y2 := (hbl.cell (p := ⟨sb, off + k * 7 + 2, none⟩) (by exact hsb (by omega))).trans x2
      have y3 := (hbl.cell (p := ⟨sb, off + k * 7 + 3, none⟩) (by exact hsb (by omega))).trans x3
      have y4 := (hbl.cell (p := ⟨sb, off + k * 7 + 4, none⟩) (by exact hsb (by omega))).trans x4
      have y5 := (hbl.cell (p := ⟨sb, off + k * 7 + 5, none⟩) (by exact hsb (by omega))).trans x5
      have y6 := (hbl.cell (p := ⟨sb, off + k * 7 + 6, none⟩) (by exact hsb (by omega))).trans x6
      have hR := hrec k hkn
      have hnx : n ≤ 9000000000000000000 → True := fun _ => trivial
      generalize (f k).1 = a0 at y0 hR
      generalize (f k).2.1 = a1 at y1 hR
      generalize (f k).2.2.1 = a2 at y2 hR
      generalize (f k).2.2.2.1 = a3 at y3 hR
      generalize (f k).2.2.2.2.1.1 = a4 at y4 hR
      generalize (f k).2.2.2.2.1.2.1 = b4 at y4 hR
      generalize (f k).2.2.2.2.1.2.2 = c4 at y4 hR
      generalize (f k).2.2.2.2.2.1 = a5 at y5 hR
      generalize (f k).2.2.2.2.2.2.1 = a6 at y6 hR
      generalize (f k).2.2.2.2.2.2.2.1 = b6 at y6 hR
      generalize (f k).2.2.2.2.2.2.2.2 = c6 at y6 hR
      have hal := (RowKit.Below.refl wr.heap.size wr).alloc (Nat.le_refl _) (.cells #[.int .i64 a0, .int .i64 a1, .int .i64 a2, .string a3, .slice a4 b4 c4, .string a5, .slice a6 b6 c6] 27)
      have hst2 := hst.step (hal.mono hst.lt)
      go_wp2_with (go_at_call 11; refine (hR _ hst2.2.2).mono ?_)
      first | rintro e W3 v2 rfl ho2 hb3 | rintro e W3 ⟨v2, rfl, ho2, hb3⟩
      have hall := hal.trans (hb3.mono (by first | exact hal.size | exact Nat.le_succ _))
      have h3 := hst.step (hall.mono hst.lt)
      have hov3 := own_below hov hall
      rcases own_shape ho2 with ⟨rfl, hz2⟩ | ⟨g2, cap2, rfl, hc2, hm2⟩
      · have hez : es k = [] := List.eq_nil_of_length_eq_zero hz2
        rw [hez, List.append_nil] at hes2
        go_wp2_with (first
          | (at_builtin; refine wpList_append_none rfl _ _ 31 rfl _ rfl rfl (append_none_run _ Tryz.underlying31 hi hov3) ?_)
          | go_in)
        go_roundw
        case rel => exact ⟨k + 1, by omega, by go_num, by rw [hes2]; exact hov3, h3⟩
        case measure => simp [iOf]; omega
      · go_wp2_with (first
          | (at_builtin; refine wpList_append_own_at _ rfl _ _ 31 rfl (w.heap.size + 1) 9 i0 (.string ⟨#[]⟩) 1 16 Tryz.underlying31 hi hz0 hz1 hz2 rfl (by decide) _ _ _ rfl hov3 ⟨g2, 0, none⟩ (es k).length cap2 ((es k).map encStr) rfl ?ha ?hb ?hc ?hd ?he ?hf ?hg)
          | go_in)
        case ha => simp
        case hb => exact fun j u hu => ho2.cells (g := g2) rfl j u hu
        case hc => intro u hu; obtain ⟨x, _, rfl⟩ := List.mem_map.1 hu; rfl
        case hd => unfold maxLen; omega
        case he => omega
        case hf => exact h3.lt
        case hg =>
        intro v4 W4 hown4 hgrow4 hnil4 hloc4
        have hb4 := h3.step (grown_below hov3 hgrow4 h3.lt)
        have ho4 : OwnB W4 (w.heap.size + 1) v4 (([] : List (List UInt8)) ++ (List.range (k + 1)).flatMap es) := by
          unfold OwnB
          rw [hes2, List.length_append, List.map_append]
          exact hown4
        go_wp2
        go_roundw
        case rel => exact ⟨k + 1, by omega, by go_num, ho4, hb4⟩
        case measure => simp [iOf]; omega
    · have hkn : k = n := by omega
      subst hkn
      go_wp2_with (go_at_call 24; refine (sort_call hov hst.lt (by simp only [List.length_append, List.length_cons, List.length_nil]; omega)).mono ?_)
      first | rintro e W5 rfl ho5 hb5 | rintro e W5 ⟨rfl, ho5, hb5⟩
      have h5 := hst.step hb5
      go_wp2_with (go_at_call 25; refine (compact_call ho5 h5.lt (by rw [sortB_length]; simp only [List.length_append, List.length_cons, List.length_nil]; omega)).mono ?_)
      rintro e W6 ⟨v6, rfl, ho6, hb6⟩
      have h6 := h5.step hb6
      go_wp2
      go_ret
      exact ⟨_, rfl, own_base ho6 (by omega), h6.2.2⟩
end Go.Proofs.YtpfhkokjpmkbkaaGreatDoor

namespace Go.Proofs.YtpfhkokjpmkbkaaGreatDoor
open Go Esp Ev Pure
set_option linter.unusedSimpArgs false
set_option linter.unusedVariables false
set_option maxHeartbeats 2000000
set_option maxRecDepth 100000
structure Cl (m3 m4 mb : Nat) (S : List (List UInt8)) (n : Nat) (W : World) : Prop where
  h3 : W.heap[m3]? = some (.cells #[.map (some mb)] 47 (0, 0))
  h4 : W.heap[m4]? = some (.cells #[.func (.func 21) #[] #[.pointer (some ⟨m3, 0, none⟩), .pointer (some ⟨m4, 0, none⟩)]] 48 (0, 0))
  n3 : m3 ≠ mb
  n4 : m4 ≠ mb
  hm : ∃ D : DataW Unit, W.ownsMap Tryz.prog 9 (plainElem Tryz.prog 4) mb n D ∧ ∀ x, Maps.has D (.string x) = true ↔ x ∈ S
theorem Cl.calm {m3 m4 mb : Nat} {S : List (List UInt8)} {n : Nat} {W W' : World} (h : Cl m3 m4 mb S n W) (hg : W.grownBy W' none) : Cl m3 m4 mb S n W' := by
  obtain ⟨D, h1, h2⟩ := h.hm
  exact ⟨(hg.block _ (Array.getElem?_eq_some_iff.1 h.h3).1 (by simp)).trans h.h3, (hg.block _ (Array.getElem?_eq_some_iff.1 h.h4).1 (by simp)).trans h.h4, h.n3, h.n4, D, h1.kept hg (by simp), h2⟩
theorem Cl.mono {m3 m4 mb : Nat} {S : List (List UInt8)} {n n' : Nat} {W : World} (h : Cl m3 m4 mb S n W) (hn : n ≤ n') : Cl m3 m4 mb S n' W := by
  obtain ⟨D, h1, h2⟩ := h.hm
  exact ⟨h.h3, h.h4, h.n3, h.n4, D, h1.mono hn, h2⟩
theorem Cl.put {m3 m4 mb : Nat} {S : List (List UInt8)} {n : Nat} {W W' : World} (h : Cl m3 m4 mb S n W) (x : List UInt8) {D : DataW Unit} {u : DataW Unit} (h1 : W.ownsMap Tryz.prog 9 (plainElem Tryz.prog 4) mb n D) (h2 : ∀ x, Maps.has D (.string x) = true ↔ x ∈ S)
    (h3 : W'.ownsMap Tryz.prog 9 (plainElem Tryz.prog 4) mb (n + 1) (D.put (.string x) u)) (hg : W.grownBy W' (some mb)) : Cl m3 m4 mb (S ++ [x]) (n + 1) W' := by
  refine ⟨(hg.block _ (Array.getElem?_eq_some_iff.1 h.h3).1 (by simpa using h.n3)).trans h.h3, (hg.block _ (Array.getElem?_eq_some_iff.1 h.h4).1 (by simpa using h.n4)).trans h.h4, h.n3, h.n4, _, h3, fun y => ?_⟩
  by_cases e : y = x
  · subst e
    rw [Maps.has_put_same h1.isMap (by trivial)]
    simp
  · rw [Maps.has_put_other (by simpa using e), h2 y]
    simp [e]
theorem free12 (vk vn : Int) (vs : ByteArray) (vl : Value) (s : ByteArray) (w : World) (ao : Option Addr) (sb off n cap : Nat) (hao : n ≠ 0 → ao = some ⟨sb, off, none⟩) (f : Nat → Int × Int × Int × ByteArray × (Option Addr × Nat × Nat) × ByteArray × (Option Addr × Nat × Nat)) (es : Nat → List (List UInt8)) (ct : Nat → Nat)
    (m3 m4 mb : Nat) (S : List (List UInt8)) (c0 : Nat) (hsz : s.size ≤ maxLen)
    (hsb : n ≠ 0 → sb < w.heap.size ∧ sb ≠ mb) (hnn : n ≤ 2000000) (hlim : ∀ k, k ≤ n → ((List.range k).map ct).sum ≤ 2000000) (hc0 : c0 ≤ 2000000)
    (h0c : ∀ i, i < n → w.cell? ⟨sb, off + i * 7, none⟩ = some (.int .i64 (f i).1) ∧ w.cell? ⟨sb, off + i * 7 + 1, none⟩ = some (.int .i64 (f i).2.1) ∧ w.cell? ⟨sb, off + i * 7 + 2, none⟩ = some (.int .i64 (f i).2.2.1) ∧ w.cell? ⟨sb, off + i * 7 + 3, none⟩ = some (.string (f i).2.2.2.1) ∧
      w.cell? ⟨sb, off + i * 7 + 4, none⟩ = some (.slice (f i).2.2.2.2.1.1 (f i).2.2.2.2.1.2.1 (f i).2.2.2.2.1.2.2) ∧ w.cell? ⟨sb, off + i * 7 + 5, none⟩ = some (.string (f i).2.2.2.2.2.1) ∧ w.cell? ⟨sb, off + i * 7 + 6, none⟩ = some (.slice (f i).2.2.2.2.2.2.1 (f i).2.2.2.2.2.2.2.1 (f i).2.2.2.2.2.2.2.2))
    (hrec : ∀ i, i < n → ∀ W S' c', w.grownBy W (some mb) → c' ≤ c0 + 1 + ((List.range i).map ct).sum → Cl m3 m4 mb S' c' W → Calls Tryz.prog 21 #[.agg #[.int .i64 (f i).1, .int .i64 (f i).2.1, .int .i64 (f i).2.2.1, .string (f i).2.2.2.1, .slice (f i).2.2.2.2.1.1 (f i).2.2.2.2.1.2.1 (f i).2.2.2.2.1.2.2, .string (f i).2.2.2.2.2.1, .slice (f i).2.2.2.2.2.2.1 (f i).2.2.2.2.2.2.2.1 (f i).2.2.2.2.2.2.2.2], .pointer (some ⟨m3, 0, none⟩), .pointer (some ⟨m4, 0, none⟩)] W
      fun e w' => e = .returned (.tuple #[]) ∧ Cl m3 m4 mb (S' ++ es i) (c' + ct i) w' ∧ W.grownBy w' (some mb))
    (hcl : Cl m3 m4 mb S c0 w) :
    Calls Tryz.prog 21 #[.agg #[.int .i64 2, .int .i64 vk, .int .i64 vn, .string vs, vl, .string s, .slice ao n cap], .pointer (some ⟨m3, 0, none⟩), .pointer (some ⟨m4, 0, none⟩)] w fun e w' => e = .returned (.tuple #[]) ∧ Cl m3 m4 mb (S ++ ([s.data.toList] ++ (List.range n).flatMap es)) (c0 + (1 + ((List.range n).map ct).sum)) w' ∧ w.grownBy w' (some mb) := by
  have hbox : (w.alloc (.cells #[.int .i64 2, .int .i64 vk, .int .i64 vn, .string vs, vl, .string s, .slice ao n cap] 27)).heap[w.heap.size]? = some (.cells #[.int .i64 2, .int .i64 vk, .int .i64 vn, .string vs, vl, .string s, .slice ao n cap] 27 (0, 0)) := heap_alloc_new w _
  have hg0 := World.grownBy_alloc w (.cells #[.int .i64 2, .int .i64 vk, .int .i64 vn, .string vs, vl, .string s, .slice ao n cap] 27) none
  have hg1 := World.grownBy_alloc w (.cells #[.int .i64 2, .int .i64 vk, .int .i64 vn, .string vs, vl, .string s, .slice ao n cap] 27) (some mb)
  have hcl0 := hcl.calm hg0
  obtain ⟨D, hown, hD⟩ := hcl0.hm
  have hmb : mb < w.heap.size := by obtain ⟨D, h, _⟩ := hcl.hm; exact h.lt
  generalize hw0 : w.alloc (.cells #[.int .i64 2, .int .i64 vk, .int .i64 vn, .string vs, vl, .string s, .slice ao n cap] 27) = w0 at *
  have d3 : w0.cell? ⟨m3, 0, none⟩ = some (.map (some mb)) := by rw [Lib.cell_of_heap hcl0.h3]; rfl
  have e0 : w0.cell? ⟨w.heap.size, 0, none⟩ = some (.int .i64 2) := by rw [Lib.cell_of_heap hbox]; rfl
  have e5 : w0.cell? ⟨w.heap.size, 5, none⟩ = some (.string s) := by rw [Lib.cell_of_heap hbox]; rfl
  have e6 : w0.cell? ⟨w.heap.size, 6, none⟩ = some (.slice ao n cap) := by rw [Lib.cell_of_heap hbox]; rfl
  have hkey : keyOf Tryz.prog 9 (.string s) = some (.string s.data.toList) := by simp [keyOf, Tryz.underlying9, mapKey, hsz]
  have hlt0 : w.heap.size < w0.heap.size := (Array.getElem?_eq_some_iff.1 hbox).1
  have hne0 : some w.heap.size ≠ some mb := by simp; omega
  go_enter Tryz.func21, Tryz.ntmps21
  go_wp2_with (first
    | (at_mapUpdate; refine wpList_mapUpdate_own _ rfl _ _ _ 47 rfl 9 4 (Maps.string_keyed Tryz.underlying9) Tryz.underlying47 _ mb c0 D rfl hown (by unfold maxLen; omega) _ _ (.string s.data.toList) rfl rfl hkey (.lit (.bool true)) [] (plainElem_bool Tryz.underlying4 true) ?_; intro w1 hown1 hgrow1; have f6 : w1.cell? ⟨w.heap.size, 6, none⟩ = some (.slice ao n cap) := (World.cell?_of_block (hgrow1.block _ hlt0 hne0)).trans e6)
    | go_in)
  have hcl1 := hcl0.put s.data.toList hown hD hown1 hgrow1
  have hgr1 := hg1.trans hgrow1
  have hz1 := hgrow1.size
  have hbox1 := (hgrow1.block _ hlt0 hne0).trans hbox

  go_loopw [15] (fun i wr => ∃ k : Nat, k ≤ n ∧ i = .int .i64 k ∧ Cl m3 m4 mb (S ++ ([s.data.toList] ++ (List.range k).flatMap es)) (c0 + (1 + ((List.range k).map ct).sum)) wr ∧ w.grownBy wr (some mb) ∧ w.heap.size < wr.heap.size)
    (fun i _ => n - (iOf i).toNat)
  case atStart => exact ⟨0, Nat.zero_le _, rfl, by simpa using hcl1, hgr1, Nat.lt_of_lt_of_le hlt0 hz1⟩
  case round =>
    obtain ⟨k, hk, rfl, hst, hgr, hlt⟩ := hrel
    by_cases hkn : k < n
    · obtain rfl := hao (by omega)
      obtain ⟨x0, x1, x2, x3, x4, x5, x6⟩ := h0c k hkn
      have hb := hgr.block sb (hsb (by omega)).1 (by simpa using (hsb (by omega)).2)
      have y0 := (World.cell?_of_block (a := ⟨sb, off + k * 7, none⟩) hb).trans x0
      have y1 := (World.cell?_of_block (a := ⟨sb, off + k * 7 + 1, none⟩) hb).trans x1
      have y2 := (World.cell?_of_block (a := ⟨sb, off + k * 7 + 2, none⟩) hb).trans x2
      have y3 := (World.cell?_of_block (a := ⟨sb, off + k * 7 + 3, none⟩) hb).trans x3
      have y4 := (World.cell?_of_block (a := ⟨sb, off + k * 7 + 4, none⟩) hb).trans x4
      have y5 := (World.cell?_of_block (a := ⟨sb, off + k * 7 + 5, none⟩) hb).trans x5
      have y6 := (World.cell?_of_block (a := ⟨sb, off + k * 7 + 6, none⟩) hb).trans x6
      have hR := hrec k hkn
      have hes : (List.range (k + 1)).flatMap es = (List.range k).flatMap es ++ es k := by rw [List.range_succ, List.flatMap_append]; simp
      have hcs : ((List.range (k + 1)).map ct).sum = ((List.range k).map ct).sum + ct k := by rw [List.range_succ, List.map_append, List.sum_append]; simp
      obtain ⟨ss, hss⟩ : ∃ ss, ss = S ++ ([s.data.toList] ++ (List.range k).flatMap es) := ⟨_, rfl⟩
      obtain ⟨cc, hcc⟩ : ∃ cc, cc = c0 + (1 + ((List.range k).map ct).sum) := ⟨_, rfl⟩
      have hes2 : S ++ ([s.data.toList] ++ (List.range (k + 1)).flatMap es) = ss ++ es k := by rw [hes, hss]; simp only [List.append_assoc]
      have hcs2 : c0 + (1 + ((List.range (k + 1)).map ct).sum) = cc + ct k := by rw [hcs, hcc]; omega
      have hle : cc ≤ c0 + 1 + ((List.range k).map ct).sum := by omega
      rw [← hss, ← hcc] at hst
      clear hss hcc
      generalize (f k).1 = a0 at y0 hR
      generalize (f k).2.1 = a1 at y1 hR
      generalize (f k).2.2.1 = a2 at y2 hR
      generalize (f k).2.2.2.1 = a3 at y3 hR
      generalize (f k).2.2.2.2.1.1 = a4 at y4 hR
      generalize (f k).2.2.2.2.1.2.1 = b4 at y4 hR
      generalize (f k).2.2.2.2.1.2.2 = c4 at y4 hR
      generalize (f k).2.2.2.2.2.1 = a5 at y5 hR
      generalize (f k).2.2.2.2.2.2.1 = a6 at y6 hR
      generalize (f k).2.2.2.2.2.2.2.1 = b6 at y6 hR
      generalize (f k).2.2.2.2.2.2.2.2 = c6 at y6 hR
      have hst2 := hst.calm (World.grownBy_alloc wr (.cells #[.int .i64 a0, .int .i64 a1, .int .i64 a2, .string a3, .slice a4 b4 c4, .string a5, .slice a6 b6 c6] 27) none)
      have hgr2 := hgr.trans (World.grownBy_alloc wr (.cells #[.int .i64 a0, .int .i64 a1, .int .i64 a2, .string a3, .slice a4 b4 c4, .string a5, .slice a6 b6 c6] 27) (some mb))
      have hz4 := (World.grownBy_alloc wr (.cells #[.int .i64 a0, .int .i64 a1, .int .i64 a2, .string a3, .slice a4 b4 c4, .string a5, .slice a6 b6 c6] 27) (some mb)).size
      have g4 : (wr.alloc (.cells #[.int .i64 a0, .int .i64 a1, .int .i64 a2, .string a3, .slice a4 b4 c4, .string a5, .slice a6 b6 c6] 27)).cell? ⟨m4, 0, none⟩ = some (.func (.func 21) #[] #[.pointer (some ⟨m3, 0, none⟩), .pointer (some ⟨m4, 0, none⟩)]) := by rw [Lib.cell_of_heap hst2.h4]; rfl
      go_wp2_with (go_at_call 21; refine (hR _ _ _ hgr2 hle hst2).mono ?_)
      first | rintro e W3 rfl hc3 hg3 | rintro e W3 ⟨rfl, hc3, hg3⟩
      go_wp2
      go_roundw
      case rel => exact ⟨k + 1, by omega, by go_num, by rw [hes2, hcs2]; exact hc3, hgr2.trans hg3, by have := hg3.size; omega⟩
      case measure => simp [iOf]; omega
    · have hkn : k = n := by omega
      subst hkn
      go_wp2
      go_end0
      exact ⟨rfl, hst, hgr⟩
theorem free1N (kk : Int) (hk2 : kk ≠ 2) (vk vn : Int) (vs : ByteArray) (vl : Value) (s : ByteArray) (w : World) (ao : Option Addr) (sb off n cap : Nat) (hao : n ≠ 0 → ao = some ⟨sb, off, none⟩) (f : Nat → Int × Int × Int × ByteArray × (Option Addr × Nat × Nat) × ByteArray × (Option Addr × Nat × Nat)) (es : Nat → List (List UInt8)) (ct : Nat → Nat)
    (m3 m4 mb : Nat) (S : List (List UInt8)) (c0 : Nat) (hsz : s.size ≤ maxLen)
    (hsb : n ≠ 0 → sb < w.heap.size ∧ sb ≠ mb) (hnn : n ≤ 2000000) (hlim : ∀ k, k ≤ n → ((List.range k).map ct).sum ≤ 2000000) (hc0 : c0 ≤ 2000000)
    (h0c : ∀ i, i < n → w.cell? ⟨sb, off + i * 7, none⟩ = some (.int .i64 (f i).1) ∧ w.cell? ⟨sb, off + i * 7 + 1, none⟩ = some (.int .i64 (f i).2.1) ∧ w.cell? ⟨sb, off + i * 7 + 2, none⟩ = some (.int .i64 (f i).2.2.1) ∧ w.cell? ⟨sb, off + i * 7 + 3, none⟩ = some (.string (f i).2.2.2.1) ∧
      w.cell? ⟨sb, off + i * 7 + 4, none⟩ = some (.slice (f i).2.2.2.2.1.1 (f i).2.2.2.2.1.2.1 (f i).2.2.2.2.1.2.2) ∧ w.cell? ⟨sb, off + i * 7 + 5, none⟩ = some (.string (f i).2.2.2.2.2.1) ∧ w.cell? ⟨sb, off + i * 7 + 6, none⟩ = some (.slice (f i).2.2.2.2.2.2.1 (f i).2.2.2.2.2.2.2.1 (f i).2.2.2.2.2.2.2.2))
    (hrec : ∀ i, i < n → ∀ W S' c', w.grownBy W (some mb) → c' ≤ c0 + 1 + ((List.range i).map ct).sum → Cl m3 m4 mb S' c' W → Calls Tryz.prog 21 #[.agg #[.int .i64 (f i).1, .int .i64 (f i).2.1, .int .i64 (f i).2.2.1, .string (f i).2.2.2.1, .slice (f i).2.2.2.2.1.1 (f i).2.2.2.2.1.2.1 (f i).2.2.2.2.1.2.2, .string (f i).2.2.2.2.2.1, .slice (f i).2.2.2.2.2.2.1 (f i).2.2.2.2.2.2.2.1 (f i).2.2.2.2.2.2.2.2], .pointer (some ⟨m3, 0, none⟩), .pointer (some ⟨m4, 0, none⟩)] W
      fun e w' => e = .returned (.tuple #[]) ∧ Cl m3 m4 mb (S' ++ es i) (c' + ct i) w' ∧ W.grownBy w' (some mb))
    (hcl : Cl m3 m4 mb S c0 w) :
    Calls Tryz.prog 21 #[.agg #[.int .i64 kk, .int .i64 vk, .int .i64 vn, .string vs, vl, .string s, .slice ao n cap], .pointer (some ⟨m3, 0, none⟩), .pointer (some ⟨m4, 0, none⟩)] w fun e w' => e = .returned (.tuple #[]) ∧ Cl m3 m4 mb (S ++ (([] : List (List UInt8)) ++ (List.range n).flatMap es)) (c0 + (1 + ((List.range n).map ct).sum)) w' ∧ w.grownBy w' (some mb) := by
  have hbox : (w.alloc (.cells #[.int .i64 kk, .int .i64 vk, .int .i64 vn, .string vs, vl, .string s, .slice ao n cap] 27)).heap[w.heap.size]? = some (.cells #[.int .i64 kk, .int .i64 vk, .int .i64 vn, .string vs, vl, .string s, .slice ao n cap] 27 (0, 0)) := heap_alloc_new w _
  have hg0 := World.grownBy_alloc w (.cells #[.int .i64 kk, .int .i64 vk, .int .i64 vn, .string vs, vl, .string s, .slice ao n cap] 27) none
  have hg1 := World.grownBy_alloc w (.cells #[.int .i64 kk, .int .i64 vk, .int .i64 vn, .string vs, vl, .string s, .slice ao n cap] 27) (some mb)
  have hcl0 := hcl.calm hg0
  obtain ⟨D, hown, hD⟩ := hcl0.hm
  have hmb : mb < w.heap.size := by obtain ⟨D, h, _⟩ := hcl.hm; exact h.lt
  generalize hw0 : w.alloc (.cells #[.int .i64 kk, .int .i64 vk, .int .i64 vn, .string vs, vl, .string s, .slice ao n cap] 27) = w0 at *
  have d3 : w0.cell? ⟨m3, 0, none⟩ = some (.map (some mb)) := by rw [Lib.cell_of_heap hcl0.h3]; rfl
  have e0 : w0.cell? ⟨w.heap.size, 0, none⟩ = some (.int .i64 kk) := by rw [Lib.cell_of_heap hbox]; rfl
  have e5 : w0.cell? ⟨w.heap.size, 5, none⟩ = some (.string s) := by rw [Lib.cell_of_heap hbox]; rfl
  have e6 : w0.cell? ⟨w.heap.size, 6, none⟩ = some (.slice ao n cap) := by rw [Lib.cell_of_heap hbox]; rfl
  have hkey : keyOf Tryz.prog 9 (.string s) = some (.string s.data.toList) := by simp [keyOf, Tryz.underlying9, mapKey, hsz]
  have hlt0 : w.heap.size < w0.heap.size := (Array.getElem?_eq_some_iff.1 hbox).1
  have hne0 : some w.heap.size ≠ some mb := by simp; omega
  go_enter Tryz.func21, Tryz.ntmps21
  have hcl1 : Cl m3 m4 mb S (c0 + 1) w0 := hcl0.mono (by omega)
  have hgr1 := hg1
  have hz1 : w0.heap.size ≤ w0.heap.size := Nat.le_refl _
  go_wp2
  rw [show (kk == 2) = false by simpa using hk2]

  go_loopw [15] (fun i wr => ∃ k : Nat, k ≤ n ∧ i = .int .i64 k ∧ Cl m3 m4 mb (S ++ (([] : List (List UInt8)) ++ (List.range k).flatMap es)) (c0 + (1 + ((List.range k).map ct).sum)) wr ∧ w.grownBy wr (some mb) ∧ w.heap.size < wr.heap.size)
    (fun i _ => n - (iOf i).toNat)
  case atStart => exact ⟨0, Nat.zero_le _, rfl, by simpa using hcl1, hgr1, Nat.lt_of_lt_of_le hlt0 hz1⟩
  case round =>
    obtain ⟨k, hk, rfl, hst, hgr, hlt⟩ := hrel
    by_cases hkn : k < n
    · obtain rfl := hao (by omega)
      obtain ⟨x0, x1, x2, x3, x4, x5, x6⟩ := h0c k hkn
      have hb := hgr.block sb (hsb (by omega)).1 (by simpa using (hsb (by omega)).2)
      have y0 := (World.cell?_of_block (a := ⟨sb, off + k * 7, none⟩) hb).trans x0
      have y1 := (World.cell?_of_block (a := ⟨sb, off + k * 7 + 1, none⟩) hb).trans x1
      have y2 := (World.cell?_of_block (a := ⟨sb, off + k * 7 + 2, none⟩) hb).trans x2
      have y3 := (World.cell?_of_block (a := ⟨sb, off + k * 7 + 3, none⟩) hb).trans x3
      have y4 := (World.cell?_of_block (a := ⟨sb, off + k * 7 + 4, none⟩) hb).trans x4
      have y5 := (World.cell?_of_block (a := ⟨sb, off + k * 7 + 5, none⟩) hb).trans x5
      have y6 := (World.cell?_of_block (a := ⟨sb, off + k * 7 + 6, none⟩) hb).trans x6
      have hR := hrec k hkn
      have hes : (List.range (k + 1)).flatMap es = (List.range k).flatMap es ++ es k := by rw [List.range_succ, List.flatMap_append]; simp
      have hcs : ((List.range (k + 1)).map ct).sum = ((List.range k).map ct).sum + ct k := by rw [List.range_succ, List.map_append, List.sum_append]; simp
      obtain ⟨ss, hss⟩ : ∃ ss, ss = S ++ (([] : List (List UInt8)) ++ (List.range k).flatMap es) := ⟨_, rfl⟩
      obtain ⟨cc, hcc⟩ : ∃ cc, cc = c0 + (1 + ((List.range k).map ct).sum) := ⟨_, rfl⟩
      have hes2 : S ++ (([] : List (List UInt8)) ++ (List.range (k + 1)).flatMap es) = ss ++ es k := by rw [hes, hss]; simp only [List.append_assoc]
      have hcs2 : c0 + (1 + ((List.range (k + 1)).map ct).sum) = cc + ct k := by rw [hcs, hcc]; omega
      have hle : cc ≤ c0 + 1 + ((List.range k).map ct).sum := by omega
      rw [← hss, ← hcc] at hst
      clear hss hcc
      generalize (f k).1 = a0 at y0 hR
      generalize (f k).2.1 = a1 at y1 hR
      generalize (f k).2.2.1 = a2 at y2 hR
      generalize (f k).2.2.2.1 = a3 at y3 hR
      generalize (f k).2.2.2.2.1.1 = a4 at y4 hR
      generalize (f k).2.2.2.2.1.2.1 = b4 at y4 hR
      generalize (f k).2.2.2.2.1.2.2 = c4 at y4 hR
      generalize (f k).2.2.2.2.2.1 = a5 at y5 hR
      generalize (f k).2.2.2.2.2.2.1 = a6 at y6 hR
      generalize (f k).2.2.2.2.2.2.2.1 = b6 at y6 hR
      generalize (f k).2.2.2.2.2.2.2.2 = c6 at y6 hR
      have hst2 := hst.calm (World.grownBy_alloc wr (.cells #[.int .i64 a0, .int .i64 a1, .int .i64 a2, .string a3, .slice a4 b4 c4, .string a5, .slice a6 b6 c6] 27) none)
      have hgr2 := hgr.trans (World.grownBy_alloc wr (.cells #[.int .i64 a0, .int .i64 a1, .int .i64 a2, .string a3, .slice a4 b4 c4, .string a5, .slice a6 b6 c6] 27) (some mb))
      have hz4 := (World.grownBy_alloc wr (.cells #[.int .i64 a0, .int .i64 a1, .int .i64 a2, .string a3, .slice a4 b4 c4, .string a5, .slice a6 b6 c6] 27) (some mb)).size
      have g4 : (wr.alloc (.cells #[.int .i64 a0, .int .i64 a1, .int .i64 a2, .string a3, .slice a4 b4 c4, .string a5, .slice a6 b6 c6] 27)).cell? ⟨m4, 0, none⟩ = some (.func (.func 21) #[] #[.pointer (some ⟨m3, 0, none⟩), .pointer (some ⟨m4, 0, none⟩)]) := by rw [Lib.cell_of_heap hst2.h4]; rfl
      go_wp2_with (go_at_call 21; refine (hR _ _ _ hgr2 hle hst2).mono ?_)
      first | rintro e W3 rfl hc3 hg3 | rintro e W3 ⟨rfl, hc3, hg3⟩
      go_wp2
      go_roundw
      case rel => exact ⟨k + 1, by omega, by go_num, by rw [hes2, hcs2]; exact hc3, hgr2.trans hg3, by have := hg3.size; omega⟩
      case measure => simp [iOf]; omega
    · have hkn : k = n := by omega
      subst hkn
      go_wp2
      go_end0
      exact ⟨rfl, hst, hgr⟩
end Go.Proofs.YtpfhkokjpmkbkaaGreatDoor

/- term.Free and the law's freeOf of any term; their contracts. -/
namespace Go.Proofs.YtpfhkokjpmkbkaaGreatDoor
open Go Esp Ev Pure
set_option linter.unusedSimpArgs false
set_option linter.unusedVariables false
set_option maxHeartbeats 2000000
set_option maxRecDepth 100000
theorem term_row {w : World} {F : Nat → Prop} {l : List Term} {al : Value} (h : RelD w F (.nl .term l) al) : ∃ ao sb off cap, ∃ f : Nat → Int × Int × Int × ByteArray × (Option Addr × Nat × Nat) × ByteArray × (Option Addr × Nat × Nat), al = .slice ao l.length cap ∧ (l.length ≠ 0 → ao = some ⟨sb, off, none⟩) ∧ (l.length ≠ 0 → F sb) ∧
    (∀ i, i < l.length → w.cell? ⟨sb, off + i * 7, none⟩ = some (.int .i64 (f i).1) ∧ w.cell? ⟨sb, off + i * 7 + 1, none⟩ = some (.int .i64 (f i).2.1) ∧ w.cell? ⟨sb, off + i * 7 + 2, none⟩ = some (.int .i64 (f i).2.2.1) ∧ w.cell? ⟨sb, off + i * 7 + 3, none⟩ = some (.string (f i).2.2.2.1) ∧
      w.cell? ⟨sb, off + i * 7 + 4, none⟩ = some (.slice (f i).2.2.2.2.1.1 (f i).2.2.2.2.1.2.1 (f i).2.2.2.2.1.2.2) ∧ w.cell? ⟨sb, off + i * 7 + 5, none⟩ = some (.string (f i).2.2.2.2.2.1) ∧ w.cell? ⟨sb, off + i * 7 + 6, none⟩ = some (.slice (f i).2.2.2.2.2.2.1 (f i).2.2.2.2.2.2.2.1 (f i).2.2.2.2.2.2.2.2)) ∧
    ∀ i, i < l.length → (f i).1 = (nthT l i).kind ∧ (f i).2.1 = (nthT l i).v.kind ∧ (f i).2.2.1 = (nthT l i).v.n ∧ (f i).2.2.2.1 = (nthT l i).v.s ∧ (f i).2.2.2.2.2.1 = (nthT l i).name ∧ RelD w F (.nl .term (nthT l i).a) (.slice (f i).2.2.2.2.2.2.1 (f i).2.2.2.2.2.2.2.1 (f i).2.2.2.2.2.2.2.2) := by
  obtain ⟨ao, sb, off, cap, e, h1, h2, h3⟩ := nl_cells h
  have hc : ∀ i, i < l.length → ∀ j x, (cTerm (nthT l i))[j]? = some x → ∃ c, w.cell? ⟨sb, off + (i * 7 + j), none⟩ = some c ∧ RelD w F x c := by
    intro i hi j x hx
    have hj : j < 7 := (List.getElem?_eq_some_iff.1 hx).1
    obtain ⟨x', c, q1, q2, q3⟩ := h3 i hi j hj
    rw [nthT_get hi] at hx
    have : (cells .term l[i])[j]? = (cTerm l[i])[j]? := rfl
    rw [this, hx] at q1
    cases q1
    exact ⟨c, q2, q3⟩
  have k : ∀ i, ∃ u : (Option Addr × Nat × Nat) × (Option Addr × Nat × Nat), i < l.length → w.cell? ⟨sb, off + (i * 7 + 4), none⟩ = some (.slice u.1.1 u.1.2.1 u.1.2.2) ∧ w.cell? ⟨sb, off + (i * 7 + 6), none⟩ = some (.slice u.2.1 u.2.2.1 u.2.2.2) ∧ RelD w F (.nl .term (nthT l i).a) (.slice u.2.1 u.2.2.1 u.2.2.2) := fun i => by
    by_cases hi : i < l.length
    · obtain ⟨c, q1, q2⟩ := hc i hi 4 _ rfl
      obtain ⟨p, q, r, e⟩ := nl_slice q2
      obtain ⟨c', q1', q2'⟩ := hc i hi 6 _ rfl
      obtain ⟨p', q', r', e'⟩ := nl_slice q2'
      subst e e'
      exact ⟨((p, q, r), (p', q', r')), fun _ => ⟨q1, q1', q2'⟩⟩
    · exact ⟨((none, 0, 0), (none, 0, 0)), fun h => absurd h hi⟩
  obtain ⟨U, hU⟩ := Classical.axiomOfChoice k
  refine ⟨ao, sb, off, cap, fun i => ((nthT l i).kind, (nthT l i).v.kind, (nthT l i).v.n, (nthT l i).v.s, (U i).1, (nthT l i).name, (U i).2), e, h1, h2, fun i hi => ?_, fun i hi => ⟨rfl, rfl, rfl, rfl, rfl, (hU i hi).2.2⟩⟩
  have g : ∀ j u, (cTerm (nthT l i))[j]? = some (.sc u) → w.cell? ⟨sb, off + (i * 7 + j), none⟩ = some u := fun j u hx => by
    obtain ⟨c, q1, q2⟩ := hc i hi j _ hx
    rw [sc_inv q2] at q1
    exact q1
  exact ⟨g 0 _ rfl, g 1 _ rfl, g 2 _ rfl, g 3 _ rfl, (hU i hi).1, g 5 _ rfl, (hU i hi).2.1⟩
def tArg (t : Term) (vl al : Value) : Value := .agg #[.int .i64 t.kind, .int .i64 t.v.kind, .int .i64 t.v.n, .string t.v.s, vl, .string t.name, al]
theorem freeOf_calls : ∀ (N : Nat) (t : Term), cntT t ≤ N → cntT t ≤ 1900000 → ∀ (F : Nat → Prop) (w : World) (vl al : Value), (∀ b, F b → b < w.heap.size) → RelD w F (.nl .term t.a) al →
    Calls Tryz.prog 11 #[tArg t vl al] w fun e w' => ∃ v, e = .returned v ∧ OwnB w' w.heap.size v (freeR t) ∧ RowKit.Below w.heap.size w w' := by
  intro N
  induction N with
  | zero => intro t h; have := cnt_pos t; omega
  | succ N ih =>
    intro t hN hM F w vl al hF hal
    cases t with
    | mk k v s a =>
    have hal : RelD w F (.nl .term a) al := hal
    rw [cntT] at hN hM
    obtain ⟨ao, sb, off, cap, f, rfl, h1, h2, h3, h4⟩ := term_row hal
    have hlen := cntTs_len a
    have hrec : ∀ i, i < a.length → ∀ W, RowKit.Below w.heap.size w W → Calls Tryz.prog 11 #[.agg #[.int .i64 (f i).1, .int .i64 (f i).2.1, .int .i64 (f i).2.2.1, .string (f i).2.2.2.1, .slice (f i).2.2.2.2.1.1 (f i).2.2.2.2.1.2.1 (f i).2.2.2.2.1.2.2, .string (f i).2.2.2.2.2.1, .slice (f i).2.2.2.2.2.2.1 (f i).2.2.2.2.2.2.2.1 (f i).2.2.2.2.2.2.2.2]] W
      fun e w' => ∃ v, e = .returned v ∧ OwnB w' W.heap.size v (freeR (nthT a i)) ∧ RowKit.Below W.heap.size W w' := by
      intro i hi W hb
      obtain ⟨q1, q2, q3, q4, q5, q6⟩ := h4 i hi
      have hcn := cntT_nth hi
      have := ih (nthT a i) (by omega) (by omega) F W (.slice (f i).2.2.2.2.1.1 (f i).2.2.2.2.1.2.1 (f i).2.2.2.2.1.2.2) _ (fun b hb' => Nat.lt_of_lt_of_le (hF b hb') hb.size) (q6.mono (fun b hf => hb.block b (hF b hf)) fun _ h => h)
      unfold tArg at this
      rw [← q1, ← q2, ← q3, ← q4, ← q5] at this
      exact this
    have hfl : (List.range a.length).flatMap (fun i => freeR (nthT a i)) = freeRs a := by rw [range_flat freeR a, freeRs_flat]
    have hfle := freeRs_le a
    rw [freeR]
    by_cases hk : k = 2
    · subst hk
      have := wlk2 v.kind v.n v.s vl s w ao sb off a.length cap h1 f (fun i => freeR (nthT a i)) (fun h => hF _ (h2 h)) (by omega) (by rw [hfl]; omega) h3 hrec
      rw [hfl] at this
      rw [if_pos rfl]
      exact this
    · have := wlkN k hk v.kind v.n v.s vl s w ao sb off a.length cap h1 f (fun i => freeR (nthT a i)) (fun h => hF _ (h2 h)) (by omega) (by rw [hfl]; omega) h3 hrec
      rw [hfl] at this
      rw [if_neg hk]
      exact this
theorem free1_calls : ∀ (N : Nat) (t : Term), cntT t ≤ N → nmOk t → ∀ (F : Nat → Prop) (w : World) (vl al : Value) (m3 m4 mb : Nat) (S : List (List UInt8)) (c0 : Nat), c0 + cntT t ≤ 1900000 → (∀ b, F b → b < w.heap.size ∧ b ≠ mb) → RelD w F (.nl .term t.a) al → Cl m3 m4 mb S c0 w →
    Calls Tryz.prog 21 #[tArg t vl al, .pointer (some ⟨m3, 0, none⟩), .pointer (some ⟨m4, 0, none⟩)] w fun e w' => e = .returned (.tuple #[]) ∧ Cl m3 m4 mb (S ++ namesT t) (c0 + cntT t) w' ∧ w.grownBy w' (some mb) := by
  intro N
  induction N with
  | zero => intro t h; have := cnt_pos t; omega
  | succ N ih =>
    intro t hN hok F w vl al m3 m4 mb S c0 hM hF hal hcl
    cases t with
    | mk k v s a =>
    have hal : RelD w F (.nl .term a) al := hal
    rw [cntT] at hN hM
    rw [nmOk] at hok
    obtain ⟨ao, sb, off, cap, f, rfl, h1, h2, h3, h4⟩ := term_row hal
    have hlen := cntTs_len a
    have hrec : ∀ i, i < a.length → ∀ W S' c', w.grownBy W (some mb) → c' ≤ c0 + 1 + ((List.range i).map (fun i => cntT (nthT a i))).sum → Cl m3 m4 mb S' c' W → Calls Tryz.prog 21 #[.agg #[.int .i64 (f i).1, .int .i64 (f i).2.1, .int .i64 (f i).2.2.1, .string (f i).2.2.2.1, .slice (f i).2.2.2.2.1.1 (f i).2.2.2.2.1.2.1 (f i).2.2.2.2.1.2.2, .string (f i).2.2.2.2.2.1, .slice (f i).2.2.2.2.2.2.1 (f i).2.2.2.2.2.2.2.1 (f i).2.2.2.2.2.2.2.2], .pointer (some ⟨m3, 0, none⟩), .pointer (some ⟨m4, 0, none⟩)] W
      fun e w' => e = .returned (.tuple #[]) ∧ Cl m3 m4 mb (S' ++ namesT (nthT a i)) (c' + cntT (nthT a i)) w' ∧ W.grownBy w' (some mb) := by
      intro i hi W S' c' hb hc' hcl'
      obtain ⟨q1, q2, q3, q4, q5, q6⟩ := h4 i hi
      have hcn := cntT_nth hi
      have := ih (nthT a i) (by omega) (nmOks_nth hok.2 hi) F W (.slice (f i).2.2.2.2.1.1 (f i).2.2.2.2.1.2.1 (f i).2.2.2.2.1.2.2) _ m3 m4 mb S' c' (by omega) (fun b hb' => ⟨Nat.lt_of_lt_of_le (hF b hb').1 hb.size, (hF b hb').2⟩) (q6.mono (fun b hf => hb.block b (hF b hf).1 (by simpa using (hF b hf).2)) fun _ h => h) hcl'
      unfold tArg at this
      rw [← q1, ← q2, ← q3, ← q4, ← q5] at this
      exact this
    have hfl : (List.range a.length).flatMap (fun i => namesT (nthT a i)) = namesTs a := by rw [range_flat namesT a, namesTs_flat]
    have hcl2 := cntTs_all a
    have hlim : ∀ k, k ≤ a.length → ((List.range k).map (fun i => cntT (nthT a i))).sum ≤ 2000000 := fun k hk => by have := cntTs_take a k hk; omega
    rw [namesT, cntT, Nat.add_comm (cntTs a) 1]
    by_cases hk : k = 2
    · subst hk
      have := free12 v.kind v.n v.s vl s w ao sb off a.length cap h1 f (fun i => namesT (nthT a i)) (fun i => cntT (nthT a i)) m3 m4 mb S c0 hok.1 (fun h => hF _ (h2 h)) (by omega) hlim (by omega) h3 hrec hcl
      rw [hfl, hcl2] at this
      rw [if_pos rfl]
      exact this
    · have := free1N k hk v.kind v.n v.s vl s w ao sb off a.length cap h1 f (fun i => namesT (nthT a i)) (fun i => cntT (nthT a i)) m3 m4 mb S c0 hok.1 (fun h => hF _ (h2 h)) (by omega) hlim (by omega) h3 hrec hcl
      rw [hfl, hcl2] at this
      rw [if_neg hk]
      exact this
section
open Go.RowKit Go.Maps Go.Sort Go.Shelf
set_option linter.unusedSimpArgs false
set_option linter.unusedVariables false
theorem It.sorts22 (m : Nat) : AnyZ.SortsIn Tryz.prog Tryz.sortedL_ren Fence.wide m :=
  ⟨fun blk off cap ss W hH hblk hsz => callsIn_wide.2 (AnyM.slices_Sort_string Tryz.sortL blk off cap ss W hH hblk hsz),
   fun p cap W => callsIn_wide.2 (AnyM.slices_Sort_string_none Tryz.sortL p cap W)⟩

theorem It.maps_Keys_23 (mb : Option Nat) (W : World) : CallsIn Fence.wide 5 Tryz.prog 23 #[.map mb] W fun e w' => e = .returned (.func (.func 36) #[] #[.pointer (some ⟨W.heap.size, 0, none⟩)]) ∧ w' = W.alloc (.cells #[.map mb] 47) :=
  AnyZ.keys_in Tryz.keysL Fence.wide 5 trivial rfl mb W

set_option maxHeartbeats 1000000 in
theorem It.slices_Sorted_keys_22_23 {H : Type} (b nn : Nat) (D0 : DataW H) (R : Value → Option (DataW H × List MemPlace)) (w : World) (hown : w.ownsMap Tryz.prog 9 R b nn D0) (hmax : Maps.size D0 ≤ maxLen) (hbytes : Maps.size D0 * 16 ≤ 140737488355328) :
    CallsIn Fence.wide 5 Tryz.prog 22 #[.func (.func 36) #[] #[.pointer (some ⟨w.heap.size, 0, none⟩)]] (w.alloc (.cells #[.map (some b)] 47)) fun e w' => ∃ (v : Value) (ss : List (List UInt8)), e = .returned v ∧ ss.Perm (strKeys D0) ∧
      w'.ownsRow (w.alloc (.cells #[.map (some b)] 47)).heap.size 9 1 v ss.length ((ss.mergeSort (fun x y => decide (x ≤ y))).map encStr) ∧ (v = .slice none 0 0 ↔ ss = []) ∧ Below (w.alloc (.cells #[.map (some b)] 47)).heap.size (w.alloc (.cells #[.map (some b)] 47)) w' := by
  have hbl := hown.lt
  have hseq : SeqGives Fence.wide 2 Tryz.prog 36 #[.pointer (some ⟨w.heap.size, 0, none⟩)] encStr (fun ss => ss.Perm (strKeys D0)) (Maps.size D0) (w.alloc (.cells #[.map (some b)] 47)) :=
    AnyZ.keys_gives (ρ := Tryz.keysL_ren) { Tryz.keysL with } Fence.wide _ trivial rfl (by omega) w.heap.size b nn D0 _ (by simp) (by simp) (by
      obtain ⟨es, clock, hb, Ft, hs, hD⟩ := hown
      exact ⟨es, clock, (Below.heap_alloc _ _ b hbl).trans hb, Ft, hs, hD⟩)
  exact AnyZ.sorted_in Tryz.sortedL Fence.wide 5 trivial trivial trivial trivial rfl (by omega) (It.sorts22 _) (enters_of Tryz.func24 (by kernel_rfl) rfl) 36 #[.pointer (some ⟨w.heap.size, 0, none⟩)] trivial (enters_of Tryz.func36 (by kernel_rfl) rfl) _ _ hmax hbytes _ hseq

end
theorem keys_sorted {w : World} {mb n : Nat} {D : DataW Unit} (h : w.ownsMap Tryz.prog 9 (plainElem Tryz.prog 4) mb n D) {S : List (List UInt8)} (hS : ∀ x, Maps.has D (.string x) = true ↔ x ∈ S) {ss : List (List UInt8)} (hp : ss.Perm (strKeys D)) :
    ss.mergeSort (fun x y => decide (x ≤ y)) = Lib.compact (sortB S) := by
  have hc := compact_sort S
  have hnd : (Lib.compact (sortB S)).Nodup := hc.1.imp fun {a b} h e => by subst e; exact List.lt_irrefl _ h
  have hcol : Collected D (fun _ => false) (Lib.compact (sortB S)) := ⟨hnd, fun x => by rw [hc.2 x, hS x]; simp⟩
  have hp2 := hcol.perm h (Maps.string_keyed Tryz.underlying9) Tryz.underlying9 (fun _ => rfl)
  have e := mergeSort_of_perm (hp.trans hp2.symm)
  have e2 : (Lib.compact (sortB S)).mergeSort Go.leB = Lib.compact (sortB S) := by
    refine List.mergeSort_of_pairwise (hc.1.imp fun {a b} h => ?_)
    simp only [Go.leB, decide_eq_true_eq]
    exact List.le_of_lt h
  exact e.trans e2
theorem free_calls (t : Term) (hM : cntT t ≤ 1900000) (hok : nmOk t) (F : Nat → Prop) (w : World) (vl al : Value) (hF : ∀ b, F b → b < w.heap.size) (hal : RelD w F (.nl .term t.a) al) :
    Calls Tryz.prog 10 #[tArg t vl al] w fun e w' => ∃ v, e = .returned v ∧ OwnB w' w.heap.size v (Lib.compact (sortB (namesT t))) ∧ RowKit.Below w.heap.size w w' := by
  have hmm := @Go.RowKit.run_makeMap Tryz.prog
  obtain ⟨n, hn⟩ : ∃ n, n = w.heap.size := ⟨_, rfl⟩
  let w1 := w.alloc (.cells #[.int .i64 t.kind, .int .i64 t.v.kind, .int .i64 t.v.n, .string t.v.s, vl, .string t.name, al] 27)
  let w2 := w1.alloc (.map #[] 0)
  let w3 := w2.alloc (.cells #[.map (some (w.heap.size + 1))] 47)
  let w4 := w3.alloc (.cells #[.func (.func 21) #[] #[.pointer (some ⟨w.heap.size + 1 + 1, 0, none⟩), .pointer (some ⟨w.heap.size + 1 + 1 + 1, 0, none⟩)]] 48)
  have z1 : w1.heap.size = w.heap.size + 1 := Array.size_push ..
  have z2 : w2.heap.size = w.heap.size + 1 + 1 := (Array.size_push ..).trans (by rw [z1])
  have z3 : w3.heap.size = w.heap.size + 1 + 1 + 1 := (Array.size_push ..).trans (by rw [z2])
  have z4 : w4.heap.size = w.heap.size + 1 + 1 + 1 + 1 := (Array.size_push ..).trans (by rw [z3])
  have b1 : RowKit.Below w.heap.size w w1 := (RowKit.Below.refl _ w).alloc (Nat.le_refl _) _
  have b2 : RowKit.Below w.heap.size w w2 := b1.alloc (by omega) _
  have b3 : RowKit.Below w.heap.size w w3 := b2.alloc (by omega) _
  have b4 : RowKit.Below w.heap.size w w4 := b3.alloc (by omega) _
  have m2 : w2.ownsMap Tryz.prog 9 (plainElem Tryz.prog 4) (w.heap.size + 1) 0 (.map [] : DataW Unit) := by
    have := World.ownsMap_made (H := Unit) w1 Tryz.prog 9 (plainElem Tryz.prog 4)
    rw [z1] at this
    exact this
  have g3 : w2.grownBy w3 none := World.grownBy_alloc _ _ _
  have g4 : w3.grownBy w4 none := World.grownBy_alloc _ _ _
  have h3 : w3.heap[w.heap.size + 1 + 1]? = some (.cells #[.map (some (w.heap.size + 1))] 47 (0, 0)) := by
    have := heap_alloc_new w2 (.cells #[.map (some (w.heap.size + 1))] 47)
    rw [z2] at this
    exact this
  have h4 : w4.heap[w.heap.size + 1 + 1 + 1]? = some (.cells #[.func (.func 21) #[] #[.pointer (some ⟨w.heap.size + 1 + 1, 0, none⟩), .pointer (some ⟨w.heap.size + 1 + 1 + 1, 0, none⟩)]] 48 (0, 0)) := by
    have := heap_alloc_new w3 (.cells #[.func (.func 21) #[] #[.pointer (some ⟨w.heap.size + 1 + 1, 0, none⟩), .pointer (some ⟨w.heap.size + 1 + 1 + 1, 0, none⟩)]] 48)
    rw [z3] at this
    exact this
  have hcl : Cl (w.heap.size + 1 + 1) (w.heap.size + 1 + 1 + 1) (w.heap.size + 1) [] 0 w4 :=
    ⟨(g4.block _ (by omega) (by simp)).trans h3, h4, by omega, by omega, _, (m2.kept g3 (by simp)).kept g4 (by simp), fun x => by simp [Maps.has]⟩
  have hcall := free1_calls _ t (Nat.le_refl _) hok F w4 vl al _ _ _ _ _ (by omega) (fun b hb => ⟨by have := hF b hb; omega, by have := hF b hb; omega⟩) (hal.mono (fun b hf => b4.block b (hF b hf)) fun _ h => h) hcl
  unfold tArg at hcall ⊢
  have e1 : w1.cell? ⟨w.heap.size, 0, none⟩ = w1.cell? ⟨w.heap.size, 0, none⟩ := rfl
  go_enter Tryz.func10, Tryz.ntmps10
  go_wp2_with (go_at_call 21; refine hcall.mono ?_)
  first | rintro e W5 rfl hc5 hg5 | rintro e W5 ⟨rfl, hc5, hg5⟩
  have b5 : RowKit.Below w.heap.size w W5 := b4.trans ⟨hg5.os, hg5.tape, hg5.output, hg5.size, fun k hk => hg5.block k (by omega) (by simp; omega)⟩
  have s5 : w.heap.size + 4 ≤ W5.heap.size := by have := hg5.size; omega
  obtain ⟨D, hown, hD⟩ := hc5.hm
  have hsz : Maps.size D ≤ cntT t := by
    obtain ⟨es, clock, hb, F, hs, rfl⟩ := hown
    rw [Maps.size_eq, length_sorted]
    simpa using hs
  have c5 : W5.cell? ⟨w.heap.size + 1 + 1, 0, none⟩ = some (.map (some (w.heap.size + 1))) := by rw [Lib.cell_of_heap hc5.h3]; rfl
  have hK := callsIn_wide.1 (It.maps_Keys_23 (some (w.heap.size + 1)) W5)
  have hS := callsIn_wide.1 (It.slices_Sorted_keys_22_23 (w.heap.size + 1) (cntT t) D (plainElem Tryz.prog 4) W5 hown (by unfold maxLen; omega) (by omega))
  go_wp2_with (first
    | (go_at_call 23; refine hK.mono ?_; rintro e w' ⟨rfl, rfl⟩)
    | (go_at_call 22; refine hS.mono ?_; rintro e w' ⟨v, ss, rfl, hP, hrow, hnil, hb⟩))
  go_ret
  have hz5 : (W5.alloc (.cells #[.map (some (w.heap.size + 1))] 47)).heap.size = W5.heap.size + 1 := Array.size_push ..
  have e9 := keys_sorted hown hD hP
  have e8 : ss.length = (Lib.compact (sortB (namesT t))).length := by rw [← e9, List.length_mergeSort]
  refine ⟨v, rfl, ?_, b5.trans (((RowKit.Below.refl w.heap.size W5).alloc (by omega) _).trans (hb.mono (by omega)))⟩
  rw [e9, e8] at hrow
  exact own_base hrow (by omega)
/-! ## contracts -/
section
variable [Tabs]
omit [Tabs] in
theorem arr7 {arr : Array Value} (hs : arr.size = 7) : arr = #[arr.getD 0 undef, arr.getD 1 undef, arr.getD 2 undef, arr.getD 3 undef, arr.getD 4 undef, arr.getD 5 undef, arr.getD 6 undef] := by
  apply Array.ext
  · simpa using hs
  · intro i h1 h2
    have h3 : i = 0 ∨ i = 1 ∨ i = 2 ∨ i = 3 ∨ i = 4 ∨ i = 5 ∨ i = 6 := by omega
    rcases h3 with rfl | rfl | rfl | rfl | rfl | rfl | rfl <;> simp [Array.getD_eq_getD_getElem?, h1]
omit [Tabs] in
theorem term_arg {w : World} {F : Nat → Prop} {ρ : Env} {vs : Array Value} {t : Term} (hsz : vs.size = 1) (h0 : RelAV w F ρ #[] (.aggD (cTerm t)) (vs.getD 0 undef)) : ∃ vl al, vs = #[tArg t vl al] ∧ RelD w F (.nl .term t.a) al := by
  generalize hx : cTerm t = cs at h0
  generalize hq : vs.getD 0 undef = q at h0
  cases h0 with
  | aggD _ arr hs h =>
    subst hx
    have hs7 : arr.size = 7 := hs
    have e0 := sc_inv (h 0 (by show 0 < 7; omega))
    have e1 := sc_inv (h 1 (by show 1 < 7; omega))
    have e2 := sc_inv (h 2 (by show 2 < 7; omega))
    have e3 := sc_inv (h 3 (by show 3 < 7; omega))
    have e5 := sc_inv (h 5 (by show 5 < 7; omega))
    have e6 : RelD w F (.nl .term t.a) (arr.getD 6 undef) := h 6 (by show 6 < 7; omega)
    have ea := arr7 hs7
    rw [e0, e1, e2, e3, e5] at ea
    refine ⟨arr.getD 4 undef, arr.getD 6 undef, ?_, e6⟩
    show vs = #[.agg #[.int .i64 t.kind, .int .i64 t.v.kind, .int .i64 t.v.n, .string t.v.s, arr.getD 4 undef, .string t.name, arr.getD 6 undef]]
    rw [← ea, ← hq]
    apply Array.ext
    · simpa using hsz
    · intro i h1 h2
      have : i = 0 := by simp at h2; omega
      subst this
      simp [Array.getD_eq_getD_getElem?, h1]
noncomputable def F_free : FnT := ⟨1, ⟨[], [(0, .term)], [], []⟩, [.v (.lst .str)], []⟩
omit [Tabs] in
theorem rho_nobody {w : World} {F : Nat → Prop} {ρ : Env} (hob : ∀ k, RelOb w F ρ k .gone) : ρ = nobody := funext fun k => by
  have := hob k
  cases this with
  | gone h => exact h
theorem freeN_ok : Contract Tryz.prog 10 F_free freeN := by
  rintro ⟨t, u⟩ y hy
  unfold freeN at hy
  by_cases hv : cntT t ≤ 1900000 ∧ nmOk t
  · simp only [if_pos hv] at hy
    cases hy
    intro F ρ vs w hrw hob hra
    have hρ : ρ = nobody := rho_nobody hob
    subst hρ
    obtain ⟨vl, al, rfl, hal⟩ := term_arg (hra.sz) (hra.rel 0 (by show 0 < 1; omega))
    refine (free_calls t hv.1 hv.2 F w vl al hrw.lt hal).mono fun e w' ⟨v, he, ho, hb⟩ => ?_
    subst he
    exact freeze_strs hrw hb ho
  · simp only [if_neg hv] at hy
    cases hy
theorem freeOfN_ok : Contract Tryz.prog 11 F_free Pure.freeOfN := by
  rintro ⟨t, u⟩ y hy
  unfold Pure.freeOfN at hy
  by_cases hv : cntT t ≤ 1900000
  · simp only [if_pos hv] at hy
    cases hy
    intro F ρ vs w hrw hob hra
    have hρ : ρ = nobody := rho_nobody hob
    subst hρ
    obtain ⟨vl, al, rfl, hal⟩ := term_arg (hra.sz) (hra.rel 0 (by show 0 < 1; omega))
    refine (freeOf_calls _ t (Nat.le_refl _) hv F w vl al hrw.lt hal).mono fun e w' ⟨v, he, ho, hb⟩ => ?_
    subst he
    exact freeze_strs hrw hb ho
  · simp only [if_neg hv] at hy
    cases hy
end
end Go.Proofs.YtpfhkokjpmkbkaaGreatDoor

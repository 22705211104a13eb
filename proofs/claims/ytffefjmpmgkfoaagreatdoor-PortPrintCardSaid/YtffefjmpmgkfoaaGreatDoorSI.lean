/- Several texts in one (merge.py). -/
import Derived.Test.YtffefjmpmgkfoaaGreatDoorSO
import Derived.Shelf.Abstract
import Derived.Test.YtffefjmpmgkfoaaGreatDoorPE
import Derived.Test.YtffefjmpmgkfoaaGreatDoorShelf
/- (*strings.Replacer).Replace, walked at the seat, over what stands behind the interface. -/
namespace Go.Proofs.YtffefjmpmgkfoaaGreatDoor
open Go
set_option linter.unusedSimpArgs false
set_option linter.unusedVariables false
set_option maxRecDepth 100000
set_option maxHeartbeats 2000000
def Made (w : World) (rb : Nat) (W : World) : Prop := ∃ q, Built W w.heap.size q ∧ (∃ c0 c1 c2 c4, W.heap[rb]? = some (.cells #[c0, c1, c2, .iface 185 (.pointer (some ⟨q, 0, none⟩)), c4] 117 (0, 0))) ∧
      W.os = w.os ∧ W.tape = w.tape ∧ W.output = w.output ∧ w.heap.size ≤ W.heap.size ∧ ∀ k, k < w.heap.size → k ≠ rb → W.heap[k]? = w.heap[k]?
theorem once_ok (rb ob oc : Nat) (w : World) (hR : w.heap[rb]? = some (.cells #[.int .u32 0, .int .i32 0, .int .u32 0, .nilIface, .slice (some ⟨ob, 0, none⟩) 6 oc] 117 (0, 0))) (hne : ob ≠ rb)
    (h0 : w.cell? ⟨ob, 0, none⟩ = some (.string q92)) (h1 : w.cell? ⟨ob, 1, none⟩ = some (.string q9292)) (h2 : w.cell? ⟨ob, 2, none⟩ = some (.string q39)) (h3 : w.cell? ⟨ob, 3, none⟩ = some (.string q9239)) (h4 : w.cell? ⟨ob, 4, none⟩ = some (.string q10)) (h5 : w.cell? ⟨ob, 5, none⟩ = some (.string q92110)) (hob : ob < w.heap.size) :
    Calls Tryz.prog 49 #[.pointer (some ⟨rb, 0, none⟩), .func (.func 50) #[.pointer (some ⟨rb, 0, none⟩)] #[]] w fun e w' => e = .returned (.tuple #[]) ∧ Made w rb w' := by
  have hrb : rb < w.heap.size := (Array.getElem?_eq_some_iff.1 hR).1
  have hR1 := heap_setCell_same w rb 1 _ 117 (.int .i32 1) hR
  have blk : (w.setCell ⟨rb, 1, none⟩ (.int .i32 1)).heap[ob]? = w.heap[ob]? := heap_setCell_other w ⟨rb, 1, none⟩ ob _ hne
  have hsz : (w.setCell ⟨rb, 1, none⟩ (.int .i32 1)).heap.size = w.heap.size := by simp
  have cl : ∀ i, (w.setCell ⟨rb, 1, none⟩ (.int .i32 1)).cell? ⟨ob, i, none⟩ = w.cell? ⟨ob, i, none⟩ := fun i => World.cell?_of_block blk
  have hb := buildOnce_ok rb ob oc (w.setCell ⟨rb, 1, none⟩ (.int .i32 1)) _ _ _ _ (hR1.trans rfl) ((cl 0).trans h0) ((cl 1).trans h1) ((cl 2).trans h2) ((cl 3).trans h3) ((cl 4).trans h4) ((cl 5).trans h5) (by rw [hsz]; exact hob)
  refine (do_once rb w _ _ 50 #[.pointer (some ⟨rb, 0, none⟩)] #[] rfl ((Lib.cell_of_heap hR 0).trans rfl) ((Lib.cell_of_heap hR 1).trans rfl) (Lib.frozen_of_heap hR 0) (Lib.frozen_of_heap hR 1) (enters_of Tryz.func50 (by kernel_rfl) rfl) hb (fun W2 hW => ?_)).mono fun e w' ⟨he, W2, hW, hw'⟩ => ⟨he, ?_⟩
  · obtain ⟨q, hbu, hc, _⟩ := hW
    exact ⟨(Lib.cell_of_heap hc 0).trans rfl, (Lib.cell_of_heap hc 1).trans rfl, Lib.frozen_of_heap hc 0, Lib.frozen_of_heap hc 1⟩
  · obtain ⟨q, hbu, hc, hos, htp, hou, hsz2, hk⟩ := hW
    subst hw'
    rw [hsz] at hbu hsz2 hk
    have s1 := heap_setCell_same W2.drew rb 0 _ 117 (.int .u32 1) hc
    have s2 := heap_setCell_same _ rb 1 _ 117 (.int .i32 0) s1
    have oth : ∀ k, k ≠ rb → ((W2.drew.setCell ⟨rb, 0, none⟩ (.int .u32 1)).setCell ⟨rb, 1, none⟩ (.int .i32 0)).heap[k]? = W2.heap[k]? := fun k hk => by
      rw [heap_setCell_other _ _ k _ hk, heap_setCell_other _ _ k _ hk]
      rfl
    refine ⟨q, hbu.through fun k hk => oth k (by omega), ⟨_, _, _, _, s2.trans rfl⟩, hos, htp, hou, ?_, fun k hk1 hk2 => ?_⟩
    · have : ((W2.drew.setCell ⟨rb, 0, none⟩ (.int .u32 1)).setCell ⟨rb, 1, none⟩ (.int .i32 0)).heap.size = W2.heap.size := by simp
      rw [this]; exact hsz2
    · rw [oth k hk2, hk k hk1 hk2]
      exact heap_setCell_other w ⟨rb, 1, none⟩ k _ hk2
theorem replaceR_ok (rb ob oc : Nat) (s r : ByteArray) (w : World) (hR : w.heap[rb]? = some (.cells #[.int .u32 0, .int .i32 0, .int .u32 0, .nilIface, .slice (some ⟨ob, 0, none⟩) 6 oc] 117 (0, 0))) (hne : ob ≠ rb)
    (h0 : w.cell? ⟨ob, 0, none⟩ = some (.string q92)) (h1 : w.cell? ⟨ob, 1, none⟩ = some (.string q9292)) (h2 : w.cell? ⟨ob, 2, none⟩ = some (.string q39)) (h3 : w.cell? ⟨ob, 3, none⟩ = some (.string q9239)) (h4 : w.cell? ⟨ob, 4, none⟩ = some (.string q10)) (h5 : w.cell? ⟨ob, 5, none⟩ = some (.string q92110)) (hob : ob < w.heap.size)
    (hRp : ∀ W q, Built W w.heap.size q → Calls Tryz.prog 201 #[.pointer (some ⟨q, 0, none⟩), .string s] W fun e w' => e = .returned (.string r) ∧ Go.RowKit.Below W.heap.size W w') :
    Calls Tryz.prog 25 #[.pointer (some ⟨rb, 0, none⟩), .string s] w fun e w' => e = .returned (.string r) ∧ w'.os = w.os ∧ w'.tape = w.tape ∧ w'.output = w.output ∧ w.heap.size ≤ w'.heap.size ∧ ∀ k, k < w.heap.size → k ≠ rb → w'.heap[k]? = w.heap[k]? := by
  have ho := once_ok rb ob oc w hR hne h0 h1 h2 h3 h4 h5 hob
  have hmf : ∀ (fn : Fn) (first cap : Array Value) (w : World), (Instr.makeFunc fn first cap).run Tryz.prog w = .ok (.func fn first cap) w := fun _ _ _ _ => rfl
  have hm : ∀ (v : Value) (W : World), (method 372 185 v "Replace").run Tryz.prog W = .ok (201, v) W := fun v W => by kernel_rfl
  clear h0 h1 h2 h3 h4 h5
  go_enter Tryz.func25, Tryz.ntmps25
  go_wp2_with (first
    | (go_at_call 49; refine ho.mono ?_; rintro e w2 ⟨rfl, q, hbu, ⟨c0, c1, c2, c4, hc⟩, hos, htp, hou, hsz, hk⟩; have k3 : w2.cell? ⟨rb, 3, none⟩ = some (.iface 185 (.pointer (some ⟨q, 0, none⟩))) := (Lib.cell_of_heap hc 3).trans rfl)
    | (go_at_call 201; refine (hRp _ _ hbu).mono ?_; rintro e w3 ⟨rfl, hbel⟩))
  go_ret
  exact ⟨rfl, hbel.os.trans hos, hbel.tape.trans htp, hbel.output.trans hou, Nat.le_trans hsz hbel.size, fun k hk1 hk2 => (hbel.block k (by omega)).trans (hk k hk1 hk2)⟩
end Go.Proofs.YtffefjmpmgkfoaaGreatDoor

/- (*strings.byteStringReplacer).Replace, walked at the seat. -/
namespace Go.Proofs.YtffefjmpmgkfoaaGreatDoor
open Go Pure
set_option linter.unusedSimpArgs false
set_option linter.unusedVariables false
set_option maxRecDepth 100000
set_option maxHeartbeats 2000000
def iOfR (v : Value) : Int := match v with
  | .int _ i => i
  | _ => 0
theorem nilNe (W : World) : (binOp .neq 43 (.slice none 0 0) (.slice none 0 0)).run Tryz.prog W = .ok (.bool false) W := by kernel_rfl
theorem sliceNe (a : Addr) (n c : Nat) (W : World) : (binOp .neq 43 (.slice (some a) n c) (.slice none 0 0)).run Tryz.prog W = .ok (.bool true) W := by kernel_rfl
theorem Built.at {W : World} {base q : Nat} (h : Built W base q) (b : UInt8) : (spB b = true ∧ ∃ g c, W.cell? ⟨q, b.toNat, none⟩ = some (.slice (some ⟨g, 0, none⟩) 2 c) ∧ W.cell? ⟨g, 0, none⟩ = some (.int .u8 ((escB b).getD 0 0).toNat) ∧ W.cell? ⟨g, 1, none⟩ = some (.int .u8 ((escB b).getD 1 0).toNat)) ∨ (spB b = false ∧ W.cell? ⟨q, b.toNat, none⟩ = some (.slice none 0 0)) := by
  obtain ⟨tb, D, g1, g2, g3, c1, c2, c3, ⟨b0, b1, b2, b3, b4⟩, hQ, hDs, hD256, hT, hD10, hD39, hD92, hDn, ⟨x1, x2⟩, ⟨x3, x4⟩, x5, x6⟩ := h
  by_cases h1 : b = 92
  · subst h1
    exact .inl ⟨rfl, g3, c3, (Lib.cell_of_heap hQ 92).trans hD92, x5, x6⟩
  · by_cases h2 : b = 39
    · subst h2
      exact .inl ⟨rfl, g2, c2, (Lib.cell_of_heap hQ 39).trans hD39, x3, x4⟩
    · by_cases h3 : b = 10
      · subst h3
        exact .inl ⟨rfl, g1, c1, (Lib.cell_of_heap hQ 10).trans hD10, x1, x2⟩
      · refine .inr ⟨by unfold spB; simp [h1, h2, h3], (Lib.cell_of_heap hQ b.toNat).trans (hDn b.toNat b.toNat_lt (fun e => h3 ?_) (fun e => h2 ?_) fun e => h1 ?_)⟩
        · exact UInt8.toNat_inj.1 e
        · exact UInt8.toNat_inj.1 e
        · exact UInt8.toNat_inj.1 e
theorem mkBuf (W : World) (N : Nat) (hN : N ≤ 281474976710656) : (Instr.makeSlice 43 (.int .i64 N) (.int .i64 N)).run Tryz.prog W = .ok (.slice (some ⟨W.heap.size, 0, none⟩) N N) (W.alloc (.cells (madeCells #[.int .u8 0] N) 5)) := by
  have hi : (Tryz.prog.info? 5).map (fun i => (i.zero, i.size, i.bytes)) = some (some (.int .u8 0), 1, 1) := by kernel_rfl
  obtain ⟨i, h1, h2⟩ := Option.map_eq_some_iff.1 hi
  simp only [Prod.mk.injEq] at h2
  obtain ⟨q1, q2, q3⟩ := h2
  have := run_make (P := Tryz.prog) W 43 5 i _ Tryz.underlying43 h1 q1 .i64 .i64 N N (by omega) (by omega) (by rw [q3]; omega) (by omega)
  rw [q2, Int.toNat_natCast, Nat.mul_one] at this
  exact this
def bufA (l : List UInt8) (N : Nat) : Array Value := ((escL l).map (fun b => Value.int .u8 (b.toNat : Int)) ++ List.replicate (N - (escL l).length) (Value.int .u8 0)).toArray
theorem buf0 (N : Nat) : madeCells #[.int .u8 0] N = bufA [] N := by
  unfold madeCells bufA escL
  apply Array.ext
  · simp
  · intro i h1 h2
    simp [Nat.mod_one]
theorem buf_copy (l : List UInt8) (b : UInt8) (N : Nat) (hl : (escL (l ++ [b])).length ≤ N) : ((bufA l N).toList.take (escL l).length ++ (escB b).map (fun b => Value.int .u8 (b.toNat : Int)) ++ (bufA l N).toList.drop ((escL l).length + (escB b).length)).toArray = bufA (l ++ [b]) N := by
  rw [escL_snoc] at *
  rw [List.length_append] at hl
  unfold bufA
  rw [escL_snoc]
  simp only [List.map_append, List.length_append]
  congr 1
  have e : (escL l).length = ((escL l).map fun b => Value.int .u8 (b.toNat : Int)).length := by simp
  rw [List.take_append_of_le_length (by simp), List.take_of_length_le (by simp), List.append_assoc, List.append_assoc]
  congr 1
  congr 1
  rw [List.drop_append, List.drop_of_length_le (by simp), List.nil_append, List.drop_replicate]
  congr 1
  simp
  omega
theorem escB_one {b : UInt8} (h : spB b = false) : escB b = [b] := by
  unfold spB at h
  simp only [Bool.or_eq_false_iff, beq_eq_false_iff_ne] at h
  unfold escB
  rw [if_neg h.1.1, if_neg h.1.2, if_neg h.2]
theorem buf_store (l : List UInt8) (b : UInt8) (N : Nat) (hsp : spB b = false) (hl : (escL l).length < N) : (bufA l N).setIfInBounds (escL l).length (.int .u8 (b.toNat : Int)) = bufA (l ++ [b]) N := by
  unfold bufA
  rw [escL_snoc, escB_one hsp]
  apply Array.toList_inj.1
  rw [Array.toList_setIfInBounds]
  simp only [List.map_append, List.map_cons, List.map_nil, List.length_append, List.length_cons, List.length_nil]
  rw [List.set_append_right _ _ (by simp), List.length_map, Nat.sub_self]
  obtain ⟨m, hm⟩ : ∃ m, N - (escL l).length = m + 1 := ⟨N - (escL l).length - 1, by omega⟩
  rw [hm, List.replicate_succ, List.set_cons_zero, show N - ((escL l).length + (0 + 1)) = m by omega]
  simp
theorem inner_short (q base : Nat) (s : ByteArray) (W : World) (hB : Built W base q) (hs : ¬ (24 ≤ s.size)) :
    Calls Tryz.prog 201 #[.pointer (some ⟨q, 0, none⟩), .string s] W fun e w' => e = .returned (.string ⟨(escL s.data.toList).toArray⟩) ∧ Go.RowKit.Below W.heap.size W w' := by
  obtain ⟨tb, p256⟩ : ∃ tb, W.cell? ⟨q, 256, none⟩ = some (.slice (some ⟨tb, 0, none⟩) 3 3) := by
    obtain ⟨tb, D, g1, g2, g3, c1, c2, c3, _, hQ, _, hD256, _⟩ := hB
    exact ⟨tb, (Lib.cell_of_heap hQ 256).trans hD256⟩
  have hlt : decide ((24 : Int) ≤ (s.size : Int)) = false := by rw [decide_eq_false_iff_not]; omega
  go_enter Tryz.func201, Tryz.ntmps201
  go_wp2
  go_loop [5, 6, 10] (fun n a i => ∃ k : Nat, k ≤ s.size ∧ i = .int .i64 k ∧ n = .int .i64 ((s.size + (s.data.toList.take k).countP spB : Nat) : Int) ∧ a = .bool (decide (0 < (s.data.toList.take k).countP spB)))
    (fun n a i => s.size - (iOfR i).toNat)
  case atStart => exact ⟨0, Nat.zero_le _, rfl, rfl, rfl⟩
  case round =>
    obtain ⟨k, hk, rfl, rfl, rfl⟩ := hrel
    by_cases hks : k < s.size
    · have hkl : k < s.data.toList.length := by simpa using hks
      have htk : s.data.toList.take (k + 1) = s.data.toList.take k ++ [s.data.toList[k]] := by rw [List.take_add_one, List.getElem?_eq_getElem hkl]; rfl
      have hb : s[k] = s.data.toList[k] := by rw [Array.getElem_toList]; rfl
      have hcnt : (s.data.toList.take (k + 1)).countP spB = (s.data.toList.take k).countP spB + if spB s[k] then 1 else 0 := by rw [htk, List.countP_append, hb, List.countP_singleton]
      have hle : (s.data.toList.take k).countP spB ≤ 24 := Nat.le_trans List.countP_le_length (by simp; omega)
      have hb256 : s[k].toNat < 256 := s[k].toNat_lt
      rcases hB.at s[k] with ⟨hsp, g, c, hc, _⟩ | ⟨hsp, hc⟩
      · rw [hsp] at hcnt
        have hne := sliceNe ⟨g, 0, none⟩ 2 c
        clear hB hb htk
        go_wp2
        go_round
        case rel => exact ⟨k + 1, by omega, by go_num, by rw [hcnt, if_pos rfl]; go_num, by rw [hcnt]; simp⟩
        case measure => simp [iOfR]; omega
      · rw [hsp] at hcnt
        have hne := nilNe
        clear hB hb htk
        go_wp2
        go_round
        case rel => exact ⟨k + 1, by omega, by go_num, by rw [hcnt]; simp, by rw [hcnt]; simp⟩
        case measure => simp [iOfR]; omega
    · obtain rfl : k = s.size := by omega
      have htk : s.data.toList.take s.size = s.data.toList := List.take_of_length_le (by simp)
      rw [htk]
      by_cases hn : 0 < s.data.toList.countP spB
      · rw [decide_eq_true hn]
        have hN24 : s.size + s.data.toList.countP spB ≤ 100 := by
          have := List.countP_le_length (p := spB) (l := s.data.toList)
          simp at this ⊢
          omega
        generalize hN : s.size + s.data.toList.countP spB = N at hN24 ⊢
        have hmk := mkBuf W N (by omega)
        clear hlt hn htk
        go_wp2
        go_loopw [13, 14] (fun jj ii wr => ∃ k : Nat, k ≤ s.size ∧ ii = .int .i64 k ∧ jj = .int .i64 ((escL (s.data.toList.take k)).length : Nat) ∧ wr.heap[W.heap.size]? = some (.cells (bufA (s.data.toList.take k) N) 5 (0, 0)) ∧ wr.heap.size = W.heap.size + 1 ∧ Go.RowKit.Below W.heap.size W wr)
          (fun jj ii _ => s.size - (iOfR ii).toNat)
        case atStart =>
          refine ⟨0, Nat.zero_le _, rfl, rfl, ?_, Array.size_push .., (Go.RowKit.Below.refl _ W).alloc (Nat.le_refl _) _⟩
          rw [List.take_zero, ← buf0]
          exact heap_alloc_new W _
        case round =>
          obtain ⟨k, hk, rfl, rfl, hbuf, hsz, hbel⟩ := hrel
          by_cases hks : k < s.size
          · have hkl : k < s.data.toList.length := by simpa using hks
            have htk : s.data.toList.take (k + 1) = s.data.toList.take k ++ [s[k]] := by
              rw [List.take_add_one, List.getElem?_eq_getElem hkl, Array.getElem_toList]; rfl
            have hb256 : s[k].toNat < 256 := s[k].toNat_lt
            have hesc : (escL (s.data.toList.take k ++ [s[k]])).length ≤ N := by
              rw [← htk, escL_len, ← hN]
              have h1 : (s.data.toList.take (k + 1)).length ≤ s.size := by simp; omega
              have h2 : (s.data.toList.take (k + 1)).countP spB ≤ s.data.toList.countP spB := (List.take_sublist _ _).countP_le
              omega
            have hesc2 := hesc
            rw [escL_snoc, List.length_append, escB_len] at hesc2
            rcases hB.at s[k] with ⟨hsp, g, c, hc, hv0, hv1⟩ | ⟨hsp, hc⟩
            · rw [hsp, if_pos rfl] at hesc2
              have hq : q < W.heap.size := World.block_lt_of_cell? _ _ hc
              have hg : g < W.heap.size := World.block_lt_of_cell? _ _ hv0
              have hc' := (World.cell?_of_block (a := ⟨q, s[k].toNat, none⟩) (hbel.block q hq)).trans hc
              have hv0' := (World.cell?_of_block (a := ⟨g, 0, none⟩) (hbel.block g hg)).trans hv0
              have hv1' := (World.cell?_of_block (a := ⟨g, 1, none⟩) (hbel.block g hg)).trans hv1
              have hne := sliceNe ⟨g, 0, none⟩ 2 c
              have hJ : (escL (s.data.toList.take k)).length + 2 ≤ N := hesc2
              have hcp := run_copy_row (P := Tryz.prog) wr.drew 43 43 3 5 W.heap.size (escL (s.data.toList.take k)).length (N - (escL (s.data.toList.take k)).length) (N - (escL (s.data.toList.take k)).length) ⟨g, 0, none⟩ 2 c (bufA (s.data.toList.take k) N) 5 ((escB s[k]).map fun b => Value.int .u8 (b.toNat : Int)) Tryz.underlying43 (by kernel_rfl) hbuf (by
                rw [List.length_map, escB_len, hsp, if_pos rfl]
                show 2 = Nat.min 2 _
                rw [show Nat.min 2 (N - (escL (s.data.toList.take k)).length) = 2 from Nat.min_eq_left (by omega)]) (fun j v hj => by
                have hl2 : (escB s[k]).length = 2 := by rw [escB_len, hsp, if_pos rfl]
                obtain ⟨e0, e1, he⟩ : ∃ e0 e1, escB s[k] = [e0, e1] := by
                  match h : escB s[k], hl2 with
                  | [e0, e1], _ => exact ⟨e0, e1, rfl⟩
                rw [he] at hj hv0' hv1'
                match j with
                | 0 =>
                  simp at hj
                  subst hj
                  exact hv0'
                | 1 =>
                  simp at hj
                  subst hj
                  exact hv1'
                | j + 2 => simp at hj) (by
                rw [List.length_map, escB_len, hsp, if_pos rfl]
                unfold bufA
                simp
                omega) (fun v hv => by
                obtain ⟨b, _, rfl⟩ := List.mem_map.1 hv
                rfl)
              rw [List.length_map, buf_copy _ _ _ hesc, ← htk, escB_len, hsp, if_pos rfl] at hcp
              have hlen : (escL (s.data.toList.take (k + 1))).length = (escL (s.data.toList.take k)).length + 2 := by rw [htk, escL_snoc, List.length_append, escB_len, hsp, if_pos rfl]
              generalize (escL (s.data.toList.take k)).length = J at hcp hJ hlen ⊢
              have hJN : J ≤ N := by omega
              clear hB p256 hmk hc hv0 hv1
              go_wp2
              go_region
              all_goals go_wp2
              all_goals go_roundw
              case rel =>
                refine ⟨k + 1, by omega, by go_num, by rw [hlen]; go_num, ?_, by rw [size_setRow]; exact hsz, ⟨hbel.os, hbel.tape, hbel.output, by rw [size_setRow]; exact hbel.size, fun kk hkk => ?_⟩⟩
                · rw [htk]
                  exact setRow_heap wr.drew W.heap.size _ _ 5 _ hbuf
                · refine Eq.trans ?_ (hbel.block kk hkk)
                  show (wr.drew.setRow W.heap.size _).heap[kk]? = wr.heap[kk]?
                  simp only [World.setRow, Array.getElem?_modify]
                  rw [if_neg (by omega)]
                  rfl
              case measure => simp [iOfR]; omega
            · rw [hsp] at hesc2
              have hq : q < W.heap.size := World.block_lt_of_cell? _ _ hc
              have hc' := (World.cell?_of_block (a := ⟨q, s[k].toNat, none⟩) (hbel.block q hq)).trans hc
              have hne := nilNe
              have hJ : (escL (s.data.toList.take k)).length < N := by simp at hesc2; omega
              have hst := buf_store (s.data.toList.take k) s[k] N hsp hJ
              have hz : wr.cell? ⟨W.heap.size, (escL (s.data.toList.take k)).length, none⟩ = some (.int .u8 0) := (Lib.cell_of_heap hbuf _).trans (by
                unfold bufA
                rw [List.getElem?_toArray, List.getElem?_append_right (by simp), List.length_map, Nat.sub_self, List.getElem?_replicate, if_pos (by omega)])
              have hfz : wr.frozen? ⟨W.heap.size, (escL (s.data.toList.take k)).length, none⟩ = false := Lib.frozen_of_heap hbuf _
              have hlen : (escL (s.data.toList.take (k + 1))).length = (escL (s.data.toList.take k)).length + 1 := by rw [htk, escL_snoc, List.length_append, escB_one hsp]; rfl
              have hset := heap_setCell_same wr W.heap.size (escL (s.data.toList.take k)).length _ 5 (.int .u8 (s[k].toNat : Int)) hbuf
              rw [hst, ← htk] at hset
              generalize (escL (s.data.toList.take k)).length = J at hJ hz hfz hlen hset ⊢
              clear hB p256 hmk hc hst
              go_wp2
              go_roundw
              case rel => exact ⟨k + 1, by omega, by go_num, by rw [hlen]; go_num, hset, by simp [hsz], hbel.setCell (Nat.le_refl _) _⟩
              case measure => simp [iOfR]; omega
          · obtain rfl : k = s.size := by omega
            have htk : s.data.toList.take s.size = s.data.toList := List.take_of_length_le (by simp)
            rw [htk] at hbuf ⊢
            have hNl : (escL s.data.toList).length = N := by rw [escL_len, ← hN]; simp
            have hcv := run_convert_bytes_back (P := Tryz.prog) wr 43 9 5 ⟨W.heap.size, 0, none⟩ N (escL s.data.toList) Tryz.underlying43 Tryz.underlying5 Tryz.underlying9 (fun j hj => by
              have ea : (⟨W.heap.size, 0, none⟩ : Addr).add j = ⟨W.heap.size, j, none⟩ := by unfold Addr.add; split <;> simp_all
              rw [ea]
              refine (Lib.cell_of_heap hbuf j).trans ?_
              unfold bufA
              rw [List.getElem?_toArray, List.getElem?_append_left (by simpa using hj), List.getElem?_map, List.getElem?_eq_getElem hj]
              rfl)
            rw [hNl] at hcv
            clear hB p256 hmk
            go_wp2
            go_ret
            exact ⟨rfl, hbel⟩
      · rw [decide_eq_false hn]
        go_wp2
        go_ret
        refine ⟨?_, Go.RowKit.Below.refl _ _⟩
        rw [escL_none _ (by omega)]
        rfl
end Go.Proofs.YtffefjmpmgkfoaaGreatDoor

/- (*strings.byteStringReplacer).Replace at longer texts, walked at the seat. -/
namespace Go.Proofs.YtffefjmpmgkfoaaGreatDoor
open Go Pure
set_option linter.unusedSimpArgs false
set_option linter.unusedVariables false
set_option maxRecDepth 100000
set_option maxHeartbeats 2000000
theorem countB (s : ByteArray) (c : UInt8) (W : World) : Calls Tryz.prog 121 #[.string s, .string ⟨#[c]⟩] W fun e w' => e = .returned (.int .i64 (s.data.toList.count c : Nat)) ∧ w' = W := Any.strings_Count_one Tryz.laysCount s c W
def sumR (l : List UInt8) : Nat → Nat
  | 0 => 0
  | 1 => l.count 10
  | 2 => l.count 10 + l.count 39
  | _ => l.count 10 + l.count 39 + l.count 92
theorem inner_long (q base : Nat) (s : ByteArray) (W : World) (hB : Built W base q) (hs : 24 ≤ s.size) (hlim : s.size ≤ 100000000) :
    Calls Tryz.prog 201 #[.pointer (some ⟨q, 0, none⟩), .string s] W fun e w' => e = .returned (.string ⟨(escL s.data.toList).toArray⟩) ∧ Go.RowKit.Below W.heap.size W w' := by
  obtain ⟨tb, p256, t0, t1, t2⟩ : ∃ tb, W.cell? ⟨q, 256, none⟩ = some (.slice (some ⟨tb, 0, none⟩) 3 3) ∧ W.cell? ⟨tb, 0, none⟩ = some (.string ⟨#[10]⟩) ∧ W.cell? ⟨tb, 1, none⟩ = some (.string ⟨#[39]⟩) ∧ W.cell? ⟨tb, 2, none⟩ = some (.string ⟨#[92]⟩) := by
    obtain ⟨tb, D, g1, g2, g3, c1, c2, c3, _, hQ, _, hD256, hT, _⟩ := hB
    exact ⟨tb, (Lib.cell_of_heap hQ 256).trans hD256, (Lib.cell_of_heap hT 0).trans rfl, (Lib.cell_of_heap hT 1).trans rfl, (Lib.cell_of_heap hT 2).trans rfl⟩
  have hlt : decide ((24 : Int) ≤ (s.size : Int)) = true := by rw [decide_eq_true_iff]; omega
  go_enter Tryz.func201, Tryz.ntmps201
  go_wp2
  go_loopw [5, 6, 32] (fun n a i wr => ∃ r : Nat, r ≤ 3 ∧ i = .int .i64 r ∧ n = .int .i64 ((s.size + sumR s.data.toList r : Nat) : Int) ∧ a = .bool (decide (0 < sumR s.data.toList r)) ∧ wr.heap = W.heap ∧ wr.os = W.os ∧ wr.tape = W.tape ∧ wr.output = W.output)
    (fun n a i _ => 3 - (iOfR i).toNat)
  case atStart => exact ⟨0, by omega, rfl, rfl, rfl, rfl, rfl, rfl, rfl⟩
  case round =>
    obtain ⟨r, hr, rfl, rfl, rfl, hheap, hos, htp, hou⟩ := hrel
    have p256' : wr.cell? ⟨q, 256, none⟩ = some (.slice (some ⟨tb, 0, none⟩) 3 3) := (World.cell?_of_block (a := ⟨q, 256, none⟩) (by rw [hheap])).trans p256
    match r with
    | 0 =>
      have tt : wr.cell? ⟨tb, 0, none⟩ = some (.string ⟨#[10]⟩) := (World.cell?_of_block (a := ⟨tb, 0, none⟩) (by rw [hheap])).trans t0
      have ec : ∀ h, ((⟨#[10]⟩ : ByteArray)[0]'h).toNat = 10 := fun _ => rfl
      have kc := countB s 10 wr
      have hsum : sumR s.data.toList 1 = sumR s.data.toList 0 + s.data.toList.count 10 := by unfold sumR; simp
      have hle : s.data.toList.count 10 ≤ s.size := Nat.le_trans List.count_le_length (by simp)
      have hle2 : sumR s.data.toList 0 ≤ 2 * s.size := Nat.zero_le _
      rcases hB.at 10 with ⟨_, g, cc, hc, _⟩ | ⟨hsp, _⟩
      case inr => cases hsp
      have hc' : wr.cell? ⟨q, 10, none⟩ = some (.slice (some ⟨g, 0, none⟩) 2 cc) := (World.cell?_of_block (a := ⟨q, 10, none⟩) (by rw [hheap])).trans hc
      by_cases hz : s.data.toList.count 10 = 0
      · rw [hz] at kc hsum
        clear hB hc
        go_wp2_with (go_at_call 121; refine kc.mono ?_; rintro e w' ⟨rfl, rfl⟩)
        go_roundw
        case rel => exact ⟨1, by omega, rfl, by rw [hsum]; congr 1, by rw [hsum]; rfl, hheap, hos, htp, hou⟩
        case measure => simp [iOfR]
      · generalize s.data.toList.count 10 = C at *
        have hz2 : ((C : Int) != 0) = true := by simpa using hz
        clear hB hc
        go_wp2_with (go_at_call 121; refine kc.mono ?_; rintro e w' ⟨rfl, rfl⟩)
        go_region
        all_goals go_wp2
        all_goals go_roundw
        case rel => exact ⟨1, by omega, rfl, by rw [hsum]; congr 1; omega, by rw [hsum, decide_eq_true (by omega)], hheap, hos, htp, hou⟩
        case measure => simp [iOfR]
    | 1 =>
      have tt : wr.cell? ⟨tb, 1, none⟩ = some (.string ⟨#[39]⟩) := (World.cell?_of_block (a := ⟨tb, 1, none⟩) (by rw [hheap])).trans t1
      have ec : ∀ h, ((⟨#[39]⟩ : ByteArray)[0]'h).toNat = 39 := fun _ => rfl
      have kc := countB s 39 wr
      have hsum : sumR s.data.toList 2 = sumR s.data.toList 1 + s.data.toList.count 39 := by unfold sumR; rfl
      have hle : s.data.toList.count 39 ≤ s.size := Nat.le_trans List.count_le_length (by simp)
      have hle2 : sumR s.data.toList 1 ≤ 2 * s.size := by
        have := List.count_le_length (a := (10 : UInt8)) (l := s.data.toList)
        simp [sumR] at this ⊢
        omega
      rcases hB.at 39 with ⟨_, g, cc, hc, _⟩ | ⟨hsp, _⟩
      case inr => cases hsp
      have hc' : wr.cell? ⟨q, 39, none⟩ = some (.slice (some ⟨g, 0, none⟩) 2 cc) := (World.cell?_of_block (a := ⟨q, 39, none⟩) (by rw [hheap])).trans hc
      by_cases hz : s.data.toList.count 39 = 0
      · rw [hz] at kc hsum
        clear hB hc
        go_wp2_with (go_at_call 121; refine kc.mono ?_; rintro e w' ⟨rfl, rfl⟩)
        go_roundw
        case rel => exact ⟨2, by omega, rfl, by rw [hsum]; congr 1, by rw [hsum]; rfl, hheap, hos, htp, hou⟩
        case measure => simp [iOfR]
      · generalize s.data.toList.count 39 = C at *
        have hz2 : ((C : Int) != 0) = true := by simpa using hz
        clear hB hc
        go_wp2_with (go_at_call 121; refine kc.mono ?_; rintro e w' ⟨rfl, rfl⟩)
        go_region
        all_goals go_wp2
        all_goals go_roundw
        case rel => exact ⟨2, by omega, rfl, by rw [hsum]; congr 1; omega, by rw [hsum, decide_eq_true (by omega)], hheap, hos, htp, hou⟩
        case measure => simp [iOfR]
    | 2 =>
      have tt : wr.cell? ⟨tb, 2, none⟩ = some (.string ⟨#[92]⟩) := (World.cell?_of_block (a := ⟨tb, 2, none⟩) (by rw [hheap])).trans t2
      have ec : ∀ h, ((⟨#[92]⟩ : ByteArray)[0]'h).toNat = 92 := fun _ => rfl
      have kc := countB s 92 wr
      have hsum : sumR s.data.toList 3 = sumR s.data.toList 2 + s.data.toList.count 92 := by unfold sumR; rfl
      have hle : s.data.toList.count 92 ≤ s.size := Nat.le_trans List.count_le_length (by simp)
      have hle2 : sumR s.data.toList 2 ≤ 2 * s.size := by
        have h1 := List.count_le_length (a := (10 : UInt8)) (l := s.data.toList)
        have h2 := List.count_le_length (a := (39 : UInt8)) (l := s.data.toList)
        simp [sumR] at h1 h2 ⊢
        omega
      rcases hB.at 92 with ⟨_, g, cc, hc, _⟩ | ⟨hsp, _⟩
      case inr => cases hsp
      have hc' : wr.cell? ⟨q, 92, none⟩ = some (.slice (some ⟨g, 0, none⟩) 2 cc) := (World.cell?_of_block (a := ⟨q, 92, none⟩) (by rw [hheap])).trans hc
      by_cases hz : s.data.toList.count 92 = 0
      · rw [hz] at kc hsum
        clear hB hc
        go_wp2_with (go_at_call 121; refine kc.mono ?_; rintro e w' ⟨rfl, rfl⟩)
        go_roundw
        case rel => exact ⟨3, by omega, rfl, by rw [hsum]; congr 1, by rw [hsum]; rfl, hheap, hos, htp, hou⟩
        case measure => simp [iOfR]
      · generalize s.data.toList.count 92 = C at *
        have hz2 : ((C : Int) != 0) = true := by simpa using hz
        clear hB hc
        go_wp2_with (go_at_call 121; refine kc.mono ?_; rintro e w' ⟨rfl, rfl⟩)
        go_region
        all_goals go_wp2
        all_goals go_roundw
        case rel => exact ⟨3, by omega, rfl, by rw [hsum]; congr 1; omega, by rw [hsum, decide_eq_true (by omega)], hheap, hos, htp, hou⟩
        case measure => simp [iOfR]
    | 3 =>
      have hBr : Built wr base q := hB.through fun k _ => by rw [hheap]
      have fixB : ∀ w', Go.RowKit.Below wr.heap.size wr w' → Go.RowKit.Below W.heap.size W w' := fun w' h => ⟨h.os.trans hos, h.tape.trans htp, h.output.trans hou, by rw [← hheap]; exact h.size, fun k hk => (h.block k (by rw [hheap]; exact hk)).trans (by rw [hheap])⟩
      have hsum3 : sumR s.data.toList 3 = s.data.toList.countP spB := (count3 _).symm
      rw [hsum3]
      clear hB p256 t0 t1 t2 hheap hos htp hou
      generalize wr = X at *
      by_cases hn : 0 < s.data.toList.countP spB
      · rw [decide_eq_true hn]
        have hN24 : s.size + s.data.toList.countP spB ≤ 2 * s.size := by
          have := List.countP_le_length (p := spB) (l := s.data.toList)
          simp at this ⊢
          omega
        generalize hN : s.size + s.data.toList.countP spB = N at hN24 ⊢
        have hmk := mkBuf X N (by omega)
        clear hlt hn
        go_wp2
        go_loopw [13, 14] (fun jj ii wr => ∃ k : Nat, k ≤ s.size ∧ ii = .int .i64 k ∧ jj = .int .i64 ((escL (s.data.toList.take k)).length : Nat) ∧ wr.heap[X.heap.size]? = some (.cells (bufA (s.data.toList.take k) N) 5 (0, 0)) ∧ wr.heap.size = X.heap.size + 1 ∧ Go.RowKit.Below X.heap.size X wr)
          (fun jj ii _ => s.size - (iOfR ii).toNat)
        case atStart =>
          refine ⟨0, Nat.zero_le _, rfl, rfl, ?_, Array.size_push .., (Go.RowKit.Below.refl _ X).alloc (Nat.le_refl _) _⟩
          rw [List.take_zero, ← buf0]
          exact heap_alloc_new X _
        case round =>
          obtain ⟨k, hk, rfl, rfl, hbuf, hsz, hbel⟩ := hrel
          by_cases hks : k < s.size
          · have hkl : k < s.data.toList.length := by simpa using hks
            have htk : s.data.toList.take (k + 1) = s.data.toList.take k ++ [s[k]] := by
              rw [List.take_add_one, List.getElem?_eq_getElem hkl, Array.getElem_toList]; rfl
            have hb256 : s[k].toNat < 256 := s[k].toNat_lt
            have hesc : (escL (s.data.toList.take k ++ [s[k]])).length ≤ N := by
              rw [← htk, escL_len, ← hN]
              have h1 : (s.data.toList.take (k + 1)).length ≤ s.size := by simp; omega
              have h2 : (s.data.toList.take (k + 1)).countP spB ≤ s.data.toList.countP spB := (List.take_sublist _ _).countP_le
              omega
            have hesc2 := hesc
            rw [escL_snoc, List.length_append, escB_len] at hesc2
            rcases hBr.at s[k] with ⟨hsp, g, c, hc, hv0, hv1⟩ | ⟨hsp, hc⟩
            · rw [hsp, if_pos rfl] at hesc2
              have hq : q < X.heap.size := World.block_lt_of_cell? _ _ hc
              have hg : g < X.heap.size := World.block_lt_of_cell? _ _ hv0
              have hc' := (World.cell?_of_block (a := ⟨q, s[k].toNat, none⟩) (hbel.block q hq)).trans hc
              have hv0' := (World.cell?_of_block (a := ⟨g, 0, none⟩) (hbel.block g hg)).trans hv0
              have hv1' := (World.cell?_of_block (a := ⟨g, 1, none⟩) (hbel.block g hg)).trans hv1
              have hne := sliceNe ⟨g, 0, none⟩ 2 c
              have hJ : (escL (s.data.toList.take k)).length + 2 ≤ N := hesc2
              have hcp := run_copy_row (P := Tryz.prog) wr.drew 43 43 3 5 X.heap.size (escL (s.data.toList.take k)).length (N - (escL (s.data.toList.take k)).length) (N - (escL (s.data.toList.take k)).length) ⟨g, 0, none⟩ 2 c (bufA (s.data.toList.take k) N) 5 ((escB s[k]).map fun b => Value.int .u8 (b.toNat : Int)) Tryz.underlying43 (by kernel_rfl) hbuf (by
                rw [List.length_map, escB_len, hsp, if_pos rfl]
                show 2 = Nat.min 2 _
                rw [show Nat.min 2 (N - (escL (s.data.toList.take k)).length) = 2 from Nat.min_eq_left (by omega)]) (fun j v hj => by
                have hl2 : (escB s[k]).length = 2 := by rw [escB_len, hsp, if_pos rfl]
                obtain ⟨e0, e1, he⟩ : ∃ e0 e1, escB s[k] = [e0, e1] := by
                  match h : escB s[k], hl2 with
                  | [e0, e1], _ => exact ⟨e0, e1, rfl⟩
                rw [he] at hj hv0' hv1'
                match j with
                | 0 =>
                  simp at hj
                  subst hj
                  exact hv0'
                | 1 =>
                  simp at hj
                  subst hj
                  exact hv1'
                | j + 2 => simp at hj) (by
                rw [List.length_map, escB_len, hsp, if_pos rfl]
                unfold bufA
                simp
                omega) (fun v hv => by
                obtain ⟨b, _, rfl⟩ := List.mem_map.1 hv
                rfl)
              rw [List.length_map, buf_copy _ _ _ hesc, ← htk, escB_len, hsp, if_pos rfl] at hcp
              have hlen : (escL (s.data.toList.take (k + 1))).length = (escL (s.data.toList.take k)).length + 2 := by rw [htk, escL_snoc, List.length_append, escB_len, hsp, if_pos rfl]
              generalize (escL (s.data.toList.take k)).length = J at hcp hJ hlen ⊢
              have hJN : J ≤ N := by omega
              clear hBr hmk hc hv0 hv1
              go_wp2
              go_region
              all_goals go_wp2
              all_goals go_roundw
              case rel =>
                refine ⟨k + 1, by omega, by go_num, by rw [hlen]; go_num, ?_, by rw [size_setRow]; exact hsz, ⟨hbel.os, hbel.tape, hbel.output, by rw [size_setRow]; exact hbel.size, fun kk hkk => ?_⟩⟩
                · rw [htk]
                  exact setRow_heap wr.drew X.heap.size _ _ 5 _ hbuf
                · refine Eq.trans ?_ (hbel.block kk hkk)
                  show (wr.drew.setRow X.heap.size _).heap[kk]? = wr.heap[kk]?
                  simp only [World.setRow, Array.getElem?_modify]
                  rw [if_neg (by omega)]
                  rfl
              case measure => simp [iOfR]; omega
            · rw [hsp] at hesc2
              have hq : q < X.heap.size := World.block_lt_of_cell? _ _ hc
              have hc' := (World.cell?_of_block (a := ⟨q, s[k].toNat, none⟩) (hbel.block q hq)).trans hc
              have hne := nilNe
              have hJ : (escL (s.data.toList.take k)).length < N := by simp at hesc2; omega
              have hst := buf_store (s.data.toList.take k) s[k] N hsp hJ
              have hz : wr.cell? ⟨X.heap.size, (escL (s.data.toList.take k)).length, none⟩ = some (.int .u8 0) := (Lib.cell_of_heap hbuf _).trans (by
                unfold bufA
                rw [List.getElem?_toArray, List.getElem?_append_right (by simp), List.length_map, Nat.sub_self, List.getElem?_replicate, if_pos (by omega)])
              have hfz : wr.frozen? ⟨X.heap.size, (escL (s.data.toList.take k)).length, none⟩ = false := Lib.frozen_of_heap hbuf _
              have hlen : (escL (s.data.toList.take (k + 1))).length = (escL (s.data.toList.take k)).length + 1 := by rw [htk, escL_snoc, List.length_append, escB_one hsp]; rfl
              have hset := heap_setCell_same wr X.heap.size (escL (s.data.toList.take k)).length _ 5 (.int .u8 (s[k].toNat : Int)) hbuf
              rw [hst, ← htk] at hset
              generalize (escL (s.data.toList.take k)).length = J at hJ hz hfz hlen hset ⊢
              clear hBr hmk hc hst
              go_wp2
              go_roundw
              case rel => exact ⟨k + 1, by omega, by go_num, by rw [hlen]; go_num, hset, by simp [hsz], hbel.setCell (Nat.le_refl _) _⟩
              case measure => simp [iOfR]; omega
          · obtain rfl : k = s.size := by omega
            have htk : s.data.toList.take s.size = s.data.toList := List.take_of_length_le (by simp)
            rw [htk] at hbuf ⊢
            have hNl : (escL s.data.toList).length = N := by rw [escL_len, ← hN]; simp
            have hcv := run_convert_bytes_back (P := Tryz.prog) wr 43 9 5 ⟨X.heap.size, 0, none⟩ N (escL s.data.toList) Tryz.underlying43 Tryz.underlying5 Tryz.underlying9 (fun j hj => by
              have ea : (⟨X.heap.size, 0, none⟩ : Addr).add j = ⟨X.heap.size, j, none⟩ := by unfold Addr.add; split <;> simp_all
              rw [ea]
              refine (Lib.cell_of_heap hbuf j).trans ?_
              unfold bufA
              rw [List.getElem?_toArray, List.getElem?_append_left (by simpa using hj), List.getElem?_map, List.getElem?_eq_getElem hj]
              rfl)
            rw [hNl] at hcv
            clear hBr hmk
            go_wp2
            go_ret
            exact ⟨rfl, fixB _ hbel⟩
      · rw [decide_eq_false hn]
        go_wp2
        go_ret
        refine ⟨?_, fixB _ (Go.RowKit.Below.refl _ _)⟩
        rw [escL_none _ (by omega)]
        rfl
end Go.Proofs.YtffefjmpmgkfoaaGreatDoor

/- Several texts in one (merge.py). -/
import Derived.Test.YtffefjmpmgkfoaaGreatDoorSI
import Derived.Test.YtffefjmpmgkfoaaGreatDoorSHigh
import Derived.Test.YtffefjmpmgkfoaaGreatDoorPPrR
import Derived.Test.YtffefjmpmgkfoaaGreatDoorEvWalk
import Derived.Deep.RegionWith
import Derived.Laws.Concat
import Derived.Maps.AppendAt
/- The document's printing of a value, R.PrintOf, walked at the seat. -/
namespace Go.Proofs.YtffefjmpmgkfoaaGreatDoor
open Go Esp Ev Pure
set_option linter.unusedSimpArgs false
set_option linter.unusedVariables false
set_option maxHeartbeats 2000000
set_option maxRecDepth 100000
def Vx (n : Nat) (k m : Int) (s : ByteArray) (lv : Value) (w W : World) : Prop :=
  n = w.heap.size ∧ W.heap[n]? = some (.cells #[.int .i64 k, .int .i64 m, .string s, lv] 24 (0, 0)) ∧ RowKit.Below n w W
theorem Vx.start (k m : Int) (s : ByteArray) (lv : Value) (w : World) : Vx w.heap.size k m s lv w (w.alloc (.cells #[.int .i64 k, .int .i64 m, .string s, lv] 24)) :=
  ⟨rfl, heap_alloc_new w _, (RowKit.Below.refl _ w).alloc (Nat.le_refl _) _⟩
theorem Vx.step {n : Nat} {k m : Int} {s : ByteArray} {lv : Value} {w W W' : World} (h : Vx n k m s lv w W) (h2 : RowKit.Below (n + 1) W W') : Vx n k m s lv w W' :=
  ⟨h.1, (h2.block _ (by omega)).trans h.2.1, h.2.2.trans (h2.mono (by omega))⟩
theorem Vx.lt {n : Nat} {k m : Int} {s : ByteArray} {lv : Value} {w W : World} (h : Vx n k m s lv w W) : n + 1 ≤ W.heap.size := (Array.getElem?_eq_some_iff.1 h.2.1).1
theorem print0 (m : Int) (s : ByteArray) (lv : Value) (w : World) :
    Calls Tryz.prog 8 #[.agg #[.int .i64 0, .int .i64 m, .string s, lv]] w fun e w' => e = .returned (.string ⟨#[110, 117, 108, 108]⟩) ∧ RowKit.Below w.heap.size w w' := by
  have h0 := Vx.start 0 m s lv w
  go_enter Tryz.func8, Tryz.ntmps8
  go_wp2
  go_ret
  exact ⟨rfl, h0.2.2⟩
theorem print1 (m : Int) (hm : m = 0 ∨ m = 1) (s : ByteArray) (lv : Value) (w : World) :
    Calls Tryz.prog 8 #[.agg #[.int .i64 1, .int .i64 m, .string s, lv]] w fun e w' => e = .returned (.string ⟨(bif m == 1 then [116, 114, 117, 101] else [102, 97, 108, 115, 101] : List UInt8).toArray⟩) ∧ RowKit.Below w.heap.size w w' := by
  have h0 := Vx.start 1 m s lv w
  have h1 := h0.step ((RowKit.Below.refl (w.heap.size + 1) _).alloc h0.lt (.cells #[.string ⟨#[102, 97, 108, 115, 101]⟩, .string ⟨#[116, 114, 117, 101]⟩] 9))
  rcases hm with rfl | rfl
  · go_enter Tryz.func8, Tryz.ntmps8
    go_wp2
    go_ret
    exact ⟨rfl, h1.2.2⟩
  · go_enter Tryz.func8, Tryz.ntmps8
    go_wp2
    go_ret
    exact ⟨rfl, h1.2.2⟩
theorem print2 (m : Int) (s : ByteArray) (lv : Value) (w : World) (hI : ∀ W, RowKit.Below w.heap.size w W → Calls Tryz.prog 23 #[.int .i64 m, .int .i64 10] W fun e w' => e = .returned (.string ⟨(Lib.itoa m).toArray⟩) ∧ RowKit.Below W.heap.size W w') :
    Calls Tryz.prog 8 #[.agg #[.int .i64 2, .int .i64 m, .string s, lv]] w fun e w' => e = .returned (.string ⟨(Lib.itoa m).toArray⟩) ∧ RowKit.Below w.heap.size w w' := by
  have h0 := Vx.start 2 m s lv w
  go_enter Tryz.func8, Tryz.ntmps8
  go_wp2_with (go_at_call 23; refine (hI _ h0.2.2).mono ?_)
  rintro e W1 ⟨rfl, hb⟩
  have h1 := h0.step (hb.mono h0.lt)
  go_wp2
  go_ret
  exact ⟨rfl, h1.2.2⟩
def six : Array Value := #[.string q92, .string q9292, .string q39, .string q9239, .string q10, .string q92110]
theorem new_row (sb : Nat) (w : World) (h : w.heap[sb]? = some (.cells six 9 (0, 0))) :
    Calls Tryz.prog 24 #[.slice (some ⟨sb, 0, none⟩) 6 6] w fun e w' => ∃ (oc : Nat) (A : Array Value), e = .returned (.pointer (some ⟨w.heap.size + 1, 0, none⟩)) ∧ Go.RowKit.Below w.heap.size w w' ∧ w'.heap.size = w.heap.size + 2 ∧
      w'.heap[w.heap.size + 1]? = some (.cells #[.int .u32 0, .int .i32 0, .int .u32 0, .nilIface, .slice (some ⟨w.heap.size, 0, none⟩) 6 oc] 117 (0, 0)) ∧
      w'.heap[w.heap.size]? = some (.cells (six ++ A) 9 (0, 0)) :=
  new_ok sb w ((Lib.cell_of_heap h 0).trans rfl) ((Lib.cell_of_heap h 1).trans rfl) ((Lib.cell_of_heap h 2).trans rfl) ((Lib.cell_of_heap h 3).trans rfl) ((Lib.cell_of_heap h 4).trans rfl) ((Lib.cell_of_heap h 5).trans rfl)
theorem repl_row (rb ob oc : Nat) (A : Array Value) (s : ByteArray) (w : World) (hs : s.size ≤ 100000000) (hR : w.heap[rb]? = some (.cells #[.int .u32 0, .int .i32 0, .int .u32 0, .nilIface, .slice (some ⟨ob, 0, none⟩) 6 oc] 117 (0, 0))) (hO : w.heap[ob]? = some (.cells (six ++ A) 9 (0, 0))) (hne : ob ≠ rb) :
    Calls Tryz.prog 25 #[.pointer (some ⟨rb, 0, none⟩), .string s] w fun e w' => e = .returned (.string ⟨(escL s.data.toList).toArray⟩) ∧ w'.os = w.os ∧ w'.tape = w.tape ∧ w'.output = w.output ∧ w.heap.size ≤ w'.heap.size ∧ ∀ k, k < w.heap.size → k ≠ rb → w'.heap[k]? = w.heap[k]? := by
  have hc : ∀ i, i < 6 → w.cell? ⟨ob, i, none⟩ = six[i]? := fun i hi => by
    rw [Lib.cell_of_heap hO i, Array.getElem?_append_left (by exact hi)]
  refine replaceR_ok rb ob oc s _ w hR hne ((hc 0 (by decide)).trans rfl) ((hc 1 (by decide)).trans rfl) ((hc 2 (by decide)).trans rfl) ((hc 3 (by decide)).trans rfl) ((hc 4 (by decide)).trans rfl) ((hc 5 (by decide)).trans rfl) (Array.getElem?_eq_some_iff.1 hO).1 fun W q hB => ?_
  by_cases h : 24 ≤ s.size
  · exact inner_long q _ s W hB h hs
  · exact inner_short q _ s W hB h
def AfterNew (W0 : World) (rb : Nat) (w2 : World) : Prop := RowKit.Below W0.heap.size W0 w2 ∧ W0.heap.size ≤ rb ∧ ∀ s : ByteArray, s.size ≤ 100000000 →
  Calls Tryz.prog 25 #[.pointer (some ⟨rb, 0, none⟩), .string s] w2 fun e w' => e = .returned (.string ⟨(escL s.data.toList).toArray⟩) ∧ RowKit.Below W0.heap.size W0 w'
theorem new_at (W0 : World) : Calls Tryz.prog 24 #[.slice (some ⟨W0.heap.size, 0, none⟩) 6 6] (W0.alloc (.cells #[.string ⟨#[92]⟩, .string ⟨#[92, 92]⟩, .string ⟨#[39]⟩, .string ⟨#[92, 39]⟩, .string ⟨#[10]⟩, .string ⟨#[92, 110]⟩] 9)).drew
    fun e w2 => ∃ rb, e = .returned (.pointer (some ⟨rb, 0, none⟩)) ∧ AfterNew W0 rb w2 := by
  have hb : RowKit.Below W0.heap.size W0 (W0.alloc (.cells six 9)).drew := ((RowKit.Below.refl _ W0).alloc (Nat.le_refl _) _).drew
  have hz : (W0.alloc (.cells six 9)).drew.heap.size = W0.heap.size + 1 := Array.size_push ..
  refine (new_row W0.heap.size (W0.alloc (.cells six 9)).drew (heap_alloc_new W0 (.cells six 9))).mono ?_
  rintro e w2 ⟨oc, A, rfl, hb2, hz2, hr2, ho2⟩
  have hb3 := hb.trans (hb2.mono (by rw [hz]; omega))
  refine ⟨_, rfl, hb3, by rw [hz]; omega, fun s hs => (repl_row _ _ oc A s w2 hs hr2 ho2 (by omega)).mono ?_⟩
  rintro e w3 ⟨rfl, k1, k2, k3, k4, k5⟩
  exact ⟨rfl, hb3.trans ⟨k1, k2, k3, k4, fun k hk => k5 k (by omega) (by rw [hz]; omega)⟩⟩
theorem print3 (m : Int) (s : ByteArray) (lv : Value) (w : World) (hs : s.size ≤ 4000) :
    Calls Tryz.prog 8 #[.agg #[.int .i64 3, .int .i64 m, .string s, lv]] w fun e w' => e = .returned (.string ⟨(39 :: (escL s.data.toList ++ [39])).toArray⟩) ∧ RowKit.Below w.heap.size w w' := by
  obtain ⟨r, hr⟩ : ∃ r : ByteArray, r = ⟨(escL s.data.toList).toArray⟩ := ⟨_, rfl⟩
  have hel : (escL s.data.toList).length ≤ 2 * s.data.toList.length := by rw [← esc_escL]; exact esc_len _
  have e1 : s.data.toList.length = s.size := rfl
  have hrz : r.size ≤ 8000 := by
    rw [hr]
    show (escL s.data.toList).toArray.size ≤ _
    rw [List.size_toArray]
    omega
  have hcat : (⟨#[39]⟩ ++ r ++ ⟨#[39]⟩ : ByteArray) = ⟨(39 :: (escL s.data.toList ++ [39])).toArray⟩ := by
    rw [hr]
    apply ByteArray.ext
    simp
  rw [← hcat]
  have h0 := Vx.start 3 m s lv w
  go_enter Tryz.func8, Tryz.ntmps8
  go_wp2
  obtain ⟨n, hn⟩ : ∃ n, n = w.heap.size := ⟨_, rfl⟩
  generalize hW : w.alloc (.cells #[.int .i64 3, .int .i64 m, .string s, lv] 24) = W0 at *
  have c2 : W0.cell? ⟨w.heap.size, 2, none⟩ = some (.string s) := (Lib.cell_of_heap h0.2.1 2).trans rfl
  have c3 : ∀ W, RowKit.Below W0.heap.size W0 W → W.cell? ⟨w.heap.size, 2, none⟩ = some (.string s) := fun W hb => (hb.cell (p := ⟨w.heap.size, 2, none⟩) (by exact h0.lt)).trans c2
  have hnew := new_at W0
  have hlt : w.heap.size < W0.heap.size := h0.lt
  have c5 : (W0.alloc (.cells #[.string ⟨#[92]⟩, .string ⟨#[92, 92]⟩, .string ⟨#[39]⟩, .string ⟨#[92, 39]⟩, .string ⟨#[10]⟩, .string ⟨#[92, 110]⟩] 9)).cell? ⟨w.heap.size, 2, none⟩ = some (.string s) := c3 _ ((RowKit.Below.refl _ W0).alloc (Nat.le_refl _) _)
  have hfin : ∀ W, RowKit.Below W0.heap.size W0 W → RowKit.Below w.heap.size w W := fun W hb => h0.2.2.trans (hb.mono (by have := h0.lt; omega))
  have hcl : ∀ (rb : Nat) (w2 : World), AfterNew W0 rb w2 → Calls Tryz.prog 25 #[.pointer (some ⟨rb, 0, none⟩), .string s] w2 fun e w' => e = .returned (.string r) ∧ RowKit.Below W0.heap.size W0 w' := fun rb w2 h => by
    rw [hr]
    exact h.2.2 s (by omega)
  have z1 : ¬ ((⟨#[39]⟩ : ByteArray).size + r.size > 9223372036854775807) := by show ¬ (1 + r.size > _); omega
  have z2 : ¬ ((⟨#[39]⟩ ++ r : ByteArray).size + (⟨#[39]⟩ : ByteArray).size > 9223372036854775807) := by rw [ByteArray.size_append]; show ¬ (1 + r.size + 1 > _); omega
  clear h0 hW hn hs e1 hel hr hcat
  generalize hnn : w.heap.size = n at *
  go_region_with (first
    | (go_at_call 24; refine hnew.mono ?_; rintro e w2 ⟨rb, rfl, haf⟩; have c4 := c3 w2 haf.1; have hc := hcl _ _ haf)
    | (go_at_call 25; refine hc.mono ?_; rintro e w3 ⟨rfl, hb3⟩))
  all_goals go_wp2
  all_goals (go_ret; exact ⟨rfl, by rw [hnn]; exact hfin _ hb3⟩)
theorem info9 : (Tryz.prog.info? 9).map (fun i => (i.zero, i.size, i.bytes)) = some (some (.string ⟨#[]⟩), 1, 16) := by kernel_rfl
def OwnB (w : World) (base : Nat) (v : Value) (ss : List (List UInt8)) : Prop := w.ownsRow base 9 1 v ss.length (ss.map encStr)
theorem OwnB.nil (w : World) (base : Nat) : OwnB w base (.slice none 0 0) [] := World.ownsRow_nil _ _ _ _
theorem print4 (m : Int) (s : ByteArray) (w : World) (ao : Option Addr) (sb off n cap : Nat) (hao : n ≠ 0 → ao = some ⟨sb, off, none⟩) (hn : n ≤ 30) (a b : Nat → Int) (c : Nat → ByteArray) (p : Nat → Option Addr) (q r : Nat → Nat) (es : Nat → List UInt8) (hsb : n ≠ 0 → sb < w.heap.size) (js : List UInt8) (hjs : js.length ≤ 100000000000000)
    (h0c : ∀ i, i < n → w.cell? ⟨sb, off + i * 4, none⟩ = some (.int .i64 (a i)) ∧ w.cell? ⟨sb, off + i * 4 + 1, none⟩ = some (.int .i64 (b i)) ∧ w.cell? ⟨sb, off + i * 4 + 2, none⟩ = some (.string (c i)) ∧ w.cell? ⟨sb, off + i * 4 + 3, none⟩ = some (.slice (p i) (q i) (r i)))
    (hrec : ∀ i, i < n → ∀ W, RowKit.Below w.heap.size w W → Calls Tryz.prog 8 #[.agg #[.int .i64 (a i), .int .i64 (b i), .string (c i), .slice (p i) (q i) (r i)]] W fun e w' => e = .returned (.string ⟨(es i).toArray⟩) ∧ RowKit.Below W.heap.size W w')
    (hJ : ∀ W v, RowKit.Below w.heap.size w W → OwnB W w.heap.size v ((List.range n).map es) → Calls Tryz.prog 26 #[v, .string ⟨#[44]⟩] W fun e w' => e = .returned (.string ⟨js.toArray⟩) ∧ RowKit.Below W.heap.size W w') :
    Calls Tryz.prog 8 #[.agg #[.int .i64 4, .int .i64 m, .string s, .slice ao n cap]] w fun e w' => e = .returned (.string ⟨(91 :: (js ++ [93])).toArray⟩) ∧ RowKit.Below w.heap.size w w' := by
  have h0 := Vx.start 4 m s (.slice ao n cap) w
  obtain ⟨i0, hi, hz0, hz1, hz2⟩ := info_parts info9
  obtain ⟨jb, hjb⟩ : ∃ jb : ByteArray, jb = ⟨js.toArray⟩ := ⟨_, rfl⟩
  have hcat : (⟨#[91]⟩ ++ jb ++ ⟨#[93]⟩ : ByteArray) = ⟨(91 :: (js ++ [93])).toArray⟩ := by
    rw [hjb]
    apply ByteArray.ext
    simp
  have hjz : jb.size ≤ 100000000000000 := by
    rw [hjb]
    show js.toArray.size ≤ _
    rw [List.size_toArray]
    exact hjs
  have z1 : ¬ ((⟨#[91]⟩ : ByteArray).size + jb.size > 9223372036854775807) := by show ¬ (1 + jb.size > _); omega
  have z2 : ¬ ((⟨#[91]⟩ ++ jb : ByteArray).size + (⟨#[93]⟩ : ByteArray).size > 9223372036854775807) := by rw [ByteArray.size_append]; show ¬ (1 + jb.size + 1 > _); omega
  rw [← hcat]
  rw [← hjb] at hJ
  clear hcat hjb hjz hjs
  go_enter Tryz.func8, Tryz.ntmps8
  have ho1 : OwnB (w.alloc (.cells #[.int .i64 4, .int .i64 m, .string s, .slice ao n cap] 24)) (w.heap.size + 1) (.slice none 0 0) [] := OwnB.nil _ _
  go_wp2
  go_loopw [3, 34] (fun v i wr => ∃ (k : Nat), k ≤ n ∧ i = .int .i64 k ∧ OwnB wr (w.heap.size + 1) v ((List.range k).map es) ∧ Vx w.heap.size 4 m s (.slice ao n cap) w wr)
    (fun _ i _ => n - (iOfR i).toNat)
  case atStart => exact ⟨0, Nat.zero_le _, rfl, by simpa using ho1, h0⟩
  case round =>
    obtain ⟨k, hk, rfl, hov, hst⟩ := hrel
    by_cases hkn : k < n
    · obtain rfl := hao (by omega)
      obtain ⟨x0, x1, x2, x3⟩ := h0c k hkn
      have hes : (List.range (k + 1)).map es = (List.range k).map es ++ [es k] := by rw [List.range_succ, List.map_append]; rfl
      have hbl := hst.2.2
      have y0 := (hbl.cell (p := ⟨sb, off + k * 4, none⟩) (by exact hsb (by omega))).trans x0
      have y1 := (hbl.cell (p := ⟨sb, off + k * 4 + 1, none⟩) (by exact hsb (by omega))).trans x1
      have y2 := (hbl.cell (p := ⟨sb, off + k * 4 + 2, none⟩) (by exact hsb (by omega))).trans x2
      have y3 := (hbl.cell (p := ⟨sb, off + k * 4 + 3, none⟩) (by exact hsb (by omega))).trans x3
      have hR := hrec k hkn
      generalize a k = a0 at y0 hR
      generalize b k = a1 at y1 hR
      generalize c k = a2 at y2 hR
      generalize p k = a4 at y3 hR
      generalize q k = b4 at y3 hR
      generalize r k = c4 at y3 hR
      have hal := (RowKit.Below.refl wr.heap.size wr).alloc (Nat.le_refl _) (.cells #[.int .i64 a0, .int .i64 a1, .string a2, .slice a4 b4 c4] 24)
      have hst2 := hst.step (hal.mono hst.lt)
      go_wp2_with (go_at_call 8; refine (hR _ hst2.2.2).mono ?_)
      first | rintro e W3 rfl hb3 | rintro e W3 ⟨rfl, hb3⟩
      have hall := hal.trans (hb3.mono (by first | exact hal.size | exact Nat.le_succ _))
      have h3 := hst.step (hall.mono hst.lt)
      have hov3 := own_below hov hall
      have hal5 := (RowKit.Below.refl W3.heap.size W3).alloc (Nat.le_refl _) (.cells #[.string ⟨(es k).toArray⟩] 9)
      have h5 := h3.step (hal5.mono h3.lt)
      have hov5 := own_below hov3 hal5
      go_wp2_with (first
        | (at_builtin; refine wpList_append_own_at _ rfl _ _ 56 rfl (w.heap.size + 1) 9 i0 (.string ⟨#[]⟩) 1 16 Tryz.underlying56 hi hz0 hz1 hz2 rfl (by decide) _ _ _ rfl hov5 ⟨W3.heap.size, 0, none⟩ 1 1 [.string ⟨(es k).toArray⟩] rfl rfl ?ha ?hb ?hc ?hd ?he ?hf)
        | go_in)
      case ha => exact cell_one_new W3 _ 9
      case hb => intro u hu; simp at hu; subst hu; rfl
      case hc => unfold maxLen; simp; omega
      case hd => simp; omega
      case he => exact h5.lt
      case hf =>
      intro v4 W4 hown4 hgrow4 hnil4 hloc4
      have hb4 := h5.step (grown_below hov5 hgrow4 h5.lt)
      have ho4 : OwnB W4 (w.heap.size + 1) v4 ((List.range (k + 1)).map es) := by
        unfold OwnB
        rw [hes, List.length_append, List.map_append, List.length_map, List.length_range, List.map_map]
        exact hown4
      go_wp2
      go_roundw
      case rel => exact ⟨k + 1, by omega, by go_num, ho4, hb4⟩
      case measure => simp [iOfR]; omega
    · have hkn : k = n := by omega
      subst hkn
      go_wp2_with (go_at_call 26; refine (hJ _ _ hst.2.2 (own_base hov (by omega))).mono ?_)
      first | rintro e W5 rfl hb5 | rintro e W5 ⟨rfl, hb5⟩
      have h5 := hst.step (hb5.mono hst.lt)
      go_wp2
      all_goals (go_ret; exact ⟨rfl, h5.2.2⟩)
end Go.Proofs.YtffefjmpmgkfoaaGreatDoor

/- The document's printing of any value; its contract. -/
namespace Go.Proofs.YtffefjmpmgkfoaaGreatDoor
open Go Esp Ev Pure
set_option linter.unusedSimpArgs false
set_option linter.unusedVariables false
set_option maxHeartbeats 2000000
set_option maxRecDepth 100000
section
variable [Tabs] [UTabs]
@[reducible] def bareT [t : Tabs] : Tabs := @Tabs.mk t.get [] none
theorem fmt_walk {F : Nat → Prop} {w : World} (hw : RelW F nobody w) (m : Int) (h0 : -9223372036854775808 ≤ m) (h1 : m ≤ 9223372036854775807) : ∀ W, RowKit.Below w.heap.size w W → Calls Tryz.prog 23 #[.int .i64 m, .int .i64 10] W fun e w' => e = .returned (.string ⟨(Lib.itoa m).toArray⟩) ∧ RowKit.Below W.heap.size W w' := by
  intro W hb
  have hW := relW_below hw hb
  refine (Any.strconv_FormatInt_10 Tryz.laysFmt m h0 h1 W (UTabs.pow W fun b o hb => (hW.tab b o hb).2)).mono ?_
  rintro e w' ⟨rfl, k, os, rfl⟩
  exact ⟨rfl, rfl, rfl, rfl, (by show W.heap.size ≤ (W.heap ++ os).size; rw [Array.size_append]; omega), fun j hj => (by show (W.heap ++ os)[j]? = _; rw [Array.getElem?_append_left hj])⟩
omit [UTabs] in
theorem join_walk {F : Nat → Prop} {w : World} (hw : RelW F nobody w) (S : List (List UInt8)) (hS : S.length ≤ 30) (hz : (Hi.jL [44] (S.map baL)).length ≤ 60000000000000) (base : Nat) : ∀ W v, RowKit.Below w.heap.size w W → OwnB W base v S → Calls Tryz.prog 26 #[v, .string ⟨#[44]⟩] W fun e w' => e = .returned (.string ⟨(Hi.jL [44] (S.map baL)).toArray⟩) ∧ RowKit.Below W.heap.size W w' := by
  intro W v hb ho
  have hW := relW_below hw hb
  have hW1 : @RelW bareT (fun b => F b ∨ v.ownBlock = some b) nobody W := @RelW.mk bareT (fun b => F b ∨ v.ownBlock = some b) nobody W (fun b _ ⟨_, _, h, _⟩ => by cases h)
    (fun b hb => by
      rcases hb with hb | hb
      · exact hW.lt b hb
      · exact own_lt ho hb)
    (fun _ _ _ _ _ h => by cases h) (fun b o h => ⟨.inl (hW.tab b o h).1, (hW.tab b o h).2⟩)
  have q1 : @QuietD bareT Tryz.prog := @QuietD.mk bareT Tryz.prog rfl fun g hg => by cases hg
  have hc := @Hi.ok_strings_Join bareT q1 1000
  have hn := hc (S.map baL, (⟨#[44]⟩ : ByteArray), ()) _ (Hi.join_ok 1000 (S.map baL) ⟨#[44]⟩ (by decide) (by decide) (by rw [List.length_map]; omega) (by rw [List.length_map]; omega) hz)
  refine (hn (fun b => F b ∨ v.ownBlock = some b) nobody #[v, .string ⟨#[44]⟩] W hW1 (fun k => .gone rfl) ⟨rfl, fun i hi => ?_⟩).mono ?_
  · have hi2 : i = 0 ∨ i = 1 := by
      have : i < 2 := hi
      omega
    rcases hi2 with rfl | rfl
    · exact .cell _ _ (.d _ _ (relD_strs ho fun b hb => .inr hb))
    · exact .cell _ _ (.d _ _ (.sc _ rfl))
  · rintro e w' ⟨F', ρ', r, ob', ⟨h1, h2⟩, h3, h4, h5, h6⟩
    subst h1
    cases e with
    | returned v =>
      have h7 : RelAV w' F' ρ' #[] (.cell (.d (.sc (.string ⟨(Hi.jL [44] (S.map baL)).toArray⟩)))) v := h3
      cases h7 with
      | cell _ _ h7 => cases h7 with
        | d _ _ h7 =>
          have := sc_inv h7
          subst this
          exact ⟨rfl, h6.os, h6.tape, h6.output, h6.size, fun k hk => h6.keep k hk (by rintro ⟨_, _, h, _⟩; cases h)⟩
    | _ => exact h3.elim
def nthV (l : List Val) (i : Nat) : Val := l.getD i (.mk 0 0 ⟨#[]⟩ [])
omit [Tabs] [UTabs] in
theorem map_nth {α : Type} (g : Val → α) (l : List Val) : (List.range l.length).map (fun i => g (nthV l i)) = l.map g := by
  induction l with
  | nil => rfl
  | cons x r ih =>
    rw [List.length_cons, List.range_succ_eq_map, List.map_cons, List.map_map, List.map_cons, ← ih]
    rfl
omit [Tabs] [UTabs] in
theorem val_row {w : World} {F : Nat → Prop} {l : List Val} {al : Value} (h : RelD w F (.nl .val l) al) : ∃ ao sb off cap, ∃ f : Nat → Option Addr × Nat × Nat, al = .slice ao l.length cap ∧ (l.length ≠ 0 → ao = some ⟨sb, off, none⟩) ∧ (l.length ≠ 0 → F sb) ∧
    (∀ i, i < l.length → w.cell? ⟨sb, off + i * 4, none⟩ = some (.int .i64 (nthV l i).kind) ∧ w.cell? ⟨sb, off + i * 4 + 1, none⟩ = some (.int .i64 (nthV l i).n) ∧ w.cell? ⟨sb, off + i * 4 + 2, none⟩ = some (.string (nthV l i).s) ∧ w.cell? ⟨sb, off + i * 4 + 3, none⟩ = some (.slice (f i).1 (f i).2.1 (f i).2.2)) ∧
    ∀ i, i < l.length → RelD w F (.nl .val (nthV l i).l) (.slice (f i).1 (f i).2.1 (f i).2.2) := by
  obtain ⟨ao, sb, off, cap, e, h1, h2, h3⟩ := nl_cells h
  have hc : ∀ i, i < l.length → ∀ j x, (cVal (nthV l i))[j]? = some x → ∃ c, w.cell? ⟨sb, off + (i * 4 + j), none⟩ = some c ∧ RelD w F x c := by
    intro i hi j x hx
    have hj : j < 4 := (List.getElem?_eq_some_iff.1 hx).1
    obtain ⟨x', c, q1, q2, q3⟩ := h3 i hi j hj
    have e1 : nthV l i = l[i] := by simp [nthV, List.getD_eq_getElem?_getD, hi]
    rw [e1] at hx
    have : (cells .val l[i])[j]? = (cVal l[i])[j]? := rfl
    rw [this, hx] at q1
    cases q1
    exact ⟨c, q2, q3⟩
  have k : ∀ i, ∃ u : Option Addr × Nat × Nat, i < l.length → w.cell? ⟨sb, off + (i * 4 + 3), none⟩ = some (.slice u.1 u.2.1 u.2.2) ∧ RelD w F (.nl .val (nthV l i).l) (.slice u.1 u.2.1 u.2.2) := fun i => by
    by_cases hi : i < l.length
    · obtain ⟨c, q1, q2⟩ := hc i hi 3 _ rfl
      obtain ⟨p, q, r, e⟩ := nl_slice q2
      subst e
      exact ⟨(p, q, r), fun _ => ⟨q1, q2⟩⟩
    · exact ⟨(none, 0, 0), fun h => absurd h hi⟩
  obtain ⟨U, hU⟩ := Classical.axiomOfChoice k
  refine ⟨ao, sb, off, cap, U, e, h1, h2, fun i hi => ?_, fun i hi => (hU i hi).2⟩
  have g : ∀ j u, (cVal (nthV l i))[j]? = some (.sc u) → w.cell? ⟨sb, off + (i * 4 + j), none⟩ = some u := fun j u hx => by
    obtain ⟨c, q1, q2⟩ := hc i hi j _ hx
    rw [sc_inv q2] at q1
    exact q1
  exact ⟨g 0 _ rfl, g 1 _ rfl, g 2 _ rfl, (hU i hi).1⟩
theorem printOf_calls {F : Nat → Prop} {v : Val} {d : Int} (h : OkP v d) : 1 ≤ d → ∀ (w : World) (lv : Value), RelW F nobody w → RelD w F (.nl .val v.l) lv →
    Calls Tryz.prog 8 #[.agg #[.int .i64 v.kind, .int .i64 v.n, .string v.s, lv]] w fun e w' => e = .returned (.string ⟨(prV v).toArray⟩) ∧ RowKit.Below w.heap.size w w' := by
  induction h with
  | null n s l d => intro _ w lv _ _; exact print0 n s lv w
  | truth n s l d h =>
    intro _ w lv _ _
    have := print1 n h s lv w
    rw [prV]
    exact this
  | int n s l d h0 h1 =>
    intro _ w lv hw _
    rw [prV]
    exact print2 n s lv w (fmt_walk hw n h0 h1)
  | text n s l d h =>
    intro _ w lv _ _
    have := print3 n s lv w h
    rw [prV]
    rw [← esc_escL] at this
    exact this
  | list n s l d h30 h6 h ih =>
    intro hd w lv hw hlv
    have hle := prV_le (OkP.list n s l d h30 h6 h) hd
    have hcap := capP_le hd
    obtain ⟨ao, sb, off, cap, f, e, h1, h2, h3, h4⟩ := val_row (l := l) hlv
    subst e
    have hes : (List.range l.length).map (fun i => prV (nthV l i)) = l.map prV := map_nth prV l
    have hjl : Hi.jL [44] ((l.map prV).map baL) = prL l := by
      rw [List.map_map]
      exact jL_prL l
    rw [prV] at hle ⊢
    have hle2 : (91 :: (prL l ++ [93])).length ≤ capP d := hle
    rw [List.length_cons, List.length_append, List.length_singleton] at hle2
    have hmem : ∀ i, i < l.length → nthV l i ∈ l := fun i hi => by simp [nthV, List.getD_eq_getElem?_getD, hi]
    have := print4 n s w ao sb off l.length cap h1 h30 (fun i => (nthV l i).kind) (fun i => (nthV l i).n) (fun i => (nthV l i).s) (fun i => (f i).1) (fun i => (f i).2.1) (fun i => (f i).2.2) (fun i => prV (nthV l i)) (fun hz => hw.lt sb (h2 hz)) (prL l) (by omega) h3
      (fun i hi W hb => ih _ (hmem i hi) (by omega) W _ (relW_below hw hb) ((h4 i hi).mono (fun b hf => hb.block b (hw.lt b hf)) fun _ h => h))
      (fun W v hb ho => by
        rw [hes] at ho
        have := join_walk hw (l.map prV) (by rw [List.length_map]; exact h30) (by rw [hjl]; omega) w.heap.size W v hb ho
        rw [hjl] at this
        exact this)
    exact this
noncomputable def F_printOf : FnT := ⟨1, ⟨[], [(0, .val)], [], []⟩, [.v .str], []⟩
omit [Tabs] [UTabs] in
theorem arr4 {arr : Array Value} (hs : arr.size = 4) : arr = #[arr.getD 0 undef, arr.getD 1 undef, arr.getD 2 undef, arr.getD 3 undef] := by
  apply Array.ext
  · simpa using hs
  · intro i h1 h2
    have h3 : i = 0 ∨ i = 1 ∨ i = 2 ∨ i = 3 := by omega
    rcases h3 with rfl | rfl | rfl | rfl <;> simp [Array.getD_eq_getD_getElem?, h1]
theorem printOfN_ok : Contract Tryz.prog 8 F_printOf printOfN := by
  rintro ⟨v, u⟩ y hy
  unfold printOfN at hy
  by_cases hv : OkP v 1
  · simp only [if_pos hv] at hy
    cases hy
    intro F ρ vs w hrw hob hra
    have hsz : vs.size = 1 := hra.sz
    have h0 : RelAV w F ρ #[] (.aggD (cVal v)) (vs.getD 0 undef) := hra.rel 0 (by show 0 < 1; omega)
    have hρ : ρ = nobody := funext fun k => by
      have := hob k
      cases this with
      | gone h => exact h
    subst hρ
    generalize hx : cVal v = cs at h0
    generalize hq : vs.getD 0 undef = q at h0
    cases h0 with
    | aggD _ arr hs h =>
      subst hx
      have hs4 : arr.size = 4 := hs
      have e0 := sc_inv (h 0 (by show 0 < 4; omega))
      have e1 := sc_inv (h 1 (by show 1 < 4; omega))
      have e2 := sc_inv (h 2 (by show 2 < 4; omega))
      have e3 : RelD w F (.nl .val v.l) (arr.getD 3 undef) := h 3 (by show 3 < 4; omega)
      have ea := arr4 hs4
      rw [e0, e1, e2] at ea
      have e : vs = #[.agg #[.int .i64 v.kind, .int .i64 v.n, .string v.s, arr.getD 3 undef]] := by
        rw [← ea, ← hq]
        apply Array.ext
        · simpa using hsz
        · intro i h1 h2
          have : i = 0 := by simp at h2; omega
          subst this
          simp [Array.getD_eq_getD_getElem?, h1]
      rw [e]
      refine (printOf_calls hv (by omega) w _ hrw e3).mono fun e w' ⟨he, hb⟩ => ?_
      subst he
      exact ⟨F, nobody, .ret (.cell (.d (.sc (.string ⟨(prV v).toArray⟩)))), [], ⟨rfl, rfl⟩, .cell _ _ (.d _ _ (.sc _ rfl)), relW_below hrw hb, fun k => .gone rfl, hb.os, hb.tape, hb.output, hb.size, fun _ h => h, fun b hlt _ => hb.block b hlt, fun _ _ h => h, fun _ _ => Stab.refl _ _⟩
  · simp only [if_neg hv] at hy
    cases hy
end
end Go.Proofs.YtffefjmpmgkfoaaGreatDoor

/- The document's bytes of a value: R.BytesOf, walked at the seat over the kit's contracts of bytes.Buffer. -/
import Derived.Test.YtcdfapbfocdhjaaDoorProg
import Derived.Test.YtcdfapbfocdhjaaDoorShelf
import Derived.WalkKit
import Derived.KernelRfl
import Derived.Lib.BufferGrow
import Derived.Lib.BufferMore
import Derived.Lib.BufferOld
import Derived.Test.YtcdfapbfocdhjaaDoorSHigh
import Derived.Test.YtcdfapbfocdhjaaDoorPEnc
namespace Go.Proofs.YtcdfapbfocdhjaaDoor
open Go Esp Ev Pure
set_option linter.unusedSimpArgs false
set_option linter.unusedVariables false
set_option maxHeartbeats 2000000
set_option maxRecDepth 100000
def IsBuf (b : Nat) (l : List UInt8) (W : World) : Prop := Lib.IsBuffer 41 5 b b (Lib.byteCells l) W
theorem bc_one (l : List UInt8) : ∀ v ∈ Lib.byteCells l, v.oneCell' = true := by
  intro v hv
  simp only [Lib.byteCells, List.mem_map] at hv
  obtain ⟨u, _, rfl⟩ := hv
  rfl
theorem wb (b : Nat) (l : List UInt8) (c : Int) (w : World) (h : IsBuf b l w) (hl : l.length + 1 ≤ 140737488355328) (h0 : 0 ≤ c) (h1 : c ≤ 255) :
    Calls Tryd.prog 13 #[.pointer (some ⟨b, 0, none⟩), .int .u8 c] w fun e w' => e = .returned .nilIface ∧ IsBuf b (l ++ [UInt8.ofNat c.toNat]) w' ∧ RowKit.Below b w w' := by
  have hk := Any.Buffer_WriteByte Tryd.laysWB b b (Lib.byteCells l) c w h (Nat.le_of_lt h.lt) (bc_one l) (by rw [Lib.byteCells_length]; exact hl)
  refine hk.mono fun e w' ⟨h2, h3, h4⟩ => ⟨h2, ?_, h4⟩
  have e1 : Lib.byteCells (l ++ [UInt8.ofNat c.toNat]) = Lib.byteCells l ++ [.int .u8 c] := by
    have e2 : ((UInt8.ofNat c.toNat).toNat : Int) = c := by
      rw [UInt8.toNat_ofNat_of_lt' (by show _ < 256; omega)]
      omega
    unfold Lib.byteCells
    rw [List.map_append]
    simp only [List.map_cons, List.map_nil, e2]
  unfold IsBuf
  rw [e1]
  exact h3
theorem ws (b : Nat) (l : List UInt8) (s : ByteArray) (w : World) (h : IsBuf b l w) (hl : l.length + s.size ≤ 140737488355328) :
    Calls Tryd.prog 14 #[.pointer (some ⟨b, 0, none⟩), .string s] w fun e w' => e = .returned (.tuple #[.int .i64 s.size, .nilIface]) ∧ IsBuf b (l ++ s.data.toList) w' ∧ RowKit.Below b w w' := by
  have hk := Any.Buffer_WriteString Tryd.laysWS b b (Lib.byteCells l) s w h (Nat.le_of_lt h.lt) (bc_one l) (by rw [Lib.byteCells_length]; exact hl)
  refine hk.mono fun e w' ⟨h2, h3, h4⟩ => ⟨h2, ?_, h4⟩
  unfold IsBuf
  rw [show Lib.byteCells (l ++ s.data.toList) = Lib.byteCells l ++ Lib.byteCells s.data.toList by simp [Lib.byteCells]]
  exact h3
def St (n : Nat) (k m : Int) (s : ByteArray) (lv : Value) (w : World) (l : List UInt8) (W : World) : Prop :=
  n = w.heap.size ∧ IsBuf (n + 1) l W ∧ W.heap[n]? = some (.cells #[.int .i64 k, .int .i64 m, .string s, lv] 24 (0, 0)) ∧ RowKit.Below n w W
theorem St.step {n : Nat} {k m : Int} {s : ByteArray} {lv : Value} {w : World} {l l' : List UInt8} {W W' : World} (h : St n k m s lv w l W) (h1 : IsBuf (n + 1) l' W') (h2 : RowKit.Below (n + 1) W W') : St n k m s lv w l' W' :=
  ⟨h.1, h1, (h2.block _ (by omega)).trans h.2.2.1, h.2.2.2.trans (h2.mono (by omega))⟩
theorem St.start (k m : Int) (s : ByteArray) (lv : Value) (w : World) : St w.heap.size k m s lv w [] ((w.alloc (.cells #[.int .i64 k, .int .i64 m, .string s, lv] 24)).alloc (.cells #[.slice none 0 0, .int .i64 0, .int .i8 0] 41)) := by
  have h := Lib.fresh_isBuffer 41 5 (w.alloc (.cells #[.int .i64 k, .int .i64 m, .string s, lv] 24))
  have e : (w.alloc (.cells #[.int .i64 k, .int .i64 m, .string s, lv] 24)).heap.size = w.heap.size + 1 := Array.size_push ..
  rw [e] at h
  refine ⟨rfl, h, ?_, ((RowKit.Below.refl _ w).alloc (Nat.le_refl _) _).alloc (by rw [e]; omega) _⟩
  rw [RowKit.Below.heap_alloc _ _ _ (by rw [e]; omega)]
  exact heap_alloc_new w _
theorem St.fin {n : Nat} {k m : Int} {s : ByteArray} {lv : Value} {w : World} {l : List UInt8} {W : World} (h : St n k m s lv w l W) (q : Nat) : RowKit.Below n w (W.drewN q) :=
  h.2.2.2.trans ⟨rfl, rfl, rfl, Nat.le_refl _, fun _ _ => rfl⟩
theorem wstr (b : Nat) (l : List UInt8) (w : World) (h : IsBuf b l w) :
    Calls Tryd.prog 16 #[.pointer (some ⟨b, 0, none⟩)] w fun e w' => e = .returned (.string ⟨l.toArray⟩) ∧ ∃ n, w' = w.drewN n :=
  Any.Buffer_String Tryd.laysBS b b l w h
theorem bytes0 (m : Int) (s : ByteArray) (lv : Value) (w : World) :
    Calls Tryd.prog 7 #[.agg #[.int .i64 0, .int .i64 m, .string s, lv]] w fun e w' => e = .returned (.string ⟨#[0]⟩) ∧ RowKit.Below w.heap.size w w' := by
  have h0 := St.start 0 m s lv w
  go_enter Tryd.func7, Tryd.ntmps7
  go_wp2_with (go_at_call 13; refine (wb (w.heap.size + 1) [] _ _ h0.2.1 (by decide) (by decide) (by decide)).mono ?_)
  rintro e W1 ⟨rfl, hI, hb⟩
  have h1 := h0.step hI hb
  have hc := h1.2.2.1
  have c0 : W1.cell? ⟨w.heap.size, 0, none⟩ = some (.int .i64 0) := by rw [Lib.cell_of_heap hc]; rfl
  go_wp2_with (go_at_call 16; refine (wstr _ _ _ hI).mono ?_)
  rintro e W2 ⟨rfl, q, rfl⟩
  go_wp2
  go_ret
  exact ⟨rfl, h1.fin q⟩
def High (w : World) (m : Int) (z : Nat) (s : List UInt8) : Prop := ∀ W, RowKit.Below w.heap.size w W → Calls Tryd.prog 15 #[.int .u64 m, .int .i64 z] W fun e w' => e = .returned (.string ⟨s.toArray⟩) ∧ RowKit.Below W.heap.size W w'
theorem St.calm {n : Nat} {k m : Int} {s : ByteArray} {lv : Value} {w : World} {l : List UInt8} {W W' : World} (h : St n k m s lv w l W) (h2 : RowKit.Below W.heap.size W W') : St n k m s lv w l W' := by
  have hlt : n + 1 < W.heap.size := h.2.1.lt
  refine ⟨h.1, ?_, (h2.block _ (by omega)).trans h.2.2.1, h.2.2.2.trans (h2.mono (by omega))⟩
  have hI := h.2.1
  unfold IsBuf at hI ⊢
  exact Lib.IsBuffer.old hI h2
theorem bytes1 (m : Int) (s : ByteArray) (lv : Value) (w : World) (l8 : List UInt8) (hz : l8.length = 8) (hh : High w (bits BinOp.xor .u64 (IntKind.wrap .u64 m) 9223372036854775808) 8 l8) :
    Calls Tryd.prog 7 #[.agg #[.int .i64 1, .int .i64 m, .string s, lv]] w fun e w' => e = .returned (.string ⟨(1 :: l8).toArray⟩) ∧ RowKit.Below w.heap.size w w' := by
  have h0 := St.start 1 m s lv w
  go_enter Tryd.func7, Tryd.ntmps7
  go_wp2_with (go_at_call 13; refine (wb (w.heap.size + 1) [] _ _ h0.2.1 (by decide) (by decide) (by decide)).mono ?_)
  first | rintro e W1 rfl hI hb | rintro e W1 ⟨rfl, hI, hb⟩
  have h1 := h0.step hI hb
  have hc := h1.2.2.1
  have c0 : W1.cell? ⟨w.heap.size, 0, none⟩ = some (.int .i64 1) := by rw [Lib.cell_of_heap hc]; rfl
  have c1 : W1.cell? ⟨w.heap.size, 1, none⟩ = some (.int .i64 m) := by rw [Lib.cell_of_heap hc]; rfl
  go_wp2_with (go_at_call 15; refine (hh _ h1.2.2.2).mono ?_)
  first | rintro e W2 rfl hb2 | rintro e W2 ⟨rfl, hb2⟩
  have h2 := h1.calm hb2
  go_wp2_with (go_at_call 14; refine (ws (w.heap.size + 1) _ ⟨l8.toArray⟩ _ h2.2.1 (by show _ + l8.toArray.size ≤ _; simp [hz])).mono ?_)
  first | rintro e W3 rfl hI3 hb3 | rintro e W3 ⟨rfl, hI3, hb3⟩
  have h3 := h2.step hI3 hb3
  go_wp2_with (go_at_call 16; refine (wstr _ _ _ h3.2.1).mono ?_)
  first | rintro e W4 rfl q rfl | rintro e W4 ⟨rfl, q, rfl⟩
  go_wp2
  go_ret
  exact ⟨rfl, h3.fin q⟩
theorem bytes2 (m : Int) (s : ByteArray) (lv : Value) (w : World) (l8 : List UInt8) (hz : l8.length = 8) (hh : High w (bits BinOp.xor .u64 (IntKind.wrap .u64 m) 9223372036854775808) 8 l8) :
    Calls Tryd.prog 7 #[.agg #[.int .i64 2, .int .i64 m, .string s, lv]] w fun e w' => e = .returned (.string ⟨(2 :: l8).toArray⟩) ∧ RowKit.Below w.heap.size w w' := by
  have h0 := St.start 2 m s lv w
  go_enter Tryd.func7, Tryd.ntmps7
  go_wp2_with (go_at_call 13; refine (wb (w.heap.size + 1) [] _ _ h0.2.1 (by decide) (by decide) (by decide)).mono ?_)
  first | rintro e W1 rfl hI hb | rintro e W1 ⟨rfl, hI, hb⟩
  have h1 := h0.step hI hb
  have hc := h1.2.2.1
  have c0 : W1.cell? ⟨w.heap.size, 0, none⟩ = some (.int .i64 2) := by rw [Lib.cell_of_heap hc]; rfl
  have c1 : W1.cell? ⟨w.heap.size, 1, none⟩ = some (.int .i64 m) := by rw [Lib.cell_of_heap hc]; rfl
  go_wp2_with (go_at_call 15; refine (hh _ h1.2.2.2).mono ?_)
  first | rintro e W2 rfl hb2 | rintro e W2 ⟨rfl, hb2⟩
  have h2 := h1.calm hb2
  go_wp2_with (go_at_call 14; refine (ws (w.heap.size + 1) _ ⟨l8.toArray⟩ _ h2.2.1 (by show _ + l8.toArray.size ≤ _; simp [hz])).mono ?_)
  first | rintro e W3 rfl hI3 hb3 | rintro e W3 ⟨rfl, hI3, hb3⟩
  have h3 := h2.step hI3 hb3
  go_wp2_with (go_at_call 16; refine (wstr _ _ _ h3.2.1).mono ?_)
  first | rintro e W4 rfl q rfl | rintro e W4 ⟨rfl, q, rfl⟩
  go_wp2
  go_ret
  exact ⟨rfl, h3.fin q⟩
theorem bytes3 (m : Int) (s : ByteArray) (lv : Value) (w : World) (l2 : List UInt8) (hz : l2.length = 2) (hs : s.size ≤ 4000) (hh : High w (s.size : Int) 2 l2) :
    Calls Tryd.prog 7 #[.agg #[.int .i64 3, .int .i64 m, .string s, lv]] w fun e w' => e = .returned (.string ⟨(3 :: (l2 ++ s.data.toList)).toArray⟩) ∧ RowKit.Below w.heap.size w w' := by
  have h0 := St.start 3 m s lv w
  have hs9 : (s.size : Int) ≤ 4000 := by omega
  go_enter Tryd.func7, Tryd.ntmps7
  go_wp2_with (go_at_call 13; refine (wb (w.heap.size + 1) [] _ _ h0.2.1 (by decide) (by decide) (by decide)).mono ?_)
  first | rintro e W1 rfl hI hb | rintro e W1 ⟨rfl, hI, hb⟩
  have h1 := h0.step hI hb
  have hc := h1.2.2.1
  have c0 : W1.cell? ⟨w.heap.size, 0, none⟩ = some (.int .i64 3) := by rw [Lib.cell_of_heap hc]; rfl
  have c2 : W1.cell? ⟨w.heap.size, 2, none⟩ = some (.string s) := by rw [Lib.cell_of_heap hc]; rfl
  go_wp2_with (go_at_call 15; refine (hh _ h1.2.2.2).mono ?_)
  first | rintro e W2 rfl hb2 | rintro e W2 ⟨rfl, hb2⟩
  have h2 := h1.calm hb2
  go_wp2_with (go_at_call 14; refine (ws (w.heap.size + 1) _ ⟨l2.toArray⟩ _ h2.2.1 (by show _ + l2.toArray.size ≤ _; simp [hz])).mono ?_)
  first | rintro e W3 rfl hI3 hb3 | rintro e W3 ⟨rfl, hI3, hb3⟩
  have h3 := h2.step hI3 hb3
  have hc3 := h3.2.2.1
  have d2 : W3.cell? ⟨w.heap.size, 2, none⟩ = some (.string s) := by rw [Lib.cell_of_heap hc3]; rfl
  go_wp2_with (go_at_call 14; refine (ws (w.heap.size + 1) _ s _ h3.2.1 (by simp [hz]; omega)).mono ?_)
  first | rintro e W4 rfl hI4 hb4 | rintro e W4 ⟨rfl, hI4, hb4⟩
  have h4 := h3.step hI4 hb4
  go_wp2_with (go_at_call 16; refine (wstr _ _ _ h4.2.1).mono ?_)
  first | rintro e W5 rfl q rfl | rintro e W5 ⟨rfl, q, rfl⟩
  go_wp2
  go_ret
  exact ⟨by simp, h4.fin q⟩
def iOf : Value → Int
  | .int _ n => n
  | _ => 0
theorem pre_le (es : Nat → List UInt8) {k n : Nat} (h : k ≤ n) : ((List.range k).flatMap es).length ≤ ((List.range n).flatMap es).length := by
  induction n with
  | zero => obtain rfl : k = 0 := by omega
            exact Nat.le_refl _
  | succ n ih =>
    by_cases e : k = n + 1
    · subst e
      exact Nat.le_refl _
    · have := ih (by omega)
      rw [List.range_succ, List.flatMap_append, List.length_append]
      omega
theorem bytes4 (m : Int) (s : ByteArray) (w : World) (sb off n cap : Nat) (hn : n ≤ 30) (a b : Nat → Int) (c : Nat → ByteArray) (p : Nat → Option Addr) (q r : Nat → Nat) (es : Nat → List UInt8) (hsb : sb < w.heap.size) (hlim : ((List.range n).flatMap es).length ≤ 100000000000000)
    (h0c : ∀ i, i < n → w.cell? ⟨sb, off + i * 4, none⟩ = some (.int .i64 (a i)) ∧ w.cell? ⟨sb, off + i * 4 + 1, none⟩ = some (.int .i64 (b i)) ∧ w.cell? ⟨sb, off + i * 4 + 2, none⟩ = some (.string (c i)) ∧ w.cell? ⟨sb, off + i * 4 + 3, none⟩ = some (.slice (p i) (q i) (r i)))
    (hrec : ∀ i, i < n → ∀ W, RowKit.Below w.heap.size w W → Calls Tryd.prog 7 #[.agg #[.int .i64 (a i), .int .i64 (b i), .string (c i), .slice (p i) (q i) (r i)]] W fun e w' => e = .returned (.string ⟨(es i).toArray⟩) ∧ RowKit.Below W.heap.size W w') :
    Calls Tryd.prog 7 #[.agg #[.int .i64 4, .int .i64 m, .string s, .slice (some ⟨sb, off, none⟩) n cap]] w fun e w' => e = .returned (.string ⟨(4 :: UInt8.ofNat n :: (List.range n).flatMap es).toArray⟩) ∧ RowKit.Below w.heap.size w w' := by
  have h0 := St.start 4 m s (.slice (some ⟨sb, off, none⟩) n cap) w
  have hn9 : (n : Int) ≤ 30 := by omega
  have hnw : IntKind.wrap .u8 (n : Int) = n := by
    simp only [IntKind.wrap, IntKind.bits, IntKind.signed]
    simp
    omega
  go_enter Tryd.func7, Tryd.ntmps7
  go_wp2_with (go_at_call 13; refine (wb (w.heap.size + 1) [] _ _ h0.2.1 (by decide) (by decide) (by decide)).mono ?_)
  first | rintro e W1 rfl hI hb | rintro e W1 ⟨rfl, hI, hb⟩
  have h1 := h0.step hI hb
  have hc := h1.2.2.1
  have c0 : W1.cell? ⟨w.heap.size, 0, none⟩ = some (.int .i64 4) := by rw [Lib.cell_of_heap hc]; rfl
  have c3 : W1.cell? ⟨w.heap.size, 3, none⟩ = some (.slice (some ⟨sb, off, none⟩) n cap) := by rw [Lib.cell_of_heap hc]; rfl
  go_wp2_with (go_at_call 13; refine (wb (w.heap.size + 1) _ _ _ h1.2.1 (by simp) (by first | omega | (rw [hnw]; omega)) (by first | omega | (rw [hnw]; omega))).mono ?_)
  first | rintro e W2 rfl hI2 hb2 | rintro e W2 ⟨rfl, hI2, hb2⟩
  have h2 := h1.step hI2 hb2
  have hc2 := h2.2.2.1
  have d3 : W2.cell? ⟨w.heap.size, 3, none⟩ = some (.slice (some ⟨sb, off, none⟩) n cap) := by rw [Lib.cell_of_heap hc2]; rfl
  go_wp2
  go_loopw [42] (fun i wr => ∃ k : Nat, k ≤ n ∧ i = .int .i64 k ∧ St w.heap.size 4 m s (.slice (some ⟨sb, off, none⟩) n cap) w (4 :: UInt8.ofNat n :: (List.range k).flatMap es) wr)
    (fun i _ => n - (iOf i).toNat)
  case atStart => exact ⟨0, Nat.zero_le _, rfl, by simpa using h2⟩
  case round =>
    obtain ⟨k, hk, rfl, hst⟩ := hrel
    by_cases hkn : k < n
    · obtain ⟨x0, x1, x2, x3⟩ := h0c k hkn
      have hbl := hst.2.2.2
      have y0 := (hbl.cell (p := ⟨sb, off + k * 4, none⟩) (by exact hsb)).trans x0
      have y1 := (hbl.cell (p := ⟨sb, off + k * 4 + 1, none⟩) (by exact hsb)).trans x1
      have y2 := (hbl.cell (p := ⟨sb, off + k * 4 + 2, none⟩) (by exact hsb)).trans x2
      have y3 := (hbl.cell (p := ⟨sb, off + k * 4 + 3, none⟩) (by exact hsb)).trans x3
      have hal := (RowKit.Below.refl wr.heap.size wr).alloc (Nat.le_refl _) (.cells #[.int .i64 (a k), .int .i64 (b k), .string (c k), .slice (p k) (q k) (r k)] 24)
      have hst2 := hst.calm hal
      go_wp2_with (go_at_call 7; refine (hrec k hkn _ hst2.2.2.2).mono ?_)
      first | rintro e W3 rfl hb3 | rintro e W3 ⟨rfl, hb3⟩
      have h3 := hst2.calm hb3
      have hle := pre_le es (show k + 1 ≤ n by omega)
      have hes : (List.range (k + 1)).flatMap es = (List.range k).flatMap es ++ es k := by rw [List.range_succ, List.flatMap_append]; simp
      have hlen : (4 :: UInt8.ofNat n :: (List.range k).flatMap es).length + (⟨(es k).toArray⟩ : ByteArray).size ≤ 140737488355328 := by
        rw [hes] at hle
        have z : (⟨(es k).toArray⟩ : ByteArray).size = (es k).length := by show (es k).toArray.size = _; simp
        rw [z]
        simp only [List.length_cons, List.length_append] at hle ⊢
        omega
      go_wp2_with (go_at_call 14; refine (ws (w.heap.size + 1) _ ⟨(es k).toArray⟩ _ h3.2.1 hlen).mono ?_)
      first | rintro e W4 rfl hI4 hb4 | rintro e W4 ⟨rfl, hI4, hb4⟩
      have h4 := h3.step hI4 hb4
      go_wp2
      go_roundw
      case rel =>
        refine ⟨k + 1, by omega, by go_num, ?_⟩
        rw [hes]
        simpa using h4
      case measure => simp [iOf]; omega
    · have hkn : k = n := by omega
      subst hkn
      go_wp2_with (go_at_call 16; refine (wstr _ _ _ hst.2.1).mono ?_)
      first | rintro e W5 rfl q rfl | rintro e W5 ⟨rfl, q, rfl⟩
      go_wp2
      go_ret
      exact ⟨rfl, hst.fin q⟩
theorem bytes4z (m : Int) (s : ByteArray) (w : World) (a : Option Addr) (cap : Nat) :
    Calls Tryd.prog 7 #[.agg #[.int .i64 4, .int .i64 m, .string s, .slice a 0 cap]] w fun e w' => e = .returned (.string ⟨#[4, 0]⟩) ∧ RowKit.Below w.heap.size w w' := by
  have h0 := St.start 4 m s (.slice a 0 cap) w
  go_enter Tryd.func7, Tryd.ntmps7
  go_wp2_with (go_at_call 13; refine (wb (w.heap.size + 1) [] _ _ h0.2.1 (by decide) (by decide) (by decide)).mono ?_)
  first | rintro e W1 rfl hI hb | rintro e W1 ⟨rfl, hI, hb⟩
  have h1 := h0.step hI hb
  have hc := h1.2.2.1
  have c0 : W1.cell? ⟨w.heap.size, 0, none⟩ = some (.int .i64 4) := by rw [Lib.cell_of_heap hc]; rfl
  have c3 : W1.cell? ⟨w.heap.size, 3, none⟩ = some (.slice a 0 cap) := by rw [Lib.cell_of_heap hc]; rfl
  go_wp2_with (go_at_call 13; refine (wb (w.heap.size + 1) _ _ _ h1.2.1 (by simp) (by decide) (by decide)).mono ?_)
  first | rintro e W2 rfl hI2 hb2 | rintro e W2 ⟨rfl, hI2, hb2⟩
  have h2 := h1.step hI2 hb2
  have hc2 := h2.2.2.1
  have d3 : W2.cell? ⟨w.heap.size, 3, none⟩ = some (.slice a 0 cap) := by rw [Lib.cell_of_heap hc2]; rfl
  go_wp2
  refine wp_loop_rounds 1 ?_
  rw [rounds_succ]
  go_wp2_with (go_at_call 16; refine (wstr _ _ _ h2.2.1).mono ?_)
  first | rintro e W5 rfl q rfl | rintro e W5 ⟨rfl, q, rfl⟩
  go_wp2
  go_ret
  exact ⟨rfl, h2.fin q⟩

/-! ## any value -/
section
variable [Tabs]
omit [Tabs] in
theorem sc_inv {w : World} {F : Nat → Prop} {u v : Value} (h : RelD w F (.sc u) v) : v = u := by
  cases h with
  | sc _ _ => rfl
omit [Tabs] in
theorem nl_inv {w : World} {F : Nat → Prop} {t : Ty} {l : List t.den} {v : Value} (h : RelD w F (.nl t l) v) : RelD w F (.sl t.sz l.length (flat t l)) v := by
  cases h with
  | nl _ _ _ h => exact h
omit [Tabs] in
theorem nl_slice {w : World} {F : Nat → Prop} {t : Ty} {l : List t.den} {v : Value} (h : RelD w F (.nl t l) v) : ∃ p q r, v = .slice p q r := by
  have h := nl_inv h
  generalize hfl : flat t l = fl at h
  generalize hln : l.length = ln at h
  cases h with
  | nil e a cap => exact ⟨_, _, _, rfl⟩
  | sl => exact ⟨_, _, _, rfl⟩
omit [Tabs] in
theorem arr4 {arr : Array Value} (hs : arr.size = 4) : arr = #[arr.getD 0 undef, arr.getD 1 undef, arr.getD 2 undef, arr.getD 3 undef] := by
  apply Array.ext
  · simpa using hs
  · intro i h1 h2
    have h3 : i = 0 ∨ i = 1 ∨ i = 2 ∨ i = 3 := by omega
    rcases h3 with rfl | rfl | rfl | rfl <;> simp [Array.getD_eq_getD_getElem?, h1]
@[reducible] def bareT [t : Tabs] : Tabs := @Tabs.mk t.get [] none
def nobody : Env := fun _ => none
theorem relW_below {F : Nat → Prop} {w W : World} (h : RelW F nobody w) (hb : RowKit.Below w.heap.size w W) : RelW F nobody W :=
  ⟨h.dis, fun b hf => Nat.lt_of_lt_of_le (h.lt b hf) hb.size, h.inj, h.tab_of (fun b hf => hb.block b (h.lt b hf)) fun _ h => h⟩
theorem high_walk {F : Nat → Prop} {w : World} (hw : RelW F nobody w) (m z : Nat) (hm : m < 18446744073709551616) (hz : z ≤ 8) : High w (m : Int) z (numB (m : Int) z) := by
  intro W hb
  have hW := relW_below hw hb
  have hW1 : @RelW bareT F nobody W := @RelW.mk bareT F nobody W hW.dis hW.lt hW.inj hW.tab
  have q1 : @QuietD bareT Tryd.prog := @QuietD.mk bareT Tryd.prog rfl fun g hg => by cases hg
  have hc := @Hi.ok_espalierref_high bareT q1 20
  have hn := hc ((m : Int), (z : Int), ()) _ (high_ok 20 m z hm hz (by omega))
  refine (hn F nobody #[.int .u64 m, .int .i64 z] W hW1 (fun k => ?_) ⟨rfl, fun i hi => ?_⟩).mono ?_
  · exact .gone rfl
  · have hi2 : i = 0 ∨ i = 1 := by
      have : i < 2 := hi
      omega
    rcases hi2 with rfl | rfl
    · exact .cell _ _ (.d _ _ (.sc _ rfl))
    · exact .cell _ _ (.d _ _ (.sc _ rfl))
  · rintro e w' ⟨F', ρ', r, ob', ⟨h1, h2⟩, h3, h4, h5, h6⟩
    subst h1
    cases e with
    | returned v =>
      have h7 : RelAV w' F' ρ' #[] (.cell (.d (.sc (.string ⟨(numB (m : Int) z).toArray⟩)))) v := h3
      cases h7 with
      | cell _ _ h7 => cases h7 with
        | d _ _ h7 =>
          have := sc_inv h7
          subst this
          exact ⟨rfl, h6.os, h6.tape, h6.output, h6.size, fun k hk => h6.keep k hk (by rintro ⟨_, _, h, _⟩; cases h)⟩
    | _ => exact h3.elim
omit [Tabs] in
theorem flat_sub {t : Ty} {l : List t.den} {i j : Nat} (hi : i < l.length) (hj : j < t.sz) : (flat t l)[i * t.sz + j]? = (cells t l[i])[j]? := by
  have h := flat_at t (xs := l) (i := i) (x := l[i]) (by simp [hi])
  rw [← h, List.getElem?_take, if_pos hj, List.getElem?_drop]
def nth (l : List Val) (i : Nat) : Val := l.getD i (.mk 0 0 ⟨#[]⟩ [])
omit [Tabs] in
theorem encLs_eq (l : List Val) : (List.range l.length).flatMap (fun i => encL (nth l i)) = encLs l := by
  have : ∀ (r : List Val), r.flatMap encL = encLs r := by
    intro r
    induction r with
    | nil => rfl
    | cons x r ih => rw [List.flatMap_cons, ih, encLs]
  rw [← this]
  induction l with
  | nil => rfl
  | cons x r ih =>
    rw [List.length_cons, List.range_succ_eq_map, List.flatMap_cons, List.flatMap_map, List.flatMap_cons, ← ih]
    rfl
theorem bytesOf_calls {F : Nat → Prop} : ∀ {v : Val} {d : Int}, OkV v d → 1 ≤ d → ∀ (w : World) (lv : Value), RelW F nobody w → RelD w F (.nl .val v.l) lv →
    Calls Tryd.prog 7 #[.agg #[.int .i64 v.kind, .int .i64 v.n, .string v.s, lv]] w fun e w' => e = .returned (.string ⟨(encL v).toArray⟩) ∧ RowKit.Below w.heap.size w w' := by
  intro v d h
  induction h with
  | null n s l d => intro _ w lv _ _; exact bytes0 n s lv w
  | truth n s l d h1 h2 =>
    intro _ w lv hw _
    refine bytes1 n s lv w (numB (n + 9223372036854775808) 8) (numB_length _ _) ?_
    have := high_walk hw (n + 9223372036854775808).toNat 8 (by omega) (by omega)
    rw [show ((n + 9223372036854775808).toNat : Int) = n + 9223372036854775808 by omega, ← top_flip n h1 h2] at this
    rw [← top_flip n h1 h2]
    exact this
  | int n s l d h1 h2 =>
    intro _ w lv hw _
    refine bytes2 n s lv w (numB (n + 9223372036854775808) 8) (numB_length _ _) ?_
    have := high_walk hw (n + 9223372036854775808).toNat 8 (by omega) (by omega)
    rw [show ((n + 9223372036854775808).toNat : Int) = n + 9223372036854775808 by omega, ← top_flip n h1 h2] at this
    rw [← top_flip n h1 h2]
    exact this
  | text n s l d h1 =>
    intro _ w lv hw _
    exact bytes3 n s lv w (numB (s.size : Int) 2) (numB_length _ _) h1 (high_walk hw s.size 2 (by omega) (by omega))
  | list n s l d h1 h2 h3 ih =>
    intro hd w lv hw hlv
    have hle := encL_le (OkV.list n s l d h1 h2 h3)
    have htop := encTop_all d hd
    have hlv : RelD w F (.sl (Ty.sz .val) l.length (flat .val l)) lv := nl_inv hlv
    generalize hfl : flat .val l = fl at hlv
    generalize hln : l.length = ln at hlv
    cases hlv with
    | nil e a cap =>
      obtain rfl : l = [] := List.eq_nil_of_length_eq_zero hln
      exact bytes4z n s w a cap
    | sl e nn cs b off cap c hF hl hcap hc hr =>
      subst hln
      have hcell : ∀ i, i < l.length → ∀ j, j < 4 → ∃ x, (cVal (nth l i))[j]? = some x ∧ w.cell? ⟨b, off + (i * 4 + j), none⟩ = some (c (i * 4 + j)) ∧ RelD w F x (c (i * 4 + j)) := by
        intro i hi j hj
        have hlt : i * 4 + j < (flat .val l).length := by rw [flat_length]; show i * 4 + j < l.length * 4; omega
        have e1 := flat_sub (t := .val) (l := l) (i := i) (j := j) hi hj
        have e2 : (cells .val l[i]) = cVal (nth l i) := by
          have : nth l i = l[i] := by simp [nth, List.getD_eq_getElem?_getD, hi]
          rw [this]
          rfl
        rw [e2] at e1
        refine ⟨(flat .val l)[i * 4 + j], ?_, hc _ (by rw [← hfl]; exact hlt), ?_⟩
        · rw [← e1]
          exact List.getElem?_eq_getElem hlt
        · subst hfl
          exact hr _ hlt
      have k0 : ∀ i, i < l.length → w.cell? ⟨b, off + i * 4, none⟩ = some (.int .i64 (nth l i).kind) := fun i hi => by
        obtain ⟨x, hx, h5, h6⟩ := hcell i hi 0 (by omega)
        cases hx
        rw [sc_inv h6] at h5
        exact h5
      have k1 : ∀ i, i < l.length → w.cell? ⟨b, off + i * 4 + 1, none⟩ = some (.int .i64 (nth l i).n) := fun i hi => by
        obtain ⟨x, hx, h5, h6⟩ := hcell i hi 1 (by omega)
        cases hx
        rw [sc_inv h6] at h5
        exact h5
      have k2 : ∀ i, i < l.length → w.cell? ⟨b, off + i * 4 + 2, none⟩ = some (.string (nth l i).s) := fun i hi => by
        obtain ⟨x, hx, h5, h6⟩ := hcell i hi 2 (by omega)
        cases hx
        rw [sc_inv h6] at h5
        exact h5
      have k3 : ∀ i, ∃ u : Option Addr × Nat × Nat, i < l.length → w.cell? ⟨b, off + i * 4 + 3, none⟩ = some (.slice u.1 u.2.1 u.2.2) ∧ RelD w F (.nl .val (nth l i).l) (.slice u.1 u.2.1 u.2.2) := fun i => by
        by_cases hi : i < l.length
        · obtain ⟨x, hx, h5, h6⟩ := hcell i hi 3 (by omega)
          cases hx
          obtain ⟨p, q, r, e⟩ := nl_slice h6
          rw [e] at h5 h6
          exact ⟨(p, q, r), fun _ => ⟨h5, h6⟩⟩
        · exact ⟨(none, 0, 0), fun h => absurd h hi⟩
      obtain ⟨U, hU⟩ := Classical.axiomOfChoice k3
      have hes := encLs_eq l
      have := bytes4 n s w b off l.length cap h1 (fun i => (nth l i).kind) (fun i => (nth l i).n) (fun i => (nth l i).s) (fun i => (U i).1) (fun i => (U i).2.1) (fun i => (U i).2.2) (fun i => encL (nth l i)) (hw.lt b hF)
        (by rw [hes]; simp [encL] at hle; omega) (fun i hi => ⟨k0 i hi, k1 i hi, k2 i hi, (hU i hi).1⟩)
        (fun i hi W hb => ih (nth l i) (by simp [nth, List.getD_eq_getElem?_getD, hi]) (by omega) W _ (relW_below hw hb) ((hU i hi).2.mono (fun b hf => hb.block b (hw.lt b hf)) fun _ h => h))
      rw [hes] at this
      exact this
noncomputable def F_bytesOf : FnT := ⟨1, ⟨[], [(0, .val)], [], []⟩, [.v .str], []⟩
theorem bytesOfN_ok : Contract Tryd.prog 7 F_bytesOf bytesOfN := by
  rintro ⟨v, u⟩ y hy
  unfold bytesOfN at hy
  by_cases hv : OkV v 1
  · simp only [if_pos hv] at hy
    cases hy
    intro F ρ vs w hrw hob hra
    have hsz : vs.size = 1 := hra.sz
    have h0 : RelAV w F ρ #[] (.aggD (cVal v)) (vs.getD 0 undef) := hra.rel 0 (by show 0 < 1; omega)
    have hρ : ρ = nobody := funext fun k => by
      have := hob k
      cases this with
      | gone h => exact h
    subst hρ
    generalize hx : cVal v = cs at h0
    generalize hq : vs.getD 0 undef = q at h0
    cases h0 with
    | aggD _ arr hs h =>
      subst hx
      have hs4 : arr.size = 4 := hs
      have e0 := sc_inv (h 0 (by show 0 < 4; omega))
      have e1 := sc_inv (h 1 (by show 1 < 4; omega))
      have e2 := sc_inv (h 2 (by show 2 < 4; omega))
      have e3 : RelD w F (.nl .val v.l) (arr.getD 3 undef) := h 3 (by show 3 < 4; omega)
      have ea := arr4 hs4
      rw [e0, e1, e2] at ea
      have e : vs = #[.agg #[.int .i64 v.kind, .int .i64 v.n, .string v.s, arr.getD 3 undef]] := by
        rw [← ea, ← hq]
        apply Array.ext
        · simpa using hsz
        · intro i h1 h2
          have : i = 0 := by simp at h2; omega
          subst this
          simp [Array.getD_eq_getD_getElem?, h1]
      rw [e]
      refine (bytesOf_calls hv (by omega) w _ hrw e3).mono fun e w' ⟨he, hb⟩ => ?_
      subst he
      exact ⟨F, nobody, .ret (.cell (.d (.sc (.string ⟨(encL v).toArray⟩)))), [], ⟨rfl, rfl⟩, .cell _ _ (.d _ _ (.sc _ rfl)), relW_below hrw hb, fun k => .gone rfl, hb.os, hb.tape, hb.output, hb.size, fun _ h => h, fun b hlt _ => hb.block b hlt, fun _ _ h => h, fun _ _ => Stab.refl _ _⟩
  · simp only [if_neg hv] at hy
    cases hy
end
end Go.Proofs.YtcdfapbfocdhjaaDoor

/- ESP, part 16: what an argument reads as, as frozen data. -/
import Derived.Test.YtjecnkdkhniflaaDoorEspEnd
import Derived.ChangeArms
import Derived.DataReads
namespace Esp
open Go Go.ChangeShapes Go.RowKit
set_option linter.unusedSimpArgs false
set_option linter.unusedVariables false
variable [Tabs]

def inW (w : World) (b : Nat) : Prop := b < w.heap.size
def Held (w : World) (vs : List Value) (ds : List D) : Prop := vs.length = ds.length ∧ ∀ i (h : i < ds.length), RelD w (inW w) ds[i] (vs.getD i undef)

/- how many values and letters a reading holds (as the Rows texts of every seat count it) -/
mutual
def bulkD {H : Type} : DataW H → Nat
  | .lit (.string bytes) => bytes.length + 1
  | .lit _ => 1
  | .nil => 1
  | .ptr d => bulkD d + 1
  | .slice elems spare => bulkDs elems + bulkDs spare + 1
  | .agg parts => bulkDs parts + 1
  | .iface _ d => bulkD d + 1
  | .map entries => bulkEs entries + 1
  | .held _ => 1
def bulkDs {H : Type} : List (DataW H) → Nat
  | [] => 0
  | d :: r => bulkD d + bulkDs r
def bulkEs {H : Type} : List (Lit × DataW H) → Nat
  | [] => 0
  | x :: r => bulkE x + bulkEs r
def bulkE {H : Type} : Lit × DataW H → Nat
  | (.string bytes, d) => bytes.length + bulkD d + 1
  | (_, d) => bulkD d + 1
end

def Rd (P : Program) (t : TypeId) {α : Type} (enc : α → List D) (J : α → Prop) (bk : α → Nat) (fuel : Nat) : Prop :=
  ∀ {H : Type} (e : TypeId × Value → H) (w : World) (vs : List Value) (d : DataW H) (ps : List MemPlace), DataW.trod e P w 0 (fun _ => true) true fuel t vs = some (d, ps) → ∃ x, J x ∧ Held w vs (enc x) ∧ bk x ≤ bulkD d

def wfI (k : IntKind) (n : Int) : Prop := (Lit.int k n).wf = true

variable {P : Program} {t : TypeId} {α β : Type}

omit [Tabs] in
theorem held_one {w : World} {v : Value} {x : D} (h : RelD w (inW w) x v) : Held w [v] [x] := ⟨rfl, fun i hi => by
  obtain rfl : i = 0 := by simp at hi; omega
  exact h⟩

omit [Tabs] in
theorem Rd.int {k : IntKind} (ht : P.underlying t = some (.int k)) (fuel : Nat) : Rd P t (fun n : Int => [.sc (.int k n)]) (wfI k) (fun _ => 1) fuel := by
  intro H e w vs d ps h
  obtain ⟨n, rfl, hx, hw⟩ := DataW.trod_int ht h
  cases hx
  exact ⟨n, hw, held_one (.sc _ rfl), by simp [bulkD]⟩
omit [Tabs] in
theorem Rd.bool (ht : P.underlying t = some .bool) (fuel : Nat) : Rd P t (fun b : Bool => [.sc (.bool b)]) (fun _ => True) (fun _ => 1) fuel := by
  intro H e w vs d ps h
  obtain ⟨n, rfl, hx⟩ := DataW.trod_bool ht h
  cases hx
  exact ⟨n, trivial, held_one (.sc _ rfl), by simp [bulkD]⟩
omit [Tabs] in
theorem Rd.string (ht : P.underlying t = some .string) (fuel : Nat) : Rd P t (fun s : ByteArray => [.sc (.string s)]) (fun s => s.size ≤ maxLen) (fun s => s.size + 1) fuel := by
  intro H e w vs d ps h
  obtain ⟨s, rfl, hx, hs⟩ := DataW.trod_string ht h
  cases hx
  refine ⟨s, hs, held_one (.sc _ rfl), ?_⟩
  simp only [bulkD, Array.length_toList]
  exact Nat.le_refl _

def sumOn (f : α → Nat) : List α → Nat
  | [] => 0
  | x :: r => f x + sumOn f r

omit [Tabs] in
theorem bulkDs_cons {H : Type} (d : DataW H) (r : List (DataW H)) : bulkDs (d :: r) = bulkD d + bulkDs r := by simp [bulkDs]

omit [Tabs] in
theorem elems_read {enc : α → List D} {J : α → Prop} {bk : α → Nat} {n e z : Nat} (hz : P.cellsOf e = z) (hp : 0 < z) (he : ∀ x, (enc x).length = z) (hr : Rd P e enc J bk n) {H : Type} (en : TypeId × Value → H) (w : World) (a : Addr) :
    ∀ (elems : List (DataW H × List MemPlace)) (k : Nat), (∀ i, i < elems.length → (w.cells? 0 (a.add ((k + i) * z)) z).bind (DataW.trod en P w 0 (fun _ => true) true n e) = elems[i]?) →
      ∃ l : List α, l.length = elems.length ∧ (∀ x ∈ l, J x) ∧ sumOn bk l ≤ bulkDs (elems.map (·.1)) ∧
        ∀ i (h : i < (l.flatMap enc).length), ∃ v, w.cell? (a.add (k * z + i)) = some v ∧ RelD w (inW w) (l.flatMap enc)[i] v
  | [], k, _ => ⟨[], rfl, by simp, by simp [sumOn], by simp⟩
  | x :: r, k, h => by
    obtain ⟨l, h1, h2, h3, h4⟩ := elems_read hz hp he hr en w a r (k + 1) (fun i hi => by
      have := h (i + 1) (by simpa using hi)
      rw [show k + (i + 1) = k + 1 + i by omega] at this
      simpa using this)
    have h0 := h 0 (by simp)
    simp only [Nat.add_zero, List.getElem?_cons_zero, Option.bind_eq_some_iff] at h0
    obtain ⟨cs, hcs, hx⟩ := h0
    obtain ⟨y, hJ, hh, hb⟩ := hr en w cs x.1 x.2 hx
    obtain ⟨_, hcl, hcc⟩ := World.cells?_some hcs
    refine ⟨y :: l, by simp [h1], by simpa using ⟨hJ, h2⟩, by simp only [sumOn, List.map_cons, bulkDs_cons]; omega, fun i hi => ?_⟩
    have hyl := he y
    have e1 : ((y :: l).flatMap enc) = enc y ++ l.flatMap enc := by simp
    by_cases hiz : i < z
    · have hi2 : i < (enc y).length := by omega
      have e2 : ((y :: l).flatMap enc)[i] = (enc y)[i] := by
        simp only [e1]
        rw [List.getElem_append_left hi2]
      rw [e2]
      refine ⟨cs.getD i undef, ?_, hh.2 i hi2⟩
      have := hcc i (by omega)
      have e3 : (a.add (k * z)).add i = a.add (k * z + i) := by
        unfold Addr.add
        by_cases h5 : k * z = 0
        · simp [h5]
        · by_cases h6 : i = 0
          · simp [h6]
          · simp [h5, h6, Nat.add_assoc]
      rw [e3] at this
      rw [this, List.getD_eq_getElem?_getD, List.getElem?_eq_getElem (by omega)]
      rfl
    · have hi3 : i - z < (l.flatMap enc).length := by rw [e1, List.length_append] at hi; omega
      obtain ⟨v, hv, hrv⟩ := h4 (i - z) hi3
      have e2 : ((y :: l).flatMap enc)[i] = (l.flatMap enc)[i - z] := by
        simp only [e1]
        rw [List.getElem_append_right (by omega)]
        congr 1
        omega
      rw [e2]
      refine ⟨v, ?_, hrv⟩
      rw [← hv]
      congr 2
      rw [Nat.succ_mul]
      omega

omit [Tabs] in
theorem Rd.slice {enc : α → List D} {J : α → Prop} {bk : α → Nat} {e z fuel : Nat} (ht : P.underlying t = some (.slice e)) (hz : P.cellsOf e = z) (hp : 0 < z) (he : ∀ x, (enc x).length = z) (hr : ∀ n, n < fuel → Rd P e enc J bk n) :
    Rd P t (fun l : List α => [.sl z l.length (l.flatMap enc)]) (fun l => l.length ≤ maxLen ∧ ∀ x ∈ l, J x) (fun l => sumOn bk l + 1) fuel := by
  intro H en w vs d ps h
  rcases DataW.trod_slice ht h with ⟨rfl, hx⟩ | ⟨a, len, cap, elems, rest, n, rfl, rfl, hx, _, hlc, hcm, hel, hread, _⟩
  · cases hx
    exact ⟨[], ⟨by simp, by simp⟩, held_one (.nil _ _ _), by simp [sumOn, bulkD]⟩
  · cases hx
    rw [hz] at hread
    obtain ⟨l, h1, h2, h3, h4⟩ := elems_read hz hp he (hr n (by omega)) en w a elems 0 (fun i hi => by rw [Nat.zero_add]; exact hread i (by omega))
    refine ⟨l, ⟨by omega, h2⟩, held_one ?_, by simp only [bulkD]; omega⟩
    have hlen : (l.flatMap enc).length = l.length * z := by
      clear h4 h2 h3 h1
      induction l with
      | nil => simp
      | cons x r ih => simp [he, ih, Nat.succ_mul]; omega
    by_cases h0 : l.length = 0
    · have hl : l = [] := List.eq_nil_of_length_eq_zero h0
      subst hl
      have : len = 0 := by simp at h1; omega
      subst this
      exact .nil _ _ _
    · have hpos : 0 < (l.flatMap enc).length := by rw [hlen]; exact Nat.mul_pos (by omega) hp
      obtain ⟨v0, hv0, _⟩ := h4 0 hpos
      have ea : a.add (0 * z + 0) = a := by simp [Addr.add]
      rw [ea] at hv0
      obtain ⟨b, off, spot⟩ := a
      have hsp : spot = none ∧ b < w.heap.size := by
        unfold World.cell? at hv0
        split at hv0
        · rename_i c _ _ hb
          refine ⟨?_, (Array.getElem?_eq_some_iff.1 hb).1⟩
          cases spot with
          | none => rfl
          | some _ => simp at hv0
        · cases hv0
      obtain ⟨rfl, hbl⟩ := hsp
      have hadd : ∀ i, (⟨b, off, none⟩ : Addr).add (0 * z + i) = ⟨b, off + i, none⟩ := by
        intro i
        unfold Addr.add
        by_cases h6 : i = 0
        · simp [h6]
        · simp [h6]
      have hll : l.length = len := by omega
      rw [hll] at hlen ⊢
      refine .sl z len _ b off cap (fun i => (w.cell? ⟨b, off + i, none⟩).getD undef) hbl hlen hlc (fun i hi => ?_) (fun i hi => ?_)
      · obtain ⟨v, hv, _⟩ := h4 i hi
        rw [hadd] at hv
        rw [hv]
        rfl
      · obtain ⟨v, hv, hrv⟩ := h4 i hi
        rw [hadd] at hv
        simp only [hv]
        exact hrv

def RdS (P : Program) (fs : List (TypeId × Nat)) (off tot : Nat) (enc : α → List D) (J : α → Prop) (bk : α → Nat) (fuel : Nat) : Prop :=
  ∀ {H : Type} (e : TypeId × Value → H) (w : World) (cs : List Value) (xs : List (DataW H × List MemPlace)), cs.length = off + tot → xs.length = fs.length →
    (∀ (i : Nat) (f : TypeId × Nat), fs[i]? = some f → DataW.trod e P w 0 (fun _ => true) true fuel f.1 ((cs.drop f.2).take (P.cellsOf f.1)) = xs[i]?) →
    ∃ x, J x ∧ Held w (cs.drop off) (enc x) ∧ bk x ≤ bulkDs (xs.map (·.1))

omit [Tabs] in
theorem Rd.struct {enc : α → List D} {J : α → Prop} {bk : α → Nat} {fs : Array Field} {l : List (TypeId × Nat)} {tot fuel : Nat} (ht : P.underlying t = some (.struct fs)) (hf : fs.toList.map (fun f => (f.type, f.offset)) = l) (hz : P.cellsOf t = tot)
    (hr : ∀ n, n < fuel → RdS P l 0 tot enc J bk n) : Rd P t enc J (fun x => bk x + 1) fuel := by
  intro H e w vs d ps h
  obtain ⟨xs, n, rfl, hx, hl, hxl, hg⟩ := DataW.trod_struct ht h
  cases hx
  subst hf
  obtain ⟨x, h1, h2, h3⟩ := hr n (by omega) e w vs xs (by omega) (by simp [hxl]) (fun i f hi => by
    rw [List.getElem?_map] at hi
    cases e2 : fs.toList[i]? with
    | none => rw [e2] at hi; cases hi
    | some g =>
      rw [e2] at hi
      cases hi
      exact hg i g (by simpa using e2))
  exact ⟨x, h1, by simpa using h2, by simp only [bulkD]; omega⟩

omit [Tabs] in
theorem held_append {w : World} {vs us : List Value} {ds es : List D} (h : Held w vs ds) (k : Held w us es) : Held w (vs ++ us) (ds ++ es) := by
  refine ⟨by simp [h.1, k.1], fun i hi => ?_⟩
  by_cases h1 : i < ds.length
  · rw [List.getElem_append_left h1, List.getD_eq_getElem?_getD, List.getElem?_append_left (by rw [h.1]; exact h1), ← List.getD_eq_getElem?_getD]
    exact h.2 i h1
  · rw [List.getElem_append_right (by omega), List.getD_eq_getElem?_getD, List.getElem?_append_right (by rw [h.1]; omega), ← List.getD_eq_getElem?_getD, h.1]
    exact k.2 _ _

omit [Tabs] in
theorem RdS.nil {off fuel : Nat} : RdS P [] off 0 (fun _ : Unit => []) (fun _ => True) (fun _ => 0) fuel := by
  intro H e w cs xs h1 h2 _
  exact ⟨(), trivial, ⟨by simp; omega, fun i hi => by simp at hi⟩, by simp⟩

omit [Tabs] in
theorem RdS.cons {enc1 : α → List D} {J1 : α → Prop} {bk1 : α → Nat} {enc2 : β → List D} {J2 : β → Prop} {bk2 : β → Nat} {ft : TypeId} {fs : List (TypeId × Nat)} {off off2 z tot tot2 fuel : Nat} (hz : P.cellsOf ft = z)
    (ho : off2 = off + z) (htot : tot = z + tot2) (h1 : Rd P ft enc1 J1 bk1 fuel) (h2 : RdS P fs off2 tot2 enc2 J2 bk2 fuel) :
    RdS P ((ft, off) :: fs) off tot (fun x : α × β => enc1 x.1 ++ enc2 x.2) (fun x => J1 x.1 ∧ J2 x.2) (fun x => bk1 x.1 + bk2 x.2) fuel := by
  subst ho
  subst htot
  intro H e w cs xs hl hx hg
  cases xs with
  | nil => simp at hx
  | cons x xs =>
    have g0 := hg 0 (ft, off) (by simp)
    simp only [List.getElem?_cons_zero, hz] at g0
    obtain ⟨y1, j1, k1, b1⟩ := h1 e w _ x.1 x.2 g0
    obtain ⟨y2, j2, k2, b2⟩ := h2 e w cs xs (by omega) (by simpa using hx) (fun i f hi => by
      have := hg (i + 1) f (by simpa using hi)
      simpa using this)
    refine ⟨(y1, y2), ⟨j1, j2⟩, ?_, by simp only [List.map_cons, bulkDs_cons]; omega⟩
    have e1 : cs.drop off = (cs.drop off).take z ++ cs.drop (off + z) := by
      rw [← List.drop_drop, List.take_append_drop]
    rw [e1]
    exact held_append k1 k2

omit [Tabs] in
theorem Rd.map {enc : α → List D} {J : α → Prop} {bk : α → Nat} {fuel : Nat} (h : Rd P t enc J bk fuel) (g : α → β) {enc' : β → List D} {J' : β → Prop} {bk' : β → Nat} (he : ∀ x, enc x = enc' (g x)) (hJ : ∀ x, J x → J' (g x)) (hb : ∀ x, bk' (g x) ≤ bk x) :
    Rd P t enc' J' bk' fuel := by
  intro H e w vs d ps hh
  obtain ⟨x, h1, h2, h3⟩ := h e w vs d ps hh
  exact ⟨g x, hJ x h1, he x ▸ h2, Nat.le_trans (hb x) h3⟩

/-! ## arguments -/
def isAgg (P : Program) (t : TypeId) : Bool := match P.underlying t with | some (.struct _) | some (.array _ _) => true | _ => false

def RdArgs (P : Program) (ts : List TypeId) (args : α → List AV) (J : α → Prop) (bk : α → Nat) : Prop :=
  ∀ {H : Type} (e : TypeId × Value → H) (w : World) (base : Nat) (vs : List Value) (ds : List (DataW H)) (ps : List MemPlace), (∀ (j : Nat) t v, ts[j]? = some t → vs[j]? = some v → Value.okWide P w .any base t v) →
    DataW.TrodAll e P w 0 (fun _ => true) true ts vs ds ps → ∃ x, J x ∧ bk x ≤ bulkDs ds ∧ vs.length = (args x).length ∧ ∀ i (h : i < (args x).length), RelAV w (inW w) (fun _ => none) #[] (args x)[i] (vs.getD i undef)

omit [Tabs] in
theorem trodAll_length {H : Type} {e : TypeId × Value → H} {w : World} : ∀ {ts : List TypeId} {vs : List Value} {ds : List (DataW H)} {ps : List MemPlace}, DataW.TrodAll e P w 0 (fun _ => true) true ts vs ds ps → ds.length = ts.length
  | [], _, _, _, h => by
    obtain ⟨rfl, rfl, rfl⟩ := trodAll_nil h
    rfl
  | t :: ts, _, _, _, h => by
    obtain ⟨v, vs, d, ds, p, q, rfl, rfl, rfl, h1, h2⟩ := trodAll_cons h
    simp [trodAll_length h2]

omit [Tabs] in
theorem RdArgs.nil : RdArgs P [] (fun _ : Unit => []) (fun _ => True) (fun _ => 0) := by
  intro H e w base vs ds ps _ h
  obtain ⟨rfl, rfl, rfl⟩ := trodAll_nil h
  exact ⟨(), trivial, by simp, rfl, fun i hi => by simp at hi⟩

omit [Tabs] in
theorem RdArgs.step {args : β → List AV} {J2 : β → Prop} {bk2 : β → Nat} {ts : List TypeId} (enc : α → AV) {J : α → Prop} {bk : α → Nat}
    (hr : ∀ {H : Type} (e : TypeId × Value → H) (w : World) (base : Nat) (v : Value) (d : DataW H) (ps : List MemPlace), Value.okWide P w .any base t v → DataW.Trod e P w 0 (fun _ => true) true t v d ps → ∃ x, J x ∧ bk x ≤ bulkD d ∧ RelAV w (inW w) (fun _ => none) #[] (enc x) v)
    (h2 : RdArgs P ts args J2 bk2) : RdArgs P (t :: ts) (fun x : α × β => enc x.1 :: args x.2) (fun x => J x.1 ∧ J2 x.2) (fun x => bk x.1 + bk2 x.2) := by
  intro H e w base vs ds ps hv h
  obtain ⟨v, vs, d, ds, p, q, rfl, rfl, rfl, h3, h4⟩ := trodAll_cons h
  obtain ⟨x, j1, b1, r1⟩ := hr e w base v d p (hv 0 t v rfl rfl) h3
  obtain ⟨y, j2, b2, l2, r2⟩ := h2 e w base vs ds q (fun j t' v' h5 h6 => hv (j + 1) t' v' (by simpa using h5) (by simpa using h6)) h4
  refine ⟨(x, y), ⟨j1, j2⟩, by rw [bulkDs_cons]; exact Nat.add_le_add b1 b2, by simp [l2], fun i hi => ?_⟩
  cases i with
  | zero => simpa using r1
  | succ i => simpa using r2 i (by simpa using hi)

omit [Tabs] in
theorem RdArgs.one {enc : α → D} {J : α → Prop} {bk : α → Nat} (hs : isAgg P t = false) (hr : ∀ n, Rd P t (fun x => [enc x]) J bk n) {H : Type} (e : TypeId × Value → H) (w : World) (base : Nat) (v : Value) (d : DataW H) (ps : List MemPlace)
    (hv : Value.okWide P w .any base t v) (h : DataW.Trod e P w 0 (fun _ => true) true t v d ps) : ∃ x, J x ∧ bk x ≤ bulkD d ∧ RelAV w (inW w) (fun _ => none) #[] (.cell (.d (enc x))) v := by
  obtain ⟨fuel, hf⟩ := h
  obtain ⟨x, h1, h2, h3⟩ := hr fuel e w _ d ps hf
  refine ⟨x, h1, h3, .cell _ _ (.d _ _ ?_)⟩
  have hl : v.cells.toList.length = 1 := h2.1
  have h0 := h2.2 0 (by simp)
  simp only [List.getElem_cons_zero] at h0
  have hnot : ∀ cs, v ≠ .agg cs := by
    intro cs hc
    subst hc
    unfold Value.okWide at hv
    unfold isAgg at hs
    split at hv
    · rename_i hu; rw [hu] at hs; simp at hs
    · rename_i hu; rw [hu] at hs; simp at hs
    · simp only [Cell.okWide] at hv
      cases hu : P.underlying t with
      | none => simp_all [Cell.ok]
      | some u => cases u <;> simp_all [Cell.ok]
  have : v.cells.toList.getD 0 undef = v := by
    cases v <;> first | rfl | (exact absurd rfl (hnot _))
  rwa [this] at h0

omit [Tabs] in
theorem RdArgs.agg {enc : α → List D} {J : α → Prop} {bk : α → Nat} (hs : isAgg P t = true) (hr : ∀ n, Rd P t enc J bk n) {H : Type} (e : TypeId × Value → H) (w : World) (base : Nat) (v : Value) (d : DataW H) (ps : List MemPlace)
    (hv : Value.okWide P w .any base t v) (h : DataW.Trod e P w 0 (fun _ => true) true t v d ps) : ∃ x, J x ∧ bk x ≤ bulkD d ∧ RelAV w (inW w) (fun _ => none) #[] (.aggD (enc x)) v := by
  obtain ⟨fuel, hf⟩ := h
  obtain ⟨x, h1, h2, h3⟩ := hr fuel e w _ d ps hf
  have hagg : ∃ cs, v = .agg cs := by
    unfold Value.okWide at hv
    unfold isAgg at hs
    split at hv
    · obtain ⟨cs, rfl, _⟩ := hv; exact ⟨cs, rfl⟩
    · obtain ⟨cs, rfl, _⟩ := hv; exact ⟨cs, rfl⟩
    · rename_i ha hb
      split at hs
      · rename_i hu; exact absurd hu (ha _)
      · rename_i hu; exact absurd hu (hb _ _)
      · cases hs
  obtain ⟨cs, rfl⟩ := hagg
  refine ⟨x, h1, h3, .aggD _ _ (by simpa [Value.cells] using h2.1) fun i hi => ?_⟩
  have := h2.2 i hi
  simp only [Value.cells] at this
  rw [List.getD_eq_getElem?_getD] at this
  rw [Array.getD_eq_getD_getElem?, ← Array.getElem?_toList]
  exact this

omit [Tabs] in
theorem relArgs_of {args : List AV} {vs : Array Value} {W : World} (hlen : vs.toList.length = args.length) (hrel : ∀ i (h : i < args.length), RelAV W (inW W) (fun _ => none) #[] args[i] (vs.toList.getD i undef)) :
    RelArgs W (fun b => b < W.heap.size) (fun _ => none) args vs := ⟨by simpa using hlen, fun i hi => by
  have := hrel i hi
  rw [List.getD_eq_getElem?_getD] at this
  rw [Array.getD_eq_getD_getElem?, ← Array.getElem?_toList]
  exact this⟩
omit [Tabs] in
theorem flat_one {f : α → D} (l : List α) : l.flatMap (fun x => [f x]) = l.map f := by
  induction l with
  | nil => rfl
  | cons x r ih => rw [List.flatMap_cons, ih]; rfl
omit [Tabs] in
theorem Rd.strings {e : TypeId} (ht : P.underlying t = some (.slice e)) (he : P.underlying e = some .string) (hz : P.cellsOf e = 1) (fuel : Nat) :
    Rd P t (fun l : List ByteArray => [.sl 1 l.length (encS l)]) (fun l => l.length ≤ maxLen ∧ ∀ x ∈ l, x.size ≤ maxLen) (fun l => sumOn (fun s : ByteArray => s.size + 1) l + 1) fuel :=
  Rd.map (Rd.slice ht hz (by decide) (fun _ => rfl) fun n _ => Rd.string he n) id (fun l => by simp only [id, flat_one]; rfl) (fun _ h => h) fun _ => Nat.le_refl _
end Esp

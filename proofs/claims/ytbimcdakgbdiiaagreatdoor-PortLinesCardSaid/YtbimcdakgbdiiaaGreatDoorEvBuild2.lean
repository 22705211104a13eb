/- EV: strings.Builder: its text: the bytes are frozen there, and the builder is done with. -/
import Derived.Test.YtbimcdakgbdiiaaGreatDoorEvBuild
import Derived.Test.YtbimcdakgbdiiaaGreatDoorEvLib
import Derived.Shelf.Strings.BuilderF
namespace Esp
open Go Go.Shelf Go.Proofs Go.RowKit
set_option linter.unusedSimpArgs false
set_option linter.unusedVariables false
variable [Tabs]

set_option maxHeartbeats 1000000 in
set_option maxRecDepth 100000 in
omit [Tabs] in
theorem string_walk {P : Program} {r : Ren} (L : Lays.n169 P r) (X : Builder.Extra P r) (b n c : Nat) (a p : Option Addr) (w w1 w2 : World) (s : ByteArray)
    (c0 : w.cell? ⟨b, 1, none⟩ = some (.slice a n c)) (c1 : w.drew.cell? ⟨b, 1, none⟩ = some (.slice a n c)) (c2 : w1.cell? ⟨b, 1, none⟩ = some (.slice a n c))
    (hSD : (Builtin.unsafeSliceData_ #[r.t 37] (r.t 127) #[.slice a n c]).run P w.drew = .ok (.pointer p) w1)
    (hUS : (Builtin.unsafeString_ #[r.t 127, r.t 3] (r.t 9) #[.pointer p, .int .i64 n]).run P w1 = .ok (.string s) w2) :
    Calls P (r.f 169) #[.pointer (some ⟨b, 0, none⟩)] w fun e w' => e = .returned (.string s) ∧ w' = w2 := by
  have mixed := L.mixed
  have t72 := L.t72; have a72 := L.a72; have z72 := L.z72; have v72 := L.v72; have u72 := run_underlying L.t72
  have t70 := L.t70; have a70 := L.a70; have z70 := L.z70; have v70 := L.v70; have u70 := run_underlying L.t70
  have t37 := L.t37; have a37 := L.a37; have z37 := L.z37; have v37 := L.v37; have u37 := run_underlying L.t37
  have t127 := L.t127; have a127 := L.a127; have z127 := L.z127; have v127 := L.v127; have u127 := run_underlying L.t127
  have t3 := L.t3; have a3 := L.a3; have z3 := L.z3; have v3 := L.v3; have u3 := run_underlying L.t3
  have t9 := L.t9; have a9 := L.a9; have z9 := L.z9; have v9 := L.v9; have u9 := run_underlying L.t9
  have t5 := X.t5; have a5 := X.a5; have z5 := X.z5; have v5 := X.v5; have u5 := run_underlying X.t5
  go_enter L.f169, Body.n169_ntmps r
  go_wp2
  go_region_o
  all_goals (go_wp2; go_ret; exact ⟨rfl, rfl⟩)

section
variable {P : Program}
omit [Tabs] in
theorem run_loadBytesI {w : World} : ∀ (l : List Int) (a : Addr) (acc : ByteArray), (∀ j x, l[j]? = some x → w.cell? (a.add j) = some (.int .u8 x)) →
    (loadBytes a acc l.length).run P w = .ok ⟨acc.data ++ (Lib.bytesOf l).toArray⟩ w
  | [], a, acc, _ => by simp [loadBytes, Lib.bytesOf]
  | x :: l, a, acc, h => by
    have h0 : w.cell? a = some (.int .u8 x) := by simpa [Addr.add] using h 0 x rfl
    have e : ∀ j, (a.add 1).add j = a.add (j + 1) := fun j => by
      unfold Addr.add
      cases j with
      | zero => simp
      | succ j => simp; omega
    have ih := run_loadBytesI l (a.add 1) (acc.push x.toNat.toUInt8) (fun j y hy => by rw [e]; exact h (j + 1) y (by simpa using hy))
    simp only [List.length_cons, loadBytes, Sem.run_bind, run_load, h0, Result.andThen]
    rw [ih]
    congr 1
    exact ByteArray.ext (by simp [ByteArray.push, Lib.bytesOf])

omit [Tabs] in
theorem run_unsafeString_ints {w : World} (pt it ty e : TypeId) (hp : P.underlying pt = some (.pointer e)) (hc : P.cellsOf e = 1) (g cells : Nat) (hsh : w.shape? g = some (e, cells)) (l : List Int) (h0 : l ≠ []) (hn : l.length ≤ cells) (h63 : l.length ≤ 9223372036854775807)
    (hcell : ∀ j x, l[j]? = some x → w.cell? ((⟨g, 0, none⟩ : Addr).add j) = some (.int .u8 x)) :
    (Builtin.unsafeString_ #[pt, it] ty #[.pointer (some ⟨g, 0, none⟩), .int .i64 l.length]).run P w = .ok (.string (bytesZ l)) (w.freeze ⟨g, 0, none⟩ l.length) := by
  have hl : l.length ≠ 0 := by simpa using h0
  have hlb : (loadBytes ⟨g, 0, none⟩ .empty l.length).run P w = .ok (bytesZ l) w := by
    rw [run_loadBytesI l _ _ hcell]
    congr 1
    simp [bytesZ]
  have hlies := Lib.liesAt_bytes (P := P) hc (cells / P.cellsOf e) l.length (by rw [hc]; simpa using hn)
  have h63' : ¬ (9223372036854775807 : Int) < (l.length : Int) := by omega
  have hmax : IntKind.i64.max = 9223372036854775807 := rfl
  have hneg : ¬ (l.length : Int) < 0 := by omega
  have hdef : Builtin.unsafeString_ #[pt, it] ty #[.pointer (some ⟨g, 0, none⟩), .int .i64 l.length] = (asInt (.int .i64 l.length) >>= _) := rfl
  rw [hdef]
  simp [asInt, asIntOf, hmax, h63', hneg, hl, variablesAt, hsh, elemOf, run_underlying hp, hlies, hlb]

def F_string (T te : TypeId) : FnT := ⟨1, ⟨[(0, .ptr 1000000 0)], [], [(1000000, bldBox T), (1000001, .arr te .u8)], []⟩, [.v .str], []⟩
noncomputable def stringN : Unit × List Int × Unit → Option (ByteArray × Unit) := fun (_, l, _) => some (bytesZ l, ())

theorem string_end {F : Nat → Prop} {ρ : Env} {w w2 : World} {s : ByteArray} (hrw : RelW F ρ w) (h1 : w2.os = w.os) (h2 : w2.tape = w.tape) (h3 : w2.output = w.output) (h4 : w.heap.size ≤ w2.heap.size)
    (h5 : ∀ b, b < w.heap.size → ¬ live ρ b → w2.heap[b]? = w.heap[b]?) :
    ∃ F' ρ' r ob', EX (.cell (.d (.sc (.string s)))) [] r ob' ∧ RelEnd w2 F' ρ' r (.returned (.string s)) ∧ RelW F' ρ' w2 ∧ (∀ k, RelOb w2 F' ρ' k (lkO ob' k)) ∧ Fr F ρ w F' ρ' w2 := by
  have hF : ∀ b, F b → w2.heap[b]? = w.heap[b]? := fun b hb => h5 b (hrw.lt b hb) (hrw.dis b hb)
  refine ⟨F, fun _ => none, _, _, ⟨rfl, rfl⟩, (show RelAV _ _ _ _ (.cell (.d (.sc (.string s)))) (.string s) from .cell _ _ (.d _ _ (.sc _ rfl))), ⟨fun b _ ⟨k, l, hk, _⟩ => (by cases hk), fun b hb => Nat.lt_of_lt_of_le (hrw.lt b hb) h4, fun k k' l l' b hk => (by cases hk), hrw.tab_of hF fun _ h => h⟩, fun k => .gone rfl, ?_⟩
  refine ⟨h1, h2, h3, h4, fun _ h => h, fun b hb hn => h5 b hb hn, fun b _ hh => ?_, fun k _ => ?_⟩
  · rcases hh with hh | ⟨k, l, hk, _⟩
    · exact .inl hh
    · cases hk
  · cases ρ k <;> trivial

omit [Tabs] in
theorem freeze_other {w : World} {g b n : Nat} (h : b ≠ g) : (w.freeze ⟨g, 0, none⟩ n).heap[b]? = w.heap[b]? := by
  unfold World.freeze
  split
  · rfl
  · simp [Array.getElem?_modify, Ne.symm h]
omit [Tabs] in
theorem freeze_same {w : World} {a : Addr} {n : Nat} : (w.freeze a n).os = w.os ∧ (w.freeze a n).tape = w.tape ∧ (w.freeze a n).output = w.output ∧ (w.freeze a n).heap.size = w.heap.size := by
  unfold World.freeze
  split
  · exact ⟨rfl, rfl, rfl, rfl⟩
  · exact ⟨rfl, rfl, rfl, by simp⟩

theorem string_ok {r : Ren} (L : Lays.n169 P r) (X : Builder.Extra P r) : Contract P (r.f 169) (F_string (r.t 72) (r.t 5)) stringN := by
  intro x y hy
  obtain ⟨u1, l, u2⟩ := x
  cases hy
  intro F ρ vs w hrw hob hra
  have hz : vs.size = 1 := hra.sz
  have h0 : RelAV w F ρ #[] (.cell (.ptr 1000000 0)) (vs.getD 0 undef) := hra.rel 0 (by show 0 < 1; omega)
  have hb : RelOb w F ρ 1000000 (.box [.pn 1000000, .own 1000001] (some (r.t 72))) := hob 1000000
  have ha : RelOb w F ρ 1000001 (.na (r.t 5) .u8 l) := hob 1000001
  have hfl : flat .u8 l = l.map fun n => .sc (.int .u8 n) := by
    clear hob hra ha hb
    simp only [flat]
    induction l with
    | nil => rfl
    | cons x r ih => simp only [List.flatMap_cons, ih, List.map_cons]; rfl
  replace ha : RelOb w F ρ 1000001 (.arr (r.t 5) 1 l.length (flat .u8 l)) := by cases ha; assumption
  generalize hbx : AObj.box [.pn 1000000, .own 1000001] (some (r.t 72)) = bx at hb
  cases hb with
  | gone | arr | na | tab | it | mp | any => cases hbx
  | box cs oty b c t hty hk hb hs h =>
    cases hbx
    have ht : t = r.t 72 := hty _ rfl
    subst ht
    have hp : vs.getD 0 undef = .pointer (some ⟨b, 0, none⟩) := by
      cases h0 with
      | cell _ _ h0 => cases h0 with
        | ptr k off v h0 => exact h0 b hk
    have e : vs = #[.pointer (some ⟨b, 0, none⟩)] := by
      rw [← hp]
      apply Array.ext
      · simpa using hz
      · intro i h1 h2
        have : i = 0 := by simp at h2; omega
        subst this
        simp [Array.getD_eq_getD_getElem?, h1]
    have hc2 : c.size = 2 := hs
    have hblt : b < w.heap.size := by
      rcases Nat.lt_or_ge b w.heap.size with h' | h'
      · exact h'
      · simp [Array.getElem?_eq_none h'] at hb
    have how : RelAC w F ρ (.own 1000001) (c.getD 1 undef) := h 1 (by show 1 < 2; omega)
    have hcell : w.cell? ⟨b, 1, none⟩ = some (c.getD 1 undef) := by
      have : 1 < c.size := by omega
      simp [World.cell?, hb, Array.getD_eq_getD_getElem?, this]
    rw [e]
    clear h0 hp e hra hob
    cases ha with
    | arr t' e' n' cs' u xs hk2 ho hs2 hx =>
      have hu : c.getD 1 undef = u := by
        cases how with
        | own k v how => exact how u hk2
      rw [hu] at hcell
      clear how hu
      rcases ho.2 with ⟨rfl, hn⟩ | ⟨g, cap, cur, rfl, _, hg, hnc, hcm, hcs, htk⟩
      · have : l = [] := List.eq_nil_of_length_eq_zero hn
        subst this
        refine (string_walk L X b 0 0 none none w w.drew w.drew .empty hcell hcell hcell rfl (Any.unsafeString_none L X _ none)).mono fun e w' ⟨he, hw⟩ => ?_
        subst he; subst hw
        exact string_end hrw rfl rfl rfl (Nat.le_refl _) fun _ _ _ => rfl
      · have hlg : live ρ g := ⟨1000001, _, hk2, rfl⟩
        have hglt : g < w.heap.size := by
          rcases Nat.lt_or_ge g w.heap.size with h' | h'
          · exact h'
          · simp [Array.getElem?_eq_none h'] at hg
        have hsh : w.drew.shape? g = some (r.t 5, cur.size) := by
          have hg' : w.drew.heap[g]? = some (.cells cur (r.t 5) (0, 0)) := hg
          simp [World.shape?, hg']
        by_cases hl : l = []
        · subst hl
          by_cases hc0 : cap = 0
          · subst hc0
            have hold : ∀ b', b' < w.heap.size → (w.drew.alloc (.view ⟨g, 0, none⟩ (r.t 5))).heap[b']? = w.heap[b']? := fun b' hb' => Lib.alloc_old w.drew _ b' hb'
            have hc3 : (w.drew.alloc (.view ⟨g, 0, none⟩ (r.t 5))).cell? ⟨b, 1, none⟩ = some (.slice (some ⟨g, 0, none⟩) 0 0) := (cell?_eq (hold b hblt)).trans hcell
            refine (string_walk L X b 0 0 (some ⟨g, 0, none⟩) _ w _ _ .empty hcell hcell hc3 (Lib.run_unsafeSliceData_zero w.drew _ _ (r.t 5) L.t127 ⟨g, 0, none⟩ 0 (r.t 5, cur.size) hsh) (Any.unsafeString_none L X _ _)).mono fun e w' ⟨he, hw⟩ => ?_
            subst he; subst hw
            exact string_end hrw rfl rfl rfl (by simp [World.alloc]) fun b' hb' _ => hold b' hb'
          · refine (string_walk L X b 0 cap (some ⟨g, 0, none⟩) _ w w.drew w.drew .empty hcell hcell hcell (Lib.run_unsafeSliceData_row _ _ _ _ _ _ hc0) (Any.unsafeString_none L X _ _)).mono fun e w' ⟨he, hw⟩ => ?_
            subst he; subst hw
            exact string_end hrw rfl rfl rfl (Nat.le_refl _) fun _ _ _ => rfl
        · have hl0 : l.length ≠ 0 := by simpa using hl
          have hcl : ∀ j x, l[j]? = some x → w.drew.cell? ((⟨g, 0, none⟩ : Addr).add j) = some (.int .u8 x) := by
            intro j x hj
            have hjl := (List.getElem?_eq_some_iff.1 hj).1
            have hjf : j < (flat .u8 l).length := by rw [hfl, List.length_map]; exact hjl
            have h2 := hx j hjf
            have h3 : (flat .u8 l)[j]'hjf = .sc (.int .u8 x) := by
              have : (flat .u8 l)[j]? = some (.sc (.int .u8 x)) := by rw [hfl, List.getElem?_map, hj]; rfl
              exact (List.getElem?_eq_some_iff.1 this).2
            rw [h3] at h2
            have h4 : xs.getD j undef = .int .u8 x := by
              generalize xs.getD j undef = v at h2
              cases h2
              rfl
            have h5 : xs[j]? = some (.int .u8 x) := by
              have hjx : j < xs.length := by rw [hs2]; exact hjf
              rw [List.getD_eq_getElem?_getD, List.getElem?_eq_getElem hjx] at h4
              rw [List.getElem?_eq_getElem hjx]
              exact congrArg some h4
            have h6 : cur[j]? = some (.int .u8 x) := by
              rw [← htk, List.getElem?_take] at h5
              split at h5
              · simpa using h5
              · cases h5
            rw [Addr.add_lit]
            have hg' : w.drew.heap[g]? = some (.cells cur (r.t 5) (0, 0)) := hg
            simp [World.cell?, hg', h6]
          have hsd : (Builtin.unsafeSliceData_ #[r.t 37] (r.t 127) #[.slice (some ⟨g, 0, none⟩) l.length cap]).run P w.drew = .ok (.pointer (some ⟨g, 0, none⟩)) w.drew := Lib.run_unsafeSliceData_row _ _ _ _ _ _ (by omega)
          have hus := run_unsafeString_ints (P := P) (w := w.drew) (r.t 127) (r.t 3) (r.t 9) (r.t 5) L.t127 X.cellsByte g cur.size hsh l hl (by omega) (by unfold maxLen at hcm; omega) hcl
          refine (string_walk L X b l.length cap (some ⟨g, 0, none⟩) _ w w.drew _ _ hcell hcell hcell hsd hus).mono fun e w' ⟨he, hw⟩ => ?_
          subst he; subst hw
          obtain ⟨f1, f2, f3, f4⟩ := freeze_same (w := w.drew) (a := ⟨g, 0, none⟩) (n := l.length)
          exact string_end hrw f1 f2 f3 (Nat.le_of_eq f4.symm) fun b' hb' hn => freeze_other fun he => hn (he ▸ hlg)
end
end Esp

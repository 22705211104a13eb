/- Several texts in one (merge.py). -/
import Derived.Test.YtffefjmpmgkfoaaGreatDoorEvFn
import Derived.Shelf.Strings.Builder1
import Derived.Test.YtffefjmpmgkfoaaGreatDoorEvLib
import Derived.Shelf.Strings.BuilderF
import Derived.Shelf.Strconv.Itoa3
import Derived.Shelf.Strconv.AtoiAll
import Derived.Shelf.Unicode.DecodeAny
import Derived.Lib.AtoiErrMem
/- EV: strings.Builder: the check that it was not copied: it makes the builder point to itself. -/
namespace Esp
open Go Go.Shelf Go.Proofs
set_option linter.unusedSimpArgs false
set_option linter.unusedVariables false
variable [Tabs]

def bldBox (T : TypeId) : OT := .box [.ref (.pn 1000000), .ref (.own 1000001)] (some T)
def F_copyCheck (T te : TypeId) : FnT := ⟨1, ⟨[(0, .ptr 1000000 0)], [], [(1000000, bldBox T), (1000001, .arr te .u8)], []⟩, [], [(1000000, bldBox T), (1000001, .arr te .u8)]⟩

def copyCheckN (x : Unit × List Int × Unit) : Option (Unit × List Int × Unit) := some x

omit [Tabs] in
theorem setCell_heap {w : World} {b : Nat} {c : Array Value} {t : TypeId} {fz : Nat × Nat} {v : Value} {off : Nat} (h : w.heap[b]? = some (.cells c t fz)) : (w.setCell ⟨b, off, none⟩ v).heap[b]? = some (.cells (c.setIfInBounds off v) t fz) := by
  simp [World.setCell, Array.getElem?_modify, h]
omit [Tabs] in
theorem setCell_other {w : World} {b b' : Nat} {v : Value} {off : Nat} (h : b' ≠ b) : (w.setCell ⟨b, off, none⟩ v).heap[b']? = w.heap[b']? := by
  simp [World.setCell, Array.getElem?_modify, Ne.symm h]
omit [Tabs] in
theorem setCell_size {w : World} {a : Addr} {v : Value} : (w.setCell a v).heap.size = w.heap.size := by
  simp [World.setCell]

theorem copyCheck_of {P : Program} {f : FuncId} {T te : TypeId}
    (hused : ∀ (b : Nat) (w : World), w.cell? ⟨b, 0, none⟩ = some (.pointer (some ⟨b, 0, none⟩)) → Calls P f #[.pointer (some ⟨b, 0, none⟩)] w fun e w' => e = .returned (.tuple #[]) ∧ w' = w)
    (hfresh : ∀ (b : Nat) (w : World), w.cell? ⟨b, 0, none⟩ = some (.pointer none) → w.shape? b = some (T, 2) → w.frozen? ⟨b, 0, none⟩ = false → Calls P f #[.pointer (some ⟨b, 0, none⟩)] w fun e w' => e = .returned (.tuple #[]) ∧ w' = w.setCell ⟨b, 0, none⟩ (.pointer (some ⟨b, 0, none⟩))) :
    Contract P f (F_copyCheck T te) copyCheckN := by
  intro x y hy
  cases hy
  intro F ρ vs w hrw hob hra
  obtain ⟨u1, l, u2⟩ := x
  have hz : vs.size = 1 := hra.sz
  have h0 : RelAV w F ρ #[] (.cell (.ptr 1000000 0)) (vs.getD 0 undef) := hra.rel 0 (by show 0 < 1; omega)
  have hb : RelOb w F ρ 1000000 (.box [.pn 1000000, .own 1000001] (some T)) := hob 1000000
  generalize hbx : AObj.box [.pn 1000000, .own 1000001] (some T) = bx at hb
  cases hb with
  | gone | arr | na | tab | it | mi | mp | any => cases hbx
  | box cs oty b c t hty hk hb hs h =>
    cases hbx
    have ht : T = t := (hty _ rfl).symm
    subst ht
    have hp : vs.getD 0 undef = .pointer (some ⟨b, 0, none⟩) := by
      cases h0 with
      | cell _ _ h0 => cases h0 with
        | ptr k off v h0 => exact h0 b hk
    have e : vs = #[.pointer (some ⟨b, 0, none⟩)] := by
      rw [← hp]
      apply Array.ext
      · simpa using hz
      · intro i h1 h2
        have : i = 0 := by simp at h2; omega
        subst this
        simp [Array.getD_eq_getD_getElem?, h1]
    have hc2 : c.size = 2 := hs
    have hcell : w.cell? ⟨b, 0, none⟩ = some (c.getD 0 undef) := by
      have : 0 < c.size := by omega
      simp [World.cell?, hb, Array.getD_eq_getD_getElem?, this]
    have hpn : RelAC w F ρ (.pn 1000000) (c.getD 0 undef) := h 0 (by show 0 < 2; omega)
    have hlive : live ρ b := ⟨1000000, _, hk, rfl⟩
    have hq : c.getD 0 undef = .pointer none ∨ c.getD 0 undef = .pointer (some ⟨b, 0, none⟩) := by
      cases hpn with
      | pn k v hp => exact hp b hk
    rw [e]
    rcases hq with hq | hq
    · have hsh : w.shape? b = some (T, 2) := by
        simp [World.shape?, hb, hc2]
      have hfz : w.frozen? ⟨b, 0, none⟩ = false := by
        simp [World.frozen?, hb]
      rw [hq] at hcell
      refine (hfresh b w hcell hsh hfz).mono fun e w' ⟨he, hw⟩ => ?_
      subst he
      subst hw
      generalize hw' : w.setCell ⟨b, 0, none⟩ (.pointer (some ⟨b, 0, none⟩)) = w'
      have hnew : w'.heap[b]? = some (.cells (c.setIfInBounds 0 (.pointer (some ⟨b, 0, none⟩))) T (0, 0)) := by rw [← hw']; exact setCell_heap hb
      have hoth : ∀ b', b' ≠ b → w'.heap[b']? = w.heap[b']? := fun b' hn => by rw [← hw']; exact setCell_other hn
      have hsz : w'.heap.size = w.heap.size := by rw [← hw']; exact setCell_size
      have hF : ∀ b', F b' → w'.heap[b']? = w.heap[b']? := fun b' hb' => hoth b' fun he => hrw.dis b' hb' (he ▸ hlive)
      refine ⟨F, ρ, .ret (.tup []), _, ⟨rfl, rfl⟩, ?_, ⟨hrw.dis, fun b' hb' => hsz ▸ hrw.lt b' hb', hrw.inj, hrw.tab_of hF fun _ h => h⟩, fun k => ?_, ?_⟩
      · exact (show RelAV _ _ _ _ (.tup []) (.tuple #[]) from .tup [] #[] rfl fun i hi => by simp at hi)
      · by_cases hk1 : k = 1000000
        · subst hk1
          refine RelOb.box [.pn 1000000, .own 1000001] (some T) b _ _ (fun _ h => hty _ h) hk hnew (by simpa using hc2) fun i hi => ?_
          have hi2 : i < 2 := hi
          by_cases hi0 : i = 0
          · subst hi0
            refine .pn _ _ fun b2 hb2 => .inr ?_
            rw [hk] at hb2
            cases hb2
            have : 0 < c.size := by omega
            simp [Array.getD_eq_getD_getElem?, this]
          · have hi1 : i = 1 := by omega
            subst hi1
            have h1 := h 1 hi
            have e1 : (c.setIfInBounds 0 (.pointer (some ⟨b, 0, none⟩))).getD 1 undef = c.getD 1 undef := by
              simp [Array.getD_eq_getD_getElem?]
            rw [e1]
            exact h1.mono hF (fun _ h => h) fun _ _ h => h
        · have h3 : RelOb w F ρ k (lkO ((F_copyCheck T te).ob (u1, l, u2)) k) := hob k
          refine h3.through hF (fun _ h => h) fun l' b' hk' hl' => hoth b' fun he => hk1 ?_
          exact hrw.inj k 1000000 l' _ b hk' hk (he ▸ hl') rfl
      · refine ⟨by rw [← hw']; rfl, by rw [← hw']; rfl, by rw [← hw']; rfl, Nat.le_of_eq hsz.symm, fun _ h => h, fun b' hb' hn => hoth b' fun he => hn (he ▸ hlive), fun _ _ h => h, fun _ _ => Stab.refl _ _⟩
    · rw [hq] at hcell
      refine (hused b w hcell).mono fun e w' ⟨he, hw⟩ => ?_
      subst he
      subst hw
      exact ⟨F, ρ, .ret (.tup []), _, ⟨rfl, rfl⟩, (show RelAV _ _ _ _ (.tup []) (.tuple #[]) from .tup [] #[] rfl fun i hi => by simp at hi), hrw, hob, Fr.refl _ _ _⟩
end Esp

/- EV: strings.Builder: its text: the bytes are frozen there, and the builder is done with. -/
namespace Esp
open Go Go.Shelf Go.Proofs Go.RowKit
set_option linter.unusedSimpArgs false
set_option linter.unusedVariables false
variable [Tabs]

set_option maxHeartbeats 1000000 in
set_option maxRecDepth 100000 in
omit [Tabs] in
theorem string_walk {P : Program} {r : Ren} (L : Lays.n169 P r) (X : Builder.Extra P r) (b n c : Nat) (a p : Option Addr) (w w1 w2 : World) (s : ByteArray)
    (c0 : w.cell? ⟨b, 1, none⟩ = some (.slice a n c)) (c1 : w.drew.cell? ⟨b, 1, none⟩ = some (.slice a n c)) (c2 : w1.cell? ⟨b, 1, none⟩ = some (.slice a n c))
    (hSD : (Builtin.unsafeSliceData_ #[r.t 37] (r.t 127) #[.slice a n c]).run P w.drew = .ok (.pointer p) w1)
    (hUS : (Builtin.unsafeString_ #[r.t 127, r.t 3] (r.t 9) #[.pointer p, .int .i64 n]).run P w1 = .ok (.string s) w2) :
    Calls P (r.f 169) #[.pointer (some ⟨b, 0, none⟩)] w fun e w' => e = .returned (.string s) ∧ w' = w2 := by
  have mixed := L.mixed
  have t72 := L.t72; have a72 := L.a72; have z72 := L.z72; have v72 := L.v72; have u72 := run_underlying L.t72
  have t70 := L.t70; have a70 := L.a70; have z70 := L.z70; have v70 := L.v70; have u70 := run_underlying L.t70
  have t37 := L.t37; have a37 := L.a37; have z37 := L.z37; have v37 := L.v37; have u37 := run_underlying L.t37
  have t127 := L.t127; have a127 := L.a127; have z127 := L.z127; have v127 := L.v127; have u127 := run_underlying L.t127
  have t3 := L.t3; have a3 := L.a3; have z3 := L.z3; have v3 := L.v3; have u3 := run_underlying L.t3
  have t9 := L.t9; have a9 := L.a9; have z9 := L.z9; have v9 := L.v9; have u9 := run_underlying L.t9
  have t5 := X.t5; have a5 := X.a5; have z5 := X.z5; have v5 := X.v5; have u5 := run_underlying X.t5
  go_enter L.f169, Body.n169_ntmps r
  go_wp2
  go_region_o
  all_goals (go_wp2; go_ret; exact ⟨rfl, rfl⟩)

section
variable {P : Program}
omit [Tabs] in
theorem run_loadBytesI {w : World} : ∀ (l : List Int) (a : Addr) (acc : ByteArray), (∀ j x, l[j]? = some x → w.cell? (a.add j) = some (.int .u8 x)) →
    (loadBytes a acc l.length).run P w = .ok ⟨acc.data ++ (Lib.bytesOf l).toArray⟩ w
  | [], a, acc, _ => by simp [loadBytes, Lib.bytesOf]
  | x :: l, a, acc, h => by
    have h0 : w.cell? a = some (.int .u8 x) := by simpa [Addr.add] using h 0 x rfl
    have e : ∀ j, (a.add 1).add j = a.add (j + 1) := fun j => by
      unfold Addr.add
      cases j with
      | zero => simp
      | succ j => simp; omega
    have ih := run_loadBytesI l (a.add 1) (acc.push x.toNat.toUInt8) (fun j y hy => by rw [e]; exact h (j + 1) y (by simpa using hy))
    simp only [List.length_cons, loadBytes, Sem.run_bind, run_load, h0, Result.andThen]
    rw [ih]
    congr 1
    exact ByteArray.ext (by simp [ByteArray.push, Lib.bytesOf])

omit [Tabs] in
theorem run_unsafeString_ints {w : World} (pt it ty e : TypeId) (hp : P.underlying pt = some (.pointer e)) (hc : P.cellsOf e = 1) (g cells : Nat) (hsh : w.shape? g = some (e, cells)) (l : List Int) (h0 : l ≠ []) (hn : l.length ≤ cells) (h63 : l.length ≤ 9223372036854775807)
    (hcell : ∀ j x, l[j]? = some x → w.cell? ((⟨g, 0, none⟩ : Addr).add j) = some (.int .u8 x)) :
    (Builtin.unsafeString_ #[pt, it] ty #[.pointer (some ⟨g, 0, none⟩), .int .i64 l.length]).run P w = .ok (.string (bytesZ l)) (w.freeze ⟨g, 0, none⟩ l.length) := by
  have hl : l.length ≠ 0 := by simpa using h0
  have hlb : (loadBytes ⟨g, 0, none⟩ .empty l.length).run P w = .ok (bytesZ l) w := by
    rw [run_loadBytesI l _ _ hcell]
    congr 1
    simp [bytesZ]
  have hlies := Lib.liesAt_bytes (P := P) hc (cells / P.cellsOf e) l.length (by rw [hc]; simpa using hn)
  have h63' : ¬ (9223372036854775807 : Int) < (l.length : Int) := by omega
  have hmax : IntKind.i64.max = 9223372036854775807 := rfl
  have hneg : ¬ (l.length : Int) < 0 := by omega
  have hdef : Builtin.unsafeString_ #[pt, it] ty #[.pointer (some ⟨g, 0, none⟩), .int .i64 l.length] = (asInt (.int .i64 l.length) >>= _) := rfl
  rw [hdef]
  simp [asInt, asIntOf, hmax, h63', hneg, hl, variablesAt, hsh, elemOf, run_underlying hp, hlies, hlb]

def F_string (T te : TypeId) : FnT := ⟨1, ⟨[(0, .ptr 1000000 0)], [], [(1000000, bldBox T), (1000001, .arr te .u8)], []⟩, [.v .str], []⟩
noncomputable def stringN : Unit × List Int × Unit → Option (ByteArray × Unit) := fun (_, l, _) => some (bytesZ l, ())

theorem string_end {F : Nat → Prop} {ρ : Env} {w w2 : World} {s : ByteArray} (hrw : RelW F ρ w) (h1 : w2.os = w.os) (h2 : w2.tape = w.tape) (h3 : w2.output = w.output) (h4 : w.heap.size ≤ w2.heap.size)
    (h5 : ∀ b, b < w.heap.size → ¬ live ρ b → w2.heap[b]? = w.heap[b]?) :
    ∃ F' ρ' r ob', EX (.cell (.d (.sc (.string s)))) [] r ob' ∧ RelEnd w2 F' ρ' r (.returned (.string s)) ∧ RelW F' ρ' w2 ∧ (∀ k, RelOb w2 F' ρ' k (lkO ob' k)) ∧ Fr F ρ w F' ρ' w2 := by
  have hF : ∀ b, F b → w2.heap[b]? = w.heap[b]? := fun b hb => h5 b (hrw.lt b hb) (hrw.dis b hb)
  refine ⟨F, fun _ => none, _, _, ⟨rfl, rfl⟩, (show RelAV _ _ _ _ (.cell (.d (.sc (.string s)))) (.string s) from .cell _ _ (.d _ _ (.sc _ rfl))), ⟨fun b _ ⟨k, l, hk, _⟩ => (by cases hk), fun b hb => Nat.lt_of_lt_of_le (hrw.lt b hb) h4, fun k k' l l' b hk => (by cases hk), hrw.tab_of hF fun _ h => h⟩, fun k => .gone rfl, ?_⟩
  refine ⟨h1, h2, h3, h4, fun _ h => h, fun b hb hn => h5 b hb hn, fun b _ hh => ?_, fun k _ => ?_⟩
  · rcases hh with hh | ⟨k, l, hk, _⟩
    · exact .inl hh
    · cases hk
  · cases ρ k <;> trivial

omit [Tabs] in
theorem freeze_other {w : World} {g b n : Nat} (h : b ≠ g) : (w.freeze ⟨g, 0, none⟩ n).heap[b]? = w.heap[b]? := by
  unfold World.freeze
  split
  · rfl
  · simp [Array.getElem?_modify, Ne.symm h]
omit [Tabs] in
theorem freeze_same {w : World} {a : Addr} {n : Nat} : (w.freeze a n).os = w.os ∧ (w.freeze a n).tape = w.tape ∧ (w.freeze a n).output = w.output ∧ (w.freeze a n).heap.size = w.heap.size := by
  unfold World.freeze
  split
  · exact ⟨rfl, rfl, rfl, rfl⟩
  · exact ⟨rfl, rfl, rfl, by simp⟩

theorem string_ok {r : Ren} (L : Lays.n169 P r) (X : Builder.Extra P r) : Contract P (r.f 169) (F_string (r.t 72) (r.t 5)) stringN := by
  intro x y hy
  obtain ⟨u1, l, u2⟩ := x
  cases hy
  intro F ρ vs w hrw hob hra
  have hz : vs.size = 1 := hra.sz
  have h0 : RelAV w F ρ #[] (.cell (.ptr 1000000 0)) (vs.getD 0 undef) := hra.rel 0 (by show 0 < 1; omega)
  have hb : RelOb w F ρ 1000000 (.box [.pn 1000000, .own 1000001] (some (r.t 72))) := hob 1000000
  have ha : RelOb w F ρ 1000001 (.na (r.t 5) .u8 l) := hob 1000001
  have hfl : flat .u8 l = l.map fun n => .sc (.int .u8 n) := by
    clear hob hra ha hb
    simp only [flat]
    induction l with
    | nil => rfl
    | cons x r ih => simp only [List.flatMap_cons, ih, List.map_cons]; rfl
  replace ha : RelOb w F ρ 1000001 (.arr (r.t 5) 1 l.length (flat .u8 l)) := by cases ha; assumption
  generalize hbx : AObj.box [.pn 1000000, .own 1000001] (some (r.t 72)) = bx at hb
  cases hb with
  | gone | arr | na | tab | it | mi | mp | any => cases hbx
  | box cs oty b c t hty hk hb hs h =>
    cases hbx
    have ht : t = r.t 72 := hty _ rfl
    subst ht
    have hp : vs.getD 0 undef = .pointer (some ⟨b, 0, none⟩) := by
      cases h0 with
      | cell _ _ h0 => cases h0 with
        | ptr k off v h0 => exact h0 b hk
    have e : vs = #[.pointer (some ⟨b, 0, none⟩)] := by
      rw [← hp]
      apply Array.ext
      · simpa using hz
      · intro i h1 h2
        have : i = 0 := by simp at h2; omega
        subst this
        simp [Array.getD_eq_getD_getElem?, h1]
    have hc2 : c.size = 2 := hs
    have hblt : b < w.heap.size := by
      rcases Nat.lt_or_ge b w.heap.size with h' | h'
      · exact h'
      · simp [Array.getElem?_eq_none h'] at hb
    have how : RelAC w F ρ (.own 1000001) (c.getD 1 undef) := h 1 (by show 1 < 2; omega)
    have hcell : w.cell? ⟨b, 1, none⟩ = some (c.getD 1 undef) := by
      have : 1 < c.size := by omega
      simp [World.cell?, hb, Array.getD_eq_getD_getElem?, this]
    rw [e]
    clear h0 hp e hra hob
    cases ha with
    | arr t' e' n' cs' u xs hk2 ho hs2 hx =>
      have hu : c.getD 1 undef = u := by
        cases how with
        | own k v how => exact how u hk2
      rw [hu] at hcell
      clear how hu
      rcases ho.2 with ⟨rfl, hn⟩ | ⟨g, cap, cur, rfl, _, hg, hnc, hcm, hcs, htk⟩
      · have : l = [] := List.eq_nil_of_length_eq_zero hn
        subst this
        refine (string_walk L X b 0 0 none none w w.drew w.drew .empty hcell hcell hcell rfl (Any.unsafeString_none L X _ none)).mono fun e w' ⟨he, hw⟩ => ?_
        subst he; subst hw
        exact string_end hrw rfl rfl rfl (Nat.le_refl _) fun _ _ _ => rfl
      · have hlg : live ρ g := ⟨1000001, _, hk2, rfl⟩
        have hglt : g < w.heap.size := by
          rcases Nat.lt_or_ge g w.heap.size with h' | h'
          · exact h'
          · simp [Array.getElem?_eq_none h'] at hg
        have hsh : w.drew.shape? g = some (r.t 5, cur.size) := by
          have hg' : w.drew.heap[g]? = some (.cells cur (r.t 5) (0, 0)) := hg
          simp [World.shape?, hg']
        by_cases hl : l = []
        · subst hl
          by_cases hc0 : cap = 0
          · subst hc0
            have hold : ∀ b', b' < w.heap.size → (w.drew.alloc (.view ⟨g, 0, none⟩ (r.t 5))).heap[b']? = w.heap[b']? := fun b' hb' => Lib.alloc_old w.drew _ b' hb'
            have hc3 : (w.drew.alloc (.view ⟨g, 0, none⟩ (r.t 5))).cell? ⟨b, 1, none⟩ = some (.slice (some ⟨g, 0, none⟩) 0 0) := (cell?_eq (hold b hblt)).trans hcell
            refine (string_walk L X b 0 0 (some ⟨g, 0, none⟩) _ w _ _ .empty hcell hcell hc3 (Lib.run_unsafeSliceData_zero w.drew _ _ (r.t 5) L.t127 ⟨g, 0, none⟩ 0 (r.t 5, cur.size) hsh) (Any.unsafeString_none L X _ _)).mono fun e w' ⟨he, hw⟩ => ?_
            subst he; subst hw
            exact string_end hrw rfl rfl rfl (by simp [World.alloc]) fun b' hb' _ => hold b' hb'
          · refine (string_walk L X b 0 cap (some ⟨g, 0, none⟩) _ w w.drew w.drew .empty hcell hcell hcell (Lib.run_unsafeSliceData_row _ _ _ _ _ _ hc0) (Any.unsafeString_none L X _ _)).mono fun e w' ⟨he, hw⟩ => ?_
            subst he; subst hw
            exact string_end hrw rfl rfl rfl (Nat.le_refl _) fun _ _ _ => rfl
        · have hl0 : l.length ≠ 0 := by simpa using hl
          have hcl : ∀ j x, l[j]? = some x → w.drew.cell? ((⟨g, 0, none⟩ : Addr).add j) = some (.int .u8 x) := by
            intro j x hj
            have hjl := (List.getElem?_eq_some_iff.1 hj).1
            have hjf : j < (flat .u8 l).length := by rw [hfl, List.length_map]; exact hjl
            have h2 := hx j hjf
            have h3 : (flat .u8 l)[j]'hjf = .sc (.int .u8 x) := by
              have : (flat .u8 l)[j]? = some (.sc (.int .u8 x)) := by rw [hfl, List.getElem?_map, hj]; rfl
              exact (List.getElem?_eq_some_iff.1 this).2
            rw [h3] at h2
            have h4 : xs.getD j undef = .int .u8 x := by
              generalize xs.getD j undef = v at h2
              cases h2
              rfl
            have h5 : xs[j]? = some (.int .u8 x) := by
              have hjx : j < xs.length := by rw [hs2]; exact hjf
              rw [List.getD_eq_getElem?_getD, List.getElem?_eq_getElem hjx] at h4
              rw [List.getElem?_eq_getElem hjx]
              exact congrArg some h4
            have h6 : cur[j]? = some (.int .u8 x) := by
              rw [← htk, List.getElem?_take] at h5
              split at h5
              · simpa using h5
              · cases h5
            rw [Addr.add_lit]
            have hg' : w.drew.heap[g]? = some (.cells cur (r.t 5) (0, 0)) := hg
            simp [World.cell?, hg', h6]
          have hsd : (Builtin.unsafeSliceData_ #[r.t 37] (r.t 127) #[.slice (some ⟨g, 0, none⟩) l.length cap]).run P w.drew = .ok (.pointer (some ⟨g, 0, none⟩)) w.drew := Lib.run_unsafeSliceData_row _ _ _ _ _ _ (by omega)
          have hus := run_unsafeString_ints (P := P) (w := w.drew) (r.t 127) (r.t 3) (r.t 9) (r.t 5) L.t127 X.cellsByte g cur.size hsh l hl (by omega) (by unfold maxLen at hcm; omega) hcl
          refine (string_walk L X b l.length cap (some ⟨g, 0, none⟩) _ w w.drew _ _ hcell hcell hcell hsd hus).mono fun e w' ⟨he, hw⟩ => ?_
          subst he; subst hw
          obtain ⟨f1, f2, f3, f4⟩ := freeze_same (w := w.drew) (a := ⟨g, 0, none⟩) (n := l.length)
          exact string_end hrw f1 f2 f3 (Nat.le_of_eq f4.symm) fun b' hb' hn => freeze_other fun he => hn (he ▸ hlg)
end
end Esp

/- EV: numbers as texts, texts as numbers, and the first rune of a text: the kit's contracts over plain data. -/
namespace Esp
open Go Go.Shelf Go.Proofs Go.RowKit
set_option linter.unusedSimpArgs false
set_option linter.unusedVariables false
variable [Tabs]

theorem below_end {F : Nat → Prop} {ρ : Env} {w w' : World} {ob : List (Nat × AObj)} {x : AV} {v : Value} (hrw : RelW F ρ w) (hob : ∀ k, RelOb w F ρ k (lkO ob k)) (hb : Below w.heap.size w w') (hv : RelAV w' F ρ #[] x v) :
    ∃ F' ρ' r ob', EX x ob r ob' ∧ RelEnd w' F' ρ' r (.returned v) ∧ RelW F' ρ' w' ∧ (∀ k, RelOb w' F' ρ' k (lkO ob' k)) ∧ Fr F ρ w F' ρ' w' := by
  have hkeep : ∀ b, b < w.heap.size → w'.heap[b]? = w.heap[b]? := hb.block
  exact ⟨F, ρ, _, _, ⟨rfl, rfl⟩, hv, ⟨hrw.dis, fun b hf => Nat.lt_of_lt_of_le (hrw.lt b hf) hb.size, hrw.inj, hrw.tab_of (fun b hf => hkeep b (hrw.lt b hf)) fun _ h => h⟩,
    fun k => (hob k).through (fun b hf => hkeep b (hrw.lt b hf)) (fun _ h => h) fun l b hk hl => hkeep b ((hob k).lt hk hl), ⟨hb.os, hb.tape, hb.output, hb.size, fun _ h => h, fun b hbb _ => hkeep b hbb, fun _ _ h => h, fun _ _ => Stab.refl _ _⟩⟩

omit [Tabs] in
theorem one_arg {w : World} {F : Nat → Prop} {ρ : Env} {vs : Array Value} {u : Value} {l : List AV} (hl : l = [.cell (.d (.sc u))]) (hra : RelArgs w F ρ l vs) : vs = #[u] := by
  subst hl
  have hz : vs.size = 1 := hra.sz
  have h0 := cell_inv (x := .sc u) (hra.rel 0 (by show 0 < 1; omega))
  have h1 : vs.getD 0 undef = u := by
    generalize vs.getD 0 undef = v at h0
    cases h0
    rfl
  rw [← h1]
  apply Array.ext
  · simpa using hz
  · intro i h1 h2
    have : i = 0 := by simp at h2; omega
    subst this
    simp [Array.getD_eq_getD_getElem?, h1]

section
variable {P : Program} {r : Ren}
def F_itoa : FnT := ⟨1, ⟨[], [(0, .i64)], [], []⟩, [.v .str], []⟩
noncomputable def itoaN : Int × Unit → Option (ByteArray × Unit) := fun (n, _) => bif decide (-9223372036854775808 ≤ n) && decide (n ≤ 9223372036854775807) then some (⟨(Lib.itoa n).toArray⟩, ()) else none
theorem itoa_ok (L : LaysM.n171 P r) (hT : ∀ w : World, (∀ b o, Tabs.get b = some o → w.heap[b]? = some o) → Lib.TabIs P w "internal/strconv.uint64pow10" .u64 Lib.pow10Tab) : Contract P (r.f 171) F_itoa itoaN := by
  rintro ⟨n, u⟩ y hy
  unfold itoaN at hy
  cases hs : decide (-9223372036854775808 ≤ n) && decide (n ≤ 9223372036854775807) with
  | false => dsimp only at hy; rw [hs] at hy; cases hy
  | true =>
    dsimp only at hy
    rw [hs] at hy
    cases hy
    simp only [Bool.and_eq_true, decide_eq_true_eq] at hs
    intro F ρ vs w hrw hob hra
    have e := one_arg (u := .int .i64 n) rfl hra
    subst e
    refine (Any.strconv_Itoa L n hs.1 hs.2 w (hT w fun b o hb => (hrw.tab b o hb).2)).mono fun e w' ⟨he, k, os, hw⟩ => ?_
    subst he; subst hw
    exact below_end hrw hob ⟨rfl, rfl, rfl, (by show w.heap.size ≤ (w.heap ++ os).size; rw [Array.size_append]; omega), fun j hj => (by show (w.heap ++ os)[j]? = _; rw [Array.getElem?_append_left hj])⟩ (.cell _ _ (.d _ _ (.sc _ rfl)))

def F_decode : FnT := ⟨1, ⟨[], [(0, .str)], [], []⟩, [.v .i32, .v .i64], []⟩
noncomputable def decodeN : ByteArray × Unit → Option (Int × Int × Unit) := fun (s, _) => some ((Lib.decodeGo s).1, (Lib.decodeGo s).2, ())
theorem decode_ok (L : Lays.n197 P r) (hT : ∀ w : World, (∀ b o, Tabs.get b = some o → w.heap[b]? = some o) → Lib.Utf8Tabs (r.g 3) (r.g 4) w) : Contract P (r.f 197) F_decode decodeN := by
  rintro ⟨s, u⟩ y hy
  cases hy
  intro F ρ vs w hrw hob hra
  have e := one_arg (u := .string s) rfl hra
  subst e
  refine (Any.utf8_DecodeRuneInString L s w (hT w fun b o hb => (hrw.tab b o hb).2)).mono fun e w' ⟨he, hb⟩ => ?_
  subst he
  refine below_end hrw hob hb (.tup _ _ rfl fun i hi => ?_)
  have hi2 : i < 2 := hi
  by_cases h0 : i = 0
  · subst h0; exact .cell _ _ (.d _ _ (.sc _ rfl))
  · have : i = 1 := by omega
    subst this; exact .cell _ _ (.d _ _ (.sc _ rfl))

def F_atoi : FnT := ⟨1, ⟨[], [(0, .str)], [], []⟩, [.v .i64, .ref .nili], []⟩
noncomputable def atoiN : ByteArray × Unit → Option (Int × Unit) := fun (s, _) => bif Nat.ble s.size 9223372036854775806 then (match Lib.atoiAll s.data.toList with
  | .ok v => some (v, ())
  | _ => none) else none
theorem atoi_ok (L : LaysC.n172 P r) : Contract P (r.f 172) F_atoi atoiN := by
  rintro ⟨s, u⟩ y hy
  unfold atoiN at hy
  dsimp only at hy
  cases hs : Nat.ble s.size 9223372036854775806 with
  | false => rw [hs] at hy; cases hy
  | true =>
    rw [hs, cond_true] at hy
    split at hy
    · rename_i v hv
      cases hy
      intro F ρ vs w hrw hob hra
      have e := one_arg (u := .string s) rfl hra
      subst e
      refine (Any.strconv_Atoi_ok L s (Nat.le_of_ble_eq_true hs) v hv w).mono fun e w' ⟨he, hw⟩ => ?_
      subst he
      have hb : Below w.heap.size w w' := by
        rcases hw with rfl | ⟨t, rfl⟩
        · exact Below.refl _ _
        · exact Lib.bytesWorld_below w _ _
      refine below_end hrw hob hb (.tup _ _ rfl fun i hi => ?_)
      have hi2 : i < 2 := hi
      by_cases h0 : i = 0
      · subst h0; exact .cell _ _ (.d _ _ (.sc _ rfl))
      · have : i = 1 := by omega
        subst this; exact .cell _ _ (.d _ _ (.sc _ rfl))
    · cases hy
end
end Esp

/- EV: strings.Builder's Grow, at a builder that holds no bytes. -/
namespace Esp
open Go Go.Shelf Go.Proofs
set_option linter.unusedSimpArgs false
set_option linter.unusedVariables false
variable [Tabs]
def GrownW (T te : TypeId) (b : Nat) (a : Option Addr) (cp : Nat) (w w' : World) : Prop :=
  w'.os = w.os ∧ w'.tape = w.tape ∧ w'.output = w.output ∧ w.heap.size ≤ w'.heap.size ∧ (∀ k, k < w.heap.size → k ≠ b → w'.heap[k]? = w.heap[k]?) ∧
  (w'.heap[b]? = some (.cells #[.pointer (some ⟨b, 0, none⟩), .slice a 0 cp] T (0, 0)) ∨
   ∃ (g : Nat) (cs : Array Value), w'.heap[b]? = some (.cells #[.pointer (some ⟨b, 0, none⟩), .slice (some ⟨g, 0, none⟩) 0 cs.size] T (0, 0)) ∧ w.heap.size ≤ g ∧ w'.heap[g]? = some (.cells cs te (0, 0)) ∧ cs.size ≤ maxLen)
def F_grow (T te : TypeId) : FnT := ⟨2, ⟨[(0, .ptr 1000000 0)], [(1, .i64)], [(1000000, bldBox T), (1000001, .arr te .u8)], []⟩, [], [(1000000, bldBox T), (1000001, .arr te .u8)]⟩
def growN : Int × Unit × List Int × Unit → Option (Unit × List Int × Unit) := fun (n, _, l, _) => bif decide (0 ≤ n) && decide (n ≤ 70000000000000) && l.isEmpty then some ((), [], ()) else none
omit [Tabs] in
theorem gone2 (o1 o2 : AObj) (k : Nat) (h1 : k ≠ 1000000) (h2 : k ≠ 1000001) : lkO [(1000000, o1), (1000001, o2)] k = .gone := by
  have e1 : Nat.beq k 1000000 = false := by cases h : Nat.beq k 1000000 with
    | false => rfl
    | true => exact absurd (Nat.eq_of_beq_eq_true h) h1
  have e2 : Nat.beq k 1000001 = false := by cases h : Nat.beq k 1000001 with
    | false => rfl
    | true => exact absurd (Nat.eq_of_beq_eq_true h) h2
  rw [lkO, e1, cond_false, lkO, e2, cond_false, lkO]
theorem grow_of {P : Program} {f : FuncId} {T te : TypeId}
    (hwalk : ∀ (b n cp : Nat) (p a : Option Addr) (w : World), (p = none ∨ p = some ⟨b, 0, none⟩) → w.heap[b]? = some (.cells #[.pointer p, .slice a 0 cp] T (0, 0)) → n ≤ 70000000000000 → cp ≤ 9223372036854775807 →
      Calls P f #[.pointer (some ⟨b, 0, none⟩), .int .i64 n] w fun e w' => e = .returned (.tuple #[]) ∧ GrownW T te b a cp w w') :
    Contract P f (F_grow T te) growN := by
  intro x y hy
  obtain ⟨n, u1, l, u2⟩ := x
  unfold growN at hy
  dsimp only at hy
  cases hc : decide (0 ≤ n) && decide (n ≤ 70000000000000) && l.isEmpty with
  | false => rw [hc] at hy; cases hy
  | true =>
  rw [hc] at hy
  cases hy
  rw [Bool.and_eq_true, Bool.and_eq_true, decide_eq_true_iff, decide_eq_true_iff, List.isEmpty_iff] at hc
  obtain ⟨⟨hn0, hn1⟩, rfl⟩ := hc
  have hn0' : (0 : Int) ≤ n := hn0
  have hn1' : (n : Int) ≤ 70000000000000 := hn1
  obtain ⟨n, rfl⟩ := Int.eq_ofNat_of_zero_le hn0'
  have hn2 : n ≤ 70000000000000 := Int.ofNat_le.1 hn1'
  intro F ρ vs w hrw hob hra
  have hz : vs.size = 2 := hra.sz
  have h0 : RelAV w F ρ #[] (.cell (.ptr 1000000 0)) (vs.getD 0 undef) := hra.rel 0 (by show 0 < 2; omega)
  have hv1 := (scV_rel (hra.rel 1 (by show 1 < 2; omega)) (u := .int .i64 n) rfl).1
  have hb : RelOb w F ρ 1000000 (.box [.pn 1000000, .own 1000001] (some T)) := hob 1000000
  have ha : RelOb w F ρ 1000001 (.na te .u8 []) := hob 1000001
  have hgone : ∀ k, k ≠ 1000000 → k ≠ 1000001 → ρ k = none := fun k h1 h2 => by
    have h3 : RelOb w F ρ k (lkO ((F_grow T te).ob ((n : Int), u1, [], u2)) k) := hob k
    have e : lkO ((F_grow T te).ob ((n : Int), u1, [], u2)) k = .gone := gone2 _ _ k h1 h2
    rw [e] at h3
    cases h3 with
    | gone h => exact h
  replace ha : RelOb w F ρ 1000001 (.arr te 1 0 []) := by cases ha; assumption
  generalize hbx : AObj.box [.pn 1000000, .own 1000001] (some T) = bx at hb
  cases hb with
  | gone | arr | na | tab | it | mi | mp | any => cases hbx
  | box cs oty b c t hty hk hb hs h =>
    cases hbx
    have ht : t = T := hty _ rfl
    subst ht
    have hp : vs.getD 0 undef = .pointer (some ⟨b, 0, none⟩) := by
      cases h0 with
      | cell _ _ h0 => cases h0 with
        | ptr k off v h0 => exact h0 b hk
    have e : vs = #[.pointer (some ⟨b, 0, none⟩), .int .i64 n] := by
      apply Array.ext
      · simpa using hz
      · intro i h1 h2
        have e2 : vs.getD i undef = vs[i] := by simp [Array.getD_eq_getD_getElem?, h1]
        rw [← e2]
        have h3 : i = 0 ∨ i = 1 := by simp at h2; omega
        rcases h3 with rfl | rfl
        · rw [hp]; rfl
        · rw [hv1]; rfl
    have hc2 : c.size = 2 := hs
    have hblt : b < w.heap.size := (Array.getElem?_eq_some_iff.1 hb).1
    have hpn : RelAC w F ρ (.pn 1000000) (c.getD 0 undef) := h 0 (by show 0 < 2; omega)
    have how : RelAC w F ρ (.own 1000001) (c.getD 1 undef) := h 1 (by show 1 < 2; omega)
    have hlive : live ρ b := ⟨1000000, _, hk, rfl⟩
    have hq : c.getD 0 undef = .pointer none ∨ c.getD 0 undef = .pointer (some ⟨b, 0, none⟩) := by
      cases hpn with
      | pn k v hp => exact hp b hk
    obtain ⟨p, hp0, hpq⟩ : ∃ p : Option Addr, (p = none ∨ p = some ⟨b, 0, none⟩) ∧ c.getD 0 undef = .pointer p := by
      rcases hq with hq | hq
      · exact ⟨_, .inl rfl, hq⟩
      · exact ⟨_, .inr rfl, hq⟩
    cases ha with
    | arr t' e' n' cs' u xs hk2 ho hs2 hx =>
      have hu : c.getD 1 undef = u := by
        cases how with
        | own k v how => exact how u hk2
      obtain ⟨a, cp, hua, hcp⟩ : ∃ a cp, u = .slice a 0 cp ∧ cp ≤ 9223372036854775807 := by
        rcases ho.2 with ⟨rfl, _⟩ | ⟨g, cap, cur, rfl, _, _, _, hcm, _, _⟩
        · exact ⟨none, 0, rfl, by decide⟩
        · exact ⟨_, _, rfl, Nat.le_trans hcm (by unfold maxLen; decide)⟩
      have hcc : c = #[.pointer p, .slice a 0 cp] := by
        rw [← hpq, ← hua, ← hu]
        apply Array.ext
        · simpa using hc2
        · intro i h1 h2
          have h3 : i = 0 ∨ i = 1 := by simp at h2; omega
          rcases h3 with rfl | rfl <;> simp [Array.getD_eq_getD_getElem?, h1]
      rw [hcc] at hb
      rw [e]
      refine (hwalk b n cp p a w hp0 hb hn2 hcp).mono fun e w' ⟨he, g1, g2, g3, g4, g5, g6⟩ => ?_
      subst he
      have hF : ∀ b', F b' → w'.heap[b']? = w.heap[b']? := fun b' hb' => g5 b' (hrw.lt b' hb') fun he => hrw.dis b' hb' (he ▸ hlive)
      have hkeep : ∀ b', b' < w.heap.size → ¬ live ρ b' → w'.heap[b']? = w.heap[b']? := fun b' h1 h2 => g5 b' h1 fun he => h2 (he ▸ hlive)
      have htup : ∀ F' ρ', RelAV w' F' ρ' #[] (.tup []) (.tuple #[]) := fun _ _ => .tup [] #[] rfl fun i hi => by simp at hi
      rcases g6 with g6 | ⟨g, cs, q1, q2, q3, q4⟩
      · refine ⟨F, ρ, .ret (.tup []), _, ⟨rfl, rfl⟩, htup F ρ, ⟨hrw.dis, fun b' hb' => Nat.lt_of_lt_of_le (hrw.lt b' hb') g4, hrw.inj, hrw.tab_of hF fun _ h => h⟩, fun k => ?_, ⟨g1, g2, g3, g4, fun _ h => h, hkeep, fun _ _ h => h, fun _ _ => Stab.refl _ _⟩⟩
        by_cases hk1 : k = 1000000
        · subst hk1
          refine RelOb.box [.pn 1000000, .own 1000001] (some t) b _ _ (fun _ h => hty _ h) hk g6 rfl fun i hi => ?_
          have hi2 : i < 2 := hi
          have h3 : i = 0 ∨ i = 1 := by omega
          rcases h3 with rfl | rfl
          · refine .pn _ _ fun b2 hb2 => .inr ?_
            rw [hk] at hb2
            cases hb2
            rfl
          · refine .own _ _ fun u2 hu2 => ?_
            rw [hk2] at hu2
            cases hu2
            exact hua.symm
        · by_cases hk3 : k = 1000001
          · subst hk3
            refine RelOb.na te .u8 [] (.arr te 1 0 [] u [] hk2 ?_ rfl fun i hi => by simp at hi)
            rcases ho.2 with ⟨rfl, _⟩ | ⟨g, cap, cur, rfl, q1, q2, q3, q4, q5, q6⟩
            · exact World.ownsRow_nil _ _ _ _
            · refine ⟨rfl, .inr ⟨g, cap, cur, rfl, q1, ?_, q3, q4, q5, by simp⟩⟩
              refine (g5 g (Array.getElem?_eq_some_iff.1 q2).1 fun he => ?_).trans q2
              have := hrw.inj 1000001 1000000 _ _ b hk2 hk (he ▸ rfl) rfl
              omega
          · show RelOb w' F ρ k (lkO [(1000000, _), (1000001, _)] k)
            rw [gone2 _ _ k hk1 hk3]
            exact .gone (hgone k hk1 hk3)
      · have hset : ∀ k, k ≠ 1000001 → ρ.set 1000001 (some (.arr (.slice (some ⟨g, 0, none⟩) 0 cs.size))) k = ρ k := fun k hk => Env.set_other ρ _ _ hk
        have hset1 : ρ.set 1000001 (some (.arr (.slice (some ⟨g, 0, none⟩) 0 cs.size))) 1000001 = some (.arr (.slice (some ⟨g, 0, none⟩) 0 cs.size)) := Env.set_same ρ _ _
        generalize ρ.set 1000001 (some (.arr (.slice (some ⟨g, 0, none⟩) 0 cs.size))) = ρ' at hset hset1
        have hlv : ∀ b', live ρ' b' → live ρ b' ∨ b' = g := by
          rintro b' ⟨k, l, h1, h2⟩
          by_cases hk3 : k = 1000001
          · subst hk3
            rw [hset1] at h1
            cases h1
            cases h2
            exact .inr rfl
          · rw [hset k hk3] at h1
            exact .inl ⟨k, l, h1, h2⟩
        refine ⟨F, ρ', .ret (.tup []), _, ⟨rfl, rfl⟩, htup F ρ', ⟨fun b' h1 h2 => ?_, fun b' hb' => Nat.lt_of_lt_of_le (hrw.lt b' hb') g4, fun k k' l l' b' h1 h2 h3 h4 => ?_, hrw.tab_of hF fun _ h => h⟩, fun k => ?_, ⟨g1, g2, g3, g4, fun _ h => h, hkeep, fun b' h1 h2 => ?_, fun k hk0 => ?_⟩⟩
        · rcases hlv b' h2 with h3 | h3
          · exact hrw.dis b' h1 h3
          · have := hrw.lt b' h1
            omega
        · have hlt : ∀ k l, k ≠ 1000001 → ρ k = some l → l.blk = some b' → b' < w.heap.size := fun k l hk3 h5 h6 => by
            by_cases hk1 : k = 1000000
            · subst hk1
              rw [hk] at h5
              cases h5
              cases h6
              exact hblt
            · rw [hgone k hk1 hk3] at h5
              cases h5
          by_cases hk3 : k = 1000001
          · by_cases hk4 : k' = 1000001
            · rw [hk3, hk4]
            · subst hk3
              rw [hset1] at h1
              cases h1
              cases h3
              rw [hset k' hk4] at h2
              have : g < w.heap.size := hlt k' l' hk4 h2 h4
              omega
          · by_cases hk4 : k' = 1000001
            · subst hk4
              rw [hset1] at h2
              cases h2
              cases h4
              rw [hset k hk3] at h1
              have : g < w.heap.size := hlt k l hk3 h1 h3
              omega
            · rw [hset k hk3] at h1
              rw [hset k' hk4] at h2
              exact hrw.inj k k' l l' b' h1 h2 h3 h4
        · by_cases hk1 : k = 1000000
          · subst hk1
            refine RelOb.box [.pn 1000000, .own 1000001] (some t) b _ _ (fun _ h => hty _ h) ((hset _ (by decide)).trans hk) q1 rfl fun i hi => ?_
            have hi2 : i < 2 := hi
            have h3 : i = 0 ∨ i = 1 := by omega
            rcases h3 with rfl | rfl
            · refine .pn _ _ fun b2 hb2 => .inr ?_
              rw [hset _ (by decide), hk] at hb2
              cases hb2
              rfl
            · refine .own _ _ fun u2 hu2 => ?_
              rw [hset1] at hu2
              cases hu2
              rfl
          · by_cases hk3 : k = 1000001
            · subst hk3
              exact RelOb.na te .u8 [] (.arr te 1 0 [] _ [] hset1 ⟨rfl, .inr ⟨g, cs.size, cs, rfl, Nat.zero_le _, q3, Nat.zero_le _, q4, by simp, by simp⟩⟩ rfl fun i hi => by simp at hi)
            · show RelOb w' F ρ' k (lkO [(1000000, _), (1000001, _)] k)
              rw [gone2 _ _ k hk1 hk3]
              exact .gone ((hset k hk3).trans (hgone k hk1 hk3))
        · rcases h2 with h2 | h2
          · exact .inl h2
          · rcases hlv b' h2 with h3 | h3
            · exact .inr h3
            · omega
        · by_cases hk3 : k = 1000001
          · subst hk3
            rw [hset1, hk2]
            intro h
            omega
          · rw [hset k hk3]
            exact Stab.refl _ _
end Esp

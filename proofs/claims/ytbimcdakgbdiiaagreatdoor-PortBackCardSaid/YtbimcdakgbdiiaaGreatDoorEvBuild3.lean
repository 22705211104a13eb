/- EV: numbers as texts, texts as numbers, and the first rune of a text: the kit's contracts over plain data. -/
import Derived.Test.YtbimcdakgbdiiaaGreatDoorEvLib
import Derived.Shelf.Strconv.Itoa3
import Derived.Shelf.Strconv.AtoiAll
import Derived.Shelf.Unicode.DecodeAny
import Derived.Lib.AtoiErrMem
namespace Esp
open Go Go.Shelf Go.Proofs Go.RowKit
set_option linter.unusedSimpArgs false
set_option linter.unusedVariables false
variable [Tabs]

theorem below_end {F : Nat → Prop} {ρ : Env} {w w' : World} {ob : List (Nat × AObj)} {x : AV} {v : Value} (hrw : RelW F ρ w) (hob : ∀ k, RelOb w F ρ k (lkO ob k)) (hb : Below w.heap.size w w') (hv : RelAV w' F ρ #[] x v) :
    ∃ F' ρ' r ob', EX x ob r ob' ∧ RelEnd w' F' ρ' r (.returned v) ∧ RelW F' ρ' w' ∧ (∀ k, RelOb w' F' ρ' k (lkO ob' k)) ∧ Fr F ρ w F' ρ' w' := by
  have hkeep : ∀ b, b < w.heap.size → w'.heap[b]? = w.heap[b]? := hb.block
  exact ⟨F, ρ, _, _, ⟨rfl, rfl⟩, hv, ⟨hrw.dis, fun b hf => Nat.lt_of_lt_of_le (hrw.lt b hf) hb.size, hrw.inj, hrw.tab_of (fun b hf => hkeep b (hrw.lt b hf)) fun _ h => h⟩,
    fun k => (hob k).through (fun b hf => hkeep b (hrw.lt b hf)) (fun _ h => h) fun l b hk hl => hkeep b ((hob k).lt hk hl), ⟨hb.os, hb.tape, hb.output, hb.size, fun _ h => h, fun b hbb _ => hkeep b hbb, fun _ _ h => h, fun _ _ => Stab.refl _ _⟩⟩

omit [Tabs] in
theorem one_arg {w : World} {F : Nat → Prop} {ρ : Env} {vs : Array Value} {u : Value} {l : List AV} (hl : l = [.cell (.d (.sc u))]) (hra : RelArgs w F ρ l vs) : vs = #[u] := by
  subst hl
  have hz : vs.size = 1 := hra.sz
  have h0 := cell_inv (x := .sc u) (hra.rel 0 (by show 0 < 1; omega))
  have h1 : vs.getD 0 undef = u := by
    generalize vs.getD 0 undef = v at h0
    cases h0
    rfl
  rw [← h1]
  apply Array.ext
  · simpa using hz
  · intro i h1 h2
    have : i = 0 := by simp at h2; omega
    subst this
    simp [Array.getD_eq_getD_getElem?, h1]

section
variable {P : Program} {r : Ren}
def F_itoa : FnT := ⟨1, ⟨[], [(0, .i64)], [], []⟩, [.v .str], []⟩
noncomputable def itoaN : Int × Unit → Option (ByteArray × Unit) := fun (n, _) => bif decide (-9223372036854775808 ≤ n) && decide (n ≤ 9223372036854775807) then some (⟨(Lib.itoa n).toArray⟩, ()) else none
theorem itoa_ok (L : LaysM.n171 P r) (hT : ∀ w : World, (∀ b o, Tabs.get b = some o → w.heap[b]? = some o) → Lib.TabIs P w "internal/strconv.uint64pow10" .u64 Lib.pow10Tab) : Contract P (r.f 171) F_itoa itoaN := by
  rintro ⟨n, u⟩ y hy
  unfold itoaN at hy
  cases hs : decide (-9223372036854775808 ≤ n) && decide (n ≤ 9223372036854775807) with
  | false => dsimp only at hy; rw [hs] at hy; cases hy
  | true =>
    dsimp only at hy
    rw [hs] at hy
    cases hy
    simp only [Bool.and_eq_true, decide_eq_true_eq] at hs
    intro F ρ vs w hrw hob hra
    have e := one_arg (u := .int .i64 n) rfl hra
    subst e
    refine (Any.strconv_Itoa L n hs.1 hs.2 w (hT w fun b o hb => (hrw.tab b o hb).2)).mono fun e w' ⟨he, k, os, hw⟩ => ?_
    subst he; subst hw
    exact below_end hrw hob ⟨rfl, rfl, rfl, (by show w.heap.size ≤ (w.heap ++ os).size; rw [Array.size_append]; omega), fun j hj => (by show (w.heap ++ os)[j]? = _; rw [Array.getElem?_append_left hj])⟩ (.cell _ _ (.d _ _ (.sc _ rfl)))

def F_decode : FnT := ⟨1, ⟨[], [(0, .str)], [], []⟩, [.v .i32, .v .i64], []⟩
noncomputable def decodeN : ByteArray × Unit → Option (Int × Int × Unit) := fun (s, _) => some ((Lib.decodeGo s).1, (Lib.decodeGo s).2, ())
theorem decode_ok (L : Lays.n197 P r) (hT : ∀ w : World, (∀ b o, Tabs.get b = some o → w.heap[b]? = some o) → Lib.Utf8Tabs (r.g 3) (r.g 4) w) : Contract P (r.f 197) F_decode decodeN := by
  rintro ⟨s, u⟩ y hy
  cases hy
  intro F ρ vs w hrw hob hra
  have e := one_arg (u := .string s) rfl hra
  subst e
  refine (Any.utf8_DecodeRuneInString L s w (hT w fun b o hb => (hrw.tab b o hb).2)).mono fun e w' ⟨he, hb⟩ => ?_
  subst he
  refine below_end hrw hob hb (.tup _ _ rfl fun i hi => ?_)
  have hi2 : i < 2 := hi
  by_cases h0 : i = 0
  · subst h0; exact .cell _ _ (.d _ _ (.sc _ rfl))
  · have : i = 1 := by omega
    subst this; exact .cell _ _ (.d _ _ (.sc _ rfl))

def F_atoi : FnT := ⟨1, ⟨[], [(0, .str)], [], []⟩, [.v .i64, .ref .nili], []⟩
noncomputable def atoiN : ByteArray × Unit → Option (Int × Unit) := fun (s, _) => bif Nat.ble s.size 9223372036854775806 then (match Lib.atoiAll s.data.toList with
  | .ok v => some (v, ())
  | _ => none) else none
theorem atoi_ok (L : LaysC.n172 P r) : Contract P (r.f 172) F_atoi atoiN := by
  rintro ⟨s, u⟩ y hy
  unfold atoiN at hy
  dsimp only at hy
  cases hs : Nat.ble s.size 9223372036854775806 with
  | false => rw [hs] at hy; cases hy
  | true =>
    rw [hs, cond_true] at hy
    split at hy
    · rename_i v hv
      cases hy
      intro F ρ vs w hrw hob hra
      have e := one_arg (u := .string s) rfl hra
      subst e
      refine (Any.strconv_Atoi_ok L s (Nat.le_of_ble_eq_true hs) v hv w).mono fun e w' ⟨he, hw⟩ => ?_
      subst he
      have hb : Below w.heap.size w w' := by
        rcases hw with rfl | ⟨t, rfl⟩
        · exact Below.refl _ _
        · exact Lib.bytesWorld_below w _ _
      refine below_end hrw hob hb (.tup _ _ rfl fun i hi => ?_)
      have hi2 : i < 2 := hi
      by_cases h0 : i = 0
      · subst h0; exact .cell _ _ (.d _ _ (.sc _ rfl))
      · have : i = 1 := by omega
        subst this; exact .cell _ _ (.d _ _ (.sc _ rfl))
    · cases hy
end
end Esp

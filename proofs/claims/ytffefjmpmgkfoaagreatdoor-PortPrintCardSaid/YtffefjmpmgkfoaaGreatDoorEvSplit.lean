/- EV: a text cut in two at the first place, and in all pieces: the kit's contracts over plain data. -/
import Derived.Test.YtffefjmpmgkfoaaGreatDoorEvClone
import Derived.Test.YtffefjmpmgkfoaaGreatDoorEvGrow
import Derived.Shelf.Strings.Cut
import Derived.Shelf.Strings.Split
namespace Esp
open Go Go.Shelf Go.Proofs Go.RowKit
set_option linter.unusedSimpArgs false
set_option linter.unusedVariables false
variable [Tabs]
omit [Tabs] in
theorem two_args {w : World} {F : Nat → Prop} {ρ : Env} {vs : Array Value} {u v : Value} {l : List AV} (hl : l = [.cell (.d (.sc u)), .cell (.d (.sc v))]) (hra : RelArgs w F ρ l vs) : vs = #[u, v] := by
  subst hl
  have hz : vs.size = 2 := hra.sz
  have h0 := cell_inv (x := .sc u) (hra.rel 0 (by show 0 < 2; omega))
  have h1 := cell_inv (x := .sc v) (hra.rel 1 (by show 1 < 2; omega))
  have e0 : vs.getD 0 undef = u := by
    generalize vs.getD 0 undef = x at h0
    cases h0
    rfl
  have e1 : vs.getD 1 undef = v := by
    generalize vs.getD 1 undef = x at h1
    cases h1
    rfl
  apply Array.ext
  · simpa using hz
  · intro i h1 h2
    have e : vs.getD i undef = vs[i] := by simp [Array.getD_eq_getD_getElem?, h1]
    rw [← e]
    have h3 : i = 0 ∨ i = 1 := by simp at h2; omega
    rcases h3 with rfl | rfl
    · rw [e0]; rfl
    · rw [e1]; rfl
section
variable {P : Program} {r : Ren}
def F_cut : FnT := ⟨2, ⟨[], [(0, .str), (1, .str)], [], []⟩, [.v .str, .v .str, .v .bool], []⟩
noncomputable def cutN : ByteArray × ByteArray × Unit → Option (ByteArray × ByteArray × Bool × Unit) := fun (s, c, _) =>
  bif Nat.blt s.size 4294967281 then some (⟨(Lib.cut s.data.toList c.data.toList).1.toArray⟩, ⟨(Lib.cut s.data.toList c.data.toList).2.1.toArray⟩, (Lib.cut s.data.toList c.data.toList).2.2, ()) else none
theorem cut_ok (L : Lays.n145 P r) (hM : ∃ m, ∀ w : World, (∀ b o, Tabs.get b = some o → w.heap[b]? = some o) → w.cell? ⟨r.g 1, 0, none⟩ = some (.int .i64 m)) : Contract P (r.f 145) F_cut cutN := by
  rintro ⟨s, c, u⟩ y hy
  unfold cutN at hy
  cases hs : Nat.blt s.size 4294967281 with
  | false => dsimp only at hy; rw [hs] at hy; cases hy
  | true =>
    dsimp only at hy
    rw [hs] at hy
    cases hy
    intro F ρ vs w hrw hob hra
    have e := two_args (u := .string s) (v := .string c) rfl hra
    subst e
    obtain ⟨m, hM⟩ := hM
    refine (Any.strings_Cut L s c m w (Nat.le_of_ble_eq_true hs) (hM w fun b o hb => (hrw.tab b o hb).2)).mono fun e w' ⟨he, n, hw⟩ => ?_
    subst he; subst hw
    refine below_end hrw hob ⟨rfl, rfl, rfl, Nat.le_refl _, fun _ _ => rfl⟩ (.tup _ _ rfl fun i hi => ?_)
    have hi2 : i < 3 := hi
    have h3 : i = 0 ∨ i = 1 ∨ i = 2 := by omega
    rcases h3 with rfl | rfl | rfl
    · exact .cell _ _ (.d _ _ (.sc _ rfl))
    · exact .cell _ _ (.d _ _ (.sc _ rfl))
    · exact .cell _ _ (.d _ _ (.sc _ rfl))
def F_split : FnT := ⟨2, ⟨[], [(0, .str), (1, .str)], [], []⟩, [.v (.lst .str)], []⟩
noncomputable def splitN : ByteArray × ByteArray × Unit → Option (List ByteArray × Unit) := fun (s, c, _) =>
  bif Nat.blt s.size 4294967281 && Nat.ble 1 c.size then some (Lib.splitB c 0 (Lib.countB s c) s, ()) else none
theorem split_ok (L : Lays.n146 P r) (hi9 : (P.info? (r.t 9)).map (fun i => (i.zero, i.size, i.bytes)) = some (some (.string ByteArray.empty), 1, 16)) (hM : ∃ m, ∀ w : World, (∀ b o, Tabs.get b = some o → w.heap[b]? = some o) → w.cell? ⟨r.g 1, 0, none⟩ = some (.int .i64 m)) : Contract P (r.f 146) F_split splitN := by
  rintro ⟨s, c, u⟩ y hy
  unfold splitN at hy
  cases hs : Nat.blt s.size 4294967281 && Nat.ble 1 c.size with
  | false => dsimp only at hy; rw [hs] at hy; cases hy
  | true =>
    dsimp only at hy
    rw [hs] at hy
    cases hy
    simp only [Bool.and_eq_true] at hs
    have hs1 : s.size < 4294967281 := Nat.le_of_ble_eq_true hs.1
    have hc1 := Nat.le_of_ble_eq_true hs.2
    intro F ρ vs w hrw hob hra
    have e := two_args (u := .string s) (v := .string c) rfl hra
    subst e
    obtain ⟨m, hM⟩ := hM
    refine (Any.strings_Split L hi9 s c m w hs1 (hM w fun b o hb => (hrw.tab b o hb).2) hc1).mono fun e w' ⟨he, hw⟩ => ?_
    subst he; subst hw
    have hle := Lib.countB_le c hc1 s.size s (Nat.le_refl _)
    have hlen := Lib.splitB_all c hc1 0 _ s rfl
    have hnew := heap_alloc_new w (.cells ((Lib.splitB c 0 (Lib.countB s c) s).map Value.string).toArray (r.t 9))
    exact clone_end (te := r.t 9) (l := Lib.splitB c 0 (Lib.countB s c) s) hrw hob ⟨by simp, .inr ⟨w.heap.size, Lib.countB s c + 1, _, by rw [hlen], Nat.le_refl _, hnew, by omega, by unfold maxLen; omega, by simp [hlen], by rw [Nat.mul_one]; exact List.take_of_length_le (by simp)⟩⟩
      ⟨rfl, rfl, rfl, by show _ ≤ (w.heap.push _).size; rw [Array.size_push]; omega, fun j hj => heap_alloc_old w _ hj⟩
end
end Esp

/- EV, part 9: a copy of a list of texts, by the kit's contract. -/
import Derived.Test.YtffefjmpmgkfoaaGreatDoorEvFn
import Derived.Shelf.Slices.Clone
namespace Esp
open Go
set_option linter.unusedSimpArgs false
set_option linter.unusedVariables false
variable [Tabs]
theorem clone_end {F : Nat → Prop} {ρ : Env} {w w' : World} {ob : List (Nat × AObj)} {v' : Value} {te : TypeId} {l : List ByteArray} (hrw : RelW F ρ w) (hob : ∀ k, RelOb w F ρ k (lkO ob k)) (ho : w'.ownsRow w.heap.size te 1 v' l.length (l.map Value.string)) (hb : Go.RowKit.Below w.heap.size w w') :
    ∃ F' ρ' rr ob', EX (.cell (.d (.nl .str l))) ob rr ob' ∧ RelEnd w' F' ρ' rr (.returned v') ∧ RelW F' ρ' w' ∧ (∀ k, RelOb w' F' ρ' k (lkO ob' k)) ∧ Fr F ρ w F' ρ' w' := by
  have hkeep : ∀ b, b < w.heap.size → w'.heap[b]? = w.heap[b]? := hb.block
  have hsub : ∀ b, F b → F b ∨ v'.ownBlock = some b := fun b h => .inl h
  have hF : ∀ b, F b → w'.heap[b]? = w.heap[b]? := fun b hf => hkeep b (hrw.lt b hf)
  have ho0 : w'.ownsRow 0 te 1 v' l.length (l.map Value.string) := by
    refine ⟨ho.1, ?_⟩
    rcases ho.2 with h | ⟨g, cap, cur, h1, h2, h3⟩
    · exact .inl h
    · exact .inr ⟨g, cap, cur, h1, Nat.zero_le _, h3⟩
  have hlt : ∀ b, v'.ownBlock = some b → w.heap.size ≤ b ∧ b < w'.heap.size := ho.lt
  have hlive : ∀ b, live ρ b → b < w.heap.size := fun b ⟨k, u, hk, hu⟩ => (hob k).lt hk hu
  refine ⟨fun b => F b ∨ v'.ownBlock = some b, ρ, .ret (.cell (.d (.nl .str l))), ob, ⟨rfl, rfl⟩, ?_, ⟨?_, ?_, hrw.inj, hrw.tab_of hF hsub⟩, fun k => (hob k).through hF hsub fun u b hk hl => hkeep b ((hob k).lt hk hl),
    ⟨hb.os, hb.tape, hb.output, hb.size, hsub, fun b hbb _ => hkeep b hbb, ?_, fun _ _ => Stab.refl _ _⟩⟩
  · have h1 : RelD w' (fun b => F b ∨ v'.ownBlock = some b) (.sl 1 l.length (l.map sC)) v' :=
      ownsRow_relD (F := F) ho0 (by simp) (fun i hi => by
        have hi' : i < l.length := by simpa using hi
        simp only [List.getElem_map, List.getD_eq_getElem?_getD, List.getElem?_map, List.getElem?_eq_getElem hi', Option.map_some, Option.getD_some]
        exact .sc _ rfl) hsub fun b h => .inr h
    have h2 : flat .str l = l.map sC := by
      unfold flat
      induction l with
      | nil => rfl
      | cons a r ih => simp only [List.flatMap_cons, List.map_cons]; rw [show List.flatMap (cells Ev.Ty.str) r = r.map sC from by clear ih ho ho0 h1; induction r with | nil => rfl | cons b q ih2 => simp only [List.flatMap_cons, List.map_cons, ih2]; rfl]; rfl
    refine .cell _ _ (.d _ _ (.nl _ _ _ ?_))
    rw [h2]
    exact h1
  · rintro b (h | h) hl
    · exact hrw.dis b h hl
    · have := hlive b hl
      have := (hlt b h).1
      omega
  · rintro b (h | h)
    · exact Nat.lt_of_lt_of_le (hrw.lt b h) hb.size
    · exact (hlt b h).2
  · rintro b hbb ((h | h) | h)
    · exact .inl h
    · have := (hlt b h).1
      omega
    · exact .inr h
end Esp

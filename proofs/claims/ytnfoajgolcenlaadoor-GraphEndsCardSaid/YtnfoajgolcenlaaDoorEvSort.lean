/- EV, part 10: slices.Sort of whole numbers, by the kit's contract. -/
import Derived.Test.YtnfoajgolcenlaaDoorEvFn
import Derived.Shelf.Sort.Plain
import Derived.Shelf.Slices.In.SortNone
namespace Esp
open Go
set_option linter.unusedSimpArgs false
set_option linter.unusedVariables false
variable [Tabs]
def sortI (l : List Int) : List Int := l.mergeSort fun x y => decide (x ≤ y)
def sortN : List Int × Unit → Option (List Int × Unit) := fun (l, _) => bif Nat.ble l.length 4000000000000000000 then some (sortI l, ()) else none
def F_sortI (te : TypeId) : FnT := ⟨1, ⟨[(0, .own 2000000)], [], [(2000000, .arr te .i64)]⟩, [], [(2000000, .arr te .i64)]⟩
omit [Tabs] in
theorem flat_i64 (l : List Int) : flat .i64 l = l.map (iC .i64) := by
  unfold flat
  induction l with
  | nil => rfl
  | cons a r ih => simp only [List.flatMap_cons, List.map_cons, ih]; rfl
theorem sort_end {F : Nat → Prop} {ρ : Env} {w w' : World} {ob : List (Nat × AObj)} {u : Value} {te : TypeId} {l l' : List Int} (hrw : RelW F ρ w) (hob : ∀ k, RelOb w F ρ k (lkO [(2000000, .na te .i64 l)] k)) (hu : ρ 2000000 = some (.arr u)) (hl : l'.length = l.length)
    (ho : w'.ownsRow 0 te 1 u l'.length (l'.map (Value.int .i64))) (hos : w'.os = w.os) (htape : w'.tape = w.tape) (hout : w'.output = w.output) (hsize : w.heap.size ≤ w'.heap.size) (hkeep : ∀ b, b < w.heap.size → u.ownBlock ≠ some b → w'.heap[b]? = w.heap[b]?) :
    ∃ F' ρ' rr ob', EX (.tup []) [(2000000, .na te .i64 l')] rr ob' ∧ RelEnd w' F' ρ' rr (.returned (.tuple #[])) ∧ RelW F' ρ' w' ∧ (∀ k, RelOb w' F' ρ' k (lkO ob' k)) ∧ Fr F ρ w F' ρ' w' := by
  have hF : ∀ b, F b → w'.heap[b]? = w.heap[b]? := fun b hf => hkeep b (hrw.lt b hf) fun h => hrw.dis b hf ⟨2000000, _, hu, h⟩
  refine ⟨F, ρ, .ret (.tup []), [(2000000, .na te .i64 l')], ⟨rfl, rfl⟩, ?_, ⟨hrw.dis, fun b hf => Nat.lt_of_lt_of_le (hrw.lt b hf) hsize, hrw.inj, hrw.tab_of hF fun _ h => h⟩, fun k => ?_,
    ⟨hos, htape, hout, hsize, fun _ h => h, fun b hbb hnl => hkeep b hbb fun h => hnl ⟨2000000, _, hu, h⟩, fun _ _ h => h, fun _ _ => Stab.refl _ _⟩⟩
  · exact .tup [] #[] rfl fun i hi => by simp at hi
  · by_cases hk : k = 2000000
    · subst hk
      show RelOb w' F ρ 2000000 (.na te .i64 l')
      refine .na _ _ _ ?_
      rw [flat_i64]
      refine .arr te 1 l'.length _ u _ hu ho (by simp) fun i hi => ?_
      have hi' : i < l'.length := by simpa using hi
      simp only [List.getElem_map, List.getD_eq_getElem?_getD, List.getElem?_map, List.getElem?_eq_getElem hi', Option.map_some, Option.getD_some]
      exact .sc _ rfl
    · have h0 := hob k
      have e1 : ∀ o : AObj, lkO [(2000000, o)] k = .gone := fun o => by
        simp only [lkO]
        cases hb : Nat.beq k 2000000 with
        | true => exact absurd (Nat.eq_of_beq_eq_true hb) hk
        | false => rfl
      rw [e1] at h0 ⊢
      cases h0 with
      | gone h => exact .gone h
theorem sortI_of {P : Program} {ρn : Go.Shelf.Ren} (te : TypeId) (L : Go.Proofs.Lays.n189 P ρn) : Contract P (ρn.f 189) (F_sortI te) sortN := by
  rintro ⟨l, u0⟩ y hy
  unfold sortN at hy
  cases hs : Nat.ble l.length 4000000000000000000 with
  | false => dsimp only at hy; rw [hs] at hy; cases hy
  | true =>
  dsimp only at hy
  rw [hs] at hy
  cases hy
  have hs := Nat.le_of_ble_eq_true hs
  intro F ρ vs w hrw hob hra
  have hob : ∀ k, RelOb w F ρ k (lkO [(2000000, .na te .i64 l)] k) := hob
  have hsz : vs.size = 1 := hra.sz
  have h0 := hra.rel 0 (by show 0 < 1; omega)
  obtain ⟨v, hv⟩ : ∃ v, vs = #[v] := by
    refine ⟨vs[0]'(by omega), ?_⟩
    apply Array.ext
    · simpa using hsz
    · intro i h1 h2
      have : i = 0 := by simp at h2; omega
      subst this
      rfl
  subst hv
  have h1 : RelAC w F ρ (.own 2000000) v := by
    have h9 : RelAV w F ρ #[] (.cell (.own 2000000)) v := h0
    cases h9 with
    | cell c v h => exact h
  have h2 : RelOb w F ρ 2000000 (.na te .i64 l) := hob 2000000
  cases h2 with
  | na _ _ _ h2 =>
  rw [flat_i64] at h2
  generalize hn : l.length = n at h2
  generalize hcs : l.map (iC .i64) = cs at h2
  cases h2 with
  | arr t e n cs u xs hu ho hz hh =>
  subst hcs
  subst hn
  have huv : v = u := by
    cases h1 with
    | own k v h => exact h u hu
  subst huv
  have exs : xs = l.map (Value.int .i64) := by
    apply List.ext_getElem
    · rw [ho.1]; simp [Ev.Ty.sz, Ev.Ty.sz0]
    · intro i h3 h4
      have hi : i < l.length := by simpa using h4
      have h5 := hh i (by simpa using hi)
      rw [List.getElem_map] at h5 ⊢
      rw [List.getD_eq_getElem?_getD, List.getElem?_eq_getElem h3, Option.getD_some] at h5
      generalize hx : iC .i64 l[i] = x at h5
      generalize xs[i] = v at h5 ⊢
      cases h5 with
      | sc v h => cases hx; rfl
      | _ => cases hx
  subst exs
  rcases ho.2 with ⟨hv0, hn0⟩ | ⟨g, cap, cur, hv0, hg, hcur, hcap, hm, hcs, htake⟩
  · have hl : l = [] := List.eq_nil_of_length_eq_zero hn0
    subst hl
    subst hv0
    refine (Go.Proofs.Any.slices_Sort_int_none L none 0 w).mono fun e w' ⟨he, hw⟩ => ?_
    subst he
    subst hw
    have : sortI [] = [] := by unfold sortI; simp
    rw [show (F_sortI te).res (sortI [], ()) = .tup [] from rfl, show (F_sortI te).ob2 (sortI [], ()) = [(2000000, .na te .i64 (sortI []))] from rfl, this]
    exact sort_end (ob := []) hrw hob hu rfl ho rfl rfl rfl (Nat.le_refl _) fun _ _ _ => rfl
  · subst hv0
    have hsize : g < w.heap.size := by
      have := (ho.lt g rfl).2
      exact this
    have hH : Go.Sort.Holds (Value.int .i64) w g 0 l.toArray := fun j hj => by
      have hj' : j < l.length := by simpa using hj
      have h5 := ho.cells (g := g) rfl j (.int .i64 l[j]) (by simp [hj'])
      rw [Addr.add_lit] at h5
      refine ⟨?_, ?_⟩
      · rw [h5]
        simp [getElem!_pos, hj']
      · simp only [World.frozen?, hcur]
        simp
    refine (Go.Proofs.Any.slices_Sort_int L g 0 cap l w hH hsize (by omega)).mono fun e w' ⟨he, n, os, hw⟩ => ?_
    subst he
    have hlen : (sortI l).length = l.length := by unfold sortI; exact List.length_mergeSort _
    have hdef : sortI l = l.mergeSort fun x y => decide (x ≤ y) := rfl
    rw [← hdef] at hw
    have hheap : w'.heap = (w.heap.modify g (Go.Sort.onCells (Go.Sort.putCells (Value.int .i64) 0 (sortI l).toArray))) ++ os := by rw [hw]; rfl
    have hget : ∀ b, b < w.heap.size → w'.heap[b]? = if g = b then (w.heap[b]?).map (Go.Sort.onCells (Go.Sort.putCells (Value.int .i64) 0 (sortI l).toArray)) else w.heap[b]? := fun b hb => by
      rw [hheap, Array.getElem?_append_left (by simpa using hb), Array.getElem?_modify]
    refine sort_end (ob := []) (l' := sortI l) hrw hob hu hlen ?_ (by rw [hw]; rfl) (by rw [hw]; rfl) (by rw [hw]; rfl) (by rw [hheap]; simp) fun b hb hne => ?_
    · refine ⟨by simp, .inr ⟨g, cap, Go.Sort.putCells (Value.int .i64) 0 (sortI l).toArray cur, by rw [hlen], Nat.zero_le _, ?_, by rw [hlen]; exact hcap, hm, ?_, ?_⟩⟩
      · rw [hget g hsize, if_pos rfl, hcur]
        rfl
      · simp only [Go.Sort.putCells, Array.size_mapIdx]
        exact hcs
      · apply List.ext_getElem?
        intro i
        rw [Nat.mul_one, List.getElem?_take, Array.getElem?_toList]
        simp only [Go.Sort.putCells, Array.getElem?_mapIdx, List.getElem?_map]
        by_cases hi : i < (sortI l).length
        · have hic : i < cur.size := by rw [hcs, show Ev.Ty.i64.sz = 1 from rfl]; omega
          rw [if_pos hi, Array.getElem?_eq_getElem hic, Option.map_some, if_pos ⟨Nat.zero_le _, by simpa using hi⟩, List.getElem?_eq_getElem hi]
          simp [getElem!_pos, hi]
        · rw [if_neg hi, List.getElem?_eq_none (by omega)]
          rfl
    · rw [hget b hb, if_neg fun e => hne (by rw [e]; rfl)]
end Esp

/- EV: slices.SortFunc and sort.Slice at a row of scalars, or of structs of scalars, by an order in which no two stand alike: the kit's contracts over plain data. -/
import Derived.Test.YtmpcgmlknbmpbaaDoorEvSortF
import Derived.Test.YtmpcgmlknbmpbaaDoorEvRise2
import Derived.Test.YtmpcgmlknbmpbaaDoorEvWalk
import Derived.Shelf.GgSortFunc.Tiny
import Derived.Shelf.SlSortFuncK.WholeK
namespace Esp
open Go
set_option linter.unusedSimpArgs false
set_option linter.unusedVariables false
variable [Tabs]
section
variable {P : Program}
open Go.Sort Go.Proofs
set_option linter.unusedSimpArgs false
set_option linter.unusedVariables false
theorem row_endG {F : Nat → Prop} {ρ : Env} {w : World} {te : TypeId} {τ : Ev.Ty} {l l' : List τ.den} {g cap : Nat} {cur new : Array Value} {w' : World} {ob ob' : List (Nat × AObj)} (hrw : RelW F ρ w) (hob : ∀ k, RelOb w F ρ k (lkO ob k))
    (hu : ρ 2000000 = some (.arr (.slice (some ⟨g, 0, none⟩) l.length cap))) (hl : l'.length = l.length) (hcap : l.length ≤ cap) (hm : cap ≤ maxLen) (hcs : cur.size = cap * τ.sz) (hnew : new.size = cur.size)
    (hw' : w'.heap[g]? = some (.cells new te (0, 0))) (hos : w'.os = w.os) (htape : w'.tape = w.tape) (hout : w'.output = w.output) (hsize : w.heap.size ≤ w'.heap.size) (hkeep : ∀ b, b < w.heap.size → b ≠ g → w'.heap[b]? = w.heap[b]?)
    (hrel : ∀ i (h : i < (flat τ l').length), RelD w F (flat τ l')[i] (new.toList.getD i undef)) (ho1 : lkO ob' 2000000 = .na te τ l') (ho2 : ∀ k, k ≠ 2000000 → lkO ob' k = lkO ob k) :
    ∃ F' ρ' rr ob2, EX (.tup []) ob' rr ob2 ∧ RelEnd w' F' ρ' rr (.returned (.tuple #[])) ∧ RelW F' ρ' w' ∧ (∀ k, RelOb w' F' ρ' k (lkO ob2 k)) ∧ Fr F ρ w F' ρ' w' := by
  have hg : ∀ b, F b → b ≠ g := fun b hf e => hrw.dis b hf ⟨2000000, _, hu, by rw [e]; rfl⟩
  have hF : ∀ b, F b → w'.heap[b]? = w.heap[b]? := fun b hf => hkeep b (hrw.lt b hf) (hg b hf)
  have hfl : ∀ m : List τ.den, (flat τ m).length = m.length * τ.sz := fun m => flat_length τ m
  have hnl : new.toList.length = new.size := Array.length_toList
  have hle : l'.length * τ.sz ≤ new.size := by rw [hnew, hcs, hl]; exact Nat.mul_le_mul_right _ hcap
  refine ⟨F, ρ, .ret (.tup []), ob', ⟨rfl, rfl⟩, ?_, ⟨hrw.dis, fun b hf => Nat.lt_of_lt_of_le (hrw.lt b hf) hsize, hrw.inj, hrw.tab_of hF fun _ h => h⟩, fun k => ?_,
    ⟨hos, htape, hout, hsize, fun _ h => h, fun b hbb hnl => hkeep b hbb fun e => hnl ⟨2000000, _, hu, by rw [e]; rfl⟩, fun _ _ h => h, fun _ _ => Stab.refl _ _⟩⟩
  · exact .tup [] #[] rfl fun i hi => by simp at hi
  · by_cases hk : k = 2000000
    · subst hk
      rw [ho1]
      refine .na _ _ _ (.arr te _ l'.length _ _ (new.toList.take (l'.length * τ.sz)) hu ⟨?_, .inr ⟨g, cap, new, by rw [hl], Nat.zero_le _, hw', by omega, hm, by rw [hnew, hcs], rfl⟩⟩ ?_ fun i hi => ?_)
      · rw [List.length_take, hnl]
        omega
      · rw [List.length_take, hnl, hfl]
        omega
      · have hi2 : i < l'.length * τ.sz := by rw [hfl] at hi; exact hi
        have e : (new.toList.take (l'.length * τ.sz)).getD i undef = new.toList.getD i undef := by
          rw [List.getD_eq_getElem?_getD, List.getElem?_take, if_pos hi2, List.getD_eq_getElem?_getD]
        rw [e]
        exact (hrel i hi).mono hF fun _ h => h
    · rw [ho2 k hk]
      refine (hob k).through hF (fun _ h => h) fun lc b hlc hb => hkeep b ((hob k).lt hlc hb) fun e => ?_
      subst e
      exact hk (hrw.inj k 2000000 lc _ b hlc hu hb rfl)
structure ScalT (τ : Ev.Ty) where
  enc : τ.den → List Value
  cell : ∀ x, cells τ x = (enc x).map .sc
  one : ∀ x, ∀ v ∈ enc x, v.oneCell' = true
  pos : 0 < τ.sz
omit [Tabs] in
theorem ScalT.len {τ : Ev.Ty} (S : ScalT τ) (x : τ.den) : (S.enc x).length = τ.sz := by
  have := cells_length τ x
  rw [S.cell] at this
  simpa using this
def scPair : ScalT .pair := ⟨fun p => [.int .i64 p.p, .int .i64 p.q], fun _ => rfl, fun x v hv => by simp at hv; rcases hv with rfl | rfl <;> rfl, by decide⟩
omit [Tabs] in
theorem scal_row {F : Nat → Prop} {ρ : Env} {w : World} {te : TypeId} {τ : Ev.Ty} (S : ScalT τ) [Inhabited τ.den] {l : List τ.den} {v0 : Value} (h0 : ρ 2000000 = some (.arr v0)) (hr : RelOb w F ρ 2000000 (.na te τ l)) :
    (l = [] ∧ ∃ p cap, v0 = .slice p 0 cap) ∨ ∃ gb cap cur, l ≠ [] ∧ v0 = .slice (some ⟨gb, 0, none⟩) l.length cap ∧ w.heap[gb]? = some (.cells cur te (0, 0)) ∧ l.length ≤ cap ∧ cap ≤ maxLen ∧ cur.size = cap * τ.sz ∧
      HoldsK S.enc τ.sz w gb 0 l.toArray := by
  have hz := S.pos
  cases hr with
  | na _ _ _ hr =>
  obtain ⟨u, xs, hk, hown, hxs, hh⟩ := arr_inv hr
  rw [h0] at hk
  cases hk
  by_cases hl0 : l = []
  · refine .inl ⟨hl0, ?_⟩
    rcases hown.2 with ⟨hv, hn⟩ | ⟨gb, cap, cur, hv, _⟩
    · exact ⟨_, _, hv⟩
    · exact ⟨_, _, by rw [hv, hl0]; rfl⟩
  rcases hown.2 with ⟨_, hn⟩ | ⟨gb, cap, cur, hv, _, hgb, hcap, hcm, hcs, htake⟩
  · exact absurd (List.eq_nil_of_length_eq_zero hn) hl0
  refine .inr ⟨gb, cap, cur, hl0, hv, hgb, hcap, hcm, hcs, fun j hj => ?_⟩
  have hfl : (flat τ l).length = l.length * τ.sz := flat_length τ l
  have hxl : xs.length = l.length * τ.sz := hown.1
  have hle : l.length * τ.sz ≤ cur.size := by rw [hcs]; exact Nat.mul_le_mul_right _ hcap
  have hd : l.toArray.size = l.length := by simp
  have hcurT : cur.toList.length = cur.size := Array.length_toList
  have hj2 : j < l.toArray.size * τ.sz := by rw [size_flatK] at hj; exact hj
  rw [hd] at hj2
  have hjd : j / τ.sz < l.length := by rw [Nat.div_lt_iff_lt_mul hz]; exact hj2
  refine ⟨?_, Lib.frozen_of_heap hgb _⟩
  rw [Lib.cell_of_heap hgb, Nat.zero_add, get_flatK _ _ _ _ (by rw [hd]; exact hj2)]
  have hjf : j < (flat τ l).length := by omega
  obtain ⟨x, hx1, hx2⟩ := flat_getD τ hz j hjf
  have e1 : l.toArray[j / τ.sz]! = x := by
    rw [getElem!_pos l.toArray (j / τ.sz) (by rw [hd]; exact hjd)]
    rw [List.getElem?_eq_getElem hjd] at hx1
    simpa using hx1
  have hrel := hh j hjf
  have hjx : j < xs.length := by omega
  rw [List.getD_eq_getElem?_getD, List.getElem?_eq_getElem hjx, Option.getD_some] at hrel
  have e2 : (S.enc x)[j % τ.sz]? = some xs[j] := by
    rw [S.cell, List.getElem?_map] at hx2
    have hm : j % τ.sz < (S.enc x).length := by rw [S.len]; exact Nat.mod_lt _ hz
    rw [List.getElem?_eq_getElem hm, Option.map_some] at hx2
    rw [← Option.some.inj hx2] at hrel
    rw [List.getElem?_eq_getElem hm, sc_inv hrel]
  have e3 : cur[j]? = some xs[j] := by
    have : (cur.toList.take (l.length * τ.sz))[j]? = some xs[j] := by rw [htake, List.getElem?_eq_getElem hjx]
    rw [List.getElem?_take, if_pos hj2, Array.getElem?_toList] at this
    exact this
  rw [show ∀ x : Value, id x = x from fun _ => rfl, e1, List.getElem!_eq_getElem?_getD, e2]
  exact e3
theorem scal_sorted {F : Nat → Prop} {ρ : Env} {w w' : World} {te : TypeId} {τ : Ev.Ty} (S : ScalT τ) [Inhabited τ.den] {l : List τ.den} {lt : τ.den → τ.den → Bool} (hO : LtOk lt) {gb cap : Nat} {cur : Array Value} {ob ob' : List (Nat × AObj)} (hrw : RelW F ρ w) (hob : ∀ k, RelOb w F ρ k (lkO ob k))
    (h0 : ρ 2000000 = some (.arr (.slice (some ⟨gb, 0, none⟩) l.length cap))) (hgb : w.heap[gb]? = some (.cells cur te (0, 0))) (hcap : l.length ≤ cap) (hcm : cap ≤ maxLen) (hcs : cur.size = cap * τ.sz) {d' : Array τ.den} {q : Nat} {os : Array Obj}
    (hperm : PermIn 0 l.toArray.size l.toArray d') (hsort : SortedIn lt 0 l.toArray.size d') (hw' : w' = grow (putRowK S.enc τ.sz (Sort.ahead w q) gb 0 d') os)
    (ho1 : lkO ob' 2000000 = .na te τ (sortL lt l)) (ho2 : ∀ k, k ≠ 2000000 → lkO ob' k = lkO ob k) :
    ∃ F' ρ' rr ob2, EX (.tup []) ob' rr ob2 ∧ RelEnd w' F' ρ' rr (.returned (.tuple #[])) ∧ RelW F' ρ' w' ∧ (∀ k, RelOb w' F' ρ' k (lkO ob2 k)) ∧ Fr F ρ w F' ρ' w' := by
  have hz := S.pos
  have hblk : gb < w.heap.size := (Array.getElem?_eq_some_iff.1 hgb).1
  have hd : l.toArray.size = l.length := by simp
  obtain ⟨hd', _, hpm⟩ := hperm
  rw [hd] at hd' hsort hpm
  have hext : ∀ a : Array τ.den, a.size = l.length → (a.extract 0 l.length).toList = a.toList := fun a ha => by rw [← ha, Array.extract_size]
  rw [hext d' hd', hext _ hd] at hpm
  have hsl : sortL lt l = d'.toList := sortL_of hO hpm.symm (by
    rw [List.pairwise_iff_getElem]
    intro i j hi hj hij
    simp only [Array.length_toList] at hi hj
    have := hsort i j (Nat.zero_le _) hij (by omega)
    rw [getElem!_pos d' i (by omega), getElem!_pos d' j (by omega)] at this
    simpa using this)
  have hheap : w'.heap[gb]? = some (.cells (putCells id 0 (flatK S.enc τ.sz d') cur) te (0, 0)) := by
    rw [hw']
    show ((w.heap.modify gb (onCells (putCells id 0 (flatK S.enc τ.sz d')))) ++ os)[gb]? = _
    rw [Array.getElem?_append_left (by simpa using hblk), Array.getElem?_modify, if_pos rfl, hgb]
    rfl
  have hsize : w.heap.size ≤ w'.heap.size := by
    rw [hw']
    show w.heap.size ≤ ((w.heap.modify gb _) ++ os).size
    rw [Array.size_append, Array.size_modify]
    omega
  have hkeep : ∀ b, b < w.heap.size → b ≠ gb → w'.heap[b]? = w.heap[b]? := fun b hb hne => by
    rw [hw']
    show ((w.heap.modify gb _) ++ os)[b]? = _
    rw [Array.getElem?_append_left (by simpa using hb), Array.getElem?_modify, if_neg (Ne.symm hne)]
  have hrl : (sortL lt l).length = l.length := sortL_length lt l
  refine row_endG (cur := cur) hrw hob h0 hrl hcap hcm hcs (by simp [putCells]) hheap (by rw [hw']; rfl) (by rw [hw']; rfl) (by rw [hw']; rfl) hsize hkeep (fun i hi => ?_) ho1 ho2
  have hil : i < l.length * τ.sz := by rw [flat_length, hrl] at hi; exact hi
  have hle : l.length * τ.sz ≤ cur.size := by rw [hcs]; exact Nat.mul_le_mul_right _ hcap
  have hid : i / τ.sz < l.length := by rw [Nat.div_lt_iff_lt_mul hz]; exact hil
  obtain ⟨x, hx1, hx2⟩ := flat_getD τ hz i hi
  rw [hsl, Array.getElem?_toList, Array.getElem?_eq_getElem (by omega)] at hx1
  have hx1 : d'[i / τ.sz]'(by omega) = x := Option.some.inj hx1
  have hm : i % τ.sz < (S.enc x).length := by rw [S.len]; exact Nat.mod_lt _ hz
  have e : (putCells id 0 (flatK S.enc τ.sz d') cur).toList.getD i undef = (S.enc x)[i % τ.sz] := by
    rw [List.getD_eq_getElem?_getD, Array.getElem?_toList]
    unfold putCells
    rw [Array.getElem?_mapIdx, Array.getElem?_eq_getElem (by omega), Option.map_some, if_pos ⟨Nat.zero_le _, by rw [size_flatK, hd']; omega⟩, Nat.sub_zero, get_flatK _ _ _ _ (by rw [hd']; exact hil), getElem!_pos d' (i / τ.sz) (by omega), hx1, Option.getD_some, List.getElem!_eq_getElem?_getD, List.getElem?_eq_getElem hm]
    rfl
  rw [e]
  rw [S.cell, List.getElem?_map, List.getElem?_eq_getElem hm, Option.map_some] at hx2
  rw [← Option.some.inj hx2]
  exact .sc _ (S.one x _ (List.getElem_mem hm))
theorem sortC_ok {r : Go.Shelf.Ren} (L : SlLaysF0.n6 P r) (τ : Ev.Ty) (S : ScalT τ) [Inhabited τ.den] (cf : τ.den → τ.den → Int) (lt : τ.den → τ.den → Bool) (hlt : ∀ x y, decide (cf x y < 0) = lt x y) (hO : LtOk lt) (aE : ∀ w, (Go.isAgg (r.t 24)).run P w = .ok true w) (zE : ∀ w, (Go.sizeOf (r.t 24)).run P w = .ok τ.sz w) (te : TypeId)
    (g : FuncId) (eg : ∀ args w, (callFunc g args).run P w = .ok (.enter g args) w)
    (hcl : ∀ (x y : τ.den) (W : World), Calls P g #[.agg (S.enc x).toArray, .agg (S.enc y).toArray] W fun e w' => e = .returned (.int .i64 (cf x y)) ∧ ∃ n os, w' = grow (W.drewN n) os) :
    Contract P (r.f 6) (F_sf te τ g) (sfL lt) := by
  rintro ⟨l, u⟩ y hy
  unfold sfL at hy
  cases hs : Nat.ble l.length 4000000000000000000 with
  | false => dsimp only at hy; rw [hs] at hy; cases hy
  | true =>
  dsimp only at hy
  rw [hs] at hy
  cases hy
  have hlim := Nat.le_of_ble_eq_true hs
  intro F ρ vs w hrw hob hra
  have hob : ∀ k, RelOb w F ρ k (lkO [(2000000, .na te τ l)] k) := hob
  have hsz : vs.size = 2 := hra.sz
  obtain ⟨v0, v1, rfl⟩ : ∃ v0 v1, vs = #[v0, v1] := by
    refine ⟨vs[0], vs[1], ?_⟩
    apply Array.ext
    · simpa using hsz
    · intro q h1 h2
      have : q = 0 ∨ q = 1 := by simp at h2; omega
      rcases this with rfl | rfl <;> rfl
  have h0 : RelAV w F ρ #[] (.cell (.own 2000000)) v0 := hra.rel 0 (by show 0 < 2; omega)
  have h1 : RelAV w F ρ #[] (.cell (.fn (.func g) [] [])) v1 := hra.rel 1 (by show 1 < 2; omega)
  have e1 : v1 = .func (.func g) #[] #[] := by
    cases h1 with
    | cell _ _ h => cases h with
      | fn _ _ _ a b h1 h2 hf hc =>
        rw [Array.eq_empty_of_size_eq_zero h1, Array.eq_empty_of_size_eq_zero h2]
  subst e1
  have hr : RelOb w F ρ 2000000 (.na te τ l) := hob 2000000
  have hk0 : ρ 2000000 = some (.arr v0) := by
    have hr' := hr
    cases hr' with
    | na _ _ _ hr' =>
      obtain ⟨u, xs, hk, _⟩ := arr_inv hr'
      rw [hk, own_inv h0 hk]
  have fin : ∀ (l' : List τ.den) (e : Ending) (w' : World), (∃ F' ρ' rr ob', EX (.tup []) [(2000000, .na te τ l')] rr ob' ∧ RelEnd w' F' ρ' rr e ∧ RelW F' ρ' w' ∧ (∀ k, RelOb w' F' ρ' k (lkO ob' k)) ∧ Fr F ρ w F' ρ' w') →
      ∃ F' ρ' rr ob', EX ((F_sf te τ g).res (l', ())) ((F_sf te τ g).ob2 (l', ())) rr ob' ∧ RelEnd w' F' ρ' rr e ∧ RelW F' ρ' w' ∧ (∀ k, RelOb w' F' ρ' k (lkO ob' k)) ∧ Fr F ρ w F' ρ' w' := fun _ _ _ h => h
  rcases scal_row S hk0 hr with ⟨rfl, p, cap, rfl⟩ | ⟨gb, cap, cur, hl0, rfl, hgb, hcap, hcm, hcs, hH⟩
  · refine (AnyF.slices_SortFunc_none L p cap _ w).mono fun e w' ⟨he, hw⟩ => ?_
    subst he; subst hw
    rw [show sortL lt ([] : List τ.den) = [] by simp [sortL]]
    exact fin _ _ _ ⟨F, ρ, .ret (.tup []), _, ⟨rfl, rfl⟩, .tup [] #[] rfl fun i hi => by simp at hi, hrw, hob, Fr.refl F ρ w'⟩
  · have hblk : gb < w.heap.size := (Array.getElem?_eq_some_iff.1 hgb).1
    have hd : l.toArray.size = l.length := by simp
    have hcmp : CmpLays P g #[] S.enc τ.sz cf gb 0 l.toArray.size w := fun m os dk _ x y => hcl x y _
    have hltO : ∀ x y, ltOf cf x y = lt x y := fun x y => hlt x y
    have hO2 : SWO (ltOf cf) := ⟨fun x => by rw [hltO]; exact hO.irrefl x, fun x y z h1 h2 => by rw [hltO] at *; exact hO.trans _ _ _ h1 h2, fun x y z h1 h2 => by rw [hltO] at *; exact hO.ntrans _ _ _ h1 h2⟩
    have main := AnyQ.slices_SortFunc L τ.sz aE zE S.enc S.len S.one cf hO2 g #[] gb 0 cap l.toArray w eg hcmp hH hblk (by rw [hd]; omega)
    rw [hd] at main
    refine main.mono fun e w' ⟨he, d', n, os, hperm, hsort, hw'⟩ => ?_
    subst he
    have hsort' : SortedIn lt 0 l.length d' := fun i j h1 h2 h3 => by
      have := hsort i j h1 h2 h3
      rw [hltO] at this
      exact this
    rw [← hd] at hperm hsort'
    exact fin _ _ _ (scal_sorted S hO hrw hob hk0 hgb hcap hcm hcs hperm hsort' hw' rfl fun k hk => by
      simp only [lkO]
      cases hb : Nat.beq k 2000000 with
      | true => exact absurd (Nat.eq_of_beq_eq_true hb) hk
      | false => rfl)
end
end Esp

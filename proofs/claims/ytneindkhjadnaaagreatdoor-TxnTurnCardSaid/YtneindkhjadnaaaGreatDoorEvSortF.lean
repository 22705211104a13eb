/- EV: slices.SortFunc at a row of structs whose first cell is a whole number, by that number, where these are all different: the kit's contract over plain data. -/
import Derived.Test.YtneindkhjadnaaaGreatDoorEvFn
import Derived.Test.YtneindkhjadnaaaGreatDoorEvElt
import Derived.Test.YtneindkhjadnaaaGreatDoorEvBuild3
import Derived.Test.YtneindkhjadnaaaGreatDoorEvRise
import Derived.Shelf.SlSortCmp.WholeK
import Derived.Shelf.SlSortCmp.NoneTotal
namespace Esp
open Go
set_option linter.unusedSimpArgs false
set_option linter.unusedVariables false
variable [Tabs]
/-! ## the row's cells -/
abbrev SA (k : Nat) : Type := { p : List Value // p.length = k ∧ (∀ v ∈ p, v.oneCell' = true) ∧ ∃ i, p[0]? = some (Value.int .i64 i) }
def SA.key {k : Nat} (p : SA k) : Int := match (p.1 : List Value)[0]? with
  | some (Value.int _ i) => i
  | _ => 0
omit [Tabs] in
theorem SA.inh {k : Nat} (h : 0 < k) : Nonempty (SA k) :=
  ⟨⟨List.replicate k (.int .i64 0), by simp, fun v hv => by rw [(List.mem_replicate.1 hv).2]; rfl, 0, by rw [List.getElem?_replicate, if_pos h]⟩⟩
def cmpI (i j : Int) : Int := if i < j then -1 else if i > j then 1 else 0
def F_sf (te : Nat) (τ : Ev.Ty) (g : Nat) : FnT := ⟨2, ⟨[(0, .own 2000000), (1, .fn g)], [], [(2000000, .arr te τ)], []⟩, [], [(2000000, .arr te τ)]⟩
theorem row_end' {F : Nat → Prop} {ρ : Env} {w : World} {te : TypeId} {τ : Ev.Ty} {l l' : List τ.den} {g cap : Nat} {cur new : Array Value} {w' : World} (hrw : RelW F ρ w) (hob : ∀ k, RelOb w F ρ k (lkO [(2000000, .na te τ l)] k))
    (hu : ρ 2000000 = some (.arr (.slice (some ⟨g, 0, none⟩) l.length cap))) (hl : l'.length = l.length) (hcap : l.length ≤ cap) (hm : cap ≤ maxLen) (hcs : cur.size = cap * τ.sz) (hnew : new.size = cur.size)
    (hw' : w'.heap[g]? = some (.cells new te (0, 0))) (hos : w'.os = w.os) (htape : w'.tape = w.tape) (hout : w'.output = w.output) (hsize : w.heap.size ≤ w'.heap.size) (hkeep : ∀ b, b < w.heap.size → b ≠ g → w'.heap[b]? = w.heap[b]?)
    (hrel : ∀ i (h : i < (flat τ l').length), RelD w F (flat τ l')[i] (new.toList.getD i undef)) :
    ∃ F' ρ' rr ob', EX (.tup []) [(2000000, .na te τ l')] rr ob' ∧ RelEnd w' F' ρ' rr (.returned (.tuple #[])) ∧ RelW F' ρ' w' ∧ (∀ k, RelOb w' F' ρ' k (lkO ob' k)) ∧ Fr F ρ w F' ρ' w' := by
  have hg : ∀ b, F b → b ≠ g := fun b hf e => hrw.dis b hf ⟨2000000, _, hu, by rw [e]; rfl⟩
  have hF : ∀ b, F b → w'.heap[b]? = w.heap[b]? := fun b hf => hkeep b (hrw.lt b hf) (hg b hf)
  have hfl : ∀ m : List τ.den, (flat τ m).length = m.length * τ.sz := fun m => flat_length τ m
  have hnl : new.toList.length = new.size := Array.length_toList
  have hle : l'.length * τ.sz ≤ new.size := by rw [hnew, hcs, hl]; exact Nat.mul_le_mul_right _ hcap
  refine ⟨F, ρ, .ret (.tup []), [(2000000, .na te τ l')], ⟨rfl, rfl⟩, ?_, ⟨hrw.dis, fun b hf => Nat.lt_of_lt_of_le (hrw.lt b hf) hsize, hrw.inj, hrw.tab_of hF fun _ h => h⟩, fun k => ?_,
    ⟨hos, htape, hout, hsize, fun _ h => h, fun b hbb hnl => hkeep b hbb fun e => hnl ⟨2000000, _, hu, by rw [e]; rfl⟩, fun _ _ h => h, fun _ _ => Stab.refl _ _⟩⟩
  · exact .tup [] #[] rfl fun i hi => by simp at hi
  · by_cases hk : k = 2000000
    · subst hk
      show RelOb w' F ρ 2000000 (.na te τ l')
      refine .na _ _ _ (.arr te _ l'.length _ _ (new.toList.take (l'.length * τ.sz)) hu ⟨?_, .inr ⟨g, cap, new, by rw [hl], Nat.zero_le _, hw', by omega, hm, by rw [hnew, hcs], rfl⟩⟩ ?_ fun i hi => ?_)
      · rw [List.length_take, hnl]
        omega
      · rw [List.length_take, hnl, hfl]
        omega
      · have hi2 : i < l'.length * τ.sz := by rw [hfl] at hi; exact hi
        have e : (new.toList.take (l'.length * τ.sz)).getD i undef = new.toList.getD i undef := by
          rw [List.getD_eq_getElem?_getD, List.getElem?_take, if_pos hi2, List.getD_eq_getElem?_getD]
        rw [e]
        exact (hrel i hi).mono hF fun _ h => h
    · have h0 := hob k
      have e1 : ∀ o : AObj, lkO [(2000000, o)] k = .gone := fun o => by
        simp only [lkO]
        cases hb : Nat.beq k 2000000 with
        | true => exact absurd (Nat.eq_of_beq_eq_true hb) hk
        | false => rfl
      rw [e1] at h0 ⊢
      cases h0 with
      | gone h => exact .gone h
omit [Tabs] in
theorem flat_getD (τ : Ev.Ty) (hz : 0 < τ.sz) {l : List τ.den} (j : Nat) (h : j < (flat τ l).length) : ∃ x, l[j / τ.sz]? = some x ∧ (cells τ x)[j % τ.sz]? = some (flat τ l)[j] := by
  have hl := flat_length τ l
  have hj : j / τ.sz < l.length := by rw [Nat.div_lt_iff_lt_mul hz]; omega
  refine ⟨l[j / τ.sz], List.getElem?_eq_getElem hj, ?_⟩
  have hat := flat_at τ (List.getElem?_eq_getElem hj)
  rw [← hat, List.getElem?_take, if_pos (Nat.mod_lt _ hz), List.getElem?_drop, Nat.mul_comm, Nat.div_add_mod, List.getElem?_eq_getElem h]
section
variable {P : Program} {r : Go.Shelf.Ren}
open Go.Sort Go.Proofs
set_option linter.unusedSimpArgs false
set_option linter.unusedVariables false
theorem sortF_ok (L : SlLaysF0.n6 P r) (τ : Ev.Ty) (κ : τ.den → Int) (hz : 0 < τ.sz) (hκ : ∀ x, (cells τ x)[0]? = some (iC .i64 (κ x))) (aE : ∀ w, (Go.isAgg (r.t 24)).run P w = .ok true w) (zE : ∀ w, (Go.sizeOf (r.t 24)).run P w = .ok τ.sz w) (te : TypeId)
    (g : FuncId) (eg : ∀ args w, (callFunc g args).run P w = .ok (.enter g args) w)
    (hcl : ∀ (p q : List Value) (i j : Int) (W : World), p.length = τ.sz → q.length = τ.sz → (∀ v ∈ p, v.oneCell' = true) → (∀ v ∈ q, v.oneCell' = true) → p[0]? = some (.int .i64 i) → q[0]? = some (.int .i64 j) → Calls P g #[.agg p.toArray, .agg q.toArray] W fun e w' => e = .returned (.int .i64 (cmpI i j)) ∧ ∃ n os, w' = grow (W.drewN n) os) :
    Contract P (r.f 6) (F_sf te τ g) (sfN κ) := by
  rintro ⟨l, u⟩ y hy
  unfold sfN at hy
  cases hs : decide ((l.map κ).Nodup) && Nat.ble l.length 4000000000000000000 with
  | false => dsimp only at hy; rw [hs] at hy; cases hy
  | true =>
  dsimp only at hy
  rw [hs] at hy
  cases hy
  rw [Bool.and_eq_true, decide_eq_true_eq] at hs
  obtain ⟨hnd, hlim⟩ := hs
  have hlim := Nat.le_of_ble_eq_true hlim
  intro F ρ vs w hrw hob hra
  have hob : ∀ k, RelOb w F ρ k (lkO [(2000000, .na te τ l)] k) := hob
  have hsz : vs.size = 2 := hra.sz
  obtain ⟨v0, v1, rfl⟩ : ∃ v0 v1, vs = #[v0, v1] := by
    refine ⟨vs[0], vs[1], ?_⟩
    apply Array.ext
    · simpa using hsz
    · intro q h1 h2
      have : q = 0 ∨ q = 1 := by simp at h2; omega
      rcases this with rfl | rfl <;> rfl
  have h0 : RelAV w F ρ #[] (.cell (.own 2000000)) v0 := hra.rel 0 (by show 0 < 2; omega)
  have h1 : RelAV w F ρ #[] (.cell (.fn (.func g) [] [])) v1 := hra.rel 1 (by show 1 < 2; omega)
  have e1 : v1 = .func (.func g) #[] #[] := by
    cases h1 with
    | cell _ _ h => cases h with
      | fn _ _ _ a b h1 h2 hf hc =>
        rw [Array.eq_empty_of_size_eq_zero h1, Array.eq_empty_of_size_eq_zero h2]
  subst e1
  have hr : RelOb w F ρ 2000000 (.na te τ l) := hob 2000000
  cases hr with
  | na _ _ _ hr =>
  obtain ⟨u, xs, hk, hown, hxs, hh⟩ := arr_inv hr
  have e0 := own_inv h0 hk
  subst e0
  have fin : ∀ (l' : List τ.den) (e : Ending) (w' : World), (∃ F' ρ' rr ob', EX (.tup []) [(2000000, .na te τ l')] rr ob' ∧ RelEnd w' F' ρ' rr e ∧ RelW F' ρ' w' ∧ (∀ k, RelOb w' F' ρ' k (lkO ob' k)) ∧ Fr F ρ w F' ρ' w') →
      ∃ F' ρ' rr ob', EX ((F_sf te τ g).res (l', ())) ((F_sf te τ g).ob2 (l', ())) rr ob' ∧ RelEnd w' F' ρ' rr e ∧ RelW F' ρ' w' ∧ (∀ k, RelOb w' F' ρ' k (lkO ob' k)) ∧ Fr F ρ w F' ρ' w' := fun _ _ _ h => h
  have none : l = [] → ∀ (p : Option Addr) (cap : Nat), v0 = .slice p 0 cap → Calls P (r.f 6) #[v0, .func (.func g) #[] #[]] w fun e w' => ∃ F' ρ' rr ob', EX ((F_sf te τ g).res (riseB κ l, ())) ((F_sf te τ g).ob2 (riseB κ l, ())) rr ob' ∧ RelEnd w' F' ρ' rr e ∧ RelW F' ρ' w' ∧ (∀ k, RelOb w' F' ρ' k (lkO ob' k)) ∧ Fr F ρ w F' ρ' w' := by
    intro hl p cap hv
    subst hl
    subst hv
    refine (AnyF.slices_SortFunc_none L p cap _ w).mono fun e w' ⟨he, hw⟩ => ?_
    subst he; subst hw
    rw [show riseB κ ([] : List τ.den) = [] by simp [riseB]]
    exact fin _ _ _ ⟨F, ρ, .ret (.tup []), _, ⟨rfl, rfl⟩, .tup [] #[] rfl fun i hi => by simp at hi, hrw, hob, Fr.refl F ρ w'⟩
  by_cases hl0 : l = []
  · rcases hown.2 with ⟨hv, hn⟩ | ⟨gb, cap, cur, hv, _⟩
    · exact none hl0 _ _ hv
    · refine none hl0 (some ⟨gb, 0, .none⟩) cap ?_
      rw [hv, hl0]
      rfl
  rcases hown.2 with ⟨_, hn⟩ | ⟨gb, cap, cur, hv, _, hgb, hcap, hcm, hcs, htake⟩
  · exact absurd (List.eq_nil_of_length_eq_zero hn) hl0
  subst hv
  have hfl : (flat τ l).length = l.length * τ.sz := flat_length τ l
  have hxl : xs.length = l.length * τ.sz := hown.1
  have hle : l.length * τ.sz ≤ cur.size := by rw [hcs]; exact Nat.mul_le_mul_right _ hcap
  have hcur : ∀ q (h : q < (flat τ l).length), RelD w F (flat τ l)[q] (cur.toList.getD q undef) := fun q hq => by
    have := hh q hq
    rw [← htake, List.getD_eq_getElem?_getD, List.getElem?_take, if_pos (by omega), ← List.getD_eq_getElem?_getD] at this
    exact this
  -- the elements' cells
  have hrel : ∀ (i : Nat) (x : τ.den), l[i]? = some x → ∀ q, q < τ.sz → ∃ d, (cells τ x)[q]? = some d ∧ RelD w F d (cur.toList.getD (i * τ.sz + q) undef) := fun i x hx q hq => by
    obtain ⟨hi, _⟩ := List.getElem?_eq_some_iff.1 hx
    have hb : i * τ.sz + τ.sz ≤ l.length * τ.sz := by rw [← Nat.succ_mul]; exact Nat.mul_le_mul_right _ hi
    have h2 := hcur (i * τ.sz + q) (by omega)
    have hat := flat_at τ hx
    refine ⟨(flat τ l)[i * τ.sz + q]'(by omega), ?_, h2⟩
    rw [← hat, List.getElem?_take, if_pos hq, List.getElem?_drop, List.getElem?_eq_getElem]
  have part : ∀ i : Fin l.length, ((cur.toList.drop (i.1 * τ.sz)).take τ.sz).length = τ.sz := fun i => by
    have hb : i.1 * τ.sz + τ.sz ≤ l.length * τ.sz := by rw [← Nat.succ_mul]; exact Nat.mul_le_mul_right _ i.2
    simp; omega
  have pget : ∀ (i : Fin l.length) q, q < τ.sz → ((cur.toList.drop (i.1 * τ.sz)).take τ.sz)[q]? = some (cur.toList.getD (i.1 * τ.sz + q) undef) := fun i q hq => by
    have hb : i.1 * τ.sz + τ.sz ≤ l.length * τ.sz := by rw [← Nat.succ_mul]; exact Nat.mul_le_mul_right _ i.2
    rw [List.getElem?_take, if_pos hq, List.getElem?_drop, List.getD_eq_getElem?_getD, List.getElem?_eq_getElem (by simp; omega)]
    rfl
  have int0 : ∀ i : Fin l.length, ((cur.toList.drop (i.1 * τ.sz)).take τ.sz)[0]? = some (.int .i64 (κ l[i.1])) := fun i => by
    rw [pget i 0 hz]
    obtain ⟨d, h1, h2⟩ := hrel i.1 l[i.1] (List.getElem?_eq_getElem i.2) 0 hz
    rw [hκ] at h1
    cases h1
    generalize cur.toList.getD (i.1 * τ.sz + 0) undef = v at h2 ⊢
    cases h2 with
    | sc v h => rfl
  let f : Fin l.length → SA τ.sz := fun i => ⟨(cur.toList.drop (i.1 * τ.sz)).take τ.sz, part i, fun v hv => by
    obtain ⟨q, hq, rfl⟩ := List.getElem_of_mem hv
    have hq2 : q < τ.sz := by rw [part i] at hq; exact hq
    obtain ⟨d, _, h2⟩ := hrel i.1 l[i.1] (List.getElem?_eq_getElem i.2) q hq2
    have := h2.oneCell
    have e := pget i q hq2
    rw [List.getElem?_eq_getElem hq] at e
    rw [Option.some.inj e]
    exact this, ⟨_, int0 i⟩⟩
  haveI : Inhabited (SA τ.sz) := ⟨Classical.choice (SA.inh hz)⟩
  let z : List (τ.den × SA τ.sz) := List.ofFn fun i : Fin l.length => (l[i.1], f i)
  let d : Array (SA τ.sz) := (z.map (·.2)).toArray
  have hzl : z.length = l.length := by simp [z]
  have hd : d.size = l.length := by simp [d, hzl]
  have hz1 : z.map (·.1) = l := by
    apply List.ext_getElem?
    intro i
    simp only [z, List.getElem?_map, List.getElem?_ofFn]
    split
    · rename_i hi; simp [hi]
    · rename_i hi; simp; omega
  have hkey : ∀ i : Fin l.length, (f i).key = κ l[i.1] := fun i => by
    unfold SA.key
    have := int0 i
    show (match ((cur.toList.drop (i.1 * τ.sz)).take τ.sz)[0]? with | some (.int _ i) => i | _ => 0) = _
    rw [this]
  -- what holds of each pair
  have hpair : ∀ p ∈ z, p.2.key = κ p.1 ∧ ∀ q, q < τ.sz → ∃ dd, (cells τ p.1)[q]? = some dd ∧ RelD w F dd (p.2.1.getD q undef) := fun p hp => by
    obtain ⟨i, rfl⟩ := List.mem_ofFn.1 hp
    refine ⟨hkey i, fun q hq => ?_⟩
    obtain ⟨dd, h1, h2⟩ := hrel i.1 l[i.1] (List.getElem?_eq_getElem i.2) q hq
    refine ⟨dd, h1, ?_⟩
    have e := pget i q hq
    show RelD w F dd (((cur.toList.drop (i.1 * τ.sz)).take τ.sz).getD q undef)
    rw [List.getD_eq_getElem?_getD, e]
    exact h2
  have hdget : ∀ i (h : i < l.length), d[i]! = f ⟨i, h⟩ := fun i h => by
    rw [getElem!_pos d i (by rw [hd]; exact h)]
    simp [d, z]
  have hH : HoldsK (fun p : SA τ.sz => p.1) τ.sz w gb 0 d := by
    intro j hj
    have hj2 : j < d.size * τ.sz := by rw [size_flatK] at hj; exact hj
    rw [hd] at hj2
    have hjd : j / τ.sz < l.length := by rw [Nat.div_lt_iff_lt_mul hz]; exact hj2
    refine ⟨?_, Lib.frozen_of_heap hgb _⟩
    rw [Lib.cell_of_heap hgb, Nat.zero_add, get_flatK _ _ _ _ (by rw [hd]; exact hj2), hdget _ hjd]
    have e := pget ⟨j / τ.sz, hjd⟩ (j % τ.sz) (Nat.mod_lt _ hz)
    have e2 : (f ⟨j / τ.sz, hjd⟩).1[j % τ.sz]! = cur.toList.getD j undef := by
      show ((cur.toList.drop (j / τ.sz * τ.sz)).take τ.sz)[j % τ.sz]! = _
      rw [List.getElem!_eq_getElem?_getD, e, Nat.mul_comm, Nat.div_add_mod]
      rfl
    rw [show ∀ x : Value, id x = x from fun _ => rfl, e2, List.getD_eq_getElem?_getD, Array.getElem?_toList, Array.getElem?_eq_getElem (by omega)]
    rfl
  have hblk : gb < w.heap.size := by
    rcases Nat.lt_or_ge gb w.heap.size with h | h
    · exact h
    · rw [Array.getElem?_eq_none h] at hgb; cases hgb
  have hcmp : CmpLays P g #[] (fun p : SA τ.sz => p.1) τ.sz (fun x y => cmpI x.key y.key) gb 0 d.size w := fun m os dk _ x y => by
    obtain ⟨i, hi⟩ := x.2.2.2
    obtain ⟨j, hj⟩ := y.2.2.2
    have ei : x.key = i := by unfold SA.key; rw [hi]
    have ej : y.key = j := by unfold SA.key; rw [hj]
    have := hcl x.1 y.1 i j (sortWorldK (fun p : SA τ.sz => p.1) τ.sz w gb 0 m dk os) x.2.1 y.2.1 x.2.2.1 y.2.2.1 hi hj
    rw [← ei, ← ej] at this
    exact this
  have hlt : ∀ x y : SA τ.sz, ltOf (fun x y : SA τ.sz => cmpI x.key y.key) x y = decide (x.key < y.key) := fun x y => by
    unfold ltOf cmpI
    by_cases h1 : x.key < y.key
    · simp [h1]
    · by_cases h2 : x.key > y.key <;> simp [h1, h2]
  have hO : SWO (ltOf (fun x y : SA τ.sz => cmpI x.key y.key)) := ⟨fun x => by rw [hlt]; simp, fun x y z h1 h2 => by rw [hlt, decide_eq_true_eq] at *; omega, fun x y z h1 h2 => by rw [hlt, decide_eq_false_iff_not] at *; omega⟩
  have main := AnyQ.slices_SortFunc L τ.sz aE zE (fun p : SA τ.sz => p.1) (fun x => x.2.1) (fun x => x.2.2.1) (fun x y => cmpI x.key y.key) hO g #[] gb 0 cap d w eg hcmp hH hblk (by rw [hd]; omega)
  rw [hd] at main
  refine main.mono fun e w' ⟨he, d', n, os, hperm, hsort, hw'⟩ => ?_
  subst he
  obtain ⟨hd', _, hpm⟩ := hperm
  rw [hd] at hd'
  have hext : ∀ a : Array (SA τ.sz), a.size = l.length → (a.extract 0 l.length).toList = a.toList := fun a ha => by rw [← ha, Array.extract_size]
  rw [hext d' hd', hext d hd] at hpm
  have hdl : d.toList = z.map (·.2) := by simp [d]
  rw [hdl] at hpm
  obtain ⟨z', hz', hzd⟩ := perm_lift (·.2) hpm.symm z rfl
  have hz'l : z'.length = l.length := by rw [hz'.length_eq, hzl]
  have hpair' : ∀ p ∈ z', p.2.key = κ p.1 ∧ ∀ q, q < τ.sz → ∃ dd, (cells τ p.1)[q]? = some dd ∧ RelD w F dd (p.2.1.getD q undef) := fun p hp => hpair p (hz'.mem_iff.1 hp)
  have hget' : ∀ i (h : i < l.length), d'[i]! = (z'[i]'(by omega)).2 := fun i h => by
    rw [getElem!_pos d' i (by omega)]
    have : d'.toList[i]? = some (z'[i]'(by omega)).2 := by rw [← hzd, List.getElem?_map, List.getElem?_eq_getElem (by omega)]; rfl
    rw [Array.getElem?_toList, Array.getElem?_eq_getElem (by omega)] at this
    exact Option.some.inj this
  have hpl : (z'.map (·.1)).Perm l := by
    have := hz'.map (·.1)
    rw [hz1] at this
    exact this
  have hrise : (z'.map (·.1)).Pairwise (fun x y => κ x < κ y) := by
    have hn : ((z'.map (·.1)).map κ).Nodup := (hpl.map κ).nodup_iff.2 hnd
    rw [List.nodup_iff_pairwise_ne, List.pairwise_map] at hn
    have hs2 : (z'.map (·.1)).Pairwise (fun x y => κ x ≤ κ y) := by
      rw [List.pairwise_iff_getElem]
      intro i j hi hj hij
      rw [List.length_map] at hi hj
      have hij' := hsort i j (Nat.zero_le _) hij (by omega)
      rw [hlt, decide_eq_false_iff_not, hget' i (by omega), hget' j (by omega), (hpair' _ (List.getElem_mem _)).1, (hpair' _ (List.getElem_mem _)).1] at hij'
      rw [List.getElem_map, List.getElem_map]
      omega
    exact (hs2.and hn).imp fun {a b} h => by have := h.1; have := h.2; omega
  have hl' : z'.map (·.1) = riseB κ l := rise_unique κ (hpl.trans (List.mergeSort_perm l _).symm) hrise (riseB_pair κ hnd)
  have hrl : (riseB κ l).length = l.length := by rw [← hl', List.length_map, hz'l]
  -- the new row
  have hheap : w'.heap[gb]? = some (.cells (putCells id 0 (flatK (fun p : SA τ.sz => p.1) τ.sz d') cur) te (0, 0)) := by
    rw [hw']
    show ((w.heap.modify gb (onCells (putCells id 0 (flatK (fun p : SA τ.sz => p.1) τ.sz d')))) ++ os)[gb]? = _
    rw [Array.getElem?_append_left (by simpa using hblk), Array.getElem?_modify, if_pos rfl, hgb]
    rfl
  have hsize : w.heap.size ≤ w'.heap.size := by
    rw [hw']
    show w.heap.size ≤ ((w.heap.modify gb _) ++ os).size
    rw [Array.size_append, Array.size_modify]
    omega
  have hkeep : ∀ b, b < w.heap.size → b ≠ gb → w'.heap[b]? = w.heap[b]? := fun b hb hne => by
    rw [hw']
    show ((w.heap.modify gb _) ++ os)[b]? = _
    rw [Array.getElem?_append_left (by simpa using hb), Array.getElem?_modify, if_neg (Ne.symm hne)]
  refine fin _ _ _ (row_end' (cur := cur) hrw hob hk hrl hcap hcm hcs (by simp [putCells]) hheap (by rw [hw']; rfl) (by rw [hw']; rfl) (by rw [hw']; rfl) hsize hkeep fun i hi => ?_)
  obtain ⟨x, hx1, hx2⟩ := flat_getD τ hz i hi
  have hil : i < l.length * τ.sz := by rw [flat_length, hrl] at hi; exact hi
  have hid : i / τ.sz < l.length := by rw [Nat.div_lt_iff_lt_mul hz]; exact hil
  rw [← hl', List.getElem?_map, List.getElem?_eq_getElem (by omega)] at hx1
  have hx1 : (z'[i / τ.sz]'(by omega)).1 = x := Option.some.inj hx1
  obtain ⟨dd, h3, h4⟩ := (hpair' _ (List.getElem_mem (h := (show i / τ.sz < z'.length by omega)))).2 (i % τ.sz) (Nat.mod_lt _ hz)
  rw [hx1, hx2] at h3
  rw [Option.some.inj h3]
  have e : (putCells id 0 (flatK (fun p : SA τ.sz => p.1) τ.sz d') cur).toList.getD i undef = ((z'[i / τ.sz]'(by omega)).2.1.getD (i % τ.sz) undef) := by
    rw [List.getD_eq_getElem?_getD, Array.getElem?_toList]
    unfold putCells
    rw [Array.getElem?_mapIdx, Array.getElem?_eq_getElem (by omega), Option.map_some, if_pos ⟨Nat.zero_le _, by rw [size_flatK, hd']; omega⟩, Nat.sub_zero, get_flatK _ _ _ _ (by rw [hd']; exact hil), hget' _ hid, Option.getD_some]
    have hlen := (z'[i / τ.sz]'(by omega)).2.2.1
    have hm := Nat.mod_lt i hz
    show (z'[i / τ.sz]'(by omega)).2.1[i % τ.sz]! = _
    rw [List.getElem!_eq_getElem?_getD, List.getD_eq_getElem?_getD, List.getElem?_eq_getElem (by omega)]
    rfl
  rw [e]
  exact h4
end
end Esp

/- EV, part 18: what stands behind calls that move rows of one's own: slices.Insert, slices.Delete. -/
import Derived.Test.YtneindkhjadnaaaGreatDoorEvFn
import Derived.Laws.IdiomCopy
namespace Esp
open Go
set_option linter.unusedSimpArgs false
set_option linter.unusedVariables false
variable [Tabs]
section
variable {P : Program}
omit [Tabs] in
theorem run_copy_e (w : World) (dT sT ty elem : TypeId) (e b o dLen dCap : Nat) (a : Addr) (sLen sCap : Nat) (cs : List Value)
    (hu : P.underlying dT = some (.slice elem)) (hs : (P.info? elem).map (·.size) = some e) (hn : cs.length = Nat.min sLen dLen * e)
    (hsrc : ∀ j v, cs[j]? = some v → w.cell? (a.add j) = some v) (hc : ∀ j, j < cs.length → (w.cell? ⟨b, o + j, none⟩).isSome = true) (hf : ∀ j, j < cs.length → w.frozen? ⟨b, o + j, none⟩ = false) (h1 : ∀ v ∈ cs, v.oneCell' = true) :
    (Builtin.copy_ #[dT, sT] ty #[.slice (some ⟨b, o, none⟩) dLen dCap, .slice (some a) sLen sCap]).run P w = .ok (goInt (Nat.min sLen dLen)) (w.setCells b o cs) := by
  have hl := run_loadCells_list (P := P) w a cs hsrc
  have hst := run_storeCells_cells (P := P) b o cs 0 w (by simpa using hc) (by simpa using hf) h1
  cases hq : P.info? elem with
  | none => simp [hq] at hs
  | some i =>
    have hi : i.size = e := by simpa [hq] using hs
    simp [Builtin.copy_, run_underlying hu, Builtin.lenOf, Builtin.firstCells, Go.sizeOf, typeInfo, hq, hi, ← hn, hl, hst]
end
abbrev obs2 (te : TypeId) (t : Ev.Ty) (l v : List t.den) : List (Nat × AObj) := [(1000000, .na te t l), (2000016, .na te t v)]
omit [Tabs] in
theorem lk2_0 (te : TypeId) (t : Ev.Ty) (l v : List t.den) : lkO (obs2 te t l v) 1000000 = .na te t l := rfl
omit [Tabs] in
theorem lk2_1 (te : TypeId) (t : Ev.Ty) (l v : List t.den) : lkO (obs2 te t l v) 2000016 = .na te t v := rfl
omit [Tabs] in
theorem lk2_n (te : TypeId) (t : Ev.Ty) (l v : List t.den) {k : Nat} (h0 : k ≠ 1000000) (h1 : k ≠ 2000016) : lkO (obs2 te t l v) k = .gone := by
  have e0 : Nat.beq k 1000000 = false := by cases hb : Nat.beq k 1000000 with | false => rfl | true => exact absurd (Nat.eq_of_beq_eq_true hb) h0
  have e1 : Nat.beq k 2000016 = false := by cases hb : Nat.beq k 2000016 with | false => rfl | true => exact absurd (Nat.eq_of_beq_eq_true hb) h1
  simp [obs2, lkO, e0, e1]
theorem own_end {F : Nat → Prop} {ρ : Env} {w w' : World} {u u' : Value} {te : TypeId} {t : Ev.Ty} {l' : List t.den} {xs' : List Value} (hrw : RelW F ρ w) {ob ob' : List (Nat × AObj)} (hob : ∀ k, RelOb w F ρ k (lkO ob k)) (hb0 : lkO ob' 1000000 = .na te t l') (hb1 : ∀ k, k ≠ 1000000 → lkO ob' k = lkO ob k) (hb2 : ∀ k, k ≠ 1000000 → lkO ob k = .gone ∨ ∃ te t l, lkO ob k = .na te t l) (hu : ρ 1000000 = some (.arr u))
    (ho : w'.ownsRow 0 te t.sz u' l'.length xs') (hh : ∀ i (h : i < (flat t l').length), RelD w F (flat t l')[i] (xs'.getD i undef))
    (hos : w'.os = w.os) (htape : w'.tape = w.tape) (hout : w'.output = w.output) (hsize : w.heap.size ≤ w'.heap.size) (hkeep : ∀ b, b < w.heap.size → u.ownBlock ≠ some b → w'.heap[b]? = w.heap[b]?)
    (hnew : ∀ b, u'.ownBlock = some b → u.ownBlock = some b ∨ w.heap.size ≤ b) :
    ∃ F' ρ' rr ob2, EX (.cell (.own 1000000)) ob' rr ob2 ∧ RelEnd w' F' ρ' rr (.returned u') ∧ RelW F' ρ' w' ∧ (∀ k, RelOb w' F' ρ' k (lkO ob2 k)) ∧ Fr F ρ w F' ρ' w' := by
  have hF : ∀ b, F b → w'.heap[b]? = w.heap[b]? := fun b hf => hkeep b (hrw.lt b hf) fun h => hrw.dis b hf ⟨1000000, _, hu, h⟩
  have hlt' : ∀ b, u'.ownBlock = some b → b < w'.heap.size := fun b hb => (ho.lt b hb).2
  have hlt : ∀ k L b, ρ k = some L → L.blk = some b → b < w.heap.size := fun k L b hk hb => (hob k).lt hk hb
  let ρ' := ρ.set 1000000 (some (.arr u'))
  have hρ0 : ρ' 1000000 = some (.arr u') := Env.set_same ..
  have hρ : ∀ k, k ≠ 1000000 → ρ' k = ρ k := fun k hk => Env.set_other _ _ _ hk
  have hlive : ∀ b, live ρ' b → live ρ b ∨ w.heap.size ≤ b := by
    rintro b ⟨k, L, hk, hb⟩
    by_cases e : k = 1000000
    · subst e
      rw [hρ0] at hk
      cases hk
      rcases hnew b hb with h | h
      · exact .inl ⟨1000000, _, hu, h⟩
      · exact .inr h
    · rw [hρ k e] at hk
      exact .inl ⟨k, L, hk, hb⟩
  have hinj : ∀ k k' L L' b, ρ' k = some L → ρ' k' = some L' → L.blk = some b → L'.blk = some b → k = k' := by
    intro k k' L L' b hk hk' hb hb'
    by_cases e1 : k = 1000000 <;> by_cases e2 : k' = 1000000
    · exact e1.trans e2.symm
    · subst e1
      rw [hρ0] at hk
      cases hk
      rw [hρ k' e2] at hk'
      rcases hnew b hb with h | h
      · exact hrw.inj _ _ _ _ b hu hk' h hb'
      · have := hlt k' L' b hk' hb'
        omega
    · subst e2
      rw [hρ0] at hk'
      cases hk'
      rw [hρ k e1] at hk
      rcases hnew b hb' with h | h
      · exact hrw.inj _ _ _ _ b hk hu hb h
      · have := hlt k L b hk hb
        omega
    · rw [hρ k e1] at hk
      rw [hρ k' e2] at hk'
      exact hrw.inj _ _ _ _ b hk hk' hb hb'
  refine ⟨F, ρ', .ret (.cell (.own 1000000)), ob', ⟨rfl, rfl⟩, ?_, ⟨?_, fun b hf => Nat.lt_of_lt_of_le (hrw.lt b hf) hsize, hinj, hrw.tab_of hF fun _ h => h⟩, fun k => ?_,
    ⟨hos, htape, hout, hsize, fun _ h => h, fun b hbb hnl => hkeep b hbb fun h => hnl ⟨1000000, _, hu, h⟩, ?_, ?_⟩⟩
  · exact .cell _ _ (.own _ _ fun q hq => by rw [hρ0] at hq; cases hq; rfl)
  · intro b hf hl
    rcases hlive b hl with h | h
    · exact hrw.dis b hf h
    · have := hrw.lt b hf
      omega
  · by_cases e0 : k = 1000000
    · subst e0
      rw [hb0]
      exact .na _ _ _ (.arr te t.sz l'.length _ u' xs' hρ0 ho (by rw [ho.1, flat_length]) fun i hi => (hh i hi).mono hF fun _ h => h)
    · rw [hb1 k e0]
      rcases hb2 k e0 with e1 | ⟨te', t', vv, e1⟩
      · have h2 := hob k
        rw [e1] at h2 ⊢
        cases h2 with
        | gone h => exact .gone ((hρ k e0).trans h)
      · have h2 := hob k
        rw [e1] at h2 ⊢
        have h3 : RelOb w F ρ' k (.na te' t' vv) := by
          cases h2 with
          | na _ _ _ h2 => cases h2 with
            | arr _ _ _ _ q xs hk ho2 hz hh2 => exact .na _ _ _ (.arr _ _ _ _ q xs ((hρ _ e0).trans hk) ho2 hz hh2)
        refine h3.through hF (fun _ h => h) fun L b hL hb => ?_
        rw [hρ _ e0] at hL
        refine hkeep b (hlt _ _ _ hL hb) fun h => ?_
        exact e0 (hrw.inj _ _ _ _ b hL hu hb h)
  · rintro b hb (h | h)
    · exact .inl h
    · rcases hlive b h with h | h
      · exact .inr h
      · omega
  · intro k hk
    by_cases e : k = 1000000
    · subst e
      rw [hρ0, hu]
      intro h
      omega
    · rw [hρ k e]
      exact Stab.refl _ _
theorem ins_end {F : Nat → Prop} {ρ : Env} {w w' : World} {u u' : Value} {te : TypeId} {t : Ev.Ty} {l l' vv : List t.den} {xs' : List Value} (hrw : RelW F ρ w) (hob : ∀ k, RelOb w F ρ k (lkO (obs2 te t l vv) k)) (hu : ρ 1000000 = some (.arr u))
    (ho : w'.ownsRow 0 te t.sz u' l'.length xs') (hh : ∀ i (h : i < (flat t l').length), RelD w F (flat t l')[i] (xs'.getD i undef))
    (hos : w'.os = w.os) (htape : w'.tape = w.tape) (hout : w'.output = w.output) (hsize : w.heap.size ≤ w'.heap.size) (hkeep : ∀ b, b < w.heap.size → u.ownBlock ≠ some b → w'.heap[b]? = w.heap[b]?)
    (hnew : ∀ b, u'.ownBlock = some b → u.ownBlock = some b ∨ w.heap.size ≤ b) :
    ∃ F' ρ' rr ob', EX (.cell (.own 1000000)) (obs2 te t l' vv) rr ob' ∧ RelEnd w' F' ρ' rr (.returned u') ∧ RelW F' ρ' w' ∧ (∀ k, RelOb w' F' ρ' k (lkO ob' k)) ∧ Fr F ρ w F' ρ' w' := by
  have e0 : ∀ (a b : List t.den) k, k ≠ 1000000 → lkO (obs2 te t a vv) k = if k = 2000016 then .na te t vv else .gone := fun a b k hk => by
    by_cases e : k = 2000016
    · subst e
      rw [lk2_1, if_pos rfl]
    · rw [lk2_n _ _ _ _ hk e, if_neg e]
  refine own_end hrw hob (lk2_0 te t l' vv) (fun k hk => by rw [e0 _ l k hk, e0 _ l k hk]) (fun k hk => ?_) hu ho hh hos htape hout hsize hkeep hnew
  rw [e0 _ l k hk]
  split
  · exact .inr ⟨_, _, _, rfl⟩
  · exact .inl rfl
omit [Tabs] in
theorem setCells_row (w : World) {g o : Nat} {cur : Array Value} {t : TypeId} (vs : List Value) (hg : w.heap[g]? = some (.cells cur t (0, 0))) (h : o + vs.length ≤ cur.size) (h1 : ∀ v ∈ vs, v.oneCell' = true) :
    w.setCells g o vs = w.setRow g (cur.toList.take o ++ vs ++ cur.toList.drop (o + vs.length)).toArray := by
  have P : Program := default
  have a1 := run_storeCells_at P g o t vs 0 cur w hg (by simpa using h) h1
  have a2 := run_storeCells_cells (P := P) g o vs 0 w (fun j hj => by simp [World.cell?, hg]; omega) (fun j hj => by simp [World.frozen?, hg]) h1
  rw [a1] at a2
  simp only [Nat.add_zero] at a2
  exact (Result.ok.inj a2).2.symm

def LD (w : World) (F : Nat → Prop) (ds : List D) (xs : List Value) : Prop := xs.length = ds.length ∧ ∀ i (h : i < ds.length), RelD w F ds[i] (xs.getD i undef)
omit [Tabs] in
theorem LD.take {w : World} {F : Nat → Prop} {ds : List D} {xs : List Value} (h : LD w F ds xs) (n : Nat) : LD w F (ds.take n) (xs.take n) := by
  refine ⟨by simp [h.1], fun i hi => ?_⟩
  have h1 : i < n ∧ i < ds.length := by rw [List.length_take] at hi; omega
  have := h.2 i h1.2
  simpa [List.getD_eq_getElem?_getD, List.getElem?_take, h1.1] using this
omit [Tabs] in
theorem LD.drop {w : World} {F : Nat → Prop} {ds : List D} {xs : List Value} (h : LD w F ds xs) (n : Nat) : LD w F (ds.drop n) (xs.drop n) := by
  refine ⟨by simp [h.1], fun i hi => ?_⟩
  have h1 : n + i < ds.length := by rw [List.length_drop] at hi; omega
  have := h.2 (n + i) h1
  simpa [List.getD_eq_getElem?_getD, List.getElem?_drop] using this
omit [Tabs] in
theorem LD.append {w : World} {F : Nat → Prop} {ds es : List D} {xs ys : List Value} (h : LD w F ds xs) (k : LD w F es ys) : LD w F (ds ++ es) (xs ++ ys) := by
  refine ⟨by simp [h.1, k.1], fun i hi => ?_⟩
  by_cases h1 : i < ds.length
  · rw [List.getElem_append_left h1, List.getD_eq_getElem?_getD, List.getElem?_append_left (by rw [h.1]; exact h1), ← List.getD_eq_getElem?_getD]
    exact h.2 i h1
  · have h2 : i - ds.length < es.length := by rw [List.length_append] at hi; omega
    rw [List.getElem_append_right (by omega), List.getD_eq_getElem?_getD, List.getElem?_append_right (by rw [h.1]; omega), h.1, ← List.getD_eq_getElem?_getD]
    exact k.2 _ h2
omit [Tabs] in
theorem LD.one {w : World} {F : Nat → Prop} {ds : List D} {xs : List Value} (h : LD w F ds xs) : ∀ v ∈ xs, v.oneCell' = true := by
  intro v hv
  obtain ⟨i, hi, rfl⟩ := List.getElem_of_mem hv
  have := (h.2 i (by rw [← h.1]; exact hi)).oneCell
  simpa [List.getD_eq_getElem?_getD, List.getElem?_eq_getElem hi] using this
structure Wrote (w W : World) (g : Nat) (te : TypeId) (new : List Value) : Prop where
  heap : W.heap[g]? = some (.cells new.toArray te (0, 0))
  oth : ∀ b, b ≠ g → W.heap[b]? = w.heap[b]?
  os : W.os = w.os
  tape : W.tape = w.tape
  output : W.output = w.output
  size : W.heap.size = w.heap.size
omit [Tabs] in
theorem Wrote.cells {w : World} {g o : Nat} {cur : Array Value} {te : TypeId} (vs : List Value) (hg : w.heap[g]? = some (.cells cur te (0, 0))) (h : o + vs.length ≤ cur.size) (h1 : ∀ v ∈ vs, v.oneCell' = true) :
    Wrote w (w.setCells g o vs) g te (cur.toList.take o ++ vs ++ cur.toList.drop (o + vs.length)) := by
  rw [setCells_row w vs hg h h1]
  exact ⟨setRow_heap w g cur _ te _ hg, fun b hb => by simp only [World.setRow, Array.getElem?_modify]; rw [if_neg (Ne.symm hb)], rfl, rfl, rfl, by simp [World.setRow]⟩
omit [Tabs] in
theorem RelOb.parts {w : World} {F : Nat → Prop} {ρ : Env} {k : Nat} {te : TypeId} {t : Ev.Ty} {l : List t.den} (h : RelOb w F ρ k (.na te t l)) : ∃ u xs, ρ k = some (.arr u) ∧ w.ownsRow 0 te t.sz u l.length xs ∧ LD w F (flat t l) xs := by
  cases h with
  | na _ _ _ h => cases h with
    | arr _ _ _ _ u xs hk ho hz hh => exact ⟨u, xs, hk, ho, hz, hh⟩

/-! ## slices.Insert of one -/
def F_ins (te : TypeId) (t : Ev.Ty) : FnT := ⟨3, ⟨[(0, .own 1000000), (2, .own 2000016)], [(1, .i64)], [(1000000, .arr te t), (2000016, .arr te t)], []⟩, [.ref (.own 1000000)], [(1000000, .arr te t), (2000016, .arr te t)]⟩
def insN {α : Type} : Int × List α × List α × Unit → Option (List α × List α × Unit) := fun (i, l, v, _) => match v with
  | [x] => bif decide (0 ≤ i) && Nat.ble i.toNat l.length && Nat.ble l.length 1000000000 then some (l.take i.toNat ++ x :: l.drop i.toNat, [x], ()) else none
  | _ => none
section
variable {P : Program} {f : FuncId} {te : TypeId} {e bytes : Nat}
structure InsWalk (P : Program) (f : FuncId) (te : TypeId) (e bytes : Nat) : Prop where
  hbytes : bytes ≤ 1000
  room : ∀ (g n c vb vc : Nat) (vs : List Value) (w : World), n + 1 ≤ c → c ≤ 9223372036854775807 → vs.length = 1 * e →
    (∀ j, j < vs.length → (w.cell? ⟨g, 0 + n * e + j, none⟩).isSome = true) → (∀ j, j < vs.length → w.frozen? ⟨g, 0 + n * e + j, none⟩ = false) →
    (∀ j v, vs[j]? = some v → w.cell? ⟨vb, j, none⟩ = some v) → (∀ v ∈ vs, v.oneCell' = true) →
    Calls P f #[.slice (some ⟨g, 0, none⟩) n c, .int .i64 n, .slice (some ⟨vb, 0, none⟩) 1 vc] w fun en w' => en = .returned (.slice (some ⟨g, 0, none⟩) (n + 1) c) ∧ w' = w.setCells g (0 + n * e) vs
  fin : ∀ (base : Option Addr) (n c vb vc : Nat) (cs vs : List Value) (w : World), n ≤ c → c < n + 1 → (n + 1) * bytes ≤ 140737488355328 →
    cs.length = n * e → vs.length = 1 * e → (base = none → n = 0) →
    (∀ a, base = some a → ∀ j v, cs[j]? = some v → w.cell? (a.add j) = some v) → (∀ j v, vs[j]? = some v → w.cell? ⟨vb, j, none⟩ = some v) → (∀ v ∈ vs, v.oneCell' = true) →
    Calls P f #[.slice base n c, .int .i64 n, .slice (some ⟨vb, 0, none⟩) 1 vc] w fun en w' =>
      en = .returned (.slice (some ⟨w.heap.size, 0, none⟩) (n + 1) (grownCap w (n + 1) c te)) ∧
      ∃ zs : Array Value, zs.size = (grownCap w (n + 1) c te - (n + 1)) * e ∧ w' = w.drew.alloc (.cells ((cs ++ vs).toArray ++ zs) te)
  shift : ∀ (g n c i vb vc : Nat) (cs vs : List Value) (w : World), i < n → n + 1 ≤ c → c ≤ 9223372036854775807 → vb ≠ g → cs.length = n * e → vs.length = 1 * e →
    (∀ j v, cs[j]? = some v → w.cell? ⟨g, j, none⟩ = some v) → (∀ j, j < (n + 1) * e → (w.cell? ⟨g, j, none⟩).isSome = true) → (∀ j, w.frozen? ⟨g, j, none⟩ = false) →
    (∀ j v, vs[j]? = some v → w.cell? ⟨vb, j, none⟩ = some v) → (∀ v ∈ cs, v.oneCell' = true) → (∀ v ∈ vs, v.oneCell' = true) →
    ∀ (tA tB : TypeId) (kA kB : Nat), w.shape? vb = some (tA, kA) → w.shape? g = some (tB, kB) → kB ≠ 0 → w.frozen? ⟨vb, 0, none⟩ = false → w.frozen? ⟨vb, kA, none⟩ = false →
    Calls P f #[.slice (some ⟨g, 0, none⟩) n c, .int .i64 i, .slice (some ⟨vb, 0, none⟩) 1 vc] w fun en w' =>
      en = .returned (.slice (some ⟨g, 0, none⟩) (n + 1) c) ∧ w' = (w.drew.setCells g ((i + 1) * e) (cs.drop (i * e))).setCells g (i * e) vs
  grow : ∀ (g n c i vb vc : Nat) (cs vs : List Value) (w : World), i < n → n ≤ c → c < n + 1 → (n + 1) * bytes ≤ 140737488355328 → cs.length = n * e → vs.length = 1 * e →
    (∀ j v, cs[j]? = some v → w.cell? ⟨g, j, none⟩ = some v) → (∀ j v, vs[j]? = some v → w.cell? ⟨vb, j, none⟩ = some v) → (∀ v ∈ cs, v.oneCell' = true) → (∀ v ∈ vs, v.oneCell' = true) →
    Calls P f #[.slice (some ⟨g, 0, none⟩) n c, .int .i64 i, .slice (some ⟨vb, 0, none⟩) 1 vc] w fun en w' => ∃ (G : Nat) (ROW : Array Value), n + 1 ≤ G ∧ G ≤ maxLen ∧ ROW.size = G * e ∧ ROW.toList.take (i * e) = cs.take (i * e) ∧
      en = .returned (.slice (some ⟨w.heap.size, 0, none⟩) (n + 1) G) ∧ w' = (((w.alloc (.cells ROW te)).drew.setCells w.heap.size (i * e) vs).drew).setCells w.heap.size ((i + 1) * e) (cs.drop (i * e))
omit [Tabs] in
theorem flat_cons (t : Ev.Ty) (x : t.den) (l : List t.den) : flat t (x :: l) = cells t x ++ flat t l := by simp [flat]
theorem insN_of {t : Ev.Ty} (W : InsWalk P f te t.sz bytes) : Contract P f (F_ins te t) insN := by
  rintro ⟨i, l, v, u0⟩ y hy
  unfold insN at hy
  dsimp only at hy
  match v, hy with
  | [x], hy =>
  cases hs : (decide (0 ≤ i) && Nat.ble i.toNat l.length && Nat.ble l.length 1000000000) with
  | false => dsimp only at hy; rw [hs] at hy; cases hy
  | true =>
  dsimp only at hy
  rw [hs] at hy
  cases hy
  simp only [Bool.and_eq_true, decide_eq_true_eq] at hs
  obtain ⟨⟨hi0, hin⟩, hn⟩ := hs
  have hin := Nat.le_of_ble_eq_true hin
  have hn := Nat.le_of_ble_eq_true hn
  obtain ⟨i, rfl⟩ : ∃ j : Nat, i = (j : Int) := ⟨Int.toNat i, (Int.toNat_of_nonneg hi0).symm⟩
  simp only [Int.toNat_natCast] at hin ⊢
  have hb := W.hbytes
  intro F ρ vs w hrw hob hra
  have hob : ∀ k, RelOb w F ρ k (lkO (obs2 te t l [x]) k) := hob
  have hsz : vs.size = 3 := hra.sz
  have r0 : RelAV w F ρ #[] (.cell (.own 1000000)) (vs.getD 0 undef) := hra.rel 0 (by show 0 < 3; omega)
  have r1 : RelAV w F ρ #[] (.cell (.d (.sc (.int .i64 i)))) (vs.getD 1 undef) := hra.rel 1 (by show 1 < 3; omega)
  have r2 : RelAV w F ρ #[] (.cell (.own 2000016)) (vs.getD 2 undef) := hra.rel 2 (by show 2 < 3; omega)
  obtain ⟨u, xs, hu, ho, hxs⟩ := RelOb.parts (lk2_0 te t l [x] ▸ hob 1000000)
  obtain ⟨q, ys, hq, hv, hys⟩ := RelOb.parts (lk2_1 te t l [x] ▸ hob 2000016)
  have e0 : vs.getD 0 undef = u := by cases r0 with | cell _ _ h => cases h with | own _ _ h => exact h u hu
  have e2 : vs.getD 2 undef = q := by cases r2 with | cell _ _ h => cases h with | own _ _ h => exact h q hq
  have e1 : vs.getD 1 undef = .int .i64 i := (scV_rel r1 (u := .int .i64 i) rfl).1
  have evs : vs = #[u, .int .i64 i, q] := by
    apply Array.ext
    · simpa using hsz
    · intro j h1 h2
      have h3 : vs.getD j undef = vs[j] := by simp [Array.getD_eq_getD_getElem?, h1]
      rw [← h3]
      have h4 : j = 0 ∨ j = 1 ∨ j = 2 := by simp at h2; omega
      rcases h4 with rfl | rfl | rfl
      · exact e0
      · exact e1
      · exact e2
  subst evs
  clear e0 e1 e2 r0 r1 r2
  have hysl : ys.length = 1 * t.sz := hv.1
  have hfx : flat t [x] = cells t x := by rw [flat_cons]; simp [flat]
  have hpos := t.sz_pos
  have hxl : xs.length = l.length * t.sz := ho.1
  rcases hv.2 with ⟨_, h0⟩ | ⟨vb, vc, vcur, rfl, _, hvh, hvn, _, hvs, hvt⟩
  · cases h0
  have hvcell : ∀ j v, ys[j]? = some v → w.cell? ⟨vb, j, none⟩ = some v := fun j v hj => by
    have h5 := hv.cells (g := vb) rfl j v hj
    rwa [Addr.add_lit, Nat.zero_add] at h5
  have hNew : ∀ w', (∀ b, F b → w'.heap[b]? = w.heap[b]?) → LD w' F (flat t (l.take i ++ x :: l.drop i)) (xs.take (i * t.sz) ++ ys ++ xs.drop (i * t.sz)) → True := fun _ _ _ => trivial
  clear hNew
  have hLD : LD w F (flat t (l.take i ++ x :: l.drop i)) (xs.take (i * t.sz) ++ ys ++ xs.drop (i * t.sz)) := by
    rw [flat_append, flat_cons, ← hfx, ← flat_take, ← flat_drop, ← List.append_assoc]
    exact ((hxs.take _).append hys).append (hxs.drop _)
  have hlen' : (l.take i ++ x :: l.drop i).length = l.length + 1 := by simp; omega
  have hLl : (xs.take (i * t.sz) ++ ys ++ xs.drop (i * t.sz)).length = (l.length + 1) * t.sz := by
    rw [hLD.1, flat_length, hlen']
  have hisz : i * t.sz ≤ l.length * t.sz := Nat.mul_le_mul_right _ hin
  have hE : (l.length + 1) * t.sz = l.length * t.sz + t.sz := by rw [Nat.add_mul, Nat.one_mul]
  have hE2 : (i + 1) * t.sz = i * t.sz + t.sz := by rw [Nat.add_mul, Nat.one_mul]
  have hbig : (l.length + 1) * bytes ≤ 140737488355328 := Nat.le_trans (Nat.mul_le_mul (by omega : l.length + 1 ≤ 1000000001) hb) (by decide)
  have hres : (F_ins te t).res ((l.take i ++ x :: l.drop i), [x], ()) = .cell (.own 1000000) := rfl
  have hob2 : (F_ins te t).ob2 ((l.take i ++ x :: l.drop i), [x], ()) = obs2 te t (l.take i ++ x :: l.drop i) [x] := rfl
  rcases ho.2 with ⟨rfl, hn0⟩ | ⟨g, cap, cur, rfl, _, hg, hncap, hcm, hcs, htake⟩
  · -- the nil slice
    have hl0 : l = [] := List.eq_nil_of_length_eq_zero hn0
    subst hl0
    have hi0 : i = 0 := by simpa using hin
    subst hi0
    refine (W.fin none 0 0 vb vc [] ys w (Nat.le_refl _) (by omega) (by simpa using hbig) (by simp) hysl (fun _ => rfl) (fun a h => by cases h) hvcell hys.one).mono fun en w' ⟨he, zs, hzs, hw⟩ => ?_
    subst he
    rw [hres, hob2]
    have hx0 : xs = [] := List.eq_nil_of_length_eq_zero (by simpa using hxl)
    subst hx0
    have hgc := grownCap_ge w (0 + 1) 0 te
    refine ins_end (xs' := ys) (u' := .slice (some ⟨w.heap.size, 0, none⟩) (0 + 1) (grownCap w (0 + 1) 0 te)) hrw hob hu ⟨by simpa using hysl, .inr ⟨w.heap.size, _, (([] : List Value) ++ ys).toArray ++ zs, rfl, Nat.zero_le _, by rw [hw]; exact heap_alloc_new w.drew _, hgc, grownCap_le_maxLen w _ _ _ (by unfold maxLen; omega), ?_, ?_⟩⟩
      ?_ (by rw [hw]; rfl) (by rw [hw]; rfl) (by rw [hw]; rfl) (by rw [hw]; show w.heap.size ≤ (w.heap.push _).size; simp) (fun b hb _ => by rw [hw]; exact Go.RowKit.Below.heap_alloc w.drew _ b hb) (fun b hb => by cases hb; exact .inr (Nat.le_refl _))
    · simp only [List.nil_append, Array.size_append, List.size_toArray, hysl, hzs]
      rw [← Nat.add_mul]
      congr 1
      omega
    · simp only [List.nil_append, Array.toList_append]
      show List.take (1 * t.sz) _ = _
      rw [← hysl, List.take_left]
    · simpa using hLD.2
  · have hcell : ∀ j v, xs[j]? = some v → w.cell? ⟨g, j, none⟩ = some v := fun j v hj => by
      have h5 := ho.cells (g := g) rfl j v hj
      rwa [Addr.add_lit, Nat.zero_add] at h5
    have hfz : ∀ j, w.frozen? ⟨g, j, none⟩ = false := fun j => by simp [World.frozen?, hg]
    have hvfz : ∀ j, w.frozen? ⟨vb, j, none⟩ = false := fun j => by simp [World.frozen?, hvh]
    have hvg : vb ≠ g := fun h => by
      have := hrw.inj _ _ _ _ g hu hq rfl (by rw [← h]; rfl)
      omega
    have hcapm : cap * t.sz = cur.size := hcs.symm
    have hbnd : l.length * t.sz ≤ cap * t.sz := Nat.mul_le_mul_right _ hncap
    have htk : cur.toList.take (l.length * t.sz) = xs := htake
    have hgl : g < w.heap.size := (Array.getElem?_eq_some_iff.1 hg).1
    -- a new row
    have newEnd : ∀ (G : Nat) (new : List Value) (w' : World), l.length + 1 ≤ G → G ≤ maxLen → new.length = G * t.sz → new.take ((l.length + 1) * t.sz) = xs.take (i * t.sz) ++ ys ++ xs.drop (i * t.sz) →
        w'.heap[w.heap.size]? = some (.cells new.toArray te (0, 0)) → (∀ b, b < w.heap.size → w'.heap[b]? = w.heap[b]?) → w'.os = w.os → w'.tape = w.tape → w'.output = w.output → w.heap.size ≤ w'.heap.size →
        ∃ F' ρ' rr ob', EX (.cell (.own 1000000)) (obs2 te t (l.take i ++ x :: l.drop i) [x]) rr ob' ∧ RelEnd w' F' ρ' rr (.returned (.slice (some ⟨w.heap.size, 0, none⟩) (l.length + 1) G)) ∧ RelW F' ρ' w' ∧ (∀ k, RelOb w' F' ρ' k (lkO ob' k)) ∧ Fr F ρ w F' ρ' w' := by
      intro G new w' hG1 hG2 hnl hnt hh hk hos htp hout hsize
      exact ins_end (xs' := xs.take (i * t.sz) ++ ys ++ xs.drop (i * t.sz)) hrw hob hu ⟨by rw [hLl, hlen'], .inr ⟨w.heap.size, G, new.toArray, by rw [hlen'], Nat.zero_le _, hh, by rw [hlen']; exact hG1, hG2, by simpa using hnl, by rw [hlen']; exact hnt⟩⟩
        hLD.2 hos htp hout hsize (fun b hb _ => hk b hb) (fun b hb => by cases hb; exact .inr (Nat.le_refl _))
    have oldEnd : ∀ (new : List Value) (w' : World), l.length + 1 ≤ cap → new.length = cap * t.sz → new.take ((l.length + 1) * t.sz) = xs.take (i * t.sz) ++ ys ++ xs.drop (i * t.sz) → Wrote w w' g te new →
        ∃ F' ρ' rr ob', EX (.cell (.own 1000000)) (obs2 te t (l.take i ++ x :: l.drop i) [x]) rr ob' ∧ RelEnd w' F' ρ' rr (.returned (.slice (some ⟨g, 0, none⟩) (l.length + 1) cap)) ∧ RelW F' ρ' w' ∧ (∀ k, RelOb w' F' ρ' k (lkO ob' k)) ∧ Fr F ρ w F' ρ' w' := by
      intro new w' hG1 hnl hnt hw
      exact ins_end (xs' := xs.take (i * t.sz) ++ ys ++ xs.drop (i * t.sz)) hrw hob hu ⟨by rw [hLl, hlen'], .inr ⟨g, cap, new.toArray, by rw [hlen'], Nat.zero_le _, hw.heap, by rw [hlen']; exact hG1, hcm, by simpa using hnl, by rw [hlen']; exact hnt⟩⟩
        hLD.2 hw.os hw.tape hw.output (Nat.le_of_eq hw.size.symm) (fun b hb h => hw.oth b fun e => h (by rw [e]; rfl)) (fun b hb => .inl hb)
    have hcurl : cur.toList.length = cap * t.sz := by simp [hcs]
    by_cases hie : i = l.length
    · subst hie
      have hxt : xs.take (l.length * t.sz) = xs := List.take_of_length_le (by omega)
      have hxd : xs.drop (l.length * t.sz) = [] := List.drop_eq_nil_of_le (by omega)
      rw [hxt, hxd, List.append_nil] at newEnd oldEnd
      by_cases hroom : l.length + 1 ≤ cap
      · have hb1 : (l.length + 1) * t.sz ≤ cap * t.sz := Nat.mul_le_mul_right _ hroom
        refine (W.room g l.length cap vb vc ys w hroom (by unfold maxLen at hcm; omega) hysl (fun j hj => by rw [hysl] at hj; simp [World.cell?, hg]; omega) (fun j hj => hfz _) hvcell hys.one).mono fun en w' ⟨he, hw⟩ => ?_
        subst he
        have hwr := Wrote.cells (o := 0 + l.length * t.sz) ys hg (by omega) hys.one
        rw [← hw] at hwr
        refine oldEnd _ w' hroom ?_ ?_ hwr
        · simp only [List.length_append, List.length_take, List.length_drop, hcurl]
          omega
        · rw [Nat.zero_add, htk, hE, show l.length * t.sz + t.sz = (xs ++ ys).length by simp; omega, List.take_left]
      · refine (W.fin (some ⟨g, 0, none⟩) l.length cap vb vc xs ys w hncap (by omega) hbig hxl hysl (fun h => by cases h) (fun a ha j v hj => by cases ha; rw [Addr.add_lit, Nat.zero_add]; exact hcell j v hj) hvcell hys.one).mono fun en w' ⟨he, zs, hzs, hw⟩ => ?_
        subst he
        have hgc := grownCap_ge w (l.length + 1) cap te
        refine newEnd _ (xs ++ ys ++ zs.toList) w' hgc (grownCap_le_maxLen w _ _ _ (by unfold maxLen; omega)) ?_ ?_ ?_ ?_ (by rw [hw]; rfl) (by rw [hw]; rfl) (by rw [hw]; rfl) (by rw [hw]; show w.heap.size ≤ (w.heap.push _).size; simp)
        · simp only [List.length_append, hxl, hysl, Array.length_toList, hzs]
          rw [← Nat.add_mul, ← Nat.add_mul]
          congr 1
          omega
        · rw [hE, show l.length * t.sz + t.sz = (xs ++ ys).length by simp; omega, List.take_left]
        · rw [hw]
          have := heap_alloc_new w.drew (.cells ((xs ++ ys).toArray ++ zs) te)
          rw [show (xs ++ ys ++ zs.toList).toArray = (xs ++ ys).toArray ++ zs by simp]
          exact this
        · intro b hb
          rw [hw]
          exact Go.RowKit.Below.heap_alloc w.drew _ b hb
    · have hil : i < l.length := by omega
      have hil2 : i * t.sz + t.sz ≤ l.length * t.sz := by rw [← hE2]; exact Nat.mul_le_mul_right _ hil
      have hdl : (xs.drop (i * t.sz)).length = l.length * t.sz - i * t.sz := by rw [List.length_drop, hxl]
      have htl : (xs.take (i * t.sz)).length = i * t.sz := by rw [List.length_take, hxl]; omega
      -- what two writes leave
      have two : ∀ (L : List Value) (c : Nat), L.length = c * t.sz → (l.length + 1) * t.sz ≤ c * t.sz → L.take (i * t.sz) = xs.take (i * t.sz) →
          ((L.take ((i + 1) * t.sz) ++ xs.drop (i * t.sz) ++ L.drop ((i + 1) * t.sz + (xs.drop (i * t.sz)).length)).take (i * t.sz) ++ ys ++ (L.take ((i + 1) * t.sz) ++ xs.drop (i * t.sz) ++ L.drop ((i + 1) * t.sz + (xs.drop (i * t.sz)).length)).drop (i * t.sz + ys.length)) =
            xs.take (i * t.sz) ++ ys ++ xs.drop (i * t.sz) ++ L.drop ((l.length + 1) * t.sz) := by
        intro L c hL hc hLt
        have a1 : (L.take ((i + 1) * t.sz)).length = i * t.sz + t.sz := by rw [List.length_take, hL, hE2]; omega
        rw [List.append_assoc (L.take _), List.take_append_of_le_length (by omega), List.take_take, Nat.min_eq_left (by omega), hLt, hysl, Nat.one_mul, show i * t.sz + t.sz = (L.take ((i + 1) * t.sz)).length from a1.symm, List.drop_left, hdl, hE2, hE,
          show i * t.sz + t.sz + (l.length * t.sz - i * t.sz) = l.length * t.sz + t.sz by omega]
        simp only [List.append_assoc]
      by_cases hroom : l.length + 1 ≤ cap
      · have hb1 : (l.length + 1) * t.sz ≤ cap * t.sz := Nat.mul_le_mul_right _ hroom
        have hkB : cur.size ≠ 0 := by
          have : 0 < cap * t.sz := Nat.mul_pos (by omega) hpos
          omega
        refine (W.shift g l.length cap i vb vc xs ys w hil hroom (by unfold maxLen at hcm; omega) hvg hxl hysl hcell (fun j hj => by simp [World.cell?, hg]; omega) hfz hvcell hxs.one hys.one te te vcur.size cur.size (by simp [World.shape?, hvh]) (by simp [World.shape?, hg]) hkB (hvfz _) (hvfz _)).mono fun en w' ⟨he, hw⟩ => ?_
        subst he
        have hw1 := Wrote.cells (w := w.drew) (o := (i + 1) * t.sz) (xs.drop (i * t.sz)) hg (by rw [hdl, hE2]; omega) fun v hv => hxs.one v (List.mem_of_mem_drop hv)
        have hw2 := Wrote.cells (o := i * t.sz) ys hw1.heap (by simp only [List.size_toArray, List.length_append, List.length_take, List.length_drop, hcurl, hysl, hE2]; omega) hys.one
        rw [← hw] at hw2
        have hL := two cur.toList cap hcurl hb1 (by rw [← htk, List.take_take, Nat.min_eq_left hisz])
        rw [hL] at hw2
        refine oldEnd _ w' hroom ?_ ?_ ⟨hw2.heap, fun b hb => (hw2.oth b hb).trans (hw1.oth b hb), hw2.os.trans hw1.os, hw2.tape.trans hw1.tape, hw2.output.trans hw1.output, hw2.size.trans hw1.size⟩
        · rw [List.length_append, hLl, List.length_drop, hcurl]
          omega
        · rw [← hLl, List.take_left]
      · refine (W.grow g l.length cap i vb vc xs ys w hil hncap (by omega) hbig hxl hysl hcell hvcell hxs.one hys.one).mono fun en w' ⟨G, ROW, hG1, hG2, hRs, hRt, he, hw⟩ => ?_
        subst he
        have hg1 : (l.length + 1) * t.sz ≤ G * t.sz := Nat.mul_le_mul_right _ hG1
        have hal : (w.alloc (.cells ROW te)).drew.heap[w.heap.size]? = some (.cells ROW te (0, 0)) := heap_alloc_new w _
        have hRl : ROW.toList.length = G * t.sz := by simpa using hRs
        have hw1 := Wrote.cells (o := i * t.sz) ys hal (by omega) hys.one
        have hw2 := Wrote.cells (w := ((w.alloc (.cells ROW te)).drew.setCells w.heap.size (i * t.sz) ys).drew) (o := (i + 1) * t.sz) (xs.drop (i * t.sz)) hw1.heap (by simp only [List.size_toArray, List.length_append, List.length_take, List.length_drop, hRl, hxl, hysl, hE2]; omega) fun v hv => hxs.one v (List.mem_of_mem_drop hv)
        rw [← hw] at hw2
        have h1 : (ROW.toList.take (i * t.sz) ++ ys ++ ROW.toList.drop (i * t.sz + ys.length)).take ((i + 1) * t.sz) = xs.take (i * t.sz) ++ ys := by
          rw [hRt, hE2, show i * t.sz + t.sz = (xs.take (i * t.sz) ++ ys).length by rw [List.length_append, htl]; omega, List.take_left]
        simp only [List.toList_toArray] at hw2
        rw [h1] at hw2
        refine newEnd G _ w' hG1 hG2 ?_ ?_ hw2.heap (fun b hb => (hw2.oth b (by omega)).trans ((hw1.oth b (by omega)).trans (Go.RowKit.Below.heap_alloc w _ b hb))) (hw2.os.trans hw1.os) (hw2.tape.trans hw1.tape) (hw2.output.trans hw1.output) ?_
        · rw [List.length_append, hLl]
          simp only [List.length_append, List.length_take, List.length_drop, hRl, hxl, hysl, hE2]
          omega
        · rw [← hLl, List.take_left]
        · rw [hw2.size]
          show w.heap.size ≤ ((w.alloc (.cells ROW te)).drew.setCells w.heap.size (i * t.sz) ys).heap.size
          rw [hw1.size]
          show w.heap.size ≤ (w.heap.push _).size
          simp

/-! ## slices.Delete -/
def F_del (te : TypeId) (t : Ev.Ty) : FnT := ⟨3, ⟨[(0, .own 1000000)], [(1, .i64), (2, .i64)], [(1000000, .arr te t)], []⟩, [.ref (.own 1000000)], [(1000000, .arr te t)]⟩
def delN {α : Type} : Int × Int × List α × Unit → Option (List α × Unit) := fun (i, j, l, _) =>
  bif decide (0 ≤ i) && decide (i < j) && Nat.ble j.toNat l.length then some (l.take i.toNat ++ l.drop j.toNat, ()) else none
def DelWalk (P : Program) (f : FuncId) (st te : TypeId) (e : Nat) : Prop :=
  ∀ (g cap n i j : Nat) (cs : List Value) (w : World), i < j → j ≤ n → n ≤ cap → cap ≤ 9223372036854775807 → cs.length = n * e →
    (∀ t v, cs[t]? = some v → w.cell? ⟨g, t, none⟩ = some v) → (∀ t, w.frozen? ⟨g, t, none⟩ = false) → (∀ v ∈ cs, v.oneCell' = true) → ∀ W2 : World,
    (∀ ty c, (Builtin.clear_ #[st] ty #[.slice (some ⟨g, (i + (n - j)) * e, none⟩) (n - (i + (n - j))) c]).run P (w.drew.setCells g (i * e) (cs.drop (j * e))) = .ok (.tuple #[]) W2) →
    Calls P f #[.slice (some ⟨g, 0, none⟩) n cap, .int .i64 i, .int .i64 j] w fun en w' => en = .returned (.slice (some ⟨g, 0, none⟩) (i + (n - j)) cap) ∧ w' = W2
theorem delN_of {st : TypeId} {z : Value} {t : Ev.Ty} (W : DelWalk P f st te t.sz) (hst : P.underlying st = some (.slice te)) (hz : ∀ w, (zeroValue te).run P w = .ok z w) (hzs : z.cells.size = t.sz) (hz1 : z.cells.toList.all (·.oneCell') = true) : Contract P f (F_del te t) delN := by
  rintro ⟨i, j, l, u0⟩ y hy
  unfold delN at hy
  dsimp only at hy
  cases hs : (decide (0 ≤ i) && decide (i < j) && Nat.ble j.toNat l.length) with
  | false => rw [hs] at hy; cases hy
  | true =>
  rw [hs] at hy
  cases hy
  simp only [Bool.and_eq_true, decide_eq_true_eq] at hs
  obtain ⟨⟨hi0, hij⟩, hjn⟩ := hs
  have hjn := Nat.le_of_ble_eq_true hjn
  obtain ⟨i, rfl⟩ : ∃ k : Nat, i = (k : Int) := ⟨Int.toNat i, (Int.toNat_of_nonneg hi0).symm⟩
  obtain ⟨j, rfl⟩ : ∃ k : Nat, j = (k : Int) := ⟨Int.toNat j, (Int.toNat_of_nonneg (Int.le_of_lt (Int.lt_of_le_of_lt hi0 hij))).symm⟩
  have hij : i < j := Int.ofNat_lt.1 hij
  have hjn : j ≤ l.length := hjn
  show ACalls P f _ _ _
  intro F ρ vs w hrw hob hra
  have hob : ∀ k, RelOb w F ρ k (lkO [(1000000, .na te t l)] k) := hob
  have hsz : vs.size = 3 := hra.sz
  have r0 : RelAV w F ρ #[] (.cell (.own 1000000)) (vs.getD 0 undef) := hra.rel 0 (by show 0 < 3; omega)
  have r1 : RelAV w F ρ #[] (.cell (.d (.sc (.int .i64 i)))) (vs.getD 1 undef) := hra.rel 1 (by show 1 < 3; omega)
  have r2 : RelAV w F ρ #[] (.cell (.d (.sc (.int .i64 j)))) (vs.getD 2 undef) := hra.rel 2 (by show 2 < 3; omega)
  obtain ⟨u, xs, hu, ho, hxs⟩ := RelOb.parts (k := 1000000) (hob 1000000)
  have e0 : vs.getD 0 undef = u := by cases r0 with | cell _ _ h => cases h with | own _ _ h => exact h u hu
  have e1 : vs.getD 1 undef = .int .i64 i := (scV_rel r1 (u := .int .i64 i) rfl).1
  have e2 : vs.getD 2 undef = .int .i64 j := (scV_rel r2 (u := .int .i64 j) rfl).1
  have evs : vs = #[u, .int .i64 i, .int .i64 j] := by
    apply Array.ext
    · simpa using hsz
    · intro q h1 h2
      have h3 : vs.getD q undef = vs[q] := by simp [Array.getD_eq_getD_getElem?, h1]
      rw [← h3]
      have h4 : q = 0 ∨ q = 1 ∨ q = 2 := by simp at h2; omega
      rcases h4 with rfl | rfl | rfl
      · exact e0
      · exact e1
      · exact e2
  subst evs
  clear e0 e1 e2 r0 r1 r2
  have hxl : xs.length = l.length * t.sz := ho.1
  have hpos := t.sz_pos
  rcases ho.2 with ⟨_, h0⟩ | ⟨g, cap, cur, rfl, _, hg, hncap, hcm, hcs, htake⟩
  · omega
  have hcell : ∀ q v, xs[q]? = some v → w.cell? ⟨g, q, none⟩ = some v := fun q v hq => by
    have h5 := ho.cells (g := g) rfl q v hq
    rwa [Addr.add_lit, Nat.zero_add] at h5
  have hfz : ∀ q, w.frozen? ⟨g, q, none⟩ = false := fun q => by simp [World.frozen?, hg]
  have hcurl : cur.toList.length = cap * t.sz := by simp [hcs]
  have hbnd : l.length * t.sz ≤ cap * t.sz := Nat.mul_le_mul_right _ hncap
  have hi1 : i * t.sz + t.sz ≤ j * t.sz := by rw [← Nat.succ_mul]; exact Nat.mul_le_mul_right _ hij
  have hj1 : j * t.sz ≤ l.length * t.sz := Nat.mul_le_mul_right _ hjn
  have hdl : (xs.drop (j * t.sz)).length = l.length * t.sz - j * t.sz := by rw [List.length_drop, hxl]
  have htk : cur.toList.take (l.length * t.sz) = xs := htake
  have hm : i + (l.length - j) < l.length := by omega
  have hm1 : (i + (l.length - j)) * t.sz = i * t.sz + (l.length * t.sz - j * t.sz) := by rw [Nat.add_mul, Nat.sub_mul]
  have hm2 : (l.length - (i + (l.length - j))) * t.sz = j * t.sz - i * t.sz := by rw [← Nat.sub_mul]; congr 1; omega
  -- the two writes
  have hw1 := Wrote.cells (w := w.drew) (o := i * t.sz) (xs.drop (j * t.sz)) hg (by rw [hdl]; omega) fun v hv => hxs.one v (List.mem_of_mem_drop hv)
  generalize hL : cur.toList.take (i * t.sz) ++ xs.drop (j * t.sz) ++ cur.toList.drop (i * t.sz + (xs.drop (j * t.sz)).length) = L at hw1
  have hLl : L.length = cap * t.sz := by
    rw [← hL]
    simp only [List.length_append, List.length_take, List.length_drop, hcurl, hdl, hxl]
    omega
  generalize hzc : (Builtin.zeroCells z.cells (l.length - (i + (l.length - j)))).toList = zc
  have hzl : zc.length = j * t.sz - i * t.sz := by
    rw [← hzc, ← hm2]
    simp [Builtin.zeroCells, hzs]
  have hzone : ∀ v ∈ zc, v.oneCell' = true := by
    intro v hv
    rw [← hzc] at hv
    simp only [Builtin.zeroCells, Array.toList_map, Array.toList_range, List.mem_map, List.mem_range] at hv
    obtain ⟨q, _, rfl⟩ := hv
    have hq : q % z.cells.size < z.cells.size := Nat.mod_lt _ (by omega)
    rw [getElem!_pos z.cells _ hq]
    exact List.all_eq_true.1 hz1 _ (by simp)
  have hw2 := Wrote.cells (o := (i + (l.length - j)) * t.sz) zc hw1.heap (by simp only [List.size_toArray, hLl, hzl, hm1]; omega) hzone
  have hst2 := run_storeCells_cells (P := P) g ((i + (l.length - j)) * t.sz) zc 0 (w.drew.setCells g (i * t.sz) (xs.drop (j * t.sz))) (fun q hq => by rw [hzl] at hq; simp [World.cell?, hw1.heap, hLl, hm1]; omega) (fun q hq => by simp [World.frozen?, hw1.heap]) hzone
  have hclr : ∀ ty c, (Builtin.clear_ #[st] ty #[.slice (some ⟨g, (i + (l.length - j)) * t.sz, none⟩) (l.length - (i + (l.length - j))) c]).run P (w.drew.setCells g (i * t.sz) (xs.drop (j * t.sz))) =
      .ok (.tuple #[]) ((w.drew.setCells g (i * t.sz) (xs.drop (j * t.sz))).setCells g ((i + (l.length - j)) * t.sz) zc) := fun ty c => by
    obtain ⟨m, hm3⟩ : ∃ m, l.length - (i + (l.length - j)) = m + 1 := ⟨l.length - (i + (l.length - j)) - 1, by omega⟩
    rw [hm3] at hzc ⊢
    simp only [Nat.add_zero] at hst2
    simp [Builtin.clear_, run_underlying hst, hz, hzc, hst2]
  refine (W g cap l.length i j xs w hij hjn hncap (by unfold maxLen at hcm; omega) hxl hcell hfz hxs.one _ hclr).mono fun en w' ⟨he, hw⟩ => ?_
  subst he
  rw [← hw] at hw2
  have hlen' : (l.take i ++ l.drop j).length = i + (l.length - j) := by simp; omega
  have hLD : LD w F (flat t (l.take i ++ l.drop j)) (xs.take (i * t.sz) ++ xs.drop (j * t.sz)) := by
    rw [flat_append, ← flat_take, ← flat_drop]
    exact (hxs.take _).append (hxs.drop _)
  have hxn : (xs.take (i * t.sz) ++ xs.drop (j * t.sz)).length = (i + (l.length - j)) * t.sz := by
    rw [hLD.1, flat_length, hlen']
  refine own_end (xs' := xs.take (i * t.sz) ++ xs.drop (j * t.sz)) (l' := l.take i ++ l.drop j) (ob := [(1000000, .na te t l)]) (ob' := [(1000000, .na te t (l.take i ++ l.drop j))]) (u' := .slice (some ⟨g, 0, none⟩) (i + (l.length - j)) cap) hrw hob rfl ?_ ?_ hu
    ⟨by rw [hxn, hlen'], .inr ⟨g, cap, _, by rw [hlen'], Nat.zero_le _, hw2.heap, by rw [hlen']; omega, hcm, ?_, ?_⟩⟩ hLD.2 (hw2.os.trans hw1.os) (hw2.tape.trans hw1.tape) (hw2.output.trans hw1.output) (Nat.le_of_eq (hw2.size.trans hw1.size).symm)
    (fun b hb h => (hw2.oth b fun e => h (by rw [e]; rfl)).trans (hw1.oth b fun e => h (by rw [e]; rfl))) fun b hb => .inl hb
  · intro k hk
    have : Nat.beq k 1000000 = false := by cases hb : Nat.beq k 1000000 with | false => rfl | true => exact absurd (Nat.eq_of_beq_eq_true hb) hk
    simp [lkO, this]
  · intro k hk
    have : Nat.beq k 1000000 = false := by cases hb : Nat.beq k 1000000 with | false => rfl | true => exact absurd (Nat.eq_of_beq_eq_true hb) hk
    exact .inl (by simp [lkO, this])
  · simp only [List.size_toArray, List.length_append, List.length_take, List.length_drop, hLl, hzl, hm1]
    omega
  · rw [hlen']
    have h1 : L.take ((i + (l.length - j)) * t.sz) = xs.take (i * t.sz) ++ xs.drop (j * t.sz) := by
      rw [← hL, ← hxn]
      have h2 : cur.toList.take (i * t.sz) = xs.take (i * t.sz) := by rw [← htk, List.take_take, Nat.min_eq_left (by omega)]
      rw [h2, List.take_left]
    simp only [List.toList_toArray]
    rw [List.append_assoc, h1, ← hxn, List.take_left]
end
end Esp

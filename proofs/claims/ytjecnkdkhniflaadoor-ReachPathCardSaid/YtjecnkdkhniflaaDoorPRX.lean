/- Several texts in one (merge.py). -/
import Derived.Test.YtjecnkdkhniflaaDoorPNext
import Derived.Test.YtjecnkdkhniflaaDoorPRange
import Derived.Test.YtjecnkdkhniflaaDoorEvRng
import Derived.Test.YtjecnkdkhniflaaDoorEvRise2
import Derived.Test.YtjecnkdkhniflaaDoorPA
import Derived.KernelRfl
import Derived.Test.YtjecnkdkhniflaaDoorEvSortL

/- Plain: what is reached by steps; sets of pairs as maps to true. -/
namespace Pure
open Esp Ev Go
set_option linter.unusedSimpArgs false
set_option linter.unusedVariables false
set_option linter.unusedSimpArgs false
set_option linter.unusedVariables false
inductive W (R : Int → Int → Prop) (V : Int → Prop) : Int → Int → Prop
  | one {a b : Int} : R a b → W R V a b
  | two {a c b : Int} : W R V a c → V c → W R V c b → W R V a b
def Rc (R : Int → Int → Prop) : Int → Int → Prop := W R fun _ => True
theorem W.mono {R : Int → Int → Prop} {V U : Int → Prop} (h : ∀ x, V x → U x) {a b : Int} (w : W R V a b) : W R U a b := by
  induction w with
  | one h => exact .one h
  | two _ hc _ i j => exact .two i (h _ hc) j
theorem W.rel {R S : Int → Int → Prop} {V : Int → Prop} (h : ∀ a b, R a b → S a b) {a b : Int} (w : W R V a b) : W S V a b := by
  induction w with
  | one hh => exact .one (h _ _ hh)
  | two _ hc _ i j => exact .two i hc j
theorem Rc.one {R : Int → Int → Prop} {a b : Int} (h : R a b) : Rc R a b := W.one h
theorem Rc.trans {R : Int → Int → Prop} {a c b : Int} (h : Rc R a c) (h' : Rc R c b) : Rc R a b := W.two h trivial h'
theorem W.src {R : Int → Int → Prop} {V : Int → Prop} {a b : Int} (w : W R V a b) : ∃ c, R a c := by
  induction w with
  | one h => exact ⟨_, h⟩
  | two _ _ _ i _ => exact i
theorem W.dst {R : Int → Int → Prop} {V : Int → Prop} {a b : Int} (w : W R V a b) : ∃ c, R c b := by
  induction w with
  | one h => exact ⟨_, h⟩
  | two _ _ _ _ j => exact j
theorem W.more {R : Int → Int → Prop} {V : Int → Prop} {v a b : Int} (w : W R (fun x => V x ∨ x = v) a b) : W R V a b ∨ (W R V a v ∧ W R V v b) := by
  induction w with
  | one h => exact .inl (.one h)
  | two _ hc _ i j =>
    rcases hc with hc | rfl
    · rcases i with i | ⟨i1, i2⟩ <;> rcases j with j | ⟨j1, j2⟩
      · exact .inl (.two i hc j)
      · exact .inr ⟨.two i hc j1, j2⟩
      · exact .inr ⟨i1, .two i2 hc j⟩
      · exact .inr ⟨i1, j2⟩
    · exact .inr ⟨(by rcases i with i | ⟨i1, _⟩; exact i; exact i1), (by rcases j with j | ⟨_, j2⟩; exact j; exact j2)⟩
theorem Rc.close {R : Int → Int → Prop} {a b : Int} (S : Int → Prop) (h1 : ∀ t, R a t → S t) (h2 : ∀ t u, S t → R t u → S u) (w : Rc R a b) : S b := by
  have key : ∀ {c d : Int}, W R (fun _ => True) c d → (S c ∨ c = a) → S d := by
    intro c d w
    induction w with
    | one h => rintro (hs | rfl); exact h2 _ _ hs h; exact h1 _ h
    | two _ _ _ i j => intro hs; exact j (.inl (i hs))
  exact key w (.inr rfl)

/-! ## sets of pairs -/
instance : DecidableEq Ev.Pair := fun a b => decidable_of_iff (a.p = b.p ∧ a.q = b.q) (by cases a; cases b; simp)
theorem keyEq_pair (a b : Ev.Pair) : keyEq .pair a b = decide (a = b) := by
  show (a.p == b.p && a.q == b.q) = _
  cases a; cases b
  rw [Bool.eq_iff_iff]
  simp
def tr (ks : List Ev.Pair) : List (Ev.Pair × Bool) := ks.map fun k => (k, true)
def ins (ks : List Ev.Pair) (k : Ev.Pair) : List Ev.Pair := if k ∈ ks then ks else ks ++ [k]
theorem mem_ins {ks : List Ev.Pair} {k x : Ev.Pair} : x ∈ ins ks k ↔ x ∈ ks ∨ x = k := by
  unfold ins
  split
  · constructor
    · exact .inl
    · rintro (h | rfl); exact h; assumption
  · simp
theorem ins_nodup {ks : List Ev.Pair} (h : ks.Nodup) (k : Ev.Pair) : (ins ks k).Nodup := by
  unfold ins
  split
  · exact h
  · rename_i hk
    rw [List.nodup_append]
    refine ⟨h, by simp, fun a ha b hb => ?_⟩
    simp at hb
    subst hb
    intro e
    subst e
    exact hk ha
theorem get_tr (ks : List Ev.Pair) (k : Ev.Pair) : mpGet .pair .bool false (tr ks) k = decide (k ∈ ks) := by
  induction ks with
  | nil => rfl
  | cons a r ih =>
    show (bif keyEq .pair k a then true else mpGet .pair .bool false (tr r) k) = _
    rw [keyEq_pair, ih]
    by_cases h : k = a
    · simp [h]
    · simp [h]
theorem put_tr (ks : List Ev.Pair) (k : Ev.Pair) : mpPut .pair .bool (tr ks) k true = tr (ins ks k) := by
  induction ks with
  | nil => rfl
  | cons a r ih =>
    show (bif keyEq .pair k a then (k, true) :: tr r else (a, true) :: mpPut .pair .bool (tr r) k true) = _
    rw [keyEq_pair, ih]
    by_cases h : k = a
    · subst h; simp [ins, tr]
    · rw [decide_eq_false h, cond_false]
      unfold ins
      by_cases h2 : k ∈ r
      · simp [h2, tr]
      · simp [h2, h, tr]
theorem tr_erase (ks : List Ev.Pair) (i : Nat) : (tr ks).eraseIdx i = tr (ks.eraseIdx i) := by
  induction ks generalizing i with
  | nil => rfl
  | cons a r ih =>
    cases i with
    | zero => rfl
    | succ i => show (a, true) :: (tr r).eraseIdx i = _; rw [ih]; rfl
theorem tr_get (ks : List Ev.Pair) (i : Nat) (h : i < (tr ks).length) : (tr ks)[i] = (ks[i]'(by simpa [tr] using h), true) := by simp [tr]
theorem perm_of {l m : List Ev.Pair} (hl : l.Nodup) (hm : m.Nodup) (h : ∀ x, x ∈ l ↔ x ∈ m) : l.Perm m := by
  induction l generalizing m with
  | nil =>
    cases m with
    | nil => exact .refl _
    | cons a r => exact absurd ((h a).2 (by simp)) (by simp)
  | cons a r ih =>
    have ha : a ∈ m := (h a).1 (by simp)
    refine .trans (.cons a (ih (m := m.erase a) (List.nodup_cons.1 hl).2 (hm.erase a) fun x => ?_)) (List.perm_cons_erase ha).symm
    rw [hm.mem_erase_iff, ← h]
    constructor
    · intro hx
      exact ⟨fun e => (List.nodup_cons.1 hl).1 (e ▸ hx), by simp [hx]⟩
    · rintro ⟨h1, h2⟩
      rcases List.mem_cons.1 h2 with e | h2
      · exact absurd e h1
      · exact h2
theorem len_of {l m : List Ev.Pair} (hl : l.Nodup) (h : ∀ x ∈ l, x ∈ m) : l.length ≤ m.length := by
  induction l generalizing m with
  | nil => simp
  | cons a r ih =>
    have ha : a ∈ m := h a (by simp)
    have h1 := ih (m := m.erase a) (List.nodup_cons.1 hl).2 fun x hx => (List.mem_erase_of_ne fun e : x = a => (List.nodup_cons.1 hl).1 (e ▸ hx)).2 (h x (by simp [hx]))
    rw [List.length_erase_of_mem ha] at h1
    have : 0 < m.length := List.length_pos_of_mem ha
    simp; omega
def prod (ns : List Int) : List Ev.Pair := ns.flatMap fun a => ns.map fun b => Ev.Pair.mk a b
theorem mem_prod {ns : List Int} {x : Ev.Pair} : x ∈ prod ns ↔ x.p ∈ ns ∧ x.q ∈ ns := by
  unfold prod
  simp only [List.mem_flatMap, List.mem_map]
  constructor
  · rintro ⟨a, ha, b, hb, rfl⟩; exact ⟨ha, hb⟩
  · rintro ⟨h1, h2⟩; exact ⟨x.p, h1, x.q, h2, rfl⟩
theorem prod_length (ns : List Int) : (prod ns).length = ns.length * ns.length := by
  unfold prod
  have : ∀ (ms : List Int), (ms.flatMap fun a => ns.map fun b => Ev.Pair.mk a b).length = ms.length * ns.length := by
    intro ms
    induction ms with
    | nil => simp
    | cons a r ih => simp only [List.flatMap_cons, List.length_append, ih, List.length_map, List.length_cons, Nat.succ_mul]; omega
  exact this ns
theorem prod_le {ks : List Ev.Pair} {ns : List Int} (hn : ks.Nodup) (h : ∀ x ∈ ks, x.p ∈ ns ∧ x.q ∈ ns) (h40 : ns.length ≤ 40) : ks.length ≤ 1600 := by
  have h1 := len_of hn (m := prod ns) fun x hx => mem_prod.2 (h x hx)
  rw [prod_length] at h1
  have := Nat.mul_le_mul h40 h40
  omega

/-! ## steps in a graph -/
def kd (kind : ByteArray) (x : Ev.Edg) : Bool := seq kind ⟨#[]⟩ || seq x.type kind
def stp (kind : ByteArray) (l : List Ev.Edg) (a b : Int) : Prop := ∃ x ∈ l, kd kind x = true ∧ x.src = a ∧ x.dst = b
theorem next_mem (kind : ByteArray) (l : List Ev.Edg) (s t : Int) : t ∈ mpGet .i64 (.lst .i64) [] (nextL kind l) s ↔ stp kind l s t := by
  have h : ∀ (l : List Ev.Edg) (m : List (Int × List Int)), t ∈ mpGet .i64 (.lst .i64) [] (l.foldl (nextStep kind) m) s ↔ t ∈ mpGet .i64 (.lst .i64) [] m s ∨ stp kind l s t := by
    intro l
    induction l with
    | nil => intro m; simp [stp]
    | cons x r ih =>
      intro m
      rw [List.foldl_cons, ih]
      have e : stp kind (x :: r) s t ↔ (kd kind x = true ∧ x.src = s ∧ x.dst = t) ∨ stp kind r s t := by
        unfold stp; simp
      rw [e, ← or_assoc]
      refine or_congr ?_ Iff.rfl
      unfold nextStep
      cases hb : (seq kind ⟨#[]⟩ || seq x.type kind) with
      | false =>
        have : kd kind x = false := hb
        simp [this]
      | true =>
        have hk : kd kind x = true := hb
        rw [cond_true, mpGet_put]
        split
        · rename_i hs
          rw [← hs]
          simp [hk, eq_comm]
        · rename_i hs
          simp [hk, Ne.symm hs]
  have := h l []
  simpa [nextL, mpGet] using this

/-! ## the sorts -/
theorem room16 {n : Nat} (h : n ≤ 1000000) : room n 16 = true := by
  unfold room
  rw [Bool.and_eq_true]
  exact ⟨Nat.ble_eq_true_of_le (by omega), Nat.ble_eq_true_of_le (by omega)⟩
theorem room8 {n : Nat} (h : n ≤ 1000000) : room n 8 = true := by
  unfold room
  rw [Bool.and_eq_true]
  exact ⟨Nat.ble_eq_true_of_le (by omega), Nat.ble_eq_true_of_le (by omega)⟩
theorem sfPair_some (l : List Ev.Pair) (h : l.length ≤ 1000000) : sfPair (l, ()) = some (sortL ltP l, ()) := by
  unfold sfPair sfL
  dsimp only
  rw [Nat.ble_eq_true_of_le (by omega), cond_true]
theorem Pair.eta (x : Ev.Pair) : Ev.Pair.mk x.p x.q = x := rfl
theorem rng_tr {ρ : Type} (ks : List Ev.Pair) (k0 : Option ρ) (f : Ev.Pair × Bool → List (Ev.Pair × Bool) → Option ρ) (r : ρ) (h0 : ks = [] → k0 = some r) (h : ∀ i (hi : i < ks.length), f (ks[i], true) (tr (ks.eraseIdx i)) = some r) : rngM (tr ks) k0 f = some r := by
  refine rngM_some (fun e => h0 (by simpa [tr] using e)) fun i hi => ?_
  rw [tr_get, tr_erase]
  exact h i (by simpa [tr] using hi)
theorem erase_perm {α : Type} (l : List α) (i : Nat) (hi : i < l.length) : (l[i] :: l.eraseIdx i).Perm l := by
  induction l generalizing i with
  | nil => exact absurd hi (Nat.not_lt_zero _)
  | cons a r ih =>
    cases i with
    | zero => exact .refl _
    | succ i => exact (List.Perm.swap _ _ _).trans (.cons a (ih i (by simpa using hi)))
end Pure


/- Plain: reach.Set, sorted, plain, Pairs, slices.Equal. No program. -/
namespace Pure
open Esp Ev Go
set_option linter.unusedSimpArgs false
set_option linter.unusedVariables false
set_option linter.unusedSimpArgs false
set_option linter.unusedVariables false
theorem sorted_loop (n : Nat) : ∀ (fuel : Nat) (acc ks : List Ev.Pair), ks.length < fuel → acc.length + ks.length ≤ 1000000 →
    iterN (fun rc8 => q20z_s0 n rc8 (fun (o6, _) => (sfPair (o6, ())).bind fun (o7, _) => some (o7, ())) (fun (_) => none)) fuel (acc, tr ks, ()) = some (sortL ltP (acc ++ ks), ()) := by
  intro fuel
  induction fuel with
  | zero => intro acc ks h _; exact absurd h (Nat.not_lt_zero _)
  | succ f ih =>
    intro acc ks hf hl
    rw [iterN]
    unfold q20z_s0
    dsimp only
    refine rng_tr ks _ _ _ (fun e => ?_) fun i hi => ?_
    · subst e
      rw [sfPair_some acc (by omega), List.append_nil]
      rfl
    · dsimp only
      have hlen := (erase_perm ks i hi).length_eq
      rw [List.length_cons] at hlen
      rw [Pair.eta, ck_ok (room16 (by simp; omega))]
      refine (ih _ _ (by omega) (by simp; omega)).trans ?_
      rw [sortL_eq ltP_ok (l := (acc ++ [ks[i]]) ++ ks.eraseIdx i) (m := acc ++ ks) (by rw [List.append_assoc]; exact (erase_perm ks i hi).append_left acc)]
theorem sorted_ok (n : Nat) (ks : List Ev.Pair) (h : ks.length ≤ 1000000) (hn : ks.length < n) : q20z n (tr ks, ()) = some (sortL ltP ks, ()) :=
  sorted_loop n n [] ks hn (by simpa using h)
theorem plain_ok (n : Nat) (l : List Ev.Pair) (h : l.length ≤ 1000000) (hn : l.length < n) : q23z n (l, ()) = some (l, ()) := by
  unfold q23z
  dsimp only
  rw [R_q23z_s0 n _ _ l n [] (by omega) hn]
  have key : ∀ (r p : List Ev.Pair) (i : Int), p.length + r.length ≤ 1000000 → foldK (F_q23z_s0 n (fun (_) => none)) (fun (o5, _) => some (o5, ())) i r (p, ()) = some (p ++ r, ()) := by
    intro r
    induction r with
    | nil => intro p i _; simp [foldK]
    | cons x r ih =>
      intro p i hl
      rw [List.length_cons] at hl
      rw [foldK]
      unfold F_q23z_s0
      dsimp only
      rw [Pair.eta, ck_ok (room16 (by simp; omega))]
      refine (ih (p ++ [x]) (i + 1) (by simp; omega)).trans ?_
      simp
  exact key l [] 0 (by simpa using h)
theorem equalP_ok (l : List Ev.Pair) (n : Nat) (h : l.length ≤ 1000000) (hn : l.length < n) : q2z n (l, l, ()) = some (true, ()) := by
  unfold q2z
  dsimp only
  rw [show ((l.length : Int) != (l.length : Int)) = false from by simp, cond_false]
  rw [R_q2z_s0 n _ _ l n l (by omega) hn]
  have key : ∀ (r p : List Ev.Pair), l = p ++ r → foldK (F_q2z_s0 n (fun (v11, _) => some (v11, ()))) (fun (v4, _) => some (true, ())) (p.length : Int) r (l, ()) = some (true, ()) := by
    intro r
    induction r with
    | nil => intro p _; rfl
    | cons x r ih =>
      intro p hp
      have e1 : ((p.length : Int) + 1) = ((p ++ [x]).length : Int) := by simp
      have e2 : ix l (p.length : Int) = some x := ix_ok (by rw [hp]; simp)
      rw [foldK, e1]
      unfold F_q2z_s0
      dsimp only
      rw [e2, Option.bind_some, keyEq_pair, decide_eq_true rfl]
      exact ih (p ++ [x]) (by simp [hp])
  exact key l [] rfl
theorem pop_ix {α : Type} (p : List α) (e : α) (h : p.length ≤ 1000000) : ix (p ++ [e]) (IntKind.wrap .i64 (((p ++ [e]).length : Int) - 1)) = some e := by
  rw [wrap64 (by simp) (by simp; omega), show (((p ++ [e]).length : Int) - 1) = (p.length : Int) by simp]
  exact ix_ok (by simp)
theorem pop_get {α : Type} (p : List α) (e : α) (h : p.length ≤ 1000000) : (p ++ [e])[(IntKind.wrap .i64 (((p ++ [e]).length : Int) - 1) : Int).toNat]? = some e := by
  rw [wrap64 (by simp) (by simp; omega), show ((((p ++ [e]).length : Int) - 1)).toNat = p.length by simp]
  simp
theorem pop_cut {α : Type} (p : List α) (e : α) (h : p.length ≤ 1000000) : cut? (p ++ [e]) (IntKind.wrap .i64 (((p ++ [e]).length : Int) - 1)) = some p := by
  rw [wrap64 (by simp) (by simp; omega), show (((p ++ [e]).length : Int) - 1) = (p.length : Int) by simp]
  unfold cut?
  rw [if_pos (by simp; omega)]
  simp
/-! ## what is reached -/
def idsN (g : Graph) : List Int := g.nodes.map Ev.Node.id
structure Ends (R : Int → Int → Prop) (ns : List Int) : Prop where
  s : ∀ a b, R a b → a ∈ ns
  d : ∀ a b, R a b → b ∈ ns
theorem Ends.p {R : Int → Int → Prop} {ns : List Int} (h : Ends R ns) {a b : Int} (w : Rc R a b) : a ∈ ns := by
  obtain ⟨c, hc⟩ := W.src w; exact h.s _ _ hc
theorem Ends.q {R : Int → Int → Prop} {ns : List Int} (h : Ends R ns) {a b : Int} (w : Rc R a b) : b ∈ ns := by
  obtain ⟨c, hc⟩ := W.dst w; exact h.d _ _ hc
theorem node_in {l : List Ev.Node} {t : Int} (h : (nodeIn l t).isNone = false) : t ∈ l.map Ev.Node.id := by
  cases hx : nodeIn l t with
  | none => rw [hx] at h; cases h
  | some x =>
    have h1 := List.mem_of_find?_eq_some hx
    have h2 := List.find?_some hx
    exact List.mem_map.2 ⟨x, h1, by simpa using h2⟩
theorem ends_of {g : Graph} (hc : chkG g = 0) (kind : ByteArray) : Ends (stp kind g.edges) (idsN g) := by
  obtain ⟨_, _, _, h4⟩ := chkG_0 hc
  refine ⟨?_, ?_⟩
  · rintro a b ⟨x, hx, _, rfl, _⟩
    exact node_in (edgF_0 h4 x hx).2.2.1
  · rintro a b ⟨x, hx, _, _, rfl⟩
    exact node_in (edgF_0 h4 x hx).2.2.2
theorem ids_len {g : Graph} (hc : chkG g = 0) : (idsN g).length ≤ 40 := by
  obtain ⟨h, _⟩ := chkG_0 hc
  unfold idsN; simpa using h
theorem set_s2 (n : Nat) (g : Graph) (kind : ByteArray) (hE : Ends (stp kind g.edges) (idsN g)) (hN : (idsN g).length ≤ 40) (he : g.edges.length ≤ 60) {ρ : Type} (kx : (List (Int × (List Int))) × (List Ev.Node) × Int × Int × (List (Ev.Pair × Bool)) × Unit → Option ρ) (v12 : List Ev.Node) (v13 v14 : Int) (x : Ev.Node) (ks0 : List Ev.Pair) :
    ∀ (fuel : Nat) (ks : List Ev.Pair) (td : List Int), ks.Nodup → (∀ k ∈ ks, Rc (stp kind g.edges) k.p k.q) → (∀ k ∈ ks, k ∈ ks0 ∨ (k.p = x.id ∧ Rc (stp kind g.edges) x.id k.q)) → (∀ k ∈ ks0, k ∈ ks) →
      (∀ t ∈ td, Rc (stp kind g.edges) x.id t) → (∀ t, stp kind g.edges x.id t → t ∈ td ∨ Ev.Pair.mk x.id t ∈ ks) → (∀ t, Ev.Pair.mk x.id t ∈ ks → ∀ u, stp kind g.edges t u → u ∈ td ∨ Ev.Pair.mk x.id u ∈ ks) →
      td.length + 61 * (1600 - ks.length) < fuel → td.length + 61 * (1600 - ks.length) ≤ 100000 →
      ∃ ks' : List Ev.Pair, ks'.Nodup ∧ (∀ k, k ∈ ks' ↔ k ∈ ks0 ∨ (k.p = x.id ∧ Rc (stp kind g.edges) x.id k.q)) ∧
        iterN (fun rc25 => reach_Set_s2 n rc25 kx (fun (_) => none)) fuel (nextL kind g.edges, v12, v13, v14, (x, ()), tr ks, td, ()) = kx (nextL kind g.edges, v12, v13, v14, tr ks', ()) := by
  intro fuel
  induction fuel with
  | zero => intro ks td _ _ _ _ _ _ _ h _; exact absurd h (Nat.not_lt_zero _)
  | succ f ih =>
    intro ks td hnd hs h0 h00 htd hfi hcl hf hM
    rw [iterN]
    unfold reach_Set_s2
    dsimp only
    rcases List.eq_nil_or_concat td with rfl | ⟨p, e, rfl⟩
    · refine ⟨ks, hnd, fun k => ⟨h0 k, ?_⟩, rfl⟩
      rintro (h | ⟨h1, h2⟩)
      · exact h00 k h
      · have h3 : Ev.Pair.mk x.id k.q ∈ ks := Rc.close (fun t => Ev.Pair.mk x.id t ∈ ks) (fun t ht => (hfi t ht).resolve_left (by simp)) (fun t u ht hu => (hcl t ht u hu).resolve_left (by simp)) h2
        rw [← h1] at h3
        exact h3
    · rw [List.concat_eq_append] at *
      have hpl : p.length ≤ 1000000 := by simp at hM; omega
      rw [pop_ix p e hpl, pop_get p e hpl, pop_cut p e hpl, show decide (((p ++ [e]).length : Int) > 0) = true by rw [decide_eq_true_iff]; simp, cond_true, Option.bind_some, Option.bind_some, Option.bind_some, get_tr]
      have hre := htd e (by simp)
      by_cases hm : Ev.Pair.mk x.id e ∈ ks
      · rw [decide_eq_true hm]
        refine ih ks p hnd hs h0 h00 (fun t ht => htd t (by simp [ht])) (fun t ht => ?_) (fun t ht u hu => ?_) (by simp at hf; omega) (by simp at hM; omega)
        · rcases hfi t ht with h | h
          · simp at h
            rcases h with h | rfl
            · exact .inl h
            · exact .inr hm
          · exact .inr h
        · rcases hcl t ht u hu with h | h
          · simp at h
            rcases h with h | rfl
            · exact .inl h
            · exact .inr hm
          · exact .inr h
      · rw [decide_eq_false hm]
        have hnl := Nat.le_trans (nextL_len kind e g.edges) he
        have hs' : ∀ k ∈ ins ks ⟨x.id, e⟩, Rc (stp kind g.edges) k.p k.q := fun k hk => by
          rcases mem_ins.1 hk with h | rfl
          · exact hs k h
          · exact hre
        have hnd' := ins_nodup hnd ⟨x.id, e⟩
        have hle := prod_le hnd' (fun k hk => ⟨hE.p (hs' k hk), hE.q (hs' k hk)⟩) hN
        have hlen : (ins ks ⟨x.id, e⟩).length = ks.length + 1 := by unfold ins; rw [if_neg hm]; simp
        rw [Bool.not_false, cond_true, ck_ok (room8 (by simp at hM ⊢; omega)), put_tr]
        refine ih _ _ hnd' hs' (fun k hk => ?_) (fun k hk => mem_ins.2 (.inl (h00 k hk))) (fun t ht => ?_) (fun t ht => ?_) (fun t ht u hu => ?_) (by simp at hf ⊢; omega) (by simp at hM ⊢; omega)
        · rcases mem_ins.1 hk with h | rfl
          · exact h0 k h
          · exact .inr ⟨rfl, hre⟩
        · rcases List.mem_append.1 ht with h | h
          · exact htd t (by simp [h])
          · exact hre.trans (.one ((next_mem kind g.edges e t).1 h))
        · rcases hfi t ht with h | h
          · simp at h
            rcases h with h | rfl
            · exact .inl (by simp [h])
            · exact .inr (mem_ins.2 (.inr rfl))
          · exact .inr (mem_ins.2 (.inl h))
        · rcases mem_ins.1 ht with h | h
          · rcases hcl t h u hu with h | h
            · simp at h
              rcases h with h | rfl
              · exact .inl (by simp [h])
              · exact .inr (mem_ins.2 (.inr rfl))
            · exact .inr (mem_ins.2 (.inl h))
          · have : t = e := by injection h
            subst this
            exact .inl (List.mem_append.2 (.inr ((next_mem kind g.edges t u).2 hu)))
theorem set_clone (l : List Int) (h : l.length ≤ 1000) : q1z (l, ()) = some (l, ()) := by
  unfold q1z nilq
  dsimp only
  rw [List.nil_append, ck_ok (room_ok (by omega) (by omega))]
  cases l with
  | nil => exact dem2_same _
  | cons a r => rfl
theorem Node.eta (x : Ev.Node) : Ev.Node.mk x.id x.labels x.props = x := rfl
theorem set_ok (n : Nat) (hn : 100100 ≤ n) (g : Graph) (kind : ByteArray) (hc : chkG g = 0) :
    ∃ ks : List Ev.Pair, ks.Nodup ∧ (∀ k, k ∈ ks ↔ Rc (stp kind g.edges) k.p k.q) ∧ ks.length ≤ 1600 ∧ reach_Set n (g, kind, ()) = some (tr ks, ()) := by
  have hE := ends_of hc kind
  have hN := ids_len hc
  obtain ⟨h40, h60, _, _⟩ := chkG_0 hc
  have key : ∀ (r p : List Ev.Node) (ks : List Ev.Pair) (fuel : Nat), g.nodes = p ++ r → r.length < fuel → ks.Nodup → (∀ k, k ∈ ks ↔ k.p ∈ p.map Ev.Node.id ∧ Rc (stp kind g.edges) k.p k.q) →
      ∃ ks' : List Ev.Pair, ks'.Nodup ∧ (∀ k, k ∈ ks' ↔ Rc (stp kind g.edges) k.p k.q) ∧
        iterN (fun rc27 => reach_Set_s0 n rc27 (fun (o26, _) => some (o26, ())) (fun (_) => none)) fuel (nextL kind g.edges, g.nodes, (g.nodes.length : Int), (p.length : Int), tr ks, ()) = some (tr ks', ()) := by
    intro r
    induction r with
    | nil =>
      intro p ks fuel hp hf hnd hk
      obtain ⟨f, rfl⟩ : ∃ f, fuel = f + 1 := ⟨fuel - 1, by omega⟩
      refine ⟨ks, hnd, fun k => ⟨fun h => ((hk k).1 h).2, fun h => (hk k).2 ⟨?_, h⟩⟩, ?_⟩
      · have := hE.p h
        unfold idsN at this
        rwa [hp, List.append_nil] at this
      · rw [iterN]
        unfold reach_Set_s0
        dsimp only
        rw [show decide ((p.length : Int) < (g.nodes.length : Int)) = false by rw [hp]; simp, cond_false]
    | cons x r ih =>
      intro p ks fuel hp hf hnd hk
      obtain ⟨f, rfl⟩ : ∃ f, fuel = f + 1 := ⟨fuel - 1, by omega⟩
      have hll : g.nodes.length = p.length + (r.length + 1) := by rw [hp]; simp
      have hnl := Nat.le_trans (nextL_len kind x.id g.edges) h60
      rw [iterN]
      unfold reach_Set_s0
      dsimp only
      rw [show decide ((p.length : Int) < (g.nodes.length : Int)) = true by rw [decide_eq_true_iff]; omega, cond_true, ix_ok (x := x) (by rw [hp]; simp), Option.bind_some, set_clone _ (by omega), Option.bind_some]
      dsimp only
      rw [Node.eta]
      have hs : ∀ k ∈ ks, Rc (stp kind g.edges) k.p k.q := fun k h => ((hk k).1 h).2
      have hle := prod_le hnd (fun k h => ⟨hE.p (hs k h), hE.q (hs k h)⟩) hN
      obtain ⟨ks1, n1, m1, e1⟩ := set_s2 n g kind hE hN h60 (fun (v20, v21, v22, v23, o24, _) => iterN (fun rc27 => reach_Set_s0 n rc27 (fun (o26, _) => some (o26, ())) (fun (_) => none)) f (v20, v21, v22, IntKind.wrap .i64 (v23 + 1), o24, ())) g.nodes (g.nodes.length : Int) (p.length : Int) x ks n ks
        (mpGet .i64 (.lst .i64) [] (nextL kind g.edges) x.id) hnd hs (fun k h => .inl h) (fun k h => h) (fun t h => .one ((next_mem kind g.edges x.id t).1 h)) (fun t h => .inl ((next_mem kind g.edges x.id t).2 h))
        (fun t h u hu => .inr ((hk _).2 ⟨((hk _).1 h).1, ((hk _).1 h).2.trans (.one hu)⟩)) (by omega) (by omega)
      obtain ⟨ks2, n2, m2, e2⟩ := ih (p ++ [x]) ks1 f (by simp [hp]) (by simp at hf; omega) n1 fun k => by
        rw [m1, hk]
        simp only [List.map_append, List.map_cons, List.map_nil, List.mem_append, List.mem_singleton]
        constructor
        · rintro (⟨h1, h2⟩ | ⟨h1, h2⟩)
          · exact ⟨.inl h1, h2⟩
          · exact ⟨.inr h1, by rw [h1]; exact h2⟩
        · rintro ⟨h1 | h1, h2⟩
          · exact .inl ⟨h1, h2⟩
          · exact .inr ⟨h1, by rw [← h1]; exact h2⟩
      refine ⟨ks2, n2, m2, e1.trans ?_⟩
      dsimp only
      rw [wrap64 (by omega) (by omega), show (p.length : Int) + 1 = ((p ++ [x]).length : Int) by simp]
      exact e2
  obtain ⟨ks, k1, k2, k3⟩ := key g.nodes [] [] n rfl (by omega) (by simp) (by simp)
  refine ⟨ks, k1, k2, prod_le k1 (fun k h => ⟨hE.p ((k2 k).1 h), hE.q ((k2 k).1 h)⟩) hN, ?_⟩
  unfold reach_Set nextN
  dsimp only
  rw [Nat.ble_eq_true_of_le (by show g.edges.length ≤ 1000000; omega), cond_true, Option.bind_some]
  exact k3
end Pure


/- Plain: the document's Reached. No program. -/
namespace Pure
open Esp Ev Go
set_option linter.unusedSimpArgs false
set_option linter.unusedVariables false
set_option linter.unusedSimpArgs false
set_option linter.unusedVariables false
abbrev sound (R : Int → Int → Prop) (ks : List Ev.Pair) : Prop := ks.Nodup ∧ ∀ k ∈ ks, Rc R k.p k.q
theorem reached_s0 (n : Nat) (g : Graph) (kind : ByteArray) {ρ : Type} (K : ByteArray × (Graph × Unit) × (List (Ev.Pair × Bool)) × Unit → Option ρ) :
    ∀ (r : List Edg) (i : Int) (ks : List Ev.Pair), (∀ x ∈ r, x ∈ g.edges) → sound (stp kind g.edges) ks →
      ∃ ks', sound (stp kind g.edges) ks' ∧ (∀ k ∈ ks, k ∈ ks') ∧ (∀ x ∈ r, kd kind x = true → Ev.Pair.mk x.src x.dst ∈ ks') ∧ foldK (F_q10z_s0 n (fun (_) => none)) K i r (kind, (g, ()), tr ks, ()) = K (kind, (g, ()), tr ks', ()) := by
  intro r
  induction r with
  | nil => intro i ks _ hs; exact ⟨ks, hs, fun _ h => h, fun x hx => (by cases hx), rfl⟩
  | cons x r ih =>
    intro i ks hr hs
    rw [foldK]
    unfold F_q10z_s0
    dsimp only
    rw [Graph.eta]
    cases hk : (seq kind ⟨#[]⟩ || seq x.type kind) with
    | false =>
      rw [cond_false]
      obtain ⟨ks', h1, h2, h3, h4⟩ := ih (i + 1) ks (fun y hy => hr y (by simp [hy])) hs
      refine ⟨ks', h1, h2, fun y hy hky => ?_, h4⟩
      rcases List.mem_cons.1 hy with rfl | hy
      · have : kd kind y = false := hk
        rw [this] at hky; cases hky
      · exact h3 y hy hky
    | true =>
      rw [cond_true, put_tr]
      have hx : Rc (stp kind g.edges) x.src x.dst := .one ⟨x, hr x (by simp), hk, rfl, rfl⟩
      obtain ⟨ks', h1, h2, h3, h4⟩ := ih (i + 1) (ins ks ⟨x.src, x.dst⟩) (fun y hy => hr y (by simp [hy])) ⟨ins_nodup hs.1 _, fun k hk => by
        rcases mem_ins.1 hk with h | rfl
        · exact hs.2 k h
        · exact hx⟩
      refine ⟨ks', h1, fun k hk => h2 k (mem_ins.2 (.inl hk)), fun y hy hky => ?_, h4⟩
      rcases List.mem_cons.1 hy with rfl | hy
      · exact h2 _ (mem_ins.2 (.inr rfl))
      · exact h3 y hy hky
theorem reached_s6 (n : Nat) (g : Graph) (R : Int → Int → Prop) (va sr : Ev.Node) (hsv : Rc R sr.id va.id) {ρ : Type} (v28 : List Ev.Node) (v29 v30 : Int) (v31 : List Ev.Node) (v32 v33 : Int)
    (K : (List Ev.Node) × Int × Int × (List Ev.Node) × Int × Int × (Ev.Graph × Unit) × (Ev.Node × Unit) × (Ev.Node × Unit) × (List (Ev.Pair × Bool)) × Unit → Option ρ) :
    ∀ (r : List Ev.Node) (i : Int) (ks : List Ev.Pair), sound R ks →
      ∃ ks', sound R ks' ∧ (∀ k ∈ ks, k ∈ ks') ∧ (∀ x ∈ r, Ev.Pair.mk va.id x.id ∈ ks → Ev.Pair.mk sr.id x.id ∈ ks') ∧
        foldK (F_q10z_s6 n (fun (_) => none)) K i r (v28, v29, v30, v31, v32, v33, (g, ()), (va, ()), (sr, ()), tr ks, ()) = K (v28, v29, v30, v31, v32, v33, (g, ()), (va, ()), (sr, ()), tr ks', ()) := by
  intro r
  induction r with
  | nil => intro i ks hs; exact ⟨ks, hs, fun _ h => h, fun x hx => (by cases hx), rfl⟩
  | cons x r ih =>
    intro i ks hs
    rw [foldK]
    unfold F_q10z_s6
    dsimp only
    rw [Graph.eta, Node.eta, Node.eta, get_tr]
    by_cases hk : Ev.Pair.mk va.id x.id ∈ ks
    · rw [decide_eq_true hk, cond_true, put_tr]
      obtain ⟨ks', h1, h2, h3, h4⟩ := ih (i + 1) (ins ks ⟨sr.id, x.id⟩) ⟨ins_nodup hs.1 _, fun k hkk => by
        rcases mem_ins.1 hkk with h | rfl
        · exact hs.2 k h
        · exact hsv.trans (hs.2 _ hk)⟩
      refine ⟨ks', h1, fun k hk => h2 k (mem_ins.2 (.inl hk)), fun y hy hky => ?_, h4⟩
      rcases List.mem_cons.1 hy with rfl | hy
      · exact h2 _ (mem_ins.2 (.inr rfl))
      · exact h3 y hy (mem_ins.2 (.inl hky))
    · rw [decide_eq_false hk, cond_false]
      obtain ⟨ks', h1, h2, h3, h4⟩ := ih (i + 1) ks hs
      refine ⟨ks', h1, h2, fun y hy hky => ?_, h4⟩
      rcases List.mem_cons.1 hy with rfl | hy
      · exact absurd hky hk
      · exact h3 y hy hky
theorem reached_s4 (n : Nat) (hn : 100 ≤ n) (g : Graph) (h40 : g.nodes.length ≤ 40) (R : Int → Int → Prop) (va : Ev.Node) {ρ : Type} (v18 : List Ev.Node) (v19 v20 : Int)
    (K : (List Ev.Node) × Int × Int × (Ev.Graph × Unit) × (List (Ev.Pair × Bool)) × Unit → Option ρ) :
    ∀ (r p : List Ev.Node) (fuel : Nat) (ks : List Ev.Pair), g.nodes = p ++ r → r.length < fuel → sound R ks →
      ∃ ks', sound R ks' ∧ (∀ k ∈ ks, k ∈ ks') ∧ (∀ s ∈ r, Ev.Pair.mk s.id va.id ∈ ks → ∀ x ∈ g.nodes, Ev.Pair.mk va.id x.id ∈ ks → Ev.Pair.mk s.id x.id ∈ ks') ∧
        iterN (fun rc57 => q10z_s4 n rc57 K (fun (_) => none)) fuel (v18, v19, v20, g.nodes, (g.nodes.length : Int), (p.length : Int), (g, ()), (va, ()), tr ks, ()) = K (v18, v19, v20, (g, ()), tr ks', ()) := by
  intro r
  induction r with
  | nil =>
    intro p fuel ks hp hf hs
    obtain ⟨f, rfl⟩ : ∃ f, fuel = f + 1 := ⟨fuel - 1, by omega⟩
    refine ⟨ks, hs, fun _ h => h, fun x hx => (by cases hx), ?_⟩
    rw [iterN]
    unfold q10z_s4
    dsimp only
    rw [show decide ((p.length : Int) < (g.nodes.length : Int)) = false by rw [hp]; simp, cond_false]
  | cons x r ih =>
    intro p fuel ks hp hf hs
    obtain ⟨f, rfl⟩ : ∃ f, fuel = f + 1 := ⟨fuel - 1, by omega⟩
    have hll : g.nodes.length = p.length + (r.length + 1) := by rw [hp]; simp
    have e3 : IntKind.wrap .i64 ((p.length : Int) + 1) = ((p ++ [x]).length : Int) := by rw [wrap64 (by omega) (by omega)]; simp
    rw [iterN]
    unfold q10z_s4
    dsimp only
    rw [show decide ((p.length : Int) < (g.nodes.length : Int)) = true by rw [decide_eq_true_iff]; omega, cond_true, ix_ok (x := x) (by rw [hp]; simp), Option.bind_some, get_tr, Graph.eta, Node.eta, Node.eta]
    by_cases hk : Ev.Pair.mk x.id va.id ∈ ks
    · rw [decide_eq_true hk, Bool.not_true, cond_false, R_q10z_s6 n _ _ g.nodes n _ _ _ _ _ _ _ _ _ _ (by omega) (by omega)]
      obtain ⟨ks1, a1, a2, a3, a4⟩ := reached_s6 n g R va x (hs.2 _ hk) v18 v19 v20 g.nodes (g.nodes.length : Int) (p.length : Int)
        (fun (v28, v29, v30, v31, v32, v33, o37, o38, o39, o40, _) => (fun (v42, v43, v44, v45, v46, v47, o48, o49, o50, _) => iterN (fun rc57 => q10z_s4 n rc57 K (fun (_) => none)) f (v42, v43, v44, v45, v46, IntKind.wrap .i64 (v47 + 1), ((Ev.Graph.mk o48.1.nodes o48.1.edges o48.1.next), ()), ((Ev.Node.mk o49.1.id o49.1.labels o49.1.props), ()), o50, ())) (v28, v29, v30, v31, v32, v33, ((Ev.Graph.mk o37.1.nodes o37.1.edges o37.1.next), ()), ((Ev.Node.mk o38.1.id o38.1.labels o38.1.props), ()), o40, ())) g.nodes 0 ks hs
      obtain ⟨ks', h1, h2, h3, h4⟩ := ih (p ++ [x]) f ks1 (by simp [hp]) (by simp at hf; omega) a1
      refine ⟨ks', h1, fun k hk => h2 k (a2 k hk), fun s hsr hsv d hd hvd => ?_, a4.trans ?_⟩
      · rcases List.mem_cons.1 hsr with rfl | hsr
        · exact h2 _ (a3 d hd hvd)
        · exact h3 s hsr (a2 _ hsv) d hd (a2 _ hvd)
      · dsimp only
        rw [e3]
        exact h4
    · rw [decide_eq_false hk, Bool.not_false, cond_true, e3]
      obtain ⟨ks', h1, h2, h3, h4⟩ := ih (p ++ [x]) f ks (by simp [hp]) (by simp at hf; omega) hs
      refine ⟨ks', h1, h2, fun s hsr hsv d hd hvd => ?_, h4⟩
      rcases List.mem_cons.1 hsr with rfl | hsr
      · exact absurd hsv hk
      · exact h3 s hsr hsv d hd hvd
theorem reached_s2 (n : Nat) (hn : 100 ≤ n) (g : Graph) (h40 : g.nodes.length ≤ 40) (R : Int → Int → Prop) (hE : Ends R (idsN g)) :
    ∀ (r p : List Ev.Node) (fuel : Nat) (ks : List Ev.Pair), g.nodes = p ++ r → r.length < fuel → sound R ks → (∀ a b, W R (fun x => x ∈ p.map Ev.Node.id) a b → Ev.Pair.mk a b ∈ ks) →
      ∃ ks', sound R ks' ∧ (∀ a b, W R (fun x => x ∈ idsN g) a b → Ev.Pair.mk a b ∈ ks') ∧
        iterN (fun rc59 => q10z_s2 n rc59 (fun (o58, _) => some (o58, ())) (fun (_) => none)) fuel (g.nodes, (g.nodes.length : Int), (p.length : Int), (g, ()), tr ks, ()) = some (tr ks', ()) := by
  intro r
  induction r with
  | nil =>
    intro p fuel ks hp hf hs hw
    obtain ⟨f, rfl⟩ : ∃ f, fuel = f + 1 := ⟨fuel - 1, by omega⟩
    refine ⟨ks, hs, fun a b w => hw a b ?_, ?_⟩
    · unfold idsN at w
      rwa [hp, List.append_nil] at w
    · rw [iterN]
      unfold q10z_s2
      dsimp only
      rw [show decide ((p.length : Int) < (g.nodes.length : Int)) = false by rw [hp]; simp, cond_false]
  | cons x r ih =>
    intro p fuel ks hp hf hs hw
    obtain ⟨f, rfl⟩ : ∃ f, fuel = f + 1 := ⟨fuel - 1, by omega⟩
    have hll : g.nodes.length = p.length + (r.length + 1) := by rw [hp]; simp
    have e3 : IntKind.wrap .i64 ((p.length : Int) + 1) = ((p ++ [x]).length : Int) := by rw [wrap64 (by omega) (by omega)]; simp
    rw [iterN]
    unfold q10z_s2
    dsimp only
    rw [show decide ((p.length : Int) < (g.nodes.length : Int)) = true by rw [decide_eq_true_iff]; omega, cond_true, ix_ok (x := x) (by rw [hp]; simp), Option.bind_some, Graph.eta, Node.eta]
    obtain ⟨ks1, a1, a2, a3, a4⟩ := reached_s4 n hn g h40 R x g.nodes (g.nodes.length : Int) (p.length : Int)
      (fun (v52, v53, v54, o55, o56, _) => iterN (fun rc59 => q10z_s2 n rc59 (fun (o58, _) => some (o58, ())) (fun (_) => none)) f (v52, v53, IntKind.wrap .i64 (v54 + 1), ((Ev.Graph.mk o55.1.nodes o55.1.edges o55.1.next), ()), o56, ())) g.nodes [] n ks rfl (by omega) hs
    obtain ⟨ks', h1, h2, h3⟩ := ih (p ++ [x]) f ks1 (by simp [hp]) (by simp at hf; omega) a1 fun a b w => by
      have w1 : W R (fun y => y ∈ p.map Ev.Node.id ∨ y = x.id) a b := w.mono fun y hy => by
        simp only [List.map_append, List.map_cons, List.map_nil, List.mem_append, List.mem_singleton] at hy
        exact hy
      rcases w1.more with w1 | ⟨w1, w2⟩
      · exact a2 _ (hw a b w1)
      · have hka := hw _ _ w1
        have hkb := hw _ _ w2
        have ha : a ∈ idsN g := hE.p (w1.mono fun _ _ => trivial)
        have hb : b ∈ idsN g := hE.q (w2.mono fun _ _ => trivial)
        obtain ⟨s, hs1, rfl⟩ := List.mem_map.1 ha
        obtain ⟨d, hd1, rfl⟩ := List.mem_map.1 hb
        exact a3 s hs1 hka d hd1 hkb
    refine ⟨ks', h1, h2, a4.trans ?_⟩
    dsimp only
    rw [Graph.eta, e3]
    exact h3
theorem reached_ok (n : Nat) (hn : 100 ≤ n) (g : Graph) (kind : ByteArray) (hc : chkG g = 0) :
    ∃ ks : List Ev.Pair, ks.Nodup ∧ (∀ k, k ∈ ks ↔ Rc (stp kind g.edges) k.p k.q) ∧ ks.length ≤ 1600 ∧ q10z n (g, kind, ()) = some (tr ks, ()) := by
  have hE := ends_of hc kind
  have hN := ids_len hc
  obtain ⟨h40, h60, _, _⟩ := chkG_0 hc
  obtain ⟨ks1, a1, a2, a3, a4⟩ := reached_s0 n g kind (fun (v3, o7, o8, _) => (fun (o10, o11, _) =>
  iterN (fun rc59 => q10z_s2 n rc59 (fun (o58, _) => some (o58, ())) (fun (_) => none)) (n) (o10.1.nodes, (o10.1.nodes.length : Int), 0, ((Ev.Graph.mk o10.1.nodes o10.1.edges o10.1.next), ()), o11, ())) (((Ev.Graph.mk o7.1.nodes o7.1.edges o7.1.next), ()), o8, ())) g.edges 0 [] (fun x h => h) ⟨List.nodup_nil, fun x hx => by cases hx⟩
  obtain ⟨ks2, b1, b2, b3⟩ := reached_s2 n hn g h40 (stp kind g.edges) hE g.nodes [] n ks1 rfl (by omega) a1 fun a b w => by
    have : ∀ {a b : Int}, W (stp kind g.edges) (fun x => x ∈ ([] : List Ev.Node).map Ev.Node.id) a b → stp kind g.edges a b := by
      intro a b w
      cases w with
      | one h => exact h
      | two _ hc _ => cases hc
    obtain ⟨x, hx, hk, rfl, rfl⟩ := this w
    exact a3 x hx hk
  have hm : ∀ k, k ∈ ks2 ↔ Rc (stp kind g.edges) k.p k.q := fun k => ⟨b1.2 k, fun h => b2 k.p k.q (by
    have : ∀ {a b : Int}, Rc (stp kind g.edges) a b → W (stp kind g.edges) (fun x => x ∈ idsN g) a b := by
      intro a b w
      unfold Rc at w
      induction w with
      | one h => exact .one h
      | two w1 _ w2 i j => exact .two i (hE.q w1) j
    exact this h)⟩
  refine ⟨ks2, b1.1, hm, prod_le b1.1 (fun k h => ⟨hE.p (b1.2 k h), hE.q (b1.2 k h)⟩) hN, ?_⟩
  unfold q10z
  dsimp only
  rw [Graph.eta]
  refine (R_q10z_s0 n _ _ g.edges n kind (g, ()) [] (by omega) (by omega)).trans ?_
  exact a4.trans b3
end Pure


/- Plain: All; the pairs are the document's. No program. -/
namespace Pure
open Esp Ev Go
set_option linter.unusedSimpArgs false
set_option linter.unusedVariables false
set_option linter.unusedSimpArgs false
set_option linter.unusedVariables false
theorem all_ok (n : Nat) (hn : 100100 ≤ n) (g : Graph) (kind : ByteArray) (hc : chkG g = 0) :
    ∃ ks : List Ev.Pair, ks.Nodup ∧ (∀ k, k ∈ ks ↔ Rc (stp kind g.edges) k.p k.q) ∧ ks.length ≤ 1600 ∧ reach_All n (g, kind, ()) = some (sortL ltP ks, 0, ()) := by
  obtain ⟨ks, h1, h2, h3, h4⟩ := set_ok n hn g kind hc
  refine ⟨ks, h1, h2, h3, ?_⟩
  unfold reach_All
  dsimp only
  rw [Graph.eta, gcheck_ok g n (by omega), hc, Option.bind_some]
  dsimp only
  rw [show ((0 : Int) != 0) = false from rfl, cond_false, h4, Option.bind_some]
  dsimp only
  rw [sorted_ok n ks (by omega) (by omega), Option.bind_some]
  dsimp only
  rw [plain_ok n _ (by rw [sortL_length]; omega) (by rw [sortL_length]; omega)]
  rfl
def line3G : Graph := .mk [.mk 1 [] [], .mk 2 [] [], .mk 3 [⟨#[65]⟩] []] [.mk 4 1 2 ⟨#[75]⟩ [], .mk 5 2 3 ⟨#[75]⟩ []] 6
theorem line3_ok : q14z () = some (line3G, ()) := rfl
theorem line3_chk : chkG line3G = 0 := by kernel_rfl
def p123 : List Ev.Pair := [.mk 1 2, .mk 1 3, .mk 2 3]
theorem line3_mem (k : Ev.Pair) : Rc (stp ⟨#[75]⟩ line3G.edges) k.p k.q ↔ k ∈ p123 := by
  have e : ∀ {a b : Int}, stp ⟨#[75]⟩ line3G.edges a b ↔ (a = 1 ∧ b = 2) ∨ (a = 2 ∧ b = 3) := by
    intro a b
    unfold stp
    constructor
    · rintro ⟨x, hx, _, rfl, rfl⟩
      simp only [line3G, List.mem_cons, List.not_mem_nil, or_false] at hx
      rcases hx with rfl | rfl <;> simp
    · rintro (⟨rfl, rfl⟩ | ⟨rfl, rfl⟩)
      · exact ⟨.mk 4 1 2 ⟨#[75]⟩ [], by simp [line3G], by kernel_rfl, rfl, rfl⟩
      · exact ⟨.mk 5 2 3 ⟨#[75]⟩ [], by simp [line3G], by kernel_rfl, rfl, rfl⟩
  obtain ⟨p, q⟩ := k
  have hm : Ev.Pair.mk p q ∈ p123 ↔ (p = 1 ∧ q = 2) ∨ (p = 1 ∧ q = 3) ∨ (p = 2 ∧ q = 3) := by simp [p123]
  rw [hm]
  constructor
  · intro w
    have : ∀ {a b : Int}, W (stp ⟨#[75]⟩ line3G.edges) (fun _ => True) a b → (a = 1 ∧ b = 2) ∨ (a = 1 ∧ b = 3) ∨ (a = 2 ∧ b = 3) := by
      intro a b w
      induction w with
      | one h => have := e.1 h; omega
      | two _ _ _ i j => omega
    exact this w
  · rintro (⟨rfl, rfl⟩ | ⟨rfl, rfl⟩ | ⟨rfl, rfl⟩)
    · exact .one (e.2 (by simp))
    · exact Rc.trans (c := 2) (.one (e.2 (.inl ⟨rfl, rfl⟩))) (.one (e.2 (.inr ⟨rfl, rfl⟩)))
    · exact .one (e.2 (by simp))
theorem path_at (m : Nat) : q28z (m + 100) (line3G, ⟨#[]⟩, 1, 3, ()) = some ([4, 5], 0, ()) := by kernel_rfl
theorem reachedF (n : Nat) (hn : 100100 ≤ n) : q9z n () = some (true, ()) := by
  obtain ⟨ks, h1, h2, h3, h4⟩ := all_ok n hn line3G ⟨#[75]⟩ line3_chk
  have hs : sortL ltP ks = p123 := sortL_of ltP_ok (perm_of h1 (by simp [p123]) fun k => by rw [h2, line3_mem]) (by simp [p123, ltP])
  rw [hs] at h4
  have hp : q28z n (line3G, ⟨#[]⟩, 1, 3, ()) = some ([4, 5], 0, ()) := by
    obtain ⟨m, rfl⟩ : ∃ m, n = m + 100 := ⟨n - 100, by omega⟩
    exact path_at m
  have he : q8z n ([4, 5], [4, 5], ()) = some (true, ()) := by
    obtain ⟨m, rfl⟩ : ∃ m, n = m + 100 := ⟨n - 100, by omega⟩
    kernel_rfl
  unfold q9z
  rw [line3_ok, Option.bind_some]
  dsimp only
  rw [Graph.eta, h4, Option.bind_some]
  dsimp only
  rw [Option.bind_some]
  dsimp only
  rw [Graph.eta, hp, Option.bind_some]
  dsimp only
  rw [show (((0 : Int) == 0) && ((0 : Int) == 0)) = true from rfl, cond_true, show ([.mk 1 2, .mk 1 3, .mk 2 3] : List Ev.Pair) = p123 from rfl, equalP_ok p123 n (by simp [p123]) (by simp [p123]; omega), Option.bind_some]
  dsimp only
  rw [cond_true, he]
  rfl
end Pure

/- Plain: the shortest ways, the least of them. No program. -/
namespace Pure
open Esp Ev Go
set_option linter.unusedSimpArgs false
set_option linter.unusedVariables false
set_option linter.unusedSimpArgs false
set_option linter.unusedVariables false
/-! ## maps of numbers -/
def gt (m : List (Int × Int)) (k : Int) : Option Int := bif mpHas .i64 .i64 m k then some (mpGet .i64 .i64 0 m k) else none
theorem has_gt (m : List (Int × Int)) (k : Int) : mpHas .i64 .i64 m k = (gt m k).isSome := by unfold gt; cases mpHas .i64 .i64 m k <;> rfl
theorem get_gt {m : List (Int × Int)} {k d : Int} (h : gt m k = some d) : mpGet .i64 .i64 0 m k = d := by
  unfold gt at h
  cases hb : mpHas .i64 .i64 m k with
  | false => rw [hb] at h; cases h
  | true => rw [hb] at h; simpa using h
theorem gt_nil (k : Int) : gt [] k = none := rfl
theorem gt_cons (p : Int × Int) (r : List (Int × Int)) (k : Int) : gt (p :: r) k = if k = p.1 then some p.2 else gt r k := by
  unfold gt
  show (bif (bif ((k : Int) == (p.1 : Int)) then true else mpHas .i64 .i64 r k) then some (bif ((k : Int) == (p.1 : Int)) then p.2 else mpGet .i64 .i64 0 r k) else none) = _
  by_cases h : k = p.1
  · rw [if_pos h, show ((k : Int) == (p.1 : Int)) = true by simpa using h]; rfl
  · rw [if_neg h, show ((k : Int) == (p.1 : Int)) = false by simpa using h]; rfl
theorem gt_put (l : List (Int × Int)) (k j v : Int) : gt (mpPut .i64 .i64 l k v) j = if j = k then some v else gt l j := by
  induction l with
  | nil => show gt [(k, v)] j = _; rw [gt_cons]
  | cons p r ih =>
    have e : mpPut .i64 .i64 (p :: r) k v = if k = p.1 then (k, v) :: r else p :: mpPut .i64 .i64 r k v := by
      rw [mpPut]
      show (bif ((k : Int) == (p.1 : Int)) then (k, v) :: r else _) = _
      by_cases h : k = p.1
      · rw [if_pos h, show ((k : Int) == (p.1 : Int)) = true by simpa using h]; rfl
      · rw [if_neg h, show ((k : Int) == (p.1 : Int)) = false by simpa using h]; rfl
    rw [e]
    by_cases hk : k = p.1
    · rw [if_pos hk, gt_cons, gt_cons]
      subst hk
      by_cases h : j = p.1
      · rw [if_pos h, if_pos h]
      · rw [if_neg h, if_neg h, if_neg h]
    · rw [if_neg hk, gt_cons, gt_cons, ih]
      by_cases h : j = p.1
      · subst h; rw [if_pos rfl, if_pos rfl, if_neg (Ne.symm hk)]
      · rw [if_neg h, if_neg h]
/-! ## ways and how long they are -/
def Ds (R : Int → Int → Prop) (tg : Int) : Nat → Int → Prop
  | 0, v => v = tg
  | d + 1, v => ∃ u, R v u ∧ Ds R tg d u
def dist (R : Int → Int → Prop) (tg : Int) (v : Int) (d : Nat) : Prop := Ds R tg d v ∧ ∀ e, e < d → ¬ Ds R tg e v
theorem dist_to (R : Int → Int → Prop) (tg : Int) : dist R tg tg 0 := ⟨rfl, fun e h => absurd h (Nat.not_lt_zero _)⟩
theorem dist_inj {R : Int → Int → Prop} {tg v : Int} {d e : Nat} (h : dist R tg v d) (h' : dist R tg v e) : d = e := by
  rcases Nat.lt_trichotomy d e with hh | hh | hh
  · exact absurd h.1 (h'.2 d hh)
  · exact hh
  · exact absurd h'.1 (h.2 e hh)
theorem dist_of {R : Int → Int → Prop} {tg : Int} : ∀ {d : Nat} {v : Int}, Ds R tg d v → ∃ e, e ≤ d ∧ dist R tg v e := by
  intro d
  induction d using Nat.strongRecOn with
  | ind d ih =>
    intro v h
    by_cases hx : ∃ e, e < d ∧ Ds R tg e v
    · obtain ⟨e, he, hd⟩ := hx
      obtain ⟨e', h1, h2⟩ := ih e he hd
      exact ⟨e', by omega, h2⟩
    · exact ⟨d, Nat.le_refl _, h, fun e he hd => hx ⟨e, he, hd⟩⟩
theorem dist_step {R : Int → Int → Prop} {tg v : Int} {d : Nat} (h : dist R tg v (d + 1)) : ∃ u, R v u ∧ dist R tg u d := by
  obtain ⟨u, hu, hd⟩ := h.1
  refine ⟨u, hu, hd, fun e he hh => h.2 (e + 1) (by omega) ⟨u, hu, hh⟩⟩
def FarK (R : Int → Int → Prop) (tg : Int) (m : List (Int × Int)) (k : Nat) : Prop := ∀ v d, gt m v = some d ↔ ∃ e : Nat, d = (e : Int) ∧ e ≤ k ∧ dist R tg v e
def Far (R : Int → Int → Prop) (tg : Int) (m : List (Int × Int)) : Prop := ∀ v d, gt m v = some d ↔ ∃ e : Nat, d = (e : Int) ∧ dist R tg v e
theorem farK_done {R : Int → Int → Prop} {tg : Int} {m : List (Int × Int)} {k : Nat} (h : FarK R tg m k) (hn : ∀ v, ¬ dist R tg v (k + 1)) : Far R tg m := by
  have none' : ∀ d, k + 1 ≤ d → ∀ v, ¬ dist R tg v d := by
    intro d hd
    induction d with
    | zero => omega
    | succ d ih =>
      intro v hv
      by_cases e : d = k
      · subst e; exact hn v hv
      · obtain ⟨u, _, hu⟩ := dist_step hv
        exact ih (by omega) u hu
  intro v d
  rw [h]
  constructor
  · rintro ⟨e, h1, h2, h3⟩; exact ⟨e, h1, h3⟩
  · rintro ⟨e, h1, h3⟩
    refine ⟨e, h1, ?_, h3⟩
    by_cases he : e ≤ k
    · exact he
    · exact absurd h3 (none' e (by omega) v)
def lack (ns : List Int) (m : List (Int × Int)) : Nat := (ns.filter fun v => (gt m v).isNone).length
theorem lack_put {ns : List Int} {m : List (Int × Int)} {k v : Int} (hk : k ∈ ns) (hn : gt m k = none) : lack ns (mpPut .i64 .i64 m k v) + 1 ≤ lack ns m := by
  unfold lack
  have e : (ns.filter fun j => (gt (mpPut .i64 .i64 m k v) j).isNone) = (ns.filter fun j => (gt m j).isNone).filter fun j => decide (j ≠ k) := by
    rw [List.filter_filter]
    refine List.filter_congr fun j _ => ?_
    rw [gt_put]
    by_cases h : j = k
    · simp [h]
    · simp [h]
  rw [e]
  have hm : k ∈ ns.filter fun j => (gt m j).isNone := List.mem_filter.2 ⟨hk, by rw [hn]; rfl⟩
  generalize (ns.filter fun j => (gt m j).isNone) = l at hm ⊢
  induction l with
  | nil => cases hm
  | cons a r ih =>
    rw [List.filter_cons]
    by_cases h : a = k
    · have := List.length_filter_le (fun j => decide (j ≠ k)) r
      simp [h] at this ⊢
      omega
    · have hr : k ∈ r := (List.mem_cons.1 hm).resolve_left (Ne.symm h)
      have := ih hr
      simp [h] at this ⊢
      omega
theorem lack_le (ns : List Int) (m : List (Int × Int)) : lack ns m ≤ ns.length := List.length_filter_le _ _
/-! ## one level -/
theorem path_s2 (n : Nat) (g : Graph) (kind : ByteArray) (a tg : Int) (k : Nat) (hk : k ≤ 1000) {ρ : Type} (K : ByteArray × Int × Int × Int × Bool × (Graph × Unit) × (List (Int × Int)) × Unit → Option ρ) (m0 : List (Int × Int)) (hE : Ends (stp kind g.edges) (idsN g)) :
    ∀ (r p : List Edg) (i : Int) (m : List (Int × Int)) (b : Bool), g.edges = p ++ r → (∀ v d, gt m v = some d ↔ gt m0 v = some d ∨ (gt m0 v = none ∧ d = (k : Int) + 1 ∧ ∃ x ∈ p, kd kind x = true ∧ x.src = v ∧ gt m0 x.dst = some (k : Int))) →
      (b = true ↔ ∃ v d, gt m v = some d ∧ gt m0 v = none) → (b = true → lack (idsN g) m + 1 ≤ lack (idsN g) m0) → (∀ v d, gt m0 v = some d → d ≤ k) →
      ∃ m' b', (∀ v d, gt m' v = some d ↔ gt m0 v = some d ∨ (gt m0 v = none ∧ d = (k : Int) + 1 ∧ ∃ x ∈ g.edges, kd kind x = true ∧ x.src = v ∧ gt m0 x.dst = some (k : Int))) ∧
        (b' = true ↔ ∃ v d, gt m' v = some d ∧ gt m0 v = none) ∧ (b' = true → lack (idsN g) m' + 1 ≤ lack (idsN g) m0) ∧
        foldK (F_q28z_s2 n (fun (_) => none)) K i r (kind, a, tg, (k : Int), b, (g, ()), m, ()) = K (kind, a, tg, (k : Int), b', (g, ()), m', ()) := by
  intro r
  induction r with
  | nil =>
    intro p i m b hp hm hb hl h0
    rw [List.append_nil] at hp
    rw [← hp] at hm
    exact ⟨m, b, hm, hb, hl, rfl⟩
  | cons x r ih =>
    intro p i m b hp hm hb hl h0
    rw [foldK]
    have hpx : g.edges = (p ++ [x]) ++ r := by simp [hp]
    have hF : ∀ (rec : _ → Option ρ), F_q28z_s2 n (fun (_) => none) i x (kind, a, tg, (k : Int), b, (g, ()), m, ()) rec = bif !(kd kind x) then rec (kind, a, tg, (k : Int), b, (g, ()), m, ()) else
        bif (mpHas .i64 .i64 m x.dst) && (((mpGet .i64 .i64 0 m x.dst) : Int) == k) then (bif !(mpHas .i64 .i64 m x.src) then rec (kind, a, tg, (k : Int), true, (g, ()), mpPut .i64 .i64 m x.src (IntKind.wrap .i64 ((k : Int) + 1)), ()) else rec (kind, a, tg, (k : Int), b, (g, ()), m, ())) else rec (kind, a, tg, (k : Int), b, (g, ()), m, ()) := fun rec => by
      have : ((!(seq kind ⟨#[]⟩)) && (!(seq x.type kind))) = !(kd kind x) := by unfold kd; cases seq kind ⟨#[]⟩ <;> rfl
      rw [← this]
      rfl
    rw [hF]
    have skip : (¬ (kd kind x = true ∧ gt m0 x.dst = some (k : Int) ∧ gt m x.src = none)) → ∃ m' b', (∀ v d, gt m' v = some d ↔ gt m0 v = some d ∨ (gt m0 v = none ∧ d = (k : Int) + 1 ∧ ∃ x ∈ g.edges, kd kind x = true ∧ x.src = v ∧ gt m0 x.dst = some (k : Int))) ∧
        (b' = true ↔ ∃ v d, gt m' v = some d ∧ gt m0 v = none) ∧ (b' = true → lack (idsN g) m' + 1 ≤ lack (idsN g) m0) ∧
        foldK (F_q28z_s2 n (fun (_) => none)) K (i + 1) r (kind, a, tg, (k : Int), b, (g, ()), m, ()) = K (kind, a, tg, (k : Int), b', (g, ()), m', ()) := fun hno => by
      refine ih (p ++ [x]) (i + 1) m b hpx (fun v d => ?_) hb hl h0
      rw [hm]
      constructor
      · rintro (h | ⟨h1, h2, y, hy, h3⟩)
        · exact .inl h
        · exact .inr ⟨h1, h2, y, by simp [hy], h3⟩
      · rintro (h | ⟨h1, h2, y, hy, h3, h4, h5⟩)
        · exact .inl h
        · rcases List.mem_append.1 hy with hy | hy
          · exact .inr ⟨h1, h2, y, hy, h3, h4, h5⟩
          · rw [List.mem_singleton] at hy
            subst hy
            cases hs : gt m y.src with
            | none => exact absurd ⟨h3, h5, hs⟩ hno
            | some e =>
              rcases (hm _ _).1 hs with h6 | ⟨h6, h7, h8⟩
              · rw [h4, h1] at h6; cases h6
              · rw [h4] at h8
                exact .inr ⟨h1, h2, h8⟩
    cases hkd : kd kind x with
    | false =>
      rw [Bool.not_false, cond_true]
      exact skip fun h => by rw [hkd] at h; cases h.1
    | true =>
      rw [Bool.not_true, cond_false]
      cases hc : (mpHas .i64 .i64 m x.dst) && (((mpGet .i64 .i64 0 m x.dst) : Int) == k) with
      | false =>
        rw [cond_false]
        refine skip fun h => ?_
        have h1 : gt m x.dst = some (k : Int) := (hm _ _).2 (.inl h.2.1)
        rw [has_gt, h1, get_gt h1] at hc
        simp at hc
      | true =>
        rw [cond_true]
        rw [Bool.and_eq_true, has_gt] at hc
        have h1 : gt m0 x.dst = some (k : Int) := by
          cases hd : gt m x.dst with
          | none => rw [hd] at hc; cases hc.1
          | some e =>
            rw [get_gt hd] at hc
            have : e = (k : Int) := by simpa using hc.2
            subst this
            rcases (hm _ _).1 hd with h6 | ⟨_, h7, _⟩
            · exact h6
            · omega
        cases hs : gt m x.src with
        | some e =>
          rw [has_gt, hs, Option.isSome_some, Bool.not_true, cond_false]
          exact skip fun h => by rw [hs] at h; cases h.2.2
        | none =>
          rw [has_gt, hs, Option.isSome_none, Bool.not_false, cond_true, wrap64 (by omega) (by omega)]
          have hs0 : gt m0 x.src = none := by
            cases h : gt m0 x.src with
            | none => rfl
            | some e => rw [(hm _ _).2 (.inl h)] at hs; cases hs
          have hxs : x.src ∈ idsN g := hE.s x.src x.dst ⟨x, by rw [hp]; simp, hkd, rfl, rfl⟩
          have hlp := lack_put (v := (k : Int) + 1) hxs hs
          refine ih (p ++ [x]) (i + 1) (mpPut .i64 .i64 m x.src ((k : Int) + 1)) true hpx (fun v d => ?_) ⟨fun _ => ⟨x.src, (k : Int) + 1, by rw [gt_put, if_pos rfl], hs0⟩, fun _ => rfl⟩ (fun _ => ?_) h0
          · rw [gt_put]
            by_cases hv : v = x.src
            · rw [if_pos hv]
              subst hv
              constructor
              · intro h
                cases h
                exact .inr ⟨hs0, rfl, x, by simp, hkd, rfl, h1⟩
              · rintro (h | ⟨_, h2, _⟩)
                · rw [hs0] at h; cases h
                · rw [h2]
            · rw [if_neg hv, hm]
              constructor
              · rintro (h | ⟨h1, h2, y, hy, h3⟩)
                · exact .inl h
                · exact .inr ⟨h1, h2, y, by simp [hy], h3⟩
              · rintro (h | ⟨h1, h2, y, hy, h3, h4, h5⟩)
                · exact .inl h
                · rcases List.mem_append.1 hy with hy | hy
                  · exact .inr ⟨h1, h2, y, hy, h3, h4, h5⟩
                  · rw [List.mem_singleton] at hy
                    subst hy
                    exact absurd h4.symm hv
          · cases hbb : b with
            | true => have := hl hbb; omega
            | false =>
              have : lack (idsN g) m ≤ lack (idsN g) m0 := by
                have hsame : ∀ v, gt m v = gt m0 v := fun v => by
                  cases h : gt m v with
                  | none =>
                    cases h' : gt m0 v with
                    | none => rfl
                    | some e => rw [(hm _ _).2 (.inl h')] at h; cases h
                  | some d =>
                    cases h' : gt m0 v with
                    | none => have := hb.2 ⟨v, d, h, h'⟩; rw [hbb] at this; cases this
                    | some e => have := (hm _ _).2 (.inl h'); rw [h] at this; exact this
                have hf : (fun v => (gt m v).isNone) = fun v => (gt m0 v).isNone := funext fun v => by rw [hsame]
                unfold lack
                rw [hf]
                exact Nat.le_refl _
              omega
theorem path_s0 (n : Nat) (hn : 100 ≤ n) (g : Graph) (kind : ByteArray) (a tg : Int) (h60 : g.edges.length ≤ 60) (hE : Ends (stp kind g.edges) (idsN g)) (hN : (idsN g).length ≤ 40) {ρ : Type} (K : ByteArray × Int × Int × (Graph × Unit) × (List (Int × Int)) × Unit → Option ρ) :
    ∀ (fuel k : Nat) (m : List (Int × Int)), FarK (stp kind g.edges) tg m k → k + lack (idsN g) m ≤ 40 → lack (idsN g) m + 1 < fuel →
      ∃ m', Far (stp kind g.edges) tg m' ∧ (∀ v d, gt m' v = some d → d ≤ 40) ∧ iterN (fun rc => q28z_s0 n rc K (fun (_) => none)) fuel (kind, a, tg, (k : Int), true, (g, ()), m, ()) = K (kind, a, tg, (g, ()), m', ()) := by
  intro fuel
  induction fuel with
  | zero => intro k m _ _ h; exact absurd h (Nat.not_lt_zero _)
  | succ f ih =>
    intro k m hm hk hf
    rw [iterN]
    unfold q28z_s0
    dsimp only
    rw [cond_true, Graph.eta, R_q28z_s2 n _ _ g.edges n _ _ _ _ _ _ _ (by omega) (by omega)]
    have hle : ∀ v d, gt m v = some d → d ≤ (k : Int) := fun v d h => by obtain ⟨e, h1, h2, _⟩ := (hm v d).1 h; omega
    obtain ⟨m', b', h1, h2, h3, h4⟩ := path_s2 n g kind a tg k (by omega) (fun (v15, v16, v17, v18, v19, o23, o24, _) => (fun (v26, v27, v28, v29, v30, o31, o32, _) => iterN (fun rc => q28z_s0 n rc K (fun (_) => none)) f (v26, v27, v28, IntKind.wrap .i64 (v29 + 1), v30, ((Ev.Graph.mk o31.1.nodes o31.1.edges o31.1.next), ()), o32, ())) (v15, v16, v17, v18, v19, ((Ev.Graph.mk o23.1.nodes o23.1.edges o23.1.next), ()), o24, ()))
      m hE g.edges [] 0 m false rfl (fun v d => by simp) (by
        constructor
        · intro h; cases h
        · rintro ⟨v, d, h1, h2⟩; rw [h1] at h2; cases h2) (fun h => by cases h) hle
    have hm' : FarK (stp kind g.edges) tg m' (k + 1) := fun v d => by
      rw [h1]
      constructor
      · rintro (h | ⟨h5, h6, x, hx, hkd, hsx, hdx⟩)
        · obtain ⟨e, e1, e2, e3⟩ := (hm v d).1 h
          exact ⟨e, e1, by omega, e3⟩
        · obtain ⟨e, e1, e2, e3⟩ := (hm _ _).1 hdx
          have : e = k := by omega
          subst this
          refine ⟨e + 1, by omega, Nat.le_refl _, ⟨x.dst, ⟨x, hx, hkd, hsx, rfl⟩, e3.1⟩, fun q hq hd => ?_⟩
          obtain ⟨e', g1, g2⟩ := dist_of hd
          have := (hm v e').2 ⟨e', rfl, by omega, g2⟩
          rw [h5] at this; cases this
      · rintro ⟨e, e1, e2, e3⟩
        by_cases he : e ≤ k
        · exact .inl ((hm v d).2 ⟨e, e1, he, e3⟩)
        · have : e = k + 1 := by omega
          subst this
          refine .inr ⟨?_, by omega, ?_⟩
          · cases h : gt m v with
            | none => rfl
            | some d' =>
              obtain ⟨e', q1, q2, q3⟩ := (hm v d').1 h
              have := dist_inj e3 q3
              omega
          · obtain ⟨u, ⟨x, hx, hkd, hsx, hdx⟩, hu⟩ := dist_step e3
            exact ⟨x, hx, hkd, hsx, (hm _ _).2 ⟨k, rfl, Nat.le_refl _, hdx ▸ hu⟩⟩
    cases b' with
    | true =>
      have h5 := h3 rfl
      obtain ⟨m2, i1, i2, i3⟩ := ih (k + 1) m' hm' (by omega) (by omega)
      refine ⟨m2, i1, i2, h4.trans ?_⟩
      dsimp only
      rw [wrap64 (by omega) (by omega), show ((k : Int) + 1) = ((k + 1 : Nat) : Int) by omega]
      exact i3
    | false =>
      have hno : ∀ v, ¬ dist (stp kind g.edges) tg v (k + 1) := fun v hd => by
        have := h2.2 ⟨v, ((k + 1 : Nat) : Int), (hm' _ _).2 ⟨k + 1, rfl, Nat.le_refl _, hd⟩, by
          cases h : gt m v with
          | none => rfl
          | some d' =>
            obtain ⟨e', q1, q2, q3⟩ := (hm v d').1 h
            have := dist_inj hd q3
            omega⟩
        cases this
      have hno2 : ∀ v, ¬ dist (stp kind g.edges) tg v (k + 1 + 1) := fun v hd => by
        obtain ⟨u, _, hu⟩ := dist_step hd
        exact hno u hu
      have hfar : Far (stp kind g.edges) tg m' := farK_done hm' hno2
      refine ⟨m', hfar, fun v d h => ?_, h4.trans ?_⟩
      · obtain ⟨e, q1, q2, q3⟩ := (hm' v d).1 h
        by_cases he : e = k + 1
        · subst he; exact absurd q3 (hno v)
        · omega
      · dsimp only
        obtain ⟨f', rfl⟩ : ∃ f', f = f' + 1 := ⟨f - 1, by omega⟩
        rw [iterN]
        unfold q28z_s0
        dsimp only
        rw [cond_false]
end Pure

/- Plain: reach.Path tells the least of the shortest ways. No program. -/
namespace Pure
open Esp Ev Go
set_option linter.unusedSimpArgs false
set_option linter.unusedVariables false
set_option linter.unusedSimpArgs false
set_option linter.unusedVariables false
def Wk (kind : ByteArray) (l : List Edg) : Int → List Edg → Int → Prop
  | a, [], b => a = b
  | a, x :: r, b => x ∈ l ∧ kd kind x = true ∧ x.src = a ∧ Wk kind l x.dst r b
abbrev ids (q : List Edg) : List Int := q.map Edg.id
theorem Wk.ds {kind : ByteArray} {l : List Edg} : ∀ {q : List Edg} {a b : Int}, Wk kind l a q b → Ds (stp kind l) b q.length a
  | [], a, b, h => h
  | x :: r, a, b, h => ⟨x.dst, ⟨x, h.1, h.2.1, h.2.2.1, rfl⟩, h.2.2.2.ds⟩
theorem Wk.app {kind : ByteArray} {l : List Edg} : ∀ {q r : List Edg} {a b c : Int}, Wk kind l a q b → Wk kind l b r c → Wk kind l a (q ++ r) c
  | [], r, a, b, c, h, g => by cases h; exact g
  | x :: q, r, a, b, c, h, g => ⟨h.1, h.2.1, h.2.2.1, h.2.2.2.app g⟩
theorem Wk.split {kind : ByteArray} {l : List Edg} {x : Edg} : ∀ {q : List Edg} {a c : Int}, Wk kind l a (q ++ [x]) c → Wk kind l a q x.src ∧ x ∈ l ∧ kd kind x = true ∧ x.dst = c
  | [], a, c, h => ⟨h.2.2.1.symm, h.1, h.2.1, h.2.2.2⟩
  | y :: q, a, c, h => by
    obtain ⟨h1, h2⟩ := Wk.split (q := q) h.2.2.2
    exact ⟨⟨h.1, h.2.1, h.2.2.1, h1⟩, h2⟩
theorem Wk.rc {kind : ByteArray} {l : List Edg} : ∀ {q : List Edg} {a b : Int}, q ≠ [] → Wk kind l a q b → Rc (stp kind l) a b
  | [], a, b, h, _ => absurd rfl h
  | [x], a, b, _, h => by
    obtain ⟨h1, h2, h3, h4⟩ := h
    cases h4
    exact .one ⟨x, h1, h2, h3, rfl⟩
  | x :: y :: r, a, b, _, h => by
    obtain ⟨h1, h2, h3, h4⟩ := h
    exact Rc.trans (.one ⟨x, h1, h2, h3, rfl⟩) (Wk.rc (by simp) h4)
theorem rc_ds {R : Int → Int → Prop} {a b : Int} (w : Rc R a b) : ∃ u d, R a u ∧ Ds R b d u := by
  have key : ∀ {c d : Int}, W R (fun _ => True) c d → ∀ e, (∃ k, Ds R e k d) → ∃ u k, R c u ∧ Ds R e k u := by
    intro c d w
    induction w with
    | one h => rintro e ⟨k, hk⟩; exact ⟨_, k, h, hk⟩
    | two _ _ _ i j =>
      intro e he
      obtain ⟨u, k, h1, h2⟩ := j e he
      exact i e ⟨k + 1, u, h1, h2⟩
  exact key w b ⟨0, rfl⟩
def Least (kind : ByteArray) (l : List Edg) (a b : Int) (q : List Edg) : Prop := Wk kind l a q b ∧ ∀ p, Wk kind l a p b → p.length = q.length → ltLL (ids p) (ids q) = false
theorem ids_inj {l : List Edg} (hr : Rise Edg.id l) {x y : Edg} (hx : x ∈ l) (hy : y ∈ l) (h : x.id = y.id) : x = y := by
  have h1 := find_rise hr hx rfl
  have h2 := find_rise hr hy h.symm
  rw [h1] at h2
  exact Option.some.inj h2
theorem least_cons {kind : ByteArray} {l : List Edg} (hr : Rise Edg.id l) {a b : Int} {x : Edg} {q : List Edg} (hx : x ∈ l) (hk : kd kind x = true) (hs : x.src = a) (hq : Least kind l x.dst b q)
    (hmin : ∀ y ∈ l, kd kind y = true → y.src = a → (∃ p, Wk kind l y.dst p b ∧ p.length = q.length) → x.id ≤ y.id) : Least kind l a b (x :: q) := by
  refine ⟨⟨hx, hk, hs, hq.1⟩, fun p hp hl => ?_⟩
  cases p with
  | nil => simp at hl
  | cons y p =>
    obtain ⟨h1, h2, h3, h4⟩ := hp
    have hl' : p.length = q.length := by simpa using hl
    have h5 := hmin y h1 h2 h3 ⟨p, h4, hl'⟩
    cases hlt : ltLL (ids (y :: p)) (ids (x :: q)) with
    | false => rfl
    | true =>
      rcases (ltLL_cons y.id x.id (ids p) (ids q)).1 hlt with h | ⟨h, h6⟩
      · omega
      · have := ids_inj hr h1 hx h
        subst this
        rw [hq.2 p h4 hl'] at h6
        cases h6
/-! ## the best next edge -/
def cand (kind : ByteArray) (m : List (Int × Int)) (a : Int) (x : Edg) : Prop := kd kind x = true ∧ x.src = a ∧ ∃ d, gt m x.dst = some d
theorem path_s6 (n : Nat) (g : Graph) (kind : ByteArray) (tg a : Int) (m : List (Int × Int)) (out : List Int) (he : g.edges.length ≤ 60) (hr : Rise Edg.id g.edges) {ρ : Type} (K : ByteArray × Int × Int × Int × (Graph × Unit) × (List Int) × (List (Int × Int)) × Unit → Option ρ) :
    ∀ (r p : List Edg) (b : Int), g.edges = p ++ r → ((b = -1 ∧ ∀ y ∈ p, ¬ cand kind m a y) ∨ ∃ (i : Nat) (x : Edg) (d : Int), b = (i : Int) ∧ i < p.length ∧ g.edges[i]? = some x ∧ kd kind x = true ∧ x.src = a ∧ gt m x.dst = some d ∧ ∀ y ∈ p, kd kind y = true → y.src = a → ∀ e, gt m y.dst = some e → d < e ∨ (d = e ∧ x.id ≤ y.id)) →
      ∃ b', ((b' = -1 ∧ ∀ y ∈ g.edges, ¬ cand kind m a y) ∨ ∃ (i : Nat) (x : Edg) (d : Int), b' = (i : Int) ∧ g.edges[i]? = some x ∧ kd kind x = true ∧ x.src = a ∧ gt m x.dst = some d ∧ ∀ y ∈ g.edges, kd kind y = true → y.src = a → ∀ e, gt m y.dst = some e → d < e ∨ (d = e ∧ x.id ≤ y.id)) ∧
        foldK (F_q28z_s6 n (fun (_) => none)) K (p.length : Int) r (kind, tg, a, b, (g, ()), out, m, ()) = K (kind, tg, a, b', (g, ()), out, m, ()) := by
  intro r
  induction r with
  | nil =>
    intro p b hp hb
    rw [List.append_nil] at hp
    refine ⟨b, ?_, rfl⟩
    rcases hb with ⟨h1, h2⟩ | ⟨i, x, d, h1, h2, h3, h4, h5, h6, h7⟩
    · exact .inl ⟨h1, by rw [hp]; exact h2⟩
    · exact .inr ⟨i, x, d, h1, h3, h4, h5, h6, by rw [hp]; exact h7⟩
  | cons x r ih =>
    intro p b hp hb
    have hpx : g.edges = (p ++ [x]) ++ r := by simp [hp]
    have hgx : g.edges[p.length]? = some x := by rw [hp]; simp
    have hpl : ((p ++ [x]).length : Int) = (p.length : Int) + 1 := by simp
    have hlt : p.length < 61 := by have : g.edges.length = p.length + (r.length + 1) := by rw [hp]; simp
                                   omega
    have hafter : ∀ y ∈ p, y.id < x.id := fun y hy => by
      have hr' := hr
      rw [hp] at hr'
      exact (List.pairwise_append.1 hr').2.2 y hy x (by simp)
    rw [foldK, ← hpl]
    have hF : ∀ (rec : _ → Option ρ), F_q28z_s6 n (fun (_) => none) (p.length : Int) x (kind, tg, a, b, (g, ()), out, m, ()) rec =
        bif (((x.src : Int) == a) && (mpHas .i64 .i64 m x.dst)) && (kd kind x) then (bif decide (b < 0) then rec (kind, tg, a, (p.length : Int), (g, ()), out, m, ()) else (ix g.edges b).bind fun x56 => bif decide (((mpGet .i64 .i64 0 m x.dst) : Int) < (mpGet .i64 .i64 0 m x56.dst)) then rec (kind, tg, a, (p.length : Int), (g, ()), out, m, ()) else rec (kind, tg, a, b, (g, ()), out, m, ())) else rec (kind, tg, a, b, (g, ()), out, m, ()) := fun _ => rfl
    rw [hF]
    have hnew : ∀ {d : Int}, kd kind x = true → x.src = a → gt m x.dst = some d → (∀ y ∈ p, kd kind y = true → y.src = a → ∀ e, gt m y.dst = some e → d < e) →
        (((p.length : Int) = -1 ∧ ∀ y ∈ p ++ [x], ¬ cand kind m a y) ∨ ∃ (i : Nat) (x' : Edg) (d : Int), (p.length : Int) = (i : Int) ∧ i < (p ++ [x]).length ∧ g.edges[i]? = some x' ∧ kd kind x' = true ∧ x'.src = a ∧ gt m x'.dst = some d ∧ ∀ y ∈ p ++ [x], kd kind y = true → y.src = a → ∀ e, gt m y.dst = some e → d < e ∨ (d = e ∧ x'.id ≤ y.id)) := fun {d} k1 k2 k3 k4 => by
      refine .inr ⟨p.length, x, d, rfl, by simp, hgx, k1, k2, k3, fun y hy q1 q2 e q3 => ?_⟩
      rcases List.mem_append.1 hy with hy | hy
      · exact .inl (k4 y hy q1 q2 e q3)
      · rw [List.mem_singleton] at hy
        subst hy
        rw [k3] at q3
        cases q3
        exact .inr ⟨rfl, Int.le_refl _⟩
    by_cases hc : cand kind m a x
    · obtain ⟨k1, k2, d, k3⟩ := hc
      rw [show ((((x.src : Int) == a) && (mpHas .i64 .i64 m x.dst)) && (kd kind x)) = true by rw [k2, has_gt, k3, k1]; simp, cond_true]
      rcases hb with ⟨h1, h2⟩ | ⟨i, y, e, h1, h2, h3, h4, h5, h6, h7⟩
      · subst h1
        rw [show decide ((-1 : Int) < 0) = true from rfl, cond_true]
        exact ih (p ++ [x]) (p.length : Int) hpx (hnew k1 k2 k3 fun y hy q1 q2 e q3 => absurd ⟨q1, q2, e, q3⟩ (h2 y hy))
      · subst h1
        rw [show decide (((i : Int)) < 0) = false by simp, cond_false, ix_ok h3, Option.bind_some, get_gt k3, get_gt h6]
        by_cases hd : d < e
        · rw [decide_eq_true hd, cond_true]
          exact ih (p ++ [x]) (p.length : Int) hpx (hnew k1 k2 k3 fun z hz q1 q2 e' q3 => by have := h7 z hz q1 q2 e' q3; omega)
        · rw [decide_eq_false hd, cond_false]
          refine ih (p ++ [x]) (i : Int) hpx (.inr ⟨i, y, e, rfl, by simp; omega, h3, h4, h5, h6, fun z hz q1 q2 e' q3 => ?_⟩)
          rcases List.mem_append.1 hz with hz | hz
          · exact h7 z hz q1 q2 e' q3
          · rw [List.mem_singleton] at hz
            subst hz
            rw [k3] at q3
            cases q3
            have hyp : y ∈ p := by
              rw [hp, List.getElem?_append_left h2] at h3
              exact List.mem_of_getElem? h3
            have := hafter y hyp
            omega
    · have hf : ((((x.src : Int) == a) && (mpHas .i64 .i64 m x.dst)) && (kd kind x)) = false := by
        cases hb : (((x.src : Int) == a) && (mpHas .i64 .i64 m x.dst)) && (kd kind x) with
        | false => rfl
        | true =>
          rw [Bool.and_eq_true, Bool.and_eq_true, has_gt] at hb
          obtain ⟨⟨q1, q2⟩, q3⟩ := hb
          obtain ⟨e, he⟩ := Option.isSome_iff_exists.1 q2
          exact absurd ⟨q3, by simpa using q1, e, he⟩ hc
      rw [hf, cond_false]
      refine ih (p ++ [x]) b hpx ?_
      rcases hb with ⟨h1, h2⟩ | ⟨i, y, e, h1, h2, h3, h4, h5, h6, h7⟩
      · refine .inl ⟨h1, fun z hz => ?_⟩
        rcases List.mem_append.1 hz with hz | hz
        · exact h2 z hz
        · rw [List.mem_singleton] at hz; subst hz; exact hc
      · refine .inr ⟨i, y, e, h1, by simp; omega, h3, h4, h5, h6, fun z hz q1 q2 e' q3 => ?_⟩
        rcases List.mem_append.1 hz with hz | hz
        · exact h7 z hz q1 q2 e' q3
        · rw [List.mem_singleton] at hz; subst hz; exact absurd ⟨q1, q2, e', q3⟩ hc
end Pure

/- Plain: reach.Path. No program. -/
namespace Pure
open Esp Ev Go
set_option linter.unusedSimpArgs false
set_option linter.unusedVariables false
set_option linter.unusedSimpArgs false
set_option linter.unusedVariables false
theorem path_round (n : Nat) (hn : 100 ≤ n) (g : Graph) (kind : ByteArray) (tg a : Int) (m : List (Int × Int)) (out : List Int) (he : g.edges.length ≤ 60) (hr : Rise Edg.id g.edges) (hol : out.length ≤ 1000) (hgo : out = [] ∨ a ≠ tg) {ρ : Type} (kx : List Int × Unit → Option ρ) (kr : List Int × Int × Unit → Option ρ) (f : Nat) :
    ((∀ y ∈ g.edges, ¬ cand kind m a y) ∧ iterN (fun rc => q28z_s4 n rc kx kr) (f + 1) (kind, tg, a, (g, ()), out, m, ()) = kr ([], 5, ())) ∨
    ∃ x d, x ∈ g.edges ∧ kd kind x = true ∧ x.src = a ∧ gt m x.dst = some d ∧ (∀ y ∈ g.edges, kd kind y = true → y.src = a → ∀ e, gt m y.dst = some e → d < e ∨ (d = e ∧ x.id ≤ y.id)) ∧
      iterN (fun rc => q28z_s4 n rc kx kr) (f + 1) (kind, tg, a, (g, ()), out, m, ()) = iterN (fun rc => q28z_s4 n rc kx kr) f (kind, tg, x.dst, (g, ()), out ++ [x.id], m, ()) := by
  have hg : (((out.length : Int) == 0) || ((a : Int) != tg)) = true := by
    rcases hgo with rfl | h
    · rfl
    · rw [show ((a : Int) != tg) = true by simpa using h, Bool.or_true]
  obtain ⟨b', h1, h2⟩ := path_s6 n g kind tg a m out he hr (fun (v45, v46, v47, v48, o52, o53, o54, _) => (fun (v57, v58, v59, o60, o61, o62, _) =>
  (bif decide ((v59 : Int) < 0) then kr (([] : List Int), 5, ())
  else
  (ix o60.1.edges v59).bind fun x63 =>
  ck (room (o61 ++ ([x63.id] : List Int)).length 8) (
  (ix o60.1.edges v59).bind fun x64 => iterN (fun rc => q28z_s4 n rc kx kr) f (v57, v58, x64.dst, ((Ev.Graph.mk o60.1.nodes o60.1.edges o60.1.next), ()), o61 ++ ([x63.id] : List Int), o62, ())))) (v45, v46, v48, ((Ev.Graph.mk o52.1.nodes o52.1.edges o52.1.next), ()), o53, o54, ())) g.edges [] (-1) rfl (.inl ⟨rfl, fun y hy => by cases hy⟩)
  have hstep : iterN (fun rc => q28z_s4 n rc kx kr) (f + 1) (kind, tg, a, (g, ()), out, m, ()) = bif decide (b' < 0) then kr ([], 5, ()) else (ix g.edges b').bind fun x63 => ck (room (out ++ ([x63.id] : List Int)).length 8) ((ix g.edges b').bind fun x64 => iterN (fun rc => q28z_s4 n rc kx kr) f (kind, tg, x64.dst, (g, ()), out ++ ([x63.id] : List Int), m, ())) := by
    rw [iterN]
    unfold q28z_s4
    dsimp only
    rw [hg, cond_true, Graph.eta, R_q28z_s6 n _ _ g.edges n _ _ _ _ _ _ _ (by omega) (by omega)]
    exact h2
  rcases h1 with ⟨rfl, h3⟩ | ⟨i, x, d, rfl, h3, h4, h5, h6, h7⟩
  · exact .inl ⟨h3, hstep⟩
  · refine .inr ⟨x, d, List.mem_of_getElem? h3, h4, h5, h6, h7, hstep.trans ?_⟩
    rw [show decide (((i : Int)) < 0) = false by simp, cond_false, ix_ok h3, Option.bind_some, ck_ok (room8 (by simp; omega)), Option.bind_some]
theorem path_on (n : Nat) (hn : 100 ≤ n) (g : Graph) (kind : ByteArray) (tg : Int) (m : List (Int × Int)) (he : g.edges.length ≤ 60) (hr : Rise Edg.id g.edges) (hm : Far (stp kind g.edges) tg m) {ρ : Type} (kx : List Int × Unit → Option ρ) (kr : List Int × Int × Unit → Option ρ) :
    ∀ (d : Nat) (a : Int) (out : List Int) (f : Nat), dist (stp kind g.edges) tg a d → out ≠ [] → d < f → out.length + d ≤ 1000 →
      ∃ p, p.length = d ∧ Least kind g.edges a tg p ∧ iterN (fun rc => q28z_s4 n rc kx kr) f (kind, tg, a, (g, ()), out, m, ()) = kx (out ++ ids p, ()) := by
  intro d
  induction d with
  | zero =>
    intro a out f hd ho hf hl
    obtain ⟨f', rfl⟩ : ∃ f', f = f' + 1 := ⟨f - 1, by omega⟩
    have ha : a = tg := hd.1
    refine ⟨[], rfl, ⟨ha, fun p hp hl => ?_⟩, ?_⟩
    · rw [List.eq_nil_of_length_eq_zero hl]
      exact ltLL_ok.irrefl _
    · rw [iterN]
      unfold q28z_s4
      dsimp only
      have h0 : ((out.length : Int) == 0) = false := by
        have : out.length ≠ 0 := fun h => ho (List.eq_nil_of_length_eq_zero h)
        simp; exact ho
      rw [h0, show ((a : Int) != tg) = false by rw [ha]; simp, Bool.or_false, cond_false]
      simp [ids]
  | succ d ih =>
    intro a out f hd ho hf hl
    obtain ⟨f', rfl⟩ : ∃ f', f = f' + 1 := ⟨f - 1, by omega⟩
    have hat : a ≠ tg := fun e => by
      subst e
      have := dist_inj hd (dist_to _ _)
      omega
    obtain ⟨u, ⟨x0, hx0, hk0, hs0, hd0⟩, hu⟩ := dist_step hd
    have hg0 : gt m x0.dst = some (d : Int) := (hm _ _).2 ⟨d, rfl, hd0 ▸ hu⟩
    rcases path_round n hn g kind tg a m out he hr (by omega) (.inr hat) kx kr f' with ⟨h1, _⟩ | ⟨x, e, h1, h2, h3, h4, h5, h6⟩
    · exact absurd ⟨hk0, hs0, d, hg0⟩ (h1 x0 hx0)
    · have hed : e = (d : Int) := by
        have h7 := h5 x0 hx0 hk0 hs0 d hg0
        obtain ⟨e', q1, q2⟩ := (hm _ _).1 h4
        have : ¬ e' < d := fun hlt => hd.2 (e' + 1) (by omega) ⟨x.dst, ⟨x, h1, h2, h3, rfl⟩, q2.1⟩
        omega
      subst hed
      obtain ⟨e', q1, q2⟩ := (hm _ _).1 h4
      have : e' = d := by omega
      subst this
      obtain ⟨p, p1, p2, p3⟩ := ih x.dst (out ++ [x.id]) f' q2 (by simp) (by omega) (by simp; omega)
      refine ⟨x :: p, by simp [p1], least_cons hr h1 h2 h3 p2 (fun y hy hky hsy ⟨q, w1, w2⟩ => ?_), h6.trans (p3.trans (by simp [ids]))⟩
      have hds := w1.ds
      rw [w2, p1] at hds
      obtain ⟨c, c1, c2⟩ := dist_of hds
      have hc : ¬ c < e' := fun hlt => hd.2 (c + 1) (by omega) ⟨y.dst, ⟨y, hy, hky, hsy, rfl⟩, c2.1⟩
      have hce : c = e' := by omega
      subst hce
      have := h5 y hy hky hsy c ((hm _ _).2 ⟨c, rfl, c2⟩)
      omega
theorem path_all (n : Nat) (hn : 200 ≤ n) (g : Graph) (kind : ByteArray) (a tg : Int) (hc : chkG g = 0) (htg : tg ∈ idsN g) (ha : (nodeIn g.nodes a).isSome = true) (ht : (nodeIn g.nodes tg).isSome = true) :
    (¬ Rc (stp kind g.edges) a tg ∧ q28z n (g, kind, a, tg, ()) = some ([], 5, ())) ∨
    ∃ p, p ≠ [] ∧ p.length ≤ 42 ∧ Least kind g.edges a tg p ∧ (∀ q, q ≠ [] → Wk kind g.edges a q tg → p.length ≤ q.length) ∧ q28z n (g, kind, a, tg, ()) = some (ids p, 0, ()) := by
  have hE := ends_of hc kind
  have hN := ids_len hc
  obtain ⟨h40, h60, h3, h4⟩ := chkG_0 hc
  have hr := (edgF_rise h4).2.1
  obtain ⟨k1, f1, g1⟩ := find_ok g a n (nodF_rise h3).2.1 h40 (by omega)
  obtain ⟨k2, f2, g2⟩ := find_ok g tg n (nodF_rise h3).2.1 h40 (by omega)
  have n1 : decide (k1 < 0) = false := by
    rw [g1.lt]
    cases hx : nodeIn g.nodes a with
    | none => rw [hx] at ha; cases ha
    | some x => rfl
  have n2 : decide (k2 < 0) = false := by
    rw [g2.lt]
    cases hx : nodeIn g.nodes tg with
    | none => rw [hx] at ht; cases ht
    | some x => rfl
  obtain ⟨m, hm, hm40, hs⟩ := path_s0 n (by omega) g kind a tg h60 hE hN (fun (v34, v35, v36, o37, o38, _) =>
  iterN (fun rc69 => q28z_s4 n rc69 (fun (o66, _) => some (o66, (0 : Int), ())) (fun (v67, v68, _) => some (v67, v68, ()))) (n) (v34, v36, v35, ((Ev.Graph.mk o37.1.nodes o37.1.edges o37.1.next), ()), ([] : List Int), o38, ())) n 0 (mpPut .i64 .i64 ([] : List (Int × Int)) tg 0) (fun v d => by
      rw [gt_put, gt_nil]
      constructor
      · intro h
        by_cases hv : v = tg
        · rw [if_pos hv] at h
          cases h
          exact ⟨0, rfl, Nat.le_refl _, hv, fun e he => absurd he (Nat.not_lt_zero _)⟩
        · rw [if_neg hv] at h; cases h
      · rintro ⟨e, e1, e2, e3⟩
        have : e = 0 := by omega
        subst this
        rw [if_pos (show v = tg from e3.1), e1]
        rfl) (by have := lack_le (idsN g) (mpPut .i64 .i64 ([] : List (Int × Int)) tg 0); omega) (by have := lack_le (idsN g) (mpPut .i64 .i64 ([] : List (Int × Int)) tg 0); omega)
  have hP : q28z n (g, kind, a, tg, ()) = iterN (fun rc69 => q28z_s4 n rc69 (fun (o66, _) => some (o66, (0 : Int), ())) (fun (v67, v68, _) => some (v67, v68, ()))) n (kind, tg, a, (g, ()), [], m, ()) := by
    unfold q28z
    dsimp only
    rw [Graph.eta, gcheck_ok g n (by omega), hc, Option.bind_some]
    dsimp only
    rw [show ((0 : Int) != 0) = false from rfl, cond_false, f1, Option.bind_some]
    dsimp only
    rw [n1, cond_false, f2, Option.bind_some]
    dsimp only
    rw [n2, cond_false]
    exact hs
  rw [hP]
  obtain ⟨f, hf⟩ : ∃ f, n = f + 1 := ⟨n - 1, by omega⟩
  have hrnd := fun (kx : List Int × Unit → Option (List Int × Int × Unit)) kr => path_round n (by omega) g kind tg a m [] h60 hr (by simp) (.inl rfl) kx kr f
  rw [← hf] at hrnd
  rcases hrnd (fun (o66, _) => some (o66, (0 : Int), ())) (fun (v67, v68, _) => some (v67, v68, ())) with ⟨h1, h2⟩ | ⟨x, e, h1, h2, h3, h4, h5, h6⟩
  · refine .inl ⟨fun w => ?_, h2⟩
    obtain ⟨u, d, ⟨x, q1, q2, q3, q4⟩, hu⟩ := rc_ds w
    obtain ⟨c, _, c2⟩ := dist_of hu
    exact h1 x q1 ⟨q2, q3, c, (hm _ _).2 ⟨c, rfl, q4 ▸ c2⟩⟩
  · obtain ⟨c, q1, q2⟩ := (hm _ _).1 h4
    subst q1
    have hc40 := hm40 _ _ h4
    obtain ⟨p, p1, p2, p3⟩ := path_on n (by omega) g kind tg m h60 hr hm (fun (o66, _) => some (o66, (0 : Int), ())) (fun (v67, v68, _) => some (v67, v68, ())) c x.dst [x.id] f q2 (by simp) (by omega) (by simp; omega)
    refine .inr ⟨x :: p, by simp, by simp; omega, least_cons hr h1 h2 h3 p2 (fun y hy hky hsy ⟨q, w1, w2⟩ => ?_), fun q hq hw => ?_, h6.trans (p3.trans (by simp [ids]))⟩
    · have hds := w1.ds
      obtain ⟨c', c1, c2⟩ := dist_of hds
      have := h5 y hy hky hsy c' ((hm _ _).2 ⟨c', rfl, c2⟩)
      omega
    · cases q with
      | nil => exact absurd rfl hq
      | cons y q =>
        obtain ⟨w1, w2, w3, w4⟩ := hw
        obtain ⟨c', c1, c2⟩ := dist_of w4.ds
        have := h5 y w1 w2 w3 c' ((hm _ _).2 ⟨c', rfl, c2⟩)
        simp
        omega
theorem path_who (n : Nat) (hn : 200 ≤ n) (g : Graph) (kind : ByteArray) (a tg : Int) (hc : chkG g = 0) (h : (nodeIn g.nodes a).isNone = true ∨ (nodeIn g.nodes tg).isNone = true) : q28z n (g, kind, a, tg, ()) = some ([], 5, ()) := by
  obtain ⟨h40, h60, h3, h4⟩ := chkG_0 hc
  obtain ⟨k1, f1, g1⟩ := find_ok g a n (nodF_rise h3).2.1 h40 (by omega)
  obtain ⟨k2, f2, g2⟩ := find_ok g tg n (nodF_rise h3).2.1 h40 (by omega)
  have e1 : decide (k1 < 0) = (nodeIn g.nodes a).isNone := g1.lt
  have e2 : decide (k2 < 0) = (nodeIn g.nodes tg).isNone := g2.lt
  unfold q28z
  dsimp only
  rw [Graph.eta, gcheck_ok g n (by omega), hc, Option.bind_some]
  dsimp only
  rw [show ((0 : Int) != 0) = false from rfl, cond_false, f1, Option.bind_some]
  dsimp only
  rw [e1]
  cases hx : (nodeIn g.nodes a).isNone with
  | true => rfl
  | false =>
    rw [hx] at h
    have h2 := h.resolve_left (by simp)
    rw [cond_false, f2, Option.bind_some]
    dsimp only
    rw [e2, h2]
    rfl
theorem path_err (n : Nat) (hn : 200 ≤ n) (g : Graph) (kind : ByteArray) (a tg : Int) (hc : (chkG g != 0) = true) : q28z n (g, kind, a, tg, ()) = some ([], chkG g, ()) := by
  unfold q28z
  dsimp only
  rw [Graph.eta, gcheck_ok g n (by omega), Option.bind_some]
  dsimp only
  rw [hc]
  rfl
end Pure

/- Plain: the document's ways, level by level; the law of Path. No program. -/
namespace Pure
open Esp Ev Go
set_option linter.unusedSimpArgs false
set_option linter.unusedVariables false
set_option linter.unusedSimpArgs false
set_option linter.unusedVariables false
/-! ## sets of numbers -/
def ti (ks : List Int) : List (Int × Bool) := ks.map fun k => (k, true)
theorem get_ti (ks : List Int) (k : Int) : mpGet .i64 .bool false (ti ks) k = decide (k ∈ ks) := by
  induction ks with
  | nil => rfl
  | cons a r ih =>
    show (bif ((k : Int) == (a : Int)) then true else mpGet .i64 .bool false (ti r) k) = _
    rw [ih]
    by_cases h : k = a
    · simp [h]
    · simp [h]
theorem put_ti (ks : List Int) (k : Int) (hk : k ∉ ks) : mpPut .i64 .bool (ti ks) k true = ti (ks ++ [k]) := by
  induction ks with
  | nil => rfl
  | cons a r ih =>
    show (bif ((k : Int) == (a : Int)) then (k, true) :: ti r else (a, true) :: mpPut .i64 .bool (ti r) k true) = _
    have h1 : k ≠ a := fun e => hk (by simp [e])
    rw [ih (fun h => hk (by simp [h])), show ((k : Int) == (a : Int)) = false by simpa using h1]
    rfl
theorem len_ofI {l m : List Int} (hl : l.Nodup) (h : ∀ x ∈ l, x ∈ m) : l.length ≤ m.length := by
  induction l generalizing m with
  | nil => simp
  | cons a r ih =>
    have ha : a ∈ m := h a (by simp)
    have h1 := ih (m := m.erase a) (List.nodup_cons.1 hl).2 fun x hx => (List.mem_erase_of_ne fun e : x = a => (List.nodup_cons.1 hl).1 (e ▸ hx)).2 (h x (by simp [hx]))
    rw [List.length_erase_of_mem ha] at h1
    have : 0 < m.length := List.length_pos_of_mem ha
    simp; omega
/-! ## the ways of a level -/
def endOf (l : List Edg) (a : Int) (w : List Int) : Int := match w.getLast? with
  | some i => match edgeIn l i with
    | some x => x.dst
    | none => a
  | none => a
theorem endOf_ids {kind : ByteArray} {l : List Edg} (hr : Rise Edg.id l) {a : Int} {q : List Edg} {v : Int} (h : Wk kind l a q v) : endOf l a (ids q) = v := by
  rcases List.eq_nil_or_concat q with rfl | ⟨p, x, rfl⟩
  · exact h
  · rw [List.concat_eq_append] at *
    obtain ⟨_, hx, _, hd⟩ := h.split
    unfold endOf
    rw [show (ids (p ++ [x])).getLast? = some x.id by simp [ids]]
    dsimp only
    rw [show edgeIn l x.id = some x from find_rise hr hx rfl]
    exact hd
def isW (kind : ByteArray) (l : List Edg) (a : Int) (j : Nat) (w : List Int) : Prop := ∃ q v, Wk kind l a q v ∧ q.length = j ∧ w = ids q
theorem rp_s4 (n : Nat) (g : Graph) (kind : ByteArray) (v39 v40 : Int) (v41 : List Int) (v42 : Int) (w : List Int) (u : Int) (v45 : List (List Int)) (v46 v47 : Int) (o53 : List (Int × Bool)) (hw : w.length ≤ 100) {ρ : Type}
    (K : ByteArray × Int × Int × (List Int) × Int × (List Int) × Int × (List (List Int)) × Int × Int × (Graph × Unit) × (List (List Int)) × (List (Int × Bool)) × Unit → Option ρ) :
    ∀ (r : List Edg) (i : Int) (lo : List (List Int)), lo.length + r.length ≤ 100000 → foldK (F_q7z_s4 n (fun (_) => none)) K i r (kind, v39, v40, v41, v42, w, u, v45, v46, v47, (g, ()), lo, o53, ()) =
      K (kind, v39, v40, v41, v42, w, u, v45, v46, v47, (g, ()), lo ++ (r.filter fun x => decide (x.src = u) && kd kind x).map (fun x => w ++ [x.id]), o53, ()) := by
  intro r
  induction r with
  | nil => intro i lo _; simp [foldK]
  | cons x r ih =>
    intro i lo hl
    rw [List.length_cons] at hl
    rw [foldK]
    have hF : ∀ (rec : _ → Option ρ), F_q7z_s4 n (fun (_) => none) i x (kind, v39, v40, v41, v42, w, u, v45, v46, v47, (g, ()), lo, o53, ()) rec = bif ((x.src : Int) == u) && kd kind x then (q1z (w, ())).bind fun (o55, _) => ck (room (o55 ++ ([x.id] : List Int)).length 8) (ck (room (lo ++ ([o55 ++ ([x.id] : List Int)] : List (List Int))).length 24) (rec (kind, v39, v40, v41, v42, w, u, v45, v46, v47, (g, ()), lo ++ ([o55 ++ ([x.id] : List Int)] : List (List Int)), o53, ()))) else rec (kind, v39, v40, v41, v42, w, u, v45, v46, v47, (g, ()), lo, o53, ()) := fun _ => rfl
    rw [hF, List.filter_cons]
    cases hb : ((x.src : Int) == u) && kd kind x with
    | false =>
      rw [cond_false, ih (i + 1) lo (by omega)]
      simp
    | true =>
      have hrm : room (lo ++ [w ++ [x.id]]).length 24 = true := by
        unfold room
        rw [Bool.and_eq_true]
        exact ⟨Nat.ble_eq_true_of_le (by simp; omega), Nat.ble_eq_true_of_le (by simp; omega)⟩
      rw [cond_true, set_clone w (by omega), Option.bind_some]
      dsimp only
      rw [ck_ok (room8 (by simp; omega)), ck_ok hrm, ih (i + 1) (lo ++ [w ++ [x.id]]) (by simp; omega)]
      simp
theorem rp_s2 (n : Nat) (hn : 100 ≤ n) (g : Graph) (kind : ByteArray) (a v24 : Int) (v25 : List Int) (v26 : Int) (h60 : g.edges.length ≤ 60) (hr : Rise Edg.id g.edges) (hE : Ends (stp kind g.edges) (idsN g)) (hN : (idsN g).length ≤ 40) (haN : a ∈ idsN g) (j : Nat) (hj : j ≤ 60) (ways : List (List Int)) (hwl : ways.length ≤ 1000000)
    (hW : ∀ w ∈ ways, isW kind g.edges a j w) {ρ : Type} (K : ByteArray × Int × Int × (List Int) × Int × (Graph × Unit) × (List (List Int)) × Unit → Option ρ) :
    ∀ (r p : List (List Int)) (fuel : Nat) (lo : List (List Int)) (sn : List Int), ways = p ++ r → r.length < fuel → sn.Nodup → (∀ u, u ∈ sn ↔ ∃ w ∈ p, endOf g.edges a w = u) → lo.length ≤ 60 * sn.length → (∀ w ∈ lo, isW kind g.edges a (j + 1) w) →
      (∀ p1 w p2, p = p1 ++ w :: p2 → (∀ w' ∈ p1, endOf g.edges a w' ≠ endOf g.edges a w) → ∀ x ∈ g.edges, kd kind x = true → x.src = endOf g.edges a w → w ++ [x.id] ∈ lo) →
      ∃ lo', lo'.length ≤ 2400 ∧ (∀ w ∈ lo', isW kind g.edges a (j + 1) w) ∧ (∀ p1 w p2, ways = p1 ++ w :: p2 → (∀ w' ∈ p1, endOf g.edges a w' ≠ endOf g.edges a w) → ∀ x ∈ g.edges, kd kind x = true → x.src = endOf g.edges a w → w ++ [x.id] ∈ lo') ∧
        iterN (fun rc => q7z_s2 n rc (fun (v80, v81, v82, v83, v84, o85, o86, _) => K (v80, v81, v82, v83, v84, o85, o86, ())) (fun (_) => none)) fuel (kind, a, v24, v25, v26, ways, (ways.length : Int), (p.length : Int), (g, ()), lo, ti sn, ()) = K (kind, a, v24, v25, v26, (g, ()), lo', ()) := by
  intro r
  induction r with
  | nil =>
    intro p fuel lo sn hp hf hnd hsn hll hlo hex
    obtain ⟨f, rfl⟩ : ∃ f, fuel = f + 1 := ⟨fuel - 1, by omega⟩
    have hsn40 : sn.length ≤ 40 := by
      refine Nat.le_trans (len_ofI hnd fun u hu => ?_) hN
      obtain ⟨w, hw, rfl⟩ := (hsn u).1 hu
      obtain ⟨q, v, h1, h2, rfl⟩ := hW w (by rw [hp]; simp [hw])
      rw [endOf_ids hr h1]
      cases q with
      | nil => cases h1; exact haN
      | cons y q => exact hE.q (Wk.rc (by simp) h1)
    refine ⟨lo, by omega, hlo, fun p1 w p2 h1 => hex p1 w p2 (by rw [← h1, hp, List.append_nil]), ?_⟩
    rw [iterN]
    unfold q7z_s2
    dsimp only
    rw [show decide ((p.length : Int) < (ways.length : Int)) = false by rw [hp]; simp, cond_false, Graph.eta]
  | cons w r ih =>
    intro p fuel lo sn hp hf hnd hsn hll hlo hex
    obtain ⟨f, rfl⟩ : ∃ f, fuel = f + 1 := ⟨fuel - 1, by omega⟩
    have hlen : ways.length = p.length + (r.length + 1) := by rw [hp]; simp
    have e3 : IntKind.wrap .i64 ((p.length : Int) + 1) = ((p ++ [w]).length : Int) := by rw [wrap64 (by omega) (by omega)]; simp
    obtain ⟨q, v, hq1, hq2, hq3⟩ := hW w (by rw [hp]; simp)
    have hwe : endOf g.edges a w = v := by rw [hq3]; exact endOf_ids hr hq1
    have hwlen : w.length = j := by rw [hq3]; simp [ids, hq2]
    have hsn40 : sn.length ≤ 40 := by
      refine Nat.le_trans (len_ofI hnd fun u hu => ?_) hN
      obtain ⟨w, hw, rfl⟩ := (hsn u).1 hu
      obtain ⟨q, v, h1, h2, rfl⟩ := hW w (by rw [hp]; simp [hw])
      rw [endOf_ids hr h1]
      cases q with
      | nil => cases h1; exact haN
      | cons y q => exact hE.q (Wk.rc (by simp) h1)
    have next : ∀ (u : Int), u = v → (bif mpGet .i64 .bool false (ti sn) u then iterN (fun rc => q7z_s2 n rc (fun (v80, v81, v82, v83, v84, o85, o86, _) => K (v80, v81, v82, v83, v84, o85, o86, ())) (fun (_) => none)) f (kind, a, v24, v25, v26, ways, (ways.length : Int), ((p ++ [w]).length : Int), (g, ()), lo, ti sn, ())
        else iterN (fun rc67 => q7z_s4 n rc67 (fun (v56, v57, v58, v59, v60, v61, v62, v63, o64, o65, o66, _) => iterN (fun rc => q7z_s2 n rc (fun (v80, v81, v82, v83, v84, o85, o86, _) => K (v80, v81, v82, v83, v84, o85, o86, ())) (fun (_) => none)) f (v56, v57, v58, v59, v60, v61, v62, IntKind.wrap .i64 (v63 + 1), ((Ev.Graph.mk o64.1.nodes o64.1.edges o64.1.next), ()), o65, o66, ())) (fun (_) => none)) n (kind, a, v24, v25, v26, w, u, ways, (ways.length : Int), (p.length : Int), g.edges, (g.edges.length : Int), 0, (g, ()), lo, mpPut .i64 .bool (ti sn) u true, ())) =
        iterN (fun rc => q7z_s2 n rc (fun (v80, v81, v82, v83, v84, o85, o86, _) => K (v80, v81, v82, v83, v84, o85, o86, ())) (fun (_) => none)) f (kind, a, v24, v25, v26, ways, (ways.length : Int), ((p ++ [w]).length : Int), (g, ()), (if v ∈ sn then lo else lo ++ (g.edges.filter fun x => decide (x.src = v) && kd kind x).map (fun x => w ++ [x.id])), ti (if v ∈ sn then sn else sn ++ [v]), ()) := by
      rintro u rfl
      rw [get_ti]
      by_cases hs : u ∈ sn
      · rw [decide_eq_true hs, cond_true, if_pos hs, if_pos hs]
      · rw [decide_eq_false hs, cond_false, if_neg hs, if_neg hs, put_ti _ _ hs, R_q7z_s4 n _ _ g.edges n _ _ _ _ _ _ _ _ _ _ _ _ _ (by omega) (by omega)]
        refine (rp_s4 n g kind a v24 v25 v26 w u ways (ways.length : Int) (p.length : Int) (ti (sn ++ [u])) (by omega) _ g.edges 0 lo (by omega)).trans ?_
        dsimp only
        rw [e3]
    have hsn' : ∀ u, u ∈ (if v ∈ sn then sn else sn ++ [v]) ↔ ∃ w' ∈ p ++ [w], endOf g.edges a w' = u := fun u => by
      have h1 : u ∈ (if v ∈ sn then sn else sn ++ [v]) ↔ u ∈ sn ∨ u = v := by
        split
        · rename_i h
          exact ⟨.inl, fun hh => hh.elim id fun e => e ▸ h⟩
        · simp
      rw [h1, hsn]
      constructor
      · rintro (⟨w', h2, h3⟩ | rfl)
        · exact ⟨w', by simp [h2], h3⟩
        · exact ⟨w, by simp, hwe⟩
      · rintro ⟨w', h2, h3⟩
        rcases List.mem_append.1 h2 with h2 | h2
        · exact .inl ⟨w', h2, h3⟩
        · rw [List.mem_singleton] at h2
          subst h2
          exact .inr (h3.symm.trans hwe)
    obtain ⟨lo', i1, i2, i3, i4⟩ := ih (p ++ [w]) f (if v ∈ sn then lo else lo ++ (g.edges.filter fun x => decide (x.src = v) && kd kind x).map (fun x => w ++ [x.id])) (if v ∈ sn then sn else sn ++ [v]) (by simp [hp]) (by simp at hf; omega) (by
        split
        · exact hnd
        · rename_i h
          rw [List.nodup_append]
          refine ⟨hnd, by simp, fun x hx y hy => ?_⟩
          simp at hy
          subst hy
          exact fun e => h (e ▸ hx)) hsn' (by
        split
        · exact hll
        · have := List.length_filter_le (fun x => decide (x.src = v) && kd kind x) g.edges
          simp at this ⊢
          omega) (fun z hz => by
        split at hz
        · exact hlo z hz
        · rcases List.mem_append.1 hz with hz | hz
          · exact hlo z hz
          · obtain ⟨x, hx, rfl⟩ := List.mem_map.1 hz
            obtain ⟨hx1, hx2⟩ := List.mem_filter.1 hx
            rw [Bool.and_eq_true, decide_eq_true_iff] at hx2
            exact ⟨q ++ [x], x.dst, hq1.app ⟨hx1, hx2.2, hx2.1, rfl⟩, by simp [hq2], by simp [ids, hq3]⟩) (fun p1 z p2 h1 h2 x hx hkx hsx => by
        rcases List.eq_nil_or_concat p2 with rfl | ⟨p3, y, rfl⟩
        · have e := h1
          rw [show p1 ++ [z] = p1 ++ [z] from rfl] at e
          obtain ⟨e1, e2⟩ := List.append_inj' e rfl
          cases e2
          subst e1
          have hvn : v ∉ sn := fun hv => by
            obtain ⟨w', hw', hw2⟩ := (hsn v).1 hv
            exact h2 w' hw' (hw2.trans hwe.symm)
          rw [if_neg hvn]
          refine List.mem_append.2 (.inr (List.mem_map.2 ⟨x, List.mem_filter.2 ⟨hx, ?_⟩, rfl⟩))
          rw [Bool.and_eq_true, decide_eq_true_iff]
          exact ⟨hsx.trans hwe, hkx⟩
        · rw [List.concat_eq_append, ← List.cons_append, ← List.append_assoc] at h1
          obtain ⟨e1, _⟩ := List.append_inj' h1 rfl
          have := hex p1 z p3 e1 h2 x hx hkx hsx
          split
          · exact this
          · exact List.mem_append.2 (.inl this))
    refine ⟨lo', i1, i2, i3, ?_⟩
    rw [iterN]
    unfold q7z_s2
    dsimp only
    rw [show decide ((p.length : Int) < (ways.length : Int)) = true by rw [decide_eq_true_iff]; omega, cond_true, ix_ok (x := w) (by rw [hp]; simp), Option.bind_some, Graph.eta, e3]
    refine Eq.trans ?_ i4
    rcases List.eq_nil_or_concat q with rfl | ⟨q', x, rfl⟩
    · have hw0 : w = [] := hq3
      have hva : a = v := hq1
      rw [show decide ((w.length : Int) > 0) = false by rw [hw0]; rfl, cond_false]
      exact next a hva
    · rw [List.concat_eq_append] at *
      obtain ⟨_, hx, _, hd⟩ := hq1.split
      have hwx : w = ids q' ++ [x.id] := by rw [hq3]; simp [ids]
      have hq'l : (ids q').length ≤ 1000000 := by have := congrArg List.length hwx; rw [hwlen] at this; simp at this; simp [ids]; omega
      rw [show decide ((w.length : Int) > 0) = true by rw [hwx, decide_eq_true_iff]; simp, cond_true]
      have hix : ix w (IntKind.wrap .i64 ((w.length : Int) - 1)) = some x.id := by rw [hwx]; exact pop_ix _ _ hq'l
      rw [hix, Option.bind_some, edgeAt_ok g x.id n h60 (by omega), show edgeIn g.edges x.id = some x from find_rise hr hx rfl, Option.bind_some]
      exact next x.dst hd
end Pure

/- Plain: the law of Path. No program. -/
namespace Pure
open Esp Ev Go
set_option linter.unusedSimpArgs false
set_option linter.unusedVariables false
set_option linter.unusedSimpArgs false
set_option linter.unusedVariables false
theorem lt_app {x y : List Int} : ∀ (a b : Int), x.length = y.length → ltLL x y = true → ltLL (x ++ [a]) (y ++ [b]) = true := by
  induction x generalizing y with
  | nil =>
    intro a b h1 h2
    cases y with
    | nil => rw [ltLL_nil] at h2; cases h2
    | cons c r => simp at h1
  | cons c r ih =>
    intro a b h1 h2
    cases y with
    | nil => simp at h1
    | cons e s =>
      rw [List.cons_append, List.cons_append, ltLL_cons]
      rcases (ltLL_cons c e r s).1 h2 with h | ⟨rfl, h⟩
      · exact .inl h
      · exact .inr ⟨rfl, ih a b (by simpa using h1) h⟩
theorem least_split {kind : ByteArray} {l : List Edg} {a v : Int} {q : List Edg} {x : Edg} (h : Least kind l a v (q ++ [x])) : Least kind l a x.src q ∧ x ∈ l ∧ kd kind x = true ∧ x.dst = v := by
  obtain ⟨h1, h2, h3, h4⟩ := h.1.split
  refine ⟨⟨h1, fun p hp hl => ?_⟩, h2, h3, h4⟩
  cases hlt : ltLL (ids p) (ids q) with
  | false => rfl
  | true =>
    have h5 := h.2 (p ++ [x]) (hp.app ⟨h2, h3, rfl, h4⟩) (by simp [hl])
    rw [show ids (p ++ [x]) = ids p ++ [x.id] by simp [ids], show ids (q ++ [x]) = ids q ++ [x.id] by simp [ids], lt_app x.id x.id (by simp [ids, hl]) hlt] at h5
    cases h5
structure Lvl (kind : ByteArray) (l : List Edg) (a : Int) (j : Nat) (ways : List (List Int)) : Prop where
  w : ∀ w ∈ ways, isW kind l a j w
  s : ways.Pairwise fun x y => ltLL y x = false
  c : ∀ v q, Least kind l a v q → q.length = j → ids q ∈ ways
theorem Lvl.first {kind : ByteArray} {l : List Edg} (hr : Rise Edg.id l) {a : Int} {j : Nat} {ways : List (List Int)} (h : Lvl kind l a j ways) {v : Int} {q : List Edg} (hq : Least kind l a v q) (hj : q.length = j) :
    ∃ p1 p2, ways = p1 ++ ids q :: p2 ∧ ∀ w' ∈ p1, endOf l a w' ≠ v := by
  have hm := h.c v q hq hj
  have hfind : ∃ p1 w p2, ways = p1 ++ w :: p2 ∧ endOf l a w = v ∧ ∀ w' ∈ p1, endOf l a w' ≠ v := by
    have key : ∀ (ws : List (List Int)), (∃ w ∈ ws, endOf l a w = v) → ∃ p1 w p2, ws = p1 ++ w :: p2 ∧ endOf l a w = v ∧ ∀ w' ∈ p1, endOf l a w' ≠ v := by
      intro ws
      induction ws with
      | nil => rintro ⟨w, hw, _⟩; cases hw
      | cons y r ih =>
        rintro ⟨w, hw, he⟩
        by_cases hy : endOf l a y = v
        · exact ⟨[], y, r, rfl, hy, fun w' hw' => by cases hw'⟩
        · have hwr : w ∈ r := (List.mem_cons.1 hw).resolve_left fun e => hy (e ▸ he)
          obtain ⟨p1, w1, p2, h1, h2, h3⟩ := ih ⟨w, hwr, he⟩
          refine ⟨y :: p1, w1, p2, by rw [h1]; rfl, h2, fun w' hw' => ?_⟩
          rcases List.mem_cons.1 hw' with rfl | hw'
          · exact hy
          · exact h3 w' hw'
    exact key ways ⟨ids q, hm, endOf_ids hr hq.1⟩
  obtain ⟨p1, w, p2, h1, h2, h3⟩ := hfind
  have hw : w = ids q := by
    obtain ⟨q', v', w1, w2, rfl⟩ := h.w w (by rw [h1]; simp)
    have hv : v' = v := (endOf_ids hr w1).symm.trans h2
    subst hv
    have e1 := hq.2 q' w1 (w2.trans hj.symm)
    have e2 : ltLL (ids q) (ids q') = false := by
      have hs := h.s
      rw [h1] at hs hm
      rcases List.mem_append.1 hm with hm | hm
      · exact absurd (endOf_ids hr hq.1) (h3 _ hm)
      · rcases List.mem_cons.1 hm with e | hm
        · rw [e]; exact ltLL_ok.irrefl _
        · exact List.rel_of_pairwise_cons (List.pairwise_append.1 hs).2.1 hm
    exact ltLL_ok.anti _ _ e1 e2
  subst hw
  exact ⟨p1, p2, h1, h3⟩
theorem sfLL_some (l : List (List Int)) (h : l.length ≤ 1000000) (h2 : ∀ x ∈ l, x.length ≤ 1000000) : sfLL (l, ()) = some (sortL ltLL l, ()) := by
  unfold sfLL
  dsimp only
  rw [Nat.ble_eq_true_of_le (by omega), Bool.true_and, List.all_eq_true.2 fun x hx => Nat.ble_eq_true_of_le (h2 x hx), cond_true]
theorem equalI_ok (l : List Int) (n : Nat) (h : l.length ≤ 1000) (hn : l.length < n) : q8z n (l, l, ()) = some (true, ()) := by
  unfold q8z
  dsimp only
  rw [show ((l.length : Int) != (l.length : Int)) = false from by simp, cond_false]
  rw [R_q8z_s0 n _ _ l n l (by omega) hn]
  have key : ∀ (r p : List Int), l = p ++ r → foldK (F_q8z_s0 n (fun (v11, _) => some (v11, ()))) (fun (v4, _) => some (true, ())) (p.length : Int) r (l, ()) = some (true, ()) := by
    intro r
    induction r with
    | nil => intro p _; rfl
    | cons x r ih =>
      intro p hp
      have e1 : ((p.length : Int) + 1) = ((p ++ [x]).length : Int) := by simp
      have e2 : ix l (p.length : Int) = some x := ix_ok (by rw [hp]; simp)
      rw [foldK, e1]
      unfold F_q8z_s0
      dsimp only
      rw [e2, Option.bind_some, show ((x : Int) != x) = false by simp]
      exact ih (p ++ [x]) (by simp [hp])
  exact key l [] rfl
theorem rp_s6 (n : Nat) (hn : 100 ≤ n) (g : Graph) (kind : ByteArray) (a tg : Int) (p : List Edg) (hp42 : p.length ≤ 42) (h60 : g.edges.length ≤ 60) (hr : Rise Edg.id g.edges) (hp : Least kind g.edges a tg p) (hpn : p ≠ []) (hmin : ∀ q, q ≠ [] → Wk kind g.edges a q tg → p.length ≤ q.length) (j : Nat) (hj : j + 1 ≤ p.length) (v93 : List (List Int)) {ρ : Type}
    (K : ByteArray × Int × Int × (List Int) × Int × (List (List Int)) × (Graph × Unit) × Unit → Option ρ) (kr : Bool × Unit → Option ρ) (ways : List (List Int)) (hL : Lvl kind g.edges a (j + 1) ways) :
    foldK (F_q7z_s6 n kr) K 0 ways (kind, a, tg, ids p, 0, v93, (g, ()), ()) = if j + 1 = p.length then kr (true, ()) else K (kind, a, tg, ids p, 0, v93, (g, ()), ()) := by
  have hF : ∀ (i : Int) (w : List Int) (x : Edg) (q : List Int) (rec : _ → Option ρ), w = q ++ [x.id] → q.length ≤ 1000 → x ∈ g.edges → F_q7z_s6 n kr i w (kind, a, tg, ids p, 0, v93, (g, ()), ()) rec = bif (x.dst : Int) == tg then (q8z n (ids p, w, ())).bind fun (y103, _) => kr (y103, ()) else rec (kind, a, tg, ids p, 0, v93, (g, ()), ()) := by
    rintro i w x q rec rfl hql hx
    unfold F_q7z_s6
    dsimp only
    rw [pop_ix q x.id (by omega), Option.bind_some, Graph.eta, edgeAt_ok g x.id n h60 (by omega), show edgeIn g.edges x.id = some x from find_rise hr hx rfl, Option.bind_some]
    rfl
  have sp : ∀ w ∈ ways, ∃ q x, w = q ++ [x.id] ∧ q.length ≤ 1000 ∧ x ∈ g.edges ∧ x.dst = endOf g.edges a w := fun w hw => by
    obtain ⟨q, v, w1, w2, rfl⟩ := hL.w w hw
    rcases List.eq_nil_or_concat q with rfl | ⟨q', x, rfl⟩
    · simp at w2
    · rw [List.concat_eq_append] at *
      obtain ⟨_, h1, _, h3⟩ := w1.split
      simp at w2
      exact ⟨ids q', x, by simp [ids], by simp [ids]; omega, h1, by rw [endOf_ids hr w1]; exact h3⟩
  by_cases he : j + 1 = p.length
  · rw [if_pos he]
    obtain ⟨p1, p2, h1, h2⟩ := hL.first hr hp he.symm
    have key : ∀ (r : List (List Int)) (i : Int), (∀ w ∈ r, w ∈ ways ∧ endOf g.edges a w ≠ tg) → foldK (F_q7z_s6 n kr) K i (r ++ ids p :: p2) (kind, a, tg, ids p, 0, v93, (g, ()), ()) = kr (true, ()) := by
      intro r
      induction r with
      | nil =>
        intro i _
        obtain ⟨q, x, e1, e2, e3, e4⟩ := sp (ids p) (by rw [h1]; simp)
        rw [List.nil_append, foldK, hF i (ids p) x q _ e1 e2 e3, e4, endOf_ids hr hp.1, beq_self_eq_true, cond_true, equalI_ok (ids p) n (by simp [ids]; omega) (by simp [ids]; omega)]
        rfl
      | cons y r ih =>
        intro i hy
        obtain ⟨q, x, e1, e2, e3, e4⟩ := sp y (hy y (by simp)).1
        rw [List.cons_append, foldK, hF i y x q _ e1 e2 e3, e4, show ((endOf g.edges a y : Int) == tg) = false by simpa using (hy y (by simp)).2, cond_false]
        exact ih (i + 1) fun w hw => hy w (by simp [hw])
    rw [h1]
    exact key p1 0 fun w hw => ⟨by rw [h1]; simp [hw], h2 w hw⟩
  · rw [if_neg he]
    have hno : ∀ w ∈ ways, endOf g.edges a w ≠ tg := fun w hw e => by
      obtain ⟨q, v, w1, w2, rfl⟩ := hL.w w hw
      rw [endOf_ids hr w1] at e
      subst e
      have := hmin q (by rintro rfl; simp at w2) w1
      omega
    have key : ∀ (r : List (List Int)) (i : Int), (∀ w ∈ r, w ∈ ways) → foldK (F_q7z_s6 n kr) K i r (kind, a, tg, ids p, 0, v93, (g, ()), ()) = K (kind, a, tg, ids p, 0, v93, (g, ()), ()) := by
      intro r
      induction r with
      | nil => intro i _; rfl
      | cons y r ih =>
        intro i hy
        obtain ⟨q, x, e1, e2, e3, e4⟩ := sp y (hy y (by simp))
        rw [foldK, hF i y x q _ e1 e2 e3, e4, show ((endOf g.edges a y : Int) == tg) = false by simpa using hno y (hy y (by simp)), cond_false]
        exact ih (i + 1) fun w hw => hy w (by simp [hw])
    exact key ways 0 fun w hw => hw
theorem rp_s0 (n : Nat) (hn : 10000 ≤ n) (g : Graph) (kind : ByteArray) (a tg : Int) (p : List Edg) (hp42 : p.length ≤ 42) (h60 : g.edges.length ≤ 60) (hr : Rise Edg.id g.edges) (hE : Ends (stp kind g.edges) (idsN g)) (hN : (idsN g).length ≤ 40) (haN : a ∈ idsN g) (hp : Least kind g.edges a tg p) (hpn : p ≠ []) (hmin : ∀ q, q ≠ [] → Wk kind g.edges a q tg → p.length ≤ q.length) {ρ : Type} (kx : Unit → Option ρ) (kr : Bool × Unit → Option ρ) :
    ∀ (fuel j : Nat) (ways : List (List Int)), Lvl kind g.edges a j ways → ways.length ≤ 2400 → j < p.length → p.length - j ≤ fuel →
      iterN (fun rc => q7z_s0 n rc kx kr) fuel (kind, a, tg, ids p, 0, ways, (g, ()), ()) = kr (true, ()) := by
  intro fuel
  induction fuel with
  | zero => intro j ways _ _ h1 h2; omega
  | succ f ih =>
    intro j ways hL hwl hj hf
    rw [iterN]
    unfold q7z_s0
    dsimp only
    rw [Graph.eta]
    obtain ⟨lo, l1, l2, l3, l4⟩ := rp_s2 n (by omega) g kind a tg (ids p) 0 h60 hr hE hN haN j (by omega) ways (by omega) hL.w (fun (v80, v81, v82, v83, v84, o85, o86, _) =>
  (sfLL (o86, ())).bind fun (o87, _) =>
  iterN (fun rc112 => q7z_s6 n rc112 (fun (v104, v105, v106, v107, v108, v109, o110, _) => iterN (fun rc => q7z_s0 n rc kx kr) f (v104, v105, v106, v107, v108, v109, ((Ev.Graph.mk o110.1.nodes o110.1.edges o110.1.next), ()), ())) (fun (v111, _) => kr (v111, ()))) (n) (v80, v81, v82, v83, v84, o87, o87, (o87.length : Int), 0, ((Ev.Graph.mk o85.1.nodes o85.1.edges o85.1.next), ()), ())) ways [] n [] [] rfl (by omega) List.nodup_nil (fun u => by simp) (by simp) (fun w hw => by cases hw) (fun p1 w p2 h => by simp at h)
    refine l4.trans ?_
    dsimp only
    have hlen : ∀ w ∈ lo, w.length ≤ 1000000 := fun w hw => by
      obtain ⟨q, v, _, h2, rfl⟩ := l2 w hw
      simp [ids]
      omega
    rw [sfLL_some lo (by omega) hlen, Option.bind_some]
    dsimp only
    have hsl : (sortL ltLL lo).length = lo.length := sortL_length ltLL lo
    have hL' : Lvl kind g.edges a (j + 1) (sortL ltLL lo) := by
      refine ⟨fun w hw => l2 w ((sortL_perm ltLL lo).mem_iff.1 hw), sortL_pair ltLL_ok lo, fun v q hq hqj => (sortL_perm ltLL lo).mem_iff.2 ?_⟩
      rcases List.eq_nil_or_concat q with rfl | ⟨q', x, rfl⟩
      · simp at hqj
      · rw [List.concat_eq_append] at *
        obtain ⟨h1, h2, h3, h4⟩ := least_split hq
        obtain ⟨p1, p2, h5, h6⟩ := hL.first hr h1 (by simpa using hqj)
        have := l3 p1 (ids q') p2 h5 (by rw [endOf_ids hr h1.1]; exact h6) x h2 h3 (endOf_ids hr h1.1).symm
        rw [show ids (q' ++ [x]) = ids q' ++ [x.id] by simp [ids]]
        exact this
    rw [R_q7z_s6 n _ _ (sortL ltLL lo) n _ _ _ _ _ _ _ (by omega) (by omega)]
    refine (rp_s6 n (by omega) g kind a tg p hp42 h60 hr hp hpn hmin j (by omega) (sortL ltLL lo) _ _ (sortL ltLL lo) hL').trans ?_
    by_cases he : j + 1 = p.length
    · rw [if_pos he]
    · rw [if_neg he]
      dsimp only
      exact ih (j + 1) (sortL ltLL lo) hL' (by omega) (by omega) (by omega)
theorem ReachPath_ok (g : Graph) (kind : ByteArray) (a tg : Int) (n : Nat) (hn : 100100 ≤ n) : q7z n (g, kind, a, tg, ()) = some (true, ()) := by
  unfold q7z
  dsimp only
  rw [Graph.eta]
  cases h1 : chkG g != 0 with
  | true =>
    rw [path_err n (by omega) g kind a tg h1, Option.bind_some]
    dsimp only
    rw [rgcheck_ok g n (by omega), Option.bind_some]
    dsimp only
    rw [reachedF n hn, Option.bind_some]
    dsimp only
    rw [h1, Bool.or_true, cond_true, Option.bind_some]
    dsimp only
    rw [beq_self_eq_true]
    rfl
  | false =>
    have hc : chkG g = 0 := by simpa using h1
    obtain ⟨h40, h60, h3, h4⟩ := chkG_0 hc
    have fin : ∀ (y5 : List Int) (y6 : Int) (o : Option (Bool × Unit)), q28z n (g, kind, a, tg, ()) = some (y5, y6, ()) →
        ((optC (nodeIn g.nodes a) (some (((y6 : Int) == 5) && (((y5.length : Int) : Int) == 0), ())) (fun z11 =>
  (q13z n (g, tg, ())).bind fun (y12, _) =>
  optC y12 (some (((y6 : Int) == 5) && (((y5.length : Int) : Int) == 0), ())) (fun z13 =>
  (q10z n (g, kind, ())).bind fun (y14, _) =>
  (bif !(mpGet .pair .bool false y14 (Ev.Pair.mk a tg)) then some (((y6 : Int) == 5) && (((y5.length : Int) : Int) == 0), ())
  else
  iterN (fun rc115 => q7z_s0 n rc115 (fun (_) => none) (fun (v114, _) => some (v114, ()))) (n) (kind, a, tg, y5, y6, ([([] : List Int)] : List (List Int)), (g, ()), ()))))) = o) →
        ((q28z n (g, kind, a, tg, ())).bind fun (y5, y6, _) =>
  (q4z n (g, ())).bind fun (y7, _) =>
  (q9z n (())).bind fun (y8, _) =>
  (bif (!y8) || ((y7 : Int) != 0) then
  (q9z n (())).bind fun (y9, _) => some ((y9 && ((y6 : Int) == y7)) && (((y5.length : Int) : Int) == 0), ())
  else
  (q13z n (g, a, ())).bind fun (y10, _) =>
  optC y10 (some (((y6 : Int) == 5) && (((y5.length : Int) : Int) == 0), ())) (fun z11 =>
  (q13z n (g, tg, ())).bind fun (y12, _) =>
  optC y12 (some (((y6 : Int) == 5) && (((y5.length : Int) : Int) == 0), ())) (fun z13 =>
  (q10z n (g, kind, ())).bind fun (y14, _) =>
  (bif !(mpGet .pair .bool false y14 (Ev.Pair.mk a tg)) then some (((y6 : Int) == 5) && (((y5.length : Int) : Int) == 0), ())
  else
  iterN (fun rc115 => q7z_s0 n rc115 (fun (_) => none) (fun (v114, _) => some (v114, ()))) (n) (kind, a, tg, y5, y6, ([([] : List Int)] : List (List Int)), (g, ()), ())))))) = o := by
      intro y5 y6 o e1 e2
      rw [e1, Option.bind_some]
      dsimp only
      rw [rgcheck_ok g n (by omega), hc, Option.bind_some]
      dsimp only
      rw [reachedF n hn, Option.bind_some]
      dsimp only
      rw [show ((!true) || ((0 : Int) != 0)) = false from rfl, cond_false, nodeAt_ok g a n h40 (by omega), Option.bind_some]
      exact e2
    cases hna : nodeIn g.nodes a with
    | none =>
      refine fin [] 5 _ (path_who n (by omega) g kind a tg hc (.inl (by rw [hna]; rfl))) ?_
      rw [hna]
      rfl
    | some xa =>
      cases hnt : nodeIn g.nodes tg with
      | none =>
        refine fin [] 5 _ (path_who n (by omega) g kind a tg hc (.inr (by rw [hnt]; rfl))) ?_
        rw [hna]
        unfold optC
        dsimp only
        rw [nodeAt_ok g tg n h40 (by omega), hnt, Option.bind_some]
        rfl
      | some xt =>
        have haN : a ∈ idsN g := node_in (by rw [hna]; rfl)
        have htN : tg ∈ idsN g := node_in (by rw [hnt]; rfl)
        obtain ⟨ls, l1, l2, l3, l4⟩ := reached_ok n (by omega) g kind hc
        rcases path_all n (by omega) g kind a tg hc htN (by rw [hna]; rfl) (by rw [hnt]; rfl) with ⟨hno, he⟩ | ⟨p, p1, p2, p3, p4, he⟩
        · refine fin [] 5 _ he ?_
          rw [hna]
          unfold optC
          dsimp only
          rw [nodeAt_ok g tg n h40 (by omega), hnt, Option.bind_some]
          dsimp only
          rw [l4, Option.bind_some]
          dsimp only
          rw [get_tr, decide_eq_false fun h => hno ((l2 _).1 h)]
          rfl
        · refine fin (ids p) 0 _ he ?_
          rw [hna]
          unfold optC
          dsimp only
          rw [nodeAt_ok g tg n h40 (by omega), hnt, Option.bind_some]
          dsimp only
          rw [l4, Option.bind_some]
          dsimp only
          rw [get_tr, decide_eq_true ((l2 ⟨a, tg⟩).2 (Wk.rc p1 p3.1)), Bool.not_true, cond_false]
          have hpl : 0 < p.length := by cases p with
            | nil => exact absurd rfl p1
            | cons x r => simp
          refine rp_s0 n (by omega) g kind a tg p p2 h60 (edgF_rise h4).2.1 (ends_of hc kind) (ids_len hc) haN p3 p1 p4 _ _ n 0 [[]] ⟨fun w hw => ?_, by simp, fun v q hq hl => ?_⟩ (by simp) hpl (by omega)
          · rw [List.mem_singleton] at hw
            exact ⟨[], a, rfl, rfl, hw⟩
          · rw [List.eq_nil_of_length_eq_zero hl]
            simp [ids]
end Pure

/- Several texts in one (merge.py). -/
import Derived.Test.YtmpcgmlknbmpbaaDoorPNext
import Derived.Test.YtmpcgmlknbmpbaaDoorPRange
import Derived.Test.YtmpcgmlknbmpbaaDoorEvRng
import Derived.Test.YtmpcgmlknbmpbaaDoorEvRise2
import Derived.Test.YtmpcgmlknbmpbaaDoorPA
import Derived.KernelRfl
import Derived.Test.YtmpcgmlknbmpbaaDoorEvRise3

/- Plain: what is reached by steps; sets of pairs as maps to true. -/
namespace Pure
open Esp Ev Go
set_option linter.unusedSimpArgs false
set_option linter.unusedVariables false
set_option linter.unusedSimpArgs false
set_option linter.unusedVariables false
inductive W (R : Int → Int → Prop) (V : Int → Prop) : Int → Int → Prop
  | one {a b : Int} : R a b → W R V a b
  | two {a c b : Int} : W R V a c → V c → W R V c b → W R V a b
def Rc (R : Int → Int → Prop) : Int → Int → Prop := W R fun _ => True
theorem W.mono {R : Int → Int → Prop} {V U : Int → Prop} (h : ∀ x, V x → U x) {a b : Int} (w : W R V a b) : W R U a b := by
  induction w with
  | one h => exact .one h
  | two _ hc _ i j => exact .two i (h _ hc) j
theorem W.rel {R S : Int → Int → Prop} {V : Int → Prop} (h : ∀ a b, R a b → S a b) {a b : Int} (w : W R V a b) : W S V a b := by
  induction w with
  | one hh => exact .one (h _ _ hh)
  | two _ hc _ i j => exact .two i hc j
theorem Rc.one {R : Int → Int → Prop} {a b : Int} (h : R a b) : Rc R a b := W.one h
theorem Rc.trans {R : Int → Int → Prop} {a c b : Int} (h : Rc R a c) (h' : Rc R c b) : Rc R a b := W.two h trivial h'
theorem W.src {R : Int → Int → Prop} {V : Int → Prop} {a b : Int} (w : W R V a b) : ∃ c, R a c := by
  induction w with
  | one h => exact ⟨_, h⟩
  | two _ _ _ i _ => exact i
theorem W.dst {R : Int → Int → Prop} {V : Int → Prop} {a b : Int} (w : W R V a b) : ∃ c, R c b := by
  induction w with
  | one h => exact ⟨_, h⟩
  | two _ _ _ _ j => exact j
theorem W.more {R : Int → Int → Prop} {V : Int → Prop} {v a b : Int} (w : W R (fun x => V x ∨ x = v) a b) : W R V a b ∨ (W R V a v ∧ W R V v b) := by
  induction w with
  | one h => exact .inl (.one h)
  | two _ hc _ i j =>
    rcases hc with hc | rfl
    · rcases i with i | ⟨i1, i2⟩ <;> rcases j with j | ⟨j1, j2⟩
      · exact .inl (.two i hc j)
      · exact .inr ⟨.two i hc j1, j2⟩
      · exact .inr ⟨i1, .two i2 hc j⟩
      · exact .inr ⟨i1, j2⟩
    · exact .inr ⟨(by rcases i with i | ⟨i1, _⟩; exact i; exact i1), (by rcases j with j | ⟨_, j2⟩; exact j; exact j2)⟩
theorem Rc.close {R : Int → Int → Prop} {a b : Int} (S : Int → Prop) (h1 : ∀ t, R a t → S t) (h2 : ∀ t u, S t → R t u → S u) (w : Rc R a b) : S b := by
  have key : ∀ {c d : Int}, W R (fun _ => True) c d → (S c ∨ c = a) → S d := by
    intro c d w
    induction w with
    | one h => rintro (hs | rfl); exact h2 _ _ hs h; exact h1 _ h
    | two _ _ _ i j => intro hs; exact j (.inl (i hs))
  exact key w (.inr rfl)

/-! ## sets of pairs -/
instance : DecidableEq Ev.Pair := fun a b => decidable_of_iff (a.p = b.p ∧ a.q = b.q) (by cases a; cases b; simp)
theorem keyEq_pair (a b : Ev.Pair) : keyEq .pair a b = decide (a = b) := by
  show (a.p == b.p && a.q == b.q) = _
  cases a; cases b
  rw [Bool.eq_iff_iff]
  simp
def tr (ks : List Ev.Pair) : List (Ev.Pair × Bool) := ks.map fun k => (k, true)
def ins (ks : List Ev.Pair) (k : Ev.Pair) : List Ev.Pair := if k ∈ ks then ks else ks ++ [k]
theorem mem_ins {ks : List Ev.Pair} {k x : Ev.Pair} : x ∈ ins ks k ↔ x ∈ ks ∨ x = k := by
  unfold ins
  split
  · constructor
    · exact .inl
    · rintro (h | rfl); exact h; assumption
  · simp
theorem ins_nodup {ks : List Ev.Pair} (h : ks.Nodup) (k : Ev.Pair) : (ins ks k).Nodup := by
  unfold ins
  split
  · exact h
  · rename_i hk
    rw [List.nodup_append]
    refine ⟨h, by simp, fun a ha b hb => ?_⟩
    simp at hb
    subst hb
    intro e
    subst e
    exact hk ha
theorem get_tr (ks : List Ev.Pair) (k : Ev.Pair) : mpGet .pair .bool false (tr ks) k = decide (k ∈ ks) := by
  induction ks with
  | nil => rfl
  | cons a r ih =>
    show (bif keyEq .pair k a then true else mpGet .pair .bool false (tr r) k) = _
    rw [keyEq_pair, ih]
    by_cases h : k = a
    · simp [h]
    · simp [h]
theorem put_tr (ks : List Ev.Pair) (k : Ev.Pair) : mpPut .pair .bool (tr ks) k true = tr (ins ks k) := by
  induction ks with
  | nil => rfl
  | cons a r ih =>
    show (bif keyEq .pair k a then (k, true) :: tr r else (a, true) :: mpPut .pair .bool (tr r) k true) = _
    rw [keyEq_pair, ih]
    by_cases h : k = a
    · subst h; simp [ins, tr]
    · rw [decide_eq_false h, cond_false]
      unfold ins
      by_cases h2 : k ∈ r
      · simp [h2, tr]
      · simp [h2, h, tr]
theorem del_tr {ks : List Ev.Pair} (hn : ks.Nodup) (k : Ev.Pair) : mpDel .pair .bool (tr ks) k = tr (ks.filter fun x => decide (x ≠ k)) := by
  induction ks with
  | nil => rfl
  | cons a r ih =>
    show (bif keyEq .pair k a then tr r else (a, true) :: mpDel .pair .bool (tr r) k) = _
    rw [keyEq_pair, ih (List.nodup_cons.1 hn).2]
    by_cases h : k = a
    · subst h
      have : r.filter (fun x => decide (x ≠ k)) = r := by
        rw [List.filter_eq_self]
        intro x hx
        have : x ≠ k := fun e => (List.nodup_cons.1 hn).1 (e ▸ hx)
        simpa using this
      rw [decide_eq_true rfl, cond_true, List.filter_cons, if_neg (by simp), this]
    · rw [decide_eq_false h, cond_false, List.filter_cons]
      have : a ≠ k := fun e => h e.symm
      simp [this, tr]
theorem tr_erase (ks : List Ev.Pair) (i : Nat) : (tr ks).eraseIdx i = tr (ks.eraseIdx i) := by
  induction ks generalizing i with
  | nil => rfl
  | cons a r ih =>
    cases i with
    | zero => rfl
    | succ i => show (a, true) :: (tr r).eraseIdx i = _; rw [ih]; rfl
theorem tr_get (ks : List Ev.Pair) (i : Nat) (h : i < (tr ks).length) : (tr ks)[i] = (ks[i]'(by simpa [tr] using h), true) := by simp [tr]
theorem perm_of {l m : List Ev.Pair} (hl : l.Nodup) (hm : m.Nodup) (h : ∀ x, x ∈ l ↔ x ∈ m) : l.Perm m := by
  induction l generalizing m with
  | nil =>
    cases m with
    | nil => exact .refl _
    | cons a r => exact absurd ((h a).2 (by simp)) (by simp)
  | cons a r ih =>
    have ha : a ∈ m := (h a).1 (by simp)
    refine .trans (.cons a (ih (m := m.erase a) (List.nodup_cons.1 hl).2 (hm.erase a) fun x => ?_)) (List.perm_cons_erase ha).symm
    rw [hm.mem_erase_iff, ← h]
    constructor
    · intro hx
      exact ⟨fun e => (List.nodup_cons.1 hl).1 (e ▸ hx), by simp [hx]⟩
    · rintro ⟨h1, h2⟩
      rcases List.mem_cons.1 h2 with e | h2
      · exact absurd e h1
      · exact h2
theorem len_of {l m : List Ev.Pair} (hl : l.Nodup) (h : ∀ x ∈ l, x ∈ m) : l.length ≤ m.length := by
  induction l generalizing m with
  | nil => simp
  | cons a r ih =>
    have ha : a ∈ m := h a (by simp)
    have h1 := ih (m := m.erase a) (List.nodup_cons.1 hl).2 fun x hx => (List.mem_erase_of_ne fun e : x = a => (List.nodup_cons.1 hl).1 (e ▸ hx)).2 (h x (by simp [hx]))
    rw [List.length_erase_of_mem ha] at h1
    have : 0 < m.length := List.length_pos_of_mem ha
    simp; omega
def prod (ns : List Int) : List Ev.Pair := ns.flatMap fun a => ns.map fun b => Ev.Pair.mk a b
theorem mem_prod {ns : List Int} {x : Ev.Pair} : x ∈ prod ns ↔ x.p ∈ ns ∧ x.q ∈ ns := by
  unfold prod
  simp only [List.mem_flatMap, List.mem_map]
  constructor
  · rintro ⟨a, ha, b, hb, rfl⟩; exact ⟨ha, hb⟩
  · rintro ⟨h1, h2⟩; exact ⟨x.p, h1, x.q, h2, rfl⟩
theorem prod_length (ns : List Int) : (prod ns).length = ns.length * ns.length := by
  unfold prod
  have : ∀ (ms : List Int), (ms.flatMap fun a => ns.map fun b => Ev.Pair.mk a b).length = ms.length * ns.length := by
    intro ms
    induction ms with
    | nil => simp
    | cons a r ih => simp only [List.flatMap_cons, List.length_append, ih, List.length_map, List.length_cons, Nat.succ_mul]; omega
  exact this ns
theorem prod_le {ks : List Ev.Pair} {ns : List Int} (hn : ks.Nodup) (h : ∀ x ∈ ks, x.p ∈ ns ∧ x.q ∈ ns) (h40 : ns.length ≤ 40) : ks.length ≤ 1600 := by
  have h1 := len_of hn (m := prod ns) fun x hx => mem_prod.2 (h x hx)
  rw [prod_length] at h1
  have := Nat.mul_le_mul h40 h40
  omega

/-! ## steps in a graph -/
def kd (kind : ByteArray) (x : Ev.Edg) : Bool := seq kind ⟨#[]⟩ || seq x.type kind
def stp (kind : ByteArray) (l : List Ev.Edg) (a b : Int) : Prop := ∃ x ∈ l, kd kind x = true ∧ x.src = a ∧ x.dst = b
theorem next_mem (kind : ByteArray) (l : List Ev.Edg) (s t : Int) : t ∈ mpGet .i64 (.lst .i64) [] (nextL kind l) s ↔ stp kind l s t := by
  have h : ∀ (l : List Ev.Edg) (m : List (Int × List Int)), t ∈ mpGet .i64 (.lst .i64) [] (l.foldl (nextStep kind) m) s ↔ t ∈ mpGet .i64 (.lst .i64) [] m s ∨ stp kind l s t := by
    intro l
    induction l with
    | nil => intro m; simp [stp]
    | cons x r ih =>
      intro m
      rw [List.foldl_cons, ih]
      have e : stp kind (x :: r) s t ↔ (kd kind x = true ∧ x.src = s ∧ x.dst = t) ∨ stp kind r s t := by
        unfold stp; simp
      rw [e, ← or_assoc]
      refine or_congr ?_ Iff.rfl
      unfold nextStep
      cases hb : (seq kind ⟨#[]⟩ || seq x.type kind) with
      | false =>
        have : kd kind x = false := hb
        simp [this]
      | true =>
        have hk : kd kind x = true := hb
        rw [cond_true, mpGet_put]
        split
        · rename_i hs
          rw [← hs]
          simp [hk, eq_comm]
        · rename_i hs
          simp [hk, Ne.symm hs]
  have := h l []
  simpa [nextL, mpGet] using this

/-! ## the sorts -/
theorem room16 {n : Nat} (h : n ≤ 1000000) : room n 16 = true := by
  unfold room
  rw [Bool.and_eq_true]
  exact ⟨Nat.ble_eq_true_of_le (by omega), Nat.ble_eq_true_of_le (by omega)⟩
theorem room8 {n : Nat} (h : n ≤ 1000000) : room n 8 = true := by
  unfold room
  rw [Bool.and_eq_true]
  exact ⟨Nat.ble_eq_true_of_le (by omega), Nat.ble_eq_true_of_le (by omega)⟩
theorem sfPair_some (l : List Ev.Pair) (h : l.length ≤ 1000000) : sfPair (l, ()) = some (sortL ltP l, ()) := by
  unfold sfPair sfL
  dsimp only
  rw [Nat.ble_eq_true_of_le (by omega), cond_true]
theorem Pair.eta (x : Ev.Pair) : Ev.Pair.mk x.p x.q = x := rfl
theorem rng_tr {ρ : Type} (ks : List Ev.Pair) (k0 : Option ρ) (f : Ev.Pair × Bool → List (Ev.Pair × Bool) → Option ρ) (r : ρ) (h0 : ks = [] → k0 = some r) (h : ∀ i (hi : i < ks.length), f (ks[i], true) (tr (ks.eraseIdx i)) = some r) : rngM (tr ks) k0 f = some r := by
  refine rngM_some (fun e => h0 (by simpa [tr] using e)) fun i hi => ?_
  rw [tr_get, tr_erase]
  exact h i (by simpa [tr] using hi)
theorem erase_perm {α : Type} (l : List α) (i : Nat) (hi : i < l.length) : (l[i] :: l.eraseIdx i).Perm l := by
  induction l generalizing i with
  | nil => exact absurd hi (Nat.not_lt_zero _)
  | cons a r ih =>
    cases i with
    | zero => exact .refl _
    | succ i => exact (List.Perm.swap _ _ _).trans (.cons a (ih i (by simpa using hi)))
end Pure


/- Plain: reach.Set, sorted, plain, Pairs, slices.Equal. No program. -/
namespace Pure
open Esp Ev Go
set_option linter.unusedSimpArgs false
set_option linter.unusedVariables false
set_option linter.unusedSimpArgs false
set_option linter.unusedVariables false
theorem sorted_loop (n : Nat) : ∀ (fuel : Nat) (acc ks : List Ev.Pair), ks.length < fuel → acc.length + ks.length ≤ 1000000 →
    iterN (fun rc8 => q27z_s0 n rc8 (fun (o6, _) => (sfPair (o6, ())).bind fun (o7, _) => some (o7, ())) (fun (_) => none)) fuel (acc, tr ks, ()) = some (sortL ltP (acc ++ ks), ()) := by
  intro fuel
  induction fuel with
  | zero => intro acc ks h _; exact absurd h (Nat.not_lt_zero _)
  | succ f ih =>
    intro acc ks hf hl
    rw [iterN]
    unfold q27z_s0
    dsimp only
    refine rng_tr ks _ _ _ (fun e => ?_) fun i hi => ?_
    · subst e
      rw [sfPair_some acc (by omega), List.append_nil]
      rfl
    · dsimp only
      have hlen := (erase_perm ks i hi).length_eq
      rw [List.length_cons] at hlen
      rw [Pair.eta, ck_ok (room16 (by simp; omega))]
      refine (ih _ _ (by omega) (by simp; omega)).trans ?_
      rw [sortL_eq ltP_ok (l := (acc ++ [ks[i]]) ++ ks.eraseIdx i) (m := acc ++ ks) (by rw [List.append_assoc]; exact (erase_perm ks i hi).append_left acc)]
theorem sorted_ok (n : Nat) (ks : List Ev.Pair) (h : ks.length ≤ 1000000) (hn : ks.length < n) : q27z n (tr ks, ()) = some (sortL ltP ks, ()) :=
  sorted_loop n n [] ks hn (by simpa using h)
theorem plain_ok (n : Nat) (l : List Ev.Pair) (h : l.length ≤ 1000000) (hn : l.length < n) : q30z n (l, ()) = some (l, ()) := by
  unfold q30z
  dsimp only
  rw [R_q30z_s0 n _ _ l n [] (by omega) hn]
  have key : ∀ (r p : List Ev.Pair) (i : Int), p.length + r.length ≤ 1000000 → foldK (F_q30z_s0 n (fun (_) => none)) (fun (o5, _) => some (o5, ())) i r (p, ()) = some (p ++ r, ()) := by
    intro r
    induction r with
    | nil => intro p i _; simp [foldK]
    | cons x r ih =>
      intro p i hl
      rw [List.length_cons] at hl
      rw [foldK]
      unfold F_q30z_s0
      dsimp only
      rw [Pair.eta, ck_ok (room16 (by simp; omega))]
      refine (ih (p ++ [x]) (i + 1) (by simp; omega)).trans ?_
      simp
  exact key l [] 0 (by simpa using h)
theorem equalP_ok (l : List Ev.Pair) (n : Nat) (h : l.length ≤ 1000000) (hn : l.length < n) : q7z n (l, l, ()) = some (true, ()) := by
  unfold q7z
  dsimp only
  rw [show ((l.length : Int) != (l.length : Int)) = false from by simp, cond_false]
  rw [R_q7z_s0 n _ _ l n l (by omega) hn]
  have key : ∀ (r p : List Ev.Pair), l = p ++ r → foldK (F_q7z_s0 n (fun (v11, _) => some (v11, ()))) (fun (v4, _) => some (true, ())) (p.length : Int) r (l, ()) = some (true, ()) := by
    intro r
    induction r with
    | nil => intro p _; rfl
    | cons x r ih =>
      intro p hp
      have e1 : ((p.length : Int) + 1) = ((p ++ [x]).length : Int) := by simp
      have e2 : ix l (p.length : Int) = some x := ix_ok (by rw [hp]; simp)
      rw [foldK, e1]
      unfold F_q7z_s0
      dsimp only
      rw [e2, Option.bind_some, keyEq_pair, decide_eq_true rfl]
      exact ih (p ++ [x]) (by simp [hp])
  exact key l [] rfl
theorem pop_ix {α : Type} (p : List α) (e : α) (h : p.length ≤ 1000000) : ix (p ++ [e]) (IntKind.wrap .i64 (((p ++ [e]).length : Int) - 1)) = some e := by
  rw [wrap64 (by simp) (by simp; omega), show (((p ++ [e]).length : Int) - 1) = (p.length : Int) by simp]
  exact ix_ok (by simp)
theorem pop_get {α : Type} (p : List α) (e : α) (h : p.length ≤ 1000000) : (p ++ [e])[(IntKind.wrap .i64 (((p ++ [e]).length : Int) - 1) : Int).toNat]? = some e := by
  rw [wrap64 (by simp) (by simp; omega), show ((((p ++ [e]).length : Int) - 1)).toNat = p.length by simp]
  simp
theorem pop_cut {α : Type} (p : List α) (e : α) (h : p.length ≤ 1000000) : cut? (p ++ [e]) (IntKind.wrap .i64 (((p ++ [e]).length : Int) - 1)) = some p := by
  rw [wrap64 (by simp) (by simp; omega), show (((p ++ [e]).length : Int) - 1) = (p.length : Int) by simp]
  unfold cut?
  rw [if_pos (by simp; omega)]
  simp
/-! ## what is reached -/
def idsN (g : Graph) : List Int := g.nodes.map Ev.Node.id
structure Ends (R : Int → Int → Prop) (ns : List Int) : Prop where
  s : ∀ a b, R a b → a ∈ ns
  d : ∀ a b, R a b → b ∈ ns
theorem Ends.p {R : Int → Int → Prop} {ns : List Int} (h : Ends R ns) {a b : Int} (w : Rc R a b) : a ∈ ns := by
  obtain ⟨c, hc⟩ := W.src w; exact h.s _ _ hc
theorem Ends.q {R : Int → Int → Prop} {ns : List Int} (h : Ends R ns) {a b : Int} (w : Rc R a b) : b ∈ ns := by
  obtain ⟨c, hc⟩ := W.dst w; exact h.d _ _ hc
theorem node_in {l : List Ev.Node} {t : Int} (h : (nodeIn l t).isNone = false) : t ∈ l.map Ev.Node.id := by
  cases hx : nodeIn l t with
  | none => rw [hx] at h; cases h
  | some x =>
    have h1 := List.mem_of_find?_eq_some hx
    have h2 := List.find?_some hx
    exact List.mem_map.2 ⟨x, h1, by simpa using h2⟩
theorem ends_of {g : Graph} (hc : chkG g = 0) (kind : ByteArray) : Ends (stp kind g.edges) (idsN g) := by
  obtain ⟨_, _, _, h4⟩ := chkG_0 hc
  refine ⟨?_, ?_⟩
  · rintro a b ⟨x, hx, _, rfl, _⟩
    exact node_in (edgF_0 h4 x hx).2.2.1
  · rintro a b ⟨x, hx, _, _, rfl⟩
    exact node_in (edgF_0 h4 x hx).2.2.2
theorem ids_len {g : Graph} (hc : chkG g = 0) : (idsN g).length ≤ 40 := by
  obtain ⟨h, _⟩ := chkG_0 hc
  unfold idsN; simpa using h
theorem set_s2 (n : Nat) (g : Graph) (kind : ByteArray) (hE : Ends (stp kind g.edges) (idsN g)) (hN : (idsN g).length ≤ 40) (he : g.edges.length ≤ 60) {ρ : Type} (kx : (List (Int × (List Int))) × (List Ev.Node) × Int × Int × (List (Ev.Pair × Bool)) × Unit → Option ρ) (v12 : List Ev.Node) (v13 v14 : Int) (x : Ev.Node) (ks0 : List Ev.Pair) :
    ∀ (fuel : Nat) (ks : List Ev.Pair) (td : List Int), ks.Nodup → (∀ k ∈ ks, Rc (stp kind g.edges) k.p k.q) → (∀ k ∈ ks, k ∈ ks0 ∨ (k.p = x.id ∧ Rc (stp kind g.edges) x.id k.q)) → (∀ k ∈ ks0, k ∈ ks) →
      (∀ t ∈ td, Rc (stp kind g.edges) x.id t) → (∀ t, stp kind g.edges x.id t → t ∈ td ∨ Ev.Pair.mk x.id t ∈ ks) → (∀ t, Ev.Pair.mk x.id t ∈ ks → ∀ u, stp kind g.edges t u → u ∈ td ∨ Ev.Pair.mk x.id u ∈ ks) →
      td.length + 61 * (1600 - ks.length) < fuel → td.length + 61 * (1600 - ks.length) ≤ 100000 →
      ∃ ks' : List Ev.Pair, ks'.Nodup ∧ (∀ k, k ∈ ks' ↔ k ∈ ks0 ∨ (k.p = x.id ∧ Rc (stp kind g.edges) x.id k.q)) ∧
        iterN (fun rc25 => reach_Set_s2 n rc25 kx (fun (_) => none)) fuel (nextL kind g.edges, v12, v13, v14, (x, ()), tr ks, td, ()) = kx (nextL kind g.edges, v12, v13, v14, tr ks', ()) := by
  intro fuel
  induction fuel with
  | zero => intro ks td _ _ _ _ _ _ _ h _; exact absurd h (Nat.not_lt_zero _)
  | succ f ih =>
    intro ks td hnd hs h0 h00 htd hfi hcl hf hM
    rw [iterN]
    unfold reach_Set_s2
    dsimp only
    rcases List.eq_nil_or_concat td with rfl | ⟨p, e, rfl⟩
    · refine ⟨ks, hnd, fun k => ⟨h0 k, ?_⟩, rfl⟩
      rintro (h | ⟨h1, h2⟩)
      · exact h00 k h
      · have h3 : Ev.Pair.mk x.id k.q ∈ ks := Rc.close (fun t => Ev.Pair.mk x.id t ∈ ks) (fun t ht => (hfi t ht).resolve_left (by simp)) (fun t u ht hu => (hcl t ht u hu).resolve_left (by simp)) h2
        rw [← h1] at h3
        exact h3
    · rw [List.concat_eq_append] at *
      have hpl : p.length ≤ 1000000 := by simp at hM; omega
      rw [pop_ix p e hpl, pop_get p e hpl, pop_cut p e hpl, show decide (((p ++ [e]).length : Int) > 0) = true by rw [decide_eq_true_iff]; simp, cond_true, Option.bind_some, Option.bind_some, Option.bind_some, get_tr]
      have hre := htd e (by simp)
      by_cases hm : Ev.Pair.mk x.id e ∈ ks
      · rw [decide_eq_true hm]
        refine ih ks p hnd hs h0 h00 (fun t ht => htd t (by simp [ht])) (fun t ht => ?_) (fun t ht u hu => ?_) (by simp at hf; omega) (by simp at hM; omega)
        · rcases hfi t ht with h | h
          · simp at h
            rcases h with h | rfl
            · exact .inl h
            · exact .inr hm
          · exact .inr h
        · rcases hcl t ht u hu with h | h
          · simp at h
            rcases h with h | rfl
            · exact .inl h
            · exact .inr hm
          · exact .inr h
      · rw [decide_eq_false hm]
        have hnl := Nat.le_trans (nextL_len kind e g.edges) he
        have hs' : ∀ k ∈ ins ks ⟨x.id, e⟩, Rc (stp kind g.edges) k.p k.q := fun k hk => by
          rcases mem_ins.1 hk with h | rfl
          · exact hs k h
          · exact hre
        have hnd' := ins_nodup hnd ⟨x.id, e⟩
        have hle := prod_le hnd' (fun k hk => ⟨hE.p (hs' k hk), hE.q (hs' k hk)⟩) hN
        have hlen : (ins ks ⟨x.id, e⟩).length = ks.length + 1 := by unfold ins; rw [if_neg hm]; simp
        rw [Bool.not_false, cond_true, ck_ok (room8 (by simp at hM ⊢; omega)), put_tr]
        refine ih _ _ hnd' hs' (fun k hk => ?_) (fun k hk => mem_ins.2 (.inl (h00 k hk))) (fun t ht => ?_) (fun t ht => ?_) (fun t ht u hu => ?_) (by simp at hf ⊢; omega) (by simp at hM ⊢; omega)
        · rcases mem_ins.1 hk with h | rfl
          · exact h0 k h
          · exact .inr ⟨rfl, hre⟩
        · rcases List.mem_append.1 ht with h | h
          · exact htd t (by simp [h])
          · exact hre.trans (.one ((next_mem kind g.edges e t).1 h))
        · rcases hfi t ht with h | h
          · simp at h
            rcases h with h | rfl
            · exact .inl (by simp [h])
            · exact .inr (mem_ins.2 (.inr rfl))
          · exact .inr (mem_ins.2 (.inl h))
        · rcases mem_ins.1 ht with h | h
          · rcases hcl t h u hu with h | h
            · simp at h
              rcases h with h | rfl
              · exact .inl (by simp [h])
              · exact .inr (mem_ins.2 (.inr rfl))
            · exact .inr (mem_ins.2 (.inl h))
          · have : t = e := by injection h
            subst this
            exact .inl (List.mem_append.2 (.inr ((next_mem kind g.edges t u).2 hu)))
theorem set_clone (l : List Int) (h : l.length ≤ 1000) : q6z (l, ()) = some (l, ()) := by
  unfold q6z nilq
  dsimp only
  rw [List.nil_append, ck_ok (room_ok (by omega) (by omega))]
  cases l with
  | nil => exact dem2_same _
  | cons a r => rfl
theorem Node.eta (x : Ev.Node) : Ev.Node.mk x.id x.labels x.props = x := rfl
theorem set_ok (n : Nat) (hn : 100100 ≤ n) (g : Graph) (kind : ByteArray) (hc : chkG g = 0) :
    ∃ ks : List Ev.Pair, ks.Nodup ∧ (∀ k, k ∈ ks ↔ Rc (stp kind g.edges) k.p k.q) ∧ ks.length ≤ 1600 ∧ reach_Set n (g, kind, ()) = some (tr ks, ()) := by
  have hE := ends_of hc kind
  have hN := ids_len hc
  obtain ⟨h40, h60, _, _⟩ := chkG_0 hc
  have key : ∀ (r p : List Ev.Node) (ks : List Ev.Pair) (fuel : Nat), g.nodes = p ++ r → r.length < fuel → ks.Nodup → (∀ k, k ∈ ks ↔ k.p ∈ p.map Ev.Node.id ∧ Rc (stp kind g.edges) k.p k.q) →
      ∃ ks' : List Ev.Pair, ks'.Nodup ∧ (∀ k, k ∈ ks' ↔ Rc (stp kind g.edges) k.p k.q) ∧
        iterN (fun rc27 => reach_Set_s0 n rc27 (fun (o26, _) => some (o26, ())) (fun (_) => none)) fuel (nextL kind g.edges, g.nodes, (g.nodes.length : Int), (p.length : Int), tr ks, ()) = some (tr ks', ()) := by
    intro r
    induction r with
    | nil =>
      intro p ks fuel hp hf hnd hk
      obtain ⟨f, rfl⟩ : ∃ f, fuel = f + 1 := ⟨fuel - 1, by omega⟩
      refine ⟨ks, hnd, fun k => ⟨fun h => ((hk k).1 h).2, fun h => (hk k).2 ⟨?_, h⟩⟩, ?_⟩
      · have := hE.p h
        unfold idsN at this
        rwa [hp, List.append_nil] at this
      · rw [iterN]
        unfold reach_Set_s0
        dsimp only
        rw [show decide ((p.length : Int) < (g.nodes.length : Int)) = false by rw [hp]; simp, cond_false]
    | cons x r ih =>
      intro p ks fuel hp hf hnd hk
      obtain ⟨f, rfl⟩ : ∃ f, fuel = f + 1 := ⟨fuel - 1, by omega⟩
      have hll : g.nodes.length = p.length + (r.length + 1) := by rw [hp]; simp
      have hnl := Nat.le_trans (nextL_len kind x.id g.edges) h60
      rw [iterN]
      unfold reach_Set_s0
      dsimp only
      rw [show decide ((p.length : Int) < (g.nodes.length : Int)) = true by rw [decide_eq_true_iff]; omega, cond_true, ix_ok (x := x) (by rw [hp]; simp), Option.bind_some, set_clone _ (by omega), Option.bind_some]
      dsimp only
      rw [Node.eta]
      have hs : ∀ k ∈ ks, Rc (stp kind g.edges) k.p k.q := fun k h => ((hk k).1 h).2
      have hle := prod_le hnd (fun k h => ⟨hE.p (hs k h), hE.q (hs k h)⟩) hN
      obtain ⟨ks1, n1, m1, e1⟩ := set_s2 n g kind hE hN h60 (fun (v20, v21, v22, v23, o24, _) => iterN (fun rc27 => reach_Set_s0 n rc27 (fun (o26, _) => some (o26, ())) (fun (_) => none)) f (v20, v21, v22, IntKind.wrap .i64 (v23 + 1), o24, ())) g.nodes (g.nodes.length : Int) (p.length : Int) x ks n ks
        (mpGet .i64 (.lst .i64) [] (nextL kind g.edges) x.id) hnd hs (fun k h => .inl h) (fun k h => h) (fun t h => .one ((next_mem kind g.edges x.id t).1 h)) (fun t h => .inl ((next_mem kind g.edges x.id t).2 h))
        (fun t h u hu => .inr ((hk _).2 ⟨((hk _).1 h).1, ((hk _).1 h).2.trans (.one hu)⟩)) (by omega) (by omega)
      obtain ⟨ks2, n2, m2, e2⟩ := ih (p ++ [x]) ks1 f (by simp [hp]) (by simp at hf; omega) n1 fun k => by
        rw [m1, hk]
        simp only [List.map_append, List.map_cons, List.map_nil, List.mem_append, List.mem_singleton]
        constructor
        · rintro (⟨h1, h2⟩ | ⟨h1, h2⟩)
          · exact ⟨.inl h1, h2⟩
          · exact ⟨.inr h1, by rw [h1]; exact h2⟩
        · rintro ⟨h1 | h1, h2⟩
          · exact .inl ⟨h1, h2⟩
          · exact .inr ⟨h1, by rw [← h1]; exact h2⟩
      refine ⟨ks2, n2, m2, e1.trans ?_⟩
      dsimp only
      rw [wrap64 (by omega) (by omega), show (p.length : Int) + 1 = ((p ++ [x]).length : Int) by simp]
      exact e2
  obtain ⟨ks, k1, k2, k3⟩ := key g.nodes [] [] n rfl (by omega) (by simp) (by simp)
  refine ⟨ks, k1, k2, prod_le k1 (fun k h => ⟨hE.p ((k2 k).1 h), hE.q ((k2 k).1 h)⟩) hN, ?_⟩
  unfold reach_Set nextN
  dsimp only
  rw [Nat.ble_eq_true_of_le (by show g.edges.length ≤ 1000000; omega), cond_true, Option.bind_some]
  exact k3
end Pure


/- Plain: the document's Reached. No program. -/
namespace Pure
open Esp Ev Go
set_option linter.unusedSimpArgs false
set_option linter.unusedVariables false
set_option linter.unusedSimpArgs false
set_option linter.unusedVariables false
abbrev sound (R : Int → Int → Prop) (ks : List Ev.Pair) : Prop := ks.Nodup ∧ ∀ k ∈ ks, Rc R k.p k.q
end Pure


/- Plain: All; the pairs are the document's. No program. -/
namespace Pure
open Esp Ev Go
set_option linter.unusedSimpArgs false
set_option linter.unusedVariables false
set_option linter.unusedSimpArgs false
set_option linter.unusedVariables false
theorem all_ok (n : Nat) (hn : 100100 ≤ n) (g : Graph) (kind : ByteArray) (hc : chkG g = 0) :
    ∃ ks : List Ev.Pair, ks.Nodup ∧ (∀ k, k ∈ ks ↔ Rc (stp kind g.edges) k.p k.q) ∧ ks.length ≤ 1600 ∧ reach_All n (g, kind, ()) = some (sortL ltP ks, 0, ()) := by
  obtain ⟨ks, h1, h2, h3, h4⟩ := set_ok n hn g kind hc
  refine ⟨ks, h1, h2, h3, ?_⟩
  unfold reach_All
  dsimp only
  rw [Graph.eta, gcheck_ok g n (by omega), hc, Option.bind_some]
  dsimp only
  rw [show ((0 : Int) != 0) = false from rfl, cond_false, h4, Option.bind_some]
  dsimp only
  rw [sorted_ok n ks (by omega) (by omega), Option.bind_some]
  dsimp only
  rw [plain_ok n _ (by rw [sortL_length]; omega) (by rw [sortL_length]; omega)]
  rfl
theorem all_err (n : Nat) (hn : 100 ≤ n) (g : Graph) (kind : ByteArray) (hc : (chkG g != 0) = true) : reach_All n (g, kind, ()) = some ([], chkG g, ()) := by
  unfold reach_All
  dsimp only
  rw [Graph.eta, gcheck_ok g n (by omega), Option.bind_some]
  dsimp only
  rw [hc]
  rfl
def line3G : Graph := .mk [.mk 1 [] [], .mk 2 [] [], .mk 3 [⟨#[65]⟩] []] [.mk 4 1 2 ⟨#[75]⟩ [], .mk 5 2 3 ⟨#[75]⟩ []] 6
theorem line3_ok : q11z () = some (line3G, ()) := rfl
theorem line3_chk : chkG line3G = 0 := by kernel_rfl
def p123 : List Ev.Pair := [.mk 1 2, .mk 1 3, .mk 2 3]
theorem line3_mem (k : Ev.Pair) : Rc (stp ⟨#[75]⟩ line3G.edges) k.p k.q ↔ k ∈ p123 := by
  have e : ∀ {a b : Int}, stp ⟨#[75]⟩ line3G.edges a b ↔ (a = 1 ∧ b = 2) ∨ (a = 2 ∧ b = 3) := by
    intro a b
    unfold stp
    constructor
    · rintro ⟨x, hx, _, rfl, rfl⟩
      simp only [line3G, List.mem_cons, List.not_mem_nil, or_false] at hx
      rcases hx with rfl | rfl <;> simp
    · rintro (⟨rfl, rfl⟩ | ⟨rfl, rfl⟩)
      · exact ⟨.mk 4 1 2 ⟨#[75]⟩ [], by simp [line3G], by kernel_rfl, rfl, rfl⟩
      · exact ⟨.mk 5 2 3 ⟨#[75]⟩ [], by simp [line3G], by kernel_rfl, rfl, rfl⟩
  obtain ⟨p, q⟩ := k
  have hm : Ev.Pair.mk p q ∈ p123 ↔ (p = 1 ∧ q = 2) ∨ (p = 1 ∧ q = 3) ∨ (p = 2 ∧ q = 3) := by simp [p123]
  rw [hm]
  constructor
  · intro w
    have : ∀ {a b : Int}, W (stp ⟨#[75]⟩ line3G.edges) (fun _ => True) a b → (a = 1 ∧ b = 2) ∨ (a = 1 ∧ b = 3) ∨ (a = 2 ∧ b = 3) := by
      intro a b w
      induction w with
      | one h => have := e.1 h; omega
      | two _ _ _ i j => omega
    exact this w
  · rintro (⟨rfl, rfl⟩ | ⟨rfl, rfl⟩ | ⟨rfl, rfl⟩)
    · exact .one (e.2 (by simp))
    · exact Rc.trans (c := 2) (.one (e.2 (.inl ⟨rfl, rfl⟩))) (.one (e.2 (.inr ⟨rfl, rfl⟩)))
    · exact .one (e.2 (by simp))
theorem path_at (m : Nat) : q37z (m + 100) (line3G, ⟨#[]⟩, 1, 3, ()) = some ([4, 5], 0, ()) := by kernel_rfl
theorem reachedF (n : Nat) (hn : 100100 ≤ n) : q10z n () = some (true, ()) := by
  obtain ⟨ks, h1, h2, h3, h4⟩ := all_ok n hn line3G ⟨#[75]⟩ line3_chk
  have hs : sortL ltP ks = p123 := sortL_of ltP_ok (perm_of h1 (by simp [p123]) fun k => by rw [h2, line3_mem]) (by simp [p123, ltP])
  rw [hs] at h4
  have hp : q37z n (line3G, ⟨#[]⟩, 1, 3, ()) = some ([4, 5], 0, ()) := by
    obtain ⟨m, rfl⟩ : ∃ m, n = m + 100 := ⟨n - 100, by omega⟩
    exact path_at m
  have he : q9z n ([4, 5], [4, 5], ()) = some (true, ()) := by
    obtain ⟨m, rfl⟩ : ∃ m, n = m + 100 := ⟨n - 100, by omega⟩
    kernel_rfl
  unfold q10z
  rw [line3_ok, Option.bind_some]
  dsimp only
  rw [Graph.eta, h4, Option.bind_some]
  dsimp only
  rw [Option.bind_some]
  dsimp only
  rw [Graph.eta, hp, Option.bind_some]
  dsimp only
  rw [show (((0 : Int) == 0) && ((0 : Int) == 0)) = true from rfl, cond_true, show ([.mk 1 2, .mk 1 3, .mk 2 3] : List Ev.Pair) = p123 from rfl, equalP_ok p123 n (by simp [p123]) (by simp [p123]; omega), Option.bind_some]
  dsimp only
  rw [cond_true, he]
  rfl
end Pure


/- Plain: Change: the pairs that go and those that come. No program. -/
namespace Pure
open Esp Ev Go
set_option linter.unusedSimpArgs false
set_option linter.unusedVariables false
set_option linter.unusedSimpArgs false
set_option linter.unusedVariables false
theorem Edg.eta (x : Edg) : Edg.mk x.id x.src x.dst x.type x.props = x := rfl
def sameE (x e : Edg) : Bool := (((x.id : Int) == e.id && (x.src : Int) == e.src) && (x.dst : Int) == e.dst) && seq x.type e.type
theorem contains_ok (n : Nat) (l : List Edg) (e : Edg) (hl : l.length ≤ 60) (hn : 100 ≤ n) : q2z n (l, (e, ()), ()) = some (l.any fun x => sameE x e, (e, ()), ()) := by
  have key : ∀ (r p : List Edg), l = p ++ r → ∃ i : Int, foldK (F_q3z_s0 n (fun (v11, o12, _) => some (v11, ((Ev.Edg.mk o12.1.id o12.1.src o12.1.dst o12.1.type o12.1.props), ()), ()))) (fun (o6, _) => (fun (o10, _) => some ((-1), ((Ev.Edg.mk o10.1.id o10.1.src o10.1.dst o10.1.type o10.1.props), ()), ())) (((Ev.Edg.mk o6.1.id o6.1.src o6.1.dst o6.1.type o6.1.props), ()), ())) (p.length : Int) r ((e, ()), ()) = some (i, (e, ()), ()) ∧ decide (i ≥ 0) = r.any fun x => sameE x e := by
    intro r
    induction r with
    | nil => intro p _; exact ⟨-1, rfl, rfl⟩
    | cons x r ih =>
      intro p hp
      rw [foldK]
      unfold F_q3z_s0 q20z
      dsimp only
      rw [Option.bind_some]
      dsimp only
      cases hs : sameE x e with
      | true =>
        have hs' : (((((x.id : Int) == e.id) && ((x.src : Int) == e.src)) && ((x.dst : Int) == e.dst)) && (seq x.type e.type)) = true := hs
        rw [hs']
        refine ⟨p.length, rfl, ?_⟩
        rw [List.any_cons, hs, Bool.true_or, decide_eq_true_iff]
        omega
      | false =>
        have hs' : (((((x.id : Int) == e.id) && ((x.src : Int) == e.src)) && ((x.dst : Int) == e.dst)) && (seq x.type e.type)) = false := hs
        rw [hs', cond_false]
        obtain ⟨i, h1, h2⟩ := ih (p ++ [x]) (by simp [hp])
        refine ⟨i, ?_, ?_⟩
        · rw [show ((p ++ [x]).length : Int) = (p.length : Int) + 1 by simp] at h1
          exact h1
        · rw [List.any_cons, hs, Bool.false_or, h2]
  obtain ⟨i, h1, h2⟩ := key l [] rfl
  unfold q2z q3z
  dsimp only
  rw [Edg.eta, R_q3z_s0 n _ _ l n (e, ()) (by omega) (by omega)]
  rw [show foldK _ _ 0 l ((e, ()), ()) = _ from h1, Option.bind_some]
  dsimp only
  rw [h2]
theorem change_s0 (n m : Nat) (hn : 100 ≤ n) (a b : Graph) (kind : ByteArray) {ρ : Type} (K : ByteArray × (Graph × Unit) × (Graph × Unit) × Unit → Option ρ) (KR : (List Ev.Pair) × (List Ev.Pair) × Int × Unit → Option ρ) :
    iterN (fun rc => q26z_s0 n rc K KR) (m + 3) (kind, (a, b), 0, (a, ()), (b, ()), ()) = bif chkG a != 0 then KR ([], [], chkG a, ()) else bif chkG b != 0 then KR ([], [], chkG b, ()) else K (kind, (a, ()), (b, ()), ()) := by
  have step : ∀ (rec : ByteArray × (Graph × Graph) × Int × (Graph × Unit) × (Graph × Unit) × Unit → Option ρ) (i : Int), q26z_s0 n rec K KR (kind, (a, b), i, (a, ()), (b, ()), ()) = bif decide (i < 2) then (ix [a, b] i).bind fun x => bif chkG x != 0 then KR ([], [], chkG x, ()) else rec (kind, (a, b), IntKind.wrap .i64 (i + 1), (a, ()), (b, ()), ()) else K (kind, (a, ()), (b, ()), ()) := by
    intro rec i
    unfold q26z_s0
    simp only [Graph.eta, gcheck_ok _ n (show 80 ≤ n by omega), Option.bind_some]
  rw [iterN, step, show decide ((0 : Int) < 2) = true from rfl, cond_true, show ix [a, b] 0 = some a from rfl, Option.bind_some]
  cases chkG a != 0 with
  | true => rfl
  | false =>
    rw [cond_false, cond_false, iterN, step, show decide ((IntKind.wrap .i64 (0 + 1) : Int) < 2) = true from rfl, cond_true, show ix [a, b] (IntKind.wrap .i64 (0 + 1)) = some b from rfl, Option.bind_some]
    cases chkG b != 0 with
    | true => rfl
    | false =>
      rw [cond_false, cond_false, iterN, step]
      rfl
theorem change_s2 (n : Nat) (v18 : ByteArray) (v19 : List (Ev.Pair × Bool)) (a b : Graph) {ρ : Type} (K : ByteArray × (List (Ev.Pair × Bool)) × (Graph × Unit) × (Graph × Unit) × Unit × (List (Ev.Pair × Bool)) × Unit → Option ρ) (r : ρ) (ks : List Ev.Pair)
    (h : ∀ ks', ks'.Nodup → (∀ k, k ∈ ks' ↔ k ∈ ks) → K (v18, v19, (a, ()), (b, ()), (), tr ks', ()) = some r) :
    ∀ (fuel : Nat) (acc rest : List Ev.Pair), rest.length < fuel → acc.Nodup → (∀ k, k ∈ ks ↔ k ∈ acc ∨ k ∈ rest) →
      iterN (fun rc => q26z_s2 n rc K (fun (_) => none)) fuel (v18, v19, (a, ()), (b, ()), (), tr acc, tr rest, ()) = some r := by
  intro fuel
  induction fuel with
  | zero => intro acc rest h; exact absurd h (Nat.not_lt_zero _)
  | succ f ih =>
    intro acc rest hf hnd hm
    rw [iterN]
    unfold q26z_s2
    dsimp only
    rw [Graph.eta, Graph.eta]
    refine rng_tr rest _ _ _ (fun e => ?_) fun i hi => ?_
    · subst e
      exact h acc hnd fun k => by rw [hm]; simp
    · dsimp only
      have hp := erase_perm rest i hi
      have hlen := hp.length_eq
      rw [List.length_cons] at hlen
      rw [Pair.eta, put_tr]
      refine ih _ _ (by omega) (ins_nodup hnd _) fun k => ?_
      rw [hm, mem_ins, ← hp.mem_iff, List.mem_cons]
      constructor
      · rintro (h | h | h)
        · exact .inl (.inl h)
        · exact .inl (.inr h)
        · exact .inr h
      · rintro ((h | h) | h)
        · exact .inl h
        · exact .inr (.inl h)
        · exact .inr (.inr h)
def over (bef : List Ev.Pair) (e : Edg) (k : Ev.Pair) : Prop := (k.p = e.src ∨ Ev.Pair.mk k.p e.src ∈ bef) ∧ (k.q = e.dst ∨ Ev.Pair.mk e.dst k.q ∈ bef)
theorem change_s6 (n : Nat) (v44 : ByteArray) (bef : List Ev.Pair) (v46 : List Edg) (v47 v48 : Int) (b : Graph) (e : Edg) {ρ : Type} (K : ByteArray × (List (Ev.Pair × Bool)) × (List Edg) × Int × Int × (Graph × Unit) × Unit × (List (Ev.Pair × Bool)) × Unit → Option ρ) (r : ρ) (P : Ev.Pair → Prop)
    (h : ∀ ks', ks'.Nodup → (∀ k, k ∈ ks' ↔ P k) → K (v44, tr bef, v46, v47, v48, (b, ()), (), tr ks', ()) = some r) :
    ∀ (fuel : Nat) (out rest : List Ev.Pair), rest.length < fuel → out.Nodup → (∀ k, P k ↔ k ∈ out ∧ ¬ (k ∈ rest ∧ over bef e k)) →
      iterN (fun rc => q26z_s6 n rc K (fun (_) => none)) fuel (v44, tr bef, v46, v47, v48, (b, ()), (), (e, ()), tr out, tr rest, ()) = some r := by
  intro fuel
  induction fuel with
  | zero => intro acc rest h; exact absurd h (Nat.not_lt_zero _)
  | succ f ih =>
    intro out rest hf hnd hm
    rw [iterN]
    unfold q26z_s6
    dsimp only
    rw [Graph.eta]
    simp only [Edg.eta, Pair.eta]
    refine rng_tr rest _ _ _ (fun e => ?_) fun i hi => ?_
    · subst e
      exact h out hnd fun k => by rw [hm]; simp
    · dsimp only
      have hp := erase_perm rest i hi
      have hlen := hp.length_eq
      rw [List.length_cons] at hlen
      simp only [get_tr]
      rw [del_tr hnd]
      have yes : over bef e rest[i] → iterN (fun rc => q26z_s6 n rc K (fun (_) => none)) f (v44, tr bef, v46, v47, v48, (b, ()), (), (e, ()), tr (out.filter fun x => decide (x ≠ rest[i])), tr (rest.eraseIdx i), ()) = some r := fun ho => by
        refine ih _ _ (by omega) (hnd.sublist List.filter_sublist) fun k => ?_
        rw [hm, List.mem_filter, decide_eq_true_iff, ← hp.mem_iff, List.mem_cons]
        constructor
        · rintro ⟨h1, h2⟩
          exact ⟨⟨h1, fun hk => h2 ⟨.inl hk, hk ▸ ho⟩⟩, fun hk => h2 ⟨.inr hk.1, hk.2⟩⟩
        · rintro ⟨⟨h1, h2⟩, h3⟩
          refine ⟨h1, ?_⟩
          rintro ⟨h4 | h4, h5⟩
          · exact h2 h4
          · exact h3 ⟨h4, h5⟩
      have no : ¬ over bef e rest[i] → iterN (fun rc => q26z_s6 n rc K (fun (_) => none)) f (v44, tr bef, v46, v47, v48, (b, ()), (), (e, ()), tr out, tr (rest.eraseIdx i), ()) = some r := fun ho => by
        refine ih _ _ (by omega) hnd fun k => ?_
        rw [hm, ← hp.mem_iff, List.mem_cons]
        constructor
        · rintro ⟨h1, h2⟩
          exact ⟨h1, fun hk => h2 ⟨.inr hk.1, hk.2⟩⟩
        · rintro ⟨h1, h2⟩
          refine ⟨h1, ?_⟩
          rintro ⟨h4 | h4, h5⟩
          · exact ho (h4 ▸ h5)
          · exact h2 ⟨h4, h5⟩
      by_cases h1 : (rest[i].p : Int) = e.src
      · rw [show ((rest[i].p : Int) == e.src) = true by simpa using h1, cond_true]
        by_cases h2 : (rest[i].q : Int) = e.dst
        · rw [show ((rest[i].q : Int) == e.dst) = true by simpa using h2, cond_true]
          exact yes ⟨.inl h1, .inl h2⟩
        · rw [show ((rest[i].q : Int) == e.dst) = false by simpa using h2, cond_false]
          by_cases h3 : Ev.Pair.mk e.dst rest[i].q ∈ bef
          · rw [decide_eq_true h3, cond_true]
            exact yes ⟨.inl h1, .inr h3⟩
          · rw [decide_eq_false h3, cond_false]
            exact no fun ho => ho.2.elim h2 h3
      · rw [show ((rest[i].p : Int) == e.src) = false by simpa using h1, cond_false]
        by_cases h4 : Ev.Pair.mk rest[i].p e.src ∈ bef
        · rw [decide_eq_true h4, cond_true]
          by_cases h2 : (rest[i].q : Int) = e.dst
          · rw [show ((rest[i].q : Int) == e.dst) = true by simpa using h2, cond_true]
            exact yes ⟨.inr h4, .inl h2⟩
          · rw [show ((rest[i].q : Int) == e.dst) = false by simpa using h2, cond_false]
            by_cases h3 : Ev.Pair.mk e.dst rest[i].q ∈ bef
            · rw [decide_eq_true h3, cond_true]
              exact yes ⟨.inr h4, .inr h3⟩
            · rw [decide_eq_false h3, cond_false]
              exact no fun ho => ho.2.elim h2 h3
        · rw [decide_eq_false h4, cond_false]
          exact no fun ho => ho.1.elim h1 h4
def goneE (kind : ByteArray) (b : Graph) (e : Edg) : Prop := kd kind e = true ∧ (b.edges.any fun x => sameE x e) = false
theorem change_s4 (n : Nat) (hn : 2000 ≤ n) (kind : ByteArray) (bef : List Ev.Pair) (hb : bef.length ≤ 1600) (es : List Edg) (he : es.length ≤ 60) (b : Graph) (h60 : b.edges.length ≤ 60) {ρ : Type} (K : ByteArray × (List (Ev.Pair × Bool)) × (Graph × Unit) × Unit × (List (Ev.Pair × Bool)) × Unit → Option ρ) (r : ρ) (P : Ev.Pair → Prop)
    (h : ∀ ks', ks'.Nodup → (∀ k, k ∈ ks' ↔ P k) → K (kind, tr bef, (b, ()), (), tr ks', ()) = some r) :
    ∀ (rs p : List Edg) (fuel : Nat) (out : List Ev.Pair), es = p ++ rs → rs.length < fuel → out.Nodup → (∀ k, P k ↔ k ∈ out ∧ ∀ e ∈ rs, goneE kind b e → ¬ (k ∈ bef ∧ over bef e k)) →
      iterN (fun rc => q26z_s4 n rc K (fun (_) => none)) fuel (kind, tr bef, es, (es.length : Int), (p.length : Int), (b, ()), (), tr out, ()) = some r := by
  intro rs
  induction rs with
  | nil =>
    intro p fuel out hp hf hnd hm
    obtain ⟨f, rfl⟩ : ∃ f, fuel = f + 1 := ⟨fuel - 1, by omega⟩
    rw [iterN]
    unfold q26z_s4
    dsimp only
    rw [show decide ((p.length : Int) < (es.length : Int)) = false by rw [hp]; simp, cond_false, Graph.eta]
    exact h out hnd fun k => by rw [hm]; simp
  | cons x rs ih =>
    intro p fuel out hp hf hnd hm
    obtain ⟨f, rfl⟩ : ∃ f, fuel = f + 1 := ⟨fuel - 1, by omega⟩
    have hll : es.length = p.length + (rs.length + 1) := by rw [hp]; simp
    have e3 : IntKind.wrap .i64 ((p.length : Int) + 1) = ((p ++ [x]).length : Int) := by rw [wrap64 (by omega) (by omega)]; simp
    rw [iterN]
    unfold q26z_s4
    dsimp only
    rw [show decide ((p.length : Int) < (es.length : Int)) = true by rw [decide_eq_true_iff]; omega, cond_true, ix_ok (x := x) (by rw [hp]; simp), Option.bind_some, Graph.eta, Edg.eta, contains_ok n b.edges x h60 (by omega), e3]
    have skip : ¬ goneE kind b x → iterN (fun rc => q26z_s4 n rc K (fun (_) => none)) f (kind, tr bef, es, (es.length : Int), ((p ++ [x]).length : Int), (b, ()), (), tr out, ()) = some r := fun hg => by
      refine ih (p ++ [x]) f out (by simp [hp]) (by simp at hf; omega) hnd fun k => ?_
      rw [hm]
      simp [hg]
    have hkk : ((!(seq kind ⟨#[]⟩)) && (!(seq x.type kind))) = !(kd kind x) := by unfold kd; cases seq kind ⟨#[]⟩ <;> rfl
    rw [hkk]
    cases hk : kd kind x with
    | false =>
      rw [Bool.not_false, cond_true]
      exact skip fun hg => by rw [hg.1] at hk; cases hk
    | true =>
      rw [Bool.not_true, cond_false, Option.bind_some]
      dsimp only
      cases hc : b.edges.any fun y => sameE y x with
      | true =>
        rw [cond_true]
        exact skip fun hg => by rw [hg.2] at hc; cases hc
      | false =>
        rw [cond_false, Edg.eta]
        have hg : goneE kind b x := ⟨hk, hc⟩
        refine change_s6 n kind bef es (es.length : Int) (p.length : Int) b x _ r (fun k => k ∈ out ∧ ¬ (k ∈ bef ∧ over bef x k)) (fun ks' hn' hm' => ?_) n out bef (by omega) hnd fun k => Iff.rfl
        dsimp only
        rw [Graph.eta, e3]
        refine ih (p ++ [x]) f ks' (by simp [hp]) (by simp at hf; omega) hn' fun k => ?_
        rw [hm, hm']
        simp only [List.mem_cons, forall_eq_or_imp]
        constructor
        · rintro ⟨h1, h2, h3⟩
          exact ⟨⟨h1, h2 hg⟩, h3⟩
        · rintro ⟨⟨h1, h2⟩, h3⟩
          exact ⟨h1, fun _ => h2, h3⟩
theorem still {kind : ByteArray} {a b : Graph} {bef : List Ev.Pair} (hm : ∀ k, k ∈ bef ↔ Rc (stp kind a.edges) k.p k.q) {p0 q0 : Int} (hno : ∀ e ∈ a.edges, goneE kind b e → ¬ over bef e ⟨p0, q0⟩) {p q : Int} (w : W (stp kind a.edges) (fun _ => True) p q)
    (h1 : p0 = p ∨ Rc (stp kind a.edges) p0 p) (h2 : q0 = q ∨ Rc (stp kind a.edges) q q0) : Rc (stp kind b.edges) p q := by
  induction w with
  | @one u v hs =>
    obtain ⟨x, hx, hk, rfl, rfl⟩ := hs
    cases hc : b.edges.any fun y => sameE y x with
    | false =>
      refine absurd ⟨h1.imp id fun h => (hm _).2 h, h2.imp id fun h => (hm _).2 h⟩ (hno x hx ⟨hk, hc⟩)
    | true =>
      obtain ⟨y, hy, hs⟩ := List.any_eq_true.1 hc
      unfold sameE at hs
      simp only [Bool.and_eq_true, beq_iff_eq] at hs
      obtain ⟨⟨⟨_, hs1⟩, hs2⟩, hs3⟩ := hs
      refine .one ⟨y, hy, ?_, hs1, hs2⟩
      unfold kd at hk ⊢
      rw [← (seq_iff y.type x.type).1 hs3] at hk
      exact hk
  | two w1 _ w2 i j =>
    exact Rc.trans (i h1 (.inr (by
      rcases h2 with rfl | h2
      · exact w2
      · exact Rc.trans w2 h2))) (j (.inr (by
      rcases h1 with rfl | h1
      · exact w1
      · exact Rc.trans h1 w1)) h2)
end Pure


/- Plain: Change, and the law of it. No program. -/
namespace Pure
open Esp Ev Go
set_option linter.unusedSimpArgs false
set_option linter.unusedVariables false
set_option linter.unusedSimpArgs false
set_option linter.unusedVariables false
structure Add (R : Int → Int → Prop) (out td out' td' : List Ev.Pair) : Prop where
  snd : sound R out'
  sup : ∀ k ∈ out, k ∈ out'
  new : ∀ k ∈ out', k ∈ out ∨ k ∈ td'
  tsup : ∀ k ∈ td, k ∈ td'
  tin : ∀ k ∈ td', k ∈ td ∨ k ∈ out'
theorem Add.refl {R : Int → Int → Prop} {out td : List Ev.Pair} (h : sound R out) : Add R out td out td := ⟨h, fun _ h => h, fun _ h => .inl h, fun _ h => h, fun _ h => .inl h⟩
theorem Add.trans {R : Int → Int → Prop} {o t o1 t1 o2 t2 : List Ev.Pair} (h : Add R o t o1 t1) (g : Add R o1 t1 o2 t2) : Add R o t o2 t2 :=
  ⟨g.snd, fun k hk => g.sup k (h.sup k hk), fun k hk => (g.new k hk).elim (fun h1 => (h.new k h1).imp id (g.tsup k)) .inr, fun k hk => g.tsup k (h.tsup k hk), fun k hk => (g.tin k hk).elim (fun h1 => (h.tin k h1).imp id (g.sup k)) .inr⟩
theorem add_ok {R : Int → Int → Prop} {ns : List Int} (hE : Ends R ns) (hN : ns.length ≤ 40) (x : Ev.Pair) (out td : List Ev.Pair) (hs : sound R out) (hx : Rc R x.p x.q) (hl : td.length ≤ 900000) :
    ∃ out' td', q21z (x, (), tr out, (), td, ()) = some ((), tr out', (), td', ()) ∧ Add R out td out' td' ∧ x ∈ out' ∧ td'.length + 2 * (1600 - out'.length) ≤ td.length + 2 * (1600 - out.length) ∧ td'.length ≤ td.length + 1 := by
  unfold q21z
  dsimp only
  rw [Pair.eta, get_tr]
  by_cases hm : x ∈ out
  · rw [decide_eq_true hm]
    exact ⟨out, td, rfl, Add.refl hs, hm, Nat.le_refl _, by omega⟩
  · have hs' : ∀ k ∈ ins out x, Rc R k.p k.q := fun k hk => by
      rcases mem_ins.1 hk with h | rfl
      · exact hs.2 k h
      · exact hx
    have hnd' := ins_nodup hs.1 x
    have hle := prod_le hnd' (fun k hk => ⟨hE.p (hs' k hk), hE.q (hs' k hk)⟩) hN
    have hlen : (ins out x).length = out.length + 1 := by unfold ins; rw [if_neg hm]; simp
    rw [decide_eq_false hm, Bool.not_false, cond_true, ck_ok (room16 (by simp; omega)), put_tr]
    refine ⟨ins out x, td ++ [x], rfl, ⟨⟨hnd', hs'⟩, fun k hk => mem_ins.2 (.inl hk), fun k hk => (mem_ins.1 hk).imp id fun e => by simp [e], fun k hk => by simp [hk], fun k hk => ?_⟩, mem_ins.2 (.inr rfl), by simp; omega, by simp⟩
    simp only [List.mem_append, List.mem_singleton] at hk
    exact hk.imp id fun e => mem_ins.2 (.inr e)
theorem change_s8 (n : Nat) (kind : ByteArray) (b : Graph) (hE : Ends (stp kind b.edges) (idsN b)) (hN : (idsN b).length ≤ 40) (v72 : List (Ev.Pair × Bool)) (v73 : List (Int × (List Int))) {ρ : Type}
    (K : ByteArray × (List (Ev.Pair × Bool)) × (List (Int × (List Int))) × Unit × Unit × (List (Ev.Pair × Bool)) × (List Ev.Pair) × Unit → Option ρ) :
    ∀ (r : List Edg) (i : Int) (out td : List Ev.Pair), (∀ x ∈ r, x ∈ b.edges) → sound (stp kind b.edges) out → td.length + r.length ≤ 900000 →
      ∃ out' td', Add (stp kind b.edges) out td out' td' ∧ (∀ x ∈ r, kd kind x = true → Ev.Pair.mk x.src x.dst ∈ out') ∧ td'.length ≤ td.length + r.length ∧
        foldK (F_q26z_s8 n (fun (_) => none)) K i r (kind, v72, v73, (), (), tr out, td, ()) = K (kind, v72, v73, (), (), tr out', td', ()) := by
  intro r
  induction r with
  | nil => intro i out td _ hs _; exact ⟨out, td, Add.refl hs, fun x hx => (by cases hx), by simp, rfl⟩
  | cons x r ih =>
    intro i out td hr hs hl
    rw [List.length_cons] at hl
    rw [foldK]
    have hF : ∀ (rec : _ → Option ρ), F_q26z_s8 n (fun (_) => none) i x (kind, v72, v73, (), (), tr out, td, ()) rec = bif kd kind x then (q21z ((Ev.Pair.mk x.src x.dst), (()), tr out, (()), td, ())).bind fun (o82, o83, o84, o85, _) => rec (kind, v72, v73, (()), (()), o83, o85, ()) else rec (kind, v72, v73, (()), (()), tr out, td, ()) := fun _ => rfl
    rw [hF]
    cases hk : kd kind x with
    | false =>
      rw [cond_false]
      obtain ⟨o, t, h1, h2, h3, h4⟩ := ih (i + 1) out td (fun y hy => hr y (by simp [hy])) hs (by omega)
      refine ⟨o, t, h1, fun y hy hky => ?_, by simp; omega, h4⟩
      rcases List.mem_cons.1 hy with rfl | hy
      · rw [hk] at hky; cases hky
      · exact h2 y hy hky
    | true =>
      obtain ⟨o1, t1, a1, a2, a3, a4, a5⟩ := add_ok hE hN ⟨x.src, x.dst⟩ out td hs (.one ⟨x, hr x (by simp), hk, rfl, rfl⟩) (by omega)
      rw [cond_true, a1, Option.bind_some]
      obtain ⟨o, t, h1, h2, h3, h4⟩ := ih (i + 1) o1 t1 (fun y hy => hr y (by simp [hy])) a2.snd (by omega)
      refine ⟨o, t, a2.trans h1, fun y hy hky => ?_, by simp; omega, h4⟩
      rcases List.mem_cons.1 hy with rfl | hy
      · exact h1.sup _ a3
      · exact h2 y hy hky
theorem change_s10 (n : Nat) (v93 : List (Ev.Pair × Bool)) (v94 : List (Int × (List Int))) (o : List (Ev.Pair × Bool)) {ρ : Type}
    (K : (List (Ev.Pair × Bool)) × (List (Int × (List Int))) × Unit × Unit × (List (Ev.Pair × Bool)) × (List Ev.Pair) × Unit → Option ρ) :
    ∀ (r p : List Ev.Pair) (i : Int), p.length + r.length ≤ 900000 → foldK (F_q26z_s10 n (fun (_) => none)) K i r (v93, v94, (), (), o, p, ()) = K (v93, v94, (), (), o, p ++ r, ()) := by
  intro r
  induction r with
  | nil => intro p i _; simp [foldK]
  | cons x r ih =>
    intro p i hl
    rw [List.length_cons] at hl
    rw [foldK]
    have hF : ∀ (rec : _ → Option ρ), F_q26z_s10 n (fun (_) => none) i x (v93, v94, (), (), o, p, ()) rec = ck (room (p ++ ([x] : List Ev.Pair)).length 16) (rec (v93, v94, (()), (()), o, p ++ ([x] : List Ev.Pair), ())) := fun _ => rfl
    rw [hF, ck_ok (room16 (by simp; omega)), ih (p ++ [x]) (i + 1) (by simp; omega), List.append_assoc]
    rfl
theorem change_s14 (n : Nat) (R : Int → Int → Prop) {ns : List Int} (hE : Ends R ns) (hN : ns.length ≤ 40) (v117 : List (Ev.Pair × Bool)) (v118 : List (Int × (List Int))) (e : Ev.Pair) {ρ : Type}
    (K : (List (Ev.Pair × Bool)) × (List (Int × (List Int))) × Unit × Unit × (Ev.Pair × Unit) × (List (Ev.Pair × Bool)) × (List Ev.Pair) × Unit → Option ρ) :
    ∀ (r : List Int) (i : Int) (out td : List Ev.Pair), (∀ t ∈ r, Rc R e.p t) → sound R out → td.length + r.length ≤ 900000 →
      ∃ out' td', Add R out td out' td' ∧ (∀ t ∈ r, Ev.Pair.mk e.p t ∈ out') ∧ td'.length + 2 * (1600 - out'.length) ≤ td.length + 2 * (1600 - out.length) ∧
        foldK (F_q26z_s14 n (fun (_) => none)) K i r (v117, v118, (), (), (e, ()), tr out, td, ()) = K (v117, v118, (), (), (e, ()), tr out', td', ()) := by
  intro r
  induction r with
  | nil => intro i out td _ hs _; exact ⟨out, td, Add.refl hs, fun x hx => (by cases hx), Nat.le_refl _, rfl⟩
  | cons x r ih =>
    intro i out td hr hs hl
    rw [List.length_cons] at hl
    rw [foldK]
    have hF : ∀ (rec : _ → Option ρ), F_q26z_s14 n (fun (_) => none) i x (v117, v118, (), (), (e, ()), tr out, td, ()) rec = (q21z ((Ev.Pair.mk e.p x), (()), tr out, (()), td, ())).bind fun (o128, o129, o130, o131, _) => rec (v117, v118, (()), (()), (e, ()), o129, o131, ()) := fun _ => rfl
    obtain ⟨o1, t1, a1, a2, a3, a4, a5⟩ := add_ok hE hN ⟨e.p, x⟩ out td hs (hr x (by simp)) (by omega)
    rw [hF, a1, Option.bind_some]
    obtain ⟨o, t, h1, h2, h3, h4⟩ := ih (i + 1) o1 t1 (fun y hy => hr y (by simp [hy])) a2.snd (by omega)
    refine ⟨o, t, a2.trans h1, fun y hy => ?_, by omega, h4⟩
    rcases List.mem_cons.1 hy with rfl | hy
    · exact h1.sup _ a3
    · exact h2 y hy
theorem change_s12 (n : Nat) (hn : 100 ≤ n) (kind : ByteArray) (b : Graph) (h60 : b.edges.length ≤ 60) (hE : Ends (stp kind b.edges) (idsN b)) (hN : (idsN b).length ≤ 40) (v109 : List (Ev.Pair × Bool)) {ρ : Type}
    (K : (List (Ev.Pair × Bool)) × Unit × (List (Ev.Pair × Bool)) × Unit → Option ρ) :
    ∀ (fuel : Nat) (out td : List Ev.Pair), sound (stp kind b.edges) out → (∀ k ∈ td, k ∈ out) → (∀ x y, stp kind b.edges x y → Ev.Pair.mk x y ∈ out) → (∀ k ∈ out, k ∈ td ∨ ∀ t, stp kind b.edges k.q t → Ev.Pair.mk k.p t ∈ out) →
      td.length + 2 * (1600 - out.length) < fuel → td.length + 2 * (1600 - out.length) ≤ 100000 →
      ∃ ks, ks.Nodup ∧ (∀ k, k ∈ ks ↔ Rc (stp kind b.edges) k.p k.q) ∧
        iterN (fun rc => q26z_s12 n rc K (fun (_) => none)) fuel (v109, nextL kind b.edges, (), (), tr out, td, ()) = K (v109, (), tr ks, ()) := by
  intro fuel
  induction fuel with
  | zero => intro out td _ _ _ _ h; exact absurd h (Nat.not_lt_zero _)
  | succ f ih =>
    intro out td hs htd h1 hcl hf hM
    rw [iterN]
    unfold q26z_s12
    dsimp only
    rcases List.eq_nil_or_concat td with rfl | ⟨p, e, rfl⟩
    · refine ⟨out, hs.1, fun k => ⟨hs.2 k, fun w => ?_⟩, rfl⟩
      exact Rc.close (a := k.p) (fun t => Ev.Pair.mk k.p t ∈ out) (fun t ht => h1 _ _ ht) (fun t u ht hu => ((hcl _ ht).resolve_left (by simp)) u hu) w
    · rw [List.concat_eq_append] at *
      have hpl : p.length ≤ 100000 := by simp at hM; omega
      have hnl := Nat.le_trans (nextL_len kind e.q b.edges) h60
      rw [pop_ix p e (by omega), pop_get p e (by omega), pop_cut p e (by omega), show decide (((p ++ [e]).length : Int) > 0) = true by rw [decide_eq_true_iff]; simp, cond_true, Option.bind_some, Option.bind_some, Option.bind_some, Pair.eta,
        R_q26z_s14 n _ _ _ n _ _ _ _ _ _ _ (by omega) (by omega)]
      have heo : e ∈ out := htd e (by simp)
      obtain ⟨o1, t1, a1, a2, a3, a4⟩ := change_s14 n (stp kind b.edges) hE hN v109 (nextL kind b.edges) e (fun (v117, v118, o122, o123, o124, o125, o126, _) => (fun (v132, v133, o134, o135, o136, o137, _) => iterN (fun rc => q26z_s12 n rc K (fun (_) => none)) f (v132, v133, (()), (()), o136, o137, ())) (v117, v118, (()), (()), o125, o126, ()))
        (mpGet .i64 (.lst .i64) [] (nextL kind b.edges) e.q) 0 out p (fun t ht => (hs.2 e heo).trans (.one ((next_mem kind b.edges e.q t).1 ht))) hs (by omega)
      obtain ⟨ks, k1, k2, k3⟩ := ih o1 t1 a1.snd (fun k hk => (a1.tin k hk).elim (fun h => a1.sup k (htd k (by simp [h]))) id) (fun x y h => a1.sup _ (h1 x y h)) (fun k hk => by
        rcases a1.new k hk with h | h
        · rcases hcl k h with h | h
          · simp only [List.mem_append, List.mem_singleton] at h
            rcases h with h | rfl
            · exact .inl (a1.tsup k h)
            · exact .inr fun t ht => a2 t ((next_mem kind b.edges k.q t).2 ht)
          · exact .inr fun t ht => a1.sup _ (h t ht)
        · exact .inl h) (by simp at hf; omega) (by simp at hM; omega)
      exact ⟨ks, k1, k2, a4.trans k3⟩
theorem change_3 (n : Nat) (A B : List Ev.Pair) (hA : A.length ≤ 100000) (hn : A.length < n) : q22z n (tr A, tr B, ()) = some (sortL ltP (A.filter fun k => decide (k ∉ B)), ()) := by
  have key : ∀ (fuel : Nat) (acc rest : List Ev.Pair), rest.length < fuel → acc.length + rest.length ≤ A.length →
      iterN (fun rc11 => q22z_s0 n rc11 (fun (o8, _) => (sfPair (o8, ())).bind fun (o9, _) => (q30z n (o9, ())).bind fun (y10, _) => some (y10, ())) (fun (_) => none)) fuel (tr B, acc, tr rest, ()) = some (sortL ltP (acc ++ rest.filter fun k => decide (k ∉ B)), ()) := by
    intro fuel
    induction fuel with
    | zero => intro acc rest h; exact absurd h (Nat.not_lt_zero _)
    | succ f ih =>
      intro acc rest hf hl
      rw [iterN]
      unfold q22z_s0
      dsimp only
      refine rng_tr rest _ _ _ (fun e => ?_) fun i hi => ?_
      · subst e
        rw [sfPair_some acc (by omega), Option.bind_some]
        dsimp only
        rw [plain_ok n _ (by rw [sortL_length]; omega) (by rw [sortL_length]; simp at hl; omega)]
        simp
      · dsimp only
        have hp := erase_perm rest i hi
        have hlen := hp.length_eq
        rw [List.length_cons] at hlen
        have hpf := hp.filter fun k => decide (k ∉ B)
        rw [List.filter_cons] at hpf
        rw [Pair.eta, get_tr]
        by_cases hm : rest[i] ∈ B
        · rw [decide_eq_true hm]
          rw [if_neg (by simpa using hm)] at hpf
          refine (ih _ _ (by omega) (by omega)).trans ?_
          rw [sortL_eq ltP_ok (hpf.append_left acc)]
        · rw [decide_eq_false hm, Bool.not_false, cond_true, ck_ok (room16 (by simp; omega))]
          rw [if_pos (by simpa using hm)] at hpf
          refine (ih _ _ (by omega) (by simp; omega)).trans ?_
          rw [List.append_assoc, List.singleton_append, sortL_eq ltP_ok (hpf.append_left acc)]
  have := key n [] A hn (by simp)
  rwa [List.nil_append] at this
theorem fil_perm {A A' B B' : List Ev.Pair} (hA : A.Nodup) (hA' : A'.Nodup) (h : ∀ k, k ∈ A ↔ k ∈ A') (h' : ∀ k, k ∈ B ↔ k ∈ B') : sortL ltP (A.filter fun k => decide (k ∉ B)) = sortL ltP (A'.filter fun k => decide (k ∉ B')) :=
  sortL_eq ltP_ok (perm_of (hA.sublist List.filter_sublist) (hA'.sublist List.filter_sublist) fun k => by rw [List.mem_filter, List.mem_filter, decide_eq_true_iff, decide_eq_true_iff, h, h'])
theorem change_ok (n : Nat) (hn : 100100 ≤ n) (a b : Graph) (kind : ByteArray) (ha : chkG a = 0) (hb : chkG b = 0) (A B : List Ev.Pair) (nA : A.Nodup) (nB : B.Nodup) (mA : ∀ k, k ∈ A ↔ Rc (stp kind a.edges) k.p k.q) (mB : ∀ k, k ∈ B ↔ Rc (stp kind b.edges) k.p k.q) :
    q26z n (a, b, kind, ()) = some (sortL ltP (A.filter fun k => decide (k ∉ B)), sortL ltP (B.filter fun k => decide (k ∉ A)), 0, ()) := by
  obtain ⟨bef, b1, b2, b3, b4⟩ := set_ok n hn a kind ha
  have hE := ends_of hb kind
  have hN := ids_len hb
  obtain ⟨_, a60, _, _⟩ := chkG_0 ha
  obtain ⟨_, h60, _, _⟩ := chkG_0 hb
  obtain ⟨m, hm⟩ : ∃ m, n = m + 3 := ⟨n - 3, by omega⟩
  unfold q26z
  dsimp only
  rw [Graph.eta, Graph.eta]
  have hs0 := fun {ρ : Type} K KR => change_s0 n m (by omega) a b kind (ρ := ρ) K KR
  rw [← hm] at hs0
  rw [hs0, ha, hb]
  dsimp only
  rw [show ((0 : Int) != 0) = false from rfl, cond_false, cond_false, Graph.eta, Graph.eta, b4, Option.bind_some]
  dsimp only
  refine change_s2 n kind (tr bef) a b _ _ bef (fun o1 n1 m1 => ?_) n [] bef (by omega) List.nodup_nil (fun k => by simp)
  dsimp only
  rw [Graph.eta]
  refine change_s4 n (by omega) kind bef b3 a.edges a60 b h60 _ _ (fun k => k ∈ o1 ∧ ∀ e ∈ a.edges, goneE kind b e → ¬ (k ∈ bef ∧ over bef e k)) (fun o2 n2 m2 => ?_) a.edges [] n o1 rfl (by omega) n1 fun k => Iff.rfl
  dsimp only
  have s2 : sound (stp kind b.edges) o2 := ⟨n2, fun k hk => by
    obtain ⟨h1, h2⟩ := (m2 k).1 hk
    have hkb := (m1 k).1 h1
    exact still b2 (p0 := k.p) (q0 := k.q) (fun e he hg ho => h2 e he hg ⟨hkb, ho⟩) ((b2 k).1 hkb) (.inl rfl) (.inl rfl)⟩
  rw [Graph.eta, show nextN (b, kind, ()) = some (nextL kind b.edges, ()) by unfold nextN; dsimp only; rw [Nat.ble_eq_true_of_le (by omega), cond_true], Option.bind_some]
  dsimp only
  rw [R_q26z_s8 n _ _ b.edges n _ _ _ _ _ _ _ (by omega) (by omega)]
  obtain ⟨o3, t3, c1, c2, c3, c4⟩ := change_s8 n kind b hE hN (tr bef) (nextL kind b.edges) (fun (v71, v72, v73, o77, o78, o79, o80, _) => (fun (v86, v87, o88, o89, o90, o91, _) =>
  (q27z n (o90, ())).bind fun (y92, _) =>
  iterN (fun rc145 => q26z_s10 n rc145 (fun (v103, v104, o105, o106, o107, o108, _) =>
  iterN (fun rc144 => q26z_s12 n rc144 (fun (v139, o140, o141, _) =>
  (q22z n (v139, o141, ())).bind fun (y142, _) =>
  (q22z n (o141, v139, ())).bind fun (y143, _) => some (y142, y143, (0 : Int), ())) (fun (_) => none)) (n) (v103, v104, (()), (()), o107, o108, ())) (fun (_) => none)) (n) (v86, v87, y92, (y92.length : Int), 0, (()), (()), o90, o91, ())) (v72, v73, (()), (()), o79, o80, ())) b.edges 0 o2 [] (fun x h => h) s2 (by simp; omega)
  have l3 : o3.length ≤ 1600 := prod_le c1.snd.1 (fun k h => ⟨hE.p (c1.snd.2 k h), hE.q (c1.snd.2 k h)⟩) hN
  refine (c4.trans ?_).trans (show _ = _ from rfl)
  dsimp only
  rw [sorted_ok n o3 (by omega) (by omega), Option.bind_some]
  dsimp only
  have hsl : (sortL ltP o3).length = o3.length := sortL_length ltP o3
  rw [List.length_nil] at c3
  rw [R_q26z_s10 n _ _ (sortL ltP o3) n _ _ _ _ _ _ (by omega) (by omega), change_s10 n _ _ _ _ _ _ _ (by omega)]
  dsimp only
  obtain ⟨ks, k1, k2, k3⟩ := change_s12 n (by omega) kind b h60 hE hN (tr bef) (fun (v139, o140, o141, _) =>
  (q22z n (v139, o141, ())).bind fun (y142, _) =>
  (q22z n (o141, v139, ())).bind fun (y143, _) => some (y142, y143, (0 : Int), ())) n o3 (t3 ++ sortL ltP o3) c1.snd (fun k hk => by
    rcases List.mem_append.1 hk with h | h
    · exact (c1.tin k h).elim (fun h => by cases h) id
    · exact (sortL_perm ltP o3).mem_iff.1 h) (fun x y h => by
    obtain ⟨e, he, hk, rfl, rfl⟩ := h
    exact c2 e he hk) (fun k hk => .inl (List.mem_append.2 (.inr ((sortL_perm ltP o3).mem_iff.2 hk)))) (by rw [List.length_append]; omega) (by rw [List.length_append]; omega)
  refine k3.trans ?_
  dsimp only
  have lk : ks.length ≤ 1600 := prod_le k1 (fun k h => ⟨hE.p ((k2 k).1 h), hE.q ((k2 k).1 h)⟩) hN
  rw [change_3 n bef ks (by omega) (by omega), Option.bind_some]
  dsimp only
  rw [change_3 n ks bef (by omega) (by omega), Option.bind_some]
  dsimp only
  rw [fil_perm b1 nA (fun k => by rw [b2, mA]) (B := ks) (B' := B) (fun k => by rw [k2, mB]), fil_perm k1 nB (fun k => by rw [k2, mB]) (B := bef) (B' := A) (fun k => by rw [b2, mA])]
end Pure


/- Plain: the shortest ways, the least of them. No program. -/
namespace Pure
open Esp Ev Go
set_option linter.unusedSimpArgs false
set_option linter.unusedVariables false
set_option linter.unusedSimpArgs false
set_option linter.unusedVariables false
/-! ## maps of numbers -/
def gt (m : List (Int × Int)) (k : Int) : Option Int := bif mpHas .i64 .i64 m k then some (mpGet .i64 .i64 0 m k) else none
theorem has_gt (m : List (Int × Int)) (k : Int) : mpHas .i64 .i64 m k = (gt m k).isSome := by unfold gt; cases mpHas .i64 .i64 m k <;> rfl
theorem get_gt {m : List (Int × Int)} {k d : Int} (h : gt m k = some d) : mpGet .i64 .i64 0 m k = d := by
  unfold gt at h
  cases hb : mpHas .i64 .i64 m k with
  | false => rw [hb] at h; cases h
  | true => rw [hb] at h; simpa using h
theorem gt_nil (k : Int) : gt [] k = none := rfl
theorem gt_cons (p : Int × Int) (r : List (Int × Int)) (k : Int) : gt (p :: r) k = if k = p.1 then some p.2 else gt r k := by
  unfold gt
  show (bif (bif ((k : Int) == (p.1 : Int)) then true else mpHas .i64 .i64 r k) then some (bif ((k : Int) == (p.1 : Int)) then p.2 else mpGet .i64 .i64 0 r k) else none) = _
  by_cases h : k = p.1
  · rw [if_pos h, show ((k : Int) == (p.1 : Int)) = true by simpa using h]; rfl
  · rw [if_neg h, show ((k : Int) == (p.1 : Int)) = false by simpa using h]; rfl
theorem gt_put (l : List (Int × Int)) (k j v : Int) : gt (mpPut .i64 .i64 l k v) j = if j = k then some v else gt l j := by
  induction l with
  | nil => show gt [(k, v)] j = _; rw [gt_cons]
  | cons p r ih =>
    have e : mpPut .i64 .i64 (p :: r) k v = if k = p.1 then (k, v) :: r else p :: mpPut .i64 .i64 r k v := by
      rw [mpPut]
      show (bif ((k : Int) == (p.1 : Int)) then (k, v) :: r else _) = _
      by_cases h : k = p.1
      · rw [if_pos h, show ((k : Int) == (p.1 : Int)) = true by simpa using h]; rfl
      · rw [if_neg h, show ((k : Int) == (p.1 : Int)) = false by simpa using h]; rfl
    rw [e]
    by_cases hk : k = p.1
    · rw [if_pos hk, gt_cons, gt_cons]
      subst hk
      by_cases h : j = p.1
      · rw [if_pos h, if_pos h]
      · rw [if_neg h, if_neg h, if_neg h]
    · rw [if_neg hk, gt_cons, gt_cons, ih]
      by_cases h : j = p.1
      · subst h; rw [if_pos rfl, if_pos rfl, if_neg (Ne.symm hk)]
      · rw [if_neg h, if_neg h]
/-! ## ways and how long they are -/
def Ds (R : Int → Int → Prop) (tg : Int) : Nat → Int → Prop
  | 0, v => v = tg
  | d + 1, v => ∃ u, R v u ∧ Ds R tg d u
def dist (R : Int → Int → Prop) (tg : Int) (v : Int) (d : Nat) : Prop := Ds R tg d v ∧ ∀ e, e < d → ¬ Ds R tg e v
theorem dist_to (R : Int → Int → Prop) (tg : Int) : dist R tg tg 0 := ⟨rfl, fun e h => absurd h (Nat.not_lt_zero _)⟩
theorem dist_inj {R : Int → Int → Prop} {tg v : Int} {d e : Nat} (h : dist R tg v d) (h' : dist R tg v e) : d = e := by
  rcases Nat.lt_trichotomy d e with hh | hh | hh
  · exact absurd h.1 (h'.2 d hh)
  · exact hh
  · exact absurd h'.1 (h.2 e hh)
theorem dist_of {R : Int → Int → Prop} {tg : Int} : ∀ {d : Nat} {v : Int}, Ds R tg d v → ∃ e, e ≤ d ∧ dist R tg v e := by
  intro d
  induction d using Nat.strongRecOn with
  | ind d ih =>
    intro v h
    by_cases hx : ∃ e, e < d ∧ Ds R tg e v
    · obtain ⟨e, he, hd⟩ := hx
      obtain ⟨e', h1, h2⟩ := ih e he hd
      exact ⟨e', by omega, h2⟩
    · exact ⟨d, Nat.le_refl _, h, fun e he hd => hx ⟨e, he, hd⟩⟩
theorem dist_step {R : Int → Int → Prop} {tg v : Int} {d : Nat} (h : dist R tg v (d + 1)) : ∃ u, R v u ∧ dist R tg u d := by
  obtain ⟨u, hu, hd⟩ := h.1
  refine ⟨u, hu, hd, fun e he hh => h.2 (e + 1) (by omega) ⟨u, hu, hh⟩⟩
def FarK (R : Int → Int → Prop) (tg : Int) (m : List (Int × Int)) (k : Nat) : Prop := ∀ v d, gt m v = some d ↔ ∃ e : Nat, d = (e : Int) ∧ e ≤ k ∧ dist R tg v e
def Far (R : Int → Int → Prop) (tg : Int) (m : List (Int × Int)) : Prop := ∀ v d, gt m v = some d ↔ ∃ e : Nat, d = (e : Int) ∧ dist R tg v e
theorem farK_done {R : Int → Int → Prop} {tg : Int} {m : List (Int × Int)} {k : Nat} (h : FarK R tg m k) (hn : ∀ v, ¬ dist R tg v (k + 1)) : Far R tg m := by
  have none' : ∀ d, k + 1 ≤ d → ∀ v, ¬ dist R tg v d := by
    intro d hd
    induction d with
    | zero => omega
    | succ d ih =>
      intro v hv
      by_cases e : d = k
      · subst e; exact hn v hv
      · obtain ⟨u, _, hu⟩ := dist_step hv
        exact ih (by omega) u hu
  intro v d
  rw [h]
  constructor
  · rintro ⟨e, h1, h2, h3⟩; exact ⟨e, h1, h3⟩
  · rintro ⟨e, h1, h3⟩
    refine ⟨e, h1, ?_, h3⟩
    by_cases he : e ≤ k
    · exact he
    · exact absurd h3 (none' e (by omega) v)
def lack (ns : List Int) (m : List (Int × Int)) : Nat := (ns.filter fun v => (gt m v).isNone).length
theorem lack_put {ns : List Int} {m : List (Int × Int)} {k v : Int} (hk : k ∈ ns) (hn : gt m k = none) : lack ns (mpPut .i64 .i64 m k v) + 1 ≤ lack ns m := by
  unfold lack
  have e : (ns.filter fun j => (gt (mpPut .i64 .i64 m k v) j).isNone) = (ns.filter fun j => (gt m j).isNone).filter fun j => decide (j ≠ k) := by
    rw [List.filter_filter]
    refine List.filter_congr fun j _ => ?_
    rw [gt_put]
    by_cases h : j = k
    · simp [h]
    · simp [h]
  rw [e]
  have hm : k ∈ ns.filter fun j => (gt m j).isNone := List.mem_filter.2 ⟨hk, by rw [hn]; rfl⟩
  generalize (ns.filter fun j => (gt m j).isNone) = l at hm ⊢
  induction l with
  | nil => cases hm
  | cons a r ih =>
    rw [List.filter_cons]
    by_cases h : a = k
    · have := List.length_filter_le (fun j => decide (j ≠ k)) r
      simp [h] at this ⊢
      omega
    · have hr : k ∈ r := (List.mem_cons.1 hm).resolve_left (Ne.symm h)
      have := ih hr
      simp [h] at this ⊢
      omega
theorem lack_le (ns : List Int) (m : List (Int × Int)) : lack ns m ≤ ns.length := List.length_filter_le _ _
/-! ## one level -/
theorem path_s2 (n : Nat) (g : Graph) (kind : ByteArray) (a tg : Int) (k : Nat) (hk : k ≤ 1000) {ρ : Type} (K : ByteArray × Int × Int × Int × Bool × (Graph × Unit) × (List (Int × Int)) × Unit → Option ρ) (m0 : List (Int × Int)) (hE : Ends (stp kind g.edges) (idsN g)) :
    ∀ (r p : List Edg) (i : Int) (m : List (Int × Int)) (b : Bool), g.edges = p ++ r → (∀ v d, gt m v = some d ↔ gt m0 v = some d ∨ (gt m0 v = none ∧ d = (k : Int) + 1 ∧ ∃ x ∈ p, kd kind x = true ∧ x.src = v ∧ gt m0 x.dst = some (k : Int))) →
      (b = true ↔ ∃ v d, gt m v = some d ∧ gt m0 v = none) → (b = true → lack (idsN g) m + 1 ≤ lack (idsN g) m0) → (∀ v d, gt m0 v = some d → d ≤ k) →
      ∃ m' b', (∀ v d, gt m' v = some d ↔ gt m0 v = some d ∨ (gt m0 v = none ∧ d = (k : Int) + 1 ∧ ∃ x ∈ g.edges, kd kind x = true ∧ x.src = v ∧ gt m0 x.dst = some (k : Int))) ∧
        (b' = true ↔ ∃ v d, gt m' v = some d ∧ gt m0 v = none) ∧ (b' = true → lack (idsN g) m' + 1 ≤ lack (idsN g) m0) ∧
        foldK (F_q37z_s2 n (fun (_) => none)) K i r (kind, a, tg, (k : Int), b, (g, ()), m, ()) = K (kind, a, tg, (k : Int), b', (g, ()), m', ()) := by
  intro r
  induction r with
  | nil =>
    intro p i m b hp hm hb hl h0
    rw [List.append_nil] at hp
    rw [← hp] at hm
    exact ⟨m, b, hm, hb, hl, rfl⟩
  | cons x r ih =>
    intro p i m b hp hm hb hl h0
    rw [foldK]
    have hpx : g.edges = (p ++ [x]) ++ r := by simp [hp]
    have hF : ∀ (rec : _ → Option ρ), F_q37z_s2 n (fun (_) => none) i x (kind, a, tg, (k : Int), b, (g, ()), m, ()) rec = bif !(kd kind x) then rec (kind, a, tg, (k : Int), b, (g, ()), m, ()) else
        bif (mpHas .i64 .i64 m x.dst) && (((mpGet .i64 .i64 0 m x.dst) : Int) == k) then (bif !(mpHas .i64 .i64 m x.src) then rec (kind, a, tg, (k : Int), true, (g, ()), mpPut .i64 .i64 m x.src (IntKind.wrap .i64 ((k : Int) + 1)), ()) else rec (kind, a, tg, (k : Int), b, (g, ()), m, ())) else rec (kind, a, tg, (k : Int), b, (g, ()), m, ()) := fun rec => by
      have : ((!(seq kind ⟨#[]⟩)) && (!(seq x.type kind))) = !(kd kind x) := by unfold kd; cases seq kind ⟨#[]⟩ <;> rfl
      rw [← this]
      rfl
    rw [hF]
    have skip : (¬ (kd kind x = true ∧ gt m0 x.dst = some (k : Int) ∧ gt m x.src = none)) → ∃ m' b', (∀ v d, gt m' v = some d ↔ gt m0 v = some d ∨ (gt m0 v = none ∧ d = (k : Int) + 1 ∧ ∃ x ∈ g.edges, kd kind x = true ∧ x.src = v ∧ gt m0 x.dst = some (k : Int))) ∧
        (b' = true ↔ ∃ v d, gt m' v = some d ∧ gt m0 v = none) ∧ (b' = true → lack (idsN g) m' + 1 ≤ lack (idsN g) m0) ∧
        foldK (F_q37z_s2 n (fun (_) => none)) K (i + 1) r (kind, a, tg, (k : Int), b, (g, ()), m, ()) = K (kind, a, tg, (k : Int), b', (g, ()), m', ()) := fun hno => by
      refine ih (p ++ [x]) (i + 1) m b hpx (fun v d => ?_) hb hl h0
      rw [hm]
      constructor
      · rintro (h | ⟨h1, h2, y, hy, h3⟩)
        · exact .inl h
        · exact .inr ⟨h1, h2, y, by simp [hy], h3⟩
      · rintro (h | ⟨h1, h2, y, hy, h3, h4, h5⟩)
        · exact .inl h
        · rcases List.mem_append.1 hy with hy | hy
          · exact .inr ⟨h1, h2, y, hy, h3, h4, h5⟩
          · rw [List.mem_singleton] at hy
            subst hy
            cases hs : gt m y.src with
            | none => exact absurd ⟨h3, h5, hs⟩ hno
            | some e =>
              rcases (hm _ _).1 hs with h6 | ⟨h6, h7, h8⟩
              · rw [h4, h1] at h6; cases h6
              · rw [h4] at h8
                exact .inr ⟨h1, h2, h8⟩
    cases hkd : kd kind x with
    | false =>
      rw [Bool.not_false, cond_true]
      exact skip fun h => by rw [hkd] at h; cases h.1
    | true =>
      rw [Bool.not_true, cond_false]
      cases hc : (mpHas .i64 .i64 m x.dst) && (((mpGet .i64 .i64 0 m x.dst) : Int) == k) with
      | false =>
        rw [cond_false]
        refine skip fun h => ?_
        have h1 : gt m x.dst = some (k : Int) := (hm _ _).2 (.inl h.2.1)
        rw [has_gt, h1, get_gt h1] at hc
        simp at hc
      | true =>
        rw [cond_true]
        rw [Bool.and_eq_true, has_gt] at hc
        have h1 : gt m0 x.dst = some (k : Int) := by
          cases hd : gt m x.dst with
          | none => rw [hd] at hc; cases hc.1
          | some e =>
            rw [get_gt hd] at hc
            have : e = (k : Int) := by simpa using hc.2
            subst this
            rcases (hm _ _).1 hd with h6 | ⟨_, h7, _⟩
            · exact h6
            · omega
        cases hs : gt m x.src with
        | some e =>
          rw [has_gt, hs, Option.isSome_some, Bool.not_true, cond_false]
          exact skip fun h => by rw [hs] at h; cases h.2.2
        | none =>
          rw [has_gt, hs, Option.isSome_none, Bool.not_false, cond_true, wrap64 (by omega) (by omega)]
          have hs0 : gt m0 x.src = none := by
            cases h : gt m0 x.src with
            | none => rfl
            | some e => rw [(hm _ _).2 (.inl h)] at hs; cases hs
          have hxs : x.src ∈ idsN g := hE.s x.src x.dst ⟨x, by rw [hp]; simp, hkd, rfl, rfl⟩
          have hlp := lack_put (v := (k : Int) + 1) hxs hs
          refine ih (p ++ [x]) (i + 1) (mpPut .i64 .i64 m x.src ((k : Int) + 1)) true hpx (fun v d => ?_) ⟨fun _ => ⟨x.src, (k : Int) + 1, by rw [gt_put, if_pos rfl], hs0⟩, fun _ => rfl⟩ (fun _ => ?_) h0
          · rw [gt_put]
            by_cases hv : v = x.src
            · rw [if_pos hv]
              subst hv
              constructor
              · intro h
                cases h
                exact .inr ⟨hs0, rfl, x, by simp, hkd, rfl, h1⟩
              · rintro (h | ⟨_, h2, _⟩)
                · rw [hs0] at h; cases h
                · rw [h2]
            · rw [if_neg hv, hm]
              constructor
              · rintro (h | ⟨h1, h2, y, hy, h3⟩)
                · exact .inl h
                · exact .inr ⟨h1, h2, y, by simp [hy], h3⟩
              · rintro (h | ⟨h1, h2, y, hy, h3, h4, h5⟩)
                · exact .inl h
                · rcases List.mem_append.1 hy with hy | hy
                  · exact .inr ⟨h1, h2, y, hy, h3, h4, h5⟩
                  · rw [List.mem_singleton] at hy
                    subst hy
                    exact absurd h4.symm hv
          · cases hbb : b with
            | true => have := hl hbb; omega
            | false =>
              have : lack (idsN g) m ≤ lack (idsN g) m0 := by
                have hsame : ∀ v, gt m v = gt m0 v := fun v => by
                  cases h : gt m v with
                  | none =>
                    cases h' : gt m0 v with
                    | none => rfl
                    | some e => rw [(hm _ _).2 (.inl h')] at h; cases h
                  | some d =>
                    cases h' : gt m0 v with
                    | none => have := hb.2 ⟨v, d, h, h'⟩; rw [hbb] at this; cases this
                    | some e => have := (hm _ _).2 (.inl h'); rw [h] at this; exact this
                have hf : (fun v => (gt m v).isNone) = fun v => (gt m0 v).isNone := funext fun v => by rw [hsame]
                unfold lack
                rw [hf]
                exact Nat.le_refl _
              omega
theorem path_s0 (n : Nat) (hn : 100 ≤ n) (g : Graph) (kind : ByteArray) (a tg : Int) (h60 : g.edges.length ≤ 60) (hE : Ends (stp kind g.edges) (idsN g)) (hN : (idsN g).length ≤ 40) {ρ : Type} (K : ByteArray × Int × Int × (Graph × Unit) × (List (Int × Int)) × Unit → Option ρ) :
    ∀ (fuel k : Nat) (m : List (Int × Int)), FarK (stp kind g.edges) tg m k → k + lack (idsN g) m ≤ 40 → lack (idsN g) m + 1 < fuel →
      ∃ m', Far (stp kind g.edges) tg m' ∧ (∀ v d, gt m' v = some d → d ≤ 40) ∧ iterN (fun rc => q37z_s0 n rc K (fun (_) => none)) fuel (kind, a, tg, (k : Int), true, (g, ()), m, ()) = K (kind, a, tg, (g, ()), m', ()) := by
  intro fuel
  induction fuel with
  | zero => intro k m _ _ h; exact absurd h (Nat.not_lt_zero _)
  | succ f ih =>
    intro k m hm hk hf
    rw [iterN]
    unfold q37z_s0
    dsimp only
    rw [cond_true, Graph.eta, R_q37z_s2 n _ _ g.edges n _ _ _ _ _ _ _ (by omega) (by omega)]
    have hle : ∀ v d, gt m v = some d → d ≤ (k : Int) := fun v d h => by obtain ⟨e, h1, h2, _⟩ := (hm v d).1 h; omega
    obtain ⟨m', b', h1, h2, h3, h4⟩ := path_s2 n g kind a tg k (by omega) (fun (v15, v16, v17, v18, v19, o23, o24, _) => (fun (v26, v27, v28, v29, v30, o31, o32, _) => iterN (fun rc => q37z_s0 n rc K (fun (_) => none)) f (v26, v27, v28, IntKind.wrap .i64 (v29 + 1), v30, ((Ev.Graph.mk o31.1.nodes o31.1.edges o31.1.next), ()), o32, ())) (v15, v16, v17, v18, v19, ((Ev.Graph.mk o23.1.nodes o23.1.edges o23.1.next), ()), o24, ()))
      m hE g.edges [] 0 m false rfl (fun v d => by simp) (by
        constructor
        · intro h; cases h
        · rintro ⟨v, d, h1, h2⟩; rw [h1] at h2; cases h2) (fun h => by cases h) hle
    have hm' : FarK (stp kind g.edges) tg m' (k + 1) := fun v d => by
      rw [h1]
      constructor
      · rintro (h | ⟨h5, h6, x, hx, hkd, hsx, hdx⟩)
        · obtain ⟨e, e1, e2, e3⟩ := (hm v d).1 h
          exact ⟨e, e1, by omega, e3⟩
        · obtain ⟨e, e1, e2, e3⟩ := (hm _ _).1 hdx
          have : e = k := by omega
          subst this
          refine ⟨e + 1, by omega, Nat.le_refl _, ⟨x.dst, ⟨x, hx, hkd, hsx, rfl⟩, e3.1⟩, fun q hq hd => ?_⟩
          obtain ⟨e', g1, g2⟩ := dist_of hd
          have := (hm v e').2 ⟨e', rfl, by omega, g2⟩
          rw [h5] at this; cases this
      · rintro ⟨e, e1, e2, e3⟩
        by_cases he : e ≤ k
        · exact .inl ((hm v d).2 ⟨e, e1, he, e3⟩)
        · have : e = k + 1 := by omega
          subst this
          refine .inr ⟨?_, by omega, ?_⟩
          · cases h : gt m v with
            | none => rfl
            | some d' =>
              obtain ⟨e', q1, q2, q3⟩ := (hm v d').1 h
              have := dist_inj e3 q3
              omega
          · obtain ⟨u, ⟨x, hx, hkd, hsx, hdx⟩, hu⟩ := dist_step e3
            exact ⟨x, hx, hkd, hsx, (hm _ _).2 ⟨k, rfl, Nat.le_refl _, hdx ▸ hu⟩⟩
    cases b' with
    | true =>
      have h5 := h3 rfl
      obtain ⟨m2, i1, i2, i3⟩ := ih (k + 1) m' hm' (by omega) (by omega)
      refine ⟨m2, i1, i2, h4.trans ?_⟩
      dsimp only
      rw [wrap64 (by omega) (by omega), show ((k : Int) + 1) = ((k + 1 : Nat) : Int) by omega]
      exact i3
    | false =>
      have hno : ∀ v, ¬ dist (stp kind g.edges) tg v (k + 1) := fun v hd => by
        have := h2.2 ⟨v, ((k + 1 : Nat) : Int), (hm' _ _).2 ⟨k + 1, rfl, Nat.le_refl _, hd⟩, by
          cases h : gt m v with
          | none => rfl
          | some d' =>
            obtain ⟨e', q1, q2, q3⟩ := (hm v d').1 h
            have := dist_inj hd q3
            omega⟩
        cases this
      have hno2 : ∀ v, ¬ dist (stp kind g.edges) tg v (k + 1 + 1) := fun v hd => by
        obtain ⟨u, _, hu⟩ := dist_step hd
        exact hno u hu
      have hfar : Far (stp kind g.edges) tg m' := farK_done hm' hno2
      refine ⟨m', hfar, fun v d h => ?_, h4.trans ?_⟩
      · obtain ⟨e, q1, q2, q3⟩ := (hm' v d).1 h
        by_cases he : e = k + 1
        · subst he; exact absurd q3 (hno v)
        · omega
      · dsimp only
        obtain ⟨f', rfl⟩ : ∃ f', f = f' + 1 := ⟨f - 1, by omega⟩
        rw [iterN]
        unfold q37z_s0
        dsimp only
        rw [cond_false]
end Pure


/- Plain: reach.Path tells the least of the shortest ways. No program. -/
namespace Pure
open Esp Ev Go
set_option linter.unusedSimpArgs false
set_option linter.unusedVariables false
set_option linter.unusedSimpArgs false
set_option linter.unusedVariables false
def Wk (kind : ByteArray) (l : List Edg) : Int → List Edg → Int → Prop
  | a, [], b => a = b
  | a, x :: r, b => x ∈ l ∧ kd kind x = true ∧ x.src = a ∧ Wk kind l x.dst r b
abbrev ids (q : List Edg) : List Int := q.map Edg.id
theorem Wk.ds {kind : ByteArray} {l : List Edg} : ∀ {q : List Edg} {a b : Int}, Wk kind l a q b → Ds (stp kind l) b q.length a
  | [], a, b, h => h
  | x :: r, a, b, h => ⟨x.dst, ⟨x, h.1, h.2.1, h.2.2.1, rfl⟩, h.2.2.2.ds⟩
theorem Wk.app {kind : ByteArray} {l : List Edg} : ∀ {q r : List Edg} {a b c : Int}, Wk kind l a q b → Wk kind l b r c → Wk kind l a (q ++ r) c
  | [], r, a, b, c, h, g => by cases h; exact g
  | x :: q, r, a, b, c, h, g => ⟨h.1, h.2.1, h.2.2.1, h.2.2.2.app g⟩
theorem Wk.split {kind : ByteArray} {l : List Edg} {x : Edg} : ∀ {q : List Edg} {a c : Int}, Wk kind l a (q ++ [x]) c → Wk kind l a q x.src ∧ x ∈ l ∧ kd kind x = true ∧ x.dst = c
  | [], a, c, h => ⟨h.2.2.1.symm, h.1, h.2.1, h.2.2.2⟩
  | y :: q, a, c, h => by
    obtain ⟨h1, h2⟩ := Wk.split (q := q) h.2.2.2
    exact ⟨⟨h.1, h.2.1, h.2.2.1, h1⟩, h2⟩
theorem Wk.rc {kind : ByteArray} {l : List Edg} : ∀ {q : List Edg} {a b : Int}, q ≠ [] → Wk kind l a q b → Rc (stp kind l) a b
  | [], a, b, h, _ => absurd rfl h
  | [x], a, b, _, h => by
    obtain ⟨h1, h2, h3, h4⟩ := h
    cases h4
    exact .one ⟨x, h1, h2, h3, rfl⟩
  | x :: y :: r, a, b, _, h => by
    obtain ⟨h1, h2, h3, h4⟩ := h
    exact Rc.trans (.one ⟨x, h1, h2, h3, rfl⟩) (Wk.rc (by simp) h4)
theorem rc_ds {R : Int → Int → Prop} {a b : Int} (w : Rc R a b) : ∃ u d, R a u ∧ Ds R b d u := by
  have key : ∀ {c d : Int}, W R (fun _ => True) c d → ∀ e, (∃ k, Ds R e k d) → ∃ u k, R c u ∧ Ds R e k u := by
    intro c d w
    induction w with
    | one h => rintro e ⟨k, hk⟩; exact ⟨_, k, h, hk⟩
    | two _ _ _ i j =>
      intro e he
      obtain ⟨u, k, h1, h2⟩ := j e he
      exact i e ⟨k + 1, u, h1, h2⟩
  exact key w b ⟨0, rfl⟩
def Least (kind : ByteArray) (l : List Edg) (a b : Int) (q : List Edg) : Prop := Wk kind l a q b ∧ ∀ p, Wk kind l a p b → p.length = q.length → ltLL (ids p) (ids q) = false
theorem ids_inj {l : List Edg} (hr : Rise Edg.id l) {x y : Edg} (hx : x ∈ l) (hy : y ∈ l) (h : x.id = y.id) : x = y := by
  have h1 := find_rise hr hx rfl
  have h2 := find_rise hr hy h.symm
  rw [h1] at h2
  exact Option.some.inj h2
theorem least_cons {kind : ByteArray} {l : List Edg} (hr : Rise Edg.id l) {a b : Int} {x : Edg} {q : List Edg} (hx : x ∈ l) (hk : kd kind x = true) (hs : x.src = a) (hq : Least kind l x.dst b q)
    (hmin : ∀ y ∈ l, kd kind y = true → y.src = a → (∃ p, Wk kind l y.dst p b ∧ p.length = q.length) → x.id ≤ y.id) : Least kind l a b (x :: q) := by
  refine ⟨⟨hx, hk, hs, hq.1⟩, fun p hp hl => ?_⟩
  cases p with
  | nil => simp at hl
  | cons y p =>
    obtain ⟨h1, h2, h3, h4⟩ := hp
    have hl' : p.length = q.length := by simpa using hl
    have h5 := hmin y h1 h2 h3 ⟨p, h4, hl'⟩
    cases hlt : ltLL (ids (y :: p)) (ids (x :: q)) with
    | false => rfl
    | true =>
      rcases (ltLL_cons y.id x.id (ids p) (ids q)).1 hlt with h | ⟨h, h6⟩
      · omega
      · have := ids_inj hr h1 hx h
        subst this
        rw [hq.2 p h4 hl'] at h6
        cases h6
/-! ## the best next edge -/
def cand (kind : ByteArray) (m : List (Int × Int)) (a : Int) (x : Edg) : Prop := kd kind x = true ∧ x.src = a ∧ ∃ d, gt m x.dst = some d
theorem path_s6 (n : Nat) (g : Graph) (kind : ByteArray) (tg a : Int) (m : List (Int × Int)) (out : List Int) (he : g.edges.length ≤ 60) (hr : Rise Edg.id g.edges) {ρ : Type} (K : ByteArray × Int × Int × Int × (Graph × Unit) × (List Int) × (List (Int × Int)) × Unit → Option ρ) :
    ∀ (r p : List Edg) (b : Int), g.edges = p ++ r → ((b = -1 ∧ ∀ y ∈ p, ¬ cand kind m a y) ∨ ∃ (i : Nat) (x : Edg) (d : Int), b = (i : Int) ∧ i < p.length ∧ g.edges[i]? = some x ∧ kd kind x = true ∧ x.src = a ∧ gt m x.dst = some d ∧ ∀ y ∈ p, kd kind y = true → y.src = a → ∀ e, gt m y.dst = some e → d < e ∨ (d = e ∧ x.id ≤ y.id)) →
      ∃ b', ((b' = -1 ∧ ∀ y ∈ g.edges, ¬ cand kind m a y) ∨ ∃ (i : Nat) (x : Edg) (d : Int), b' = (i : Int) ∧ g.edges[i]? = some x ∧ kd kind x = true ∧ x.src = a ∧ gt m x.dst = some d ∧ ∀ y ∈ g.edges, kd kind y = true → y.src = a → ∀ e, gt m y.dst = some e → d < e ∨ (d = e ∧ x.id ≤ y.id)) ∧
        foldK (F_q37z_s6 n (fun (_) => none)) K (p.length : Int) r (kind, tg, a, b, (g, ()), out, m, ()) = K (kind, tg, a, b', (g, ()), out, m, ()) := by
  intro r
  induction r with
  | nil =>
    intro p b hp hb
    rw [List.append_nil] at hp
    refine ⟨b, ?_, rfl⟩
    rcases hb with ⟨h1, h2⟩ | ⟨i, x, d, h1, h2, h3, h4, h5, h6, h7⟩
    · exact .inl ⟨h1, by rw [hp]; exact h2⟩
    · exact .inr ⟨i, x, d, h1, h3, h4, h5, h6, by rw [hp]; exact h7⟩
  | cons x r ih =>
    intro p b hp hb
    have hpx : g.edges = (p ++ [x]) ++ r := by simp [hp]
    have hgx : g.edges[p.length]? = some x := by rw [hp]; simp
    have hpl : ((p ++ [x]).length : Int) = (p.length : Int) + 1 := by simp
    have hlt : p.length < 61 := by have : g.edges.length = p.length + (r.length + 1) := by rw [hp]; simp
                                   omega
    have hafter : ∀ y ∈ p, y.id < x.id := fun y hy => by
      have hr' := hr
      rw [hp] at hr'
      exact (List.pairwise_append.1 hr').2.2 y hy x (by simp)
    rw [foldK, ← hpl]
    have hF : ∀ (rec : _ → Option ρ), F_q37z_s6 n (fun (_) => none) (p.length : Int) x (kind, tg, a, b, (g, ()), out, m, ()) rec =
        bif (((x.src : Int) == a) && (mpHas .i64 .i64 m x.dst)) && (kd kind x) then (bif decide (b < 0) then rec (kind, tg, a, (p.length : Int), (g, ()), out, m, ()) else (ix g.edges b).bind fun x56 => bif decide (((mpGet .i64 .i64 0 m x.dst) : Int) < (mpGet .i64 .i64 0 m x56.dst)) then rec (kind, tg, a, (p.length : Int), (g, ()), out, m, ()) else rec (kind, tg, a, b, (g, ()), out, m, ())) else rec (kind, tg, a, b, (g, ()), out, m, ()) := fun _ => rfl
    rw [hF]
    have hnew : ∀ {d : Int}, kd kind x = true → x.src = a → gt m x.dst = some d → (∀ y ∈ p, kd kind y = true → y.src = a → ∀ e, gt m y.dst = some e → d < e) →
        (((p.length : Int) = -1 ∧ ∀ y ∈ p ++ [x], ¬ cand kind m a y) ∨ ∃ (i : Nat) (x' : Edg) (d : Int), (p.length : Int) = (i : Int) ∧ i < (p ++ [x]).length ∧ g.edges[i]? = some x' ∧ kd kind x' = true ∧ x'.src = a ∧ gt m x'.dst = some d ∧ ∀ y ∈ p ++ [x], kd kind y = true → y.src = a → ∀ e, gt m y.dst = some e → d < e ∨ (d = e ∧ x'.id ≤ y.id)) := fun {d} k1 k2 k3 k4 => by
      refine .inr ⟨p.length, x, d, rfl, by simp, hgx, k1, k2, k3, fun y hy q1 q2 e q3 => ?_⟩
      rcases List.mem_append.1 hy with hy | hy
      · exact .inl (k4 y hy q1 q2 e q3)
      · rw [List.mem_singleton] at hy
        subst hy
        rw [k3] at q3
        cases q3
        exact .inr ⟨rfl, Int.le_refl _⟩
    by_cases hc : cand kind m a x
    · obtain ⟨k1, k2, d, k3⟩ := hc
      rw [show ((((x.src : Int) == a) && (mpHas .i64 .i64 m x.dst)) && (kd kind x)) = true by rw [k2, has_gt, k3, k1]; simp, cond_true]
      rcases hb with ⟨h1, h2⟩ | ⟨i, y, e, h1, h2, h3, h4, h5, h6, h7⟩
      · subst h1
        rw [show decide ((-1 : Int) < 0) = true from rfl, cond_true]
        exact ih (p ++ [x]) (p.length : Int) hpx (hnew k1 k2 k3 fun y hy q1 q2 e q3 => absurd ⟨q1, q2, e, q3⟩ (h2 y hy))
      · subst h1
        rw [show decide (((i : Int)) < 0) = false by simp, cond_false, ix_ok h3, Option.bind_some, get_gt k3, get_gt h6]
        by_cases hd : d < e
        · rw [decide_eq_true hd, cond_true]
          exact ih (p ++ [x]) (p.length : Int) hpx (hnew k1 k2 k3 fun z hz q1 q2 e' q3 => by have := h7 z hz q1 q2 e' q3; omega)
        · rw [decide_eq_false hd, cond_false]
          refine ih (p ++ [x]) (i : Int) hpx (.inr ⟨i, y, e, rfl, by simp; omega, h3, h4, h5, h6, fun z hz q1 q2 e' q3 => ?_⟩)
          rcases List.mem_append.1 hz with hz | hz
          · exact h7 z hz q1 q2 e' q3
          · rw [List.mem_singleton] at hz
            subst hz
            rw [k3] at q3
            cases q3
            have hyp : y ∈ p := by
              rw [hp, List.getElem?_append_left h2] at h3
              exact List.mem_of_getElem? h3
            have := hafter y hyp
            omega
    · have hf : ((((x.src : Int) == a) && (mpHas .i64 .i64 m x.dst)) && (kd kind x)) = false := by
        cases hb : (((x.src : Int) == a) && (mpHas .i64 .i64 m x.dst)) && (kd kind x) with
        | false => rfl
        | true =>
          rw [Bool.and_eq_true, Bool.and_eq_true, has_gt] at hb
          obtain ⟨⟨q1, q2⟩, q3⟩ := hb
          obtain ⟨e, he⟩ := Option.isSome_iff_exists.1 q2
          exact absurd ⟨q3, by simpa using q1, e, he⟩ hc
      rw [hf, cond_false]
      refine ih (p ++ [x]) b hpx ?_
      rcases hb with ⟨h1, h2⟩ | ⟨i, y, e, h1, h2, h3, h4, h5, h6, h7⟩
      · refine .inl ⟨h1, fun z hz => ?_⟩
        rcases List.mem_append.1 hz with hz | hz
        · exact h2 z hz
        · rw [List.mem_singleton] at hz; subst hz; exact hc
      · refine .inr ⟨i, y, e, h1, by simp; omega, h3, h4, h5, h6, fun z hz q1 q2 e' q3 => ?_⟩
        rcases List.mem_append.1 hz with hz | hz
        · exact h7 z hz q1 q2 e' q3
        · rw [List.mem_singleton] at hz; subst hz; exact absurd ⟨q1, q2, e', q3⟩ hc
end Pure


/- Plain: reach.Path. No program. -/
namespace Pure
open Esp Ev Go
set_option linter.unusedSimpArgs false
set_option linter.unusedVariables false
set_option linter.unusedSimpArgs false
set_option linter.unusedVariables false
theorem path_round (n : Nat) (hn : 100 ≤ n) (g : Graph) (kind : ByteArray) (tg a : Int) (m : List (Int × Int)) (out : List Int) (he : g.edges.length ≤ 60) (hr : Rise Edg.id g.edges) (hol : out.length ≤ 1000) (hgo : out = [] ∨ a ≠ tg) {ρ : Type} (kx : List Int × Unit → Option ρ) (kr : List Int × Int × Unit → Option ρ) (f : Nat) :
    ((∀ y ∈ g.edges, ¬ cand kind m a y) ∧ iterN (fun rc => q37z_s4 n rc kx kr) (f + 1) (kind, tg, a, (g, ()), out, m, ()) = kr ([], 5, ())) ∨
    ∃ x d, x ∈ g.edges ∧ kd kind x = true ∧ x.src = a ∧ gt m x.dst = some d ∧ (∀ y ∈ g.edges, kd kind y = true → y.src = a → ∀ e, gt m y.dst = some e → d < e ∨ (d = e ∧ x.id ≤ y.id)) ∧
      iterN (fun rc => q37z_s4 n rc kx kr) (f + 1) (kind, tg, a, (g, ()), out, m, ()) = iterN (fun rc => q37z_s4 n rc kx kr) f (kind, tg, x.dst, (g, ()), out ++ [x.id], m, ()) := by
  have hg : (((out.length : Int) == 0) || ((a : Int) != tg)) = true := by
    rcases hgo with rfl | h
    · rfl
    · rw [show ((a : Int) != tg) = true by simpa using h, Bool.or_true]
  obtain ⟨b', h1, h2⟩ := path_s6 n g kind tg a m out he hr (fun (v45, v46, v47, v48, o52, o53, o54, _) => (fun (v57, v58, v59, o60, o61, o62, _) =>
  (bif decide ((v59 : Int) < 0) then kr (([] : List Int), 5, ())
  else
  (ix o60.1.edges v59).bind fun x63 =>
  ck (room (o61 ++ ([x63.id] : List Int)).length 8) (
  (ix o60.1.edges v59).bind fun x64 => iterN (fun rc => q37z_s4 n rc kx kr) f (v57, v58, x64.dst, ((Ev.Graph.mk o60.1.nodes o60.1.edges o60.1.next), ()), o61 ++ ([x63.id] : List Int), o62, ())))) (v45, v46, v48, ((Ev.Graph.mk o52.1.nodes o52.1.edges o52.1.next), ()), o53, o54, ())) g.edges [] (-1) rfl (.inl ⟨rfl, fun y hy => by cases hy⟩)
  have hstep : iterN (fun rc => q37z_s4 n rc kx kr) (f + 1) (kind, tg, a, (g, ()), out, m, ()) = bif decide (b' < 0) then kr ([], 5, ()) else (ix g.edges b').bind fun x63 => ck (room (out ++ ([x63.id] : List Int)).length 8) ((ix g.edges b').bind fun x64 => iterN (fun rc => q37z_s4 n rc kx kr) f (kind, tg, x64.dst, (g, ()), out ++ ([x63.id] : List Int), m, ())) := by
    rw [iterN]
    unfold q37z_s4
    dsimp only
    rw [hg, cond_true, Graph.eta, R_q37z_s6 n _ _ g.edges n _ _ _ _ _ _ _ (by omega) (by omega)]
    exact h2
  rcases h1 with ⟨rfl, h3⟩ | ⟨i, x, d, rfl, h3, h4, h5, h6, h7⟩
  · exact .inl ⟨h3, hstep⟩
  · refine .inr ⟨x, d, List.mem_of_getElem? h3, h4, h5, h6, h7, hstep.trans ?_⟩
    rw [show decide (((i : Int)) < 0) = false by simp, cond_false, ix_ok h3, Option.bind_some, ck_ok (room8 (by simp; omega)), Option.bind_some]
theorem path_on (n : Nat) (hn : 100 ≤ n) (g : Graph) (kind : ByteArray) (tg : Int) (m : List (Int × Int)) (he : g.edges.length ≤ 60) (hr : Rise Edg.id g.edges) (hm : Far (stp kind g.edges) tg m) {ρ : Type} (kx : List Int × Unit → Option ρ) (kr : List Int × Int × Unit → Option ρ) :
    ∀ (d : Nat) (a : Int) (out : List Int) (f : Nat), dist (stp kind g.edges) tg a d → out ≠ [] → d < f → out.length + d ≤ 1000 →
      ∃ p, p.length = d ∧ Least kind g.edges a tg p ∧ iterN (fun rc => q37z_s4 n rc kx kr) f (kind, tg, a, (g, ()), out, m, ()) = kx (out ++ ids p, ()) := by
  intro d
  induction d with
  | zero =>
    intro a out f hd ho hf hl
    obtain ⟨f', rfl⟩ : ∃ f', f = f' + 1 := ⟨f - 1, by omega⟩
    have ha : a = tg := hd.1
    refine ⟨[], rfl, ⟨ha, fun p hp hl => ?_⟩, ?_⟩
    · rw [List.eq_nil_of_length_eq_zero hl]
      exact ltLL_ok.irrefl _
    · rw [iterN]
      unfold q37z_s4
      dsimp only
      have h0 : ((out.length : Int) == 0) = false := by
        have : out.length ≠ 0 := fun h => ho (List.eq_nil_of_length_eq_zero h)
        simp; exact ho
      rw [h0, show ((a : Int) != tg) = false by rw [ha]; simp, Bool.or_false, cond_false]
      simp [ids]
  | succ d ih =>
    intro a out f hd ho hf hl
    obtain ⟨f', rfl⟩ : ∃ f', f = f' + 1 := ⟨f - 1, by omega⟩
    have hat : a ≠ tg := fun e => by
      subst e
      have := dist_inj hd (dist_to _ _)
      omega
    obtain ⟨u, ⟨x0, hx0, hk0, hs0, hd0⟩, hu⟩ := dist_step hd
    have hg0 : gt m x0.dst = some (d : Int) := (hm _ _).2 ⟨d, rfl, hd0 ▸ hu⟩
    rcases path_round n hn g kind tg a m out he hr (by omega) (.inr hat) kx kr f' with ⟨h1, _⟩ | ⟨x, e, h1, h2, h3, h4, h5, h6⟩
    · exact absurd ⟨hk0, hs0, d, hg0⟩ (h1 x0 hx0)
    · have hed : e = (d : Int) := by
        have h7 := h5 x0 hx0 hk0 hs0 d hg0
        obtain ⟨e', q1, q2⟩ := (hm _ _).1 h4
        have : ¬ e' < d := fun hlt => hd.2 (e' + 1) (by omega) ⟨x.dst, ⟨x, h1, h2, h3, rfl⟩, q2.1⟩
        omega
      subst hed
      obtain ⟨e', q1, q2⟩ := (hm _ _).1 h4
      have : e' = d := by omega
      subst this
      obtain ⟨p, p1, p2, p3⟩ := ih x.dst (out ++ [x.id]) f' q2 (by simp) (by omega) (by simp; omega)
      refine ⟨x :: p, by simp [p1], least_cons hr h1 h2 h3 p2 (fun y hy hky hsy ⟨q, w1, w2⟩ => ?_), h6.trans (p3.trans (by simp [ids]))⟩
      have hds := w1.ds
      rw [w2, p1] at hds
      obtain ⟨c, c1, c2⟩ := dist_of hds
      have hc : ¬ c < e' := fun hlt => hd.2 (c + 1) (by omega) ⟨y.dst, ⟨y, hy, hky, hsy, rfl⟩, c2.1⟩
      have hce : c = e' := by omega
      subst hce
      have := h5 y hy hky hsy c ((hm _ _).2 ⟨c, rfl, c2⟩)
      omega
theorem path_all (n : Nat) (hn : 200 ≤ n) (g : Graph) (kind : ByteArray) (a tg : Int) (hc : chkG g = 0) (htg : tg ∈ idsN g) (ha : (nodeIn g.nodes a).isSome = true) (ht : (nodeIn g.nodes tg).isSome = true) :
    (¬ Rc (stp kind g.edges) a tg ∧ q37z n (g, kind, a, tg, ()) = some ([], 5, ())) ∨
    ∃ p, p ≠ [] ∧ p.length ≤ 42 ∧ Least kind g.edges a tg p ∧ (∀ q, q ≠ [] → Wk kind g.edges a q tg → p.length ≤ q.length) ∧ q37z n (g, kind, a, tg, ()) = some (ids p, 0, ()) := by
  have hE := ends_of hc kind
  have hN := ids_len hc
  obtain ⟨h40, h60, h3, h4⟩ := chkG_0 hc
  have hr := (edgF_rise h4).2.1
  obtain ⟨k1, f1, g1⟩ := find_ok g a n (nodF_rise h3).2.1 h40 (by omega)
  obtain ⟨k2, f2, g2⟩ := find_ok g tg n (nodF_rise h3).2.1 h40 (by omega)
  have n1 : decide (k1 < 0) = false := by
    rw [g1.lt]
    cases hx : nodeIn g.nodes a with
    | none => rw [hx] at ha; cases ha
    | some x => rfl
  have n2 : decide (k2 < 0) = false := by
    rw [g2.lt]
    cases hx : nodeIn g.nodes tg with
    | none => rw [hx] at ht; cases ht
    | some x => rfl
  obtain ⟨m, hm, hm40, hs⟩ := path_s0 n (by omega) g kind a tg h60 hE hN (fun (v34, v35, v36, o37, o38, _) =>
  iterN (fun rc69 => q37z_s4 n rc69 (fun (o66, _) => some (o66, (0 : Int), ())) (fun (v67, v68, _) => some (v67, v68, ()))) (n) (v34, v36, v35, ((Ev.Graph.mk o37.1.nodes o37.1.edges o37.1.next), ()), ([] : List Int), o38, ())) n 0 (mpPut .i64 .i64 ([] : List (Int × Int)) tg 0) (fun v d => by
      rw [gt_put, gt_nil]
      constructor
      · intro h
        by_cases hv : v = tg
        · rw [if_pos hv] at h
          cases h
          exact ⟨0, rfl, Nat.le_refl _, hv, fun e he => absurd he (Nat.not_lt_zero _)⟩
        · rw [if_neg hv] at h; cases h
      · rintro ⟨e, e1, e2, e3⟩
        have : e = 0 := by omega
        subst this
        rw [if_pos (show v = tg from e3.1), e1]
        rfl) (by have := lack_le (idsN g) (mpPut .i64 .i64 ([] : List (Int × Int)) tg 0); omega) (by have := lack_le (idsN g) (mpPut .i64 .i64 ([] : List (Int × Int)) tg 0); omega)
  have hP : q37z n (g, kind, a, tg, ()) = iterN (fun rc69 => q37z_s4 n rc69 (fun (o66, _) => some (o66, (0 : Int), ())) (fun (v67, v68, _) => some (v67, v68, ()))) n (kind, tg, a, (g, ()), [], m, ()) := by
    unfold q37z
    dsimp only
    rw [Graph.eta, gcheck_ok g n (by omega), hc, Option.bind_some]
    dsimp only
    rw [show ((0 : Int) != 0) = false from rfl, cond_false, f1, Option.bind_some]
    dsimp only
    rw [n1, cond_false, f2, Option.bind_some]
    dsimp only
    rw [n2, cond_false]
    exact hs
  rw [hP]
  obtain ⟨f, hf⟩ : ∃ f, n = f + 1 := ⟨n - 1, by omega⟩
  have hrnd := fun (kx : List Int × Unit → Option (List Int × Int × Unit)) kr => path_round n (by omega) g kind tg a m [] h60 hr (by simp) (.inl rfl) kx kr f
  rw [← hf] at hrnd
  rcases hrnd (fun (o66, _) => some (o66, (0 : Int), ())) (fun (v67, v68, _) => some (v67, v68, ())) with ⟨h1, h2⟩ | ⟨x, e, h1, h2, h3, h4, h5, h6⟩
  · refine .inl ⟨fun w => ?_, h2⟩
    obtain ⟨u, d, ⟨x, q1, q2, q3, q4⟩, hu⟩ := rc_ds w
    obtain ⟨c, _, c2⟩ := dist_of hu
    exact h1 x q1 ⟨q2, q3, c, (hm _ _).2 ⟨c, rfl, q4 ▸ c2⟩⟩
  · obtain ⟨c, q1, q2⟩ := (hm _ _).1 h4
    subst q1
    have hc40 := hm40 _ _ h4
    obtain ⟨p, p1, p2, p3⟩ := path_on n (by omega) g kind tg m h60 hr hm (fun (o66, _) => some (o66, (0 : Int), ())) (fun (v67, v68, _) => some (v67, v68, ())) c x.dst [x.id] f q2 (by simp) (by omega) (by simp; omega)
    refine .inr ⟨x :: p, by simp, by simp; omega, least_cons hr h1 h2 h3 p2 (fun y hy hky hsy ⟨q, w1, w2⟩ => ?_), fun q hq hw => ?_, h6.trans (p3.trans (by simp [ids]))⟩
    · have hds := w1.ds
      obtain ⟨c', c1, c2⟩ := dist_of hds
      have := h5 y hy hky hsy c' ((hm _ _).2 ⟨c', rfl, c2⟩)
      omega
    · cases q with
      | nil => exact absurd rfl hq
      | cons y q =>
        obtain ⟨w1, w2, w3, w4⟩ := hw
        obtain ⟨c', c1, c2⟩ := dist_of w4.ds
        have := h5 y w1 w2 w3 c' ((hm _ _).2 ⟨c', rfl, c2⟩)
        simp
        omega
theorem path_who (n : Nat) (hn : 200 ≤ n) (g : Graph) (kind : ByteArray) (a tg : Int) (hc : chkG g = 0) (h : (nodeIn g.nodes a).isNone = true ∨ (nodeIn g.nodes tg).isNone = true) : q37z n (g, kind, a, tg, ()) = some ([], 5, ()) := by
  obtain ⟨h40, h60, h3, h4⟩ := chkG_0 hc
  obtain ⟨k1, f1, g1⟩ := find_ok g a n (nodF_rise h3).2.1 h40 (by omega)
  obtain ⟨k2, f2, g2⟩ := find_ok g tg n (nodF_rise h3).2.1 h40 (by omega)
  have e1 : decide (k1 < 0) = (nodeIn g.nodes a).isNone := g1.lt
  have e2 : decide (k2 < 0) = (nodeIn g.nodes tg).isNone := g2.lt
  unfold q37z
  dsimp only
  rw [Graph.eta, gcheck_ok g n (by omega), hc, Option.bind_some]
  dsimp only
  rw [show ((0 : Int) != 0) = false from rfl, cond_false, f1, Option.bind_some]
  dsimp only
  rw [e1]
  cases hx : (nodeIn g.nodes a).isNone with
  | true => rfl
  | false =>
    rw [hx] at h
    have h2 := h.resolve_left (by simp)
    rw [cond_false, f2, Option.bind_some]
    dsimp only
    rw [e2, h2]
    rfl
end Pure


/- Who may see what. No program. -/
namespace Pure
open Esp Ev Go
set_option linter.unusedSimpArgs false
set_option linter.unusedVariables false
set_option linter.unusedSimpArgs false
set_option linter.unusedVariables false

end Pure


/- Who sees what. No program. -/
namespace Pure
open Esp Ev Go
set_option linter.unusedSimpArgs false
set_option linter.unusedVariables false
set_option linter.unusedSimpArgs false
set_option linter.unusedVariables false

theorem Grant.eta (g : Grant) : Grant.mk g.who g.labels = g := rfl

/-! ## what is in order -/
structure nodeS (x : Ev.Node) : Prop where
  lab : x.labels.length ≤ 4
  prp : prpE x.props = 0
structure graphS (g : Graph) : Prop where
  nl : g.nodes.length ≤ 40
  el : g.edges.length ≤ 60
  nd : ∀ x ∈ g.nodes, nodeS x
  ed : ∀ x ∈ g.edges, prpE x.props = 0
theorem graphS_of {g : Graph} (h : chkG g = 0) : graphS g := by
  obtain ⟨h1, h2, h3, h4⟩ := chkG_0 h
  exact ⟨h1, h2, fun x hx => ⟨labE_0 (nodF_0 h3 x hx).1, (nodF_0 h3 x hx).2⟩, fun x hx => (edgF_0 h4 x hx).1⟩

/-! ## copies -/
theorem copyP_ok (l : List Prp) (n : Nat) (hn : 60 ≤ n) (h : prpE l = 0) : q15z n (l, ()) = some (l, ()) := by
  obtain ⟨h6, hc⟩ := prpE_0 h
  unfold q15z
  dsimp only
  rw [R_q15z_s0 n _ _ l n [] (by omega) (by omega)]
  have key : ∀ (r p : List Prp) (i : Int), (∀ x ∈ r, chk x.val 1 = 0) → p.length + r.length ≤ 30 → foldK (F_q15z_s0 n (fun _ => none)) (fun s => some (s.1, ())) i r (p, ()) = some (p ++ r, ()) := by
    intro r
    induction r with
    | nil => intro p i _ _; simp [foldK]
    | cons x r ih =>
      intro p i hx hl
      rw [foldK]
      unfold F_q15z_s0
      dsimp only
      rw [Val.eta, copy_ok x.val 1 n (by omega) (by omega) (by omega) (hx x (by simp)), Option.bind_some]
      dsimp only
      rw [Val.eta, ck_ok (room_ok (by simp at hl ⊢; omega) (by omega))]
      refine (ih (p ++ [x]) (i + 1) (fun y hy => hx y (by simp [hy])) (by simp at hl ⊢; omega)).trans ?_
      simp
  exact (key l [] 0 hc (by simp; omega))
theorem clone_ok (l : List ByteArray) (h : l.length ≤ 4) : q4z (l, ()) = some (l, ()) := by
  unfold q4z nilq
  dsimp only
  rw [List.nil_append, ck_ok (room_ok (by omega) (by omega))]
  cases l with
  | nil => exact dem2_same _
  | cons a r => rfl
theorem copyN_ok (x : Ev.Node) (n : Nat) (hn : 60 ≤ n) (h : nodeS x) : q17z n (x, ()) = some (x, ()) := by
  unfold q17z
  dsimp only
  rw [clone_ok x.labels h.lab, Option.bind_some]
  dsimp only
  rw [copyP_ok x.props n hn h.prp]
  rfl
theorem copyE_ok (x : Edg) (n : Nat) (hn : 60 ≤ n) (h : prpE x.props = 0) : q16z n (x, ()) = some (x, ()) := by
  unfold q16z
  dsimp only
  rw [copyP_ok x.props n hn h]
  rfl

def both (l : List Ev.Node) (e : Edg) : Bool := (nodeIn l e.src).isSome && (nodeIn l e.dst).isSome
def g0 : Graph := ⟨[], [], 0⟩
end Pure

/- One edge added to a graph that is right. No program. -/
namespace Pure
open Esp Ev Go
set_option linter.unusedSimpArgs false
set_option linter.unusedVariables false
set_option linter.unusedSimpArgs false
set_option linter.unusedVariables false
theorem push_fold {α σ ρ : Type} {F : Int → α → σ → (σ → Option ρ) → Option ρ} {k : σ → Option ρ} (mk : List α → σ) (ok : α → Prop) (h : ∀ i x acc rec, ok x → acc.length ≤ 500 → F i x (mk acc) rec = rec (mk (acc ++ [x]))) :
    ∀ (l : List α) (i : Int) (acc : List α), (∀ x ∈ l, ok x) → acc.length + l.length ≤ 500 → foldK F k i l (mk acc) = k (mk (acc ++ l))
  | [], i, acc, _, _ => by rw [List.append_nil]; rfl
  | x :: r, i, acc, hx, hl => by
    rw [foldK, h i x acc _ (hx x (by simp)) (by omega), push_fold mk ok h r (i + 1) (acc ++ [x]) (fun y hy => hx y (by simp [hy])) (by simp at hl ⊢; omega)]
    simp
theorem aNode.eta (x : Ev.Node) : Ev.Node.mk x.id x.labels x.props = x := rfl
theorem aEdg.eta (x : Edg) : Ev.Edg.mk x.id x.src x.dst x.type x.props = x := rfl
theorem copyOwn_ok (g : Graph) (n : Nat) (hn : 80 ≤ n) (h : graphS g) : q18z n (g, ()) = some ((g.next, ()), g.nodes, g.edges, ()) := by
  have h1 := h.nl
  have h2 := h.el
  unfold q18z
  dsimp only
  rw [R_q18z_s0 n _ _ g.nodes n _ _ _ _ (by omega) (by omega)]
  refine (push_fold (F := F_q18z_s0 n _) (fun a => ((Ev.Graph.mk g.nodes g.edges g.next, ()), (Ev.Graph.mk [] [] 0, ()), (g.next, ()), a, ())) nodeS (fun i x acc rec hx ha => ?_) g.nodes 0 [] h.nd (by simp; omega)).trans ?_
  · unfold F_q18z_s0
    dsimp only
    rw [aNode.eta, copyN_ok x n (by omega) hx, Option.bind_some]
    dsimp only
    rw [aNode.eta, ck_ok (room_ok (by simp; omega) (by omega))]
  dsimp only
  rw [R_q18z_s2 n _ _ g.edges n _ _ _ _ (by omega) (by omega)]
  refine (push_fold (F := F_q18z_s2 n _) (fun a => ((Ev.Graph.mk [] [] 0, ()), (g.next, ()), [] ++ g.nodes, a, ())) (fun x : Edg => prpE x.props = 0) (fun i x acc rec hx ha => ?_) g.edges 0 [] h.ed (by simp; omega)).trans ?_
  · unfold F_q18z_s2
    dsimp only
    rw [aEdg.eta, copyE_ok x n (by omega) hx, Option.bind_some]
    dsimp only
    rw [aEdg.eta, ck_ok (room_ok (by simp; omega) (by omega))]
  rfl
theorem nodL_ge : ∀ {l : List Ev.Node} {last : Int}, nodF last l = 0 → ∀ x ∈ l, x.id ≤ nodL last l
  | [], _, _ => fun x hx => by cases hx
  | y :: r, last, h => by
    rw [nodF] at h
    cases h1 : decide (y.id ≤ last) with
    | true => rw [h1] at h; cases h
    | false =>
      rw [h1, cond_false] at h
      cases h2 : orE (labE y.labels) (prpE y.props) != 0 with
      | true => rw [h2, cond_true] at h; rw [h] at h2; cases h2
      | false =>
        rw [h2, cond_false] at h
        intro x hx
        rw [nodL]
        rcases List.mem_cons.1 hx with rfl | hx
        · exact (nodF_rise h).2.2
        · exact nodL_ge h x hx
theorem edgF_snoc {nodes : List Ev.Node} (x : Edg) (h2 : (nodeIn nodes x.id).isSome = false) (h3 : nmB x.type = true) (h4 : (nodeIn nodes x.src).isNone = false) (h5 : (nodeIn nodes x.dst).isNone = false) (h6 : prpE x.props = 0) :
    ∀ (l : List Edg) (last : Int), edgF nodes last l = 0 → edgL last l < x.id → edgF nodes last (l ++ [x]) = 0 ∧ edgL last (l ++ [x]) = x.id
  | [], last, _, h1 => by
    rw [edgL] at h1
    refine ⟨?_, rfl⟩
    show edgF nodes last [x] = 0
    rw [edgF, decide_eq_false (by omega), h2, h3, h4, h5, h6]
    rfl
  | y :: r, last, h, h1 => by
    rw [edgL] at h1
    rw [edgF] at h
    cases k1 : decide (y.id ≤ last) with
    | true => rw [k1] at h; cases h
    | false =>
    cases k2 : (nodeIn nodes y.id).isSome with
    | true => rw [k1, k2] at h; cases h
    | false =>
    cases k3 : !(nmB y.type) with
    | true => rw [k1, k2, k3] at h; cases h
    | false =>
    cases k4 : (nodeIn nodes y.src).isNone with
    | true => rw [k1, k2, k3, k4] at h; cases h
    | false =>
    cases k5 : (nodeIn nodes y.dst).isNone with
    | true => rw [k1, k2, k3, k4, k5] at h; cases h
    | false =>
    cases k6 : prpE y.props != 0 with
    | true => rw [k1, k2, k3, k4, k5, k6] at h; simp only [cond_false, cond_true] at h; rw [h] at k6; cases k6
    | false =>
    rw [k1, k2, k3, k4, k5, k6] at h
    simp only [cond_false] at h
    obtain ⟨q1, q2⟩ := edgF_snoc x h2 h3 h4 h5 h6 r y.id h h1
    refine ⟨?_, q2⟩
    rw [List.cons_append, edgF, k1, k2, k3, k4, k5, k6]
    simp only [cond_false]
    exact q1
theorem chkG_all {g : Graph} (h : chkG g = 0) : maxI (edgL 0 g.edges) (nodL 0 g.nodes) < g.next ∧ g.next ≤ 1099511627776 := by
  obtain ⟨h1, h2, h3, h4⟩ := chkG_0 h
  unfold chkG at h
  rw [show ((decide ((g.nodes.length : Int) > 40)) || (decide ((g.edges.length : Int) > 60))) = false by rw [decide_eq_false (by omega), decide_eq_false (by omega)]; rfl, h3, h4] at h
  simp only [cond_false, show ((0 : Int) != 0) = false from rfl] at h
  cases hb : (decide ((g.next : Int) ≤ maxI (edgL 0 g.edges) (nodL 0 g.nodes))) || (decide ((g.next : Int) > 1099511627776)) with
  | true => rw [hb] at h; cases h
  | false =>
    have h5 := of_decide_eq_false (Bool.or_eq_false_iff.1 hb).1
    have h6 := of_decide_eq_false (Bool.or_eq_false_iff.1 hb).2
    omega
theorem edgL_rise {nodes : List Ev.Node} : ∀ {l : List Edg} {last : Int}, edgF nodes last l = 0 → last ≤ edgL last l
  | [], _, _ => Int.le_refl _
  | y :: r, last, h => by
    have h1 := (edgF_rise h).1 y (by simp)
    rw [edgF] at h
    rw [edgL]
    have h2 : edgF nodes y.id r = 0 := by
      cases k1 : decide (y.id ≤ last) with
      | true => rw [k1] at h; cases h
      | false =>
      cases k2 : (nodeIn nodes y.id).isSome with
      | true => rw [k1, k2] at h; cases h
      | false =>
      cases k3 : !(nmB y.type) with
      | true => rw [k1, k2, k3] at h; cases h
      | false =>
      cases k4 : (nodeIn nodes y.src).isNone with
      | true => rw [k1, k2, k3, k4] at h; cases h
      | false =>
      cases k5 : (nodeIn nodes y.dst).isNone with
      | true => rw [k1, k2, k3, k4, k5] at h; cases h
      | false =>
      cases k6 : prpE y.props != 0 with
      | true => rw [k1, k2, k3, k4, k5, k6] at h; simp only [cond_false, cond_true] at h; rw [h] at k6; cases k6
      | false =>
      rw [k1, k2, k3, k4, k5, k6] at h
      simpa only [cond_false] using h
    have := edgL_rise h2
    omega
theorem nodeIn_none {l : List Ev.Node} {t : Int} (h : ∀ x ∈ l, x.id < t) : (nodeIn l t).isSome = false := by
  unfold nodeIn
  cases hf : l.find? fun y => y.id == t with
  | none => rfl
  | some x =>
    have h1 := h x (List.mem_of_find?_eq_some hf)
    have h2 := List.find?_some hf
    simp only [beq_iff_eq] at h2
    omega
def newE (g : Graph) (s d : Int) (k : ByteArray) : Edg := .mk g.next s d k []
theorem apply_add (g : Graph) (hc : chkG g = 0) (s d : Int) (k : ByteArray) (v : Val) (ls : List ByteArray) (n : Nat) (hn : 200 ≤ n) :
    ∃ h md t e, txn_Apply n (g, [Ev.Opn.mk 2 0 s d k v ls []], ()) = some (h, md, t, e, ()) ∧ (e ≠ 0 ∨ (e = 0 ∧ chkG h = 0 ∧ h.nodes = g.nodes ∧ h.edges = g.edges ++ [newE g s d k])) := by
  obtain ⟨c1, c2, c3, c4⟩ := chkG_0 hc
  obtain ⟨c5, c6⟩ := chkG_all hc
  have hr := (nodF_rise c3).2.1
  obtain ⟨k1, f1, g1⟩ := find_ok g s n hr c1 (by omega)
  obtain ⟨k2, f2, g2⟩ := find_ok g d n hr c1 (by omega)
  have hid : ∀ (t : Int), q19z (t, (((Ev.Graph.mk g.nodes g.edges g.next), [], ()), ()), ()) = some (t, ()) := fun t => by
    unfold q19z
    dsimp only
    have : ((decide ((t : Int) < 0)) && (decide ((t : Int) ≥ (IntKind.wrap .i64 (0 - (([] : List Int).length : Int)))))) = false := by
      rw [show IntKind.wrap .i64 (0 - (([] : List Int).length : Int)) = 0 from rfl]
      by_cases h : t < 0
      · rw [decide_eq_false (show ¬ t ≥ 0 by omega), Bool.and_false]
      · rw [decide_eq_false h, Bool.false_and]
    rw [this]
    rfl
  unfold txn_Apply
  dsimp only
  rw [Graph.eta, gcheck_ok g n (by omega), hc, Option.bind_some]
  dsimp only
  rw [show ((0 : Int) != 0) = false from rfl, cond_false, show decide (((([Ev.Opn.mk 2 0 s d k v ls []] : List Ev.Opn).length : Int) : Int) > 20) = false from rfl, cond_false, copyOwn_ok g n (by omega) (graphS_of hc), Option.bind_some]
  dsimp only
  rw [R_txn_Apply_s0 n _ _ [Ev.Opn.mk 2 0 s d k v ls []] n _ _ _ _ _ _ (by simp) (by simp; omega), foldK]
  unfold F_txn_Apply_s0
  dsimp only
  rw [show ((decide ((2 : Int) > 0)) && (decide ((2 : Int) < 8))) = true from rfl, cond_true, show ((2 : Int) == (1 : Int)) = false from rfl, cond_false, show ((2 : Int) == (2 : Int)) = true from rfl, cond_true]
  unfold q31z
  dsimp only
  rw [hid s, Option.bind_some]
  dsimp only
  rw [hid d, Option.bind_some]
  dsimp only
  rw [show Ev.Graph.mk g.nodes g.edges g.next = g from rfl, f1, Option.bind_some]
  dsimp only
  rw [g1.lt]
  cases q1 : (nodeIn g.nodes s).isNone with
  | true => exact ⟨_, _, _, 5, rfl, .inl (by decide)⟩
  | false =>
  rw [cond_false, f2, Option.bind_some]
  dsimp only
  rw [g2.lt]
  cases q2 : (nodeIn g.nodes d).isNone with
  | true => exact ⟨_, _, _, 5, rfl, .inl (by decide)⟩
  | false =>
  rw [cond_false, q36z_ok k n (by omega), Option.bind_some]
  dsimp only
  cases q3 : nmB k with
  | false => exact ⟨_, _, _, 6, rfl, .inl (by decide)⟩
  | true =>
  rw [show (!true) = false from rfl, cond_false, props_ok [] n (by omega), Option.bind_some]
  dsimp only
  rw [show (prpE [] != 0) = false from rfl, cond_false]
  by_cases q4 : (g.edges.length : Int) = 60
  · rw [show (((g.edges.length : Int) : Int) == 60) = true by simpa using q4]
    exact ⟨_, _, _, 10, rfl, .inl (by decide)⟩
  rw [show (((g.edges.length : Int) : Int) == 60) = false by simpa using q4, cond_false]
  have hce : ∀ t, q16z n (Ev.Edg.mk t s d k [], ()) = some (Ev.Edg.mk t s d k [], ()) := fun t => copyE_ok (Ev.Edg.mk t s d k []) n (by omega) rfl
  by_cases q5 : g.next ≥ 1099511627776
  · unfold q12z
    dsimp only
    rw [decide_eq_true q5, cond_true, Option.bind_some]
    dsimp only
    rw [hce, Option.bind_some]
    dsimp only
    rw [ck_ok (room_ok (by simp; omega) (by omega)), Option.bind_some]
    exact ⟨_, _, _, 10, rfl, .inl (by decide)⟩
  unfold q12z
  dsimp only
  rw [decide_eq_false q5, cond_false, ck_ok (room_ok (by simp) (by omega)), Option.bind_some]
  dsimp only
  rw [hce, Option.bind_some]
  dsimp only
  rw [ck_ok (room_ok (by simp; omega) (by omega)), Option.bind_some]
  dsimp only
  rw [show ((0 : Int) != 0) = false from rfl, cond_false, foldK]
  dsimp only
  have hnl := (nodF_rise c3).2.2
  have hel := edgL_rise c4
  have hmx : edgL 0 g.edges < g.next ∧ nodL 0 g.nodes < g.next := by
    unfold maxI at c5
    split at c5 <;> omega
  have hw : IntKind.wrap .i64 (g.next + 1) = g.next + 1 := wrap64 (by omega) (by omega)
  obtain ⟨s1, s2⟩ := edgF_snoc (newE g s d k) (nodeIn_none fun x hx => by have := nodL_ge c3 x hx; show x.id < g.next; omega) q3 q1 q2 rfl g.edges 0 c4 hmx.1
  refine ⟨Ev.Graph.mk g.nodes (g.edges ++ [newE g s d k]) (g.next + 1), [g.next], 0, 0, by rw [hw]; rfl, .inr ⟨rfl, ?_, rfl, rfl⟩⟩
  unfold chkG
  dsimp only
  rw [show ((decide ((g.nodes.length : Int) > 40)) || (decide (((g.edges ++ [newE g s d k]).length : Int) > 60))) = false by rw [decide_eq_false (by omega), decide_eq_false (by rw [List.length_append, List.length_singleton]; omega)]; rfl, c3, s1, s2]
  simp only [cond_false, show ((0 : Int) != 0) = false from rfl]
  have hm2 : maxI (newE g s d k).id (nodL 0 g.nodes) = g.next := by
    show maxI g.next (nodL 0 g.nodes) = g.next
    unfold maxI
    split <;> omega
  rw [hm2, decide_eq_false (by omega), decide_eq_false (by omega)]
  rfl
end Pure

/- ReachCloses: the plain law. No program. -/
namespace Pure
open Esp Ev Go
set_option linter.unusedSimpArgs false
set_option linter.unusedVariables false
set_option linter.unusedSimpArgs false
set_option linter.unusedVariables false
theorem insL_mem : ∀ (l M : List Ev.Pair) (k : Ev.Pair), k ∈ l.foldl ins M ↔ k ∈ M ∨ k ∈ l
  | [], M, k => by simp
  | x :: r, M, k => by
    rw [List.foldl_cons, insL_mem r (ins M x) k, mem_ins]
    simp only [List.mem_cons]
    constructor
    · rintro ((h | h) | h)
      · exact .inl h
      · exact .inr (.inl h)
      · exact .inr (.inr h)
    · rintro (h | h | h)
      · exact .inl (.inl h)
      · exact .inl (.inr h)
      · exact .inr h
theorem clo_s0 {ρ : Type} (n : Nat) (kr : Unit → Option ρ) (k : ByteArray × Int × Int × (List Ev.Pair) × (Ev.Graph × Unit) × (List (Ev.Pair × Bool)) × Unit → Option ρ) (a : ByteArray) (b c : Int) (L : List Ev.Pair) (g : Graph) :
    ∀ (l : List Ev.Pair) (i : Int) (M : List Ev.Pair), foldK (F_q8z_s0 n kr) k i l (a, b, c, L, (g, ()), tr M, ()) = k (a, b, c, L, (g, ()), tr (l.foldl ins M), ())
  | [], i, M => by rw [foldK]; rfl
  | x :: r, i, M => by
    have ih := clo_s0 n kr k a b c L g r (i + 1) (ins M x)
    rw [foldK]
    unfold F_q8z_s0 at ih ⊢
    dsimp only
    rw [show Ev.Pair.mk x.p x.q = x from rfl, put_tr]
    exact ih
theorem clo_s4 {ρ : Type} (n : Nat) (kr : Bool × Unit → Option ρ) (k : ByteArray × Int × Int × (List Ev.Pair) × (List Ev.Pair) × Int × Int × (Ev.Graph × Unit) × (Ev.Pair × Unit) × (List (Ev.Pair × Bool)) × Unit → Option ρ) (a : ByteArray) (b c : Int) (L L2 : List Ev.Pair) (d e : Int) (g : Graph) (p : Ev.Pair) (M : List Ev.Pair) :
    ∀ (l : List Ev.Pair) (i : Int), (∀ q ∈ l, p.q = q.p → Ev.Pair.mk p.p q.q ∈ M) → foldK (F_q8z_s4 n kr) k i l (a, b, c, L, L2, d, e, (g, ()), (p, ()), tr M, ()) = k (a, b, c, L, L2, d, e, (g, ()), (p, ()), tr M, ())
  | [], i, h => by rw [foldK]
  | x :: r, i, h => by
    have ih := clo_s4 n kr k a b c L L2 d e g p M r (i + 1) fun q hq => h q (by simp [hq])
    rw [foldK]
    unfold F_q8z_s4 at ih ⊢
    dsimp only
    by_cases hx : p.q = x.p
    · rw [show ((p.q : Int) == x.p) = true by simpa using hx, cond_true, get_tr, decide_eq_true (h x (by simp) hx)]
      exact ih
    · rw [show ((p.q : Int) == x.p) = false by simpa using hx, cond_false]
      exact ih
theorem clo_s2 {ρ : Type} (n : Nat) (kr : Bool × Unit → Option ρ) (kx : ByteArray × Int × Int × (Ev.Graph × Unit) × (List (Ev.Pair × Bool)) × Unit → Option ρ) (a : ByteArray) (b c : Int) (L : List Ev.Pair) (g : Graph) (M : List Ev.Pair) (hL : L.length ≤ 100000) (hn : L.length < n)
    (hM : ∀ p ∈ L, ∀ q ∈ L, p.q = q.p → Ev.Pair.mk p.p q.q ∈ M) :
    ∀ (r p : List Ev.Pair), L = p ++ r → ∀ (fuel : Nat), r.length < fuel →
      iterN (fun rc => q8z_s2 n rc kx kr) fuel (a, b, c, L, L, (L.length : Int), (p.length : Int), (g, ()), tr M, ()) = kx (a, b, c, (g, ()), tr M, ())
  | [], p, hp, fuel, hf => by
    obtain ⟨q, rfl⟩ : ∃ q, fuel = q + 1 := ⟨fuel - 1, by omega⟩
    have e : (p.length : Int) = (L.length : Int) := by rw [hp]; simp
    rw [iterN]
    unfold q8z_s2
    dsimp only
    rw [decide_eq_false (by omega), cond_false]
  | x :: r, p, hp, fuel, hf => by
    obtain ⟨q, rfl⟩ : ∃ q, fuel = q + 1 := ⟨fuel - 1, by omega⟩
    have hx : L[p.length]? = some x := by rw [hp]; simp
    have hlt : p.length < L.length := (List.getElem?_eq_some_iff.1 hx).1
    have hxm : x ∈ L := by rw [hp]; simp
    rw [List.length_cons] at hf
    have ih := clo_s2 n kr kx a b c L g M hL hn hM r (p ++ [x]) (by rw [hp]; simp) q (by omega)
    rw [iterN]
    unfold q8z_s2 at ih ⊢
    dsimp only
    rw [decide_eq_true (by omega), cond_true, ix_ok hx, Option.bind_some, R_q8z_s4 n _ _ L n _ _ _ _ _ _ _ _ _ _ (by omega) hn]
    rw [show Ev.Graph.mk g.nodes g.edges g.next = g from rfl, show Ev.Pair.mk x.p x.q = x from rfl, clo_s4 n _ _ a b c L L _ _ g x M L 0 (hM x hxm)]
    dsimp only
    rw [wrap64 (by omega) (by omega)]
    rw [List.length_append, List.length_singleton, Int.natCast_add] at ih
    exact ih
theorem idx_fold {ρ : Type} (n : Nat) (kr : Int × (Int × Unit) × Unit → Option ρ) (k : ((Int × Unit) × Unit) → Option ρ) (L : List Edg) (hr : Rise Edg.id L) (x : Edg) :
    ∀ (r p : List Edg), L = p ++ r → x ∈ r → ∃ j : Nat, L[j]? = some x ∧ foldK (F_q0z_s0 n kr) k (p.length : Int) r ((x.id, ()), ()) = kr ((j : Int), (x.id, ()), ())
  | [], p, hp, hx => by cases hx
  | y :: r, p, hp, hx => by
    rw [foldK]
    by_cases hy : y.id = x.id
    · have hyL : L[p.length]? = some y := by rw [hp]; simp
      have hym : y ∈ L := List.mem_of_getElem? hyL
      have hxm : x ∈ L := by rw [hp]; exact List.mem_append_right _ hx
      have exy := ids_inj hr hym hxm hy
      subst exy
      refine ⟨p.length, hyL, ?_⟩
      unfold F_q0z_s0 q5z
      dsimp only
      rw [Option.bind_some]
      dsimp only
      rw [show ((y.id : Int) == y.id) = true by simp, cond_true]
    · have hx2 : x ∈ r := by
        rcases List.mem_cons.1 hx with rfl | h
        · exact absurd rfl hy
        · exact h
      obtain ⟨j, h1, h2⟩ := idx_fold n kr k L hr x r (p ++ [y]) (by rw [hp]; simp) hx2
      refine ⟨j, h1, ?_⟩
      rw [List.length_append, List.length_singleton, Int.natCast_add] at h2
      unfold F_q0z_s0 q5z at h2 ⊢
      dsimp only
      rw [Option.bind_some]
      dsimp only
      rw [show ((y.id : Int) == x.id) = false by simpa using hy, cond_false]
      exact h2
theorem idx_ok (n : Nat) (L : List Edg) (hr : Rise Edg.id L) (x : Edg) (hx : x ∈ L) (hL : L.length ≤ 1000) (hn : 1000 < n) : ∃ j : Nat, L[j]? = some x ∧ q0z n (L, (x.id, ()), ()) = some ((j : Int), (x.id, ()), ()) := by
  obtain ⟨j, h1, h2⟩ := idx_fold n (fun (v11, o12, _) => some (v11, (o12.1, ()), ())) (fun (o10, _) => some ((-1), (o10.1, ()), ())) L hr x L [] rfl hx
  refine ⟨j, h1, ?_⟩
  unfold q0z
  dsimp only
  rw [R_q0z_s0 n _ _ L n _ (by omega) (by omega)]
  exact h2
theorem clo_s6 {ρ : Type} (n : Nat) (hn : 1000 < n) (kr : Bool × Unit → Option ρ) (k : ByteArray × Int × Int × Int × (List Int) × Int × (Ev.Graph × Unit) × Unit → Option ρ) (a : ByteArray) (b c d : Int) (L : List Int) (kind : ByteArray) (g : Graph) (hr : Rise Edg.id g.edges) (h60 : g.edges.length ≤ 60) (tg : Int) :
    ∀ (q : List Edg) (i at_ : Int), Wk kind g.edges at_ q tg → foldK (F_q8z_s6 n kr) k i (ids q) (a, b, c, d, L, at_, (g, ()), ()) = k (a, b, c, d, L, tg, (g, ()), ())
  | [], i, at_, h => by
    cases h
    rw [show ids [] = [] from rfl, foldK]
  | x :: r, i, at_, h => by
    obtain ⟨j, h1, h2⟩ := idx_ok n g.edges hr x h.1 (by omega) hn
    have ih := clo_s6 n hn kr k a b c d L kind g hr h60 tg r (i + 1) x.dst h.2.2.2
    rw [show ids (x :: r) = x.id :: ids r from rfl, foldK]
    unfold F_q8z_s6 at ih ⊢
    dsimp only
    rw [h2, Option.bind_some]
    dsimp only
    rw [decide_eq_false (by omega), cond_false, ix_ok h1, Option.bind_some, show ((x.src : Int) != at_) = false by simp [h.2.2.1], cond_false, Option.bind_some]
    exact ih
theorem ReachCloses_ok (g : Graph) (kind : ByteArray) (a tg : Int) (n : Nat) (hn : 100100 ≤ n) : q8z n (g, kind, a, tg, ()) = some (true, ()) := by
  unfold q8z
  dsimp only
  rw [Graph.eta]
  by_cases hc : chkG g = 0
  · obtain ⟨ks, k1, k2, k3, k4⟩ := all_ok n hn g kind hc
    obtain ⟨h40, h60, h3, h4⟩ := chkG_0 hc
    have hr := (edgF_rise h4).2.1
    rw [k4, Option.bind_some]
    dsimp only
    rw [reachedF n hn, Option.bind_some]
    dsimp only
    rw [show ((!true) || ((0 : Int) != 0)) = false from rfl, cond_false]
    have hsl : (sortL ltP ks).length = ks.length := sortL_length ltP ks
    have hsm : ∀ x, x ∈ sortL ltP ks ↔ Rc (stp kind g.edges) x.p x.q := fun x => by rw [← k2 x]; exact (sortL_perm ltP ks).mem_iff
    generalize sortL ltP ks = S at hsl hsm
    rw [R_q8z_s0 n _ _ S n _ _ _ _ _ _ (by omega) (by omega), show ([] : List (Ev.Pair × Bool)) = tr [] from rfl, clo_s0 n _ _ kind a tg S g S 0 []]
    dsimp only
    have hM : ∀ x, x ∈ S.foldl ins [] ↔ Rc (stp kind g.edges) x.p x.q := fun x => by rw [insL_mem]; simpa using hsm x
    generalize S.foldl ins [] = M at hM
    rw [show Ev.Graph.mk g.nodes g.edges g.next = g from rfl]
    refine (clo_s2 n (fun (v65, _) => some (v65, ())) _ kind a tg S g M (by omega) (by omega) (fun p hp q hq e => (hM _).2 ?_) S [] rfl n (by omega)).trans ?_
    · have h1 := (hsm p).1 hp
      have h2 := (hsm q).1 hq
      rw [← e] at h2
      exact h1.trans h2
    dsimp only
    rw [show Ev.Graph.mk g.nodes g.edges g.next = g from rfl]
    -- the edge more
    have hend : ∀ (v : ByteArray), v = kind → ((txn_Apply n (g, [Ev.Opn.mk 2 0 a tg ⟨#[75]⟩ (Ev.Val.mk 0 0 ⟨#[]⟩ []) [] []], ())).bind fun (y91, y92, y93, y94, _) =>
        (bif (y94 : Int) != 0 then some (true, ())
        else (q26z n ((Ev.Graph.mk g.nodes g.edges g.next), (Ev.Graph.mk y91.nodes y91.edges y91.next), v, ())).bind fun (y95, y96, y97, _) => some (((y97 : Int) == 0) && (((y95.length : Int) : Int) == 0), ()))) = some (true, ()) := by
      intro v hv
      subst hv
      obtain ⟨h, md, t, e, q1, q2⟩ := apply_add g hc a tg ⟨#[75]⟩ (Ev.Val.mk 0 0 ⟨#[]⟩ []) [] n (by omega)
      rw [q1, Option.bind_some]
      dsimp only
      rcases q2 with q2 | ⟨rfl, q3, q4, q5⟩
      · rw [show (e != 0) = true by simpa using q2, cond_true]
      · rw [show ((0 : Int) != 0) = false from rfl, cond_false, show Ev.Graph.mk g.nodes g.edges g.next = g from rfl, show Ev.Graph.mk h.nodes h.edges h.next = h from rfl]
        obtain ⟨kb, b1, b2, b3, b4⟩ := all_ok n hn h v q3
        rw [change_ok n hn g h v hc q3 ks kb k1 b1 k2 b2, Option.bind_some]
        dsimp only
        have hemp : ks.filter (fun k => decide (k ∉ kb)) = [] := by
          rw [List.filter_eq_nil_iff]
          intro x hx
          have h1 := (k2 x).1 hx
          have h2 : Rc (stp v h.edges) x.p x.q := W.rel (fun p q ⟨y, hy, hk, hs, hd⟩ => ⟨y, by rw [q5]; simp [hy], hk, hs, hd⟩) h1
          simpa using (b2 x).2 h2
        rw [hemp, sortL_length]
        rfl
    -- the way
    by_cases hw : (nodeIn g.nodes a).isNone = true ∨ (nodeIn g.nodes tg).isNone = true
    · have hno : Ev.Pair.mk a tg ∉ M := fun hm => by
        have w := (hM _).1 hm
        have hE := ends_of hc kind
        have ha := hE.p w
        have ht := hE.q w
        have key : ∀ t, t ∈ idsN g → (nodeIn g.nodes t).isNone = false := fun t ht => by
          unfold nodeIn
          cases hf : g.nodes.find? fun y => y.id == t with
          | some x => rfl
          | none =>
            obtain ⟨x, hx, rfl⟩ := List.mem_map.1 ht
            have := List.find?_eq_none.1 hf x hx
            simp at this
        rcases hw with h | h
        · rw [key a ha] at h; cases h
        · rw [key tg ht] at h; cases h
      rw [path_who n (by omega) g kind a tg hc hw, Option.bind_some]
      dsimp only
      rw [get_tr, decide_eq_false hno, show (!(((5 : Int) == 0) == false)) = false from rfl, cond_false]
      rw [R_q8z_s6 n _ _ [] n _ _ _ _ _ _ _ (by simp) (by simp; omega), foldK]
      dsimp only
      rw [show ((5 : Int) == 0) = false from rfl, Bool.false_and, cond_false, show Ev.Graph.mk g.nodes g.edges g.next = g from rfl]
      exact hend kind rfl
    · have ha : (nodeIn g.nodes a).isSome = true := by
        cases h : nodeIn g.nodes a with
        | some x => rfl
        | none => exact absurd (.inl (by rw [h]; rfl)) hw
      have ht : (nodeIn g.nodes tg).isSome = true := by
        cases h : nodeIn g.nodes tg with
        | some x => rfl
        | none => exact absurd (.inr (by rw [h]; rfl)) hw
      have htg : tg ∈ idsN g := node_in (by cases h : nodeIn g.nodes tg with
        | some x => rfl
        | none => rw [h] at ht; cases ht)
      rcases path_all n (by omega) g kind a tg hc htg ha ht with ⟨p1, p2⟩ | ⟨p, p1, p2, p3, p4, p5⟩
      · have hno : Ev.Pair.mk a tg ∉ M := fun hm => p1 ((hM _).1 hm)
        rw [p2, Option.bind_some]
        dsimp only
        rw [get_tr, decide_eq_false hno, show (!(((5 : Int) == 0) == false)) = false from rfl, cond_false]
        rw [R_q8z_s6 n _ _ [] n _ _ _ _ _ _ _ (by simp) (by simp; omega), foldK]
        dsimp only
        rw [show ((5 : Int) == 0) = false from rfl, Bool.false_and, cond_false, show Ev.Graph.mk g.nodes g.edges g.next = g from rfl]
        exact hend kind rfl
      · have hyes : Ev.Pair.mk a tg ∈ M := (hM _).2 (p3.1.rc p1)
        rw [p5, Option.bind_some]
        dsimp only
        rw [get_tr, decide_eq_true hyes, show (!(((0 : Int) == 0) == true)) = false from rfl, cond_false]
        have hil : (ids p).length = p.length := List.length_map _
        rw [R_q8z_s6 n _ _ (ids p) n _ _ _ _ _ _ _ (by omega) (by omega), clo_s6 n (by omega) _ _ kind a tg 0 (ids p) kind g hr h60 tg p 0 a p3.1]
        dsimp only
        have hpl : ((((ids p).length : Int) : Int) == 0) = false := by
          rw [hil, beq_eq_false_iff_ne]
          intro h
          exact p1 (List.eq_nil_of_length_eq_zero (by omega))
        rw [show ((tg : Int) != tg) = false by simp, hpl, Bool.or_false, Bool.and_false, cond_false, show Ev.Graph.mk g.nodes g.edges g.next = g from rfl]
        exact hend kind rfl
  · have h : (chkG g != 0) = true := by simpa using hc
    rw [all_err n (by omega) g kind h, Option.bind_some]
    dsimp only
    rw [reachedF n hn, Option.bind_some]
    dsimp only
    rw [show ((!true) || (chkG g != 0)) = true by rw [h]; rfl, cond_true]
    rfl
end Pure

/- Several texts in one (merge.py). -/
import Derived.Test.YtjecnkdkhniflaaGreatDoorPNext
import Derived.Test.YtjecnkdkhniflaaGreatDoorPRange
import Derived.Test.YtjecnkdkhniflaaGreatDoorEvRng
import Derived.Test.YtjecnkdkhniflaaGreatDoorEvRise2
import Derived.Test.YtjecnkdkhniflaaGreatDoorPA
import Derived.KernelRfl
/- Plain: what is reached by steps; sets of pairs as maps to true. -/
namespace Pure
open Esp Ev Go
set_option linter.unusedSimpArgs false
set_option linter.unusedVariables false
set_option linter.unusedSimpArgs false
set_option linter.unusedVariables false
inductive W (R : Int → Int → Prop) (V : Int → Prop) : Int → Int → Prop
  | one {a b : Int} : R a b → W R V a b
  | two {a c b : Int} : W R V a c → V c → W R V c b → W R V a b
def Rc (R : Int → Int → Prop) : Int → Int → Prop := W R fun _ => True
theorem W.mono {R : Int → Int → Prop} {V U : Int → Prop} (h : ∀ x, V x → U x) {a b : Int} (w : W R V a b) : W R U a b := by
  induction w with
  | one h => exact .one h
  | two _ hc _ i j => exact .two i (h _ hc) j
theorem W.rel {R S : Int → Int → Prop} {V : Int → Prop} (h : ∀ a b, R a b → S a b) {a b : Int} (w : W R V a b) : W S V a b := by
  induction w with
  | one hh => exact .one (h _ _ hh)
  | two _ hc _ i j => exact .two i hc j
theorem Rc.one {R : Int → Int → Prop} {a b : Int} (h : R a b) : Rc R a b := W.one h
theorem Rc.trans {R : Int → Int → Prop} {a c b : Int} (h : Rc R a c) (h' : Rc R c b) : Rc R a b := W.two h trivial h'
theorem W.src {R : Int → Int → Prop} {V : Int → Prop} {a b : Int} (w : W R V a b) : ∃ c, R a c := by
  induction w with
  | one h => exact ⟨_, h⟩
  | two _ _ _ i _ => exact i
theorem W.dst {R : Int → Int → Prop} {V : Int → Prop} {a b : Int} (w : W R V a b) : ∃ c, R c b := by
  induction w with
  | one h => exact ⟨_, h⟩
  | two _ _ _ _ j => exact j
theorem W.more {R : Int → Int → Prop} {V : Int → Prop} {v a b : Int} (w : W R (fun x => V x ∨ x = v) a b) : W R V a b ∨ (W R V a v ∧ W R V v b) := by
  induction w with
  | one h => exact .inl (.one h)
  | two _ hc _ i j =>
    rcases hc with hc | rfl
    · rcases i with i | ⟨i1, i2⟩ <;> rcases j with j | ⟨j1, j2⟩
      · exact .inl (.two i hc j)
      · exact .inr ⟨.two i hc j1, j2⟩
      · exact .inr ⟨i1, .two i2 hc j⟩
      · exact .inr ⟨i1, j2⟩
    · exact .inr ⟨(by rcases i with i | ⟨i1, _⟩; exact i; exact i1), (by rcases j with j | ⟨_, j2⟩; exact j; exact j2)⟩
theorem Rc.close {R : Int → Int → Prop} {a b : Int} (S : Int → Prop) (h1 : ∀ t, R a t → S t) (h2 : ∀ t u, S t → R t u → S u) (w : Rc R a b) : S b := by
  have key : ∀ {c d : Int}, W R (fun _ => True) c d → (S c ∨ c = a) → S d := by
    intro c d w
    induction w with
    | one h => rintro (hs | rfl); exact h2 _ _ hs h; exact h1 _ h
    | two _ _ _ i j => intro hs; exact j (.inl (i hs))
  exact key w (.inr rfl)

/-! ## sets of pairs -/
instance : DecidableEq Ev.Pair := fun a b => decidable_of_iff (a.p = b.p ∧ a.q = b.q) (by cases a; cases b; simp)
theorem keyEq_pair (a b : Ev.Pair) : keyEq .pair a b = decide (a = b) := by
  show (a.p == b.p && a.q == b.q) = _
  cases a; cases b
  rw [Bool.eq_iff_iff]
  simp
def tr (ks : List Ev.Pair) : List (Ev.Pair × Bool) := ks.map fun k => (k, true)
def ins (ks : List Ev.Pair) (k : Ev.Pair) : List Ev.Pair := if k ∈ ks then ks else ks ++ [k]
theorem mem_ins {ks : List Ev.Pair} {k x : Ev.Pair} : x ∈ ins ks k ↔ x ∈ ks ∨ x = k := by
  unfold ins
  split
  · constructor
    · exact .inl
    · rintro (h | rfl); exact h; assumption
  · simp
theorem ins_nodup {ks : List Ev.Pair} (h : ks.Nodup) (k : Ev.Pair) : (ins ks k).Nodup := by
  unfold ins
  split
  · exact h
  · rename_i hk
    rw [List.nodup_append]
    refine ⟨h, by simp, fun a ha b hb => ?_⟩
    simp at hb
    subst hb
    intro e
    subst e
    exact hk ha
theorem get_tr (ks : List Ev.Pair) (k : Ev.Pair) : mpGet .pair .bool false (tr ks) k = decide (k ∈ ks) := by
  induction ks with
  | nil => rfl
  | cons a r ih =>
    show (bif keyEq .pair k a then true else mpGet .pair .bool false (tr r) k) = _
    rw [keyEq_pair, ih]
    by_cases h : k = a
    · simp [h]
    · simp [h]
theorem put_tr (ks : List Ev.Pair) (k : Ev.Pair) : mpPut .pair .bool (tr ks) k true = tr (ins ks k) := by
  induction ks with
  | nil => rfl
  | cons a r ih =>
    show (bif keyEq .pair k a then (k, true) :: tr r else (a, true) :: mpPut .pair .bool (tr r) k true) = _
    rw [keyEq_pair, ih]
    by_cases h : k = a
    · subst h; simp [ins, tr]
    · rw [decide_eq_false h, cond_false]
      unfold ins
      by_cases h2 : k ∈ r
      · simp [h2, tr]
      · simp [h2, h, tr]
theorem tr_erase (ks : List Ev.Pair) (i : Nat) : (tr ks).eraseIdx i = tr (ks.eraseIdx i) := by
  induction ks generalizing i with
  | nil => rfl
  | cons a r ih =>
    cases i with
    | zero => rfl
    | succ i => show (a, true) :: (tr r).eraseIdx i = _; rw [ih]; rfl
theorem tr_get (ks : List Ev.Pair) (i : Nat) (h : i < (tr ks).length) : (tr ks)[i] = (ks[i]'(by simpa [tr] using h), true) := by simp [tr]
theorem perm_of {l m : List Ev.Pair} (hl : l.Nodup) (hm : m.Nodup) (h : ∀ x, x ∈ l ↔ x ∈ m) : l.Perm m := by
  induction l generalizing m with
  | nil =>
    cases m with
    | nil => exact .refl _
    | cons a r => exact absurd ((h a).2 (by simp)) (by simp)
  | cons a r ih =>
    have ha : a ∈ m := (h a).1 (by simp)
    refine .trans (.cons a (ih (m := m.erase a) (List.nodup_cons.1 hl).2 (hm.erase a) fun x => ?_)) (List.perm_cons_erase ha).symm
    rw [hm.mem_erase_iff, ← h]
    constructor
    · intro hx
      exact ⟨fun e => (List.nodup_cons.1 hl).1 (e ▸ hx), by simp [hx]⟩
    · rintro ⟨h1, h2⟩
      rcases List.mem_cons.1 h2 with e | h2
      · exact absurd e h1
      · exact h2
theorem len_of {l m : List Ev.Pair} (hl : l.Nodup) (h : ∀ x ∈ l, x ∈ m) : l.length ≤ m.length := by
  induction l generalizing m with
  | nil => simp
  | cons a r ih =>
    have ha : a ∈ m := h a (by simp)
    have h1 := ih (m := m.erase a) (List.nodup_cons.1 hl).2 fun x hx => (List.mem_erase_of_ne fun e : x = a => (List.nodup_cons.1 hl).1 (e ▸ hx)).2 (h x (by simp [hx]))
    rw [List.length_erase_of_mem ha] at h1
    have : 0 < m.length := List.length_pos_of_mem ha
    simp; omega
def prod (ns : List Int) : List Ev.Pair := ns.flatMap fun a => ns.map fun b => Ev.Pair.mk a b
theorem mem_prod {ns : List Int} {x : Ev.Pair} : x ∈ prod ns ↔ x.p ∈ ns ∧ x.q ∈ ns := by
  unfold prod
  simp only [List.mem_flatMap, List.mem_map]
  constructor
  · rintro ⟨a, ha, b, hb, rfl⟩; exact ⟨ha, hb⟩
  · rintro ⟨h1, h2⟩; exact ⟨x.p, h1, x.q, h2, rfl⟩
theorem prod_length (ns : List Int) : (prod ns).length = ns.length * ns.length := by
  unfold prod
  have : ∀ (ms : List Int), (ms.flatMap fun a => ns.map fun b => Ev.Pair.mk a b).length = ms.length * ns.length := by
    intro ms
    induction ms with
    | nil => simp
    | cons a r ih => simp only [List.flatMap_cons, List.length_append, ih, List.length_map, List.length_cons, Nat.succ_mul]; omega
  exact this ns
theorem prod_le {ks : List Ev.Pair} {ns : List Int} (hn : ks.Nodup) (h : ∀ x ∈ ks, x.p ∈ ns ∧ x.q ∈ ns) (h40 : ns.length ≤ 40) : ks.length ≤ 1600 := by
  have h1 := len_of hn (m := prod ns) fun x hx => mem_prod.2 (h x hx)
  rw [prod_length] at h1
  have := Nat.mul_le_mul h40 h40
  omega

/-! ## steps in a graph -/
def kd (kind : ByteArray) (x : Ev.Edg) : Bool := seq kind ⟨#[]⟩ || seq x.type kind
def stp (kind : ByteArray) (l : List Ev.Edg) (a b : Int) : Prop := ∃ x ∈ l, kd kind x = true ∧ x.src = a ∧ x.dst = b
theorem next_mem (kind : ByteArray) (l : List Ev.Edg) (s t : Int) : t ∈ mpGet .i64 (.lst .i64) [] (nextL kind l) s ↔ stp kind l s t := by
  have h : ∀ (l : List Ev.Edg) (m : List (Int × List Int)), t ∈ mpGet .i64 (.lst .i64) [] (l.foldl (nextStep kind) m) s ↔ t ∈ mpGet .i64 (.lst .i64) [] m s ∨ stp kind l s t := by
    intro l
    induction l with
    | nil => intro m; simp [stp]
    | cons x r ih =>
      intro m
      rw [List.foldl_cons, ih]
      have e : stp kind (x :: r) s t ↔ (kd kind x = true ∧ x.src = s ∧ x.dst = t) ∨ stp kind r s t := by
        unfold stp; simp
      rw [e, ← or_assoc]
      refine or_congr ?_ Iff.rfl
      unfold nextStep
      cases hb : (seq kind ⟨#[]⟩ || seq x.type kind) with
      | false =>
        have : kd kind x = false := hb
        simp [this]
      | true =>
        have hk : kd kind x = true := hb
        rw [cond_true, mpGet_put]
        split
        · rename_i hs
          rw [← hs]
          simp [hk, eq_comm]
        · rename_i hs
          simp [hk, Ne.symm hs]
  have := h l []
  simpa [nextL, mpGet] using this

/-! ## the sorts -/
theorem room16 {n : Nat} (h : n ≤ 1000000) : room n 16 = true := by
  unfold room
  rw [Bool.and_eq_true]
  exact ⟨Nat.ble_eq_true_of_le (by omega), Nat.ble_eq_true_of_le (by omega)⟩
theorem room8 {n : Nat} (h : n ≤ 1000000) : room n 8 = true := by
  unfold room
  rw [Bool.and_eq_true]
  exact ⟨Nat.ble_eq_true_of_le (by omega), Nat.ble_eq_true_of_le (by omega)⟩
theorem sfPair_some (l : List Ev.Pair) (h : l.length ≤ 1000000) : sfPair (l, ()) = some (sortL ltP l, ()) := by
  unfold sfPair sfL
  dsimp only
  rw [Nat.ble_eq_true_of_le (by omega), cond_true]
theorem sslN_some (l : List Ev.Pair) (h : l.length ≤ 1000000) : sslN (l, (), ()) = some (sortL ltP l, (), ()) := by
  unfold sslN ssL
  dsimp only
  rw [Nat.ble_eq_true_of_le (by omega), cond_true]
theorem Pair.eta (x : Ev.Pair) : Ev.Pair.mk x.p x.q = x := rfl
theorem rng_tr {ρ : Type} (ks : List Ev.Pair) (k0 : Option ρ) (f : Ev.Pair × Bool → List (Ev.Pair × Bool) → Option ρ) (r : ρ) (h0 : ks = [] → k0 = some r) (h : ∀ i (hi : i < ks.length), f (ks[i], true) (tr (ks.eraseIdx i)) = some r) : rngM (tr ks) k0 f = some r := by
  refine rngM_some (fun e => h0 (by simpa [tr] using e)) fun i hi => ?_
  rw [tr_get, tr_erase]
  exact h i (by simpa [tr] using hi)
theorem erase_perm {α : Type} (l : List α) (i : Nat) (hi : i < l.length) : (l[i] :: l.eraseIdx i).Perm l := by
  induction l generalizing i with
  | nil => exact absurd hi (Nat.not_lt_zero _)
  | cons a r ih =>
    cases i with
    | zero => exact .refl _
    | succ i => exact (List.Perm.swap _ _ _).trans (.cons a (ih i (by simpa using hi)))
end Pure

/- Plain: reach.Set, sorted, plain, Pairs, slices.Equal. No program. -/
namespace Pure
open Esp Ev Go
set_option linter.unusedSimpArgs false
set_option linter.unusedVariables false
set_option linter.unusedSimpArgs false
set_option linter.unusedVariables false
theorem sorted_loop (n : Nat) : ∀ (fuel : Nat) (acc ks : List Ev.Pair), ks.length < fuel → acc.length + ks.length ≤ 1000000 →
    iterN (fun rc8 => q20z_s0 n rc8 (fun (o6, _) => (sfPair (o6, ())).bind fun (o7, _) => some (o7, ())) (fun (_) => none)) fuel (acc, tr ks, ()) = some (sortL ltP (acc ++ ks), ()) := by
  intro fuel
  induction fuel with
  | zero => intro acc ks h _; exact absurd h (Nat.not_lt_zero _)
  | succ f ih =>
    intro acc ks hf hl
    rw [iterN]
    unfold q20z_s0
    dsimp only
    refine rng_tr ks _ _ _ (fun e => ?_) fun i hi => ?_
    · subst e
      rw [sfPair_some acc (by omega), List.append_nil]
      rfl
    · dsimp only
      have hlen := (erase_perm ks i hi).length_eq
      rw [List.length_cons] at hlen
      rw [Pair.eta, ck_ok (room16 (by simp; omega))]
      refine (ih _ _ (by omega) (by simp; omega)).trans ?_
      rw [sortL_eq ltP_ok (l := (acc ++ [ks[i]]) ++ ks.eraseIdx i) (m := acc ++ ks) (by rw [List.append_assoc]; exact (erase_perm ks i hi).append_left acc)]
theorem sorted_ok (n : Nat) (ks : List Ev.Pair) (h : ks.length ≤ 1000000) (hn : ks.length < n) : q20z n (tr ks, ()) = some (sortL ltP ks, ()) :=
  sorted_loop n n [] ks hn (by simpa using h)
theorem pairs_loop (n : Nat) : ∀ (fuel : Nat) (acc ks : List Ev.Pair), ks.length < fuel → acc.length + ks.length ≤ 1000000 →
    iterN (fun rc11 => q14z_s0 n rc11 (fun (o7, o8, _) => (sslN (o8, (()), ())).bind fun (o9, o10, _) => some (o9, ())) (fun (_) => none)) fuel ((()), tr ks, acc, ()) = some (sortL ltP (acc ++ ks), ()) := by
  intro fuel
  induction fuel with
  | zero => intro acc ks h _; exact absurd h (Nat.not_lt_zero _)
  | succ f ih =>
    intro acc ks hf hl
    rw [iterN]
    unfold q14z_s0
    dsimp only
    refine rng_tr ks _ _ _ (fun e => ?_) fun i hi => ?_
    · subst e
      rw [sslN_some acc (by omega), List.append_nil]
      rfl
    · dsimp only
      have hlen := (erase_perm ks i hi).length_eq
      rw [List.length_cons] at hlen
      rw [Pair.eta, ck_ok (room16 (by simp; omega))]
      refine (ih _ _ (by omega) (by simp; omega)).trans ?_
      rw [sortL_eq ltP_ok (l := (acc ++ [ks[i]]) ++ ks.eraseIdx i) (m := acc ++ ks) (by rw [List.append_assoc]; exact (erase_perm ks i hi).append_left acc)]
theorem pairs_ok (n : Nat) (ks : List Ev.Pair) (h : ks.length ≤ 1000000) (hn : ks.length < n) : q14z n (tr ks, ()) = some (sortL ltP ks, ()) :=
  pairs_loop n n [] ks hn (by simpa using h)
theorem plain_ok (n : Nat) (l : List Ev.Pair) (h : l.length ≤ 1000000) (hn : l.length < n) : q23z n (l, ()) = some (l, ()) := by
  unfold q23z
  dsimp only
  rw [R_q23z_s0 n _ _ l n [] (by omega) hn]
  have key : ∀ (r p : List Ev.Pair) (i : Int), p.length + r.length ≤ 1000000 → foldK (F_q23z_s0 n (fun (_) => none)) (fun (o5, _) => some (o5, ())) i r (p, ()) = some (p ++ r, ()) := by
    intro r
    induction r with
    | nil => intro p i _; simp [foldK]
    | cons x r ih =>
      intro p i hl
      rw [List.length_cons] at hl
      rw [foldK]
      unfold F_q23z_s0
      dsimp only
      rw [Pair.eta, ck_ok (room16 (by simp; omega))]
      refine (ih (p ++ [x]) (i + 1) (by simp; omega)).trans ?_
      simp
  exact key l [] 0 (by simpa using h)
theorem equalP_ok (l : List Ev.Pair) (n : Nat) (h : l.length ≤ 1000000) (hn : l.length < n) : q2z n (l, l, ()) = some (true, ()) := by
  unfold q2z
  dsimp only
  rw [show ((l.length : Int) != (l.length : Int)) = false from by simp, cond_false]
  rw [R_q2z_s0 n _ _ l n l (by omega) hn]
  have key : ∀ (r p : List Ev.Pair), l = p ++ r → foldK (F_q2z_s0 n (fun (v11, _) => some (v11, ()))) (fun (v4, _) => some (true, ())) (p.length : Int) r (l, ()) = some (true, ()) := by
    intro r
    induction r with
    | nil => intro p _; rfl
    | cons x r ih =>
      intro p hp
      have e1 : ((p.length : Int) + 1) = ((p ++ [x]).length : Int) := by simp
      have e2 : ix l (p.length : Int) = some x := ix_ok (by rw [hp]; simp)
      rw [foldK, e1]
      unfold F_q2z_s0
      dsimp only
      rw [e2, Option.bind_some, keyEq_pair, decide_eq_true rfl]
      exact ih (p ++ [x]) (by simp [hp])
  exact key l [] rfl
theorem pop_ix {α : Type} (p : List α) (e : α) (h : p.length ≤ 1000000) : ix (p ++ [e]) (IntKind.wrap .i64 (((p ++ [e]).length : Int) - 1)) = some e := by
  rw [wrap64 (by simp) (by simp; omega), show (((p ++ [e]).length : Int) - 1) = (p.length : Int) by simp]
  exact ix_ok (by simp)
theorem pop_get {α : Type} (p : List α) (e : α) (h : p.length ≤ 1000000) : (p ++ [e])[(IntKind.wrap .i64 (((p ++ [e]).length : Int) - 1) : Int).toNat]? = some e := by
  rw [wrap64 (by simp) (by simp; omega), show ((((p ++ [e]).length : Int) - 1)).toNat = p.length by simp]
  simp
theorem pop_cut {α : Type} (p : List α) (e : α) (h : p.length ≤ 1000000) : cut? (p ++ [e]) (IntKind.wrap .i64 (((p ++ [e]).length : Int) - 1)) = some p := by
  rw [wrap64 (by simp) (by simp; omega), show (((p ++ [e]).length : Int) - 1) = (p.length : Int) by simp]
  unfold cut?
  rw [if_pos (by simp; omega)]
  simp
/-! ## what is reached -/
def idsN (g : Graph) : List Int := g.nodes.map Ev.Node.id
structure Ends (R : Int → Int → Prop) (ns : List Int) : Prop where
  s : ∀ a b, R a b → a ∈ ns
  d : ∀ a b, R a b → b ∈ ns
theorem Ends.p {R : Int → Int → Prop} {ns : List Int} (h : Ends R ns) {a b : Int} (w : Rc R a b) : a ∈ ns := by
  obtain ⟨c, hc⟩ := W.src w; exact h.s _ _ hc
theorem Ends.q {R : Int → Int → Prop} {ns : List Int} (h : Ends R ns) {a b : Int} (w : Rc R a b) : b ∈ ns := by
  obtain ⟨c, hc⟩ := W.dst w; exact h.d _ _ hc
theorem node_in {l : List Ev.Node} {t : Int} (h : (nodeIn l t).isNone = false) : t ∈ l.map Ev.Node.id := by
  cases hx : nodeIn l t with
  | none => rw [hx] at h; cases h
  | some x =>
    have h1 := List.mem_of_find?_eq_some hx
    have h2 := List.find?_some hx
    exact List.mem_map.2 ⟨x, h1, by simpa using h2⟩
theorem ends_of {g : Graph} (hc : chkG g = 0) (kind : ByteArray) : Ends (stp kind g.edges) (idsN g) := by
  obtain ⟨_, _, _, h4⟩ := chkG_0 hc
  refine ⟨?_, ?_⟩
  · rintro a b ⟨x, hx, _, rfl, _⟩
    exact node_in (edgF_0 h4 x hx).2.2.1
  · rintro a b ⟨x, hx, _, _, rfl⟩
    exact node_in (edgF_0 h4 x hx).2.2.2
theorem ids_len {g : Graph} (hc : chkG g = 0) : (idsN g).length ≤ 40 := by
  obtain ⟨h, _⟩ := chkG_0 hc
  unfold idsN; simpa using h
theorem set_s2 (n : Nat) (g : Graph) (kind : ByteArray) (hE : Ends (stp kind g.edges) (idsN g)) (hN : (idsN g).length ≤ 40) (he : g.edges.length ≤ 60) {ρ : Type} (kx : (List (Int × (List Int))) × (List Ev.Node) × Int × Int × (List (Ev.Pair × Bool)) × Unit → Option ρ) (v12 : List Ev.Node) (v13 v14 : Int) (x : Ev.Node) (ks0 : List Ev.Pair) :
    ∀ (fuel : Nat) (ks : List Ev.Pair) (td : List Int), ks.Nodup → (∀ k ∈ ks, Rc (stp kind g.edges) k.p k.q) → (∀ k ∈ ks, k ∈ ks0 ∨ (k.p = x.id ∧ Rc (stp kind g.edges) x.id k.q)) → (∀ k ∈ ks0, k ∈ ks) →
      (∀ t ∈ td, Rc (stp kind g.edges) x.id t) → (∀ t, stp kind g.edges x.id t → t ∈ td ∨ Ev.Pair.mk x.id t ∈ ks) → (∀ t, Ev.Pair.mk x.id t ∈ ks → ∀ u, stp kind g.edges t u → u ∈ td ∨ Ev.Pair.mk x.id u ∈ ks) →
      td.length + 61 * (1600 - ks.length) < fuel → td.length + 61 * (1600 - ks.length) ≤ 100000 →
      ∃ ks' : List Ev.Pair, ks'.Nodup ∧ (∀ k, k ∈ ks' ↔ k ∈ ks0 ∨ (k.p = x.id ∧ Rc (stp kind g.edges) x.id k.q)) ∧
        iterN (fun rc25 => reach_Set_s2 n rc25 kx (fun (_) => none)) fuel (nextL kind g.edges, v12, v13, v14, (x, ()), tr ks, td, ()) = kx (nextL kind g.edges, v12, v13, v14, tr ks', ()) := by
  intro fuel
  induction fuel with
  | zero => intro ks td _ _ _ _ _ _ _ h _; exact absurd h (Nat.not_lt_zero _)
  | succ f ih =>
    intro ks td hnd hs h0 h00 htd hfi hcl hf hM
    rw [iterN]
    unfold reach_Set_s2
    dsimp only
    rcases List.eq_nil_or_concat td with rfl | ⟨p, e, rfl⟩
    · refine ⟨ks, hnd, fun k => ⟨h0 k, ?_⟩, rfl⟩
      rintro (h | ⟨h1, h2⟩)
      · exact h00 k h
      · have h3 : Ev.Pair.mk x.id k.q ∈ ks := Rc.close (fun t => Ev.Pair.mk x.id t ∈ ks) (fun t ht => (hfi t ht).resolve_left (by simp)) (fun t u ht hu => (hcl t ht u hu).resolve_left (by simp)) h2
        rw [← h1] at h3
        exact h3
    · rw [List.concat_eq_append] at *
      have hpl : p.length ≤ 1000000 := by simp at hM; omega
      rw [pop_ix p e hpl, pop_get p e hpl, pop_cut p e hpl, show decide (((p ++ [e]).length : Int) > 0) = true by rw [decide_eq_true_iff]; simp, cond_true, Option.bind_some, Option.bind_some, Option.bind_some, get_tr]
      have hre := htd e (by simp)
      by_cases hm : Ev.Pair.mk x.id e ∈ ks
      · rw [decide_eq_true hm]
        refine ih ks p hnd hs h0 h00 (fun t ht => htd t (by simp [ht])) (fun t ht => ?_) (fun t ht u hu => ?_) (by simp at hf; omega) (by simp at hM; omega)
        · rcases hfi t ht with h | h
          · simp at h
            rcases h with h | rfl
            · exact .inl h
            · exact .inr hm
          · exact .inr h
        · rcases hcl t ht u hu with h | h
          · simp at h
            rcases h with h | rfl
            · exact .inl h
            · exact .inr hm
          · exact .inr h
      · rw [decide_eq_false hm]
        have hnl := Nat.le_trans (nextL_len kind e g.edges) he
        have hs' : ∀ k ∈ ins ks ⟨x.id, e⟩, Rc (stp kind g.edges) k.p k.q := fun k hk => by
          rcases mem_ins.1 hk with h | rfl
          · exact hs k h
          · exact hre
        have hnd' := ins_nodup hnd ⟨x.id, e⟩
        have hle := prod_le hnd' (fun k hk => ⟨hE.p (hs' k hk), hE.q (hs' k hk)⟩) hN
        have hlen : (ins ks ⟨x.id, e⟩).length = ks.length + 1 := by unfold ins; rw [if_neg hm]; simp
        rw [Bool.not_false, cond_true, ck_ok (room8 (by simp at hM ⊢; omega)), put_tr]
        refine ih _ _ hnd' hs' (fun k hk => ?_) (fun k hk => mem_ins.2 (.inl (h00 k hk))) (fun t ht => ?_) (fun t ht => ?_) (fun t ht u hu => ?_) (by simp at hf ⊢; omega) (by simp at hM ⊢; omega)
        · rcases mem_ins.1 hk with h | rfl
          · exact h0 k h
          · exact .inr ⟨rfl, hre⟩
        · rcases List.mem_append.1 ht with h | h
          · exact htd t (by simp [h])
          · exact hre.trans (.one ((next_mem kind g.edges e t).1 h))
        · rcases hfi t ht with h | h
          · simp at h
            rcases h with h | rfl
            · exact .inl (by simp [h])
            · exact .inr (mem_ins.2 (.inr rfl))
          · exact .inr (mem_ins.2 (.inl h))
        · rcases mem_ins.1 ht with h | h
          · rcases hcl t h u hu with h | h
            · simp at h
              rcases h with h | rfl
              · exact .inl (by simp [h])
              · exact .inr (mem_ins.2 (.inr rfl))
            · exact .inr (mem_ins.2 (.inl h))
          · have : t = e := by injection h
            subst this
            exact .inl (List.mem_append.2 (.inr ((next_mem kind g.edges t u).2 hu)))
theorem set_clone (l : List Int) (h : l.length ≤ 1000) : q1z (l, ()) = some (l, ()) := by
  unfold q1z nilq
  dsimp only
  rw [List.nil_append, ck_ok (room_ok (by omega) (by omega))]
  cases l with
  | nil => exact dem2_same _
  | cons a r => rfl
theorem Node.eta (x : Ev.Node) : Ev.Node.mk x.id x.labels x.props = x := rfl
theorem set_ok (n : Nat) (hn : 100100 ≤ n) (g : Graph) (kind : ByteArray) (hc : chkG g = 0) :
    ∃ ks : List Ev.Pair, ks.Nodup ∧ (∀ k, k ∈ ks ↔ Rc (stp kind g.edges) k.p k.q) ∧ ks.length ≤ 1600 ∧ reach_Set n (g, kind, ()) = some (tr ks, ()) := by
  have hE := ends_of hc kind
  have hN := ids_len hc
  obtain ⟨h40, h60, _, _⟩ := chkG_0 hc
  have key : ∀ (r p : List Ev.Node) (ks : List Ev.Pair) (fuel : Nat), g.nodes = p ++ r → r.length < fuel → ks.Nodup → (∀ k, k ∈ ks ↔ k.p ∈ p.map Ev.Node.id ∧ Rc (stp kind g.edges) k.p k.q) →
      ∃ ks' : List Ev.Pair, ks'.Nodup ∧ (∀ k, k ∈ ks' ↔ Rc (stp kind g.edges) k.p k.q) ∧
        iterN (fun rc27 => reach_Set_s0 n rc27 (fun (o26, _) => some (o26, ())) (fun (_) => none)) fuel (nextL kind g.edges, g.nodes, (g.nodes.length : Int), (p.length : Int), tr ks, ()) = some (tr ks', ()) := by
    intro r
    induction r with
    | nil =>
      intro p ks fuel hp hf hnd hk
      obtain ⟨f, rfl⟩ : ∃ f, fuel = f + 1 := ⟨fuel - 1, by omega⟩
      refine ⟨ks, hnd, fun k => ⟨fun h => ((hk k).1 h).2, fun h => (hk k).2 ⟨?_, h⟩⟩, ?_⟩
      · have := hE.p h
        unfold idsN at this
        rwa [hp, List.append_nil] at this
      · rw [iterN]
        unfold reach_Set_s0
        dsimp only
        rw [show decide ((p.length : Int) < (g.nodes.length : Int)) = false by rw [hp]; simp, cond_false]
    | cons x r ih =>
      intro p ks fuel hp hf hnd hk
      obtain ⟨f, rfl⟩ : ∃ f, fuel = f + 1 := ⟨fuel - 1, by omega⟩
      have hll : g.nodes.length = p.length + (r.length + 1) := by rw [hp]; simp
      have hnl := Nat.le_trans (nextL_len kind x.id g.edges) h60
      rw [iterN]
      unfold reach_Set_s0
      dsimp only
      rw [show decide ((p.length : Int) < (g.nodes.length : Int)) = true by rw [decide_eq_true_iff]; omega, cond_true, ix_ok (x := x) (by rw [hp]; simp), Option.bind_some, set_clone _ (by omega), Option.bind_some]
      dsimp only
      rw [Node.eta]
      have hs : ∀ k ∈ ks, Rc (stp kind g.edges) k.p k.q := fun k h => ((hk k).1 h).2
      have hle := prod_le hnd (fun k h => ⟨hE.p (hs k h), hE.q (hs k h)⟩) hN
      obtain ⟨ks1, n1, m1, e1⟩ := set_s2 n g kind hE hN h60 (fun (v20, v21, v22, v23, o24, _) => iterN (fun rc27 => reach_Set_s0 n rc27 (fun (o26, _) => some (o26, ())) (fun (_) => none)) f (v20, v21, v22, IntKind.wrap .i64 (v23 + 1), o24, ())) g.nodes (g.nodes.length : Int) (p.length : Int) x ks n ks
        (mpGet .i64 (.lst .i64) [] (nextL kind g.edges) x.id) hnd hs (fun k h => .inl h) (fun k h => h) (fun t h => .one ((next_mem kind g.edges x.id t).1 h)) (fun t h => .inl ((next_mem kind g.edges x.id t).2 h))
        (fun t h u hu => .inr ((hk _).2 ⟨((hk _).1 h).1, ((hk _).1 h).2.trans (.one hu)⟩)) (by omega) (by omega)
      obtain ⟨ks2, n2, m2, e2⟩ := ih (p ++ [x]) ks1 f (by simp [hp]) (by simp at hf; omega) n1 fun k => by
        rw [m1, hk]
        simp only [List.map_append, List.map_cons, List.map_nil, List.mem_append, List.mem_singleton]
        constructor
        · rintro (⟨h1, h2⟩ | ⟨h1, h2⟩)
          · exact ⟨.inl h1, h2⟩
          · exact ⟨.inr h1, by rw [h1]; exact h2⟩
        · rintro ⟨h1 | h1, h2⟩
          · exact .inl ⟨h1, h2⟩
          · exact .inr ⟨h1, by rw [← h1]; exact h2⟩
      refine ⟨ks2, n2, m2, e1.trans ?_⟩
      dsimp only
      rw [wrap64 (by omega) (by omega), show (p.length : Int) + 1 = ((p ++ [x]).length : Int) by simp]
      exact e2
  obtain ⟨ks, k1, k2, k3⟩ := key g.nodes [] [] n rfl (by omega) (by simp) (by simp)
  refine ⟨ks, k1, k2, prod_le k1 (fun k h => ⟨hE.p ((k2 k).1 h), hE.q ((k2 k).1 h)⟩) hN, ?_⟩
  unfold reach_Set nextN
  dsimp only
  rw [Nat.ble_eq_true_of_le (by show g.edges.length ≤ 1000000; omega), cond_true, Option.bind_some]
  exact k3
end Pure

/- Plain: the document's Reached. No program. -/
namespace Pure
open Esp Ev Go
set_option linter.unusedSimpArgs false
set_option linter.unusedVariables false
set_option linter.unusedSimpArgs false
set_option linter.unusedVariables false
abbrev sound (R : Int → Int → Prop) (ks : List Ev.Pair) : Prop := ks.Nodup ∧ ∀ k ∈ ks, Rc R k.p k.q
theorem reached_s0 (n : Nat) (g : Graph) (kind : ByteArray) {ρ : Type} (K : ByteArray × (Graph × Unit) × (List (Ev.Pair × Bool)) × Unit → Option ρ) :
    ∀ (r : List Edg) (i : Int) (ks : List Ev.Pair), (∀ x ∈ r, x ∈ g.edges) → sound (stp kind g.edges) ks →
      ∃ ks', sound (stp kind g.edges) ks' ∧ (∀ k ∈ ks, k ∈ ks') ∧ (∀ x ∈ r, kd kind x = true → Ev.Pair.mk x.src x.dst ∈ ks') ∧ foldK (F_q10z_s0 n (fun (_) => none)) K i r (kind, (g, ()), tr ks, ()) = K (kind, (g, ()), tr ks', ()) := by
  intro r
  induction r with
  | nil => intro i ks _ hs; exact ⟨ks, hs, fun _ h => h, fun x hx => (by cases hx), rfl⟩
  | cons x r ih =>
    intro i ks hr hs
    rw [foldK]
    unfold F_q10z_s0
    dsimp only
    rw [Graph.eta]
    cases hk : (seq kind ⟨#[]⟩ || seq x.type kind) with
    | false =>
      rw [cond_false]
      obtain ⟨ks', h1, h2, h3, h4⟩ := ih (i + 1) ks (fun y hy => hr y (by simp [hy])) hs
      refine ⟨ks', h1, h2, fun y hy hky => ?_, h4⟩
      rcases List.mem_cons.1 hy with rfl | hy
      · have : kd kind y = false := hk
        rw [this] at hky; cases hky
      · exact h3 y hy hky
    | true =>
      rw [cond_true, put_tr]
      have hx : Rc (stp kind g.edges) x.src x.dst := .one ⟨x, hr x (by simp), hk, rfl, rfl⟩
      obtain ⟨ks', h1, h2, h3, h4⟩ := ih (i + 1) (ins ks ⟨x.src, x.dst⟩) (fun y hy => hr y (by simp [hy])) ⟨ins_nodup hs.1 _, fun k hk => by
        rcases mem_ins.1 hk with h | rfl
        · exact hs.2 k h
        · exact hx⟩
      refine ⟨ks', h1, fun k hk => h2 k (mem_ins.2 (.inl hk)), fun y hy hky => ?_, h4⟩
      rcases List.mem_cons.1 hy with rfl | hy
      · exact h2 _ (mem_ins.2 (.inr rfl))
      · exact h3 y hy hky
theorem reached_s6 (n : Nat) (g : Graph) (R : Int → Int → Prop) (va sr : Ev.Node) (hsv : Rc R sr.id va.id) {ρ : Type} (v28 : List Ev.Node) (v29 v30 : Int) (v31 : List Ev.Node) (v32 v33 : Int)
    (K : (List Ev.Node) × Int × Int × (List Ev.Node) × Int × Int × (Ev.Graph × Unit) × (Ev.Node × Unit) × (Ev.Node × Unit) × (List (Ev.Pair × Bool)) × Unit → Option ρ) :
    ∀ (r : List Ev.Node) (i : Int) (ks : List Ev.Pair), sound R ks →
      ∃ ks', sound R ks' ∧ (∀ k ∈ ks, k ∈ ks') ∧ (∀ x ∈ r, Ev.Pair.mk va.id x.id ∈ ks → Ev.Pair.mk sr.id x.id ∈ ks') ∧
        foldK (F_q10z_s6 n (fun (_) => none)) K i r (v28, v29, v30, v31, v32, v33, (g, ()), (va, ()), (sr, ()), tr ks, ()) = K (v28, v29, v30, v31, v32, v33, (g, ()), (va, ()), (sr, ()), tr ks', ()) := by
  intro r
  induction r with
  | nil => intro i ks hs; exact ⟨ks, hs, fun _ h => h, fun x hx => (by cases hx), rfl⟩
  | cons x r ih =>
    intro i ks hs
    rw [foldK]
    unfold F_q10z_s6
    dsimp only
    rw [Graph.eta, Node.eta, Node.eta, get_tr]
    by_cases hk : Ev.Pair.mk va.id x.id ∈ ks
    · rw [decide_eq_true hk, cond_true, put_tr]
      obtain ⟨ks', h1, h2, h3, h4⟩ := ih (i + 1) (ins ks ⟨sr.id, x.id⟩) ⟨ins_nodup hs.1 _, fun k hkk => by
        rcases mem_ins.1 hkk with h | rfl
        · exact hs.2 k h
        · exact hsv.trans (hs.2 _ hk)⟩
      refine ⟨ks', h1, fun k hk => h2 k (mem_ins.2 (.inl hk)), fun y hy hky => ?_, h4⟩
      rcases List.mem_cons.1 hy with rfl | hy
      · exact h2 _ (mem_ins.2 (.inr rfl))
      · exact h3 y hy (mem_ins.2 (.inl hky))
    · rw [decide_eq_false hk, cond_false]
      obtain ⟨ks', h1, h2, h3, h4⟩ := ih (i + 1) ks hs
      refine ⟨ks', h1, h2, fun y hy hky => ?_, h4⟩
      rcases List.mem_cons.1 hy with rfl | hy
      · exact absurd hky hk
      · exact h3 y hy hky
theorem reached_s4 (n : Nat) (hn : 100 ≤ n) (g : Graph) (h40 : g.nodes.length ≤ 40) (R : Int → Int → Prop) (va : Ev.Node) {ρ : Type} (v18 : List Ev.Node) (v19 v20 : Int)
    (K : (List Ev.Node) × Int × Int × (Ev.Graph × Unit) × (List (Ev.Pair × Bool)) × Unit → Option ρ) :
    ∀ (r p : List Ev.Node) (fuel : Nat) (ks : List Ev.Pair), g.nodes = p ++ r → r.length < fuel → sound R ks →
      ∃ ks', sound R ks' ∧ (∀ k ∈ ks, k ∈ ks') ∧ (∀ s ∈ r, Ev.Pair.mk s.id va.id ∈ ks → ∀ x ∈ g.nodes, Ev.Pair.mk va.id x.id ∈ ks → Ev.Pair.mk s.id x.id ∈ ks') ∧
        iterN (fun rc57 => q10z_s4 n rc57 K (fun (_) => none)) fuel (v18, v19, v20, g.nodes, (g.nodes.length : Int), (p.length : Int), (g, ()), (va, ()), tr ks, ()) = K (v18, v19, v20, (g, ()), tr ks', ()) := by
  intro r
  induction r with
  | nil =>
    intro p fuel ks hp hf hs
    obtain ⟨f, rfl⟩ : ∃ f, fuel = f + 1 := ⟨fuel - 1, by omega⟩
    refine ⟨ks, hs, fun _ h => h, fun x hx => (by cases hx), ?_⟩
    rw [iterN]
    unfold q10z_s4
    dsimp only
    rw [show decide ((p.length : Int) < (g.nodes.length : Int)) = false by rw [hp]; simp, cond_false]
  | cons x r ih =>
    intro p fuel ks hp hf hs
    obtain ⟨f, rfl⟩ : ∃ f, fuel = f + 1 := ⟨fuel - 1, by omega⟩
    have hll : g.nodes.length = p.length + (r.length + 1) := by rw [hp]; simp
    have e3 : IntKind.wrap .i64 ((p.length : Int) + 1) = ((p ++ [x]).length : Int) := by rw [wrap64 (by omega) (by omega)]; simp
    rw [iterN]
    unfold q10z_s4
    dsimp only
    rw [show decide ((p.length : Int) < (g.nodes.length : Int)) = true by rw [decide_eq_true_iff]; omega, cond_true, ix_ok (x := x) (by rw [hp]; simp), Option.bind_some, get_tr, Graph.eta, Node.eta, Node.eta]
    by_cases hk : Ev.Pair.mk x.id va.id ∈ ks
    · rw [decide_eq_true hk, Bool.not_true, cond_false, R_q10z_s6 n _ _ g.nodes n _ _ _ _ _ _ _ _ _ _ (by omega) (by omega)]
      obtain ⟨ks1, a1, a2, a3, a4⟩ := reached_s6 n g R va x (hs.2 _ hk) v18 v19 v20 g.nodes (g.nodes.length : Int) (p.length : Int)
        (fun (v28, v29, v30, v31, v32, v33, o37, o38, o39, o40, _) => (fun (v42, v43, v44, v45, v46, v47, o48, o49, o50, _) => iterN (fun rc57 => q10z_s4 n rc57 K (fun (_) => none)) f (v42, v43, v44, v45, v46, IntKind.wrap .i64 (v47 + 1), ((Ev.Graph.mk o48.1.nodes o48.1.edges o48.1.next), ()), ((Ev.Node.mk o49.1.id o49.1.labels o49.1.props), ()), o50, ())) (v28, v29, v30, v31, v32, v33, ((Ev.Graph.mk o37.1.nodes o37.1.edges o37.1.next), ()), ((Ev.Node.mk o38.1.id o38.1.labels o38.1.props), ()), o40, ())) g.nodes 0 ks hs
      obtain ⟨ks', h1, h2, h3, h4⟩ := ih (p ++ [x]) f ks1 (by simp [hp]) (by simp at hf; omega) a1
      refine ⟨ks', h1, fun k hk => h2 k (a2 k hk), fun s hsr hsv d hd hvd => ?_, a4.trans ?_⟩
      · rcases List.mem_cons.1 hsr with rfl | hsr
        · exact h2 _ (a3 d hd hvd)
        · exact h3 s hsr (a2 _ hsv) d hd (a2 _ hvd)
      · dsimp only
        rw [e3]
        exact h4
    · rw [decide_eq_false hk, Bool.not_false, cond_true, e3]
      obtain ⟨ks', h1, h2, h3, h4⟩ := ih (p ++ [x]) f ks (by simp [hp]) (by simp at hf; omega) hs
      refine ⟨ks', h1, h2, fun s hsr hsv d hd hvd => ?_, h4⟩
      rcases List.mem_cons.1 hsr with rfl | hsr
      · exact absurd hsv hk
      · exact h3 s hsr hsv d hd hvd
theorem reached_s2 (n : Nat) (hn : 100 ≤ n) (g : Graph) (h40 : g.nodes.length ≤ 40) (R : Int → Int → Prop) (hE : Ends R (idsN g)) :
    ∀ (r p : List Ev.Node) (fuel : Nat) (ks : List Ev.Pair), g.nodes = p ++ r → r.length < fuel → sound R ks → (∀ a b, W R (fun x => x ∈ p.map Ev.Node.id) a b → Ev.Pair.mk a b ∈ ks) →
      ∃ ks', sound R ks' ∧ (∀ a b, W R (fun x => x ∈ idsN g) a b → Ev.Pair.mk a b ∈ ks') ∧
        iterN (fun rc59 => q10z_s2 n rc59 (fun (o58, _) => some (o58, ())) (fun (_) => none)) fuel (g.nodes, (g.nodes.length : Int), (p.length : Int), (g, ()), tr ks, ()) = some (tr ks', ()) := by
  intro r
  induction r with
  | nil =>
    intro p fuel ks hp hf hs hw
    obtain ⟨f, rfl⟩ : ∃ f, fuel = f + 1 := ⟨fuel - 1, by omega⟩
    refine ⟨ks, hs, fun a b w => hw a b ?_, ?_⟩
    · unfold idsN at w
      rwa [hp, List.append_nil] at w
    · rw [iterN]
      unfold q10z_s2
      dsimp only
      rw [show decide ((p.length : Int) < (g.nodes.length : Int)) = false by rw [hp]; simp, cond_false]
  | cons x r ih =>
    intro p fuel ks hp hf hs hw
    obtain ⟨f, rfl⟩ : ∃ f, fuel = f + 1 := ⟨fuel - 1, by omega⟩
    have hll : g.nodes.length = p.length + (r.length + 1) := by rw [hp]; simp
    have e3 : IntKind.wrap .i64 ((p.length : Int) + 1) = ((p ++ [x]).length : Int) := by rw [wrap64 (by omega) (by omega)]; simp
    rw [iterN]
    unfold q10z_s2
    dsimp only
    rw [show decide ((p.length : Int) < (g.nodes.length : Int)) = true by rw [decide_eq_true_iff]; omega, cond_true, ix_ok (x := x) (by rw [hp]; simp), Option.bind_some, Graph.eta, Node.eta]
    obtain ⟨ks1, a1, a2, a3, a4⟩ := reached_s4 n hn g h40 R x g.nodes (g.nodes.length : Int) (p.length : Int)
      (fun (v52, v53, v54, o55, o56, _) => iterN (fun rc59 => q10z_s2 n rc59 (fun (o58, _) => some (o58, ())) (fun (_) => none)) f (v52, v53, IntKind.wrap .i64 (v54 + 1), ((Ev.Graph.mk o55.1.nodes o55.1.edges o55.1.next), ()), o56, ())) g.nodes [] n ks rfl (by omega) hs
    obtain ⟨ks', h1, h2, h3⟩ := ih (p ++ [x]) f ks1 (by simp [hp]) (by simp at hf; omega) a1 fun a b w => by
      have w1 : W R (fun y => y ∈ p.map Ev.Node.id ∨ y = x.id) a b := w.mono fun y hy => by
        simp only [List.map_append, List.map_cons, List.map_nil, List.mem_append, List.mem_singleton] at hy
        exact hy
      rcases w1.more with w1 | ⟨w1, w2⟩
      · exact a2 _ (hw a b w1)
      · have hka := hw _ _ w1
        have hkb := hw _ _ w2
        have ha : a ∈ idsN g := hE.p (w1.mono fun _ _ => trivial)
        have hb : b ∈ idsN g := hE.q (w2.mono fun _ _ => trivial)
        obtain ⟨s, hs1, rfl⟩ := List.mem_map.1 ha
        obtain ⟨d, hd1, rfl⟩ := List.mem_map.1 hb
        exact a3 s hs1 hka d hd1 hkb
    refine ⟨ks', h1, h2, a4.trans ?_⟩
    dsimp only
    rw [Graph.eta, e3]
    exact h3
theorem reached_ok (n : Nat) (hn : 100 ≤ n) (g : Graph) (kind : ByteArray) (hc : chkG g = 0) :
    ∃ ks : List Ev.Pair, ks.Nodup ∧ (∀ k, k ∈ ks ↔ Rc (stp kind g.edges) k.p k.q) ∧ ks.length ≤ 1600 ∧ q10z n (g, kind, ()) = some (tr ks, ()) := by
  have hE := ends_of hc kind
  have hN := ids_len hc
  obtain ⟨h40, h60, _, _⟩ := chkG_0 hc
  obtain ⟨ks1, a1, a2, a3, a4⟩ := reached_s0 n g kind (fun (v3, o7, o8, _) => (fun (o10, o11, _) =>
  iterN (fun rc59 => q10z_s2 n rc59 (fun (o58, _) => some (o58, ())) (fun (_) => none)) (n) (o10.1.nodes, (o10.1.nodes.length : Int), 0, ((Ev.Graph.mk o10.1.nodes o10.1.edges o10.1.next), ()), o11, ())) (((Ev.Graph.mk o7.1.nodes o7.1.edges o7.1.next), ()), o8, ())) g.edges 0 [] (fun x h => h) ⟨List.nodup_nil, fun x hx => by cases hx⟩
  obtain ⟨ks2, b1, b2, b3⟩ := reached_s2 n hn g h40 (stp kind g.edges) hE g.nodes [] n ks1 rfl (by omega) a1 fun a b w => by
    have : ∀ {a b : Int}, W (stp kind g.edges) (fun x => x ∈ ([] : List Ev.Node).map Ev.Node.id) a b → stp kind g.edges a b := by
      intro a b w
      cases w with
      | one h => exact h
      | two _ hc _ => cases hc
    obtain ⟨x, hx, hk, rfl, rfl⟩ := this w
    exact a3 x hx hk
  have hm : ∀ k, k ∈ ks2 ↔ Rc (stp kind g.edges) k.p k.q := fun k => ⟨b1.2 k, fun h => b2 k.p k.q (by
    have : ∀ {a b : Int}, Rc (stp kind g.edges) a b → W (stp kind g.edges) (fun x => x ∈ idsN g) a b := by
      intro a b w
      unfold Rc at w
      induction w with
      | one h => exact .one h
      | two w1 _ w2 i j => exact .two i (hE.q w1) j
    exact this h)⟩
  refine ⟨ks2, b1.1, hm, prod_le b1.1 (fun k h => ⟨hE.p (b1.2 k h), hE.q (b1.2 k h)⟩) hN, ?_⟩
  unfold q10z
  dsimp only
  rw [Graph.eta]
  refine (R_q10z_s0 n _ _ g.edges n kind (g, ()) [] (by omega) (by omega)).trans ?_
  exact a4.trans b3
end Pure

/- Plain: All; the pairs are the document's. No program. -/
namespace Pure
open Esp Ev Go
set_option linter.unusedSimpArgs false
set_option linter.unusedVariables false
set_option linter.unusedSimpArgs false
set_option linter.unusedVariables false
theorem all_ok (n : Nat) (hn : 100100 ≤ n) (g : Graph) (kind : ByteArray) (hc : chkG g = 0) :
    ∃ ks : List Ev.Pair, ks.Nodup ∧ (∀ k, k ∈ ks ↔ Rc (stp kind g.edges) k.p k.q) ∧ ks.length ≤ 1600 ∧ reach_All n (g, kind, ()) = some (sortL ltP ks, 0, ()) := by
  obtain ⟨ks, h1, h2, h3, h4⟩ := set_ok n hn g kind hc
  refine ⟨ks, h1, h2, h3, ?_⟩
  unfold reach_All
  dsimp only
  rw [Graph.eta, gcheck_ok g n (by omega), hc, Option.bind_some]
  dsimp only
  rw [show ((0 : Int) != 0) = false from rfl, cond_false, h4, Option.bind_some]
  dsimp only
  rw [sorted_ok n ks (by omega) (by omega), Option.bind_some]
  dsimp only
  rw [plain_ok n _ (by rw [sortL_length]; omega) (by rw [sortL_length]; omega)]
  rfl
theorem all_err (n : Nat) (hn : 100 ≤ n) (g : Graph) (kind : ByteArray) (hc : (chkG g != 0) = true) : reach_All n (g, kind, ()) = some ([], chkG g, ()) := by
  unfold reach_All
  dsimp only
  rw [Graph.eta, gcheck_ok g n (by omega), Option.bind_some]
  dsimp only
  rw [hc]
  rfl
def line3G : Graph := .mk [.mk 1 [] [], .mk 2 [] [], .mk 3 [⟨#[65]⟩] []] [.mk 4 1 2 ⟨#[75]⟩ [], .mk 5 2 3 ⟨#[75]⟩ []] 6
theorem line3_ok : q13z () = some (line3G, ()) := rfl
theorem line3_chk : chkG line3G = 0 := by kernel_rfl
def p123 : List Ev.Pair := [.mk 1 2, .mk 1 3, .mk 2 3]
theorem line3_mem (k : Ev.Pair) : Rc (stp ⟨#[75]⟩ line3G.edges) k.p k.q ↔ k ∈ p123 := by
  have e : ∀ {a b : Int}, stp ⟨#[75]⟩ line3G.edges a b ↔ (a = 1 ∧ b = 2) ∨ (a = 2 ∧ b = 3) := by
    intro a b
    unfold stp
    constructor
    · rintro ⟨x, hx, _, rfl, rfl⟩
      simp only [line3G, List.mem_cons, List.not_mem_nil, or_false] at hx
      rcases hx with rfl | rfl <;> simp
    · rintro (⟨rfl, rfl⟩ | ⟨rfl, rfl⟩)
      · exact ⟨.mk 4 1 2 ⟨#[75]⟩ [], by simp [line3G], by kernel_rfl, rfl, rfl⟩
      · exact ⟨.mk 5 2 3 ⟨#[75]⟩ [], by simp [line3G], by kernel_rfl, rfl, rfl⟩
  obtain ⟨p, q⟩ := k
  have hm : Ev.Pair.mk p q ∈ p123 ↔ (p = 1 ∧ q = 2) ∨ (p = 1 ∧ q = 3) ∨ (p = 2 ∧ q = 3) := by simp [p123]
  rw [hm]
  constructor
  · intro w
    have : ∀ {a b : Int}, W (stp ⟨#[75]⟩ line3G.edges) (fun _ => True) a b → (a = 1 ∧ b = 2) ∨ (a = 1 ∧ b = 3) ∨ (a = 2 ∧ b = 3) := by
      intro a b w
      induction w with
      | one h => have := e.1 h; omega
      | two _ _ _ i j => omega
    exact this w
  · rintro (⟨rfl, rfl⟩ | ⟨rfl, rfl⟩ | ⟨rfl, rfl⟩)
    · exact .one (e.2 (by simp))
    · exact Rc.trans (c := 2) (.one (e.2 (.inl ⟨rfl, rfl⟩))) (.one (e.2 (.inr ⟨rfl, rfl⟩)))
    · exact .one (e.2 (by simp))
theorem path_at (m : Nat) : q28z (m + 100) (line3G, ⟨#[]⟩, 1, 3, ()) = some ([4, 5], 0, ()) := by kernel_rfl
theorem reachedF (n : Nat) (hn : 100100 ≤ n) : q9z n () = some (true, ()) := by
  obtain ⟨ks, h1, h2, h3, h4⟩ := all_ok n hn line3G ⟨#[75]⟩ line3_chk
  have hs : sortL ltP ks = p123 := sortL_of ltP_ok (perm_of h1 (by simp [p123]) fun k => by rw [h2, line3_mem]) (by simp [p123, ltP])
  rw [hs] at h4
  have hp : q28z n (line3G, ⟨#[]⟩, 1, 3, ()) = some ([4, 5], 0, ()) := by
    obtain ⟨m, rfl⟩ : ∃ m, n = m + 100 := ⟨n - 100, by omega⟩
    exact path_at m
  have he : q8z n ([4, 5], [4, 5], ()) = some (true, ()) := by
    obtain ⟨m, rfl⟩ : ∃ m, n = m + 100 := ⟨n - 100, by omega⟩
    kernel_rfl
  unfold q9z
  rw [line3_ok, Option.bind_some]
  dsimp only
  rw [Graph.eta, h4, Option.bind_some]
  dsimp only
  rw [Option.bind_some]
  dsimp only
  rw [Graph.eta, hp, Option.bind_some]
  dsimp only
  rw [show (((0 : Int) == 0) && ((0 : Int) == 0)) = true from rfl, cond_true, show ([.mk 1 2, .mk 1 3, .mk 2 3] : List Ev.Pair) = p123 from rfl, equalP_ok p123 n (by simp [p123]) (by simp [p123]; omega), Option.bind_some]
  dsimp only
  rw [cond_true, he]
  rfl
theorem ReachAll_ok (g : Graph) (kind : ByteArray) (n : Nat) (hn : 100100 ≤ n) : q7z n (g, kind, ()) = some (true, ()) := by
  unfold q7z
  dsimp only
  cases h1 : chkG g != 0 with
  | true =>
    rw [Graph.eta, all_err n (by omega) g kind h1, Option.bind_some]
    dsimp only
    rw [rgcheck_ok g n (by omega), Option.bind_some]
    dsimp only
    rw [reachedF n hn, Option.bind_some]
    dsimp only
    rw [h1, Bool.or_true, cond_true, Option.bind_some]
    dsimp only
    rw [beq_self_eq_true]
    rfl
  | false =>
    have hc : chkG g = 0 := by simpa using h1
    obtain ⟨ks, k1, k2, k3, k4⟩ := all_ok n hn g kind hc
    obtain ⟨ls, l1, l2, l3, l4⟩ := reached_ok n (by omega) g kind hc
    rw [Graph.eta, k4, Option.bind_some]
    dsimp only
    rw [rgcheck_ok g n (by omega), hc, Option.bind_some]
    dsimp only
    rw [reachedF n hn, Option.bind_some]
    dsimp only
    rw [show ((!true) || ((0 : Int) != 0)) = false from rfl, cond_false, show ((0 : Int) == 0) = true from rfl, cond_true, l4, Option.bind_some]
    dsimp only
    rw [pairs_ok n ls (by omega) (by omega), Option.bind_some]
    dsimp only
    rw [sortL_eq ltP_ok (perm_of l1 k1 fun k => by rw [l2, k2]), equalP_ok _ n (by rw [sortL_length]; omega) (by rw [sortL_length]; omega)]
    rfl
end Pure

/- Several texts in one (merge.py). -/
import Derived.Test.YtjecnkdkhniflaaDoorPNext
import Derived.Test.YtjecnkdkhniflaaDoorPRange
import Derived.Test.YtjecnkdkhniflaaDoorEvRng
import Derived.Test.YtjecnkdkhniflaaDoorEvRise2
import Derived.Test.YtjecnkdkhniflaaDoorPA
import Derived.KernelRfl

/- Plain: what is reached by steps; sets of pairs as maps to true. -/
namespace Pure
open Esp Ev Go
set_option linter.unusedSimpArgs false
set_option linter.unusedVariables false
set_option linter.unusedSimpArgs false
set_option linter.unusedVariables false
inductive W (R : Int → Int → Prop) (V : Int → Prop) : Int → Int → Prop
  | one {a b : Int} : R a b → W R V a b
  | two {a c b : Int} : W R V a c → V c → W R V c b → W R V a b
def Rc (R : Int → Int → Prop) : Int → Int → Prop := W R fun _ => True
theorem W.mono {R : Int → Int → Prop} {V U : Int → Prop} (h : ∀ x, V x → U x) {a b : Int} (w : W R V a b) : W R U a b := by
  induction w with
  | one h => exact .one h
  | two _ hc _ i j => exact .two i (h _ hc) j
theorem W.rel {R S : Int → Int → Prop} {V : Int → Prop} (h : ∀ a b, R a b → S a b) {a b : Int} (w : W R V a b) : W S V a b := by
  induction w with
  | one hh => exact .one (h _ _ hh)
  | two _ hc _ i j => exact .two i hc j
theorem Rc.one {R : Int → Int → Prop} {a b : Int} (h : R a b) : Rc R a b := W.one h
theorem Rc.trans {R : Int → Int → Prop} {a c b : Int} (h : Rc R a c) (h' : Rc R c b) : Rc R a b := W.two h trivial h'
theorem W.src {R : Int → Int → Prop} {V : Int → Prop} {a b : Int} (w : W R V a b) : ∃ c, R a c := by
  induction w with
  | one h => exact ⟨_, h⟩
  | two _ _ _ i _ => exact i
theorem W.dst {R : Int → Int → Prop} {V : Int → Prop} {a b : Int} (w : W R V a b) : ∃ c, R c b := by
  induction w with
  | one h => exact ⟨_, h⟩
  | two _ _ _ _ j => exact j
theorem W.more {R : Int → Int → Prop} {V : Int → Prop} {v a b : Int} (w : W R (fun x => V x ∨ x = v) a b) : W R V a b ∨ (W R V a v ∧ W R V v b) := by
  induction w with
  | one h => exact .inl (.one h)
  | two _ hc _ i j =>
    rcases hc with hc | rfl
    · rcases i with i | ⟨i1, i2⟩ <;> rcases j with j | ⟨j1, j2⟩
      · exact .inl (.two i hc j)
      · exact .inr ⟨.two i hc j1, j2⟩
      · exact .inr ⟨i1, .two i2 hc j⟩
      · exact .inr ⟨i1, j2⟩
    · exact .inr ⟨(by rcases i with i | ⟨i1, _⟩; exact i; exact i1), (by rcases j with j | ⟨_, j2⟩; exact j; exact j2)⟩
theorem Rc.close {R : Int → Int → Prop} {a b : Int} (S : Int → Prop) (h1 : ∀ t, R a t → S t) (h2 : ∀ t u, S t → R t u → S u) (w : Rc R a b) : S b := by
  have key : ∀ {c d : Int}, W R (fun _ => True) c d → (S c ∨ c = a) → S d := by
    intro c d w
    induction w with
    | one h => rintro (hs | rfl); exact h2 _ _ hs h; exact h1 _ h
    | two _ _ _ i j => intro hs; exact j (.inl (i hs))
  exact key w (.inr rfl)

/-! ## sets of pairs -/
instance : DecidableEq Ev.Pair := fun a b => decidable_of_iff (a.p = b.p ∧ a.q = b.q) (by cases a; cases b; simp)
theorem keyEq_pair (a b : Ev.Pair) : keyEq .pair a b = decide (a = b) := by
  show (a.p == b.p && a.q == b.q) = _
  cases a; cases b
  rw [Bool.eq_iff_iff]
  simp
def tr (ks : List Ev.Pair) : List (Ev.Pair × Bool) := ks.map fun k => (k, true)
def ins (ks : List Ev.Pair) (k : Ev.Pair) : List Ev.Pair := if k ∈ ks then ks else ks ++ [k]
theorem mem_ins {ks : List Ev.Pair} {k x : Ev.Pair} : x ∈ ins ks k ↔ x ∈ ks ∨ x = k := by
  unfold ins
  split
  · constructor
    · exact .inl
    · rintro (h | rfl); exact h; assumption
  · simp
theorem ins_nodup {ks : List Ev.Pair} (h : ks.Nodup) (k : Ev.Pair) : (ins ks k).Nodup := by
  unfold ins
  split
  · exact h
  · rename_i hk
    rw [List.nodup_append]
    refine ⟨h, by simp, fun a ha b hb => ?_⟩
    simp at hb
    subst hb
    intro e
    subst e
    exact hk ha
theorem get_tr (ks : List Ev.Pair) (k : Ev.Pair) : mpGet .pair .bool false (tr ks) k = decide (k ∈ ks) := by
  induction ks with
  | nil => rfl
  | cons a r ih =>
    show (bif keyEq .pair k a then true else mpGet .pair .bool false (tr r) k) = _
    rw [keyEq_pair, ih]
    by_cases h : k = a
    · simp [h]
    · simp [h]
theorem put_tr (ks : List Ev.Pair) (k : Ev.Pair) : mpPut .pair .bool (tr ks) k true = tr (ins ks k) := by
  induction ks with
  | nil => rfl
  | cons a r ih =>
    show (bif keyEq .pair k a then (k, true) :: tr r else (a, true) :: mpPut .pair .bool (tr r) k true) = _
    rw [keyEq_pair, ih]
    by_cases h : k = a
    · subst h; simp [ins, tr]
    · rw [decide_eq_false h, cond_false]
      unfold ins
      by_cases h2 : k ∈ r
      · simp [h2, tr]
      · simp [h2, h, tr]
theorem del_tr {ks : List Ev.Pair} (hn : ks.Nodup) (k : Ev.Pair) : mpDel .pair .bool (tr ks) k = tr (ks.filter fun x => decide (x ≠ k)) := by
  induction ks with
  | nil => rfl
  | cons a r ih =>
    show (bif keyEq .pair k a then tr r else (a, true) :: mpDel .pair .bool (tr r) k) = _
    rw [keyEq_pair, ih (List.nodup_cons.1 hn).2]
    by_cases h : k = a
    · subst h
      have : r.filter (fun x => decide (x ≠ k)) = r := by
        rw [List.filter_eq_self]
        intro x hx
        have : x ≠ k := fun e => (List.nodup_cons.1 hn).1 (e ▸ hx)
        simpa using this
      rw [decide_eq_true rfl, cond_true, List.filter_cons, if_neg (by simp), this]
    · rw [decide_eq_false h, cond_false, List.filter_cons]
      have : a ≠ k := fun e => h e.symm
      simp [this, tr]
theorem tr_erase (ks : List Ev.Pair) (i : Nat) : (tr ks).eraseIdx i = tr (ks.eraseIdx i) := by
  induction ks generalizing i with
  | nil => rfl
  | cons a r ih =>
    cases i with
    | zero => rfl
    | succ i => show (a, true) :: (tr r).eraseIdx i = _; rw [ih]; rfl
theorem tr_get (ks : List Ev.Pair) (i : Nat) (h : i < (tr ks).length) : (tr ks)[i] = (ks[i]'(by simpa [tr] using h), true) := by simp [tr]
theorem perm_of {l m : List Ev.Pair} (hl : l.Nodup) (hm : m.Nodup) (h : ∀ x, x ∈ l ↔ x ∈ m) : l.Perm m := by
  induction l generalizing m with
  | nil =>
    cases m with
    | nil => exact .refl _
    | cons a r => exact absurd ((h a).2 (by simp)) (by simp)
  | cons a r ih =>
    have ha : a ∈ m := (h a).1 (by simp)
    refine .trans (.cons a (ih (m := m.erase a) (List.nodup_cons.1 hl).2 (hm.erase a) fun x => ?_)) (List.perm_cons_erase ha).symm
    rw [hm.mem_erase_iff, ← h]
    constructor
    · intro hx
      exact ⟨fun e => (List.nodup_cons.1 hl).1 (e ▸ hx), by simp [hx]⟩
    · rintro ⟨h1, h2⟩
      rcases List.mem_cons.1 h2 with e | h2
      · exact absurd e h1
      · exact h2
theorem len_of {l m : List Ev.Pair} (hl : l.Nodup) (h : ∀ x ∈ l, x ∈ m) : l.length ≤ m.length := by
  induction l generalizing m with
  | nil => simp
  | cons a r ih =>
    have ha : a ∈ m := h a (by simp)
    have h1 := ih (m := m.erase a) (List.nodup_cons.1 hl).2 fun x hx => (List.mem_erase_of_ne fun e : x = a => (List.nodup_cons.1 hl).1 (e ▸ hx)).2 (h x (by simp [hx]))
    rw [List.length_erase_of_mem ha] at h1
    have : 0 < m.length := List.length_pos_of_mem ha
    simp; omega
def prod (ns : List Int) : List Ev.Pair := ns.flatMap fun a => ns.map fun b => Ev.Pair.mk a b
theorem mem_prod {ns : List Int} {x : Ev.Pair} : x ∈ prod ns ↔ x.p ∈ ns ∧ x.q ∈ ns := by
  unfold prod
  simp only [List.mem_flatMap, List.mem_map]
  constructor
  · rintro ⟨a, ha, b, hb, rfl⟩; exact ⟨ha, hb⟩
  · rintro ⟨h1, h2⟩; exact ⟨x.p, h1, x.q, h2, rfl⟩
theorem prod_length (ns : List Int) : (prod ns).length = ns.length * ns.length := by
  unfold prod
  have : ∀ (ms : List Int), (ms.flatMap fun a => ns.map fun b => Ev.Pair.mk a b).length = ms.length * ns.length := by
    intro ms
    induction ms with
    | nil => simp
    | cons a r ih => simp only [List.flatMap_cons, List.length_append, ih, List.length_map, List.length_cons, Nat.succ_mul]; omega
  exact this ns
theorem prod_le {ks : List Ev.Pair} {ns : List Int} (hn : ks.Nodup) (h : ∀ x ∈ ks, x.p ∈ ns ∧ x.q ∈ ns) (h40 : ns.length ≤ 40) : ks.length ≤ 1600 := by
  have h1 := len_of hn (m := prod ns) fun x hx => mem_prod.2 (h x hx)
  rw [prod_length] at h1
  have := Nat.mul_le_mul h40 h40
  omega

/-! ## steps in a graph -/
def kd (kind : ByteArray) (x : Ev.Edg) : Bool := seq kind ⟨#[]⟩ || seq x.type kind
def stp (kind : ByteArray) (l : List Ev.Edg) (a b : Int) : Prop := ∃ x ∈ l, kd kind x = true ∧ x.src = a ∧ x.dst = b
theorem next_mem (kind : ByteArray) (l : List Ev.Edg) (s t : Int) : t ∈ mpGet .i64 (.lst .i64) [] (nextL kind l) s ↔ stp kind l s t := by
  have h : ∀ (l : List Ev.Edg) (m : List (Int × List Int)), t ∈ mpGet .i64 (.lst .i64) [] (l.foldl (nextStep kind) m) s ↔ t ∈ mpGet .i64 (.lst .i64) [] m s ∨ stp kind l s t := by
    intro l
    induction l with
    | nil => intro m; simp [stp]
    | cons x r ih =>
      intro m
      rw [List.foldl_cons, ih]
      have e : stp kind (x :: r) s t ↔ (kd kind x = true ∧ x.src = s ∧ x.dst = t) ∨ stp kind r s t := by
        unfold stp; simp
      rw [e, ← or_assoc]
      refine or_congr ?_ Iff.rfl
      unfold nextStep
      cases hb : (seq kind ⟨#[]⟩ || seq x.type kind) with
      | false =>
        have : kd kind x = false := hb
        simp [this]
      | true =>
        have hk : kd kind x = true := hb
        rw [cond_true, mpGet_put]
        split
        · rename_i hs
          rw [← hs]
          simp [hk, eq_comm]
        · rename_i hs
          simp [hk, Ne.symm hs]
  have := h l []
  simpa [nextL, mpGet] using this

/-! ## the sorts -/
theorem room16 {n : Nat} (h : n ≤ 1000000) : room n 16 = true := by
  unfold room
  rw [Bool.and_eq_true]
  exact ⟨Nat.ble_eq_true_of_le (by omega), Nat.ble_eq_true_of_le (by omega)⟩
theorem room8 {n : Nat} (h : n ≤ 1000000) : room n 8 = true := by
  unfold room
  rw [Bool.and_eq_true]
  exact ⟨Nat.ble_eq_true_of_le (by omega), Nat.ble_eq_true_of_le (by omega)⟩
theorem sfPair_some (l : List Ev.Pair) (h : l.length ≤ 1000000) : sfPair (l, ()) = some (sortL ltP l, ()) := by
  unfold sfPair sfL
  dsimp only
  rw [Nat.ble_eq_true_of_le (by omega), cond_true]
theorem Pair.eta (x : Ev.Pair) : Ev.Pair.mk x.p x.q = x := rfl
theorem rng_tr {ρ : Type} (ks : List Ev.Pair) (k0 : Option ρ) (f : Ev.Pair × Bool → List (Ev.Pair × Bool) → Option ρ) (r : ρ) (h0 : ks = [] → k0 = some r) (h : ∀ i (hi : i < ks.length), f (ks[i], true) (tr (ks.eraseIdx i)) = some r) : rngM (tr ks) k0 f = some r := by
  refine rngM_some (fun e => h0 (by simpa [tr] using e)) fun i hi => ?_
  rw [tr_get, tr_erase]
  exact h i (by simpa [tr] using hi)
theorem erase_perm {α : Type} (l : List α) (i : Nat) (hi : i < l.length) : (l[i] :: l.eraseIdx i).Perm l := by
  induction l generalizing i with
  | nil => exact absurd hi (Nat.not_lt_zero _)
  | cons a r ih =>
    cases i with
    | zero => exact .refl _
    | succ i => exact (List.Perm.swap _ _ _).trans (.cons a (ih i (by simpa using hi)))
end Pure


/- Plain: reach.Set, sorted, plain, Pairs, slices.Equal. No program. -/
namespace Pure
open Esp Ev Go
set_option linter.unusedSimpArgs false
set_option linter.unusedVariables false
set_option linter.unusedSimpArgs false
set_option linter.unusedVariables false
theorem sorted_loop (n : Nat) : ∀ (fuel : Nat) (acc ks : List Ev.Pair), ks.length < fuel → acc.length + ks.length ≤ 1000000 →
    iterN (fun rc8 => q18z_s0 n rc8 (fun (o6, _) => (sfPair (o6, ())).bind fun (o7, _) => some (o7, ())) (fun (_) => none)) fuel (acc, tr ks, ()) = some (sortL ltP (acc ++ ks), ()) := by
  intro fuel
  induction fuel with
  | zero => intro acc ks h _; exact absurd h (Nat.not_lt_zero _)
  | succ f ih =>
    intro acc ks hf hl
    rw [iterN]
    unfold q18z_s0
    dsimp only
    refine rng_tr ks _ _ _ (fun e => ?_) fun i hi => ?_
    · subst e
      rw [sfPair_some acc (by omega), List.append_nil]
      rfl
    · dsimp only
      have hlen := (erase_perm ks i hi).length_eq
      rw [List.length_cons] at hlen
      rw [Pair.eta, ck_ok (room16 (by simp; omega))]
      refine (ih _ _ (by omega) (by simp; omega)).trans ?_
      rw [sortL_eq ltP_ok (l := (acc ++ [ks[i]]) ++ ks.eraseIdx i) (m := acc ++ ks) (by rw [List.append_assoc]; exact (erase_perm ks i hi).append_left acc)]
theorem sorted_ok (n : Nat) (ks : List Ev.Pair) (h : ks.length ≤ 1000000) (hn : ks.length < n) : q18z n (tr ks, ()) = some (sortL ltP ks, ()) :=
  sorted_loop n n [] ks hn (by simpa using h)
theorem plain_ok (n : Nat) (l : List Ev.Pair) (h : l.length ≤ 1000000) (hn : l.length < n) : q21z n (l, ()) = some (l, ()) := by
  unfold q21z
  dsimp only
  rw [R_q21z_s0 n _ _ l n [] (by omega) hn]
  have key : ∀ (r p : List Ev.Pair) (i : Int), p.length + r.length ≤ 1000000 → foldK (F_q21z_s0 n (fun (_) => none)) (fun (o5, _) => some (o5, ())) i r (p, ()) = some (p ++ r, ()) := by
    intro r
    induction r with
    | nil => intro p i _; simp [foldK]
    | cons x r ih =>
      intro p i hl
      rw [List.length_cons] at hl
      rw [foldK]
      unfold F_q21z_s0
      dsimp only
      rw [Pair.eta, ck_ok (room16 (by simp; omega))]
      refine (ih (p ++ [x]) (i + 1) (by simp; omega)).trans ?_
      simp
  exact key l [] 0 (by simpa using h)
theorem equalP_ok (l : List Ev.Pair) (n : Nat) (h : l.length ≤ 1000000) (hn : l.length < n) : q4z n (l, l, ()) = some (true, ()) := by
  unfold q4z
  dsimp only
  rw [show ((l.length : Int) != (l.length : Int)) = false from by simp, cond_false]
  rw [R_q4z_s0 n _ _ l n l (by omega) hn]
  have key : ∀ (r p : List Ev.Pair), l = p ++ r → foldK (F_q4z_s0 n (fun (v11, _) => some (v11, ()))) (fun (v4, _) => some (true, ())) (p.length : Int) r (l, ()) = some (true, ()) := by
    intro r
    induction r with
    | nil => intro p _; rfl
    | cons x r ih =>
      intro p hp
      have e1 : ((p.length : Int) + 1) = ((p ++ [x]).length : Int) := by simp
      have e2 : ix l (p.length : Int) = some x := ix_ok (by rw [hp]; simp)
      rw [foldK, e1]
      unfold F_q4z_s0
      dsimp only
      rw [e2, Option.bind_some, keyEq_pair, decide_eq_true rfl]
      exact ih (p ++ [x]) (by simp [hp])
  exact key l [] rfl
theorem pop_ix {α : Type} (p : List α) (e : α) (h : p.length ≤ 1000000) : ix (p ++ [e]) (IntKind.wrap .i64 (((p ++ [e]).length : Int) - 1)) = some e := by
  rw [wrap64 (by simp) (by simp; omega), show (((p ++ [e]).length : Int) - 1) = (p.length : Int) by simp]
  exact ix_ok (by simp)
theorem pop_get {α : Type} (p : List α) (e : α) (h : p.length ≤ 1000000) : (p ++ [e])[(IntKind.wrap .i64 (((p ++ [e]).length : Int) - 1) : Int).toNat]? = some e := by
  rw [wrap64 (by simp) (by simp; omega), show ((((p ++ [e]).length : Int) - 1)).toNat = p.length by simp]
  simp
theorem pop_cut {α : Type} (p : List α) (e : α) (h : p.length ≤ 1000000) : cut? (p ++ [e]) (IntKind.wrap .i64 (((p ++ [e]).length : Int) - 1)) = some p := by
  rw [wrap64 (by simp) (by simp; omega), show (((p ++ [e]).length : Int) - 1) = (p.length : Int) by simp]
  unfold cut?
  rw [if_pos (by simp; omega)]
  simp
/-! ## what is reached -/
def idsN (g : Graph) : List Int := g.nodes.map Ev.Node.id
structure Ends (R : Int → Int → Prop) (ns : List Int) : Prop where
  s : ∀ a b, R a b → a ∈ ns
  d : ∀ a b, R a b → b ∈ ns
theorem Ends.p {R : Int → Int → Prop} {ns : List Int} (h : Ends R ns) {a b : Int} (w : Rc R a b) : a ∈ ns := by
  obtain ⟨c, hc⟩ := W.src w; exact h.s _ _ hc
theorem Ends.q {R : Int → Int → Prop} {ns : List Int} (h : Ends R ns) {a b : Int} (w : Rc R a b) : b ∈ ns := by
  obtain ⟨c, hc⟩ := W.dst w; exact h.d _ _ hc
theorem node_in {l : List Ev.Node} {t : Int} (h : (nodeIn l t).isNone = false) : t ∈ l.map Ev.Node.id := by
  cases hx : nodeIn l t with
  | none => rw [hx] at h; cases h
  | some x =>
    have h1 := List.mem_of_find?_eq_some hx
    have h2 := List.find?_some hx
    exact List.mem_map.2 ⟨x, h1, by simpa using h2⟩
theorem ends_of {g : Graph} (hc : chkG g = 0) (kind : ByteArray) : Ends (stp kind g.edges) (idsN g) := by
  obtain ⟨_, _, _, h4⟩ := chkG_0 hc
  refine ⟨?_, ?_⟩
  · rintro a b ⟨x, hx, _, rfl, _⟩
    exact node_in (edgF_0 h4 x hx).2.2.1
  · rintro a b ⟨x, hx, _, _, rfl⟩
    exact node_in (edgF_0 h4 x hx).2.2.2
theorem ids_len {g : Graph} (hc : chkG g = 0) : (idsN g).length ≤ 40 := by
  obtain ⟨h, _⟩ := chkG_0 hc
  unfold idsN; simpa using h
theorem set_s2 (n : Nat) (g : Graph) (kind : ByteArray) (hE : Ends (stp kind g.edges) (idsN g)) (hN : (idsN g).length ≤ 40) (he : g.edges.length ≤ 60) {ρ : Type} (kx : (List (Int × (List Int))) × (List Ev.Node) × Int × Int × (List (Ev.Pair × Bool)) × Unit → Option ρ) (v12 : List Ev.Node) (v13 v14 : Int) (x : Ev.Node) (ks0 : List Ev.Pair) :
    ∀ (fuel : Nat) (ks : List Ev.Pair) (td : List Int), ks.Nodup → (∀ k ∈ ks, Rc (stp kind g.edges) k.p k.q) → (∀ k ∈ ks, k ∈ ks0 ∨ (k.p = x.id ∧ Rc (stp kind g.edges) x.id k.q)) → (∀ k ∈ ks0, k ∈ ks) →
      (∀ t ∈ td, Rc (stp kind g.edges) x.id t) → (∀ t, stp kind g.edges x.id t → t ∈ td ∨ Ev.Pair.mk x.id t ∈ ks) → (∀ t, Ev.Pair.mk x.id t ∈ ks → ∀ u, stp kind g.edges t u → u ∈ td ∨ Ev.Pair.mk x.id u ∈ ks) →
      td.length + 61 * (1600 - ks.length) < fuel → td.length + 61 * (1600 - ks.length) ≤ 100000 →
      ∃ ks' : List Ev.Pair, ks'.Nodup ∧ (∀ k, k ∈ ks' ↔ k ∈ ks0 ∨ (k.p = x.id ∧ Rc (stp kind g.edges) x.id k.q)) ∧
        iterN (fun rc25 => reach_Set_s2 n rc25 kx (fun (_) => none)) fuel (nextL kind g.edges, v12, v13, v14, (x, ()), tr ks, td, ()) = kx (nextL kind g.edges, v12, v13, v14, tr ks', ()) := by
  intro fuel
  induction fuel with
  | zero => intro ks td _ _ _ _ _ _ _ h _; exact absurd h (Nat.not_lt_zero _)
  | succ f ih =>
    intro ks td hnd hs h0 h00 htd hfi hcl hf hM
    rw [iterN]
    unfold reach_Set_s2
    dsimp only
    rcases List.eq_nil_or_concat td with rfl | ⟨p, e, rfl⟩
    · refine ⟨ks, hnd, fun k => ⟨h0 k, ?_⟩, rfl⟩
      rintro (h | ⟨h1, h2⟩)
      · exact h00 k h
      · have h3 : Ev.Pair.mk x.id k.q ∈ ks := Rc.close (fun t => Ev.Pair.mk x.id t ∈ ks) (fun t ht => (hfi t ht).resolve_left (by simp)) (fun t u ht hu => (hcl t ht u hu).resolve_left (by simp)) h2
        rw [← h1] at h3
        exact h3
    · rw [List.concat_eq_append] at *
      have hpl : p.length ≤ 1000000 := by simp at hM; omega
      rw [pop_ix p e hpl, pop_get p e hpl, pop_cut p e hpl, show decide (((p ++ [e]).length : Int) > 0) = true by rw [decide_eq_true_iff]; simp, cond_true, Option.bind_some, Option.bind_some, Option.bind_some, get_tr]
      have hre := htd e (by simp)
      by_cases hm : Ev.Pair.mk x.id e ∈ ks
      · rw [decide_eq_true hm]
        refine ih ks p hnd hs h0 h00 (fun t ht => htd t (by simp [ht])) (fun t ht => ?_) (fun t ht u hu => ?_) (by simp at hf; omega) (by simp at hM; omega)
        · rcases hfi t ht with h | h
          · simp at h
            rcases h with h | rfl
            · exact .inl h
            · exact .inr hm
          · exact .inr h
        · rcases hcl t ht u hu with h | h
          · simp at h
            rcases h with h | rfl
            · exact .inl h
            · exact .inr hm
          · exact .inr h
      · rw [decide_eq_false hm]
        have hnl := Nat.le_trans (nextL_len kind e g.edges) he
        have hs' : ∀ k ∈ ins ks ⟨x.id, e⟩, Rc (stp kind g.edges) k.p k.q := fun k hk => by
          rcases mem_ins.1 hk with h | rfl
          · exact hs k h
          · exact hre
        have hnd' := ins_nodup hnd ⟨x.id, e⟩
        have hle := prod_le hnd' (fun k hk => ⟨hE.p (hs' k hk), hE.q (hs' k hk)⟩) hN
        have hlen : (ins ks ⟨x.id, e⟩).length = ks.length + 1 := by unfold ins; rw [if_neg hm]; simp
        rw [Bool.not_false, cond_true, ck_ok (room8 (by simp at hM ⊢; omega)), put_tr]
        refine ih _ _ hnd' hs' (fun k hk => ?_) (fun k hk => mem_ins.2 (.inl (h00 k hk))) (fun t ht => ?_) (fun t ht => ?_) (fun t ht u hu => ?_) (by simp at hf ⊢; omega) (by simp at hM ⊢; omega)
        · rcases mem_ins.1 hk with h | rfl
          · exact h0 k h
          · exact .inr ⟨rfl, hre⟩
        · rcases List.mem_append.1 ht with h | h
          · exact htd t (by simp [h])
          · exact hre.trans (.one ((next_mem kind g.edges e t).1 h))
        · rcases hfi t ht with h | h
          · simp at h
            rcases h with h | rfl
            · exact .inl (by simp [h])
            · exact .inr (mem_ins.2 (.inr rfl))
          · exact .inr (mem_ins.2 (.inl h))
        · rcases mem_ins.1 ht with h | h
          · rcases hcl t h u hu with h | h
            · simp at h
              rcases h with h | rfl
              · exact .inl (by simp [h])
              · exact .inr (mem_ins.2 (.inr rfl))
            · exact .inr (mem_ins.2 (.inl h))
          · have : t = e := by injection h
            subst this
            exact .inl (List.mem_append.2 (.inr ((next_mem kind g.edges t u).2 hu)))
theorem set_clone (l : List Int) (h : l.length ≤ 1000) : q3z (l, ()) = some (l, ()) := by
  unfold q3z nilq
  dsimp only
  rw [List.nil_append, ck_ok (room_ok (by omega) (by omega))]
  cases l with
  | nil => exact dem2_same _
  | cons a r => rfl
theorem Node.eta (x : Ev.Node) : Ev.Node.mk x.id x.labels x.props = x := rfl
theorem set_ok (n : Nat) (hn : 100100 ≤ n) (g : Graph) (kind : ByteArray) (hc : chkG g = 0) :
    ∃ ks : List Ev.Pair, ks.Nodup ∧ (∀ k, k ∈ ks ↔ Rc (stp kind g.edges) k.p k.q) ∧ ks.length ≤ 1600 ∧ reach_Set n (g, kind, ()) = some (tr ks, ()) := by
  have hE := ends_of hc kind
  have hN := ids_len hc
  obtain ⟨h40, h60, _, _⟩ := chkG_0 hc
  have key : ∀ (r p : List Ev.Node) (ks : List Ev.Pair) (fuel : Nat), g.nodes = p ++ r → r.length < fuel → ks.Nodup → (∀ k, k ∈ ks ↔ k.p ∈ p.map Ev.Node.id ∧ Rc (stp kind g.edges) k.p k.q) →
      ∃ ks' : List Ev.Pair, ks'.Nodup ∧ (∀ k, k ∈ ks' ↔ Rc (stp kind g.edges) k.p k.q) ∧
        iterN (fun rc27 => reach_Set_s0 n rc27 (fun (o26, _) => some (o26, ())) (fun (_) => none)) fuel (nextL kind g.edges, g.nodes, (g.nodes.length : Int), (p.length : Int), tr ks, ()) = some (tr ks', ()) := by
    intro r
    induction r with
    | nil =>
      intro p ks fuel hp hf hnd hk
      obtain ⟨f, rfl⟩ : ∃ f, fuel = f + 1 := ⟨fuel - 1, by omega⟩
      refine ⟨ks, hnd, fun k => ⟨fun h => ((hk k).1 h).2, fun h => (hk k).2 ⟨?_, h⟩⟩, ?_⟩
      · have := hE.p h
        unfold idsN at this
        rwa [hp, List.append_nil] at this
      · rw [iterN]
        unfold reach_Set_s0
        dsimp only
        rw [show decide ((p.length : Int) < (g.nodes.length : Int)) = false by rw [hp]; simp, cond_false]
    | cons x r ih =>
      intro p ks fuel hp hf hnd hk
      obtain ⟨f, rfl⟩ : ∃ f, fuel = f + 1 := ⟨fuel - 1, by omega⟩
      have hll : g.nodes.length = p.length + (r.length + 1) := by rw [hp]; simp
      have hnl := Nat.le_trans (nextL_len kind x.id g.edges) h60
      rw [iterN]
      unfold reach_Set_s0
      dsimp only
      rw [show decide ((p.length : Int) < (g.nodes.length : Int)) = true by rw [decide_eq_true_iff]; omega, cond_true, ix_ok (x := x) (by rw [hp]; simp), Option.bind_some, set_clone _ (by omega), Option.bind_some]
      dsimp only
      rw [Node.eta]
      have hs : ∀ k ∈ ks, Rc (stp kind g.edges) k.p k.q := fun k h => ((hk k).1 h).2
      have hle := prod_le hnd (fun k h => ⟨hE.p (hs k h), hE.q (hs k h)⟩) hN
      obtain ⟨ks1, n1, m1, e1⟩ := set_s2 n g kind hE hN h60 (fun (v20, v21, v22, v23, o24, _) => iterN (fun rc27 => reach_Set_s0 n rc27 (fun (o26, _) => some (o26, ())) (fun (_) => none)) f (v20, v21, v22, IntKind.wrap .i64 (v23 + 1), o24, ())) g.nodes (g.nodes.length : Int) (p.length : Int) x ks n ks
        (mpGet .i64 (.lst .i64) [] (nextL kind g.edges) x.id) hnd hs (fun k h => .inl h) (fun k h => h) (fun t h => .one ((next_mem kind g.edges x.id t).1 h)) (fun t h => .inl ((next_mem kind g.edges x.id t).2 h))
        (fun t h u hu => .inr ((hk _).2 ⟨((hk _).1 h).1, ((hk _).1 h).2.trans (.one hu)⟩)) (by omega) (by omega)
      obtain ⟨ks2, n2, m2, e2⟩ := ih (p ++ [x]) ks1 f (by simp [hp]) (by simp at hf; omega) n1 fun k => by
        rw [m1, hk]
        simp only [List.map_append, List.map_cons, List.map_nil, List.mem_append, List.mem_singleton]
        constructor
        · rintro (⟨h1, h2⟩ | ⟨h1, h2⟩)
          · exact ⟨.inl h1, h2⟩
          · exact ⟨.inr h1, by rw [h1]; exact h2⟩
        · rintro ⟨h1 | h1, h2⟩
          · exact .inl ⟨h1, h2⟩
          · exact .inr ⟨h1, by rw [← h1]; exact h2⟩
      refine ⟨ks2, n2, m2, e1.trans ?_⟩
      dsimp only
      rw [wrap64 (by omega) (by omega), show (p.length : Int) + 1 = ((p ++ [x]).length : Int) by simp]
      exact e2
  obtain ⟨ks, k1, k2, k3⟩ := key g.nodes [] [] n rfl (by omega) (by simp) (by simp)
  refine ⟨ks, k1, k2, prod_le k1 (fun k h => ⟨hE.p ((k2 k).1 h), hE.q ((k2 k).1 h)⟩) hN, ?_⟩
  unfold reach_Set nextN
  dsimp only
  rw [Nat.ble_eq_true_of_le (by show g.edges.length ≤ 1000000; omega), cond_true, Option.bind_some]
  exact k3
end Pure


/- Plain: the document's Reached. No program. -/
namespace Pure
open Esp Ev Go
set_option linter.unusedSimpArgs false
set_option linter.unusedVariables false
set_option linter.unusedSimpArgs false
set_option linter.unusedVariables false
abbrev sound (R : Int → Int → Prop) (ks : List Ev.Pair) : Prop := ks.Nodup ∧ ∀ k ∈ ks, Rc R k.p k.q
end Pure


/- Plain: All; the pairs are the document's. No program. -/
namespace Pure
open Esp Ev Go
set_option linter.unusedSimpArgs false
set_option linter.unusedVariables false
set_option linter.unusedSimpArgs false
set_option linter.unusedVariables false
theorem all_ok (n : Nat) (hn : 100100 ≤ n) (g : Graph) (kind : ByteArray) (hc : chkG g = 0) :
    ∃ ks : List Ev.Pair, ks.Nodup ∧ (∀ k, k ∈ ks ↔ Rc (stp kind g.edges) k.p k.q) ∧ ks.length ≤ 1600 ∧ reach_All n (g, kind, ()) = some (sortL ltP ks, 0, ()) := by
  obtain ⟨ks, h1, h2, h3, h4⟩ := set_ok n hn g kind hc
  refine ⟨ks, h1, h2, h3, ?_⟩
  unfold reach_All
  dsimp only
  rw [Graph.eta, gcheck_ok g n (by omega), hc, Option.bind_some]
  dsimp only
  rw [show ((0 : Int) != 0) = false from rfl, cond_false, h4, Option.bind_some]
  dsimp only
  rw [sorted_ok n ks (by omega) (by omega), Option.bind_some]
  dsimp only
  rw [plain_ok n _ (by rw [sortL_length]; omega) (by rw [sortL_length]; omega)]
  rfl
def line3G : Graph := .mk [.mk 1 [] [], .mk 2 [] [], .mk 3 [⟨#[65]⟩] []] [.mk 4 1 2 ⟨#[75]⟩ [], .mk 5 2 3 ⟨#[75]⟩ []] 6
theorem line3_ok : q8z () = some (line3G, ()) := rfl
theorem line3_chk : chkG line3G = 0 := by kernel_rfl
def p123 : List Ev.Pair := [.mk 1 2, .mk 1 3, .mk 2 3]
theorem line3_mem (k : Ev.Pair) : Rc (stp ⟨#[75]⟩ line3G.edges) k.p k.q ↔ k ∈ p123 := by
  have e : ∀ {a b : Int}, stp ⟨#[75]⟩ line3G.edges a b ↔ (a = 1 ∧ b = 2) ∨ (a = 2 ∧ b = 3) := by
    intro a b
    unfold stp
    constructor
    · rintro ⟨x, hx, _, rfl, rfl⟩
      simp only [line3G, List.mem_cons, List.not_mem_nil, or_false] at hx
      rcases hx with rfl | rfl <;> simp
    · rintro (⟨rfl, rfl⟩ | ⟨rfl, rfl⟩)
      · exact ⟨.mk 4 1 2 ⟨#[75]⟩ [], by simp [line3G], by kernel_rfl, rfl, rfl⟩
      · exact ⟨.mk 5 2 3 ⟨#[75]⟩ [], by simp [line3G], by kernel_rfl, rfl, rfl⟩
  obtain ⟨p, q⟩ := k
  have hm : Ev.Pair.mk p q ∈ p123 ↔ (p = 1 ∧ q = 2) ∨ (p = 1 ∧ q = 3) ∨ (p = 2 ∧ q = 3) := by simp [p123]
  rw [hm]
  constructor
  · intro w
    have : ∀ {a b : Int}, W (stp ⟨#[75]⟩ line3G.edges) (fun _ => True) a b → (a = 1 ∧ b = 2) ∨ (a = 1 ∧ b = 3) ∨ (a = 2 ∧ b = 3) := by
      intro a b w
      induction w with
      | one h => have := e.1 h; omega
      | two _ _ _ i j => omega
    exact this w
  · rintro (⟨rfl, rfl⟩ | ⟨rfl, rfl⟩ | ⟨rfl, rfl⟩)
    · exact .one (e.2 (by simp))
    · exact Rc.trans (c := 2) (.one (e.2 (.inl ⟨rfl, rfl⟩))) (.one (e.2 (.inr ⟨rfl, rfl⟩)))
    · exact .one (e.2 (by simp))
theorem path_at (m : Nat) : q26z (m + 100) (line3G, ⟨#[]⟩, 1, 3, ()) = some ([4, 5], 0, ()) := by kernel_rfl
theorem reachedF (n : Nat) (hn : 100100 ≤ n) : q7z n () = some (true, ()) := by
  obtain ⟨ks, h1, h2, h3, h4⟩ := all_ok n hn line3G ⟨#[75]⟩ line3_chk
  have hs : sortL ltP ks = p123 := sortL_of ltP_ok (perm_of h1 (by simp [p123]) fun k => by rw [h2, line3_mem]) (by simp [p123, ltP])
  rw [hs] at h4
  have hp : q26z n (line3G, ⟨#[]⟩, 1, 3, ()) = some ([4, 5], 0, ()) := by
    obtain ⟨m, rfl⟩ : ∃ m, n = m + 100 := ⟨n - 100, by omega⟩
    exact path_at m
  have he : q6z n ([4, 5], [4, 5], ()) = some (true, ()) := by
    obtain ⟨m, rfl⟩ : ∃ m, n = m + 100 := ⟨n - 100, by omega⟩
    kernel_rfl
  unfold q7z
  rw [line3_ok, Option.bind_some]
  dsimp only
  rw [Graph.eta, h4, Option.bind_some]
  dsimp only
  rw [Option.bind_some]
  dsimp only
  rw [Graph.eta, hp, Option.bind_some]
  dsimp only
  rw [show (((0 : Int) == 0) && ((0 : Int) == 0)) = true from rfl, cond_true, show ([.mk 1 2, .mk 1 3, .mk 2 3] : List Ev.Pair) = p123 from rfl, equalP_ok p123 n (by simp [p123]) (by simp [p123]; omega), Option.bind_some]
  dsimp only
  rw [cond_true, he]
  rfl
end Pure


/- Plain: Change: the pairs that go and those that come. No program. -/
namespace Pure
open Esp Ev Go
set_option linter.unusedSimpArgs false
set_option linter.unusedVariables false
set_option linter.unusedSimpArgs false
set_option linter.unusedVariables false
theorem Edg.eta (x : Edg) : Edg.mk x.id x.src x.dst x.type x.props = x := rfl
def sameE (x e : Edg) : Bool := (((x.id : Int) == e.id && (x.src : Int) == e.src) && (x.dst : Int) == e.dst) && seq x.type e.type
theorem contains_ok (n : Nat) (l : List Edg) (e : Edg) (hl : l.length ≤ 60) (hn : 100 ≤ n) : q1z n (l, (e, ()), ()) = some (l.any fun x => sameE x e, (e, ()), ()) := by
  have key : ∀ (r p : List Edg), l = p ++ r → ∃ i : Int, foldK (F_q2z_s0 n (fun (v11, o12, _) => some (v11, ((Ev.Edg.mk o12.1.id o12.1.src o12.1.dst o12.1.type o12.1.props), ()), ()))) (fun (o6, _) => (fun (o10, _) => some ((-1), ((Ev.Edg.mk o10.1.id o10.1.src o10.1.dst o10.1.type o10.1.props), ()), ())) (((Ev.Edg.mk o6.1.id o6.1.src o6.1.dst o6.1.type o6.1.props), ()), ())) (p.length : Int) r ((e, ()), ()) = some (i, (e, ()), ()) ∧ decide (i ≥ 0) = r.any fun x => sameE x e := by
    intro r
    induction r with
    | nil => intro p _; exact ⟨-1, rfl, rfl⟩
    | cons x r ih =>
      intro p hp
      rw [foldK]
      unfold F_q2z_s0 q11z
      dsimp only
      rw [Option.bind_some]
      dsimp only
      cases hs : sameE x e with
      | true =>
        have hs' : (((((x.id : Int) == e.id) && ((x.src : Int) == e.src)) && ((x.dst : Int) == e.dst)) && (seq x.type e.type)) = true := hs
        rw [hs']
        refine ⟨p.length, rfl, ?_⟩
        rw [List.any_cons, hs, Bool.true_or, decide_eq_true_iff]
        omega
      | false =>
        have hs' : (((((x.id : Int) == e.id) && ((x.src : Int) == e.src)) && ((x.dst : Int) == e.dst)) && (seq x.type e.type)) = false := hs
        rw [hs', cond_false]
        obtain ⟨i, h1, h2⟩ := ih (p ++ [x]) (by simp [hp])
        refine ⟨i, ?_, ?_⟩
        · rw [show ((p ++ [x]).length : Int) = (p.length : Int) + 1 by simp] at h1
          exact h1
        · rw [List.any_cons, hs, Bool.false_or, h2]
  obtain ⟨i, h1, h2⟩ := key l [] rfl
  unfold q1z q2z
  dsimp only
  rw [Edg.eta, R_q2z_s0 n _ _ l n (e, ()) (by omega) (by omega)]
  rw [show foldK _ _ 0 l ((e, ()), ()) = _ from h1, Option.bind_some]
  dsimp only
  rw [h2]
theorem change_s0 (n m : Nat) (hn : 100 ≤ n) (a b : Graph) (kind : ByteArray) {ρ : Type} (K : ByteArray × (Graph × Unit) × (Graph × Unit) × Unit → Option ρ) (KR : (List Ev.Pair) × (List Ev.Pair) × Int × Unit → Option ρ) :
    iterN (fun rc => q17z_s0 n rc K KR) (m + 3) (kind, (a, b), 0, (a, ()), (b, ()), ()) = bif chkG a != 0 then KR ([], [], chkG a, ()) else bif chkG b != 0 then KR ([], [], chkG b, ()) else K (kind, (a, ()), (b, ()), ()) := by
  have step : ∀ (rec : ByteArray × (Graph × Graph) × Int × (Graph × Unit) × (Graph × Unit) × Unit → Option ρ) (i : Int), q17z_s0 n rec K KR (kind, (a, b), i, (a, ()), (b, ()), ()) = bif decide (i < 2) then (ix [a, b] i).bind fun x => bif chkG x != 0 then KR ([], [], chkG x, ()) else rec (kind, (a, b), IntKind.wrap .i64 (i + 1), (a, ()), (b, ()), ()) else K (kind, (a, ()), (b, ()), ()) := by
    intro rec i
    unfold q17z_s0
    simp only [Graph.eta, gcheck_ok _ n (show 80 ≤ n by omega), Option.bind_some]
  rw [iterN, step, show decide ((0 : Int) < 2) = true from rfl, cond_true, show ix [a, b] 0 = some a from rfl, Option.bind_some]
  cases chkG a != 0 with
  | true => rfl
  | false =>
    rw [cond_false, cond_false, iterN, step, show decide ((IntKind.wrap .i64 (0 + 1) : Int) < 2) = true from rfl, cond_true, show ix [a, b] (IntKind.wrap .i64 (0 + 1)) = some b from rfl, Option.bind_some]
    cases chkG b != 0 with
    | true => rfl
    | false =>
      rw [cond_false, cond_false, iterN, step]
      rfl
theorem change_s2 (n : Nat) (v18 : ByteArray) (v19 : List (Ev.Pair × Bool)) (a b : Graph) {ρ : Type} (K : ByteArray × (List (Ev.Pair × Bool)) × (Graph × Unit) × (Graph × Unit) × Unit × (List (Ev.Pair × Bool)) × Unit → Option ρ) (r : ρ) (ks : List Ev.Pair)
    (h : ∀ ks', ks'.Nodup → (∀ k, k ∈ ks' ↔ k ∈ ks) → K (v18, v19, (a, ()), (b, ()), (), tr ks', ()) = some r) :
    ∀ (fuel : Nat) (acc rest : List Ev.Pair), rest.length < fuel → acc.Nodup → (∀ k, k ∈ ks ↔ k ∈ acc ∨ k ∈ rest) →
      iterN (fun rc => q17z_s2 n rc K (fun (_) => none)) fuel (v18, v19, (a, ()), (b, ()), (), tr acc, tr rest, ()) = some r := by
  intro fuel
  induction fuel with
  | zero => intro acc rest h; exact absurd h (Nat.not_lt_zero _)
  | succ f ih =>
    intro acc rest hf hnd hm
    rw [iterN]
    unfold q17z_s2
    dsimp only
    rw [Graph.eta, Graph.eta]
    refine rng_tr rest _ _ _ (fun e => ?_) fun i hi => ?_
    · subst e
      exact h acc hnd fun k => by rw [hm]; simp
    · dsimp only
      have hp := erase_perm rest i hi
      have hlen := hp.length_eq
      rw [List.length_cons] at hlen
      rw [Pair.eta, put_tr]
      refine ih _ _ (by omega) (ins_nodup hnd _) fun k => ?_
      rw [hm, mem_ins, ← hp.mem_iff, List.mem_cons]
      constructor
      · rintro (h | h | h)
        · exact .inl (.inl h)
        · exact .inl (.inr h)
        · exact .inr h
      · rintro ((h | h) | h)
        · exact .inl h
        · exact .inr (.inl h)
        · exact .inr (.inr h)
def over (bef : List Ev.Pair) (e : Edg) (k : Ev.Pair) : Prop := (k.p = e.src ∨ Ev.Pair.mk k.p e.src ∈ bef) ∧ (k.q = e.dst ∨ Ev.Pair.mk e.dst k.q ∈ bef)
theorem change_s6 (n : Nat) (v44 : ByteArray) (bef : List Ev.Pair) (v46 : List Edg) (v47 v48 : Int) (b : Graph) (e : Edg) {ρ : Type} (K : ByteArray × (List (Ev.Pair × Bool)) × (List Edg) × Int × Int × (Graph × Unit) × Unit × (List (Ev.Pair × Bool)) × Unit → Option ρ) (r : ρ) (P : Ev.Pair → Prop)
    (h : ∀ ks', ks'.Nodup → (∀ k, k ∈ ks' ↔ P k) → K (v44, tr bef, v46, v47, v48, (b, ()), (), tr ks', ()) = some r) :
    ∀ (fuel : Nat) (out rest : List Ev.Pair), rest.length < fuel → out.Nodup → (∀ k, P k ↔ k ∈ out ∧ ¬ (k ∈ rest ∧ over bef e k)) →
      iterN (fun rc => q17z_s6 n rc K (fun (_) => none)) fuel (v44, tr bef, v46, v47, v48, (b, ()), (), (e, ()), tr out, tr rest, ()) = some r := by
  intro fuel
  induction fuel with
  | zero => intro acc rest h; exact absurd h (Nat.not_lt_zero _)
  | succ f ih =>
    intro out rest hf hnd hm
    rw [iterN]
    unfold q17z_s6
    dsimp only
    rw [Graph.eta]
    simp only [Edg.eta, Pair.eta]
    refine rng_tr rest _ _ _ (fun e => ?_) fun i hi => ?_
    · subst e
      exact h out hnd fun k => by rw [hm]; simp
    · dsimp only
      have hp := erase_perm rest i hi
      have hlen := hp.length_eq
      rw [List.length_cons] at hlen
      simp only [get_tr]
      rw [del_tr hnd]
      have yes : over bef e rest[i] → iterN (fun rc => q17z_s6 n rc K (fun (_) => none)) f (v44, tr bef, v46, v47, v48, (b, ()), (), (e, ()), tr (out.filter fun x => decide (x ≠ rest[i])), tr (rest.eraseIdx i), ()) = some r := fun ho => by
        refine ih _ _ (by omega) (hnd.sublist List.filter_sublist) fun k => ?_
        rw [hm, List.mem_filter, decide_eq_true_iff, ← hp.mem_iff, List.mem_cons]
        constructor
        · rintro ⟨h1, h2⟩
          exact ⟨⟨h1, fun hk => h2 ⟨.inl hk, hk ▸ ho⟩⟩, fun hk => h2 ⟨.inr hk.1, hk.2⟩⟩
        · rintro ⟨⟨h1, h2⟩, h3⟩
          refine ⟨h1, ?_⟩
          rintro ⟨h4 | h4, h5⟩
          · exact h2 h4
          · exact h3 ⟨h4, h5⟩
      have no : ¬ over bef e rest[i] → iterN (fun rc => q17z_s6 n rc K (fun (_) => none)) f (v44, tr bef, v46, v47, v48, (b, ()), (), (e, ()), tr out, tr (rest.eraseIdx i), ()) = some r := fun ho => by
        refine ih _ _ (by omega) hnd fun k => ?_
        rw [hm, ← hp.mem_iff, List.mem_cons]
        constructor
        · rintro ⟨h1, h2⟩
          exact ⟨h1, fun hk => h2 ⟨.inr hk.1, hk.2⟩⟩
        · rintro ⟨h1, h2⟩
          refine ⟨h1, ?_⟩
          rintro ⟨h4 | h4, h5⟩
          · exact ho (h4 ▸ h5)
          · exact h2 ⟨h4, h5⟩
      by_cases h1 : (rest[i].p : Int) = e.src
      · rw [show ((rest[i].p : Int) == e.src) = true by simpa using h1, cond_true]
        by_cases h2 : (rest[i].q : Int) = e.dst
        · rw [show ((rest[i].q : Int) == e.dst) = true by simpa using h2, cond_true]
          exact yes ⟨.inl h1, .inl h2⟩
        · rw [show ((rest[i].q : Int) == e.dst) = false by simpa using h2, cond_false]
          by_cases h3 : Ev.Pair.mk e.dst rest[i].q ∈ bef
          · rw [decide_eq_true h3, cond_true]
            exact yes ⟨.inl h1, .inr h3⟩
          · rw [decide_eq_false h3, cond_false]
            exact no fun ho => ho.2.elim h2 h3
      · rw [show ((rest[i].p : Int) == e.src) = false by simpa using h1, cond_false]
        by_cases h4 : Ev.Pair.mk rest[i].p e.src ∈ bef
        · rw [decide_eq_true h4, cond_true]
          by_cases h2 : (rest[i].q : Int) = e.dst
          · rw [show ((rest[i].q : Int) == e.dst) = true by simpa using h2, cond_true]
            exact yes ⟨.inr h4, .inl h2⟩
          · rw [show ((rest[i].q : Int) == e.dst) = false by simpa using h2, cond_false]
            by_cases h3 : Ev.Pair.mk e.dst rest[i].q ∈ bef
            · rw [decide_eq_true h3, cond_true]
              exact yes ⟨.inr h4, .inr h3⟩
            · rw [decide_eq_false h3, cond_false]
              exact no fun ho => ho.2.elim h2 h3
        · rw [decide_eq_false h4, cond_false]
          exact no fun ho => ho.1.elim h1 h4
def goneE (kind : ByteArray) (b : Graph) (e : Edg) : Prop := kd kind e = true ∧ (b.edges.any fun x => sameE x e) = false
theorem change_s4 (n : Nat) (hn : 2000 ≤ n) (kind : ByteArray) (bef : List Ev.Pair) (hb : bef.length ≤ 1600) (es : List Edg) (he : es.length ≤ 60) (b : Graph) (h60 : b.edges.length ≤ 60) {ρ : Type} (K : ByteArray × (List (Ev.Pair × Bool)) × (Graph × Unit) × Unit × (List (Ev.Pair × Bool)) × Unit → Option ρ) (r : ρ) (P : Ev.Pair → Prop)
    (h : ∀ ks', ks'.Nodup → (∀ k, k ∈ ks' ↔ P k) → K (kind, tr bef, (b, ()), (), tr ks', ()) = some r) :
    ∀ (rs p : List Edg) (fuel : Nat) (out : List Ev.Pair), es = p ++ rs → rs.length < fuel → out.Nodup → (∀ k, P k ↔ k ∈ out ∧ ∀ e ∈ rs, goneE kind b e → ¬ (k ∈ bef ∧ over bef e k)) →
      iterN (fun rc => q17z_s4 n rc K (fun (_) => none)) fuel (kind, tr bef, es, (es.length : Int), (p.length : Int), (b, ()), (), tr out, ()) = some r := by
  intro rs
  induction rs with
  | nil =>
    intro p fuel out hp hf hnd hm
    obtain ⟨f, rfl⟩ : ∃ f, fuel = f + 1 := ⟨fuel - 1, by omega⟩
    rw [iterN]
    unfold q17z_s4
    dsimp only
    rw [show decide ((p.length : Int) < (es.length : Int)) = false by rw [hp]; simp, cond_false, Graph.eta]
    exact h out hnd fun k => by rw [hm]; simp
  | cons x rs ih =>
    intro p fuel out hp hf hnd hm
    obtain ⟨f, rfl⟩ : ∃ f, fuel = f + 1 := ⟨fuel - 1, by omega⟩
    have hll : es.length = p.length + (rs.length + 1) := by rw [hp]; simp
    have e3 : IntKind.wrap .i64 ((p.length : Int) + 1) = ((p ++ [x]).length : Int) := by rw [wrap64 (by omega) (by omega)]; simp
    rw [iterN]
    unfold q17z_s4
    dsimp only
    rw [show decide ((p.length : Int) < (es.length : Int)) = true by rw [decide_eq_true_iff]; omega, cond_true, ix_ok (x := x) (by rw [hp]; simp), Option.bind_some, Graph.eta, Edg.eta, contains_ok n b.edges x h60 (by omega), e3]
    have skip : ¬ goneE kind b x → iterN (fun rc => q17z_s4 n rc K (fun (_) => none)) f (kind, tr bef, es, (es.length : Int), ((p ++ [x]).length : Int), (b, ()), (), tr out, ()) = some r := fun hg => by
      refine ih (p ++ [x]) f out (by simp [hp]) (by simp at hf; omega) hnd fun k => ?_
      rw [hm]
      simp [hg]
    have hkk : ((!(seq kind ⟨#[]⟩)) && (!(seq x.type kind))) = !(kd kind x) := by unfold kd; cases seq kind ⟨#[]⟩ <;> rfl
    rw [hkk]
    cases hk : kd kind x with
    | false =>
      rw [Bool.not_false, cond_true]
      exact skip fun hg => by rw [hg.1] at hk; cases hk
    | true =>
      rw [Bool.not_true, cond_false, Option.bind_some]
      dsimp only
      cases hc : b.edges.any fun y => sameE y x with
      | true =>
        rw [cond_true]
        exact skip fun hg => by rw [hg.2] at hc; cases hc
      | false =>
        rw [cond_false, Edg.eta]
        have hg : goneE kind b x := ⟨hk, hc⟩
        refine change_s6 n kind bef es (es.length : Int) (p.length : Int) b x _ r (fun k => k ∈ out ∧ ¬ (k ∈ bef ∧ over bef x k)) (fun ks' hn' hm' => ?_) n out bef (by omega) hnd fun k => Iff.rfl
        dsimp only
        rw [Graph.eta, e3]
        refine ih (p ++ [x]) f ks' (by simp [hp]) (by simp at hf; omega) hn' fun k => ?_
        rw [hm, hm']
        simp only [List.mem_cons, forall_eq_or_imp]
        constructor
        · rintro ⟨h1, h2, h3⟩
          exact ⟨⟨h1, h2 hg⟩, h3⟩
        · rintro ⟨⟨h1, h2⟩, h3⟩
          exact ⟨h1, fun _ => h2, h3⟩
theorem still {kind : ByteArray} {a b : Graph} {bef : List Ev.Pair} (hm : ∀ k, k ∈ bef ↔ Rc (stp kind a.edges) k.p k.q) {p0 q0 : Int} (hno : ∀ e ∈ a.edges, goneE kind b e → ¬ over bef e ⟨p0, q0⟩) {p q : Int} (w : W (stp kind a.edges) (fun _ => True) p q)
    (h1 : p0 = p ∨ Rc (stp kind a.edges) p0 p) (h2 : q0 = q ∨ Rc (stp kind a.edges) q q0) : Rc (stp kind b.edges) p q := by
  induction w with
  | @one u v hs =>
    obtain ⟨x, hx, hk, rfl, rfl⟩ := hs
    cases hc : b.edges.any fun y => sameE y x with
    | false =>
      refine absurd ⟨h1.imp id fun h => (hm _).2 h, h2.imp id fun h => (hm _).2 h⟩ (hno x hx ⟨hk, hc⟩)
    | true =>
      obtain ⟨y, hy, hs⟩ := List.any_eq_true.1 hc
      unfold sameE at hs
      simp only [Bool.and_eq_true, beq_iff_eq] at hs
      obtain ⟨⟨⟨_, hs1⟩, hs2⟩, hs3⟩ := hs
      refine .one ⟨y, hy, ?_, hs1, hs2⟩
      unfold kd at hk ⊢
      rw [← (seq_iff y.type x.type).1 hs3] at hk
      exact hk
  | two w1 _ w2 i j =>
    exact Rc.trans (i h1 (.inr (by
      rcases h2 with rfl | h2
      · exact w2
      · exact Rc.trans w2 h2))) (j (.inr (by
      rcases h1 with rfl | h1
      · exact w1
      · exact Rc.trans h1 w1)) h2)
end Pure


/- Plain: Change, and the law of it. No program. -/
namespace Pure
open Esp Ev Go
set_option linter.unusedSimpArgs false
set_option linter.unusedVariables false
set_option linter.unusedSimpArgs false
set_option linter.unusedVariables false
structure Add (R : Int → Int → Prop) (out td out' td' : List Ev.Pair) : Prop where
  snd : sound R out'
  sup : ∀ k ∈ out, k ∈ out'
  new : ∀ k ∈ out', k ∈ out ∨ k ∈ td'
  tsup : ∀ k ∈ td, k ∈ td'
  tin : ∀ k ∈ td', k ∈ td ∨ k ∈ out'
theorem Add.refl {R : Int → Int → Prop} {out td : List Ev.Pair} (h : sound R out) : Add R out td out td := ⟨h, fun _ h => h, fun _ h => .inl h, fun _ h => h, fun _ h => .inl h⟩
theorem Add.trans {R : Int → Int → Prop} {o t o1 t1 o2 t2 : List Ev.Pair} (h : Add R o t o1 t1) (g : Add R o1 t1 o2 t2) : Add R o t o2 t2 :=
  ⟨g.snd, fun k hk => g.sup k (h.sup k hk), fun k hk => (g.new k hk).elim (fun h1 => (h.new k h1).imp id (g.tsup k)) .inr, fun k hk => g.tsup k (h.tsup k hk), fun k hk => (g.tin k hk).elim (fun h1 => (h.tin k h1).imp id (g.sup k)) .inr⟩
theorem add_ok {R : Int → Int → Prop} {ns : List Int} (hE : Ends R ns) (hN : ns.length ≤ 40) (x : Ev.Pair) (out td : List Ev.Pair) (hs : sound R out) (hx : Rc R x.p x.q) (hl : td.length ≤ 900000) :
    ∃ out' td', q12z (x, (), tr out, (), td, ()) = some ((), tr out', (), td', ()) ∧ Add R out td out' td' ∧ x ∈ out' ∧ td'.length + 2 * (1600 - out'.length) ≤ td.length + 2 * (1600 - out.length) ∧ td'.length ≤ td.length + 1 := by
  unfold q12z
  dsimp only
  rw [Pair.eta, get_tr]
  by_cases hm : x ∈ out
  · rw [decide_eq_true hm]
    exact ⟨out, td, rfl, Add.refl hs, hm, Nat.le_refl _, by omega⟩
  · have hs' : ∀ k ∈ ins out x, Rc R k.p k.q := fun k hk => by
      rcases mem_ins.1 hk with h | rfl
      · exact hs.2 k h
      · exact hx
    have hnd' := ins_nodup hs.1 x
    have hle := prod_le hnd' (fun k hk => ⟨hE.p (hs' k hk), hE.q (hs' k hk)⟩) hN
    have hlen : (ins out x).length = out.length + 1 := by unfold ins; rw [if_neg hm]; simp
    rw [decide_eq_false hm, Bool.not_false, cond_true, ck_ok (room16 (by simp; omega)), put_tr]
    refine ⟨ins out x, td ++ [x], rfl, ⟨⟨hnd', hs'⟩, fun k hk => mem_ins.2 (.inl hk), fun k hk => (mem_ins.1 hk).imp id fun e => by simp [e], fun k hk => by simp [hk], fun k hk => ?_⟩, mem_ins.2 (.inr rfl), by simp; omega, by simp⟩
    simp only [List.mem_append, List.mem_singleton] at hk
    exact hk.imp id fun e => mem_ins.2 (.inr e)
theorem change_s8 (n : Nat) (kind : ByteArray) (b : Graph) (hE : Ends (stp kind b.edges) (idsN b)) (hN : (idsN b).length ≤ 40) (v72 : List (Ev.Pair × Bool)) (v73 : List (Int × (List Int))) {ρ : Type}
    (K : ByteArray × (List (Ev.Pair × Bool)) × (List (Int × (List Int))) × Unit × Unit × (List (Ev.Pair × Bool)) × (List Ev.Pair) × Unit → Option ρ) :
    ∀ (r : List Edg) (i : Int) (out td : List Ev.Pair), (∀ x ∈ r, x ∈ b.edges) → sound (stp kind b.edges) out → td.length + r.length ≤ 900000 →
      ∃ out' td', Add (stp kind b.edges) out td out' td' ∧ (∀ x ∈ r, kd kind x = true → Ev.Pair.mk x.src x.dst ∈ out') ∧ td'.length ≤ td.length + r.length ∧
        foldK (F_q17z_s8 n (fun (_) => none)) K i r (kind, v72, v73, (), (), tr out, td, ()) = K (kind, v72, v73, (), (), tr out', td', ()) := by
  intro r
  induction r with
  | nil => intro i out td _ hs _; exact ⟨out, td, Add.refl hs, fun x hx => (by cases hx), by simp, rfl⟩
  | cons x r ih =>
    intro i out td hr hs hl
    rw [List.length_cons] at hl
    rw [foldK]
    have hF : ∀ (rec : _ → Option ρ), F_q17z_s8 n (fun (_) => none) i x (kind, v72, v73, (), (), tr out, td, ()) rec = bif kd kind x then (q12z ((Ev.Pair.mk x.src x.dst), (()), tr out, (()), td, ())).bind fun (o82, o83, o84, o85, _) => rec (kind, v72, v73, (()), (()), o83, o85, ()) else rec (kind, v72, v73, (()), (()), tr out, td, ()) := fun _ => rfl
    rw [hF]
    cases hk : kd kind x with
    | false =>
      rw [cond_false]
      obtain ⟨o, t, h1, h2, h3, h4⟩ := ih (i + 1) out td (fun y hy => hr y (by simp [hy])) hs (by omega)
      refine ⟨o, t, h1, fun y hy hky => ?_, by simp; omega, h4⟩
      rcases List.mem_cons.1 hy with rfl | hy
      · rw [hk] at hky; cases hky
      · exact h2 y hy hky
    | true =>
      obtain ⟨o1, t1, a1, a2, a3, a4, a5⟩ := add_ok hE hN ⟨x.src, x.dst⟩ out td hs (.one ⟨x, hr x (by simp), hk, rfl, rfl⟩) (by omega)
      rw [cond_true, a1, Option.bind_some]
      obtain ⟨o, t, h1, h2, h3, h4⟩ := ih (i + 1) o1 t1 (fun y hy => hr y (by simp [hy])) a2.snd (by omega)
      refine ⟨o, t, a2.trans h1, fun y hy hky => ?_, by simp; omega, h4⟩
      rcases List.mem_cons.1 hy with rfl | hy
      · exact h1.sup _ a3
      · exact h2 y hy hky
theorem change_s10 (n : Nat) (v93 : List (Ev.Pair × Bool)) (v94 : List (Int × (List Int))) (o : List (Ev.Pair × Bool)) {ρ : Type}
    (K : (List (Ev.Pair × Bool)) × (List (Int × (List Int))) × Unit × Unit × (List (Ev.Pair × Bool)) × (List Ev.Pair) × Unit → Option ρ) :
    ∀ (r p : List Ev.Pair) (i : Int), p.length + r.length ≤ 900000 → foldK (F_q17z_s10 n (fun (_) => none)) K i r (v93, v94, (), (), o, p, ()) = K (v93, v94, (), (), o, p ++ r, ()) := by
  intro r
  induction r with
  | nil => intro p i _; simp [foldK]
  | cons x r ih =>
    intro p i hl
    rw [List.length_cons] at hl
    rw [foldK]
    have hF : ∀ (rec : _ → Option ρ), F_q17z_s10 n (fun (_) => none) i x (v93, v94, (), (), o, p, ()) rec = ck (room (p ++ ([x] : List Ev.Pair)).length 16) (rec (v93, v94, (()), (()), o, p ++ ([x] : List Ev.Pair), ())) := fun _ => rfl
    rw [hF, ck_ok (room16 (by simp; omega)), ih (p ++ [x]) (i + 1) (by simp; omega), List.append_assoc]
    rfl
theorem change_s14 (n : Nat) (R : Int → Int → Prop) {ns : List Int} (hE : Ends R ns) (hN : ns.length ≤ 40) (v117 : List (Ev.Pair × Bool)) (v118 : List (Int × (List Int))) (e : Ev.Pair) {ρ : Type}
    (K : (List (Ev.Pair × Bool)) × (List (Int × (List Int))) × Unit × Unit × (Ev.Pair × Unit) × (List (Ev.Pair × Bool)) × (List Ev.Pair) × Unit → Option ρ) :
    ∀ (r : List Int) (i : Int) (out td : List Ev.Pair), (∀ t ∈ r, Rc R e.p t) → sound R out → td.length + r.length ≤ 900000 →
      ∃ out' td', Add R out td out' td' ∧ (∀ t ∈ r, Ev.Pair.mk e.p t ∈ out') ∧ td'.length + 2 * (1600 - out'.length) ≤ td.length + 2 * (1600 - out.length) ∧
        foldK (F_q17z_s14 n (fun (_) => none)) K i r (v117, v118, (), (), (e, ()), tr out, td, ()) = K (v117, v118, (), (), (e, ()), tr out', td', ()) := by
  intro r
  induction r with
  | nil => intro i out td _ hs _; exact ⟨out, td, Add.refl hs, fun x hx => (by cases hx), Nat.le_refl _, rfl⟩
  | cons x r ih =>
    intro i out td hr hs hl
    rw [List.length_cons] at hl
    rw [foldK]
    have hF : ∀ (rec : _ → Option ρ), F_q17z_s14 n (fun (_) => none) i x (v117, v118, (), (), (e, ()), tr out, td, ()) rec = (q12z ((Ev.Pair.mk e.p x), (()), tr out, (()), td, ())).bind fun (o128, o129, o130, o131, _) => rec (v117, v118, (()), (()), (e, ()), o129, o131, ()) := fun _ => rfl
    obtain ⟨o1, t1, a1, a2, a3, a4, a5⟩ := add_ok hE hN ⟨e.p, x⟩ out td hs (hr x (by simp)) (by omega)
    rw [hF, a1, Option.bind_some]
    obtain ⟨o, t, h1, h2, h3, h4⟩ := ih (i + 1) o1 t1 (fun y hy => hr y (by simp [hy])) a2.snd (by omega)
    refine ⟨o, t, a2.trans h1, fun y hy => ?_, by omega, h4⟩
    rcases List.mem_cons.1 hy with rfl | hy
    · exact h1.sup _ a3
    · exact h2 y hy
theorem change_s12 (n : Nat) (hn : 100 ≤ n) (kind : ByteArray) (b : Graph) (h60 : b.edges.length ≤ 60) (hE : Ends (stp kind b.edges) (idsN b)) (hN : (idsN b).length ≤ 40) (v109 : List (Ev.Pair × Bool)) {ρ : Type}
    (K : (List (Ev.Pair × Bool)) × Unit × (List (Ev.Pair × Bool)) × Unit → Option ρ) :
    ∀ (fuel : Nat) (out td : List Ev.Pair), sound (stp kind b.edges) out → (∀ k ∈ td, k ∈ out) → (∀ x y, stp kind b.edges x y → Ev.Pair.mk x y ∈ out) → (∀ k ∈ out, k ∈ td ∨ ∀ t, stp kind b.edges k.q t → Ev.Pair.mk k.p t ∈ out) →
      td.length + 2 * (1600 - out.length) < fuel → td.length + 2 * (1600 - out.length) ≤ 100000 →
      ∃ ks, ks.Nodup ∧ (∀ k, k ∈ ks ↔ Rc (stp kind b.edges) k.p k.q) ∧
        iterN (fun rc => q17z_s12 n rc K (fun (_) => none)) fuel (v109, nextL kind b.edges, (), (), tr out, td, ()) = K (v109, (), tr ks, ()) := by
  intro fuel
  induction fuel with
  | zero => intro out td _ _ _ _ h; exact absurd h (Nat.not_lt_zero _)
  | succ f ih =>
    intro out td hs htd h1 hcl hf hM
    rw [iterN]
    unfold q17z_s12
    dsimp only
    rcases List.eq_nil_or_concat td with rfl | ⟨p, e, rfl⟩
    · refine ⟨out, hs.1, fun k => ⟨hs.2 k, fun w => ?_⟩, rfl⟩
      exact Rc.close (a := k.p) (fun t => Ev.Pair.mk k.p t ∈ out) (fun t ht => h1 _ _ ht) (fun t u ht hu => ((hcl _ ht).resolve_left (by simp)) u hu) w
    · rw [List.concat_eq_append] at *
      have hpl : p.length ≤ 100000 := by simp at hM; omega
      have hnl := Nat.le_trans (nextL_len kind e.q b.edges) h60
      rw [pop_ix p e (by omega), pop_get p e (by omega), pop_cut p e (by omega), show decide (((p ++ [e]).length : Int) > 0) = true by rw [decide_eq_true_iff]; simp, cond_true, Option.bind_some, Option.bind_some, Option.bind_some, Pair.eta,
        R_q17z_s14 n _ _ _ n _ _ _ _ _ _ _ (by omega) (by omega)]
      have heo : e ∈ out := htd e (by simp)
      obtain ⟨o1, t1, a1, a2, a3, a4⟩ := change_s14 n (stp kind b.edges) hE hN v109 (nextL kind b.edges) e (fun (v117, v118, o122, o123, o124, o125, o126, _) => (fun (v132, v133, o134, o135, o136, o137, _) => iterN (fun rc => q17z_s12 n rc K (fun (_) => none)) f (v132, v133, (()), (()), o136, o137, ())) (v117, v118, (()), (()), o125, o126, ()))
        (mpGet .i64 (.lst .i64) [] (nextL kind b.edges) e.q) 0 out p (fun t ht => (hs.2 e heo).trans (.one ((next_mem kind b.edges e.q t).1 ht))) hs (by omega)
      obtain ⟨ks, k1, k2, k3⟩ := ih o1 t1 a1.snd (fun k hk => (a1.tin k hk).elim (fun h => a1.sup k (htd k (by simp [h]))) id) (fun x y h => a1.sup _ (h1 x y h)) (fun k hk => by
        rcases a1.new k hk with h | h
        · rcases hcl k h with h | h
          · simp only [List.mem_append, List.mem_singleton] at h
            rcases h with h | rfl
            · exact .inl (a1.tsup k h)
            · exact .inr fun t ht => a2 t ((next_mem kind b.edges k.q t).2 ht)
          · exact .inr fun t ht => a1.sup _ (h t ht)
        · exact .inl h) (by simp at hf; omega) (by simp at hM; omega)
      exact ⟨ks, k1, k2, a4.trans k3⟩
theorem change_3 (n : Nat) (A B : List Ev.Pair) (hA : A.length ≤ 100000) (hn : A.length < n) : q13z n (tr A, tr B, ()) = some (sortL ltP (A.filter fun k => decide (k ∉ B)), ()) := by
  have key : ∀ (fuel : Nat) (acc rest : List Ev.Pair), rest.length < fuel → acc.length + rest.length ≤ A.length →
      iterN (fun rc11 => q13z_s0 n rc11 (fun (o8, _) => (sfPair (o8, ())).bind fun (o9, _) => (q21z n (o9, ())).bind fun (y10, _) => some (y10, ())) (fun (_) => none)) fuel (tr B, acc, tr rest, ()) = some (sortL ltP (acc ++ rest.filter fun k => decide (k ∉ B)), ()) := by
    intro fuel
    induction fuel with
    | zero => intro acc rest h; exact absurd h (Nat.not_lt_zero _)
    | succ f ih =>
      intro acc rest hf hl
      rw [iterN]
      unfold q13z_s0
      dsimp only
      refine rng_tr rest _ _ _ (fun e => ?_) fun i hi => ?_
      · subst e
        rw [sfPair_some acc (by omega), Option.bind_some]
        dsimp only
        rw [plain_ok n _ (by rw [sortL_length]; omega) (by rw [sortL_length]; simp at hl; omega)]
        simp
      · dsimp only
        have hp := erase_perm rest i hi
        have hlen := hp.length_eq
        rw [List.length_cons] at hlen
        have hpf := hp.filter fun k => decide (k ∉ B)
        rw [List.filter_cons] at hpf
        rw [Pair.eta, get_tr]
        by_cases hm : rest[i] ∈ B
        · rw [decide_eq_true hm]
          rw [if_neg (by simpa using hm)] at hpf
          refine (ih _ _ (by omega) (by omega)).trans ?_
          rw [sortL_eq ltP_ok (hpf.append_left acc)]
        · rw [decide_eq_false hm, Bool.not_false, cond_true, ck_ok (room16 (by simp; omega))]
          rw [if_pos (by simpa using hm)] at hpf
          refine (ih _ _ (by omega) (by simp; omega)).trans ?_
          rw [List.append_assoc, List.singleton_append, sortL_eq ltP_ok (hpf.append_left acc)]
  have := key n [] A hn (by simp)
  rwa [List.nil_append] at this
theorem fil_perm {A A' B B' : List Ev.Pair} (hA : A.Nodup) (hA' : A'.Nodup) (h : ∀ k, k ∈ A ↔ k ∈ A') (h' : ∀ k, k ∈ B ↔ k ∈ B') : sortL ltP (A.filter fun k => decide (k ∉ B)) = sortL ltP (A'.filter fun k => decide (k ∉ B')) :=
  sortL_eq ltP_ok (perm_of (hA.sublist List.filter_sublist) (hA'.sublist List.filter_sublist) fun k => by rw [List.mem_filter, List.mem_filter, decide_eq_true_iff, decide_eq_true_iff, h, h'])
theorem change_ok (n : Nat) (hn : 100100 ≤ n) (a b : Graph) (kind : ByteArray) (ha : chkG a = 0) (hb : chkG b = 0) (A B : List Ev.Pair) (nA : A.Nodup) (nB : B.Nodup) (mA : ∀ k, k ∈ A ↔ Rc (stp kind a.edges) k.p k.q) (mB : ∀ k, k ∈ B ↔ Rc (stp kind b.edges) k.p k.q) :
    q17z n (a, b, kind, ()) = some (sortL ltP (A.filter fun k => decide (k ∉ B)), sortL ltP (B.filter fun k => decide (k ∉ A)), 0, ()) := by
  obtain ⟨bef, b1, b2, b3, b4⟩ := set_ok n hn a kind ha
  have hE := ends_of hb kind
  have hN := ids_len hb
  obtain ⟨_, a60, _, _⟩ := chkG_0 ha
  obtain ⟨_, h60, _, _⟩ := chkG_0 hb
  obtain ⟨m, hm⟩ : ∃ m, n = m + 3 := ⟨n - 3, by omega⟩
  unfold q17z
  dsimp only
  rw [Graph.eta, Graph.eta]
  have hs0 := fun {ρ : Type} K KR => change_s0 n m (by omega) a b kind (ρ := ρ) K KR
  rw [← hm] at hs0
  rw [hs0, ha, hb]
  dsimp only
  rw [show ((0 : Int) != 0) = false from rfl, cond_false, cond_false, Graph.eta, Graph.eta, b4, Option.bind_some]
  dsimp only
  refine change_s2 n kind (tr bef) a b _ _ bef (fun o1 n1 m1 => ?_) n [] bef (by omega) List.nodup_nil (fun k => by simp)
  dsimp only
  rw [Graph.eta]
  refine change_s4 n (by omega) kind bef b3 a.edges a60 b h60 _ _ (fun k => k ∈ o1 ∧ ∀ e ∈ a.edges, goneE kind b e → ¬ (k ∈ bef ∧ over bef e k)) (fun o2 n2 m2 => ?_) a.edges [] n o1 rfl (by omega) n1 fun k => Iff.rfl
  dsimp only
  have s2 : sound (stp kind b.edges) o2 := ⟨n2, fun k hk => by
    obtain ⟨h1, h2⟩ := (m2 k).1 hk
    have hkb := (m1 k).1 h1
    exact still b2 (p0 := k.p) (q0 := k.q) (fun e he hg ho => h2 e he hg ⟨hkb, ho⟩) ((b2 k).1 hkb) (.inl rfl) (.inl rfl)⟩
  rw [Graph.eta, show nextN (b, kind, ()) = some (nextL kind b.edges, ()) by unfold nextN; dsimp only; rw [Nat.ble_eq_true_of_le (by omega), cond_true], Option.bind_some]
  dsimp only
  rw [R_q17z_s8 n _ _ b.edges n _ _ _ _ _ _ _ (by omega) (by omega)]
  obtain ⟨o3, t3, c1, c2, c3, c4⟩ := change_s8 n kind b hE hN (tr bef) (nextL kind b.edges) (fun (v71, v72, v73, o77, o78, o79, o80, _) => (fun (v86, v87, o88, o89, o90, o91, _) =>
  (q18z n (o90, ())).bind fun (y92, _) =>
  iterN (fun rc145 => q17z_s10 n rc145 (fun (v103, v104, o105, o106, o107, o108, _) =>
  iterN (fun rc144 => q17z_s12 n rc144 (fun (v139, o140, o141, _) =>
  (q13z n (v139, o141, ())).bind fun (y142, _) =>
  (q13z n (o141, v139, ())).bind fun (y143, _) => some (y142, y143, (0 : Int), ())) (fun (_) => none)) (n) (v103, v104, (()), (()), o107, o108, ())) (fun (_) => none)) (n) (v86, v87, y92, (y92.length : Int), 0, (()), (()), o90, o91, ())) (v72, v73, (()), (()), o79, o80, ())) b.edges 0 o2 [] (fun x h => h) s2 (by simp; omega)
  have l3 : o3.length ≤ 1600 := prod_le c1.snd.1 (fun k h => ⟨hE.p (c1.snd.2 k h), hE.q (c1.snd.2 k h)⟩) hN
  refine (c4.trans ?_).trans (show _ = _ from rfl)
  dsimp only
  rw [sorted_ok n o3 (by omega) (by omega), Option.bind_some]
  dsimp only
  have hsl : (sortL ltP o3).length = o3.length := sortL_length ltP o3
  rw [List.length_nil] at c3
  rw [R_q17z_s10 n _ _ (sortL ltP o3) n _ _ _ _ _ _ (by omega) (by omega), change_s10 n _ _ _ _ _ _ _ (by omega)]
  dsimp only
  obtain ⟨ks, k1, k2, k3⟩ := change_s12 n (by omega) kind b h60 hE hN (tr bef) (fun (v139, o140, o141, _) =>
  (q13z n (v139, o141, ())).bind fun (y142, _) =>
  (q13z n (o141, v139, ())).bind fun (y143, _) => some (y142, y143, (0 : Int), ())) n o3 (t3 ++ sortL ltP o3) c1.snd (fun k hk => by
    rcases List.mem_append.1 hk with h | h
    · exact (c1.tin k h).elim (fun h => by cases h) id
    · exact (sortL_perm ltP o3).mem_iff.1 h) (fun x y h => by
    obtain ⟨e, he, hk, rfl, rfl⟩ := h
    exact c2 e he hk) (fun k hk => .inl (List.mem_append.2 (.inr ((sortL_perm ltP o3).mem_iff.2 hk)))) (by rw [List.length_append]; omega) (by rw [List.length_append]; omega)
  refine k3.trans ?_
  dsimp only
  have lk : ks.length ≤ 1600 := prod_le k1 (fun k h => ⟨hE.p ((k2 k).1 h), hE.q ((k2 k).1 h)⟩) hN
  rw [change_3 n bef ks (by omega) (by omega), Option.bind_some]
  dsimp only
  rw [change_3 n ks bef (by omega) (by omega), Option.bind_some]
  dsimp only
  rw [fil_perm b1 nA (fun k => by rw [b2, mA]) (B := ks) (B' := B) (fun k => by rw [k2, mB]), fil_perm k1 nB (fun k => by rw [k2, mB]) (B := bef) (B' := A) (fun k => by rw [b2, mA])]
theorem change_err (n : Nat) (hn : 100100 ≤ n) (a b : Graph) (kind : ByteArray) (h : (chkG a != 0) = true ∨ (chkG b != 0) = true) : q17z n (a, b, kind, ()) = some ([], [], bif chkG a != 0 then chkG a else chkG b, ()) := by
  obtain ⟨m, hm⟩ : ∃ m, n = m + 3 := ⟨n - 3, by omega⟩
  unfold q17z
  dsimp only
  rw [Graph.eta, Graph.eta]
  have hs0 := fun {ρ : Type} K KR => change_s0 n m (by omega) a b kind (ρ := ρ) K KR
  rw [← hm] at hs0
  rw [hs0]
  cases h1 : chkG a != 0 with
  | true => rfl
  | false =>
    rw [h1] at h
    have h2 := h.resolve_left (by simp)
    rw [h2]
    rfl
end Pure

/- Plain: what goes from one graph to another comes from the other to the one. No program. -/
namespace Pure
open Esp Ev Go
set_option linter.unusedSimpArgs false
set_option linter.unusedVariables false
set_option linter.unusedSimpArgs false
set_option linter.unusedVariables false
theorem cut_len {A B : List Ev.Pair} : (A.filter fun k => decide (k ∉ B)).length + (A.filter fun k => decide (k ∈ B)).length = A.length := by
  induction A with
  | nil => rfl
  | cons x r ih =>
    rw [List.filter_cons, List.filter_cons]
    by_cases h : x ∈ B
    · simp [h]; simp at ih; omega
    · simp [h]; simp at ih; omega
theorem both_len {A B : List Ev.Pair} (hA : A.Nodup) (hB : B.Nodup) : (A.filter fun k => decide (k ∈ B)).length = (B.filter fun k => decide (k ∈ A)).length :=
  (perm_of (hA.sublist List.filter_sublist) (hB.sublist List.filter_sublist) fun k => by rw [List.mem_filter, List.mem_filter, decide_eq_true_iff, decide_eq_true_iff, and_comm]).length_eq
theorem ReachTurns_ok (a b : Graph) (kind : ByteArray) (n : Nat) (hn : 100100 ≤ n) : q5z n (a, b, kind, ()) = some (true, ()) := by
  unfold q5z
  dsimp only
  rw [Graph.eta, Graph.eta]
  by_cases hab : chkG a = 0 ∧ chkG b = 0
  · obtain ⟨ha, hb⟩ := hab
    obtain ⟨A, nA, mA, lA, eA⟩ := all_ok n hn a kind ha
    obtain ⟨B, nB, mB, lB, eB⟩ := all_ok n hn b kind hb
    have hfA : (A.filter fun k => decide (k ∉ B)).length ≤ 1600 := Nat.le_trans (List.length_filter_le _ _) lA
    have hfB : (B.filter fun k => decide (k ∉ A)).length ≤ 1600 := Nat.le_trans (List.length_filter_le _ _) lB
    have h1 := cut_len (A := A) (B := B)
    have h2 := cut_len (A := B) (B := A)
    have h3 := both_len nA nB
    rw [change_ok n hn a b kind ha hb A B nA nB mA mB, Option.bind_some]
    dsimp only
    rw [change_ok n hn b a kind hb ha B A nB nA mB mA, Option.bind_some]
    dsimp only
    rw [reachedF n hn, Option.bind_some]
    dsimp only
    rw [show ((!true || ((0 : Int) != 0)) || ((0 : Int) != 0)) = false from rfl, cond_false, eA, Option.bind_some]
    dsimp only
    rw [eB, Option.bind_some]
    dsimp only
    rw [show (((0 : Int) == 0) && ((0 : Int) == 0)) = true from rfl, cond_true, equalP_ok _ n (by rw [sortL_length]; omega) (by rw [sortL_length]; omega), Option.bind_some]
    dsimp only
    rw [cond_true, equalP_ok _ n (by rw [sortL_length]; omega) (by rw [sortL_length]; omega), Option.bind_some]
    dsimp only
    simp only [sortL_length]
    rw [wrap64 (x := (A.length : Int) - _) (by omega) (by omega), wrap64 (by omega) (by omega), Bool.true_and]
    rw [show ((A.length : Int) - ((A.filter fun k => decide (k ∉ B)).length : Int) + ((B.filter fun k => decide (k ∉ A)).length : Int) == (B.length : Int)) = true by rw [beq_iff_eq]; omega]
  · have h : (chkG a != 0) = true ∨ (chkG b != 0) = true := by
      by_cases h1 : chkG a = 0
      · right
        have : chkG b ≠ 0 := fun h2 => hab ⟨h1, h2⟩
        simpa using this
      · left; simpa using h1
    have key : (((!true) || (((bif chkG a != 0 then chkG a else chkG b) : Int) != 0)) || (((bif chkG b != 0 then chkG b else chkG a) : Int) != 0)) = true := by
      cases h1 : chkG a != 0 with
      | true => rw [cond_true, h1]; rfl
      | false =>
        rw [h1] at h
        have h2 := h.resolve_left (by simp)
        rw [cond_false, h2]
        rfl
    rw [change_err n hn a b kind h, Option.bind_some]
    dsimp only
    rw [change_err n hn b a kind h.symm, Option.bind_some]
    dsimp only
    rw [reachedF n hn, Option.bind_some]
    dsimp only
    rw [key]
    rfl
end Pure

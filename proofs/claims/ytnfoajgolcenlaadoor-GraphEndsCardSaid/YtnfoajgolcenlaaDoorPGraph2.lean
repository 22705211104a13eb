
/- Graphs: one check as the other. No program. -/
import Derived.Test.YtnfoajgolcenlaaDoorPGraph
namespace Pure
open Esp Ev Go
set_option linter.unusedSimpArgs false
set_option linter.unusedVariables false
set_option linter.unusedSimpArgs false
set_option linter.unusedVariables false

/-! ## halving -/
theorem half {i j : Int} (h0 : 0 ≤ i) (h1 : 0 ≤ j) (h2 : i + j ≤ 4611686018427387904) : IntKind.wrap .i64 (bshr .u64 (IntKind.wrap .u64 (IntKind.wrap .i64 (i + j))) 1) = (i + j) / 2 := by
  rw [wrap64 (x := i + j) (by omega) (by omega), wrapU64 (x := i + j) (by omega) (by omega)]
  have : bshr .u64 (i + j) 1 = (i + j) / 2 := by
    unfold bshr
    rw [show (2 : Int) ^ (min (1 : Int).toNat IntKind.u64.bits) = 2 from rfl, Int.fdiv_eq_ediv_of_nonneg _ (by omega)]
  rw [this, wrap64 (by omega) (by omega)]
def cmpI (a b : Int) : Int := bif decide (a < b) then -1 else bif decide (a > b) then 1 else 0
theorem cmp_int_ok (a b : Int) : cmp_Compare_int (a, b, ()) = some (cmpI a b, ()) := by
  unfold cmp_Compare_int cmp_isNaN_int cmpI
  have : ∀ x : Int, (x != x) = false := fun x => by simp
  simp only [Option.bind_some, this, cond_false]
  cases decide (a < b) <;> cases decide (a > b) <;> rfl
theorem cmpI_neg (a b : Int) : decide (cmpI a b < 0) = decide (a < b) := by
  unfold cmpI
  by_cases h : a < b
  · simp [h]
  · by_cases h2 : a > b <;> simp [h, h2]
theorem cmpI_zero (a b : Int) : (cmpI a b == 0) = decide (a = b) := by
  unfold cmpI
  by_cases h : a < b
  · simp [h]; omega
  · by_cases h2 : a > b
    · simp [h, h2]; omega
    · simp [h, h2]; omega
def Rise {α : Type} (idf : α → Int) (l : List α) : Prop := l.Pairwise fun x y => idf x < idf y
theorem bin_iter {α τ ρ : Type} (l : List α) (idf : α → Int) (t : Int) (cmpf : α → Option (Int × Unit)) (hc : ∀ x, cmpf x = some (cmpI (idf x) t, ())) (enc : Int → Int → τ) (step : (τ → Option ρ) → τ → Option ρ) (kx : Int → Option ρ)
    (h : ∀ rec i j, step rec (enc i j) = bif decide (i < j) then (ix l (IntKind.wrap .i64 (bshr .u64 (IntKind.wrap .u64 (IntKind.wrap .i64 (i + j))) 1))).bind fun x => (cmpf x).bind fun y => bif decide (y.1 < 0) then rec (enc (IntKind.wrap .i64 ((IntKind.wrap .i64 (bshr .u64 (IntKind.wrap .u64 (IntKind.wrap .i64 (i + j))) 1)) + 1)) j) else rec (enc i (IntKind.wrap .i64 (bshr .u64 (IntKind.wrap .u64 (IntKind.wrap .i64 (i + j))) 1))) else kx i)
    (hr : Rise idf l) (hl : l.length ≤ 1000000) :
    ∀ (fuel : Nat) (i j : Nat), i ≤ j → j ≤ l.length → j - i < fuel → (∀ (q : Nat) x, l[q]? = some x → q < i → idf x < t) → (∀ (q : Nat) x, l[q]? = some x → j ≤ q → t ≤ idf x) →
      ∃ k : Nat, iterN step fuel (enc i j) = kx k ∧ k ≤ l.length ∧ (∀ (q : Nat) x, l[q]? = some x → q < k → idf x < t) ∧ (∀ (q : Nat) x, l[q]? = some x → k ≤ q → t ≤ idf x) := by
  intro fuel
  induction fuel with
  | zero => intro i j _ _ hf; omega
  | succ m ih =>
    intro i j hij hj hf h1 h2
    rw [iterN, h]
    by_cases hlt : i < j
    · have e : decide ((i : Int) < (j : Int)) = true := by rw [decide_eq_true_iff]; omega
      have hh : ((i : Int) + (j : Int)) / 2 = (((i + j) / 2 : Nat) : Int) := by omega
      rw [e, cond_true, half (by omega) (by omega) (by omega), hh]
      have hq : (i + j) / 2 < l.length := by omega
      have e2 : ix l (((i + j) / 2 : Nat) : Int) = some l[(i + j) / 2] := ix_ok (List.getElem?_eq_getElem hq)
      rw [e2, Option.bind_some, hc, Option.bind_some]
      dsimp only
      rw [cmpI_neg]
      have hp := List.pairwise_iff_getElem.1 hr
      by_cases hx : idf l[(i + j) / 2] < t
      · rw [decide_eq_true hx, cond_true, wrap64 (by omega) (by omega)]
        refine ih ((i + j) / 2 + 1) j (by omega) hj (by omega) (fun q x hqx hlt2 => ?_) h2
        obtain ⟨hql, rfl⟩ := List.getElem?_eq_some_iff.1 hqx
        by_cases hqe : q = (i + j) / 2
        · subst hqe; exact hx
        · have := hp q ((i + j) / 2) hql hq (by omega)
          omega
      · rw [decide_eq_false hx, cond_false]
        refine ih i ((i + j) / 2) (by omega) (by omega) (by omega) h1 fun q x hqx hle => ?_
        obtain ⟨hql, rfl⟩ := List.getElem?_eq_some_iff.1 hqx
        by_cases hqe : q = (i + j) / 2
        · subst hqe; omega
        · have := hp ((i + j) / 2) q hq hql (by omega)
          omega
    · have hije : i = j := by omega
      subst hije
      rw [decide_eq_false (by omega), cond_false]
      exact ⟨i, rfl, hj, h1, h2⟩
/-- what is found: a place, or none -/
def Found {α : Type} (l : List α) (o : Option α) (k : Int) : Prop := (k = -1 ∧ o = none) ∨ (0 ≤ k ∧ ∃ x, ix l k = some x ∧ o = some x)
theorem Found.ge {α : Type} {l : List α} {o : Option α} {k : Int} (h : Found l o k) : decide (k ≥ 0) = o.isSome := by
  rcases h with ⟨rfl, rfl⟩ | ⟨h, x, _, rfl⟩
  · rfl
  · simp; omega
theorem Found.lt {α : Type} {l : List α} {o : Option α} {k : Int} (h : Found l o k) : decide (k < 0) = o.isNone := by
  rcases h with ⟨rfl, rfl⟩ | ⟨h, x, _, rfl⟩
  · rfl
  · simp; omega
theorem find_rise {α : Type} {idf : α → Int} {l : List α} (hr : Rise idf l) {x : α} {t : Int} (hx : x ∈ l) (he : idf x = t) : l.find? (fun y => idf y == t) = some x := by
  induction l with
  | nil => cases hx
  | cons y r ih =>
    rw [List.find?_cons]
    have hp := List.pairwise_cons.1 hr
    rcases List.mem_cons.1 hx with rfl | hx
    · simp [he]
    · have := hp.1 x hx
      have h0 : (idf y == t) = false := by simp; omega
      rw [h0]
      exact ih hp.2 hx
theorem found_of {α : Type} {idf : α → Int} {l : List α} {t : Int} (hr : Rise idf l) {k : Nat} (hk : k ≤ l.length) (h1 : ∀ (q : Nat) x, l[q]? = some x → q < k → idf x < t) (h2 : ∀ (q : Nat) x, l[q]? = some x → k ≤ q → t ≤ idf x) (hx : ∀ x, l[k]? = some x → idf x ≠ t) :
    l.find? (fun y => idf y == t) = none := by
  rw [List.find?_eq_none]
  intro x hm hq
  have hq : idf x = t := by simpa using hq
  obtain ⟨q, hq1, rfl⟩ := List.getElem_of_mem hm
  have hq2 := List.getElem?_eq_getElem hq1
  rcases Nat.lt_trichotomy q k with h | h | h
  · have := h1 q _ hq2 h; omega
  · subst h; exact hx _ hq2 hq
  · have hkl : k < l.length := by omega
    have e1 := h2 k _ (List.getElem?_eq_getElem hkl) (Nat.le_refl _)
    have := List.pairwise_iff_getElem.1 hr k q hkl hq1 h
    omega
def nodeIn (l : List Ev.Node) (t : Int) : Option Ev.Node := l.find? fun y => y.id == t
def edgeIn (l : List Edg) (t : Int) : Option Edg := l.find? fun y => y.id == t

theorem find_ok (g : Graph) (t : Int) (n : Nat) (hr : Rise Ev.Node.id g.nodes) (hl : g.nodes.length ≤ 40) (hn : 50 ≤ n) : ∃ k, graph_Find n (g, t, ()) = some (k, ()) ∧ Found g.nodes (nodeIn g.nodes t) k := by
  have hc : ∀ x : Ev.Node, graph_Find_1 ((Ev.Node.mk x.id x.labels x.props), t, ()) = some (cmpI x.id t, ()) := fun x => by
    unfold graph_Find_1
    simp only [cmp_int_ok, Option.bind_some]
  obtain ⟨k, h1, h2, h3, h4⟩ := bin_iter (ρ := Int × Bool × Unit) g.nodes Ev.Node.id t (fun x => graph_Find_1 ((Ev.Node.mk x.id x.labels x.props), t, ())) hc (fun i j => (g.nodes, t, (g.nodes.length : Int), i, j, ()))
    (fun rec => slices_BinarySearchFunc_api_Node_api_Node_int_graph_Find_1_s0 n rec (fun (v10, v11, v12, v13, _) => 
  (bif decide ((v13 : Int) < v12) then 
  (ix v10 v13).bind fun x14 => 
  (graph_Find_1 ((Ev.Node.mk x14.id x14.labels x14.props), v11, ())).bind fun (y15, _) => some (v13, (y15 : Int) == 0, ())
  else some (v13, false, ()))) (fun (_) => none)) (fun i => bif decide ((i : Int) < (g.nodes.length : Int)) then 
  (ix g.nodes i).bind fun x14 => 
  (graph_Find_1 ((Ev.Node.mk x14.id x14.labels x14.props), t, ())).bind fun (y15, _) => some (i, (y15 : Int) == 0, ())
  else some (i, false, ())) (fun rec i j => rfl) hr (by omega) n 0 g.nodes.length (by omega) (by omega) (by omega) (fun q x _ h => absurd h (by omega)) (fun q x h h' => by
    obtain ⟨h5, _⟩ := List.getElem?_eq_some_iff.1 h; omega)
  have e0 : slices_BinarySearchFunc_api_Node_api_Node_int_graph_Find_1 n (g.nodes, t, ()) = _ := h1
  unfold graph_Find
  dsimp only
  rw [e0]
  by_cases hk : k < g.nodes.length
  · have e2 : ix g.nodes (k : Int) = some g.nodes[k] := ix_ok (List.getElem?_eq_getElem hk)
    rw [decide_eq_true (by omega), cond_true, e2, Option.bind_some, hc, Option.bind_some]
    dsimp only
    rw [Option.bind_some, cmpI_zero]
    dsimp only
    by_cases he : g.nodes[k].id = t
    · rw [decide_eq_true he]
      exact ⟨k, rfl, .inr ⟨by omega, _, e2, find_rise hr (List.getElem_mem hk) he⟩⟩
    · rw [decide_eq_false he]
      refine ⟨-1, rfl, .inl ⟨rfl, found_of hr h2 h3 h4 fun x hx => ?_⟩⟩
      rw [List.getElem?_eq_getElem hk] at hx
      cases hx
      exact he
  · rw [decide_eq_false (by omega), cond_false, Option.bind_some]
    refine ⟨-1, rfl, .inl ⟨rfl, found_of hr h2 h3 h4 fun x hx => ?_⟩⟩
    obtain ⟨h5, _⟩ := List.getElem?_eq_some_iff.1 hx
    omega
theorem findE_ok (g : Graph) (t : Int) (n : Nat) (hr : Rise Edg.id g.edges) (hl : g.edges.length ≤ 60) (hn : 70 ≤ n) : ∃ k, graph_FindEdge n (g, t, ()) = some (k, ()) ∧ Found g.edges (edgeIn g.edges t) k := by
  have hc : ∀ x : Edg, graph_FindEdge_1 ((Edg.mk x.id x.src x.dst x.type x.props), t, ()) = some (cmpI x.id t, ()) := fun x => by
    unfold graph_FindEdge_1
    simp only [cmp_int_ok, Option.bind_some]
  obtain ⟨k, h1, h2, h3, h4⟩ := bin_iter (ρ := Int × Bool × Unit) g.edges Edg.id t (fun x => graph_FindEdge_1 ((Edg.mk x.id x.src x.dst x.type x.props), t, ())) hc (fun i j => (g.edges, t, (g.edges.length : Int), i, j, ()))
    (fun rec => slices_BinarySearchFunc_api_Edge_api_Edge_int_graph_FindEdge_1_s0 n rec (fun (v10, v11, v12, v13, _) => 
  (bif decide ((v13 : Int) < v12) then 
  (ix v10 v13).bind fun x14 => 
  (graph_FindEdge_1 ((Ev.Edg.mk x14.id x14.src x14.dst x14.type x14.props), v11, ())).bind fun (y15, _) => some (v13, (y15 : Int) == 0, ())
  else some (v13, false, ()))) (fun (_) => none)) (fun i => bif decide ((i : Int) < (g.edges.length : Int)) then 
  (ix g.edges i).bind fun x14 => 
  (graph_FindEdge_1 ((Ev.Edg.mk x14.id x14.src x14.dst x14.type x14.props), t, ())).bind fun (y15, _) => some (i, (y15 : Int) == 0, ())
  else some (i, false, ())) (fun rec i j => rfl) hr (by omega) n 0 g.edges.length (by omega) (by omega) (by omega) (fun q x _ h => absurd h (by omega)) (fun q x h h' => by
    obtain ⟨h5, _⟩ := List.getElem?_eq_some_iff.1 h; omega)
  have e0 : slices_BinarySearchFunc_api_Edge_api_Edge_int_graph_FindEdge_1 n (g.edges, t, ()) = _ := h1
  unfold graph_FindEdge
  dsimp only
  rw [e0]
  by_cases hk : k < g.edges.length
  · have e2 : ix g.edges (k : Int) = some g.edges[k] := ix_ok (List.getElem?_eq_getElem hk)
    rw [decide_eq_true (by omega), cond_true, e2, Option.bind_some, hc, Option.bind_some]
    dsimp only
    rw [Option.bind_some, cmpI_zero]
    dsimp only
    by_cases he : g.edges[k].id = t
    · rw [decide_eq_true he]
      exact ⟨k, rfl, .inr ⟨by omega, _, e2, find_rise hr (List.getElem_mem hk) he⟩⟩
    · rw [decide_eq_false he]
      refine ⟨-1, rfl, .inl ⟨rfl, found_of hr h2 h3 h4 fun x hx => ?_⟩⟩
      rw [List.getElem?_eq_getElem hk] at hx
      cases hx
      exact he
  · rw [decide_eq_false (by omega), cond_false, Option.bind_some]
    refine ⟨-1, rfl, .inl ⟨rfl, found_of hr h2 h3 h4 fun x hx => ?_⟩⟩
    obtain ⟨h5, _⟩ := List.getElem?_eq_some_iff.1 hx
    omega
end Pure

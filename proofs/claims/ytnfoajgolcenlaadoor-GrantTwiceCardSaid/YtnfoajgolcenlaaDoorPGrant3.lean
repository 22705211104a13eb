
/- The laws on who sees what. No program. -/
import Derived.Test.YtnfoajgolcenlaaDoorPGrant2
namespace Pure
open Esp Ev Go
set_option linter.unusedSimpArgs false
set_option linter.unusedVariables false
set_option linter.unusedSimpArgs false
set_option linter.unusedVariables false

/-! ## what is seen is in order -/
theorem bnez {a : Int} (h : a ≠ 0) : (a != 0) = true := by simpa using h
theorem nodF_cons {x : Ev.Node} {r : List Ev.Node} {last : Int} : nodF last (x :: r) = 0 ↔ last < x.id ∧ orE (labE x.labels) (prpE x.props) = 0 ∧ nodF x.id r = 0 := by
  rw [nodF]
  by_cases h1 : x.id ≤ last
  · rw [decide_eq_true h1, cond_true]
    constructor
    · intro h; cases h
    · intro h; omega
  · rw [decide_eq_false h1, cond_false]
    by_cases h2 : orE (labE x.labels) (prpE x.props) = 0
    · rw [h2]; simp only [bne_self_eq_false, cond_false]
      constructor
      · intro h; exact ⟨by omega, trivial, h⟩
      · intro h; exact h.2.2
    · rw [show (orE (labE x.labels) (prpE x.props) != 0) = true by simpa using h2, cond_true]
      constructor
      · intro h; exact absurd h h2
      · intro h; exact absurd h.2.1 h2
theorem nodF_mono : ∀ {l : List Ev.Node} {a b : Int}, a ≤ b → nodF b l = 0 → nodF a l = 0
  | [], _, _, _, _ => rfl
  | x :: r, a, b, h, h2 => by
    rw [nodF_cons] at h2 ⊢
    exact ⟨by omega, h2.2⟩
theorem nodF_filter (p : Ev.Node → Bool) : ∀ {l : List Ev.Node} {a : Int}, nodF a l = 0 → nodF a (l.filter p) = 0
  | [], _, _ => rfl
  | x :: r, a, h => by
    rw [nodF_cons] at h
    rw [List.filter_cons]
    have ih := nodF_filter p h.2.2
    cases p x
    · exact nodF_mono (by omega) ih
    · exact nodF_cons.2 ⟨h.1, h.2.1, ih⟩
theorem nodL_le : ∀ {l : List Ev.Node} {a : Int}, nodF a l = 0 → a ≤ nodL a l
  | [], a, _ => Int.le_refl _
  | x :: r, a, h => by
    rw [nodF_cons] at h
    have := nodL_le h.2.2
    rw [nodL]
    omega
theorem nodL_mono : ∀ {l : List Ev.Node} {a b : Int}, a ≤ b → nodL a l ≤ nodL b l
  | [], _, _, h => h
  | x :: r, _, _, _ => by rw [nodL, nodL]; exact Int.le_refl _
theorem nodL_filter (p : Ev.Node → Bool) : ∀ {l : List Ev.Node} {a : Int}, nodF a l = 0 → nodL a (l.filter p) ≤ nodL a l
  | [], _, _ => Int.le_refl _
  | x :: r, a, h => by
    rw [nodF_cons] at h
    rw [List.filter_cons, nodL]
    have ih := nodL_filter p h.2.2
    cases p x
    · exact Int.le_trans (nodL_mono (by omega)) ih
    · exact ih
theorem edgF_cons {nodes : List Ev.Node} {x : Edg} {r : List Edg} {last : Int} : edgF nodes last (x :: r) = 0 ↔ last < x.id ∧ (nodeIn nodes x.id).isSome = false ∧ nmB x.type = true ∧ (nodeIn nodes x.src).isNone = false ∧ (nodeIn nodes x.dst).isNone = false ∧ prpE x.props = 0 ∧ edgF nodes x.id r = 0 := by
  rw [edgF]
  by_cases h1 : x.id ≤ last
  · rw [decide_eq_true h1, cond_true]
    constructor
    · intro h; cases h
    · intro h; omega
  · have h1' : last < x.id := by omega
    rw [decide_eq_false h1, cond_false]
    simp only [h1', true_and]
    cases (nodeIn nodes x.id).isSome <;> cases nmB x.type <;> cases (nodeIn nodes x.src).isNone <;> cases (nodeIn nodes x.dst).isNone <;> try (simp; done)
    by_cases h2 : prpE x.props = 0
    · simp [h2]
    · rw [bnez h2, cond_true]; simp [h2]
theorem edgF_mono {nodes : List Ev.Node} : ∀ {l : List Edg} {a b : Int}, a ≤ b → edgF nodes b l = 0 → edgF nodes a l = 0
  | [], _, _, _, _ => rfl
  | x :: r, a, b, h, h2 => by
    rw [edgF_cons] at h2 ⊢
    exact ⟨by omega, h2.2⟩
theorem edgL_mono : ∀ {l : List Edg} {a b : Int}, a ≤ b → edgL a l ≤ edgL b l
  | [], _, _, h => h
  | x :: r, _, _, _ => by rw [edgL, edgL]; exact Int.le_refl _
theorem edgL_filter {nodes : List Ev.Node} (p : Edg → Bool) : ∀ {l : List Edg} {a : Int}, edgF nodes a l = 0 → edgL a (l.filter p) ≤ edgL a l
  | [], _, _ => Int.le_refl _
  | x :: r, a, h => by
    rw [edgF_cons] at h
    rw [List.filter_cons, edgL]
    have ih := edgL_filter p h.2.2.2.2.2.2
    cases p x
    · exact Int.le_trans (edgL_mono (by omega)) ih
    · exact ih
theorem nodeIn_filter {l : List Ev.Node} {p : Ev.Node → Bool} {t : Int} (h : (nodeIn l t).isSome = false) : (nodeIn (l.filter p) t).isSome = false := by
  unfold nodeIn at h ⊢
  cases h1 : (l.filter p).find? (fun y => y.id == t) with
  | none => rfl
  | some y =>
    have h2 := List.mem_of_find?_eq_some h1
    have h3 := List.find?_some h1
    have h4 : l.find? (fun y => y.id == t) = none := by
      cases h5 : l.find? (fun y => y.id == t) with
      | none => rfl
      | some z => rw [h5] at h; cases h
    rw [List.find?_eq_none] at h4
    exact absurd h3 (h4 y (List.mem_filter.1 h2).1)
theorem edgF_filter {nodes : List Ev.Node} (q : Ev.Node → Bool) : ∀ {l : List Edg} {a : Int}, edgF nodes a l = 0 → edgF (nodes.filter q) a (l.filter (both (nodes.filter q))) = 0
  | [], _, _ => rfl
  | x :: r, a, h => by
    rw [edgF_cons] at h
    rw [List.filter_cons]
    have ih := edgF_filter q h.2.2.2.2.2.2
    cases hp : both (nodes.filter q) x
    · exact edgF_mono (by omega) ih
    · unfold both at hp
      rw [Bool.and_eq_true] at hp
      refine edgF_cons.2 ⟨h.1, nodeIn_filter h.2.1, h.2.2.1, ?_, ?_, h.2.2.2.2.2.1, ih⟩
      · have := hp.1
        cases hh : nodeIn (nodes.filter q) x.src with
        | none => rw [hh] at this; cases this
        | some _ => rfl
      · have := hp.2
        cases hh : nodeIn (nodes.filter q) x.dst with
        | none => rw [hh] at this; cases this
        | some _ => rfl
theorem chkG_iff {g : Graph} : chkG g = 0 ↔ g.nodes.length ≤ 40 ∧ g.edges.length ≤ 60 ∧ nodF 0 g.nodes = 0 ∧ edgF g.nodes 0 g.edges = 0 ∧ maxI (edgL 0 g.edges) (nodL 0 g.nodes) < g.next ∧ g.next ≤ 1099511627776 := by
  constructor
  · intro h
    obtain ⟨h1, h2, h3, h4⟩ := chkG_0 h
    unfold chkG at h
    have e1 : ((decide ((g.nodes.length : Int) > 40)) || (decide ((g.edges.length : Int) > 60))) = false := by
      rw [Bool.or_eq_false_iff]
      exact ⟨decide_eq_false (by omega), decide_eq_false (by omega)⟩
    rw [e1, h3, h4] at h
    simp only [bne_self_eq_false, cond_false] at h
    cases h5 : (decide ((g.next : Int) ≤ maxI (edgL 0 g.edges) (nodL 0 g.nodes))) || (decide ((g.next : Int) > 1099511627776)) with
    | true => rw [h5] at h; cases h
    | false =>
      have h6 := of_decide_eq_false (Bool.or_eq_false_iff.1 h5).1
      have h7 := of_decide_eq_false (Bool.or_eq_false_iff.1 h5).2
      exact ⟨h1, h2, h3, h4, by omega, by omega⟩
  · rintro ⟨h1, h2, h3, h4, h5, h6⟩
    unfold chkG
    rw [decide_eq_false (show ¬ ((g.nodes.length : Int) > 40) by omega), decide_eq_false (show ¬ ((g.edges.length : Int) > 60) by omega), h3, h4,
      decide_eq_false (show ¬ ((g.next : Int) ≤ maxI (edgL 0 g.edges) (nodL 0 g.nodes)) by omega), decide_eq_false (show ¬ ((g.next : Int) > 1099511627776) by omega)]
    rfl
theorem chkG_see (ls : List ByteArray) {g : Graph} (h : chkG g = 0) : chkG (seeG ls g) = 0 := by
  rw [chkG_iff] at h ⊢
  obtain ⟨h1, h2, h3, h4, h5, h6⟩ := h
  refine ⟨Nat.le_trans (List.length_filter_le _ _) h1, Nat.le_trans (List.length_filter_le _ _) h2, nodF_filter _ h3, edgF_filter _ h4, ?_, h6⟩
  have a1 := nodL_filter (fun x => seesP ls x.labels) h3
  have a2 := edgL_filter (both (ndS ls g)) h4
  have a3 : (seeG ls g).next = g.next := rfl
  have a4 : nodL 0 (seeG ls g).nodes ≤ nodL 0 g.nodes := a1
  have a5 : edgL 0 (seeG ls g).edges ≤ edgL 0 g.edges := a2
  rw [a3]
  unfold maxI at h5 ⊢
  split at h5 <;> split <;> omega
theorem see_see (ls : List ByteArray) (g : Graph) : seeG ls (seeG ls g) = seeG ls g := by
  have h1 : ndS ls (seeG ls g) = ndS ls g := by
    show ((g.nodes.filter fun x => seesP ls x.labels).filter fun x => seesP ls x.labels) = _
    rw [List.filter_filter]
    simp only [Bool.and_self]
    rfl
  have h2 : edS ls (seeG ls g) = edS ls g := by
    unfold edS
    rw [h1]
    show ((g.edges.filter (both (ndS ls g))).filter (both (ndS ls g))) = _
    rw [List.filter_filter]
    simp only [Bool.and_self]
  show Graph.mk _ _ _ = Graph.mk _ _ _
  rw [h1, h2]
  rfl

/-! ## a graph is the same as itself -/
theorem sameP_ok (l : List Prp) (n : Nat) (hn : 60 ≤ n) (h : prpE l = 0) (hw : ∀ x ∈ l, pOk x) : espalierref_SameProps n (l, l, ()) = some (true, ()) := by
  obtain ⟨h6, hc⟩ := prpE_0 h
  have e : slices_EqualFunc_api_Prop_api_Prop_api_Prop_api_Prop_espalierref_SameProps_1 n (l, l, ()) = some (true, ()) := by
    unfold slices_EqualFunc_api_Prop_api_Prop_api_Prop_api_Prop_espalierref_SameProps_1
    dsimp only
    rw [show ((l.length : Int) != (l.length : Int)) = false by simp, cond_false]
    refine (range_list l (fun i (u : Unit) => (l, l, (l.length : Int), i, ())) _ (fun (i : Int) (x : Prp) (u : Unit) (rec : Unit → Option (Bool × Unit)) => (ix l i).bind fun y => (espalierref_SameProps_1 n (x, y, ())).bind fun b => bif !b.1 then some (false, ()) else rec ()) (fun _ => some (true, ())) (fun rec i u => rfl) (by omega) n () (by omega)).trans ?_
    refine self_fold l _ _ (fun x hx i rec hi => ?_) l [] rfl
    rw [hi, Option.bind_some]
    have e1 : espalierref_SameProps_1 n (x, x, ()) = some (true, ()) := by
      unfold espalierref_SameProps_1
      dsimp only
      rw [seq_refl, cond_true, Val.eta, same_ok (right_of x.val 1 (hw x hx).2 (hc x hx)) n (by omega)]
      rfl
    rw [e1]
    rfl
  unfold espalierref_SameProps
  dsimp only
  rw [e]
  rfl
theorem equalS_ok (l : List ByteArray) (n : Nat) (hn : 60 ≤ n) (h : l.length ≤ 4) : slices_Equal_string_string n (l, l, ()) = some (true, ()) := by
  unfold slices_Equal_string_string
  dsimp only
  rw [show ((l.length : Int) != (l.length : Int)) = false by simp, cond_false]
  refine (range_list l (fun i (u : Unit) => (l, l, (l.length : Int), i, ())) _ (fun (i : Int) (x : ByteArray) (u : Unit) (rec : Unit → Option (Bool × Unit)) => (ix l i).bind fun y => bif !(seq x y) then some (false, ()) else rec ()) (fun _ => some (true, ())) (fun rec i u => rfl) (by omega) n () (by omega)).trans ?_
  refine self_fold l _ _ (fun x hx i rec hi => ?_) l [] rfl
  rw [hi, Option.bind_some, seq_refl]
  rfl
theorem sameN_ok (x : Ev.Node) (n : Nat) (hn : 60 ≤ n) (h : nodeS x) (hw : nOk x) : espalierref_SameNode n (x, x, ()) = some (true, ()) := by
  unfold espalierref_SameNode
  dsimp only
  rw [beq_self_eq_true, cond_true, equalS_ok x.labels n hn h.lab, Option.bind_some]
  dsimp only
  rw [cond_true, sameP_ok x.props n hn h.prp hw.2.2.2]
  rfl
theorem sameE_ok (x : Edg) (n : Nat) (hn : 60 ≤ n) (h : prpE x.props = 0) (hw : eOk x) : espalierref_SameEdge n (x, x, ()) = some (true, ()) := by
  unfold espalierref_SameEdge
  dsimp only
  rw [beq_self_eq_true, beq_self_eq_true, beq_self_eq_true, seq_refl, sameP_ok x.props n hn h hw.2.2.2.2.2]
  rfl
theorem sameG_ok (g : Graph) (n : Nat) (hn : 100 ≤ n) (h : graphS g) (hw : gOk g) : espalierref_SameGraph n (g, g, ()) = some (true, ()) := by
  have hnl := h.nl
  have hel := h.el
  have e1 : slices_EqualFunc_api_Node_api_Node_api_Node_api_Node_espalierref_SameNode n (g.nodes, g.nodes, ()) = some (true, ()) := by
    unfold slices_EqualFunc_api_Node_api_Node_api_Node_api_Node_espalierref_SameNode
    dsimp only
    rw [show ((g.nodes.length : Int) != (g.nodes.length : Int)) = false by simp, cond_false]
    refine (range_list g.nodes (fun i (u : Unit) => (g.nodes, g.nodes, (g.nodes.length : Int), i, ())) _ (fun (i : Int) (x : Ev.Node) (u : Unit) (rec : Unit → Option (Bool × Unit)) => (ix g.nodes i).bind fun y => (espalierref_SameNode n (x, y, ())).bind fun b => bif !b.1 then some (false, ()) else rec ()) (fun _ => some (true, ())) (fun rec i u => rfl) (by omega) n () (by omega)).trans ?_
    refine self_fold g.nodes _ _ (fun x hx i rec hi => ?_) g.nodes [] rfl
    rw [hi, Option.bind_some, sameN_ok x n (by omega) (h.nd x hx) (hw.1.2 x hx)]
    rfl
  have e2 : slices_EqualFunc_api_Edge_api_Edge_api_Edge_api_Edge_espalierref_SameEdge n (g.edges, g.edges, ()) = some (true, ()) := by
    unfold slices_EqualFunc_api_Edge_api_Edge_api_Edge_api_Edge_espalierref_SameEdge
    dsimp only
    rw [show ((g.edges.length : Int) != (g.edges.length : Int)) = false by simp, cond_false]
    refine (range_list g.edges (fun i (u : Unit) => (g.edges, g.edges, (g.edges.length : Int), i, ())) _ (fun (i : Int) (x : Edg) (u : Unit) (rec : Unit → Option (Bool × Unit)) => (ix g.edges i).bind fun y => (espalierref_SameEdge n (x, y, ())).bind fun b => bif !b.1 then some (false, ()) else rec ()) (fun _ => some (true, ())) (fun rec i u => rfl) (by omega) n () (by omega)).trans ?_
    refine self_fold g.edges _ _ (fun x hx i rec hi => ?_) g.edges [] rfl
    rw [hi, Option.bind_some, sameE_ok x n (by omega) (h.ed x hx) (hw.2.1.2 x hx)]
    rfl
  unfold espalierref_SameGraph
  dsimp only
  rw [beq_self_eq_true, cond_true, e1, Option.bind_some]
  dsimp only
  rw [cond_true, e2]
  rfl
theorem gOk_see (ls : List ByteArray) {g : Graph} (h : gOk g) : gOk (seeG ls g) :=
  ⟨⟨Nat.le_trans (List.length_filter_le _ _) h.1.1, fun x hx => h.1.2 x ((List.mem_filter.1 hx).1)⟩, ⟨Nat.le_trans (List.length_filter_le _ _) h.2.1.1, fun x hx => h.2.1.2 x ((List.mem_filter.1 hx).1)⟩, h.2.2⟩
theorem sameG0 (n : Nat) (hn : 100 ≤ n) : espalierref_SameGraph n (g0, g0, ()) = some (true, ()) := by
  refine sameG_ok g0 n hn ⟨by simp [g0], by simp [g0], fun x hx => (by cases hx), fun x hx => (by cases hx)⟩ ⟨⟨by simp [g0], fun x hx => (by cases hx)⟩, ⟨by simp [g0], fun x hx => (by cases hx)⟩, ?_⟩
  unfold wfI g0
  decide
theorem sameR (l : List Grant) (w : ByteArray) (g : Graph) (n : Nat) (hn : 100 ≤ n) (hw : gOk g) : espalierref_SameGraph n ((seeR l w g).1, (seeR l w g).1, ()) = some (true, ()) := by
  unfold seeR
  cases h1 : grE l != 0
  · cases h2 : chkG g != 0
    · rw [cond_false, cond_false]
      cases whoIs l w with
      | none => exact sameG0 n hn
      | some x => exact sameG_ok _ n hn (graphS_of (chkG_see x.labels (by simpa using h2))) (gOk_see _ hw)
    · exact sameG0 n hn
  · exact sameG0 n hn
end Pure

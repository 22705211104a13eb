
/- Who sees what. No program. -/
import Derived.Test.YtnfoajgolcenlaaDoorPGrant
namespace Pure
open Esp Ev Go
set_option linter.unusedSimpArgs false
set_option linter.unusedVariables false
set_option linter.unusedSimpArgs false
set_option linter.unusedVariables false

theorem seq_comm (a b : ByteArray) : seq a b = seq b a := by
  cases h1 : seq a b
  · cases h2 : seq b a
    · rfl
    · rw [(seq_iff b a).1 h2, seq_refl] at h1; cases h1
  · rw [(seq_iff a b).1 h1, seq_refl]
theorem Grant.eta (g : Grant) : Grant.mk g.who g.labels = g := rfl

/-! ## what is in order -/
structure nodeS (x : Ev.Node) : Prop where
  lab : x.labels.length ≤ 4
  prp : prpE x.props = 0
structure graphS (g : Graph) : Prop where
  nl : g.nodes.length ≤ 40
  el : g.edges.length ≤ 60
  nd : ∀ x ∈ g.nodes, nodeS x
  ed : ∀ x ∈ g.edges, prpE x.props = 0
theorem graphS_of {g : Graph} (h : chkG g = 0) : graphS g := by
  obtain ⟨h1, h2, h3, h4⟩ := chkG_0 h
  exact ⟨h1, h2, fun x hx => ⟨labE_0 (nodF_0 h3 x hx).1, (nodF_0 h3 x hx).2⟩, fun x hx => (edgF_0 h4 x hx).1⟩

/-! ## copies -/
theorem copyP_ok (l : List Prp) (n : Nat) (hn : 60 ≤ n) (h : prpE l = 0) : graph_CopyProps n (l, ()) = some (l, ()) := by
  obtain ⟨h6, hc⟩ := prpE_0 h
  unfold graph_CopyProps
  dsimp only
  rw [R_graph_CopyProps_s0 n _ _ l n [] (by omega) (by omega)]
  have key : ∀ (r p : List Prp) (i : Int), (∀ x ∈ r, chk x.val 1 = 0) → p.length + r.length ≤ 30 → foldK (F_graph_CopyProps_s0 n (fun _ => none)) (fun s => some (s.1, ())) i r (p, ()) = some (p ++ r, ()) := by
    intro r
    induction r with
    | nil => intro p i _ _; simp [foldK]
    | cons x r ih =>
      intro p i hx hl
      rw [foldK]
      unfold F_graph_CopyProps_s0
      dsimp only
      rw [Val.eta, copy_ok x.val 1 n (by omega) (by omega) (by omega) (hx x (by simp)), Option.bind_some]
      dsimp only
      rw [Val.eta, ck_ok (room_ok (by simp at hl ⊢; omega) (by omega))]
      refine (ih (p ++ [x]) (i + 1) (fun y hy => hx y (by simp [hy])) (by simp at hl ⊢; omega)).trans ?_
      simp
  exact (key l [] 0 hc (by simp; omega))
theorem clone_ok (l : List ByteArray) (h : l.length ≤ 4) : slices_Clone_string_string (l, ()) = some (l, ()) := by
  unfold slices_Clone_string_string nilq
  dsimp only
  rw [List.nil_append, ck_ok (room_ok (by omega) (by omega))]
  cases l with
  | nil => exact dem2_same _
  | cons a r => rfl
theorem copyN_ok (x : Ev.Node) (n : Nat) (hn : 60 ≤ n) (h : nodeS x) : graph_CopyNode n (x, ()) = some (x, ()) := by
  unfold graph_CopyNode
  dsimp only
  rw [clone_ok x.labels h.lab, Option.bind_some]
  dsimp only
  rw [copyP_ok x.props n hn h.prp]
  rfl
theorem copyE_ok (x : Edg) (n : Nat) (hn : 60 ≤ n) (h : prpE x.props = 0) : graph_CopyEdge n (x, ()) = some (x, ()) := by
  unfold graph_CopyEdge
  dsimp only
  rw [copyP_ok x.props n hn h]
  rfl

/-! ## who sees a node -/
def seesP (ls labs : List ByteArray) : Bool := ls.any fun a => seq a ⟨#[]⟩ || hasL labs a
theorem sees_ok (x : Grant) (y : Ev.Node) (n : Nat) (hx : x.labels.length ≤ 4) (hy : y.labels.length ≤ maxLen) (hn : 60 ≤ n) (hyn : y.labels.length < n) : grant_sees n (x, y, ()) = some (seesP x.labels y.labels, ()) := by
  have key : ∀ (r : List ByteArray) (i : Int), 0 ≤ i → ∃ j, foldK (F_slices_IndexFunc_string_string_grant_sees_1_c_s0 n (fun z => some (z.1, ((Ev.Node.mk z.2.1.1.id z.2.1.1.labels z.2.1.1.props), ()), ()))) (fun z => some (-1, ((Ev.Node.mk z.1.1.id z.1.1.labels z.1.1.props), ()), ())) i r ((y, ()), ()) = some (j, (y, ()), ()) ∧ decide (j ≥ 0) = seesP r y.labels := by
    intro r
    induction r with
    | nil => intro i hi; exact ⟨-1, rfl, rfl⟩
    | cons a r ih =>
      intro i hi
      obtain ⟨j, h1, h2⟩ := ih (i + 1) (by omega)
      rw [foldK]
      unfold seesP at h2 ⊢
      rw [List.any_cons, ← h2]
      unfold F_slices_IndexFunc_string_string_grant_sees_1_c_s0 grant_sees_1
      dsimp only
      rw [has_ok y.labels a n hy hyn]
      cases seq a ⟨#[]⟩
      · rw [cond_false, Option.bind_some, Option.bind_some]
        dsimp only
        cases hasL y.labels a
        · exact ⟨j, h1, rfl⟩
        · exact ⟨i, rfl, by simpa using hi⟩
      · exact ⟨i, rfl, by simpa using hi⟩
  obtain ⟨j, h1, h2⟩ := key x.labels 0 (by omega)
  have h3 : slices_IndexFunc_string_string_grant_sees_1_c n (x.labels, (y, ()), ()) = some (j, (y, ()), ()) := by
    unfold slices_IndexFunc_string_string_grant_sees_1_c
    exact (R_slices_IndexFunc_string_string_grant_sees_1_c_s0 n _ _ x.labels n (y, ()) (by omega) (by omega)).trans h1
  have h4 : slices_ContainsFunc_string_string_grant_sees_1_c n (x.labels, (y, ()), ()) = some (seesP x.labels y.labels, (y, ()), ()) := by
    unfold slices_ContainsFunc_string_string_grant_sees_1_c
    refine (congrArg (fun z => Option.bind z _) h3).trans ?_
    rw [Option.bind_some]
    dsimp only
    rw [h2]
  unfold grant_sees
  refine (congrArg (fun z => Option.bind z _) h4).trans ?_
  rfl

/-! ## what is seen of a graph -/
def ndS (ls : List ByteArray) (g : Graph) : List Ev.Node := g.nodes.filter fun x => seesP ls x.labels
def both (l : List Ev.Node) (e : Edg) : Bool := (nodeIn l e.src).isSome && (nodeIn l e.dst).isSome
def edS (ls : List ByteArray) (g : Graph) : List Edg := g.edges.filter (both (ndS ls g))
def seeG (ls : List ByteArray) (g : Graph) : Graph := ⟨ndS ls g, edS ls g, g.next⟩
def g0 : Graph := ⟨[], [], 0⟩
def whoIs (l : List Grant) (w : ByteArray) : Option Grant := l.find? fun x => seq x.who w
def seeR (l : List Grant) (w : ByteArray) (g : Graph) : Graph × Int :=
  bif grE l != 0 then (g0, grE l) else bif chkG g != 0 then (g0, chkG g) else match whoIs l w with
    | none => (g0, 12)
    | some x => (seeG x.labels g, 0)
theorem who_ok (l : List Grant) (w : ByteArray) (n : Nat) (hn : 20 ≤ n) (hl : l.length ≤ 4) : ∃ j, slices_IndexFunc_api_Grant_api_Grant_grant_See_1_c n (l, (w, ()), ()) = some (j, (w, ()), ()) ∧ Found l (whoIs l w) j := by
  obtain ⟨j, h1, h2⟩ := found_fold l (fun x => seq x.who w) (fun (i : Int) (x : Grant) (u : Unit) (rec : Unit → Option (Int × (ByteArray × Unit) × Unit)) => bif seq x.who w then some (i, (w, ()), ()) else rec ()) (fun i => some (i, (w, ()), ())) (fun i x rec => rfl) (fun _ => some (-1, (w, ()), ())) rfl l [] rfl
  refine ⟨j, ?_, h2⟩
  unfold slices_IndexFunc_api_Grant_api_Grant_grant_See_1_c
  dsimp only
  exact (range_list l (fun i (u : Unit) => (l, (l.length : Int), i, (w, ()), ())) _ (fun (i : Int) (x : Grant) (u : Unit) (rec : Unit → Option (Int × (ByteArray × Unit) × Unit)) => bif seq x.who w then some (i, (w, ()), ()) else rec ()) (fun _ => some (-1, (w, ()), ()))
    (fun rec i u => rfl) (by omega) n () (by omega)).trans h1
theorem Found.some_of {α : Type} {l : List α} {x : α} {k : Int} (h : Found l (some x) k) : 0 ≤ k ∧ ix l k = some x := by
  rcases h with ⟨_, h⟩ | ⟨h, y, h1, h2⟩
  · cases h
  · cases h2; exact ⟨h, h1⟩
theorem Found.none_of {α : Type} {l : List α} {k : Int} (h : Found l none k) : k = -1 := by
  rcases h with ⟨h, _⟩ | ⟨_, y, _, h2⟩
  · exact h
  · cases h2
theorem rise_filter {α : Type} {idf : α → Int} {l : List α} (h : Rise idf l) (p : α → Bool) : Rise idf (l.filter p) := List.Pairwise.filter p h
theorem see_loops (l : List Grant) (w : ByteArray) (g : Graph) (n : Nat) (hn : 100 ≤ n) (x : Grant) (j : Int) (hj : ix l j = some x) (hx : x.labels.length ≤ 4) (hg : graphS g) (hr : Rise Ev.Node.id g.nodes) :
    iterN (fun rc44 => grant_See_s0 n rc44 (fun (z : (Ev.Graph × Unit) × (Ev.Graph × Unit) × (Int × Unit) × (List Ev.Node) × Unit) => 
  iterN (fun rc43 => grant_See_s2 n rc43 (fun (z : (Ev.Graph × Unit) × (Int × Unit) × (List Ev.Node) × (List Ev.Edg) × Unit) => some ((Ev.Graph.mk z.2.2.1 z.2.2.2.1 z.2.1.1), (0 : Int), ())) (fun (_) => none)) (n) (z.1.1.edges, (z.1.1.edges.length : Int), 0, ((Ev.Graph.mk z.2.1.1.nodes z.2.1.1.edges z.2.1.1.next), ()), (z.2.2.1.1, ()), z.2.2.2.1, ([] : List Ev.Edg), ())) (fun (_) => none)) (n) (l, j, g.nodes, (g.nodes.length : Int), 0, (g, ()), (g0, ()), (g.next, ()), ([] : List Ev.Node), ()) = some (seeG x.labels g, 0, ()) := by
  have hnl := hg.nl
  have hel := hg.el
  refine (range_list g.nodes (fun i (s : List Ev.Node) => (l, j, g.nodes, (g.nodes.length : Int), i, (g, ()), (g0, ()), (g.next, ()), s, ())) _ (fun (i : Int) (y : Ev.Node) (s : List Ev.Node) (rec : List Ev.Node → Option (Graph × Int × Unit)) => (ix l j).bind fun x => (grant_sees n (x, y, ())).bind fun b => bif b.1 then (graph_CopyNode n (y, ())).bind fun z => ck (room (s ++ ([z.1] : List Ev.Node)).length 56) (rec (s ++ ([z.1] : List Ev.Node))) else rec s) _
    (fun rec i s => rfl) (by omega) n [] (by omega)).trans ?_
  rw [filter_fold _ (fun y => seesP x.labels y.labels) _ g.nodes 0 [] (fun y hy i s rec hs => ?_) (by simp; omega)]
  · dsimp only
    rw [List.nil_append]
    refine (range_list g.edges (fun i (s : List Edg) => (g.edges, (g.edges.length : Int), i, (g0, ()), (g.next, ()), ndS x.labels g, s, ())) _ (fun (i : Int) (y : Edg) (s : List Edg) (rec : List Edg → Option (Graph × Int × Unit)) => (graph_Find n (⟨ndS x.labels g, s, g.next⟩, y.src, ())).bind fun a => bif decide ((a.1 : Int) ≥ 0) then (graph_Find n (⟨ndS x.labels g, s, g.next⟩, y.dst, ())).bind fun b => bif decide ((b.1 : Int) ≥ 0) then (graph_CopyEdge n (y, ())).bind fun z => ck (room (s ++ ([z.1] : List Edg)).length 64) (rec (s ++ ([z.1] : List Edg))) else rec s else rec s) _
      (fun rec i s => rfl) (by omega) n [] (by omega)).trans ?_
    rw [filter_fold _ (both (ndS x.labels g)) _ g.edges 0 [] (fun y hy i s rec hs => ?_) (by simp; omega)]
    · rfl
    · obtain ⟨a, a1, a2⟩ := find_ok ⟨ndS x.labels g, s, g.next⟩ y.src n (rise_filter hr _) (Nat.le_trans (List.length_filter_le _ _) hnl) (by omega)
      obtain ⟨b, b1, b2⟩ := find_ok ⟨ndS x.labels g, s, g.next⟩ y.dst n (rise_filter hr _) (Nat.le_trans (List.length_filter_le _ _) hnl) (by omega)
      rw [a1, Option.bind_some]
      dsimp only
      rw [a2.ge, b1, Option.bind_some]
      dsimp only
      rw [b2.ge]
      unfold both
      dsimp only
      cases (nodeIn (ndS x.labels g) y.src).isSome
      · rfl
      · rw [cond_true, Bool.true_and]
        cases (nodeIn (ndS x.labels g) y.dst).isSome
        · rfl
        · rw [cond_true, cond_true, copyE_ok y n (by omega) (hg.ed y hy), Option.bind_some]
          exact ck_ok (room_ok (by simp; omega) (by omega))
  · rw [hj, Option.bind_some, sees_ok x y n hx (by have := (hg.nd y hy).lab; unfold maxLen; omega) (by omega) (by have := (hg.nd y hy).lab; omega), Option.bind_some]
    dsimp only
    cases seesP x.labels y.labels
    · rfl
    · rw [cond_true, cond_true, copyN_ok y n (by omega) (hg.nd y hy), Option.bind_some]
      exact ck_ok (room_ok (by simp; omega) (by omega))
theorem see_ok (l : List Grant) (w : ByteArray) (g : Graph) (n : Nat) (hn : 100 ≤ n) : grant_See n (l, w, g, ()) = some ((seeR l w g).1, (seeR l w g).2, ()) := by
  unfold grant_See seeR
  dsimp only
  rw [grants_ok l n (by omega), Option.bind_some]
  dsimp only
  cases h1 : grE l != 0
  · obtain ⟨h4, h5⟩ := grE_0 (show grE l = 0 by simpa using h1)
    rw [cond_false, cond_false, show graph_Check n (⟨g.nodes, g.edges, g.next⟩, ()) = some (chkG g, ()) from gcheck_ok g n (by omega), Option.bind_some]
    dsimp only
    cases h2 : chkG g != 0
    · have hg : chkG g = 0 := by simpa using h2
      obtain ⟨j, k1, k2⟩ := who_ok l w n (by omega) h4
      rw [cond_false, cond_false, k1, Option.bind_some]
      dsimp only
      rw [k2.lt]
      cases hw : whoIs l w with
      | none => rfl
      | some x =>
        rw [hw] at k2
        exact see_loops l w g n hn x j k2.some_of.2 (h5 x (List.mem_of_find?_eq_some hw)) (graphS_of hg) (nodF_rise (chkG_0 hg).2.2.1).2.1
    · rfl
  · rfl
end Pure


/- The laws on what anyone may do. No program. -/
import Derived.Test.YtnfoajgolcenlaaDoorPGrant4
namespace Pure
open Esp Ev Go
set_option linter.unusedSimpArgs false
set_option linter.unusedVariables false
set_option linter.unusedSimpArgs false
set_option linter.unusedVariables false

theorem whoM_ok (l : List Grant) (w : ByteArray) (n : Nat) (hn : 20 ≤ n) (hl : l.length ≤ 4) : ∃ j, slices_IndexFunc_api_Grant_api_Grant_grant_May_1_c n (l, (w, ()), ()) = some (j, (w, ()), ()) ∧ Found l (whoIs l w) j := by
  obtain ⟨j, h1, h2⟩ := found_fold l (fun x => seq x.who w) (fun (i : Int) (x : Grant) (u : Unit) (rec : Unit → Option (Int × (ByteArray × Unit) × Unit)) => bif seq x.who w then some (i, (w, ()), ()) else rec ()) (fun i => some (i, (w, ()), ())) (fun i x rec => rfl) (fun _ => some (-1, (w, ()), ())) rfl l [] rfl
  refine ⟨j, ?_, h2⟩
  unfold slices_IndexFunc_api_Grant_api_Grant_grant_May_1_c
  dsimp only
  exact (range_list l (fun i (u : Unit) => (l, (l.length : Int), i, (w, ()), ())) _ (fun (i : Int) (x : Grant) (u : Unit) (rec : Unit → Option (Int × (ByteArray × Unit) × Unit)) => bif seq x.who w then some (i, (w, ()), ()) else rec ()) (fun _ => some (-1, (w, ()), ()))
    (fun rec i u => rfl) (by omega) n () (by omega)).trans h1
theorem may2_ok (g : Graph) (t : Int) (n : Nat) (hn : 100 ≤ n) (hr : Rise Ev.Node.id g.nodes) (hl : g.nodes.length ≤ 40) : grant_May_2 n (t, (g, ()), ()) = some ((nodeIn g.nodes t).isSome, (g, ()), ()) := by
  obtain ⟨a, a1, a2⟩ := find_ok g t n hr hl (by omega)
  unfold grant_May_2
  refine (congrArg (fun z => Option.bind z _) a1).trans ?_
  rw [Option.bind_some]
  dsimp only
  rw [a2.ge]
/-- what he may do who sees so much -/
def mayK (ls : List ByteArray) (s : Graph) (o : Opn) : Bool :=
  bif o.kind == 1 then seesP ls o.labels else
  bif o.kind == 2 then (nodeIn s.nodes o.src).isSome && (nodeIn s.nodes o.dst).isSome else
  bif o.kind == 4 then (edgeIn s.edges o.id).isSome else
  bif o.kind == 5 then (nodeIn s.nodes o.id).isSome || (edgeIn s.edges o.id).isSome else
  bif o.kind == 3 then (nodeIn s.nodes o.id).isSome else
  bif o.kind == 6 then (nodeIn s.nodes o.id).isSome else
  bif o.kind == 7 then (nodeIn s.nodes o.id).isSome else false
theorem may_ok (l : List Grant) (w : ByteArray) (g : Graph) (o : Opn) (n : Nat) (hn : 100 ≤ n) (ho : o.labels.length ≤ maxLen) (hon : o.labels.length < n) : ∃ b, grant_May n (l, w, g, o, ()) = some (b, (seeR l w g).2, ()) ∧ ((seeR l w g).2 ≠ 0 → b = false) ∧
    (∀ x, (seeR l w g).2 = 0 → grE l = 0 → chkG g = 0 → whoIs l w = some x → (seeR l w g).1 = seeG x.labels g → b = mayK x.labels (seeG x.labels g) o) := by
  unfold grant_May
  dsimp only
  rw [show grant_See n (l, w, ⟨g.nodes, g.edges, g.next⟩, ()) = _ from see_ok l w g n hn, Option.bind_some]
  dsimp only
  by_cases hz : (seeR l w g).2 = 0
  · have hE : grE l = 0 ∧ chkG g = 0 ∧ ∃ x, whoIs l w = some x ∧ (seeR l w g).1 = seeG x.labels g := by
      obtain ⟨ls, _, h⟩ := seenBy_ok l w g n hn
      obtain ⟨h1, h2, x, h3, _, _, h4⟩ := h hz
      exact ⟨h1, h2, x, h3, h4⟩
    obtain ⟨h1, h2, x, h3, h4⟩ := hE
    obtain ⟨l4, l5⟩ := grE_0 h1
    have hx : x.labels.length ≤ 4 := l5 x (List.mem_of_find?_eq_some h3)
    have hS := graphS_of (chkG_see x.labels h2)
    have hr : Rise Ev.Node.id (seeG x.labels g).nodes := rise_filter (nodF_rise (chkG_0 h2).2.2.1).2.1 _
    have hre : Rise Edg.id (seeG x.labels g).edges := rise_filter (edgF_rise (chkG_0 h2).2.2.2).2.1 _
    obtain ⟨j, k1, k2⟩ := whoM_ok l w n (by omega) l4
    rw [h3] at k2
    obtain ⟨e, e1, e2⟩ := findE_ok (seeG x.labels g) o.id n hre hS.el (by omega)
    rw [hz, h4, show ((0 : Int) != 0) = false from rfl, cond_false, k1, Option.bind_some]
    dsimp only
    rw [k2.some_of.2, Option.bind_some]
    refine ⟨mayK x.labels (seeG x.labels g) o, ?_, fun h => absurd rfl h, fun y _ _ _ h _ => by rw [h3] at h; cases h; rfl⟩
    rw [show grant_sees n (⟨x.who, x.labels⟩, ⟨0, o.labels, []⟩, ()) = some (seesP x.labels o.labels, ()) from sees_ok x ⟨0, o.labels, []⟩ n hx ho (by omega) hon]
    simp only [show ∀ t, grant_May_2 n (t, (⟨(seeG x.labels g).nodes, (seeG x.labels g).edges, (seeG x.labels g).next⟩, ()), ()) = some ((nodeIn (seeG x.labels g).nodes t).isSome, (seeG x.labels g, ()), ()) from fun t => may2_ok _ t n hn hr hS.nl, Option.bind_some,
      show graph_FindEdge n (⟨(seeG x.labels g).nodes, (seeG x.labels g).edges, (seeG x.labels g).next⟩, o.id, ()) = some (e, ()) from e1, e2.ge]
    unfold mayK
    cases (o.kind == 1) <;> cases (o.kind == 2) <;> cases (o.kind == 4) <;> cases (o.kind == 5) <;> cases (o.kind == 3) <;> cases (o.kind == 6) <;> cases (o.kind == 7) <;> try rfl
    all_goals first
      | (cases (nodeIn (seeG x.labels g).nodes o.src).isSome <;> rfl)
      | (cases (nodeIn (seeG x.labels g).nodes o.id).isSome <;> rfl)
  · rw [bnez hz, cond_true]
    exact ⟨false, rfl, fun _ => rfl, fun _ h => absurd h hz⟩
theorem one_seen (ls labs : List ByteArray) (ps : List Prp) : (((seeG ls ⟨[⟨1, labs, ps⟩], [], 0⟩).nodes.length : Int) == 1) = seesP ls labs := by
  show (((([⟨1, labs, ps⟩] : List Ev.Node).filter fun x => seesP ls x.labels).length : Int) == 1) = _
  rw [List.filter_cons]
  cases h : seesP ls labs
  · simp
  · simp
theorem GrantMay_ok (l : List Grant) (w : ByteArray) (g : Graph) (o : Opn) (ho : o.labels.length ≤ maxLen) (n : Nat) (hn : 100 ≤ n) (hon : o.labels.length < n) : espalierlaw_GrantMay n (l, w, g, o, ()) = some (true, ()) := by
  obtain ⟨ls, h1, h2⟩ := seenBy_ok l w g n hn
  obtain ⟨b, b1, b2, b3⟩ := may_ok l w g o n hn ho hon
  unfold espalierlaw_GrantMay
  dsimp only
  rw [show (⟨o.val.kind, o.val.n, o.val.s, o.val.l⟩ : Val) = o.val from Val.eta _, show grant_May n (l, w, ⟨g.nodes, g.edges, g.next⟩, ⟨o.kind, o.id, o.src, o.dst, o.name, o.val, o.labels, o.props⟩, ()) = _ from b1, Option.bind_some]
  dsimp only
  rw [show espalierlaw_seenBy n (l, w, ⟨g.nodes, g.edges, g.next⟩, ()) = _ from h1, Option.bind_some]
  dsimp only
  rw [granted_ok n hn, Option.bind_some, Option.bind_some]
  dsimp only
  by_cases hz : (seeR l w g).2 = 0
  · obtain ⟨hE, hg, x, hx, rfl, hxl, h4⟩ := h2 hz
    obtain ⟨l4, l5⟩ := grE_0 hE
    have hS := graphS_of (chkG_see x.labels hg)
    have hb := b3 x hz hE hg hx h4
    rw [hz, h4, show ((!true) || ((0 : Int) != 0)) = false from rfl, cond_false]
    simp only [show ∀ t, espalierref_NodeAt n (⟨(seeG x.labels g).nodes, (seeG x.labels g).edges, (seeG x.labels g).next⟩, t, ()) = some (nodeIn (seeG x.labels g).nodes t, ()) from fun t => nodeAt_ok _ t n hS.nl (by omega),
      show ∀ t, espalierref_EdgeAt n (⟨(seeG x.labels g).nodes, (seeG x.labels g).edges, (seeG x.labels g).next⟩, t, ()) = some (edgeIn (seeG x.labels g).edges t, ()) from fun t => edgeAt_ok _ t n hS.el (by omega), Option.bind_some,
      show espalierref_Seen n (x.labels, ⟨[⟨1, o.labels, []⟩], [], 0⟩, ()) = _ from seen_ok x.labels ⟨[⟨1, o.labels, []⟩], [], 0⟩ n hn (l5 x hxl) (by simp) (by simp) (fun y hy => by cases List.mem_singleton.1 hy; unfold maxLen at ho; exact ⟨ho, hon⟩), one_seen]
    unfold mayK at hb
    rw [show ((0 : Int) == 0) = true from rfl]
    by_cases k1 : o.kind = 1
    · rw [k1] at hb ⊢
      have hb : b = seesP x.labels o.labels := hb
      rw [hb]
      cases nodeIn (seeG x.labels g).nodes o.id <;> cases edgeIn (seeG x.labels g).edges o.id <;> cases seesP x.labels o.labels <;> rfl
    by_cases k2 : o.kind = 2
    · rw [k2] at hb ⊢
      have hb : b = ((nodeIn (seeG x.labels g).nodes o.src).isSome && (nodeIn (seeG x.labels g).nodes o.dst).isSome) := hb
      rw [hb]
      cases nodeIn (seeG x.labels g).nodes o.id <;> cases edgeIn (seeG x.labels g).edges o.id <;> cases nodeIn (seeG x.labels g).nodes o.src <;> cases nodeIn (seeG x.labels g).nodes o.dst <;> rfl
    by_cases k3 : o.kind = 3
    · rw [k3] at hb ⊢
      have hb : b = (nodeIn (seeG x.labels g).nodes o.id).isSome := hb
      rw [hb]
      cases nodeIn (seeG x.labels g).nodes o.id <;> cases edgeIn (seeG x.labels g).edges o.id <;> rfl
    by_cases k4 : o.kind = 4
    · rw [k4] at hb ⊢
      have hb : b = (edgeIn (seeG x.labels g).edges o.id).isSome := hb
      rw [hb]
      cases nodeIn (seeG x.labels g).nodes o.id <;> cases edgeIn (seeG x.labels g).edges o.id <;> rfl
    by_cases k5 : o.kind = 5
    · rw [k5] at hb ⊢
      have hb : b = ((nodeIn (seeG x.labels g).nodes o.id).isSome || (edgeIn (seeG x.labels g).edges o.id).isSome) := hb
      rw [hb]
      cases nodeIn (seeG x.labels g).nodes o.id <;> cases edgeIn (seeG x.labels g).edges o.id <;> rfl
    by_cases k6 : o.kind = 6
    · rw [k6] at hb ⊢
      have hb : b = (nodeIn (seeG x.labels g).nodes o.id).isSome := hb
      rw [hb]
      cases nodeIn (seeG x.labels g).nodes o.id <;> cases edgeIn (seeG x.labels g).edges o.id <;> rfl
    by_cases k7 : o.kind = 7
    · rw [k7] at hb ⊢
      have hb : b = (nodeIn (seeG x.labels g).nodes o.id).isSome := hb
      rw [hb]
      cases nodeIn (seeG x.labels g).nodes o.id <;> cases edgeIn (seeG x.labels g).edges o.id <;> rfl
    · have f : ∀ c : Int, o.kind ≠ c → (o.kind == c) = false := fun c h => by simpa using h
      rw [f 1 k1, f 2 k2, f 3 k3, f 4 k4, f 5 k5, f 6 k6, f 7 k7] at *
      have hb : b = false := hb
      rw [hb]
      cases nodeIn (seeG x.labels g).nodes o.id <;> cases edgeIn (seeG x.labels g).edges o.id <;> rfl
  · rw [b2 hz, bnez hz]
    simp
end Pure

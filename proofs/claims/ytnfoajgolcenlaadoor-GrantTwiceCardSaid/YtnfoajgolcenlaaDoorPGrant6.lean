
/- What is seen of what is seen. No program. -/
import Derived.Test.YtnfoajgolcenlaaDoorPGrant4
namespace Pure
open Esp Ev Go
set_option linter.unusedSimpArgs false
set_option linter.unusedVariables false
set_option linter.unusedSimpArgs false
set_option linter.unusedVariables false

theorem labsOf_ok (l : List Grant) (w : ByteArray) (n : Nat) (hn : 20 ≤ n) (hl : l.length ≤ 4) : espalierlaw_GrantTwice_1 n (w, (l, ()), ()) = some (labsOf l w, (l, ()), ()) := by
  unfold espalierlaw_GrantTwice_1 labsOf whoIs
  dsimp only
  have key : ∀ (r : List Grant) (i : Int), foldK (fun (i : Int) (x : Grant) (u : Unit) (rec : Unit → Option (List ByteArray × (List Grant × Unit) × Unit)) => bif seq x.who w then some (x.labels, (l, ()), ()) else rec ()) (fun _ => some ([], (l, ()), ())) i r () = some (match r.find? (fun x => seq x.who w) with | none => [] | some x => x.labels, (l, ()), ()) := by
    intro r
    induction r with
    | nil => intro i; rfl
    | cons y r ih =>
      intro i
      rw [foldK, List.find?_cons, ih]
      cases seq y.who w <;> rfl
  exact (range_list l (fun i (u : Unit) => (w, l, (l.length : Int), i, (l, ()), ())) _ (fun (i : Int) (x : Grant) (u : Unit) (rec : Unit → Option (List ByteArray × (List Grant × Unit) × Unit)) => bif seq x.who w then some (x.labels, (l, ()), ()) else rec ()) (fun _ => some ([], (l, ()), ()))
    (fun rec i u => rfl) (by omega) n () (by omega)).trans (key l 0)
theorem sees_mono {a b labs : List ByteArray} (h : ∀ x ∈ a, hasL b x = true) (hs : seesP a labs = true) : seesP b labs = true := by
  unfold seesP hasL at *
  simp only [Bool.or_eq_true, List.any_eq_true, seq_iff] at *
  obtain ⟨x, hx, h2⟩ := hs
  obtain ⟨y, hy, e⟩ := h x hx
  subst e
  exact ⟨x, hy, h2⟩
theorem seeR_0 {l : List Grant} {w : ByteArray} {g : Graph} (h : (seeR l w g).2 = 0) : grE l = 0 ∧ chkG g = 0 ∧ ∃ x, whoIs l w = some x ∧ x ∈ l ∧ (seeR l w g).1 = seeG x.labels g := by
  obtain ⟨ls, _, h2⟩ := seenBy_ok l w g 100 (by omega)
  obtain ⟨h1, h2, x, h3, _, h5, h4⟩ := h2 h
  exact ⟨h1, h2, x, h3, h5, h4⟩
theorem seeR_mk {l : List Grant} {w : ByteArray} {g : Graph} {x : Grant} (h1 : grE l = 0) (h2 : chkG g = 0) (h3 : whoIs l w = some x) : seeR l w g = (seeG x.labels g, 0) := by
  unfold seeR
  rw [h1, h2, h3]
  rfl
theorem nodeIn_some {l : List Ev.Node} {x : Ev.Node} (h : x ∈ l) : ∃ y, nodeIn l x.id = some y := by
  unfold nodeIn
  cases h1 : l.find? (fun y => y.id == x.id) with
  | some y => exact ⟨y, rfl⟩
  | none =>
    rw [List.find?_eq_none] at h1
    exact absurd (by simp) (h1 x h)
theorem nodeIn_sub {l m : List Ev.Node} {t : Int} (h : ∀ x ∈ l, x ∈ m) (hs : (nodeIn l t).isSome = true) : (nodeIn m t).isSome = true := by
  cases h1 : nodeIn l t with
  | none => rw [h1] at hs; cases hs
  | some x =>
    have h2 := h x (List.mem_of_find?_eq_some h1)
    have h3 : x.id = t := by
      have := List.find?_some h1
      simpa using this
    obtain ⟨y, hy⟩ := nodeIn_some h2
    rw [h3] at hy
    rw [hy]
    rfl
theorem seen_sub {a b : List ByteArray} {g : Graph} (h : ∀ x ∈ a, hasL b x = true) : (∀ x ∈ ndS a g, x ∈ ndS b g) ∧ (edS a g).length ≤ (edS b g).length := by
  have h1 : ∀ x ∈ ndS a g, x ∈ ndS b g := fun x hx => by
    have := List.mem_filter.1 hx
    exact List.mem_filter.2 ⟨this.1, sees_mono h this.2⟩
  refine ⟨h1, ?_⟩
  unfold edS
  rw [← List.countP_eq_length_filter, ← List.countP_eq_length_filter]
  refine List.countP_mono_left fun x hx hb => ?_
  unfold both at hb ⊢
  rw [Bool.and_eq_true] at hb ⊢
  exact ⟨nodeIn_sub h1 hb.1, nodeIn_sub h1 hb.2⟩
theorem GrantTwice_ok (l : List Grant) (w v : ByteArray) (g : Graph) (hw : gOk g) (n : Nat) (hn : 100 ≤ n) : espalierlaw_GrantTwice n (l, w, v, g, ()) = some (true, ()) := by
  unfold espalierlaw_GrantTwice
  dsimp only
  rw [show grant_See n (l, w, ⟨g.nodes, g.edges, g.next⟩, ()) = _ from see_ok l w g n hn, Option.bind_some]
  dsimp only
  rw [granted_ok n hn, Option.bind_some, Option.bind_some]
  dsimp only
  by_cases hz : (seeR l w g).2 = 0
  · obtain ⟨hE, hg, x, hx, hxl, h4⟩ := seeR_0 hz
    obtain ⟨l4, l5⟩ := grE_0 hE
    have hgs := chkG_see x.labels hg
    have hS := graphS_of hgs
    rw [hz, h4, show ((!true) || ((0 : Int) != 0)) = false from rfl, cond_false,
      show grant_See n (l, w, ⟨(seeG x.labels g).nodes, (seeG x.labels g).edges, (seeG x.labels g).next⟩, ()) = _ from see_ok l w (seeG x.labels g) n hn, seeR_mk hE hgs hx, see_see, Option.bind_some]
    dsimp only
    rw [show ((0 : Int) != 0) = false from rfl, cond_false, show espalierref_SameGraph n (⟨(seeG x.labels g).nodes, (seeG x.labels g).edges, (seeG x.labels g).next⟩, ⟨(seeG x.labels g).nodes, (seeG x.labels g).edges, (seeG x.labels g).next⟩, ()) = _ from sameG_ok (seeG x.labels g) n hn hS (gOk_see _ hw), Option.bind_some]
    dsimp only
    rw [show (!true) = false from rfl, cond_false, show grant_See n (l, v, ⟨g.nodes, g.edges, g.next⟩, ()) = _ from see_ok l v g n hn, Option.bind_some]
    dsimp only
    by_cases hz2 : (seeR l v g).2 = 0
    · obtain ⟨_, _, y, hy, hyl, h5⟩ := seeR_0 hz2
      have hgs2 := chkG_see y.labels hg
      have hS2 := graphS_of hgs2
      rw [hz2, h5, show ((0 : Int) != 0) = false from rfl, cond_false, labsOf_ok l w n (by omega) l4, Option.bind_some]
      dsimp only
      have ex : labsOf l w = x.labels := by unfold labsOf; rw [hx]
      have ey : labsOf l v = y.labels := by unfold labsOf; rw [hy]
      have x4 := l5 x hxl
      have y4 := l5 y hyl
      have n4 := hS.nl
      rw [ex]
      refine (range_list x.labels (fun i (u : Unit) => (v, x.labels, (x.labels.length : Int), i, (l, ()), (seeG x.labels g, ()), (seeG y.labels g, ()), ())) _ (fun (i : Int) (z : ByteArray) (u : Unit) (rec : Unit → Option (Bool × Unit)) =>
        (espalierlaw_GrantTwice_1 n (v, (l, ()), ())).bind fun a => (slices_Contains_string_string n (a.1, z, ())).bind fun b => bif !b.1 then some (true, ()) else rec ())
        (fun _ => iterN (fun rc => espalierlaw_GrantTwice_s2 n rc (fun z => some (decide ((z.1.1.edges.length : Int) ≤ (z.2.1.1.edges.length : Int)), ())) (fun z => some (z.1, ()))) n ((seeG x.labels g).nodes, ((seeG x.labels g).nodes.length : Int), 0, (seeG x.labels g, ()), (seeG y.labels g, ()), ()))
        (fun rec i u => ?_) (by omega) n () (by omega)).trans ?_
      · unfold espalierlaw_GrantTwice_s0
        dsimp only
        rw [labsOf_ok l v n (by omega) l4]
        rfl
      rw [any_fold _ (fun z => !(hasL y.labels z)) _ (some (true, ())) () x.labels 0 (fun z hz i rec => ?_)]
      · cases hA : x.labels.any (fun z => !(hasL y.labels z)) with
        | true => rfl
        | false =>
          have hsub : ∀ z ∈ x.labels, hasL y.labels z = true := fun z hz => by
            rw [List.any_eq_false] at hA
            have := hA z hz
            simpa using this
          obtain ⟨s1, s2⟩ := seen_sub (g := g) hsub
          rw [cond_false]
          refine (range_list (seeG x.labels g).nodes (fun i (u : Unit) => ((seeG x.labels g).nodes, ((seeG x.labels g).nodes.length : Int), i, (seeG x.labels g, ()), (seeG y.labels g, ()), ())) _ (fun (i : Int) (z : Ev.Node) (u : Unit) (rec : Unit → Option (Bool × Unit)) =>
            (espalierref_NodeAt n (seeG y.labels g, z.id, ())).bind fun a => optC a.1 (some (false, ())) fun _ => rec ())
            (fun _ => some (decide (((seeG x.labels g).edges.length : Int) ≤ ((seeG y.labels g).edges.length : Int)), ())) (fun rec i u => rfl) (by omega) n () (by omega)).trans ?_
          refine (self_fold (seeG x.labels g).nodes _ _ (fun z hz i rec hi => ?_) (seeG x.labels g).nodes [] rfl).trans ?_
          · rw [nodeAt_ok (seeG y.labels g) z.id n hS2.nl (by omega), Option.bind_some]
            obtain ⟨u, hu⟩ := nodeIn_some (s1 z hz)
            rw [show nodeIn (seeG y.labels g).nodes z.id = some u from hu]
            rfl
          · have h9 : (((seeG x.labels g).edges.length : Int) ≤ ((seeG y.labels g).edges.length : Int)) := by
              have : (seeG x.labels g).edges.length ≤ (seeG y.labels g).edges.length := s2
              omega
            rw [decide_eq_true h9]
      · rw [labsOf_ok l v n (by omega) l4, Option.bind_some]
        dsimp only
        rw [ey, has_ok y.labels z n (by unfold maxLen; omega) (by omega), Option.bind_some]
    · rw [bnez hz2, cond_true]
  · rw [bnez hz]
    rfl
end Pure

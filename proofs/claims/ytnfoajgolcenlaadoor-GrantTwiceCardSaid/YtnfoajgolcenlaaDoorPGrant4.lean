
/- The laws on grants. No program. -/
import Derived.Test.YtnfoajgolcenlaaDoorPGrant3
namespace Pure
open Esp Ev Go
set_option linter.unusedSimpArgs false
set_option linter.unusedVariables false
set_option linter.unusedSimpArgs false
set_option linter.unusedVariables false

/-! ## the reference's view -/
def seesR (ls labs : List ByteArray) : Bool := hasL ls ⟨#[]⟩ || labs.any (hasL ls)
theorem seesR_eq (ls labs : List ByteArray) : seesR ls labs = seesP ls labs := by
  rw [Bool.eq_iff_iff]
  unfold seesR seesP hasL
  simp only [Bool.or_eq_true, List.any_eq_true, seq_iff]
  constructor
  · rintro (⟨x, h1, h2⟩ | ⟨x, h1, y, h2, h3⟩)
    · exact ⟨x, h1, .inl h2.symm⟩
    · exact ⟨y, h2, .inr ⟨x, h1, h3.symm⟩⟩
  · rintro ⟨x, h1, h2 | ⟨y, h2, h3⟩⟩
    · exact .inl ⟨x, h1, h2.symm⟩
    · exact .inr ⟨y, h2, x, h1, h3.symm⟩
theorem seenF_ok (ls labs : List ByteArray) (n : Nat) (h1 : ls.length ≤ 4) (h2 : labs.length ≤ 9223372036854775807) (hn : 60 ≤ n) (hln : labs.length < n) : slices_ContainsFunc_string_string_espalierref_Seen_1_c n (labs, (ls, ()), ()) = some (labs.any (hasL ls), (ls, ()), ()) := by
  have key : ∀ (r : List ByteArray) (i : Int), 0 ≤ i → ∃ j, foldK (F_slices_IndexFunc_string_string_espalierref_Seen_1_c_s0 n (fun z => some (z.1, (z.2.1.1, ()), ()))) (fun z => some (-1, (z.1.1, ()), ())) i r ((ls, ()), ()) = some (j, (ls, ()), ()) ∧ decide (j ≥ 0) = r.any (hasL ls) := by
    intro r
    induction r with
    | nil => intro i hi; exact ⟨-1, rfl, rfl⟩
    | cons a r ih =>
      intro i hi
      obtain ⟨j, h1', h2'⟩ := ih (i + 1) (by omega)
      rw [foldK, List.any_cons, ← h2']
      unfold F_slices_IndexFunc_string_string_espalierref_Seen_1_c_s0 espalierref_Seen_1
      dsimp only
      rw [has_ok ls a n (by unfold maxLen; omega) (by omega), Option.bind_some, Option.bind_some]
      dsimp only
      cases hasL ls a
      · exact ⟨j, h1', rfl⟩
      · exact ⟨i, rfl, by simpa using hi⟩
  obtain ⟨j, k1, k2⟩ := key labs 0 (by omega)
  have h3 : slices_IndexFunc_string_string_espalierref_Seen_1_c n (labs, (ls, ()), ()) = some (j, (ls, ()), ()) := by
    unfold slices_IndexFunc_string_string_espalierref_Seen_1_c
    exact (R_slices_IndexFunc_string_string_espalierref_Seen_1_c_s0 n _ _ labs n (ls, ()) h2 hln).trans k1
  unfold slices_ContainsFunc_string_string_espalierref_Seen_1_c
  refine (congrArg (fun z => Option.bind z _) h3).trans ?_
  rw [Option.bind_some]
  dsimp only
  rw [k2]
theorem seen_ok (ls : List ByteArray) (g : Graph) (n : Nat) (hn : 100 ≤ n) (h1 : ls.length ≤ 4) (hnl : g.nodes.length ≤ 40) (hel : g.edges.length ≤ 60) (hla : ∀ x ∈ g.nodes, x.labels.length ≤ 9223372036854775807 ∧ x.labels.length < n) : espalierref_Seen n (ls, g, ()) = some (seeG ls g, ()) := by
  unfold espalierref_Seen
  dsimp only
  refine (range_list g.nodes (fun i (s : List Ev.Node) => (g.nodes, (g.nodes.length : Int), i, (ls, ()), (g, ()), (g0, ()), (g.next, ()), s, ())) _ (fun (i : Int) (x : Ev.Node) (s : List Ev.Node) (rec : List Ev.Node → Option (Graph × Unit)) =>
    (slices_Contains_string_string n (ls, (⟨#[]⟩ : ByteArray), ())).bind fun a => bif a.1 then ck (room (s ++ ([x] : List Ev.Node)).length 56) (rec (s ++ ([x] : List Ev.Node))) else
      (slices_ContainsFunc_string_string_espalierref_Seen_1_c n (x.labels, (ls, ()), ())).bind fun b => bif b.1 then ck (room (s ++ ([x] : List Ev.Node)).length 56) (rec (s ++ ([x] : List Ev.Node))) else rec s)
    (fun s => iterN (fun rc => espalierref_Seen_s2 n rc (fun z => some (⟨z.2.2.1, z.2.2.2.1, z.2.1.1⟩, ())) (fun _ => none)) n (g.edges, (g.edges.length : Int), 0, (g0, ()), (g.next, ()), s, [], ()))
    (fun rec i s => ?_) (by omega) n [] (by omega)).trans ?_
  · unfold espalierref_Seen_s0
    dsimp only
    cases decide (i < (g.nodes.length : Int))
    · rfl
    · rw [cond_true, cond_true]
      cases hx : ix g.nodes i with
      | none => rfl
      | some x =>
        have hm : x ∈ g.nodes := by
          unfold ix at hx
          split at hx
          · exact List.mem_of_getElem? hx
          · cases hx
        rw [Option.bind_some, Option.bind_some, seenF_ok ls x.labels n h1 (hla x hm).1 (by omega) (hla x hm).2, has_ok ls _ n (by unfold maxLen; omega) (by omega)]
        rfl
  rw [filter_fold _ (fun y => seesP ls y.labels) _ g.nodes 0 [] (fun y hy i s rec hs => ?_) (by simp; omega)]
  · rw [List.nil_append]
    refine (range_list g.edges (fun i (s : List Edg) => (g.edges, (g.edges.length : Int), i, (g0, ()), (g.next, ()), ndS ls g, s, ())) _ (fun (i : Int) (y : Edg) (s : List Edg) (rec : List Edg → Option (Graph × Unit)) =>
      (espalierref_NodeAt n (⟨ndS ls g, s, g.next⟩, y.src, ())).bind fun a => optC a.1 (rec s) fun _ => (espalierref_NodeAt n (⟨ndS ls g, s, g.next⟩, y.dst, ())).bind fun b => optC b.1 (rec s) fun _ => ck (room (s ++ ([y] : List Edg)).length 64) (rec (s ++ ([y] : List Edg)))) _
      (fun rec i s => rfl) (by omega) n [] (by omega)).trans ?_
    rw [filter_fold _ (both (ndS ls g)) _ g.edges 0 [] (fun y hy i s rec hs => ?_) (by simp; omega)]
    · rfl
    · have hl2 : (ndS ls g).length ≤ 40 := Nat.le_trans (List.length_filter_le _ _) hnl
      rw [nodeAt_ok ⟨ndS ls g, s, g.next⟩ y.src n hl2 (by omega), nodeAt_ok ⟨ndS ls g, s, g.next⟩ y.dst n hl2 (by omega)]
      unfold both
      dsimp only
      cases nodeIn (ndS ls g) y.src with
      | none => rfl
      | some _ =>
        cases nodeIn (ndS ls g) y.dst with
        | none => rfl
        | some _ => exact ck_ok (room_ok (by simp; omega) (by omega))
  · rw [has_ok ls _ n (by unfold maxLen; omega) (by omega), seenF_ok ls y.labels n h1 (hla y hy).1 (by omega) (hla y hy).2, Option.bind_some, Option.bind_some, ← seesR_eq]
    unfold seesR
    dsimp only
    have hck : ∀ b : Bool, ck (room (s ++ ([y] : List Ev.Node)).length 56) (rec (s ++ ([y] : List Ev.Node))) = rec (s ++ [y]) := fun _ => ck_ok (room_ok (by simp; omega) (by omega))
    cases hasL ls ⟨#[]⟩
    · cases y.labels.any (hasL ls)
      · rfl
      · exact hck true
    · exact hck true
def labsOf (l : List Grant) (w : ByteArray) : List ByteArray := match whoIs l w with | none => [] | some x => x.labels
theorem seenBy_ok (l : List Grant) (w : ByteArray) (g : Graph) (n : Nat) (hn : 100 ≤ n) : ∃ ls, espalierlaw_seenBy n (l, w, g, ()) = some ((seeR l w g).1, ls, (seeR l w g).2, ()) ∧ ((seeR l w g).2 = 0 → grE l = 0 ∧ chkG g = 0 ∧ ∃ x, whoIs l w = some x ∧ ls = x.labels ∧ x ∈ l ∧ (seeR l w g).1 = seeG x.labels g) := by
  unfold espalierlaw_seenBy seeR
  dsimp only
  rw [rgrants_ok l n (by omega), Option.bind_some]
  dsimp only
  cases h1 : grE l != 0
  · obtain ⟨h4, h5⟩ := grE_0 (show grE l = 0 by simpa using h1)
    rw [cond_false, cond_false, show espalierref_CheckGraph n (⟨g.nodes, g.edges, g.next⟩, ()) = some (chkG g, ()) from rgcheck_ok g n (by omega), Option.bind_some]
    dsimp only
    cases h2 : chkG g != 0
    · have hg : chkG g = 0 := by simpa using h2
      have hS := graphS_of hg
      rw [cond_false, cond_false]
      have key : ∀ (r : List Grant) (i : Int), (∀ x ∈ r, x.labels.length ≤ 4) → foldK (fun (i : Int) (x : Grant) (u : Unit) (rec : Unit → Option (Graph × List ByteArray × Int × Unit)) => bif seq x.who w then (espalierref_Seen n (x.labels, g, ())).bind fun y => some (y.1, x.labels, 0, ()) else rec ()) (fun _ => some (g0, [], 12, ())) i r () = match r.find? (fun x => seq x.who w) with | none => some (g0, [], 12, ()) | some x => some (seeG x.labels g, x.labels, 0, ()) := by
        intro r
        induction r with
        | nil => intro i _; rfl
        | cons y r ih =>
          intro i hl
          rw [foldK, List.find?_cons, ih (i + 1) fun x hx => hl x (by simp [hx])]
          cases seq y.who w
          · rfl
          · rw [cond_true, seen_ok y.labels g n hn (hl y (by simp)) hS.nl hS.el fun x hx => by have := (hS.nd x hx).lab; omega]
            rfl
      have e := (range_list l (fun i (u : Unit) => (w, l, (l.length : Int), i, (g, ()), (g0, ()), ())) (fun rc => espalierlaw_seenBy_s0 n rc (fun _ => some (g0, ([] : List ByteArray), 12, ())) (fun z => some (⟨z.2.2.1.1.nodes, z.2.2.1.1.edges, z.2.2.1.1.next⟩, z.1, z.2.1, ()))) (fun (i : Int) (x : Grant) (u : Unit) (rec : Unit → Option (Graph × List ByteArray × Int × Unit)) => bif seq x.who w then (espalierref_Seen n (x.labels, g, ())).bind fun y => some (y.1, x.labels, 0, ()) else rec ()) (fun _ => some (g0, [], 12, ()))
        (fun rec i s => rfl) (by omega) n () (by omega)).trans (key l 0 h5)
      unfold whoIs
      cases hw : l.find? (fun x => seq x.who w) with
      | none => rw [hw] at e; exact ⟨[], e, fun h => by cases h⟩
      | some x => rw [hw] at e; exact ⟨x.labels, e, fun _ => ⟨by simpa using h1, hg, x, rfl, rfl, List.mem_of_find?_eq_some hw, rfl⟩⟩
    · exact ⟨[], rfl, fun h => by have h3 : chkG g = 0 := h; rw [h3] at h2; cases h2⟩
  · exact ⟨[], rfl, fun h => by have h3 : grE l = 0 := h; rw [h3] at h1; cases h1⟩

/-! ## what holds of the document's own grant -/
theorem granted_ok (n : Nat) (hn : 100 ≤ n) : espalierlaw_granted n () = some (true, ()) := by
  obtain ⟨m, rfl⟩ : ∃ m, n = m + 100 := ⟨n - 100, by omega⟩
  unfold espalierlaw_granted espalierlaw_line3
  dsimp only
  rw [Option.bind_some]
  dsimp only
  rw [see_ok _ _ _ (m + 100) (by omega), Option.bind_some]
  kernel_rfl

/-! ## the laws -/
theorem GrantSee_ok (l : List Grant) (w : ByteArray) (g : Graph) (hw : gOk g) (n : Nat) (hn : 100 ≤ n) : espalierlaw_GrantSee n (l, w, g, ()) = some (true, ()) := by
  obtain ⟨ls, h1, _⟩ := seenBy_ok l w g n hn
  unfold espalierlaw_GrantSee
  dsimp only
  rw [show grant_See n (l, w, ⟨g.nodes, g.edges, g.next⟩, ()) = _ from see_ok l w g n hn, Option.bind_some]
  dsimp only
  rw [show espalierlaw_seenBy n (l, w, ⟨g.nodes, g.edges, g.next⟩, ()) = _ from h1, Option.bind_some]
  dsimp only
  rw [granted_ok n hn, Option.bind_some]
  dsimp only
  rw [cond_true, grants_ok l n (by omega), Option.bind_some, rgrants_ok l n (by omega), Option.bind_some]
  dsimp only
  rw [beq_self_eq_true, beq_self_eq_true, Bool.true_and, cond_true]
  exact (congrArg (fun z => Option.bind z _) (sameR l w g n hn hw)).trans rfl
end Pure

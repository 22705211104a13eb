
/- Graphs: Check one as the other. No program. -/
import Derived.Test.YtnfoajgolcenlaaDoorPGraph2
namespace Pure
open Esp Ev Go
set_option linter.unusedSimpArgs false
set_option linter.unusedVariables false
set_option linter.unusedSimpArgs false
set_option linter.unusedVariables false

theorem Graph.eta (g : Graph) : Graph.mk g.nodes g.edges g.next = g := rfl
/-! ## a node by its number -/
theorem nodeAt_fold (g : Graph) (t : Int) : ∀ (r p : List Ev.Node), g.nodes = p ++ r → foldK (fun (i : Int) (x : Ev.Node) (s : Unit) (rec : Unit → Option (Option Ev.Node × Unit)) => bif (x.id : Int) == t then (ix g.nodes i).bind fun z => some (some (Ev.Node.mk z.id z.labels z.props), ()) else rec s) (fun _ => some (none, ())) (p.length : Int) r () = some (nodeIn r t, ())
  | [], _, _ => rfl
  | x :: r, p, hp => by
    have ih := nodeAt_fold g t r (p ++ [x]) (by simp [hp])
    have e1 : ((p.length : Int) + 1) = ((p ++ [x]).length : Int) := by simp
    have e2 : ix g.nodes (p.length : Int) = some x := ix_ok (by rw [hp]; simp)
    rw [foldK, e1, ih, e2]
    simp only [nodeIn, List.find?_cons]
    cases (x.id == t) <;> rfl
theorem edgeAt_fold (g : Graph) (t : Int) : ∀ (r p : List Edg), g.edges = p ++ r → foldK (fun (i : Int) (x : Edg) (s : Unit) (rec : Unit → Option (Option Edg × Unit)) => bif (x.id : Int) == t then (ix g.edges i).bind fun z => some (some (Edg.mk z.id z.src z.dst z.type z.props), ()) else rec s) (fun _ => some (none, ())) (p.length : Int) r () = some (edgeIn r t, ())
  | [], _, _ => rfl
  | x :: r, p, hp => by
    have ih := edgeAt_fold g t r (p ++ [x]) (by simp [hp])
    have e1 : ((p.length : Int) + 1) = ((p ++ [x]).length : Int) := by simp
    have e2 : ix g.edges (p.length : Int) = some x := ix_ok (by rw [hp]; simp)
    rw [foldK, e1, ih, e2]
    simp only [edgeIn, List.find?_cons]
    cases (x.id == t) <;> rfl
/-! ## nodes -/
def orE (a b : Int) : Int := bif a != 0 then a else b
theorem or_ok (a b : Int) (n : Nat) (hn : 5 ≤ n) : cmp_Or_api_Errno n ([a, b], ()) = some (orE a b, ()) := by
  obtain ⟨m, rfl⟩ : ∃ m, n = m + 3 := ⟨n - 3, by omega⟩
  unfold cmp_Or_api_Errno orE
  dsimp only
  rw [iterN]
  have h1 : cmp_Or_api_Errno_s0 (ρ := Int × Unit) (m + 3) (iterN (fun rc9 => cmp_Or_api_Errno_s0 (m + 3) rc9 (fun x => some (x.1, ())) (fun x => some (x.1, ()))) (m + 2)) (fun x => some (x.1, ())) (fun x => some (x.1, ())) (0, [a, b], (([a, b] : List Int).length : Int), 0, ()) =
    bif a != 0 then some (a, ()) else (iterN (fun rc9 => cmp_Or_api_Errno_s0 (m + 3) rc9 (fun x => some (x.1, ())) (fun x => some (x.1, ()))) (m + 2)) (0, [a, b], (([a, b] : List Int).length : Int), 1, ()) := rfl
  refine h1.trans ?_
  cases ha : a != 0
  · rw [cond_false, cond_false, iterN]
    have h2 : cmp_Or_api_Errno_s0 (ρ := Int × Unit) (m + 3) (iterN (fun rc9 => cmp_Or_api_Errno_s0 (m + 3) rc9 (fun x => some (x.1, ())) (fun x => some (x.1, ()))) (m + 1)) (fun x => some (x.1, ())) (fun x => some (x.1, ())) (0, [a, b], (([a, b] : List Int).length : Int), 1, ()) =
      bif b != 0 then some (b, ()) else some (0, ()) := rfl
    refine h2.trans ?_
    cases hb : b != 0
    · have : b = 0 := by simpa using hb
      subst this
      rfl
    · rfl
  · rfl
def nodF : Int → List Ev.Node → Int
  | _, [] => 0
  | last, x :: r => bif decide (x.id ≤ last) then 6 else bif orE (labE x.labels) (prpE x.props) != 0 then orE (labE x.labels) (prpE x.props) else nodF x.id r
def nodL : Int → List Ev.Node → Int
  | last, [] => last
  | _, x :: r => nodL x.id r
noncomputable def nodB (n : Nat) {ρ : Type} (kr : Int × Unit → Option ρ) : Int → Ev.Node → Int → (Int → Option ρ) → Option ρ := fun i x last rec => bif decide ((x.id : Int) ≤ last) then kr (6, ()) else
  (graph_Labels n (x.labels, ())).bind fun y8 => (graph_Props n (x.props, ())).bind fun y9 => (cmp_Or_api_Errno n ([y8.1, y9.1], ())).bind fun y10 => bif (y10.1 : Int) != 0 then kr (y10.1, ()) else rec x.id
theorem nod_fold (n : Nat) (hn : 60 ≤ n) {ρ : Type} (kr : Int × Unit → Option ρ) (k : Int → Option ρ) : ∀ (l : List Ev.Node) (i last : Int), foldK (nodB n kr) k i l last = bif nodF last l != 0 then kr (nodF last l, ()) else k (nodL last l)
  | [], _, _ => rfl
  | x :: r, i, last => by
    rw [foldK, nodF, nodL, nodB, labels_ok x.labels n (by omega), Option.bind_some, props_ok x.props n (by omega), Option.bind_some, or_ok _ _ n (by omega), Option.bind_some, nod_fold n hn kr k r (i + 1) x.id]
    dsimp only
    cases decide (x.id ≤ last)
    · simp only [cond_false]
      cases h : orE (labE x.labels) (prpE x.props) != 0
      · simp only [cond_false]
      · simp only [cond_true, h]
    · rfl
theorem nodF_rise : ∀ {l : List Ev.Node} {last : Int}, nodF last l = 0 → (∀ x ∈ l, last < x.id) ∧ Rise Ev.Node.id l ∧ last ≤ nodL last l
  | [], last, _ => ⟨fun x hx => (by cases hx), List.Pairwise.nil, Int.le_refl _⟩
  | x :: r, last, h => by
    rw [nodF] at h
    cases h1 : decide (x.id ≤ last) with
    | true => rw [h1] at h; cases h
    | false =>
      rw [h1, cond_false] at h
      have hlt := of_decide_eq_false h1
      cases h2 : orE (labE x.labels) (prpE x.props) != 0 with
      | true => rw [h2, cond_true] at h; rw [h] at h2; cases h2
      | false =>
        rw [h2, cond_false] at h
        obtain ⟨i1, i2, i3⟩ := nodF_rise h
        refine ⟨fun y hy => ?_, List.pairwise_cons.2 ⟨i1, i2⟩, ?_⟩
        · rcases List.mem_cons.1 hy with rfl | hy
          · omega
          · have := i1 y hy; omega
        · rw [nodL]; omega

/-! ## edges -/
def edgF (nodes : List Ev.Node) : Int → List Edg → Int
  | _, [] => 0
  | last, x :: r => bif decide (x.id ≤ last) then 6 else bif (nodeIn nodes x.id).isSome then 6 else bif !(nmB x.type) then 6 else bif (nodeIn nodes x.src).isNone then 5 else bif (nodeIn nodes x.dst).isNone then 5 else
    bif prpE x.props != 0 then prpE x.props else edgF nodes x.id r
def edgL : Int → List Edg → Int
  | last, [] => last
  | _, x :: r => edgL x.id r
def topM : Int → List Edg → Int
  | top, [] => top
  | top, x :: r => topM (if x.id > top then x.id else top) r
noncomputable def edgB (n : Nat) (g : Graph) {ρ : Type} (kr : Int × Unit → Option ρ) : Int → Edg → Int → (Int → Option ρ) → Option ρ := fun i x last rec => bif decide ((x.id : Int) ≤ last) then kr (6, ()) else
  (graph_Find n (g, x.id, ())).bind fun y21 => bif decide ((y21.1 : Int) ≥ 0) then kr (6, ()) else
  (graph_Name n (x.type, ())).bind fun y22 => bif !y22.1 then kr (6, ()) else
  (graph_Find n (g, x.src, ())).bind fun y23 => bif decide ((y23.1 : Int) < 0) then kr (5, ()) else
  (graph_Find n (g, x.dst, ())).bind fun y24 => bif decide ((y24.1 : Int) < 0) then kr (5, ()) else
  (graph_Props n (x.props, ())).bind fun y25 => bif (y25.1 : Int) != 0 then kr (y25.1, ()) else rec x.id
theorem edg_fold (n : Nat) (hn : 60 ≤ n) (g : Graph) (hr : Rise Ev.Node.id g.nodes) (hl : g.nodes.length ≤ 40) {ρ : Type} (kr : Int × Unit → Option ρ) (k : Int → Option ρ) : ∀ (l : List Edg) (i last : Int), foldK (edgB n g kr) k i l last = bif edgF g.nodes last l != 0 then kr (edgF g.nodes last l, ()) else k (edgL last l)
  | [], _, _ => rfl
  | x :: r, i, last => by
    obtain ⟨k1, a1, b1⟩ := find_ok g x.id n hr hl (by omega)
    obtain ⟨k2, a2, b2⟩ := find_ok g x.src n hr hl (by omega)
    obtain ⟨k3, a3, b3⟩ := find_ok g x.dst n hr hl (by omega)
    rw [foldK, edgF, edgL, edgB, a1, Option.bind_some, a2, Option.bind_some, a3, Option.bind_some, props_ok x.props n (by omega), Option.bind_some, graph_Name_ok x.type n (by omega), Option.bind_some, edg_fold n hn g hr hl kr k r (i + 1) x.id]
    dsimp only
    rw [b1.ge, b2.lt, b3.lt]
    cases decide (x.id ≤ last)
    · cases (nodeIn g.nodes x.id).isSome
      · cases !(nmB x.type)
        · cases (nodeIn g.nodes x.src).isNone
          · cases (nodeIn g.nodes x.dst).isNone
            · simp only [cond_false]
              cases h : prpE x.props != 0
              · simp only [cond_false]
              · simp only [cond_true, h]
            · rfl
          · rfl
        · rfl
      · rfl
    · rfl
theorem edgF_rise {nodes : List Ev.Node} : ∀ {l : List Edg} {last : Int}, edgF nodes last l = 0 → (∀ x ∈ l, last < x.id) ∧ Rise Edg.id l ∧ ∀ top, topM (if last > top then last else top) l = (if edgL last l > top then edgL last l else top)
  | [], last, _ => ⟨fun x hx => (by cases hx), List.Pairwise.nil, fun top => rfl⟩
  | x :: r, last, h => by
    rw [edgF] at h
    cases h1 : decide (x.id ≤ last) with
    | true => rw [h1] at h; cases h
    | false =>
      rw [h1, cond_false] at h
      have hlt := of_decide_eq_false h1
      have h0 : edgF nodes x.id r = 0 := by
        cases h2 : (nodeIn nodes x.id).isSome with
        | true => rw [h2] at h; cases h
        | false =>
          cases h3 : !(nmB x.type) with
          | true => rw [h2, h3] at h; cases h
          | false =>
            cases h4 : (nodeIn nodes x.src).isNone with
            | true => rw [h2, h3, h4] at h; cases h
            | false =>
              cases h5 : (nodeIn nodes x.dst).isNone with
              | true => rw [h2, h3, h4, h5] at h; cases h
              | false =>
                rw [h2, h3, h4, h5] at h
                simp only [cond_false] at h
                cases h6 : prpE x.props != 0 with
                | true => rw [h6, cond_true] at h; rw [h] at h6; cases h6
                | false => rw [h6] at h; exact h
      obtain ⟨i1, i2, i3⟩ := edgF_rise h0
      refine ⟨fun y hy => ?_, List.pairwise_cons.2 ⟨i1, i2⟩, fun top => ?_⟩
      · rcases List.mem_cons.1 hy with rfl | hy
        · omega
        · have := i1 y hy; omega
      · rw [topM, edgL, ← i3 top]
        congr 1
        rcases Int.lt_or_le top last with h9 | h9
        · have e : (if last > top then last else top) = last := if_pos h9
          rw [e, if_pos (show x.id > last by omega), if_pos (show x.id > top by omega)]
        · have e : (if last > top then last else top) = top := if_neg (by omega)
          rw [e]

/-! ## all of it -/
def maxI (a b : Int) : Int := if a > b then a else b
/-- the errno of a graph -/
def chkG (g : Graph) : Int := bif (decide ((g.nodes.length : Int) > 40)) || (decide ((g.edges.length : Int) > 60)) then 2 else bif nodF 0 g.nodes != 0 then nodF 0 g.nodes else bif edgF g.nodes 0 g.edges != 0 then edgF g.nodes 0 g.edges else
  bif (decide ((g.next : Int) ≤ maxI (edgL 0 g.edges) (nodL 0 g.nodes))) || (decide ((g.next : Int) > 1099511627776)) then 9 else 0
theorem gcheck_ok (g : Graph) (n : Nat) (hn : 80 ≤ n) : graph_Check n (g, ()) = some (chkG g, ()) := by
  unfold graph_Check chkG
  dsimp only
  cases hb : (decide ((g.nodes.length : Int) > 40)) || (decide ((g.edges.length : Int) > 60)) with
  | true => rfl
  | false =>
    have h1 := of_decide_eq_false (Bool.or_eq_false_iff.1 hb).1
    have h2 := of_decide_eq_false (Bool.or_eq_false_iff.1 hb).2
    rw [cond_false, cond_false]
    refine (range_list g.nodes (fun i (s : Int) => (s, g.nodes, (g.nodes.length : Int), i, (g, ()), ())) _ (nodB n (fun x => some (x.1, ()))) _ (fun rec i s => rfl) (by omega) n 0 (by omega)).trans ?_
    rw [nod_fold n (by omega)]
    cases h3 : nodF 0 g.nodes != 0 with
    | true => rfl
    | false =>
      have h30 : nodF 0 g.nodes = 0 := by simpa using h3
      rw [cond_false, cond_false]
      refine (range_list g.edges (fun i (s : Int) => (s, nodL 0 g.nodes, g.edges, (g.edges.length : Int), i, (g, ()), ())) _ (edgB n g (fun x => some (x.1, ()))) _ (fun rec i s => rfl) (by omega) n 0 (by omega)).trans ?_
      rw [edg_fold n (by omega) g (nodF_rise h30).2.1 (by omega)]
      cases h4 : edgF g.nodes 0 g.edges != 0 with
      | true => rfl
      | false =>
        rw [cond_false, cond_false]
        dsimp only
        unfold maxI
        cases (decide ((g.next : Int) ≤ if edgL 0 g.edges > nodL 0 g.nodes then edgL 0 g.edges else nodL 0 g.nodes)) || (decide ((g.next : Int) > 1099511627776)) <;> rfl
end Pure

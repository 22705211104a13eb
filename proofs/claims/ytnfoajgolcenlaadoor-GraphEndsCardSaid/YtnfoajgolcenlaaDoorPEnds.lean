
/- Graphs: what comes and goes at all nodes is all edges. No program. -/
import Derived.Test.YtnfoajgolcenlaaDoorPGraph5
import Derived.Test.YtnfoajgolcenlaaDoorEvSort
namespace Pure
open Esp Ev Go
set_option linter.unusedSimpArgs false
set_option linter.unusedVariables false
set_option linter.unusedSimpArgs false
set_option linter.unusedVariables false

theorem roomB {n b : Nat} (h : n ≤ 2000000) (hb : b ≤ 1000) : room n b = true := by
  unfold room
  rw [Bool.and_eq_true]
  exact ⟨Nat.ble_eq_true_of_le (by omega), Nat.ble_eq_true_of_le (by have : n * b ≤ 2000000 * 1000 := Nat.mul_le_mul h hb; omega)⟩
theorem selF_eq {α : Type} (p : α → Bool) (f : α → Int) : ∀ l : List α, selF p f l = (l.filter p).map f
  | [] => rfl
  | x :: r => by
    rw [selF, List.filter_cons, selF_eq p f r]
    cases p x <;> rfl
theorem filter_or {α : Type} (p q : α → Bool) : ∀ l : List α, (∀ x ∈ l, p x = true → q x = false) → (l.filter p ++ l.filter q).Perm (l.filter fun x => p x || q x)
  | [], _ => .refl _
  | x :: r, h => by
    have ih := filter_or p q r fun y hy => h y (by simp [hy])
    rw [List.filter_cons, List.filter_cons, List.filter_cons]
    cases hp : p x
    · cases hq : q x
      · exact ih
      · exact (List.perm_middle).trans (ih.cons x)
    · rw [h x (by simp) hp]
      exact ih.cons x
/-- the one end or the other -/
def endB (b : Bool) (x : Edg) : Int := bif b then x.dst else x.src
theorem ends_perm (b : Bool) (l : List Edg) : ∀ ids : List Int, ids.Nodup → (ids.flatMap fun i => (l.filter fun x => endB b x == i).map Edg.id).Perm ((l.filter fun x => ids.contains (endB b x)).map Edg.id)
  | [], _ => by simp
  | i :: r, h => by
    obtain ⟨h1, h2⟩ := List.nodup_cons.1 h
    have ih := ends_perm b l r h2
    rw [List.flatMap_cons]
    refine (ih.append_left _).trans ?_
    rw [← List.map_append]
    refine ((filter_or _ _ l fun x _ hx => ?_).trans ?_).map _
    · have : endB b x = i := by simpa using hx
      rw [this]
      simpa using h1
    · refine .of_eq (List.filter_congr fun x _ => ?_)
      rw [List.contains_cons]
theorem rise_nodup {α : Type} {f : α → Int} {l : List α} (h : Rise f l) : (l.map f).Nodup := by
  unfold List.Nodup
  rw [List.pairwise_map]
  exact List.Pairwise.imp (fun h => by omega) h
theorem sorted_eq {l m : List Int} (h : l.Perm m) (hm : m.Pairwise (· ≤ ·)) : sortI l = m := by
  unfold sortI
  have h1 : (l.mergeSort fun x y => decide (x ≤ y)).Pairwise (fun x y => decide (x ≤ y) = true) := List.pairwise_mergeSort (fun a b c hab hbc => by simp at *; omega) (fun a b => by simp; omega) l
  have h2 : (l.mergeSort fun x y => decide (x ≤ y)).Pairwise (· ≤ ·) := h1.imp fun h => by simpa using h
  exact List.Perm.eq_of_pairwise (fun a b _ _ h1 h2 => by omega) h2 hm ((List.mergeSort_perm l _).trans h)
theorem arS_eq (g : Graph) (i : Int) (b : Bool) : arS g i ⟨#[]⟩ b = (g.edges.filter fun x => endB b x == i).map Edg.id := by
  unfold arS
  rw [selF_eq]
  congr 1
  refine List.filter_congr fun x _ => ?_
  unfold arP endB
  rw [seq_refl]
  cases b
  · simp
  · simp
theorem labS_eq (g : Graph) : labS g ⟨#[]⟩ = g.nodes.map Ev.Node.id := by
  unfold labS
  rw [selF_eq, List.filter_eq_self.2 fun x _ => by unfold labP; rw [seq_refl]; rfl]
theorem nodeIn_id {l : List Ev.Node} {t : Int} (h : (nodeIn l t).isNone = false) : t ∈ l.map Ev.Node.id := by
  cases h1 : nodeIn l t with
  | none => rw [h1] at h; cases h
  | some x =>
    have h2 := List.mem_of_find?_eq_some h1
    have h3 := List.find?_some h1
    have h4 : x.id = t := by simpa using h3
    exact h4 ▸ List.mem_map_of_mem h2
theorem id_nodeIn {l : List Ev.Node} {t : Int} (h : t ∈ l.map Ev.Node.id) : ∃ x, nodeIn l t = some x := by
  obtain ⟨y, hy, e⟩ := List.mem_map.1 h
  cases h1 : nodeIn l t with
  | some x => exact ⟨x, rfl⟩
  | none =>
    unfold nodeIn at h1
    rw [List.find?_eq_none] at h1
    exact absurd (by simpa using e) (h1 y hy)
theorem all_ends {g : Graph} (h : chkG g = 0) (b : Bool) : sortI ((g.nodes.map Ev.Node.id).flatMap fun i => arS g i ⟨#[]⟩ b) = g.edges.map Edg.id := by
  obtain ⟨h1, h2, h3, h4⟩ := chkG_0 h
  have hn := nodF_rise h3
  have he := edgF_rise h4
  refine sorted_eq ?_ ?_
  · simp only [arS_eq]
    refine (ends_perm b g.edges _ (rise_nodup hn.2.1)).trans ?_
    rw [List.filter_eq_self.2]
    intro x hx
    obtain ⟨_, _, s1, s2⟩ := edgF_0 h4 x hx
    rw [List.contains_iff_mem]
    unfold endB
    cases b
    · exact nodeIn_id s1
    · exact nodeIn_id s2
  · rw [List.pairwise_map]
    exact List.Pairwise.imp (fun h => by omega) he.2.1
/-- the rounds in one direction -/
theorem around_fold (g : Graph) (hg : chkG g = 0) (b : Bool) (n : Nat) (hn : 80 ≤ n) (kr : Bool × Unit → Option (Bool × Unit)) (v12 : List Int) (v14 : List Bool) (v15 v16 : Int) (K : List Int × Bool × List Bool × Int × Int × (Graph × Unit) × List Int × Unit → Option (Bool × Unit)) :
    ∀ (r : List Int) (i : Int) (s : List Int), (∀ t ∈ r, t ∈ g.nodes.map Ev.Node.id) → s.length + 60 * r.length ≤ 3000 → foldK (F_espalierlaw_GraphEnds_s2 n kr) K i r (v12, b, v14, v15, v16, (g, ()), s, ()) = K (v12, b, v14, v15, v16, (g, ()), s ++ r.flatMap (fun i => arS g i ⟨#[]⟩ b), ())
  | [], i, s, _, _ => by simp [foldK]
  | t :: r, i, s, h, hl => by
    obtain ⟨x, hx⟩ := id_nodeIn (h t (by simp))
    have hlen : (arS g t ⟨#[]⟩ b).length ≤ 60 := by
      rw [arS_eq, List.length_map]
      exact Nat.le_trans (List.length_filter_le _ _) (chkG_0 hg).2.1
    rw [List.length_cons] at hl
    rw [foldK]
    unfold F_espalierlaw_GraphEnds_s2
    dsimp only
    rw [show graph_Around n (⟨g.nodes, g.edges, g.next⟩, t, ⟨#[]⟩, b, ()) = _ from around_ok g t ⟨#[]⟩ b n hn, hg, hx]
    simp only [bne_self_eq_false, cond_false, optC, Option.bind_some]
    rw [ck_ok (roomB (by simp; omega) (by omega))]
    refine (around_fold g hg b n hn kr v12 v14 v15 v16 K r (i + 1) (s ++ arS g t ⟨#[]⟩ b) (fun y hy => h y (by simp [hy])) (by simp; omega)).trans ?_
    rw [List.flatMap_cons, List.append_assoc]
theorem edge_fold (g : Graph) (kr : Bool × Unit → Option (Bool × Unit)) (n : Nat) (v33 : List Int) (v35 : List Bool) (v36 v37 : Int) (K : List Int × List Int × List Bool × Int × Int × (Graph × Unit) × Unit → Option (Bool × Unit)) :
    ∀ (r p : List Edg), g.edges = p ++ r → foldK (F_espalierlaw_GraphEnds_s4 n kr) K (p.length : Int) r (v33, g.edges.map Edg.id, v35, v36, v37, (g, ()), ()) = K (v33, g.edges.map Edg.id, v35, v36, v37, (g, ()), ())
  | [], _, _ => rfl
  | x :: r, p, hp => by
    have e1 : ((p.length : Int) + 1) = ((p ++ [x]).length : Int) := by simp
    have e2 : ix (g.edges.map Edg.id) (p.length : Int) = some x.id := ix_ok (by rw [hp]; simp)
    rw [foldK]
    unfold F_espalierlaw_GraphEnds_s4
    dsimp only
    rw [e2, Option.bind_some, show (x.id != x.id) = false by simp, cond_false, e1]
    exact edge_fold g kr n v33 v35 v36 v37 K r (p ++ [x]) (by simp [hp])
theorem round_ok (g : Graph) (hg : chkG g = 0) (b : Bool) (n : Nat) (hn : 100 ≤ n) (i : Int) (hi : ix [false, true] i = some b) (h2 : i < 2) (rec : List Int × List Bool × Int × Int × (Graph × Unit) × Unit → Option (Bool × Unit)) (kx : Unit → Option (Bool × Unit)) (kr : Bool × Unit → Option (Bool × Unit)) :
    espalierlaw_GraphEnds_s0 n rec kx kr (g.nodes.map Ev.Node.id, [false, true], 2, i, (g, ()), ()) = rec (g.nodes.map Ev.Node.id, [false, true], 2, IntKind.wrap .i64 (i + 1), (g, ()), ()) := by
  obtain ⟨h40, h60, _, _⟩ := chkG_0 hg
  unfold espalierlaw_GraphEnds_s0
  dsimp only
  rw [decide_eq_true h2, cond_true, hi, Option.bind_some]
  refine (R_espalierlaw_GraphEnds_s2 n _ _ (g.nodes.map Ev.Node.id) n (g.nodes.map Ev.Node.id) b [false, true] 2 i (g, ()) [] (by simp; omega) (by simp; omega)).trans ?_
  rw [around_fold g hg b n (by omega) _ _ _ _ _ _ (g.nodes.map Ev.Node.id) 0 [] (fun t h => h) (by simp; omega)]
  dsimp only
  have hs : sortN ([] ++ (g.nodes.map Ev.Node.id).flatMap (fun i => arS g i ⟨#[]⟩ b), ()) = some (g.edges.map Edg.id, ()) := by
    unfold sortN
    dsimp only
    rw [List.nil_append, all_ends hg]
    have hperm := (List.mergeSort_perm ((g.nodes.map Ev.Node.id).flatMap (fun i => arS g i ⟨#[]⟩ b)) fun x y => decide (x ≤ y)).length_eq
    have h9 : (sortI ((g.nodes.map Ev.Node.id).flatMap (fun i => arS g i ⟨#[]⟩ b))).length = g.edges.length := by rw [all_ends hg]; simp
    unfold sortI at h9
    rw [Nat.ble_eq_true_of_le (by omega)]
    rfl
  rw [hs, Option.bind_some]
  dsimp only
  rw [show (((g.edges.map Edg.id).length : Int) != (g.edges.length : Int)) = false by simp, cond_false]
  refine (R_espalierlaw_GraphEnds_s4 n _ _ g.edges n (g.nodes.map Ev.Node.id) (g.edges.map Edg.id) [false, true] 2 i (g, ()) (by omega) (by omega)).trans ?_
  exact edge_fold g _ n _ _ _ _ _ g.edges [] rfl
theorem GraphEnds_ok (g : Graph) (n : Nat) (hn : 100 ≤ n) : espalierlaw_GraphEnds n (g, ()) = some (true, ()) := by
  unfold espalierlaw_GraphEnds
  dsimp only
  rw [show graph_Labelled n (⟨g.nodes, g.edges, g.next⟩, ⟨#[]⟩, ()) = _ from labelled_ok g ⟨#[]⟩ n (by omega), Option.bind_some, drawn_ok n (by omega), Option.bind_some, Option.bind_some]
  dsimp only
  cases h1 : chkG g != 0
  · have hg : chkG g = 0 := by simpa using h1
    rw [show ((!true) || false) = false from rfl, cond_false, cond_false, labS_eq]
    obtain ⟨m, rfl⟩ : ∃ m, n = m + 3 := ⟨n - 3, by omega⟩
    rw [iterN]
    refine (round_ok g hg false (m + 3) hn 0 rfl (by omega) _ _ _).trans ?_
    rw [iterN]
    refine (round_ok g hg true (m + 3) hn 1 rfl (by omega) _ _ _).trans ?_
    rw [iterN]
    rfl
  · rfl
end Pure

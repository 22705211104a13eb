
/- Graphs: what is around. No program. -/
import Derived.Test.YtnfoajgolcenlaaDoorPGraph4
namespace Pure
open Esp Ev Go
set_option linter.unusedSimpArgs false
set_option linter.unusedVariables false
set_option linter.unusedSimpArgs false
set_option linter.unusedVariables false

/-- chosen ones, each by its number -/
def selF {α : Type} (p : α → Bool) (f : α → Int) : List α → List Int
  | [] => []
  | x :: r => bif p x then f x :: selF p f r else selF p f r
theorem selF_length {α : Type} (p : α → Bool) (f : α → Int) : ∀ l : List α, (selF p f l).length ≤ l.length
  | [] => Nat.le_refl _
  | x :: r => by
    have := selF_length p f r
    rw [selF]
    cases p x <;> simp <;> omega
theorem sel_fold {α ρ : Type} (q : α → (Bool → Option ρ) → Option ρ) (p : α → Bool) (f : α → Int) (k : List Int → Option ρ) : ∀ (l : List α) (i : Int) (s : List Int), (∀ x ∈ l, ∀ c : Bool → Option ρ, q x c = c (p x)) → s.length + l.length ≤ 100 →
    foldK (fun (i : Int) (x : α) (s : List Int) (rec : List Int → Option ρ) => q x fun b => bif b then ck (room (s ++ ([f x] : List Int)).length 8) (rec (s ++ ([f x] : List Int))) else rec s) k i l s = k (s ++ selF p f l)
  | [], i, s, _, _ => by simp [foldK, selF]
  | x :: r, i, s, h, hl => by
    rw [foldK, h x (by simp), selF]
    cases p x
    · simp only [cond_false]
      exact sel_fold q p f k r (i + 1) s (fun y hy => h y (by simp [hy])) (by simp at hl ⊢; omega)
    · simp only [cond_true]
      rw [ck_ok (room_ok (by simp at hl ⊢; omega) (by omega)), sel_fold q p f k r (i + 1) (s ++ [f x]) (fun y hy => h y (by simp [hy])) (by simp at hl ⊢; omega)]
      simp
def hasL (l : List ByteArray) (s : ByteArray) : Bool := l.any fun x => seq s x
theorem index_fold (s : ByteArray) (k : Unit → Option (Int × Unit)) (hk : k () = some (-1, ())) : ∀ (l : List ByteArray) (i : Int), 0 ≤ i → ∃ j, foldK (fun (i : Int) (x : ByteArray) (u : Unit) (rec : Unit → Option (Int × Unit)) => bif seq s x then some (i, ()) else rec u) k i l () = some (j, ()) ∧ decide (j ≥ 0) = hasL l s
  | [], i, _ => ⟨-1, hk, rfl⟩
  | x :: r, i, hi => by
    obtain ⟨j, h1, h2⟩ := index_fold s k hk r (i + 1) (by omega)
    rw [foldK, h1]
    unfold hasL at h2 ⊢
    rw [List.any_cons]
    cases seq s x
    · exact ⟨j, rfl, by rw [h2]; rfl⟩
    · exact ⟨i, rfl, by simpa using hi⟩
theorem has_ok (l : List ByteArray) (s : ByteArray) (n : Nat) (hl : l.length ≤ 10) (hn : 20 ≤ n) : slices_Contains_string_string n (l, s, ()) = some (hasL l s, ()) := by
  obtain ⟨j, h1, h2⟩ := index_fold s (fun _ => some (-1, ())) rfl l 0 (by omega)
  have h3 : slices_Index_string_string n (l, s, ()) = some (j, ()) :=
    (range_list l (fun i (u : Unit) => (l, s, (l.length : Int), i, ())) _ (fun (i : Int) (x : ByteArray) (u : Unit) (rec : Unit → Option (Int × Unit)) => bif seq s x then some (i, ()) else rec u) (fun _ => some (-1, ()))
      (fun rec i u => rfl) (by omega) n () (by omega)).trans h1
  unfold slices_Contains_string_string
  dsimp only
  rw [h3, Option.bind_some]
  dsimp only
  rw [h2]
theorem equal_fold (l : List Int) : ∀ (r p : List Int), l = p ++ r → foldK (fun (i : Int) (x : Int) (u : Unit) (rec : Unit → Option (Bool × Unit)) => (ix l i).bind fun y => bif (x : Int) != y then some (false, ()) else rec u) (fun _ => some (true, ())) (p.length : Int) r () = some (true, ())
  | [], _, _ => rfl
  | x :: r, p, hp => by
    have ih := equal_fold l r (p ++ [x]) (by simp [hp])
    have e1 : ((p.length : Int) + 1) = ((p ++ [x]).length : Int) := by simp
    have e2 : ix l (p.length : Int) = some x := ix_ok (by rw [hp]; simp)
    rw [foldK, e1, ih, e2, Option.bind_some]
    simp
theorem equal_ok (l : List Int) (n : Nat) (hl : l.length ≤ 90) (hn : 100 ≤ n) : slices_Equal_int_int n (l, l, ()) = some (true, ()) := by
  unfold slices_Equal_int_int
  dsimp only
  rw [show ((l.length : Int) != (l.length : Int)) = false from by simp, cond_false]
  exact (range_list l (fun i (u : Unit) => (l, l, (l.length : Int), i, ())) _ (fun (i : Int) (x : Int) (u : Unit) (rec : Unit → Option (Bool × Unit)) => (ix l i).bind fun y => bif (x : Int) != y then some (false, ()) else rec u) (fun _ => some (true, ()))
    (fun rec i u => rfl) (by omega) n () (by omega)).trans (equal_fold l l [] rfl)

/-! ## by labels -/
def labP (s : ByteArray) (x : Ev.Node) : Bool := seq s ⟨#[]⟩ || hasL x.labels s
noncomputable def labQ {ρ : Type} (n : Nat) (s : ByteArray) (x : Ev.Node) (c : Bool → Option ρ) : Option ρ := bif seq s ⟨#[]⟩ then c true else (slices_Contains_string_string n (x.labels, s, ())).bind fun y => bif y.1 then c true else c false
theorem labQ_ok {ρ : Type} (n : Nat) (hn : 20 ≤ n) (s : ByteArray) (x : Ev.Node) (hx : x.labels.length ≤ 4) (c : Bool → Option ρ) : labQ n s x c = c (labP s x) := by
  unfold labQ labP
  rw [has_ok x.labels s n (by omega) hn, Option.bind_some]
  dsimp only
  cases seq s ⟨#[]⟩ <;> cases hasL x.labels s <;> rfl
noncomputable def labS (g : Graph) (s : ByteArray) : List Int := selF (labP s) Ev.Node.id g.nodes
theorem labelled_ok (g : Graph) (s : ByteArray) (n : Nat) (hn : 80 ≤ n) : graph_Labelled n (g, s, ()) = some (bif chkG g != 0 then [] else labS g s, chkG g, ()) := by
  unfold graph_Labelled
  dsimp only
  rw [Graph.eta, gcheck_ok g n hn, Option.bind_some]
  dsimp only
  cases hc : chkG g != 0 with
  | true => rfl
  | false =>
    have hc0 : chkG g = 0 := by simpa using hc
    obtain ⟨h1, h2, h3, h4⟩ := chkG_0 hc0
    rw [cond_false, cond_false, hc0]
    refine (range_list g.nodes (fun i (o : List Int) => (s, g.nodes, (g.nodes.length : Int), i, o, ())) _ (fun (i : Int) (x : Ev.Node) (o : List Int) rec => labQ n s x fun b => bif b then ck (room (o ++ ([x.id] : List Int)).length 8) (rec (o ++ ([x.id] : List Int))) else rec o) (fun o => some (o, 0, ()))
      (fun rec i o => rfl) (by omega) n [] (by omega)).trans ?_
    rw [sel_fold (labQ n s) (labP s) Ev.Node.id _ g.nodes 0 [] (fun x hx c => labQ_ok n (by omega) s x (labE_0 (nodF_0 h3 x hx).1) c) (by simp; omega)]
    rfl

/-! ## around a node -/
theorem seq_comm (a b : ByteArray) : seq a b = seq b a := by
  rw [Bool.eq_iff_iff, seq_iff, seq_iff]
  exact eq_comm
def arP (id : Int) (k : ByteArray) (b : Bool) (x : Edg) : Bool := ((seq k ⟨#[]⟩) || (seq x.type k)) && ((b && ((x.dst : Int) == id)) || ((!b) && ((x.src : Int) == id)))
noncomputable def arS (g : Graph) (id : Int) (k : ByteArray) (b : Bool) : List Int := selF (arP id k b) Edg.id g.edges
theorem around_ok (g : Graph) (id : Int) (k : ByteArray) (b : Bool) (n : Nat) (hn : 80 ≤ n) : graph_Around n (g, id, k, b, ()) = some (bif chkG g != 0 then ([], chkG g, ()) else optC (nodeIn g.nodes id) ([], 5, ()) fun _ => (arS g id k b, 0, ())) := by
  unfold graph_Around
  dsimp only
  rw [Graph.eta, gcheck_ok g n hn, Option.bind_some]
  dsimp only
  cases hc : chkG g != 0 with
  | true => rfl
  | false =>
    have hc0 : chkG g = 0 := by simpa using hc
    obtain ⟨h1, h2, h3, h4⟩ := chkG_0 hc0
    obtain ⟨k1, a1, b1⟩ := find_ok g id n (nodF_rise h3).2.1 h1 (by omega)
    rw [cond_false, cond_false, a1, Option.bind_some]
    dsimp only
    rw [b1.lt]
    cases e1 : nodeIn g.nodes id with
    | none => rfl
    | some z =>
      rw [Option.isNone_some, cond_false]
      refine (range_list g.edges (fun i (o : List Int) => (id, k, b, g.edges, (g.edges.length : Int), i, o, ())) _ (fun (i : Int) (x : Edg) (o : List Int) rec => (fun x (c : Bool → Option (List Int × Int × Unit)) => c (arP id k b x)) x fun b => bif b then ck (room (o ++ ([x.id] : List Int)).length 8) (rec (o ++ ([x.id] : List Int))) else rec o) (fun o => some (o, 0, ()))
        (fun rec i o => rfl) (by omega) n [] (by omega)).trans ?_
      rw [sel_fold (fun x c => c (arP id k b x)) (arP id k b) Edg.id _ g.edges 0 [] (fun x hx c => rfl) (by simp; omega)]
      rfl
noncomputable def arQ {ρ : Type} (id : Int) (k : ByteArray) (b : Bool) (x : Edg) (c : Bool → Option ρ) : Option ρ := bif b then (bif ((x.dst : Int) == id) && ((seq k ⟨#[]⟩) || (seq k x.type)) then c true else c false) else (bif ((x.src : Int) == id) && ((seq k ⟨#[]⟩) || (seq k x.type)) then c true else c false)
theorem arQ_ok {ρ : Type} (id : Int) (k : ByteArray) (b : Bool) (x : Edg) (c : Bool → Option ρ) : arQ id k b x c = c (arP id k b x) := by
  unfold arQ arP
  rw [seq_comm x.type k]
  cases b <;> cases seq k ⟨#[]⟩ <;> cases seq k x.type <;> cases (x.dst == id) <;> cases (x.src == id) <;> rfl
end Pure

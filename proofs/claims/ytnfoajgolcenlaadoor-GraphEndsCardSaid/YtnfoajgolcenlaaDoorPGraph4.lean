
/- Graphs: properties, and what is around. No program. -/
import Derived.Test.YtnfoajgolcenlaaDoorPGraph3
namespace Pure
open Esp Ev Go
set_option linter.unusedSimpArgs false
set_option linter.unusedVariables false
set_option linter.unusedSimpArgs false
set_option linter.unusedVariables false

/-! ## copies -/
theorem room_ok {n b : Nat} (h : n ≤ 1000) (hb : b ≤ 1000) : room n b = true := by
  unfold room
  rw [Bool.and_eq_true]
  exact ⟨Nat.ble_eq_true_of_le (by omega), Nat.ble_eq_true_of_le (by have : n * b ≤ 1000 * 1000 := Nat.mul_le_mul h hb; omega)⟩
theorem copy_fold {ρ : Type} (self : Val × Unit → Option (Val × Unit)) (k : List Val → Option ρ) : ∀ (r p : List Val) (i : Int), (∀ x ∈ r, self (x, ()) = some (x, ())) → p.length + r.length ≤ 30 →
    foldK (fun (i : Int) (x : Val) (s : List Val) (rec : List Val → Option ρ) => (self (x, ())).bind fun y => ck (room (s ++ ([y.1] : List Val)).length 56) (rec (s ++ ([y.1] : List Val)))) k i r p = k (p ++ r)
  | [], p, i, _, _ => by simp [foldK]
  | x :: r, p, i, h, hl => by
    rw [foldK, h x (by simp), Option.bind_some]
    dsimp only
    rw [ck_ok (room_ok (by simp at hl ⊢; omega) (by omega)), copy_fold self k r (p ++ [x]) (i + 1) (fun y hy => h y (by simp [hy])) (by simp at hl ⊢; omega)]
    simp
theorem copy_ok (v : Val) : ∀ (d : Int) (n : Nat), 1 ≤ d → d ≤ 7 → 40 ≤ n + d.toNat → chk v d = 0 → value_Copy n (v, ()) = some (v, ()) := by
  induction v using val_ind with
  | _ k a s l ih =>
    intro d n h1 h2 h3 hc
    obtain ⟨m, rfl⟩ : ∃ m, n = m + 1 := ⟨n - 1, by omega⟩
    have key : l.length ≤ 30 → (∀ x ∈ l, value_Copy m (x, ()) = some (x, ())) → value_Copy (m + 1) (.mk k a s l, ()) = some (.mk k a s l, ()) := by
      intro hl hs
      rw [value_Copy]
      unfold value_Copy_b
      dsimp +instances only [kind_mk, n_mk, s_mk, l_mk]
      refine (range_list l (fun i (s0 : List Val) => (l, (l.length : Int), i, (k, a, s, ()), ((Ev.Val.mk 0 0 (⟨#[]⟩ : ByteArray) ([] : List Ev.Val)), ()), s0, ())) _ (fun (i : Int) (x : Val) (s : List Val) rec => (value_Copy m (x, ())).bind fun y => ck (room (s ++ ([y.1] : List Val)).length 56) (rec (s ++ ([y.1] : List Val)))) (fun s0 => some (.mk k a s s0, ()))
        (fun rec i s => by simp only [value_Copy_s0, Val.eta]) (by omega) m [] (by omega)).trans ?_
      rw [copy_fold _ _ l [] 0 hs (by simpa using hl)]
      rfl
    rw [chk] at hc
    have nil : ∀ {x : Bool}, fin6 (x && ((l.length : Int) == 0)) = 0 → l = [] := fun {x} h => by
      have := fin6_0 h
      rw [Bool.and_eq_true] at this
      simpa using this.2
    have key0 : l = [] → value_Copy (m + 1) (.mk k a s l, ()) = some (.mk k a s l, ()) := fun h => key (by rw [h]; simp) (by rw [h]; intro x hx; cases hx)
    cases h0 : k == 0
    · rw [h0] at hc
      cases h1 : k == 1
      · rw [h1] at hc
        cases h2 : k == 2
        · rw [h2] at hc
          cases h3 : k == 3
          · rw [h3] at hc
            cases h4 : k == 4
            · rw [h4] at hc; cases hc
            · rw [h4] at hc
              simp only [cond_false, cond_true] at hc
              cases hb : decide ((l.length : Int) > 30) || decide (d > 6)
              · rw [hb] at hc
                have hb2 := Bool.or_eq_false_iff.1 hb
                have h30 := of_decide_eq_false hb2.1
                have h6 := of_decide_eq_false hb2.2
                simp only [cond_false] at hc
                cases hcc : chks l (d + 1) != 0
                · have hc0 : chks l (d + 1) = 0 := by simpa using hcc
                  exact key (by omega) fun x hx => ih x hx (d + 1) m (by omega) (by omega) (by omega) (chks_0 hc0 x hx)
                · rw [hcc] at hc
                  have h0 : chks l (d + 1) = 0 := hc
                  simp [h0] at hcc
              · rw [hb] at hc; cases hc
          · rw [h3] at hc
            simp only [cond_false, cond_true] at hc
            cases hb : decide ((s.size : Int) > 4000)
            · rw [hb] at hc
              simp only [cond_false] at hc
              cases ha : a == 0
              · rw [ha] at hc; cases hc
              · rw [ha] at hc
                exact key0 (nil hc)
            · rw [hb] at hc; cases hc
        · rw [h2] at hc
          exact key0 (nil hc)
      · rw [h1] at hc
        exact key0 (nil hc)
    · rw [h0] at hc
      exact key0 (nil hc)
/-! ## what is right in a graph -/
theorem prpF_0 : ∀ {l : List Prp} {prev : ByteArray}, prpF prev l = 0 → ∀ x ∈ l, chk x.val 1 = 0
  | [], _, _ => fun x hx => (by cases hx)
  | y :: r, prev, h => by
    rw [prpF] at h
    cases h1 : ((!(nmB y.name)) || (sless y.name prev || seq y.name prev)) || (y.val.kind == 0) with
    | true => rw [h1] at h; cases h
    | false =>
      rw [h1, cond_false] at h
      cases h2 : chk y.val 1 != 0 with
      | true => rw [h2, cond_true] at h; rw [h] at h2; cases h2
      | false =>
        rw [h2] at h
        have h0 : chk y.val 1 = 0 := by simpa using h2
        intro x hx
        rcases List.mem_cons.1 hx with rfl | hx
        · exact h0
        · exact prpF_0 h x hx
theorem prpE_0 {l : List Prp} (h : prpE l = 0) : l.length ≤ 6 ∧ ∀ x ∈ l, chk x.val 1 = 0 := by
  unfold prpE at h
  cases h1 : decide ((l.length : Int) > 6) with
  | true => rw [h1] at h; cases h
  | false =>
    rw [h1] at h
    have := of_decide_eq_false h1
    exact ⟨by omega, prpF_0 h⟩
theorem labE_0 {l : List ByteArray} (h : labE l = 0) : l.length ≤ 4 := by
  unfold labE at h
  cases h1 : decide ((l.length : Int) > 4) with
  | true => rw [h1] at h; cases h
  | false =>
    have := of_decide_eq_false h1
    omega
theorem nodF_0 : ∀ {l : List Ev.Node} {last : Int}, nodF last l = 0 → ∀ x ∈ l, labE x.labels = 0 ∧ prpE x.props = 0
  | [], _, _ => fun x hx => (by cases hx)
  | y :: r, last, h => by
    rw [nodF] at h
    cases h1 : decide (y.id ≤ last) with
    | true => rw [h1] at h; cases h
    | false =>
      rw [h1, cond_false] at h
      cases h2 : orE (labE y.labels) (prpE y.props) != 0 with
      | true => rw [h2, cond_true] at h; rw [h] at h2; cases h2
      | false =>
        rw [h2] at h
        have h0 : orE (labE y.labels) (prpE y.props) = 0 := by simpa using h2
        unfold orE at h0
        intro x hx
        rcases List.mem_cons.1 hx with rfl | hx
        · cases h3 : labE x.labels != 0 with
          | true => rw [h3, cond_true] at h0; rw [h0] at h3; cases h3
          | false => rw [h3] at h0; exact ⟨by simpa using h3, h0⟩
        · exact nodF_0 h x hx
theorem edgF_0 {nodes : List Ev.Node} : ∀ {l : List Edg} {last : Int}, edgF nodes last l = 0 → ∀ x ∈ l, prpE x.props = 0 ∧ (nodeIn nodes x.id).isSome = false ∧ (nodeIn nodes x.src).isNone = false ∧ (nodeIn nodes x.dst).isNone = false
  | [], _, _ => fun x hx => (by cases hx)
  | y :: r, last, h => by
    rw [edgF] at h
    cases h1 : decide (y.id ≤ last) with
    | true => rw [h1] at h; cases h
    | false =>
      cases h2 : (nodeIn nodes y.id).isSome with
      | true => rw [h1, h2] at h; cases h
      | false =>
        cases h3 : !(nmB y.type) with
        | true => rw [h1, h2, h3] at h; cases h
        | false =>
          cases h4 : (nodeIn nodes y.src).isNone with
          | true => rw [h1, h2, h3, h4] at h; cases h
          | false =>
            cases h5 : (nodeIn nodes y.dst).isNone with
            | true => rw [h1, h2, h3, h4, h5] at h; cases h
            | false =>
              rw [h1, h2, h3, h4, h5] at h
              simp only [cond_false] at h
              cases h6 : prpE y.props != 0 with
              | true => rw [h6, cond_true] at h; rw [h] at h6; cases h6
              | false =>
                rw [h6] at h
                intro x hx
                rcases List.mem_cons.1 hx with rfl | hx
                · exact ⟨by simpa using h6, h2, h4, h5⟩
                · exact edgF_0 h x hx
theorem chkG_0 {g : Graph} (h : chkG g = 0) : g.nodes.length ≤ 40 ∧ g.edges.length ≤ 60 ∧ nodF 0 g.nodes = 0 ∧ edgF g.nodes 0 g.edges = 0 := by
  unfold chkG at h
  cases hb : (decide ((g.nodes.length : Int) > 40)) || (decide ((g.edges.length : Int) > 60)) with
  | true => rw [hb] at h; cases h
  | false =>
    have h1 := of_decide_eq_false (Bool.or_eq_false_iff.1 hb).1
    have h2 := of_decide_eq_false (Bool.or_eq_false_iff.1 hb).2
    rw [hb, cond_false] at h
    cases h3 : nodF 0 g.nodes != 0 with
    | true => rw [h3, cond_true] at h; rw [h] at h3; cases h3
    | false =>
      rw [h3, cond_false] at h
      cases h4 : edgF g.nodes 0 g.edges != 0 with
      | true => rw [h4, cond_true] at h; rw [h] at h4; cases h4
      | false => exact ⟨by omega, by omega, by simpa using h3, by simpa using h4⟩

/-! ## a property -/
def nullV : Val := .mk 0 0 ⟨#[]⟩ []
def propIn : List Prp → ByteArray → Val
  | [], _ => nullV
  | x :: r, s => bif seq x.name s then x.val else propIn r s
theorem propIn_mem (s : ByteArray) : ∀ l : List Prp, propIn l s = nullV ∨ ∃ x ∈ l, propIn l s = x.val
  | [] => .inl rfl
  | x :: r => by
    rw [propIn]
    cases seq x.name s
    · rcases propIn_mem s r with h | ⟨y, h1, h2⟩
      · exact .inl h
      · exact .inr ⟨y, by simp [h1], h2⟩
    · exact .inr ⟨x, by simp, rfl⟩
theorem get_fold (n : Nat) (hn : 40 ≤ n) (s : ByteArray) (k : Unit → Option (Val × Unit)) (hk : k () = some (nullV, ())) : ∀ (l : List Prp) (i : Int), (∀ x ∈ l, chk x.val 1 = 0) → foldK (fun (i : Int) (x : Prp) (u : Unit) (rec : Unit → Option (Val × Unit)) => bif seq x.name s then (value_Copy n (x.val, ())).bind fun y => some (y.1, ()) else rec u) k i l () = some (propIn l s, ())
  | [], i, _ => hk
  | x :: r, i, h => by
    rw [foldK, propIn, copy_ok x.val 1 n (by omega) (by omega) (by omega) (h x (by simp)), Option.bind_some, get_fold n hn s k hk r (i + 1) fun y hy => h y (by simp [hy])]
    cases seq x.name s <;> rfl
theorem get_ok (l : List Prp) (s : ByteArray) (n : Nat) (hn : 40 ≤ n) (hl : l.length ≤ 6) (h : ∀ x ∈ l, chk x.val 1 = 0) : graph_Get n (l, s, ()) = some (propIn l s, ()) := by
  unfold graph_Get
  exact (range_list l (fun i (u : Unit) => (s, l, (l.length : Int), i, (nullV, ()), ())) _ (fun (i : Int) (x : Prp) (u : Unit) (rec : Unit → Option (Val × Unit)) => bif seq x.name s then (value_Copy n (x.val, ())).bind fun y => some (y.1, ()) else rec u) (fun _ => some (nullV, ()))
    (fun rec i u => by simp only [graph_Get_s0, Val.eta]; rfl) (by omega) n () (by omega)).trans (get_fold n hn s _ rfl l 0 h)
theorem propOf_fold (s : ByteArray) (k : Unit → Option (Val × Unit)) (hk : k () = some (nullV, ())) : ∀ (l : List Prp) (i : Int), foldK (fun (i : Int) (x : Prp) (u : Unit) (rec : Unit → Option (Val × Unit)) => bif seq x.name s then some (x.val, ()) else rec u) k i l () = some (propIn l s, ())
  | [], i => hk
  | x :: r, i => by
    rw [foldK, propIn, propOf_fold s k hk r (i + 1)]
    cases seq x.name s <;> rfl
theorem same_prop {l : List Prp} (hp : prpE l = 0) (hw : ∀ x ∈ l, pOk x) (s : ByteArray) (n : Nat) (hn : 40 ≤ n) : espalierref_SameValue n (propIn l s, propIn l s, ()) = some (true, ()) := by
  refine same_ok ?_ n hn
  rcases propIn_mem s l with h | ⟨x, h1, h2⟩
  · rw [h]; exact .null 1
  · rw [h2]; exact right_of x.val 1 (hw x h1).2 ((prpE_0 hp).2 x h1)
theorem nodeIn_mem {l : List Ev.Node} {t : Int} {x : Ev.Node} (h : nodeIn l t = some x) : x ∈ l := List.mem_of_find?_eq_some h
theorem edgeIn_mem {l : List Edg} {t : Int} {x : Edg} (h : edgeIn l t = some x) : x ∈ l := List.mem_of_find?_eq_some h
/-- what Prop says -/
def propG (g : Graph) (i : Int) (s : ByteArray) : Val × Int :=
  bif chkG g != 0 then (nullV, chkG g) else match nodeIn g.nodes i with
  | some x => (propIn x.props s, 0)
  | none => match edgeIn g.edges i with
    | some x => (propIn x.props s, 0)
    | none => (nullV, 5)
theorem prop_ok (g : Graph) (i : Int) (s : ByteArray) (n : Nat) (hn : 80 ≤ n) : graph_Prop n (g, i, s, ()) = some ((propG g i s).1, (propG g i s).2, ()) := by
  unfold graph_Prop propG
  dsimp only
  rw [gcheck_ok g n hn, Option.bind_some]
  dsimp only
  cases hc : chkG g != 0 with
  | true => rfl
  | false =>
    obtain ⟨h1, h2, h3, h4⟩ := chkG_0 (g := g) (by simpa using hc)
    obtain ⟨k1, a1, b1⟩ := find_ok g i n (nodF_rise h3).2.1 h1 (by omega)
    obtain ⟨k2, a2, b2⟩ := findE_ok g i n (edgF_rise h4).2.1 h2 (by omega)
    rw [cond_false, cond_false]
    rw [a1, Option.bind_some]
    dsimp only
    rw [b1.ge]
    rcases b1 with ⟨_, e1⟩ | ⟨_, x, e2, e1⟩
    · rw [e1]
      simp only [Option.isSome_none, cond_false]
      rw [a2, Option.bind_some]
      dsimp only
      rw [b2.ge]
      rcases b2 with ⟨_, e3⟩ | ⟨_, x, e4, e3⟩
      · rw [e3]; rfl
      · rw [e3]
        obtain ⟨p1, p2⟩ := prpE_0 (edgF_0 h4 x (edgeIn_mem e3)).1
        simp only [Option.isSome_some, cond_true, e4, Option.bind_some, get_ok x.props s n (by omega) p1 p2, Val.eta]
    · rw [e1]
      obtain ⟨p1, p2⟩ := prpE_0 (nodF_0 h3 x (nodeIn_mem e1)).2
      simp only [Option.isSome_some, cond_true, e2, Option.bind_some, get_ok x.props s n (by omega) p1 p2, Val.eta]
end Pure

/- Several texts in one (merge.py). -/
import Derived.Test.YtnhbmojhcpcjaaaDoorPA

/- Who may see what. No program. -/
namespace Pure
open Esp Ev Go
set_option linter.unusedSimpArgs false
set_option linter.unusedVariables false
set_option linter.unusedSimpArgs false
set_option linter.unusedVariables false

end Pure


/- Who sees what. No program. -/
namespace Pure
open Esp Ev Go
set_option linter.unusedSimpArgs false
set_option linter.unusedVariables false

theorem Grant.eta (g : Grant) : Grant.mk g.who g.labels = g := rfl

/-! ## what is in order -/
structure nodeS (x : Ev.Node) : Prop where
  lab : x.labels.length ≤ 4
  prp : prpE x.props = 0
structure graphS (g : Graph) : Prop where
  nl : g.nodes.length ≤ 40
  el : g.edges.length ≤ 60
  nd : ∀ x ∈ g.nodes, nodeS x
  ed : ∀ x ∈ g.edges, prpE x.props = 0
theorem graphS_of {g : Graph} (h : chkG g = 0) : graphS g := by
  obtain ⟨h1, h2, h3, h4⟩ := chkG_0 h
  exact ⟨h1, h2, fun x hx => ⟨labE_0 (nodF_0 h3 x hx).1, (nodF_0 h3 x hx).2⟩, fun x hx => (edgF_0 h4 x hx).1⟩

/-! ## copies -/
theorem copyP_ok (l : List Prp) (n : Nat) (hn : 60 ≤ n) (h : prpE l = 0) : q35z n (l, ()) = some (l, ()) := by
  obtain ⟨h6, hc⟩ := prpE_0 h
  unfold q35z
  dsimp only
  rw [R_q35z_s0 n _ _ l n [] (by omega) (by omega)]
  have key : ∀ (r p : List Prp) (i : Int), (∀ x ∈ r, chk x.val 1 = 0) → p.length + r.length ≤ 30 → foldK (F_q35z_s0 n (fun _ => none)) (fun s => some (s.1, ())) i r (p, ()) = some (p ++ r, ()) := by
    intro r
    induction r with
    | nil => intro p i _ _; simp [foldK]
    | cons x r ih =>
      intro p i hx hl
      rw [foldK]
      unfold F_q35z_s0
      dsimp only
      rw [Val.eta, copy_ok x.val 1 n (by omega) (by omega) (by omega) (hx x (by simp)), Option.bind_some]
      dsimp only
      rw [Val.eta, ck_ok (room_ok (by simp at hl ⊢; omega) (by omega))]
      refine (ih (p ++ [x]) (i + 1) (fun y hy => hx y (by simp [hy])) (by simp at hl ⊢; omega)).trans ?_
      simp
  exact (key l [] 0 hc (by simp; omega))
theorem clone_ok (l : List ByteArray) (h : l.length ≤ 4) : q12z (l, ()) = some (l, ()) := by
  unfold q12z nilq
  dsimp only
  rw [List.nil_append, ck_ok (room_ok (by omega) (by omega))]
  cases l with
  | nil => exact dem2_same _
  | cons a r => rfl
theorem copyN_ok (x : Ev.Node) (n : Nat) (hn : 60 ≤ n) (h : nodeS x) : q38z n (x, ()) = some (x, ()) := by
  unfold q38z
  dsimp only
  rw [clone_ok x.labels h.lab, Option.bind_some]
  dsimp only
  rw [copyP_ok x.props n hn h.prp]
  rfl
theorem copyE_ok (x : Edg) (n : Nat) (hn : 60 ≤ n) (h : prpE x.props = 0) : q37z n (x, ()) = some (x, ()) := by
  unfold q37z
  dsimp only
  rw [copyP_ok x.props n hn h]
  rfl

def both (l : List Ev.Node) (e : Edg) : Bool := (nodeIn l e.src).isSome && (nodeIn l e.dst).isSome
def g0 : Graph := ⟨[], [], 0⟩
end Pure


/- Differences of rising lists: what is taken out and put in makes the one of the other. Plain Lean. -/
namespace Pure
section
variable {α : Type} (id : α → Int) (same : α → α → Bool)
abbrev Up (l : List α) : Prop := l.Pairwise fun a b => id a < id b
variable {id same}
theorem Up.inj {l : List α} (h : Up id l) {x y : α} (hx : x ∈ l) (hy : y ∈ l) (e : id x = id y) : x = y := by
  induction l with
  | nil => cases hx
  | cons z r ih =>
    have h2 := List.pairwise_cons.1 h
    rcases List.mem_cons.1 hx with e1 | hx2
    · rcases List.mem_cons.1 hy with e2 | hy2
      · exact e1.trans e2.symm
      · have := h2.1 y hy2; rw [← e1] at this; omega
    · rcases List.mem_cons.1 hy with e2 | hy2
      · have := h2.1 x hx2; rw [← e2] at this; omega
      · exact ih h2.2 hx2 hy2
end
end Pure


/- Nodes and edges that are alike, by the program and by the document. No program. -/
namespace Pure
open Esp Ev Go
set_option linter.unusedSimpArgs false
set_option linter.unusedVariables false

def eqL {α β : Type} (eq : α → β → Bool) : List α → List β → Bool
  | [], [] => true
  | x :: r, y :: t => eq x y && eqL eq r t
  | _, _ => false
theorem eqL_iff {α : Type} {eq : α → α → Bool} : ∀ {l m : List α}, (∀ x ∈ l, ∀ y ∈ m, eq x y = true ↔ x = y) → (eqL eq l m = true ↔ l = m)
  | [], [], _ => by simp [eqL]
  | [], _ :: _, _ => by simp [eqL]
  | _ :: _, [], _ => by simp [eqL]
  | x :: r, y :: t, h => by
    rw [eqL, Bool.and_eq_true, h x (by simp) y (by simp), eqL_iff fun a ha b hb => h a (by simp [ha]) b (by simp [hb]), List.cons.injEq]
theorem eqL_len {α β : Type} {eq : α → β → Bool} : ∀ {l : List α} {m : List β}, l.length ≠ m.length → eqL eq l m = false
  | [], [], h => absurd rfl h
  | [], _ :: _, _ => rfl
  | _ :: _, [], _ => rfl
  | x :: r, y :: t, h => by
    rw [eqL, eqL_len (by simpa using h), Bool.and_false]
theorem eqK {α β ρ : Type} {F : Int → α → (List β × Unit) → ((List β × Unit) → Option ρ) → Option ρ} {eq : α → β → Bool} {m : List β} {kr : Bool × Unit → Option ρ} {k : (List β × Unit) → Option ρ} :
    ∀ (l : List α) (q r : List β), (∀ x ∈ l, ∀ i rec, F i x (m, ()) rec = (ix m i).bind fun y => bif !(eq x y) then kr (false, ()) else rec (m, ())) → m = q ++ r → l.length = r.length →
      foldK F k (q.length : Int) l (m, ()) = bif eqL eq l r then k (m, ()) else kr (false, ())
  | [], q, [], _, _, _ => rfl
  | [], _, _ :: _, _, _, h => by simp at h
  | _ :: _, _, [], _, _, h => by simp at h
  | x :: l, q, y :: r, hF, hm, h => by
    have ih := eqK (k := k) l (q ++ [y]) r (fun z hz => hF z (by simp [hz])) (by rw [hm]; simp) (by simpa using h)
    rw [show ((q ++ [y]).length : Int) = (q.length : Int) + 1 by simp] at ih
    rw [foldK, hF x (by simp), show ix m (q.length : Int) = some y from ix_ok (by rw [hm]; simp), Option.bind_some, eqL]
    cases eq x y with
    | true => rw [Bool.not_true, cond_false, Bool.true_and]; exact ih
    | false => rfl
def eqP (p q : Prp) : Bool := seq p.name q.name && (ordV p.val q.val == 0)
theorem eqP_iff (p q : Prp) : eqP p q = true ↔ p = q := by
  unfold eqP
  rw [Bool.and_eq_true, seq_iff, beq_iff_eq, ordV_zero]
  constructor
  · rintro ⟨h1, h2⟩; cases p; cases q; simp_all
  · rintro rfl; exact ⟨rfl, rfl⟩
def pSz' : List Prp → Nat
  | [] => 0
  | p :: r => vSz p.val + pSz' r
theorem pSz_mem : ∀ {l : List Prp} {p : Prp}, p ∈ l → vSz p.val ≤ pSz' l
  | q :: r, p, h => by
    rw [pSz']
    rcases List.mem_cons.1 h with rfl | h
    · omega
    · have := pSz_mem h; omega
theorem Prp.eta (p : Prp) : Prp.mk p.name (Val.mk p.val.kind p.val.n p.val.s p.val.l) = p := by rw [Val.eta]
theorem sameProps1_ok (p q : Prp) (n : Nat) (h : vOk p.val) (hn : vSz p.val + 6 ≤ n) : q29z n (p, q, ()) = some (eqP p q, ()) := by
  unfold q29z eqP
  dsimp only
  cases seq p.name q.name with
  | false => rfl
  | true =>
    simp only [cond_true]
    rw [Val.eta, Val.eta, order2_ok _ _ n h hn, Option.bind_some, Bool.true_and]
theorem sameProps_ok (l m : List Prp) (n : Nat) (h : ∀ p ∈ l, vOk p.val) (hl : l.length ≤ 9223372036854775807) (hn : pSz' l + l.length + 7 ≤ n) : q36z n (l, m, ()) = some (eqL eqP l m, ()) := by
  unfold q36z q4z
  dsimp only
  cases hc : ((l.length : Int) != (m.length : Int)) with
  | true =>
    rw [eqL_len (by rw [bne_iff_ne] at hc; omega)]
    rfl
  | false =>
    have hlen : l.length = m.length := by simp at hc; omega
    simp only [cond_false]
    rw [R_q4z_s0 n _ _ l n _ hl (by omega)]
    have key := eqK (F := F_q4z_s0 n (fun (v10, _) => some (v10, ()))) (eq := eqP) (m := m) (kr := fun (v10, _) => some (v10, ())) (k := fun _ => some (true, ())) l [] m (fun x hx i rec => by
      unfold F_q4z_s0
      dsimp only
      cases ix m i with
      | none => rfl
      | some y =>
        rw [Option.bind_some, Option.bind_some, Prp.eta, Prp.eta, sameProps1_ok x y n (h x hx) (by have := pSz_mem hx; omega), Option.bind_some]) rfl hlen
    refine (congrArg (fun z => Option.bind z (fun x : Bool × Unit => some (x.1, ()))) key).trans ?_
    cases eqL eqP l m <;> rfl
theorem equalS_any (l m : List ByteArray) (n : Nat) (hl : l.length ≤ 9223372036854775807) (hn : l.length < n) : q13z n (l, m, ()) = some (eqL seq l m, ()) := by
  unfold q13z
  dsimp only
  cases hc : ((l.length : Int) != (m.length : Int)) with
  | true =>
    rw [eqL_len (by rw [bne_iff_ne] at hc; omega)]
    rfl
  | false =>
    have hlen : l.length = m.length := by simp at hc; omega
    simp only [cond_false]
    rw [R_q13z_s0 n _ _ l n _ hl (by omega)]
    have key := eqK (F := F_q13z_s0 n (fun (v10, _) => some (v10, ()))) (eq := seq) (m := m) (kr := fun (v10, _) => some (v10, ())) (k := fun _ => some (true, ())) l [] m (fun x hx i rec => by
      unfold F_q13z_s0
      dsimp only) rfl hlen
    refine key.trans ?_
    cases eqL seq l m <;> rfl
theorem rsameV_any (v w : Val) (n : Nat) (h : vOk v) (hn : vSz v + 2 ≤ n) : q21z n (v, w, ()) = some (ordV v w == 0, ()) := by
  unfold q21z
  dsimp only
  rw [Val.eta, Val.eta, orderOf_ok v w n h hn, Option.bind_some]
theorem rsameProps1_ok (p q : Prp) (n : Nat) (h : vOk p.val) (hn : vSz p.val + 6 ≤ n) : q14z n (p, q, ()) = some (eqP p q, ()) := by
  unfold q14z eqP
  dsimp only
  cases seq p.name q.name with
  | false => rfl
  | true =>
    simp only [cond_true]
    rw [Val.eta, Val.eta, rsameV_any _ _ n h (by omega), Option.bind_some, Bool.true_and]
theorem rsameProps_ok (l m : List Prp) (n : Nat) (h : ∀ p ∈ l, vOk p.val) (hl : l.length ≤ 9223372036854775807) (hn : pSz' l + l.length + 7 ≤ n) : q20z n (l, m, ()) = some (eqL eqP l m, ()) := by
  unfold q20z q0z
  dsimp only
  cases hc : ((l.length : Int) != (m.length : Int)) with
  | true =>
    rw [eqL_len (by rw [bne_iff_ne] at hc; omega)]
    rfl
  | false =>
    have hlen : l.length = m.length := by simp at hc; omega
    simp only [cond_false]
    rw [R_q0z_s0 n _ _ l n _ hl (by omega)]
    have key := eqK (F := F_q0z_s0 n (fun (v10, _) => some (v10, ()))) (eq := eqP) (m := m) (kr := fun (v10, _) => some (v10, ())) (k := fun _ => some (true, ())) l [] m (fun x hx i rec => by
      unfold F_q0z_s0
      dsimp only
      cases ix m i with
      | none => rfl
      | some y =>
        rw [Option.bind_some, Option.bind_some, Prp.eta, Prp.eta, rsameProps1_ok x y n (h x hx) (by have := pSz_mem hx; omega), Option.bind_some]) rfl hlen
    refine (congrArg (fun z => Option.bind z (fun x : Bool × Unit => some (x.1, ()))) key).trans ?_
    cases eqL eqP l m <;> rfl
/-! ## nodes, edges -/
def eqN (x y : Ev.Node) : Bool := (x.id == y.id) && (eqL seq x.labels y.labels && eqL eqP x.props y.props)
def eqE (x y : Edg) : Bool := ((((x.id == y.id) && (x.src == y.src)) && (x.dst == y.dst)) && seq x.type y.type) && eqL eqP x.props y.props
theorem eqN_iff (x y : Ev.Node) : eqN x y = true ↔ x = y := by
  unfold eqN
  rw [Bool.and_eq_true, Bool.and_eq_true, beq_iff_eq, eqL_iff fun a _ b _ => seq_iff a b, eqL_iff fun a _ b _ => eqP_iff a b]
  constructor
  · rintro ⟨h1, h2, h3⟩; cases x; cases y; simp_all
  · rintro rfl; exact ⟨rfl, rfl, rfl⟩
theorem eqE_iff (x y : Edg) : eqE x y = true ↔ x = y := by
  unfold eqE
  rw [Bool.and_eq_true, Bool.and_eq_true, Bool.and_eq_true, Bool.and_eq_true, beq_iff_eq, beq_iff_eq, beq_iff_eq, seq_iff, eqL_iff fun a _ b _ => eqP_iff a b]
  constructor
  · rintro ⟨⟨⟨⟨h1, h2⟩, h3⟩, h4⟩, h5⟩; cases x; cases y; simp_all
  · rintro rfl; exact ⟨⟨⟨⟨rfl, rfl⟩, rfl⟩, rfl⟩, rfl⟩
def nSz (x : Ev.Node) : Nat := x.labels.length + pSz' x.props + x.props.length + 8
def eSz (x : Edg) : Nat := pSz' x.props + x.props.length + 8
theorem gsameN_ok (x y : Ev.Node) (n : Nat) (h : ∀ p ∈ x.props, vOk p.val) (h1 : x.labels.length ≤ 9223372036854775807) (h2 : x.props.length ≤ 9223372036854775807) (hn : nSz x ≤ n) : q41z n (x, y, ()) = some (eqN x y, ()) := by
  unfold nSz at hn
  unfold q41z eqN
  dsimp only
  cases x.id == y.id with
  | false => rfl
  | true =>
    simp only [cond_true]
    rw [equalS_any _ _ n h1 (by omega), Option.bind_some]
    dsimp only
    cases eqL seq x.labels y.labels with
    | false => rfl
    | true =>
      simp only [cond_true]
      rw [sameProps_ok _ _ n h h2 (by omega), Option.bind_some, Bool.true_and, Bool.true_and]
theorem rsameN_ok (x y : Ev.Node) (n : Nat) (h : ∀ p ∈ x.props, vOk p.val) (h1 : x.labels.length ≤ 9223372036854775807) (h2 : x.props.length ≤ 9223372036854775807) (hn : nSz x ≤ n) : q23z n (x, y, ()) = some (eqN x y, ()) := by
  unfold nSz at hn
  unfold q23z eqN
  dsimp only
  cases x.id == y.id with
  | false => rfl
  | true =>
    simp only [cond_true]
    rw [equalS_any _ _ n h1 (by omega), Option.bind_some]
    dsimp only
    cases eqL seq x.labels y.labels with
    | false => rfl
    | true =>
      simp only [cond_true]
      rw [rsameProps_ok _ _ n h h2 (by omega), Option.bind_some, Bool.true_and, Bool.true_and]
theorem gsameE_ok (x y : Edg) (n : Nat) (h : ∀ p ∈ x.props, vOk p.val) (h2 : x.props.length ≤ 9223372036854775807) (hn : eSz x ≤ n) : q40z n (x, y, ()) = some (eqE x y, ()) := by
  unfold eSz at hn
  unfold q40z eqE
  dsimp only
  cases (((x.id == y.id) && (x.src == y.src)) && (x.dst == y.dst)) && seq x.type y.type with
  | false => rfl
  | true =>
    simp only [cond_true]
    rw [sameProps_ok _ _ n h h2 (by omega), Option.bind_some, Bool.true_and]
theorem rsameE_ok (x y : Edg) (n : Nat) (h : ∀ p ∈ x.props, vOk p.val) (h2 : x.props.length ≤ 9223372036854775807) (hn : eSz x ≤ n) : q22z n (x, y, ()) = some (eqE x y, ()) := by
  unfold eSz at hn
  unfold q22z eqE
  dsimp only
  cases (((x.id == y.id) && (x.src == y.src)) && (x.dst == y.dst)) && seq x.type y.type with
  | false => rfl
  | true =>
    simp only [cond_true]
    rw [rsameProps_ok _ _ n h h2 (by omega), Option.bind_some, Bool.true_and]
end Pure


/- What differs between two graphs, by the program. No program. -/
namespace Pure
open Esp Ev Go
set_option linter.unusedSimpArgs false
set_option linter.unusedVariables false

theorem Node.eta (x : Ev.Node) : Ev.Node.mk x.id x.labels x.props = x := rfl
structure NL' (x : Ev.Node) : Prop where
  v : ∀ p ∈ x.props, vOk p.val
  l : x.labels.length ≤ 9223372036854775807
  p : x.props.length ≤ 9223372036854775807
theorem lackN1_ok (x y : Ev.Node) (n : Nat) (h : NL' x) (hn : nSz x ≤ n) : q17z n (y, (), (x, ()), ()) = some (eqN x y, (), (x, ()), ()) := by
  unfold q17z
  dsimp only
  rw [Node.eta, Node.eta, gsameN_ok x y n h.v h.l h.p hn, Option.bind_some]
theorem contN_loop {ρ : Type} (n : Nat) (x : Ev.Node) (h : NL' x) (hn : nSz x ≤ n) (kr : Int × Unit × (Ev.Node × Unit) × Unit → Option ρ) (k : (Unit × (Ev.Node × Unit) × Unit) → Option ρ) :
    ∀ (l : List Ev.Node) (i : Int), 0 ≤ i → ∃ j : Int, (l.any (eqN x) = true → 0 ≤ j) ∧ foldK (F_q8z_s0 n kr) k i l ((), (x, ()), ()) = bif l.any (eqN x) then kr (j, (), (x, ()), ()) else k ((), (x, ()), ())
  | [], i, hi => ⟨0, (fun _ => Int.le_refl 0), rfl⟩
  | y :: r, i, hi => by
    obtain ⟨j, h1, h2⟩ := contN_loop n x h hn kr k r (i + 1) (by omega)
    cases hy : eqN x y with
    | true =>
      refine ⟨i, fun _ => hi, ?_⟩
      rw [foldK]
      unfold F_q8z_s0
      dsimp only
      rw [Node.eta, Node.eta, lackN1_ok x y n h hn, Option.bind_some, hy, List.any_cons, hy]
      rfl
    | false =>
      refine ⟨j, fun ha => h1 (by rw [List.any_cons, hy, Bool.false_or] at ha; exact ha), ?_⟩
      rw [foldK]
      generalize foldK (F_q8z_s0 n kr) k (i + 1) r = R at h2
      unfold F_q8z_s0
      dsimp only
      rw [Node.eta, Node.eta, lackN1_ok x y n h hn, Option.bind_some, hy, List.any_cons, hy, Bool.false_or]
      exact h2
theorem contN_ok (l : List Ev.Node) (x : Ev.Node) (n : Nat) (h : NL' x) (hl : l.length ≤ 9223372036854775807) (hn : nSz x + l.length + 1 ≤ n) :
    q6z n (l, (), (x, ()), ()) = some (l.any (eqN x), (), (x, ()), ()) := by
  unfold q6z q8z
  dsimp only
  rw [R_q8z_s0 n _ _ l n _ _ hl (by omega)]
  obtain ⟨j, h1, h2⟩ := contN_loop (ρ := Int × Unit × (Ev.Node × Unit) × Unit) n x h (by omega) (fun (v15, o16, o17, _) => some (v15, (), ((Ev.Node.mk o17.1.id o17.1.labels o17.1.props), ()), ())) (fun (o7, o8, _) => some ((-1), (), ((Ev.Node.mk o8.1.id o8.1.labels o8.1.props), ()), ())) l 0 (by omega)
  refine (congrArg (fun z => Option.bind z (fun x : Int × Unit × (Ev.Node × Unit) × Unit => some (decide (x.1 ≥ 0), (), (Ev.Node.mk x.2.2.1.1.id x.2.2.1.1.labels x.2.2.1.1.props, ()), ()))) h2).trans ?_
  cases ha : l.any (eqN x) with
  | true =>
    show some (decide (j ≥ 0), (), (x, ()), ()) = _
    rw [decide_eq_true (h1 ha)]
  | false => rfl
end Pure


/- What differs between two graphs, told. No program. -/
namespace Pure
open Esp Ev Go
set_option linter.unusedSimpArgs false
set_option linter.unusedVariables false

theorem lackN_loop {ρ : Type} (n : Nat) (m : List Ev.Node) (hm : m.length ≤ 9223372036854775807) (kr : Unit → Option ρ) (k : (List Ev.Node × Unit × List Ev.Node × Unit) → Option ρ) :
    ∀ (l : List Ev.Node) (i : Int) (acc : List Ev.Node), (∀ x ∈ l, NL' x ∧ nodeS x ∧ nSz x + m.length + 61 ≤ n) → acc.length + l.length ≤ 1000 →
      foldK (F_q11z_s0 n kr) k i l (m, (), acc, ()) = k (m, (), acc ++ l.filter (fun x => !(m.any (eqN x))), ())
  | [], i, acc, _, _ => by rw [List.filter_nil, List.append_nil]; rfl
  | x :: r, i, acc, h, hl => by
    obtain ⟨h1, h2, h3⟩ := h x (by simp)
    rw [foldK]
    have ih := fun acc' hl' => lackN_loop n m hm kr k r (i + 1) acc' (fun y hy => h y (by simp [hy])) hl'
    generalize foldK (F_q11z_s0 n kr) k (i + 1) r = R at ih
    unfold F_q11z_s0
    dsimp only
    rw [Node.eta, contN_ok m x n h1 hm (by omega), Option.bind_some]
    dsimp only
    rw [List.filter_cons]
    cases ha : m.any (eqN x) with
    | true =>
      rw [Bool.not_true, cond_false, if_neg (by simp)]
      exact ih acc (by simp at hl ⊢; omega)
    | false =>
      rw [Bool.not_false, cond_true, if_pos rfl, Node.eta, copyN_ok x n (by omega) h2, Option.bind_some]
      dsimp only
      rw [Node.eta, ck_ok (room_ok (by simp at hl ⊢; omega) (by omega)), ih (acc ++ [x]) (by simp at hl ⊢; omega)]
      simp
theorem lackN_ok (l m : List Ev.Node) (n : Nat) (h : ∀ x ∈ l, NL' x ∧ nodeS x ∧ nSz x + m.length + 61 ≤ n) (hl : l.length ≤ 1000) (hm : m.length ≤ 9223372036854775807) (hn : l.length < n) :
    q11z n (l, m, ()) = some (l.filter (fun x => !(m.any (eqN x))), ()) := by
  unfold q11z
  dsimp only
  rw [R_q11z_s0 n _ _ l n _ _ _ (by omega) hn]
  refine (lackN_loop n m hm _ _ l 0 [] h (by simpa using hl)).trans ?_
  rw [List.nil_append]
end Pure


/- What differs between two graphs: edges (made of PTxn2, PTxn3 by substitution). No program. -/
namespace Pure
open Esp Ev Go
set_option linter.unusedSimpArgs false
set_option linter.unusedVariables false

theorem Edg.eta3 (x : Edg) : Ev.Edg.mk x.id x.src x.dst x.type x.props = x := rfl
structure EL' (x : Edg) : Prop where
  v : ∀ p ∈ x.props, vOk p.val
  p : x.props.length ≤ 9223372036854775807
theorem lackE1_ok (x y : Ev.Edg) (n : Nat) (h : EL' x) (hn : eSz x ≤ n) : q16z n (y, (), (x, ()), ()) = some (eqE x y, (), (x, ()), ()) := by
  unfold q16z
  dsimp only
  rw [Edg.eta3, Edg.eta3, gsameE_ok x y n h.v h.p hn, Option.bind_some]
theorem contE_loop {ρ : Type} (n : Nat) (x : Ev.Edg) (h : EL' x) (hn : eSz x ≤ n) (kr : Int × Unit × (Ev.Edg × Unit) × Unit → Option ρ) (k : (Unit × (Ev.Edg × Unit) × Unit) → Option ρ) :
    ∀ (l : List Ev.Edg) (i : Int), 0 ≤ i → ∃ j : Int, (l.any (eqE x) = true → 0 ≤ j) ∧ foldK (F_q7z_s0 n kr) k i l ((), (x, ()), ()) = bif l.any (eqE x) then kr (j, (), (x, ()), ()) else k ((), (x, ()), ())
  | [], i, hi => ⟨0, (fun _ => Int.le_refl 0), rfl⟩
  | y :: r, i, hi => by
    obtain ⟨j, h1, h2⟩ := contE_loop n x h hn kr k r (i + 1) (by omega)
    cases hy : eqE x y with
    | true =>
      refine ⟨i, fun _ => hi, ?_⟩
      rw [foldK]
      unfold F_q7z_s0
      dsimp only
      rw [Edg.eta3, Edg.eta3, lackE1_ok x y n h hn, Option.bind_some, hy, List.any_cons, hy]
      rfl
    | false =>
      refine ⟨j, fun ha => h1 (by rw [List.any_cons, hy, Bool.false_or] at ha; exact ha), ?_⟩
      rw [foldK]
      generalize foldK (F_q7z_s0 n kr) k (i + 1) r = R at h2
      unfold F_q7z_s0
      dsimp only
      rw [Edg.eta3, Edg.eta3, lackE1_ok x y n h hn, Option.bind_some, hy, List.any_cons, hy, Bool.false_or]
      exact h2
theorem contE_ok (l : List Ev.Edg) (x : Ev.Edg) (n : Nat) (h : EL' x) (hl : l.length ≤ 9223372036854775807) (hn : eSz x + l.length + 1 ≤ n) :
    q5z n (l, (), (x, ()), ()) = some (l.any (eqE x), (), (x, ()), ()) := by
  unfold q5z q7z
  dsimp only
  rw [R_q7z_s0 n _ _ l n _ _ hl (by omega)]
  obtain ⟨j, h1, h2⟩ := contE_loop (ρ := Int × Unit × (Ev.Edg × Unit) × Unit) n x h (by omega) (fun (v15, o16, o17, _) => some (v15, (), ((Ev.Edg.mk o17.1.id o17.1.src o17.1.dst o17.1.type o17.1.props), ()), ())) (fun (o7, o8, _) => some ((-1), (), ((Ev.Edg.mk o8.1.id o8.1.src o8.1.dst o8.1.type o8.1.props), ()), ())) l 0 (by omega)
  refine (congrArg (fun z => Option.bind z (fun x : Int × Unit × (Ev.Edg × Unit) × Unit => some (decide (x.1 ≥ 0), (), (Ev.Edg.mk x.2.2.1.1.id x.2.2.1.1.src x.2.2.1.1.dst x.2.2.1.1.type x.2.2.1.1.props, ()), ()))) h2).trans ?_
  cases ha : l.any (eqE x) with
  | true =>
    show some (decide (j ≥ 0), (), (x, ()), ()) = _
    rw [decide_eq_true (h1 ha)]
  | false => rfl

theorem lackE_loop {ρ : Type} (n : Nat) (m : List Ev.Edg) (hm : m.length ≤ 9223372036854775807) (kr : Unit → Option ρ) (k : (List Ev.Edg × Unit × List Ev.Edg × Unit) → Option ρ) :
    ∀ (l : List Ev.Edg) (i : Int) (acc : List Ev.Edg), (∀ x ∈ l, EL' x ∧ prpE x.props = 0 ∧ eSz x + m.length + 61 ≤ n) → acc.length + l.length ≤ 1000 →
      foldK (F_q10z_s0 n kr) k i l (m, (), acc, ()) = k (m, (), acc ++ l.filter (fun x => !(m.any (eqE x))), ())
  | [], i, acc, _, _ => by rw [List.filter_nil, List.append_nil]; rfl
  | x :: r, i, acc, h, hl => by
    obtain ⟨h1, h2, h3⟩ := h x (by simp)
    rw [foldK]
    have ih := fun acc' hl' => lackE_loop n m hm kr k r (i + 1) acc' (fun y hy => h y (by simp [hy])) hl'
    generalize foldK (F_q10z_s0 n kr) k (i + 1) r = R at ih
    unfold F_q10z_s0
    dsimp only
    rw [Edg.eta3, contE_ok m x n h1 hm (by omega), Option.bind_some]
    dsimp only
    rw [List.filter_cons]
    cases ha : m.any (eqE x) with
    | true =>
      rw [Bool.not_true, cond_false, if_neg (by simp)]
      exact ih acc (by simp at hl ⊢; omega)
    | false =>
      rw [Bool.not_false, cond_true, if_pos rfl, Edg.eta3, copyE_ok x n (by omega) h2, Option.bind_some]
      dsimp only
      rw [Edg.eta3, ck_ok (room_ok (by simp at hl ⊢; omega) (by omega)), ih (acc ++ [x]) (by simp at hl ⊢; omega)]
      simp
theorem lackE_ok (l m : List Ev.Edg) (n : Nat) (h : ∀ x ∈ l, EL' x ∧ prpE x.props = 0 ∧ eSz x + m.length + 61 ≤ n) (hl : l.length ≤ 1000) (hm : m.length ≤ 9223372036854775807) (hn : l.length < n) :
    q10z n (l, m, ()) = some (l.filter (fun x => !(m.any (eqE x))), ()) := by
  unfold q10z
  dsimp only
  rw [R_q10z_s0 n _ _ l n _ _ _ (by omega) hn]
  refine (lackE_loop n m hm _ _ l 0 [] h (by simpa using hl)).trans ?_
  rw [List.nil_append]
end Pure


/- Between, told. No program. -/
namespace Pure
open Esp Ev Go
set_option linter.unusedSimpArgs false
set_option linter.unusedVariables false

def lackN (l m : List Ev.Node) : List Ev.Node := l.filter fun x => !(m.any (eqN x))
def lackE (l m : List Edg) : List Edg := l.filter fun x => !(m.any (eqE x))
def deltaF (a b : Graph) : Delta := .mk (lackN a.nodes b.nodes) (lackN b.nodes a.nodes) (lackE a.edges b.edges) (lackE b.edges a.edges) a.next b.next
def delta0 : Delta := .mk [] [] [] [] 0 0
def betwF (a b : Graph) : Delta × Int := bif chkG a != 0 then (delta0, chkG a) else bif chkG b != 0 then (delta0, chkG b) else (deltaF a b, 0)
def gSz (g : Graph) : Nat := (g.nodes.map nSz).sum + (g.edges.map eSz).sum
theorem sum_mem {α : Type} (f : α → Nat) : ∀ {l : List α} {x : α}, x ∈ l → f x ≤ (l.map f).sum
  | y :: r, x, h => by
    rw [List.map_cons, List.sum_cons]
    rcases List.mem_cons.1 h with rfl | h
    · omega
    · have := sum_mem f h; omega
theorem gN {g : Graph} (hw : gOk g) (hc : chkG g = 0) : ∀ x ∈ g.nodes, NL' x ∧ nodeS x := fun x hx =>
  have h := (graphS_of hc).nd x hx
  have hp := prpE_0 h.prp
  ⟨⟨fun p hp' => ((hw.1.2 x hx).2.2.2 p hp').2, by have := h.lab; omega, by have := hp.1; omega⟩, h⟩
theorem gE {g : Graph} (hw : gOk g) (hc : chkG g = 0) : ∀ x ∈ g.edges, EL' x ∧ prpE x.props = 0 := fun x hx =>
  have h := (graphS_of hc).ed x hx
  have hp := prpE_0 h
  ⟨⟨fun p hp' => ((hw.2.1.2 x hx).2.2.2.2.2 p hp').2, by have := hp.1; omega⟩, h⟩
theorem between_ok (a b : Graph) (n : Nat) (ha : gOk a) (hb : gOk b) (hn : gSz a + gSz b + 400 ≤ n) : q49z n (a, b, ()) = some ((betwF a b).1, (betwF a b).2, ()) := by
  obtain ⟨m, rfl⟩ : ∃ m, n = m + 3 := ⟨n - 3, by omega⟩
  unfold q49z betwF
  dsimp only
  rw [iterN]
  unfold q49z_s0
  dsimp only
  rw [show decide ((0 : Int) < 2) = true from rfl, cond_true]
  rw [show ∀ x y : Graph, ix [x, y] (0 : Int) = some x from fun _ _ => rfl, Option.bind_some]
  dsimp only
  rw [show (Graph.mk a.nodes a.edges a.next) = a from rfl, gcheck_ok a _ (by omega), Option.bind_some]
  dsimp only
  cases h1 : chkG a != 0 with
  | true => rfl
  | false =>
    simp only [cond_false]
    rw [iterN]
    dsimp only
    rw [show IntKind.wrap .i64 ((0 : Int) + 1) = 1 from rfl, show decide ((1 : Int) < 2) = true from rfl, cond_true]
    rw [show ∀ x y : Graph, ix [x, y] (1 : Int) = some y from fun _ _ => rfl, Option.bind_some]
    dsimp only
    rw [show (Graph.mk b.nodes b.edges b.next) = b from rfl, gcheck_ok b _ (by omega), Option.bind_some]
    dsimp only
    cases h2 : chkG b != 0 with
    | true => rfl
    | false =>
      have ca : chkG a = 0 := by simpa using h1
      have cb : chkG b = 0 := by simpa using h2
      have sa := graphS_of ca
      have sb := graphS_of cb
      simp only [cond_false]
      rw [iterN]
      dsimp only
      rw [show IntKind.wrap .i64 ((1 : Int) + 1) = 2 from rfl, show decide ((2 : Int) < 2) = false from rfl, cond_false]
      unfold gSz at hn
      have nl1 := sa.nl
      have nl2 := sb.nl
      have el1 := sa.el
      have el2 := sb.el
      rw [lackN_ok a.nodes b.nodes _ (fun x hx => ⟨(gN ha ca x hx).1, (gN ha ca x hx).2, by have := sum_mem nSz hx; omega⟩) (by omega) (by omega) (by omega), Option.bind_some]
      dsimp only
      rw [lackN_ok b.nodes a.nodes _ (fun x hx => ⟨(gN hb cb x hx).1, (gN hb cb x hx).2, by have := sum_mem nSz hx; omega⟩) (by omega) (by omega) (by omega), Option.bind_some]
      dsimp only
      rw [lackE_ok a.edges b.edges _ (fun x hx => ⟨(gE ha ca x hx).1, (gE ha ca x hx).2, by have := sum_mem eSz hx; omega⟩) (by omega) (by omega) (by omega), Option.bind_some]
      dsimp only
      rw [lackE_ok b.edges a.edges _ (fun x hx => ⟨(gE hb cb x hx).1, (gE hb cb x hx).2, by have := sum_mem eSz hx; omega⟩) (by omega) (by omega) (by omega), Option.bind_some]
      rfl
end Pure


/- What differs turns the one graph into the other: the plain law. No program. -/
namespace Pure
open Esp Ev Go
set_option linter.unusedSimpArgs false
set_option linter.unusedVariables false

theorem lack_iff {α : Type} {eq : α → α → Bool} (he : ∀ x y, eq x y = true ↔ x = y) (x : α) (m : List α) : (!(m.any (eq x))) = true ↔ x ∉ m := by
  rw [Bool.not_eq_true', ← Bool.not_eq_true, List.any_eq_true]
  constructor
  · intro h hx
    exact h ⟨x, hx, (he x x).2 rfl⟩
  · rintro h ⟨y, hy, e⟩
    rw [(he x y).1 e] at h
    exact h hy
theorem lackN_self (l : List Ev.Node) : lackN l l = [] := by
  unfold lackN
  rw [List.filter_eq_nil_iff]
  intro x hx
  rw [lack_iff eqN_iff]
  exact fun h => h hx
theorem lackE_self (l : List Edg) : lackE l l = [] := by
  unfold lackE
  rw [List.filter_eq_nil_iff]
  intro x hx
  rw [lack_iff eqE_iff]
  exact fun h => h hx
def backF (d : Delta) : Delta := .mk d.fresh d.gone d.freshE d.goneE d.dst d.src
theorem back_delta (a b : Graph) : backF (deltaF a b) = deltaF b a := rfl
end Pure


/- A list turned by a difference, by the program: nodes. No program. -/
namespace Pure
open Esp Ev Go
set_option linter.unusedSimpArgs false
set_option linter.unusedVariables false

end Pure


/- A list turned by a difference, by the program: edges. No program. -/
namespace Pure
open Esp Ev Go
set_option linter.unusedSimpArgs false
set_option linter.unusedVariables false

/-! ## edges -/
end Pure


/- A graph copied, a graph turned, told. No program. -/
namespace Pure
open Esp Ev Go
set_option linter.unusedSimpArgs false
set_option linter.unusedVariables false

theorem push_fold {α σ ρ : Type} {F : Int → α → σ → (σ → Option ρ) → Option ρ} {k : σ → Option ρ} (mk : List α → σ) (ok : α → Prop) (h : ∀ i x acc rec, ok x → acc.length ≤ 500 → F i x (mk acc) rec = rec (mk (acc ++ [x]))) :
    ∀ (l : List α) (i : Int) (acc : List α), (∀ x ∈ l, ok x) → acc.length + l.length ≤ 500 → foldK F k i l (mk acc) = k (mk (acc ++ l))
  | [], i, acc, _, _ => by rw [List.append_nil]; rfl
  | x :: r, i, acc, hx, hl => by
    rw [foldK, h i x acc _ (hx x (by simp)) (by omega), push_fold mk ok h r (i + 1) (acc ++ [x]) (fun y hy => hx y (by simp [hy])) (by simp at hl ⊢; omega)]
    simp
end Pure


/- Turned back, told. No program. -/
namespace Pure
open Esp Ev Go
set_option linter.unusedSimpArgs false
set_option linter.unusedVariables false

structure deltaS (d : Delta) : Prop where
  gl : d.gone.length ≤ 100
  fl : d.fresh.length ≤ 100
  gel : d.goneE.length ≤ 100
  fel : d.freshE.length ≤ 100
  g : ∀ x ∈ d.gone, nodeS x
  f : ∀ x ∈ d.fresh, nodeS x
  ge : ∀ x ∈ d.goneE, prpE x.props = 0
  fe : ∀ x ∈ d.freshE, prpE x.props = 0
theorem back_ok (d : Delta) (n : Nat) (hn : 120 ≤ n) (h : deltaS d) : txn_Back n (d, ()) = some (backF d, ()) := by
  have h1 := h.gl
  have h2 := h.fl
  have h3 := h.gel
  have h4 := h.fel
  unfold txn_Back
  dsimp only
  rw [R_txn_Back_s2 n _ _ d.gone n _ _ _ _ _ _ _ (by omega) (by omega)]
  refine (push_fold (F := F_txn_Back_s2 n _) (fun a => (0, (d.gone, d.fresh, ()), (d, ()), (Ev.Delta.mk [] [] [] [] 0 0, ()), (d.dst, d.src, ()), (d.gone, ()), a, ())) nodeS (fun i x acc rec hx ha => ?_) d.gone 0 [] h.g (by simp; omega)).trans ?_
  · unfold F_txn_Back_s2
    dsimp only
    rw [Node.eta, copyN_ok x n (by omega) hx, Option.bind_some]
    dsimp only
    rw [Node.eta, ck_ok (room_ok (by simp; omega) (by omega))]
  dsimp only
  rw [show IntKind.wrap .i64 ((0 : Int) + 1) = 1 from rfl, show decide ((1 : Int) < 2) = true from rfl, cond_true, show ((1 : Int) == 0) = false from rfl, cond_false, show ((1 : Int) == 1) = true from rfl, cond_true]
  rw [R_txn_Back_s2v0 n _ _ d.fresh n _ _ _ _ _ _ _ _ (by omega) (by omega)]
  refine (push_fold (F := F_txn_Back_s2v0 n _) (fun a => (1, (d.gone, d.fresh, ()), (d, ()), (Ev.Delta.mk [] [] [] [] 0 0, ()), (d.dst, d.src, ()), (d.fresh, ()), a, [] ++ d.gone, ())) nodeS (fun i x acc rec hx ha => ?_) d.fresh 0 [] h.f (by simp; omega)).trans ?_
  · unfold F_txn_Back_s2v0
    dsimp only
    rw [Node.eta, copyN_ok x n (by omega) hx, Option.bind_some]
    dsimp only
    rw [Node.eta, ck_ok (room_ok (by simp; omega) (by omega))]
  dsimp only
  rw [show IntKind.wrap .i64 ((1 : Int) + 1) = 2 from rfl, show decide ((2 : Int) < 2) = false from rfl, cond_false]
  rw [R_txn_Back_s4 n _ _ d.goneE n _ _ _ _ _ _ (by omega) (by omega)]
  refine (push_fold (F := F_txn_Back_s4 n _) (fun a => ((d, ()), (Ev.Delta.mk [] [] [] [] 0 0, ()), (d.dst, d.src, ()), [] ++ d.fresh, [] ++ d.gone, a, ())) (fun x : Edg => prpE x.props = 0) (fun i x acc rec hx ha => ?_) d.goneE 0 [] h.ge (by simp; omega)).trans ?_
  · unfold F_txn_Back_s4
    dsimp only
    rw [Edg.eta3, copyE_ok x n (by omega) hx, Option.bind_some]
    dsimp only
    rw [Edg.eta3, ck_ok (room_ok (by simp; omega) (by omega))]
  dsimp only
  rw [R_txn_Back_s6 n _ _ d.freshE n _ _ _ _ _ _ (by omega) (by omega)]
  refine (push_fold (F := F_txn_Back_s6 n _) (fun a => ((Ev.Delta.mk [] [] [] [] 0 0, ()), (d.dst, d.src, ()), [] ++ d.fresh, [] ++ d.gone, a, [] ++ d.goneE, ())) (fun x : Edg => prpE x.props = 0) (fun i x acc rec hx ha => ?_) d.freshE 0 [] h.fe (by simp; omega)).trans ?_
  · unfold F_txn_Back_s6
    dsimp only
    rw [Edg.eta3, copyE_ok x n (by omega) hx, Option.bind_some]
    dsimp only
    rw [Edg.eta3, ck_ok (room_ok (by simp; omega) (by omega))]
  rfl
theorem deltaF_S {a b : Graph} (ha : chkG a = 0) (hb : chkG b = 0) : deltaS (deltaF a b) := by
  have sa := graphS_of ha
  have sb := graphS_of hb
  have h1 := sa.nl
  have h2 := sa.el
  have h3 := sb.nl
  have h4 := sb.el
  have l1 : (lackN b.nodes a.nodes).length ≤ b.nodes.length := List.length_filter_le _ _
  have l2 : (lackE b.edges a.edges).length ≤ b.edges.length := List.length_filter_le _ _
  have l3 : (lackN a.nodes b.nodes).length ≤ a.nodes.length := List.length_filter_le _ _
  have l4 : (lackE a.edges b.edges).length ≤ a.edges.length := List.length_filter_le _ _
  exact ⟨by unfold deltaF; dsimp only; omega, by unfold deltaF; dsimp only; omega, by unfold deltaF; dsimp only; omega, by unfold deltaF; dsimp only; omega, fun x hx => sa.nd x ((List.mem_filter.1 hx).1), fun x hx => sb.nd x ((List.mem_filter.1 hx).1), fun x hx => sa.ed x ((List.mem_filter.1 hx).1), fun x hx => sb.ed x ((List.mem_filter.1 hx).1)⟩
end Pure


/- What the law takes away, told. No program. -/
namespace Pure
open Esp Ev Go
set_option linter.unusedSimpArgs false
set_option linter.unusedVariables false
end Pure


/- The same graph, the same difference; the closed fact. No program. -/
namespace Pure
open Esp Ev Go
set_option linter.unusedSimpArgs false
set_option linter.unusedVariables false

theorem eqN_list (l m : List Ev.Node) (n : Nat) (h : ∀ x ∈ l, NL' x ∧ nSz x ≤ n) (hl : l.length ≤ 9223372036854775807) (hn : l.length < n) :
    q2z n (l, m, ()) = some (eqL eqN l m, ()) := by
  unfold q2z
  dsimp only
  cases hlen : ((l.length : Int) != (m.length : Int)) with
  | true =>
    rw [cond_true, eqL_len (by intro e; rw [e] at hlen; simp at hlen)]
  | false =>
    have hl2 : l.length = m.length := by
      have : (l.length : Int) = (m.length : Int) := by simpa using hlen
      omega
    rw [cond_false, R_q2z_s0 n _ _ l n _ hl hn]
    refine (eqK (F := F_q2z_s0 n _) (eq := eqN) (m := m) (kr := fun x => some (x.1, ())) l [] m (fun x hx i rec => ?_) rfl hl2).trans ?_
    · unfold F_q2z_s0
      dsimp only
      refine congrArg _ (funext fun y => ?_)
      rw [Node.eta, Node.eta, rsameN_ok x y n (h x hx).1.v (h x hx).1.l (h x hx).1.p (h x hx).2, Option.bind_some]
    · cases eqL eqN l m with
      | true => rfl
      | false => rfl
theorem eqE_list (l m : List Edg) (n : Nat) (h : ∀ x ∈ l, EL' x ∧ eSz x ≤ n) (hl : l.length ≤ 9223372036854775807) (hn : l.length < n) :
    q1z n (l, m, ()) = some (eqL eqE l m, ()) := by
  unfold q1z
  dsimp only
  cases hlen : ((l.length : Int) != (m.length : Int)) with
  | true =>
    rw [cond_true, eqL_len (by intro e; rw [e] at hlen; simp at hlen)]
  | false =>
    have hl2 : l.length = m.length := by
      have : (l.length : Int) = (m.length : Int) := by simpa using hlen
      omega
    rw [cond_false, R_q1z_s0 n _ _ l n _ hl hn]
    refine (eqK (F := F_q1z_s0 n _) (eq := eqE) (m := m) (kr := fun x => some (x.1, ())) l [] m (fun x hx i rec => ?_) rfl hl2).trans ?_
    · unfold F_q1z_s0
      dsimp only
      refine congrArg _ (funext fun y => ?_)
      rw [Edg.eta3, Edg.eta3, rsameE_ok x y n (h x hx).1.v (h x hx).1.p (h x hx).2, Option.bind_some]
    · cases eqL eqE l m with
      | true => rfl
      | false => rfl
theorem eqN_refl (l : List Ev.Node) : eqL eqN l l = true := (eqL_iff fun x _ y _ => eqN_iff x y).2 rfl
theorem eqE_refl (l : List Edg) : eqL eqE l l = true := (eqL_iff fun x _ y _ => eqE_iff x y).2 rfl
theorem sameG_refl (g : Graph) (n : Nat) (hw : gOk g) (hc : chkG g = 0) (hn : gSz g + 100 ≤ n) : q19z n (g, g, ()) = some (true, ()) := by
  have h1 := (graphS_of hc).nl
  have h2 := (graphS_of hc).el
  unfold gSz at hn
  unfold q19z
  dsimp only
  rw [beq_self_eq_true, cond_true, eqN_list g.nodes g.nodes n (fun x hx => ⟨(gN hw hc x hx).1, by have := sum_mem nSz hx; omega⟩) (by omega) (by omega), eqN_refl, Option.bind_some]
  dsimp only
  rw [cond_true, eqE_list g.edges g.edges n (fun x hx => ⟨(gE hw hc x hx).1, by have := sum_mem eSz hx; omega⟩) (by omega) (by omega), eqE_refl, Option.bind_some]
theorem sameD_refl (d : Delta) (n : Nat) (h1 : ∀ x ∈ d.gone, NL' x ∧ nSz x ≤ n) (h2 : ∀ x ∈ d.fresh, NL' x ∧ nSz x ≤ n) (h3 : ∀ x ∈ d.goneE, EL' x ∧ eSz x ≤ n) (h4 : ∀ x ∈ d.freshE, EL' x ∧ eSz x ≤ n)
    (l1 : d.gone.length ≤ 100) (l2 : d.fresh.length ≤ 100) (l3 : d.goneE.length ≤ 100) (l4 : d.freshE.length ≤ 100) (hn : 101 ≤ n) : q18z n (d, d, ()) = some (true, ()) := by
  unfold q18z
  dsimp only
  rw [beq_self_eq_true, beq_self_eq_true, Bool.and_self, cond_true, eqN_list _ _ n h1 (by omega) (by omega), eqN_refl, Option.bind_some]
  dsimp only
  rw [cond_true, eqN_list _ _ n h2 (by omega) (by omega), eqN_refl, Option.bind_some]
  dsimp only
  rw [cond_true, eqE_list _ _ n h3 (by omega) (by omega), eqE_refl, Option.bind_some]
  dsimp only
  rw [cond_true, eqE_list _ _ n h4 (by omega) (by omega), eqE_refl, Option.bind_some]
end Pure


/- The program does what the law wants of it: a closed fact. -/
namespace Pure
open Esp Ev Go
set_option linter.unusedSimpArgs false
set_option linter.unusedVariables false
theorem copyOwn_ok (g : Graph) (n : Nat) (hn : 80 ≤ n) (h : graphS g) : q39z n (g, ()) = some ((g.next, ()), g.nodes, g.edges, ()) := by
  have h1 := h.nl
  have h2 := h.el
  unfold q39z
  dsimp only
  rw [R_q39z_s0 n _ _ g.nodes n _ _ _ _ (by omega) (by omega)]
  refine (push_fold (F := F_q39z_s0 n _) (fun a => ((Ev.Graph.mk g.nodes g.edges g.next, ()), (Ev.Graph.mk [] [] 0, ()), (g.next, ()), a, ())) nodeS (fun i x acc rec hx ha => ?_) g.nodes 0 [] h.nd (by simp; omega)).trans ?_
  · unfold F_q39z_s0
    dsimp only
    rw [Node.eta, copyN_ok x n (by omega) hx, Option.bind_some]
    dsimp only
    rw [Node.eta, ck_ok (room_ok (by simp; omega) (by omega))]
  dsimp only
  rw [R_q39z_s2 n _ _ g.edges n _ _ _ _ (by omega) (by omega)]
  refine (push_fold (F := F_q39z_s2 n _) (fun a => ((Ev.Graph.mk [] [] 0, ()), (g.next, ()), [] ++ g.nodes, a, ())) (fun x : Edg => prpE x.props = 0) (fun i x acc rec hx ha => ?_) g.edges 0 [] h.ed (by simp; omega)).trans ?_
  · unfold F_q39z_s2
    dsimp only
    rw [Edg.eta3, copyE_ok x n (by omega) hx, Option.bind_some]
    dsimp only
    rw [Edg.eta3, ck_ok (room_ok (by simp; omega) (by omega))]
  rfl
def knowsG : Graph := Ev.Graph.mk [Ev.Node.mk 1 [⟨#[65]⟩] [Ev.Prp.mk ⟨#[110]⟩ (Ev.Val.mk 2 5 ⟨#[]⟩ [])], Ev.Node.mk 2 [] []] [Ev.Edg.mk 3 1 2 ⟨#[75]⟩ []] 4
theorem knows_chk : chkG knowsG = 0 := by kernel_rfl
theorem changed_at (m : Nat) : q25z (m + 100) () = some (true, ()) := by
  unfold q25z
  show Option.bind (txn_Apply (m + 100) (knowsG, _, ())) _ = _
  unfold txn_Apply
  dsimp only
  rw [show Graph.mk knowsG.nodes knowsG.edges knowsG.next = knowsG from rfl, gcheck_ok knowsG (m + 100) (by omega), knows_chk, Option.bind_some]
  dsimp only
  rw [show ((0 : Int) != 0) = false from rfl, cond_false]
  rw [copyOwn_ok knowsG (m + 100) (by omega) (graphS_of knows_chk), Option.bind_some]
  kernel_rfl
theorem changed_ok (n : Nat) (hn : 100 ≤ n) : q25z n () = some (true, ()) := by
  obtain ⟨m, rfl⟩ : ∃ m, n = m + 100 := ⟨n - 100, by omega⟩
  exact changed_at m
end Pure


/- The laws of what differs. No program. -/
namespace Pure
open Esp Ev Go
set_option linter.unusedSimpArgs false
set_option linter.unusedVariables false

theorem betwF_0 {a b : Graph} (ha : chkG a = 0) (hb : chkG b = 0) : betwF a b = (deltaF a b, 0) := by
  unfold betwF
  rw [ha, hb]
  rfl
theorem betwF_bad {a b : Graph} (h : ¬ (chkG a = 0 ∧ chkG b = 0)) : ((betwF a b).2 != 0) = true := by
  unfold betwF
  cases h1 : chkG a != 0 with
  | true => exact h1
  | false =>
    have ha : chkG a = 0 := by simpa using h1
    cases h2 : chkG b != 0 with
    | true => exact h2
    | false => exact absurd ⟨ha, by simpa using h2⟩ h
theorem dN {a b : Graph} (wa : gOk a) (ha : chkG a = 0) {n : Nat} (hn : gSz a ≤ n) : ∀ x ∈ lackN a.nodes b.nodes, NL' x ∧ nSz x ≤ n := fun x hx => by
  have hx' : x ∈ a.nodes := (List.mem_filter.1 hx).1
  exact ⟨(gN wa ha x hx').1, by have := sum_mem nSz hx'; unfold gSz at hn; omega⟩
theorem dE {a b : Graph} (wa : gOk a) (ha : chkG a = 0) {n : Nat} (hn : gSz a ≤ n) : ∀ x ∈ lackE a.edges b.edges, EL' x ∧ eSz x ≤ n := fun x hx => by
  have hx' : x ∈ a.edges := (List.mem_filter.1 hx).1
  exact ⟨(gE wa ha x hx').1, by have := sum_mem eSz hx'; unfold gSz at hn; omega⟩
theorem sameD_ok {a b : Graph} (wa : gOk a) (wb : gOk b) (ha : chkG a = 0) (hb : chkG b = 0) (n : Nat) (hn : gSz a + gSz b + 101 ≤ n) : q18z n (deltaF a b, deltaF a b, ()) = some (true, ()) := by
  have hs := deltaF_S ha hb
  exact sameD_refl _ n (dN wa ha (by omega)) (dN wb hb (by omega)) (dE wa ha (by omega)) (dE wb hb (by omega)) hs.gl hs.fl hs.gel hs.fel (by omega)

end Pure


/- Nothing differs between a graph and itself. No program. -/
namespace Pure
open Esp Ev Go
set_option linter.unusedSimpArgs false
set_option linter.unusedVariables false

theorem apply_nil (g : Graph) (n : Nat) (hn : 80 ≤ n) (h : chkG g = 0) : txn_Apply n (g, [], ()) = some (g, [], 0, 0, ()) := by
  unfold txn_Apply
  dsimp only
  rw [Graph.eta, gcheck_ok g n hn, h, Option.bind_some]
  dsimp only
  rw [show ((0 : Int) != 0) = false from rfl, cond_false, show decide (((([] : List Opn).length : Int)) > 20) = false from rfl, cond_false, copyOwn_ok g n hn (graphS_of h), Option.bind_some]
  dsimp only
  rw [R_txn_Apply_s0 n _ _ [] n _ _ _ _ _ _ (by simp) (by simp; omega)]
  rfl
theorem TxnNothing_ok (a b : Graph) (n : Nat) (wa : gOk a) (wb : gOk b) (hn : 2 * gSz a + gSz b + 1200 ≤ n) : q15z n (a, b, ()) = some (true, ()) := by
  unfold q15z
  dsimp only
  rw [Graph.eta, Graph.eta, between_ok a a n wa wa (by omega), Option.bind_some]
  dsimp only
  rw [changed_ok n (by omega), Option.bind_some]
  dsimp only
  by_cases ha : chkG a = 0
  · rw [betwF_0 ha ha]
    dsimp only
    rw [show ((!true) || ((0 : Int) != 0)) = false from rfl, cond_false, apply_nil a n (by omega) ha, Option.bind_some]
    dsimp only
    have h0 : deltaF a a = Delta.mk [] [] [] [] a.next a.next := by
      unfold deltaF
      rw [lackN_self, lackE_self]
    rw [h0]
    dsimp only
    rw [show (((IntKind.wrap .i64 ((IntKind.wrap .i64 ((IntKind.wrap .i64 ((([] : List Ev.Node).length : Int) + (([] : List Ev.Node).length : Int))) + (([] : List Edg).length : Int))) + (([] : List Edg).length : Int)) : Int) != 0) || ((0 : Int) != 0) || (((([] : List Int).length : Int) : Int) != 0)) = false from rfl, cond_false]
    rw [Graph.eta, sameG_refl a n wa ha (by omega), Option.bind_some]
    dsimp only
    rw [Bool.not_true, cond_false, between_ok a b n wa wb (by omega), Option.bind_some]
    dsimp only
    by_cases hb : chkG b = 0
    · rw [betwF_0 ha hb]
      dsimp only
      rw [show ((0 : Int) != 0) = false from rfl, cond_false]
      rw [show ∀ d : Delta, Delta.mk d.gone d.fresh d.goneE d.freshE d.src d.dst = d from fun _ => rfl]
      rw [back_ok (deltaF a b) n (by omega) (deltaF_S ha hb), back_delta, Option.bind_some]
      dsimp only
      rw [show ∀ d : Delta, Delta.mk d.gone d.fresh d.goneE d.freshE d.src d.dst = d from fun _ => rfl]
      rw [back_ok (deltaF b a) n (by omega) (deltaF_S hb ha), back_delta, Option.bind_some]
      dsimp only
      rw [show ∀ d : Delta, Delta.mk d.gone d.fresh d.goneE d.freshE d.src d.dst = d from fun _ => rfl]
      rw [sameD_ok wa wb ha hb n (by omega), Option.bind_some]
    · rw [betwF_bad (a := a) (b := b) fun h => hb h.2, cond_true]
  · rw [betwF_bad (a := a) (b := a) fun h => ha h.1]
    rfl
end Pure

/- Several texts in one (merge.py). -/
import Derived.Test.YtneindkhjadnaaaGreatDoorPA
import Derived.Test.YtneindkhjadnaaaGreatDoorEvRise
import Derived.Test.YtneindkhjadnaaaGreatDoorEvRead4

/- Who may see what. No program. -/
namespace Pure
open Esp Ev Go
set_option linter.unusedSimpArgs false
set_option linter.unusedVariables false
set_option linter.unusedSimpArgs false
set_option linter.unusedVariables false

end Pure


/- Who sees what. No program. -/
namespace Pure
open Esp Ev Go
set_option linter.unusedSimpArgs false
set_option linter.unusedVariables false
set_option linter.unusedSimpArgs false
set_option linter.unusedVariables false

theorem Grant.eta (g : Grant) : Grant.mk g.who g.labels = g := rfl

/-! ## what is in order -/
structure nodeS (x : Ev.Node) : Prop where
  lab : x.labels.length ≤ 4
  prp : prpE x.props = 0
structure graphS (g : Graph) : Prop where
  nl : g.nodes.length ≤ 40
  el : g.edges.length ≤ 60
  nd : ∀ x ∈ g.nodes, nodeS x
  ed : ∀ x ∈ g.edges, prpE x.props = 0
theorem graphS_of {g : Graph} (h : chkG g = 0) : graphS g := by
  obtain ⟨h1, h2, h3, h4⟩ := chkG_0 h
  exact ⟨h1, h2, fun x hx => ⟨labE_0 (nodF_0 h3 x hx).1, (nodF_0 h3 x hx).2⟩, fun x hx => (edgF_0 h4 x hx).1⟩

/-! ## copies -/
theorem copyP_ok (l : List Prp) (n : Nat) (hn : 60 ≤ n) (h : prpE l = 0) : q50z n (l, ()) = some (l, ()) := by
  obtain ⟨h6, hc⟩ := prpE_0 h
  unfold q50z
  dsimp only
  rw [R_q50z_s0 n _ _ l n [] (by omega) (by omega)]
  have key : ∀ (r p : List Prp) (i : Int), (∀ x ∈ r, chk x.val 1 = 0) → p.length + r.length ≤ 30 → foldK (F_q50z_s0 n (fun _ => none)) (fun s => some (s.1, ())) i r (p, ()) = some (p ++ r, ()) := by
    intro r
    induction r with
    | nil => intro p i _ _; simp [foldK]
    | cons x r ih =>
      intro p i hx hl
      rw [foldK]
      unfold F_q50z_s0
      dsimp only
      rw [Val.eta, copy_ok x.val 1 n (by omega) (by omega) (by omega) (hx x (by simp)), Option.bind_some]
      dsimp only
      rw [Val.eta, ck_ok (room_ok (by simp at hl ⊢; omega) (by omega))]
      refine (ih (p ++ [x]) (i + 1) (fun y hy => hx y (by simp [hy])) (by simp at hl ⊢; omega)).trans ?_
      simp
  exact (key l [] 0 hc (by simp; omega))
theorem clone_ok (l : List ByteArray) (h : l.length ≤ 4) : q16z (l, ()) = some (l, ()) := by
  unfold q16z nilq
  dsimp only
  rw [List.nil_append, ck_ok (room_ok (by omega) (by omega))]
  cases l with
  | nil => exact dem2_same _
  | cons a r => rfl
theorem copyN_ok (x : Ev.Node) (n : Nat) (hn : 60 ≤ n) (h : nodeS x) : q53z n (x, ()) = some (x, ()) := by
  unfold q53z
  dsimp only
  rw [clone_ok x.labels h.lab, Option.bind_some]
  dsimp only
  rw [copyP_ok x.props n hn h.prp]
  rfl
theorem copyE_ok (x : Edg) (n : Nat) (hn : 60 ≤ n) (h : prpE x.props = 0) : q52z n (x, ()) = some (x, ()) := by
  unfold q52z
  dsimp only
  rw [copyP_ok x.props n hn h]
  rfl

def both (l : List Ev.Node) (e : Edg) : Bool := (nodeIn l e.src).isSome && (nodeIn l e.dst).isSome
def g0 : Graph := ⟨[], [], 0⟩
end Pure


/- Differences of rising lists: what is taken out and put in makes the one of the other. Plain Lean. -/
namespace Pure
section
variable {α : Type} (id : α → Int) (same : α → α → Bool)
def delF (x : α) : List α → Option (List α)
  | [] => none
  | y :: r => bif same x y then some r else (delF x r).map (y :: ·)
def insF (x : α) : List α → Option (List α)
  | [] => some [x]
  | y :: r => if id y < id x then (insF x r).map (y :: ·) else if id y = id x then none else some (x :: y :: r)
def delsF : List α → List α → Option (List α)
  | [], l => some l
  | x :: g, l => (delF same x l).bind (delsF g)
def inssF : List α → List α → Option (List α)
  | [], l => some l
  | x :: g, l => (insF id x l).bind (inssF g)
def turnF (l gone fresh : List α) : Option (List α) := (delsF same gone l).bind (inssF id fresh)
abbrev Up (l : List α) : Prop := l.Pairwise fun a b => id a < id b
variable {id same}
theorem Up.inj {l : List α} (h : Up id l) {x y : α} (hx : x ∈ l) (hy : y ∈ l) (e : id x = id y) : x = y := by
  induction l with
  | nil => cases hx
  | cons z r ih =>
    have h2 := List.pairwise_cons.1 h
    rcases List.mem_cons.1 hx with e1 | hx2
    · rcases List.mem_cons.1 hy with e2 | hy2
      · exact e1.trans e2.symm
      · have := h2.1 y hy2; rw [← e1] at this; omega
    · rcases List.mem_cons.1 hy with e2 | hy2
      · have := h2.1 x hx2; rw [← e2] at this; omega
      · exact ih h2.2 hx2 hy2
theorem insF_ok {x : α} : ∀ {l : List α}, Up id l → (∀ y ∈ l, id y ≠ id x) → ∃ l', insF id x l = some l' ∧ Up id l' ∧ ∀ y, y ∈ l' ↔ y ∈ l ∨ y = x
  | [], _, _ => ⟨[x], rfl, List.pairwise_singleton _ _, fun y => by simp⟩
  | z :: r, h, hn => by
    have h2 := List.pairwise_cons.1 h
    rw [insF]
    by_cases hz : id z < id x
    · obtain ⟨l', h3, h4, h5⟩ := insF_ok h2.2 (x := x) fun y hy => hn y (by simp [hy])
      refine ⟨z :: l', by rw [if_pos hz, h3]; rfl, List.pairwise_cons.2 ⟨fun y hy => ?_, h4⟩, fun y => ?_⟩
      · rcases (h5 y).1 hy with hy | rfl
        · exact h2.1 y hy
        · exact hz
      · rw [List.mem_cons, List.mem_cons, h5 y, or_assoc]
    · have hz2 := hn z (by simp)
      refine ⟨x :: z :: r, by rw [if_neg hz, if_neg hz2], List.pairwise_cons.2 ⟨fun y hy => ?_, h⟩, fun y => ?_⟩
      · rcases List.mem_cons.1 hy with rfl | hy
        · omega
        · have := h2.1 y hy; omega
      · rw [List.mem_cons, or_comm]
end
end Pure


/- Nodes and edges that are alike, by the program and by the document. No program. -/
namespace Pure
open Esp Ev Go
set_option linter.unusedSimpArgs false
set_option linter.unusedVariables false
set_option linter.unusedSimpArgs false
set_option linter.unusedVariables false

def eqL {α β : Type} (eq : α → β → Bool) : List α → List β → Bool
  | [], [] => true
  | x :: r, y :: t => eq x y && eqL eq r t
  | _, _ => false
theorem eqL_iff {α : Type} {eq : α → α → Bool} : ∀ {l m : List α}, (∀ x ∈ l, ∀ y ∈ m, eq x y = true ↔ x = y) → (eqL eq l m = true ↔ l = m)
  | [], [], _ => by simp [eqL]
  | [], _ :: _, _ => by simp [eqL]
  | _ :: _, [], _ => by simp [eqL]
  | x :: r, y :: t, h => by
    rw [eqL, Bool.and_eq_true, h x (by simp) y (by simp), eqL_iff fun a ha b hb => h a (by simp [ha]) b (by simp [hb]), List.cons.injEq]
theorem eqL_len {α β : Type} {eq : α → β → Bool} : ∀ {l : List α} {m : List β}, l.length ≠ m.length → eqL eq l m = false
  | [], [], h => absurd rfl h
  | [], _ :: _, _ => rfl
  | _ :: _, [], _ => rfl
  | x :: r, y :: t, h => by
    rw [eqL, eqL_len (by simpa using h), Bool.and_false]
theorem eqK {α β ρ : Type} {F : Int → α → (List β × Unit) → ((List β × Unit) → Option ρ) → Option ρ} {eq : α → β → Bool} {m : List β} {kr : Bool × Unit → Option ρ} {k : (List β × Unit) → Option ρ} :
    ∀ (l : List α) (q r : List β), (∀ x ∈ l, ∀ i rec, F i x (m, ()) rec = (ix m i).bind fun y => bif !(eq x y) then kr (false, ()) else rec (m, ())) → m = q ++ r → l.length = r.length →
      foldK F k (q.length : Int) l (m, ()) = bif eqL eq l r then k (m, ()) else kr (false, ())
  | [], q, [], _, _, _ => rfl
  | [], _, _ :: _, _, _, h => by simp at h
  | _ :: _, _, [], _, _, h => by simp at h
  | x :: l, q, y :: r, hF, hm, h => by
    have ih := eqK (k := k) l (q ++ [y]) r (fun z hz => hF z (by simp [hz])) (by rw [hm]; simp) (by simpa using h)
    rw [show ((q ++ [y]).length : Int) = (q.length : Int) + 1 by simp] at ih
    rw [foldK, hF x (by simp), show ix m (q.length : Int) = some y from ix_ok (by rw [hm]; simp), Option.bind_some, eqL]
    cases eq x y with
    | true => rw [Bool.not_true, cond_false, Bool.true_and]; exact ih
    | false => rfl
def eqP (p q : Prp) : Bool := seq p.name q.name && (ordV p.val q.val == 0)
theorem eqP_iff (p q : Prp) : eqP p q = true ↔ p = q := by
  unfold eqP
  rw [Bool.and_eq_true, seq_iff, beq_iff_eq, ordV_zero]
  constructor
  · rintro ⟨h1, h2⟩; cases p; cases q; simp_all
  · rintro rfl; exact ⟨rfl, rfl⟩
def pSz' : List Prp → Nat
  | [] => 0
  | p :: r => vSz p.val + pSz' r
theorem pSz_mem : ∀ {l : List Prp} {p : Prp}, p ∈ l → vSz p.val ≤ pSz' l
  | q :: r, p, h => by
    rw [pSz']
    rcases List.mem_cons.1 h with rfl | h
    · omega
    · have := pSz_mem h; omega
theorem Prp.eta (p : Prp) : Prp.mk p.name (Val.mk p.val.kind p.val.n p.val.s p.val.l) = p := by rw [Val.eta]
theorem sameProps1_ok (p q : Prp) (n : Nat) (h : vOk p.val) (hn : vSz p.val + 6 ≤ n) : q44z n (p, q, ()) = some (eqP p q, ()) := by
  unfold q44z eqP
  dsimp only
  cases seq p.name q.name with
  | false => rfl
  | true =>
    simp only [cond_true]
    rw [Val.eta, Val.eta, order2_ok _ _ n h hn, Option.bind_some, Bool.true_and]
theorem sameProps_ok (l m : List Prp) (n : Nat) (h : ∀ p ∈ l, vOk p.val) (hl : l.length ≤ 9223372036854775807) (hn : pSz' l + l.length + 7 ≤ n) : q51z n (l, m, ()) = some (eqL eqP l m, ()) := by
  unfold q51z q6z
  dsimp only
  cases hc : ((l.length : Int) != (m.length : Int)) with
  | true =>
    rw [eqL_len (by rw [bne_iff_ne] at hc; omega)]
    rfl
  | false =>
    have hlen : l.length = m.length := by simp at hc; omega
    simp only [cond_false]
    rw [R_q6z_s0 n _ _ l n _ hl (by omega)]
    have key := eqK (F := F_q6z_s0 n (fun (v10, _) => some (v10, ()))) (eq := eqP) (m := m) (kr := fun (v10, _) => some (v10, ())) (k := fun _ => some (true, ())) l [] m (fun x hx i rec => by
      unfold F_q6z_s0
      dsimp only
      cases ix m i with
      | none => rfl
      | some y =>
        rw [Option.bind_some, Option.bind_some, Prp.eta, Prp.eta, sameProps1_ok x y n (h x hx) (by have := pSz_mem hx; omega), Option.bind_some]) rfl hlen
    refine (congrArg (fun z => Option.bind z (fun x : Bool × Unit => some (x.1, ()))) key).trans ?_
    cases eqL eqP l m <;> rfl
theorem equalS_any (l m : List ByteArray) (n : Nat) (hl : l.length ≤ 9223372036854775807) (hn : l.length < n) : q17z n (l, m, ()) = some (eqL seq l m, ()) := by
  unfold q17z
  dsimp only
  cases hc : ((l.length : Int) != (m.length : Int)) with
  | true =>
    rw [eqL_len (by rw [bne_iff_ne] at hc; omega)]
    rfl
  | false =>
    have hlen : l.length = m.length := by simp at hc; omega
    simp only [cond_false]
    rw [R_q17z_s0 n _ _ l n _ hl (by omega)]
    have key := eqK (F := F_q17z_s0 n (fun (v10, _) => some (v10, ()))) (eq := seq) (m := m) (kr := fun (v10, _) => some (v10, ())) (k := fun _ => some (true, ())) l [] m (fun x hx i rec => by
      unfold F_q17z_s0
      dsimp only) rfl hlen
    refine key.trans ?_
    cases eqL seq l m <;> rfl
theorem rsameV_any (v w : Val) (n : Nat) (h : vOk v) (hn : vSz v + 2 ≤ n) : q27z n (v, w, ()) = some (ordV v w == 0, ()) := by
  unfold q27z
  dsimp only
  rw [Val.eta, Val.eta, orderOf_ok v w n h hn, Option.bind_some]
theorem rsameProps1_ok (p q : Prp) (n : Nat) (h : vOk p.val) (hn : vSz p.val + 6 ≤ n) : q19z n (p, q, ()) = some (eqP p q, ()) := by
  unfold q19z eqP
  dsimp only
  cases seq p.name q.name with
  | false => rfl
  | true =>
    simp only [cond_true]
    rw [Val.eta, Val.eta, rsameV_any _ _ n h (by omega), Option.bind_some, Bool.true_and]
theorem rsameProps_ok (l m : List Prp) (n : Nat) (h : ∀ p ∈ l, vOk p.val) (hl : l.length ≤ 9223372036854775807) (hn : pSz' l + l.length + 7 ≤ n) : q26z n (l, m, ()) = some (eqL eqP l m, ()) := by
  unfold q26z q0z
  dsimp only
  cases hc : ((l.length : Int) != (m.length : Int)) with
  | true =>
    rw [eqL_len (by rw [bne_iff_ne] at hc; omega)]
    rfl
  | false =>
    have hlen : l.length = m.length := by simp at hc; omega
    simp only [cond_false]
    rw [R_q0z_s0 n _ _ l n _ hl (by omega)]
    have key := eqK (F := F_q0z_s0 n (fun (v10, _) => some (v10, ()))) (eq := eqP) (m := m) (kr := fun (v10, _) => some (v10, ())) (k := fun _ => some (true, ())) l [] m (fun x hx i rec => by
      unfold F_q0z_s0
      dsimp only
      cases ix m i with
      | none => rfl
      | some y =>
        rw [Option.bind_some, Option.bind_some, Prp.eta, Prp.eta, rsameProps1_ok x y n (h x hx) (by have := pSz_mem hx; omega), Option.bind_some]) rfl hlen
    refine (congrArg (fun z => Option.bind z (fun x : Bool × Unit => some (x.1, ()))) key).trans ?_
    cases eqL eqP l m <;> rfl
/-! ## nodes, edges -/
def eqN (x y : Ev.Node) : Bool := (x.id == y.id) && (eqL seq x.labels y.labels && eqL eqP x.props y.props)
def eqE (x y : Edg) : Bool := ((((x.id == y.id) && (x.src == y.src)) && (x.dst == y.dst)) && seq x.type y.type) && eqL eqP x.props y.props
theorem eqN_iff (x y : Ev.Node) : eqN x y = true ↔ x = y := by
  unfold eqN
  rw [Bool.and_eq_true, Bool.and_eq_true, beq_iff_eq, eqL_iff fun a _ b _ => seq_iff a b, eqL_iff fun a _ b _ => eqP_iff a b]
  constructor
  · rintro ⟨h1, h2, h3⟩; cases x; cases y; simp_all
  · rintro rfl; exact ⟨rfl, rfl, rfl⟩
theorem eqE_iff (x y : Edg) : eqE x y = true ↔ x = y := by
  unfold eqE
  rw [Bool.and_eq_true, Bool.and_eq_true, Bool.and_eq_true, Bool.and_eq_true, beq_iff_eq, beq_iff_eq, beq_iff_eq, seq_iff, eqL_iff fun a _ b _ => eqP_iff a b]
  constructor
  · rintro ⟨⟨⟨⟨h1, h2⟩, h3⟩, h4⟩, h5⟩; cases x; cases y; simp_all
  · rintro rfl; exact ⟨⟨⟨⟨rfl, rfl⟩, rfl⟩, rfl⟩, rfl⟩
def nSz (x : Ev.Node) : Nat := x.labels.length + pSz' x.props + x.props.length + 8
def eSz (x : Edg) : Nat := pSz' x.props + x.props.length + 8
theorem gsameN_ok (x y : Ev.Node) (n : Nat) (h : ∀ p ∈ x.props, vOk p.val) (h1 : x.labels.length ≤ 9223372036854775807) (h2 : x.props.length ≤ 9223372036854775807) (hn : nSz x ≤ n) : q56z n (x, y, ()) = some (eqN x y, ()) := by
  unfold nSz at hn
  unfold q56z eqN
  dsimp only
  cases x.id == y.id with
  | false => rfl
  | true =>
    simp only [cond_true]
    rw [equalS_any _ _ n h1 (by omega), Option.bind_some]
    dsimp only
    cases eqL seq x.labels y.labels with
    | false => rfl
    | true =>
      simp only [cond_true]
      rw [sameProps_ok _ _ n h h2 (by omega), Option.bind_some, Bool.true_and, Bool.true_and]
theorem rsameN_ok (x y : Ev.Node) (n : Nat) (h : ∀ p ∈ x.props, vOk p.val) (h1 : x.labels.length ≤ 9223372036854775807) (h2 : x.props.length ≤ 9223372036854775807) (hn : nSz x ≤ n) : q33z n (x, y, ()) = some (eqN x y, ()) := by
  unfold nSz at hn
  unfold q33z eqN
  dsimp only
  cases x.id == y.id with
  | false => rfl
  | true =>
    simp only [cond_true]
    rw [equalS_any _ _ n h1 (by omega), Option.bind_some]
    dsimp only
    cases eqL seq x.labels y.labels with
    | false => rfl
    | true =>
      simp only [cond_true]
      rw [rsameProps_ok _ _ n h h2 (by omega), Option.bind_some, Bool.true_and, Bool.true_and]
theorem gsameE_ok (x y : Edg) (n : Nat) (h : ∀ p ∈ x.props, vOk p.val) (h2 : x.props.length ≤ 9223372036854775807) (hn : eSz x ≤ n) : q55z n (x, y, ()) = some (eqE x y, ()) := by
  unfold eSz at hn
  unfold q55z eqE
  dsimp only
  cases (((x.id == y.id) && (x.src == y.src)) && (x.dst == y.dst)) && seq x.type y.type with
  | false => rfl
  | true =>
    simp only [cond_true]
    rw [sameProps_ok _ _ n h h2 (by omega), Option.bind_some, Bool.true_and]
theorem rsameE_ok (x y : Edg) (n : Nat) (h : ∀ p ∈ x.props, vOk p.val) (h2 : x.props.length ≤ 9223372036854775807) (hn : eSz x ≤ n) : q32z n (x, y, ()) = some (eqE x y, ()) := by
  unfold eSz at hn
  unfold q32z eqE
  dsimp only
  cases (((x.id == y.id) && (x.src == y.src)) && (x.dst == y.dst)) && seq x.type y.type with
  | false => rfl
  | true =>
    simp only [cond_true]
    rw [rsameProps_ok _ _ n h h2 (by omega), Option.bind_some, Bool.true_and]
end Pure


/- What differs between two graphs, by the program. No program. -/
namespace Pure
open Esp Ev Go
set_option linter.unusedSimpArgs false
set_option linter.unusedVariables false
set_option linter.unusedSimpArgs false
set_option linter.unusedVariables false

theorem Node.eta (x : Ev.Node) : Ev.Node.mk x.id x.labels x.props = x := rfl
structure NL' (x : Ev.Node) : Prop where
  v : ∀ p ∈ x.props, vOk p.val
  l : x.labels.length ≤ 9223372036854775807
  p : x.props.length ≤ 9223372036854775807
end Pure


/- What differs between two graphs, told. No program. -/
namespace Pure
open Esp Ev Go
set_option linter.unusedSimpArgs false
set_option linter.unusedVariables false
set_option linter.unusedSimpArgs false
set_option linter.unusedVariables false

end Pure


/- What differs between two graphs: edges (made of PTxn2, PTxn3 by substitution). No program. -/
namespace Pure
open Esp Ev Go
set_option linter.unusedSimpArgs false
set_option linter.unusedVariables false
set_option linter.unusedSimpArgs false
set_option linter.unusedVariables false

theorem Edg.eta3 (x : Edg) : Ev.Edg.mk x.id x.src x.dst x.type x.props = x := rfl
structure EL' (x : Edg) : Prop where
  v : ∀ p ∈ x.props, vOk p.val
  p : x.props.length ≤ 9223372036854775807
end Pure


/- Between, told. No program. -/
namespace Pure
open Esp Ev Go
set_option linter.unusedSimpArgs false
set_option linter.unusedVariables false
set_option linter.unusedSimpArgs false
set_option linter.unusedVariables false

def gSz (g : Graph) : Nat := (g.nodes.map nSz).sum + (g.edges.map eSz).sum
theorem sum_mem {α : Type} (f : α → Nat) : ∀ {l : List α} {x : α}, x ∈ l → f x ≤ (l.map f).sum
  | y :: r, x, h => by
    rw [List.map_cons, List.sum_cons]
    rcases List.mem_cons.1 h with rfl | h
    · omega
    · have := sum_mem f h; omega
theorem gN {g : Graph} (hw : gOk g) (hc : chkG g = 0) : ∀ x ∈ g.nodes, NL' x ∧ nodeS x := fun x hx =>
  have h := (graphS_of hc).nd x hx
  have hp := prpE_0 h.prp
  ⟨⟨fun p hp' => ((hw.1.2 x hx).2.2.2 p hp').2, by have := h.lab; omega, by have := hp.1; omega⟩, h⟩
theorem gE {g : Graph} (hw : gOk g) (hc : chkG g = 0) : ∀ x ∈ g.edges, EL' x ∧ prpE x.props = 0 := fun x hx =>
  have h := (graphS_of hc).ed x hx
  have hp := prpE_0 h
  ⟨⟨fun p hp' => ((hw.2.1.2 x hx).2.2.2.2.2 p hp').2, by have := hp.1; omega⟩, h⟩
end Pure


/- What differs turns the one graph into the other: the plain law. No program. -/
namespace Pure
open Esp Ev Go
set_option linter.unusedSimpArgs false
set_option linter.unusedVariables false
set_option linter.unusedSimpArgs false
set_option linter.unusedVariables false

end Pure


/- A list turned by a difference, by the program: nodes. No program. -/
namespace Pure
open Esp Ev Go
set_option linter.unusedSimpArgs false
set_option linter.unusedVariables false
set_option linter.unusedSimpArgs false
set_option linter.unusedVariables false

theorem ixg {α ρ : Type} (l : List α) (j : Int) (f : α → Option ρ) : ((ix l j).bind fun _ => (l[j.toNat]?).bind f) = (ix l j).bind f := by
  unfold ix
  split
  · cases h : l[j.toNat]? <;> simp
  · rfl
theorem delF_idx {α : Type} {same : α → α → Bool} {x : α} : ∀ l : List α, delF same x l = (l.findIdx? (same x)).map fun k => l.take k ++ l.drop (k + 1)
  | [] => rfl
  | y :: r => by
    rw [delF, List.findIdx?_cons]
    cases h : same x y with
    | true => simp
    | false =>
      rw [cond_false, delF_idx r]
      cases r.findIdx? (same x) <;> simp
theorem delF_sub {α : Type} {same : α → α → Bool} {x : α} : ∀ {l l' : List α}, delF same x l = some l' → l'.Sublist l
  | [], _, h => by cases h
  | y :: r, l', h => by
    rw [delF] at h
    cases hs : same x y with
    | true => rw [hs] at h; cases h; exact List.sublist_cons_self ..
    | false =>
      rw [hs, cond_false, Option.map_eq_some_iff] at h
      obtain ⟨r', h1, rfl⟩ := h
      exact (delF_sub h1).cons_cons _
theorem delsF_sub {α : Type} {same : α → α → Bool} : ∀ {g l l' : List α}, delsF same g l = some l' → l'.Sublist l
  | [], l, l', h => by cases h; exact List.Sublist.refl _
  | x :: g, l, l', h => by
    rw [delsF, Option.bind_eq_some_iff] at h
    obtain ⟨l1, h1, h2⟩ := h
    exact (delsF_sub h2).trans (delF_sub h1)
theorem insF_at {α : Type} {id : α → Int} {x : α} : ∀ {l : List α} {k : Nat}, Rise id l → k ≤ l.length → (∀ (q : Nat) y, l[q]? = some y → q < k → id y < id x) → (∀ (q : Nat) y, l[q]? = some y → k ≤ q → id x ≤ id y) →
    insF id x l = if (∃ y, l[k]? = some y ∧ id y = id x) then none else some (l.take k ++ x :: l.drop k)
  | [], k, _, hk, _, _ => by
    have : k = 0 := by simpa using hk
    subst this
    simp [insF]
  | y :: r, 0, hr, _, _, h2 => by
    have hy := h2 0 y rfl (Nat.le_refl _)
    rw [insF, if_neg (by omega)]
    by_cases he : id y = id x
    · rw [if_pos he, if_pos ⟨y, rfl, he⟩]
    · rw [if_neg he, if_neg (by rintro ⟨z, hz, e⟩; cases hz; exact he e)]
      rfl
  | y :: r, k + 1, hr, hk, h1, h2 => by
    have hy := h1 0 y rfl (by omega)
    have hp := List.pairwise_cons.1 hr
    rw [insF, if_pos hy, insF_at (k := k) hp.2 (by simpa using hk) (fun q z hz hq => h1 (q + 1) z (by simpa using hz) (by omega)) fun q z hz hq => h2 (q + 1) z (by simpa using hz) (by omega)]
    by_cases he : ∃ z, r[k]? = some z ∧ id z = id x
    · rw [if_pos he, if_pos (by simpa using he)]; rfl
    · rw [if_neg he, if_neg (by simpa using he)]; rfl
theorem insF_rise {α : Type} {id : α → Int} {x : α} : ∀ {l l' : List α}, Rise id l → insF id x l = some l' → Rise id l' ∧ (∀ y, y ∈ l' ↔ y ∈ l ∨ y = x) ∧ l'.length = l.length + 1
  | [], l', _, h => by cases h; exact ⟨List.pairwise_singleton _ _, fun y => by simp, rfl⟩
  | z :: r, l', hr, h => by
    have hp := List.pairwise_cons.1 hr
    rw [insF] at h
    by_cases hz : id z < id x
    · rw [if_pos hz, Option.map_eq_some_iff] at h
      obtain ⟨r', h1, rfl⟩ := h
      obtain ⟨h2, h3, h4⟩ := insF_rise hp.2 h1
      refine ⟨List.pairwise_cons.2 ⟨fun y hy => ?_, h2⟩, fun y => by rw [List.mem_cons, List.mem_cons, h3 y, or_assoc], by simp [h4]⟩
      rcases (h3 y).1 hy with hy | rfl
      · exact hp.1 y hy
      · exact hz
    · rw [if_neg hz] at h
      by_cases he : id z = id x
      · rw [if_pos he] at h; cases h
      · rw [if_neg he] at h
        cases h
        refine ⟨List.pairwise_cons.2 ⟨fun y hy => ?_, hr⟩, fun y => by rw [List.mem_cons, or_comm], rfl⟩
        rcases List.mem_cons.1 hy with rfl | hy
        · omega
        · have := hp.1 y hy; omega

/-! ## nodes -/
theorem turnN1_ok (x y : Ev.Node) (n : Nat) (h : NL' x) (hn : nSz x ≤ n) : q30z n (y, (), (x, ()), ()) = some (eqN x y, (), (x, ()), ()) := by
  unfold q30z
  dsimp only
  rw [Node.eta, Node.eta, gsameN_ok x y n h.v h.l h.p hn, Option.bind_some]
theorem idxN_loop {ρ : Type} (n : Nat) (x : Ev.Node) (h : NL' x) (hn : nSz x ≤ n) (kx : Unit × (Ev.Node × Unit) × (List Ev.Node) × Unit → Option ρ) (kr : Int × Unit × (Ev.Node × Unit) × (List Ev.Node) × Unit → Option ρ) :
    ∀ (r p : List Ev.Node) (fuel : Nat), (p ++ r).length ≤ 1000 → r.length < fuel →
      iterN (fun rc => q10z_s0 n rc kx kr) fuel (((p ++ r).length : Int), (p.length : Int), (), (x, ()), p ++ r, ()) =
        match r.findIdx? (eqN x) with
        | some j => kr (((p.length + j : Nat) : Int), (), (x, ()), p ++ r, ())
        | none => kx ((), (x, ()), p ++ r, ())
  | _, _, 0, _, hf => by omega
  | [], p, m + 1, hl, _ => by
    rw [iterN]
    unfold q10z_s0
    dsimp only
    rw [decide_eq_false (by simp), cond_false]
    rfl
  | y :: r, p, m + 1, hl, hf => by
    rw [iterN]
    have ih := idxN_loop n x h hn kx kr r (p ++ [y]) m (by simpa using hl) (by simp at hf; omega)
    rw [List.append_assoc, List.singleton_append] at ih
    generalize iterN (fun rc => q10z_s0 n rc kx kr) m = R at ih ⊢
    unfold q10z_s0
    dsimp only
    rw [decide_eq_true (by simp; omega), cond_true, ixg, ix_ok (x := y) (by simp), Option.bind_some, Node.eta, Node.eta, turnN1_ok x y n h hn, Option.bind_some]
    dsimp only
    rw [List.findIdx?_cons]
    cases hy : eqN x y with
    | true => simp only [cond_true, if_true]; rfl
    | false =>
      rw [cond_false, if_neg (by simp), wrap64 (by omega) (by simp at hl; omega), Node.eta, show ((p.length : Int) + 1) = ((p ++ [y]).length : Int) by simp, ih]
      cases r.findIdx? (eqN x) with
      | none => rfl
      | some j =>
        dsimp only [Option.map_some]
        congr 3
        simp
        omega
theorem idxN_ok (l : List Ev.Node) (x : Ev.Node) (n : Nat) (h : NL' x) (hl : l.length ≤ 1000) (hn : nSz x + l.length + 1 ≤ n) :
    q10z n (l, (), (x, ()), ()) = some ((match l.findIdx? (eqN x) with | some j => (j : Int) | none => -1), l, (), (x, ()), ()) := by
  unfold q10z
  dsimp only
  have key := idxN_loop (ρ := Int × List Ev.Node × Unit × (Ev.Node × Unit) × Unit) n x h (by omega) (fun (o13, o14, o15, _) => some ((-1), o15, (()), ((Ev.Node.mk o14.1.id o14.1.labels o14.1.props), ()), ())) (fun (v16, o17, o18, o19, _) => some (v16, o19, (()), ((Ev.Node.mk o18.1.id o18.1.labels o18.1.props), ()), ())) l [] n (by simpa using hl) (by omega)
  simp only [List.nil_append] at key
  refine key.trans ?_
  cases l.findIdx? (eqN x) with
  | none => rfl
  | some j => simp
theorem turnN2_ok (x : Ev.Node) (t : Int) : q31z (x, t, (), ()) = some (cmpI x.id t, (), ()) := by
  unfold q31z q73z
  dsimp only
  rw [Option.bind_some, cmp_int_ok, Option.bind_some]
theorem binN_ok (l : List Ev.Node) (t : Int) (n : Nat) (hr : Rise Ev.Node.id l) (hl : l.length ≤ 1000) (hn : l.length < n) :
    ∃ k : Nat, k ≤ l.length ∧ (∀ (q : Nat) y, l[q]? = some y → q < k → y.id < t) ∧ (∀ (q : Nat) y, l[q]? = some y → k ≤ q → t ≤ y.id) ∧
      q4z n (t, l, (), ()) = some ((k : Int), (match l[k]? with | some y => decide (y.id = t) | none => false), l, (), ()) := by
  obtain ⟨k, h1, h2, h3, h4⟩ := bin_iter (ρ := Int × Bool × List Ev.Node × Unit × Unit) l Ev.Node.id t (fun x => some (cmpI x.id t, ())) (fun x => rfl) (fun i j => (t, (l.length : Int), i, j, (), l, ()))
    (fun rec => q4z_s0 n rec (fun (v13, v14, v15, o16, o17, _) =>
  (bif decide ((v15 : Int) < v14) then
  (ix o17 v15).bind fun _ =>
  ((o17)[(v15 : Int).toNat]?).bind fun e18 =>
  (q31z ((Ev.Node.mk e18.id e18.labels e18.props), v13, (()), ())).bind fun (y19, o20, _) => some (v15, (y19 : Int) == 0, o17, (()), ())
  else some (v15, false, o17, (()), ()))) (fun (_) => none)) (fun i => bif decide ((i : Int) < (l.length : Int)) then (ix l i).bind fun e18 => some (i, (cmpI e18.id t : Int) == 0, l, (()), ()) else some (i, false, l, (()), ()))
    (fun rec i j => by
      unfold q4z_s0
      dsimp only
      simp only [ixg, Node.eta, turnN2_ok, Option.bind_some]) hr (by omega) n 0 l.length (by omega) (by omega) (by omega) (fun q x _ h => absurd h (by omega)) (fun q x h h' => by
    obtain ⟨h5, _⟩ := List.getElem?_eq_some_iff.1 h; omega)
  refine ⟨k, h2, h3, h4, ?_⟩
  have e0 : q4z n (t, l, (), ()) = _ := h1
  rw [e0]
  by_cases hk : k < l.length
  · have e1 := List.getElem?_eq_getElem hk
    have e2 : ix l (k : Int) = some l[k] := ix_ok e1
    rw [decide_eq_true (by omega), cond_true, e2, Option.bind_some, cmpI_zero, e1]
  · rw [decide_eq_false (by omega), cond_false, List.getElem?_eq_none (by omega)]
theorem insN_ok {α : Type} {l : List α} {x : α} {k : Nat} (hk : k ≤ l.length) (hl : l.length ≤ 1000) : insN ((k : Int), l, [x], ()) = some (l.take k ++ x :: l.drop k, [x], ()) := by
  unfold insN
  dsimp only
  rw [decide_eq_true (by omega), Int.toNat_natCast, Nat.ble_eq_true_of_le hk, Nat.ble_eq_true_of_le (by omega)]
  rfl
theorem delN_ok {α : Type} {l : List α} {k : Nat} (hk : k < l.length) : delN ((k : Int), (k : Int) + 1, l, ()) = some (l.take k ++ l.drop (k + 1), ()) := by
  unfold delN
  dsimp only
  rw [decide_eq_true (by omega), decide_eq_true (by omega), Int.toNat_natCast, show ((k : Int) + 1).toNat = k + 1 by omega, Nat.ble_eq_true_of_le hk]
  rfl
theorem goneN_loop {ρ : Type} (n : Nat) (kr : List Ev.Node × Bool × Unit → Option ρ) (k : (List Ev.Node × Unit × Unit × List Ev.Node × Unit) → Option ρ) (v : List Ev.Node) :
    ∀ (g : List Ev.Node) (i : Int) (l : List Ev.Node), (∀ x ∈ g, NL' x ∧ nSz x + 1001 ≤ n) → l.length ≤ 1000 →
      foldK (F_q13z_s0 n kr) k i g (v, (), (), l, ()) = match delsF eqN g l with
        | some l' => k (v, (), (), l', ())
        | none => kr ([], false, ())
  | [], i, l, _, _ => rfl
  | x :: g, i, l, h, hl => by
    obtain ⟨h1, h2⟩ := h x (by simp)
    rw [foldK]
    have ih := fun l' hl' => goneN_loop n kr k v g (i + 1) l' (fun y hy => h y (by simp [hy])) hl'
    generalize foldK (F_q13z_s0 n kr) k (i + 1) g = R at ih ⊢
    unfold F_q13z_s0
    dsimp only
    rw [Node.eta, idxN_ok l x n h1 hl (by omega), Option.bind_some, delsF]
    dsimp only
    have hd := delF_idx (same := eqN) (x := x) l
    cases hf : l.findIdx? (eqN x) with
    | none =>
      rw [hf] at hd
      rw [hd]
      rfl
    | some j =>
      rw [hf, Option.map_some] at hd
      have hj : j < l.length := by
        have := (List.findIdx?_eq_some_iff_findIdx_eq.1 hf).1
        exact this
      dsimp only
      rw [decide_eq_false (by omega), cond_false, wrap64 (by omega) (by omega), delN_ok hj, Option.bind_some, hd, Option.bind_some]
      dsimp only
      exact ih _ (by simp; omega)
theorem freshN_loop {ρ : Type} (n : Nat) (kr : List Ev.Node × Bool × Unit → Option ρ) (k : (Unit × List Ev.Node × Unit) → Option ρ) :
    ∀ (g : List Ev.Node) (i : Int) (l : List Ev.Node), Rise Ev.Node.id l → l.length + g.length ≤ 900 → 1000 ≤ n →
      foldK (F_q13z_s2 n kr) k i g ((), l, ()) = match inssF Ev.Node.id g l with
        | some l' => k ((), l', ())
        | none => kr ([], false, ())
  | [], i, l, _, _, _ => rfl
  | x :: g, i, l, hr, hl, hn => by
    rw [foldK]
    have ih := fun l' hr' hl' => freshN_loop n kr k g (i + 1) l' hr' hl' hn
    generalize foldK (F_q13z_s2 n kr) k (i + 1) g = R at ih ⊢
    unfold F_q13z_s2 q73z
    dsimp only
    simp only [List.length_cons] at hl
    obtain ⟨q, h1, h2, h3, h4⟩ := binN_ok l x.id n hr (by omega) (by omega)
    rw [Option.bind_some, h4, Option.bind_some, inssF]
    dsimp only
    have hi := insF_at (id := Ev.Node.id) (x := x) hr h1 h2 h3
    by_cases he : ∃ y, l[q]? = some y ∧ y.id = x.id
    · rw [if_pos he] at hi
      obtain ⟨y, hy, hy2⟩ := he
      rw [hi, hy]
      dsimp only
      rw [decide_eq_true hy2]
      rfl
    · rw [if_neg he] at hi
      have hb : (match l[q]? with | some y => decide (y.id = x.id) | none => false) = false := by
        cases hq : l[q]? with
        | none => rfl
        | some y => exact decide_eq_false fun e => he ⟨y, hq, e⟩
      rw [hb, cond_false, Node.eta, insN_ok h1 (by omega), Option.bind_some, hi, Option.bind_some]
      dsimp only
      obtain ⟨h5, _, h6⟩ := insF_rise hr hi
      exact ih _ h5 (by rw [h6]; omega)
theorem turnedN_ok (l gone fresh : List Ev.Node) (n : Nat) (hr : Rise Ev.Node.id l) (hl : l.length ≤ 100) (hg : ∀ x ∈ gone, NL' x ∧ nSz x + 1001 ≤ n) (hgl : gone.length < n) (hgm : gone.length ≤ 9223372036854775807) (hfl : fresh.length ≤ 100) (hn : 1001 ≤ n) :
    q13z n (l, gone, fresh, ()) = match turnF Ev.Node.id eqN l gone fresh with
      | some r => some (r, true, ())
      | none => some ([], false, ()) := by
  have hc : q15z (l, ()) = some (l, ()) := by
    unfold q15z nilq
    dsimp only
    rw [List.nil_append, ck_ok (room_ok (by omega) (by omega))]
    first | done | (cases l with
      | nil => exact dem2_same _
      | cons a r => rfl)
  unfold q13z turnF
  dsimp only
  rw [hc, Option.bind_some]
  dsimp only
  rw [R_q13z_s0 n _ _ gone n _ _ _ _ hgm hgl, goneN_loop n _ _ fresh gone 0 l hg (by omega)]
  cases hd : delsF eqN gone l with
  | none => rfl
  | some l1 =>
    have hs := delsF_sub hd
    have hl1 := hs.length_le
    dsimp only
    rw [R_q13z_s2 n _ _ fresh n _ _ (by omega) (by omega), freshN_loop n _ _ fresh 0 l1 (List.Pairwise.sublist hs hr) (by omega) (by omega), Option.bind_some]
end Pure


/- A list turned by a difference, by the program: edges. No program. -/
namespace Pure
open Esp Ev Go
set_option linter.unusedSimpArgs false
set_option linter.unusedVariables false
set_option linter.unusedSimpArgs false
set_option linter.unusedVariables false

/-! ## edges -/
theorem turnE1_ok (x y : Ev.Edg) (n : Nat) (h : EL' x) (hn : eSz x ≤ n) : q28z n (y, (), (x, ()), ()) = some (eqE x y, (), (x, ()), ()) := by
  unfold q28z
  dsimp only
  rw [Edg.eta3, Edg.eta3, gsameE_ok x y n h.v h.p hn, Option.bind_some]
theorem idxE_loop {ρ : Type} (n : Nat) (x : Ev.Edg) (h : EL' x) (hn : eSz x ≤ n) (kx : Unit × (Ev.Edg × Unit) × (List Ev.Edg) × Unit → Option ρ) (kr : Int × Unit × (Ev.Edg × Unit) × (List Ev.Edg) × Unit → Option ρ) :
    ∀ (r p : List Ev.Edg) (fuel : Nat), (p ++ r).length ≤ 1000 → r.length < fuel →
      iterN (fun rc => q8z_s0 n rc kx kr) fuel (((p ++ r).length : Int), (p.length : Int), (), (x, ()), p ++ r, ()) =
        match r.findIdx? (eqE x) with
        | some j => kr (((p.length + j : Nat) : Int), (), (x, ()), p ++ r, ())
        | none => kx ((), (x, ()), p ++ r, ())
  | _, _, 0, _, hf => by omega
  | [], p, m + 1, hl, _ => by
    rw [iterN]
    unfold q8z_s0
    dsimp only
    rw [decide_eq_false (by simp), cond_false]
    rfl
  | y :: r, p, m + 1, hl, hf => by
    rw [iterN]
    have ih := idxE_loop n x h hn kx kr r (p ++ [y]) m (by simpa using hl) (by simp at hf; omega)
    rw [List.append_assoc, List.singleton_append] at ih
    generalize iterN (fun rc => q8z_s0 n rc kx kr) m = R at ih ⊢
    unfold q8z_s0
    dsimp only
    rw [decide_eq_true (by simp; omega), cond_true, ixg, ix_ok (x := y) (by simp), Option.bind_some, Edg.eta3, Edg.eta3, turnE1_ok x y n h hn, Option.bind_some]
    dsimp only
    rw [List.findIdx?_cons]
    cases hy : eqE x y with
    | true => simp only [cond_true, if_true]; rfl
    | false =>
      rw [cond_false, if_neg (by simp), wrap64 (by omega) (by simp at hl; omega), Edg.eta3, show ((p.length : Int) + 1) = ((p ++ [y]).length : Int) by simp, ih]
      cases r.findIdx? (eqE x) with
      | none => rfl
      | some j =>
        dsimp only [Option.map_some]
        congr 3
        simp
        omega
theorem idxE_ok (l : List Ev.Edg) (x : Ev.Edg) (n : Nat) (h : EL' x) (hl : l.length ≤ 1000) (hn : eSz x + l.length + 1 ≤ n) :
    q8z n (l, (), (x, ()), ()) = some ((match l.findIdx? (eqE x) with | some j => (j : Int) | none => -1), l, (), (x, ()), ()) := by
  unfold q8z
  dsimp only
  have key := idxE_loop (ρ := Int × List Ev.Edg × Unit × (Ev.Edg × Unit) × Unit) n x h (by omega) (fun (o13, o14, o15, _) => some ((-1), o15, (()), ((Ev.Edg.mk o14.1.id o14.1.src o14.1.dst o14.1.type o14.1.props), ()), ())) (fun (v16, o17, o18, o19, _) => some (v16, o19, (()), ((Ev.Edg.mk o18.1.id o18.1.src o18.1.dst o18.1.type o18.1.props), ()), ())) l [] n (by simpa using hl) (by omega)
  simp only [List.nil_append] at key
  refine key.trans ?_
  cases l.findIdx? (eqE x) with
  | none => rfl
  | some j => simp
theorem turnE2_ok (x : Ev.Edg) (t : Int) : q29z (x, t, (), ()) = some (cmpI x.id t, (), ()) := by
  unfold q29z q74z
  dsimp only
  rw [Option.bind_some, cmp_int_ok, Option.bind_some]
theorem binE_ok (l : List Ev.Edg) (t : Int) (n : Nat) (hr : Rise Ev.Edg.id l) (hl : l.length ≤ 1000) (hn : l.length < n) :
    ∃ k : Nat, k ≤ l.length ∧ (∀ (q : Nat) y, l[q]? = some y → q < k → y.id < t) ∧ (∀ (q : Nat) y, l[q]? = some y → k ≤ q → t ≤ y.id) ∧
      q3z n (t, l, (), ()) = some ((k : Int), (match l[k]? with | some y => decide (y.id = t) | none => false), l, (), ()) := by
  obtain ⟨k, h1, h2, h3, h4⟩ := bin_iter (ρ := Int × Bool × List Ev.Edg × Unit × Unit) l Ev.Edg.id t (fun x => some (cmpI x.id t, ())) (fun x => rfl) (fun i j => (t, (l.length : Int), i, j, (), l, ()))
    (fun rec => q3z_s0 n rec (fun (v13, v14, v15, o16, o17, _) =>
  (bif decide ((v15 : Int) < v14) then
  (ix o17 v15).bind fun _ =>
  ((o17)[(v15 : Int).toNat]?).bind fun e18 =>
  (q29z ((Ev.Edg.mk e18.id e18.src e18.dst e18.type e18.props), v13, (()), ())).bind fun (y19, o20, _) => some (v15, (y19 : Int) == 0, o17, (()), ())
  else some (v15, false, o17, (()), ()))) (fun (_) => none)) (fun i => bif decide ((i : Int) < (l.length : Int)) then (ix l i).bind fun e18 => some (i, (cmpI e18.id t : Int) == 0, l, (()), ()) else some (i, false, l, (()), ()))
    (fun rec i j => by
      unfold q3z_s0
      dsimp only
      simp only [ixg, Edg.eta3, turnE2_ok, Option.bind_some]) hr (by omega) n 0 l.length (by omega) (by omega) (by omega) (fun q x _ h => absurd h (by omega)) (fun q x h h' => by
    obtain ⟨h5, _⟩ := List.getElem?_eq_some_iff.1 h; omega)
  refine ⟨k, h2, h3, h4, ?_⟩
  have e0 : q3z n (t, l, (), ()) = _ := h1
  rw [e0]
  by_cases hk : k < l.length
  · have e1 := List.getElem?_eq_getElem hk
    have e2 : ix l (k : Int) = some l[k] := ix_ok e1
    rw [decide_eq_true (by omega), cond_true, e2, Option.bind_some, cmpI_zero, e1]
  · rw [decide_eq_false (by omega), cond_false, List.getElem?_eq_none (by omega)]
theorem goneE_loop {ρ : Type} (n : Nat) (kr : List Ev.Edg × Bool × Unit → Option ρ) (k : (List Ev.Edg × Unit × Unit × List Ev.Edg × Unit) → Option ρ) (v : List Ev.Edg) :
    ∀ (g : List Ev.Edg) (i : Int) (l : List Ev.Edg), (∀ x ∈ g, EL' x ∧ eSz x + 1001 ≤ n) → l.length ≤ 1000 →
      foldK (F_q12z_s0 n kr) k i g (v, (), (), l, ()) = match delsF eqE g l with
        | some l' => k (v, (), (), l', ())
        | none => kr ([], false, ())
  | [], i, l, _, _ => rfl
  | x :: g, i, l, h, hl => by
    obtain ⟨h1, h2⟩ := h x (by simp)
    rw [foldK]
    have ih := fun l' hl' => goneE_loop n kr k v g (i + 1) l' (fun y hy => h y (by simp [hy])) hl'
    generalize foldK (F_q12z_s0 n kr) k (i + 1) g = R at ih ⊢
    unfold F_q12z_s0
    dsimp only
    rw [Edg.eta3, idxE_ok l x n h1 hl (by omega), Option.bind_some, delsF]
    dsimp only
    have hd := delF_idx (same := eqE) (x := x) l
    cases hf : l.findIdx? (eqE x) with
    | none =>
      rw [hf] at hd
      rw [hd]
      rfl
    | some j =>
      rw [hf, Option.map_some] at hd
      have hj : j < l.length := by
        have := (List.findIdx?_eq_some_iff_findIdx_eq.1 hf).1
        exact this
      dsimp only
      rw [decide_eq_false (by omega), cond_false, wrap64 (by omega) (by omega), delN_ok hj, Option.bind_some, hd, Option.bind_some]
      dsimp only
      exact ih _ (by simp; omega)
theorem freshE_loop {ρ : Type} (n : Nat) (kr : List Ev.Edg × Bool × Unit → Option ρ) (k : (Unit × List Ev.Edg × Unit) → Option ρ) :
    ∀ (g : List Ev.Edg) (i : Int) (l : List Ev.Edg), Rise Ev.Edg.id l → l.length + g.length ≤ 900 → 1000 ≤ n →
      foldK (F_q12z_s2 n kr) k i g ((), l, ()) = match inssF Ev.Edg.id g l with
        | some l' => k ((), l', ())
        | none => kr ([], false, ())
  | [], i, l, _, _, _ => rfl
  | x :: g, i, l, hr, hl, hn => by
    rw [foldK]
    have ih := fun l' hr' hl' => freshE_loop n kr k g (i + 1) l' hr' hl' hn
    generalize foldK (F_q12z_s2 n kr) k (i + 1) g = R at ih ⊢
    unfold F_q12z_s2 q74z
    dsimp only
    simp only [List.length_cons] at hl
    obtain ⟨q, h1, h2, h3, h4⟩ := binE_ok l x.id n hr (by omega) (by omega)
    rw [Option.bind_some, h4, Option.bind_some, inssF]
    dsimp only
    have hi := insF_at (id := Ev.Edg.id) (x := x) hr h1 h2 h3
    by_cases he : ∃ y, l[q]? = some y ∧ y.id = x.id
    · rw [if_pos he] at hi
      obtain ⟨y, hy, hy2⟩ := he
      rw [hi, hy]
      dsimp only
      rw [decide_eq_true hy2]
      rfl
    · rw [if_neg he] at hi
      have hb : (match l[q]? with | some y => decide (y.id = x.id) | none => false) = false := by
        cases hq : l[q]? with
        | none => rfl
        | some y => exact decide_eq_false fun e => he ⟨y, hq, e⟩
      rw [hb, cond_false, Edg.eta3, insN_ok h1 (by omega), Option.bind_some, hi, Option.bind_some]
      dsimp only
      obtain ⟨h5, _, h6⟩ := insF_rise hr hi
      exact ih _ h5 (by rw [h6]; omega)
theorem turnedE_ok (l gone fresh : List Ev.Edg) (n : Nat) (hr : Rise Ev.Edg.id l) (hl : l.length ≤ 100) (hg : ∀ x ∈ gone, EL' x ∧ eSz x + 1001 ≤ n) (hgl : gone.length < n) (hgm : gone.length ≤ 9223372036854775807) (hfl : fresh.length ≤ 100) (hn : 1001 ≤ n) :
    q12z n (l, gone, fresh, ()) = match turnF Ev.Edg.id eqE l gone fresh with
      | some r => some (r, true, ())
      | none => some ([], false, ()) := by
  have hc : q14z (l, ()) = some (l, ()) := by
    unfold q14z nilq
    dsimp only
    rw [List.nil_append, ck_ok (room_ok (by omega) (by omega))]
    first | done | (cases l with
      | nil => exact dem2_same _
      | cons a r => rfl)
  unfold q12z turnF
  dsimp only
  rw [hc, Option.bind_some]
  dsimp only
  rw [R_q12z_s0 n _ _ gone n _ _ _ _ hgm hgl, goneE_loop n _ _ fresh gone 0 l hg (by omega)]
  cases hd : delsF eqE gone l with
  | none => rfl
  | some l1 =>
    have hs := delsF_sub hd
    have hl1 := hs.length_le
    dsimp only
    rw [R_q12z_s2 n _ _ fresh n _ _ (by omega) (by omega), freshE_loop n _ _ fresh 0 l1 (List.Pairwise.sublist hs hr) (by omega) (by omega), Option.bind_some]
end Pure


/- A graph copied, a graph turned, told. No program. -/
namespace Pure
open Esp Ev Go
set_option linter.unusedSimpArgs false
set_option linter.unusedVariables false
set_option linter.unusedSimpArgs false
set_option linter.unusedVariables false

theorem push_fold {α σ ρ : Type} {F : Int → α → σ → (σ → Option ρ) → Option ρ} {k : σ → Option ρ} (mk : List α → σ) (ok : α → Prop) (h : ∀ i x acc rec, ok x → acc.length ≤ 500 → F i x (mk acc) rec = rec (mk (acc ++ [x]))) :
    ∀ (l : List α) (i : Int) (acc : List α), (∀ x ∈ l, ok x) → acc.length + l.length ≤ 500 → foldK F k i l (mk acc) = k (mk (acc ++ l))
  | [], i, acc, _, _ => by rw [List.append_nil]; rfl
  | x :: r, i, acc, hx, hl => by
    rw [foldK, h i x acc _ (hx x (by simp)) (by omega), push_fold mk ok h r (i + 1) (acc ++ [x]) (fun y hy => hx y (by simp [hy])) (by simp at hl ⊢; omega)]
    simp
theorem copyG_ok (g : Graph) (n : Nat) (hn : 80 ≤ n) (h : graphS g) : q70z n (g, ()) = some (g, ()) := by
  have h1 := h.nl
  have h2 := h.el
  unfold q70z
  dsimp only
  rw [R_q70z_s0 n _ _ g.nodes n _ _ _ _ (by omega) (by omega)]
  refine (push_fold (F := F_q70z_s0 n _) (fun a => ((Ev.Graph.mk g.nodes g.edges g.next, ()), (Ev.Graph.mk [] [] 0, ()), (g.next, ()), a, ())) nodeS (fun i x acc rec hx ha => ?_) g.nodes 0 [] h.nd (by simp; omega)).trans ?_
  · unfold F_q70z_s0
    dsimp only
    rw [Node.eta, copyN_ok x n (by omega) hx, Option.bind_some]
    dsimp only
    rw [Node.eta, ck_ok (room_ok (by simp; omega) (by omega))]
  dsimp only
  rw [R_q70z_s2 n _ _ g.edges n _ _ _ _ (by omega) (by omega)]
  refine (push_fold (F := F_q70z_s2 n _) (fun a => ((Ev.Graph.mk [] [] 0, ()), (g.next, ()), [] ++ g.nodes, a, ())) (fun x : Edg => prpE x.props = 0) (fun i x acc rec hx ha => ?_) g.edges 0 [] h.ed (by simp; omega)).trans ?_
  · unfold F_q70z_s2
    dsimp only
    rw [Edg.eta3, copyE_ok x n (by omega) hx, Option.bind_some]
    dsimp only
    rw [Edg.eta3, ck_ok (room_ok (by simp; omega) (by omega))]
  rfl
def turnR (g : Graph) (d : Delta) : Graph × Int :=
  bif chkG g != 0 then (.mk [] [] 0, chkG g) else bif d.src != g.next then (.mk [] [] 0, 6) else
  bif decide ((d.fresh.length : Int) > 60) || decide ((d.freshE.length : Int) > 60) then (.mk [] [] 0, 2) else
  match turnF Ev.Node.id eqN g.nodes d.gone d.fresh, turnF Edg.id eqE g.edges d.goneE d.freshE with
  | some a, some b => bif chkG (.mk a b d.dst) != 0 then (.mk [] [] 0, chkG (.mk a b d.dst)) else (.mk a b d.dst, 0)
  | _, _ => (.mk [] [] 0, 6)
theorem turn_ok (g : Graph) (d : Delta) (n : Nat) (hg : ∀ x ∈ d.gone, NL' x ∧ nSz x + 1010 ≤ n) (he : ∀ x ∈ d.goneE, EL' x ∧ eSz x + 1010 ≤ n) (h1 : d.gone.length + 3 < n) (h2 : d.goneE.length + 3 < n)
    (h3 : d.gone.length ≤ 9223372036854775807) (h4 : d.goneE.length ≤ 9223372036854775807) (hn : 1010 ≤ n) :
    txn_Turn n (g, d, ()) = some ((turnR g d).1, (turnR g d).2, ()) := by
  obtain ⟨m, rfl⟩ : ∃ m, n = m + 3 := ⟨n - 3, by omega⟩
  unfold txn_Turn turnR
  dsimp only
  rw [show (Graph.mk g.nodes g.edges g.next) = g from rfl, gcheck_ok g _ (by omega), Option.bind_some]
  dsimp only
  cases hc : chkG g != 0 with
  | true => rfl
  | false =>
    have hc0 : chkG g = 0 := by simpa using hc
    simp only [cond_false]
    cases hs : d.src != g.next with
    | true => rfl
    | false =>
      simp only [cond_false]
      rw [iterN]
      unfold txn_Turn_s0
      dsimp only
      rw [show decide ((0 : Int) < 2) = true from rfl, cond_true]
      rw [show ∀ x y : Int, ix [x, y] (0 : Int) = some x from fun _ _ => rfl, Option.bind_some]
      cases hf : decide ((d.fresh.length : Int) > 60) with
      | true => rfl
      | false =>
        simp only [cond_false, Bool.false_or]
        rw [iterN]
        dsimp only
        rw [show IntKind.wrap .i64 ((0 : Int) + 1) = 1 from rfl, show decide ((1 : Int) < 2) = true from rfl, cond_true]
        rw [show ∀ x y : Int, ix [x, y] (1 : Int) = some y from fun _ _ => rfl, Option.bind_some]
        cases hf2 : decide ((d.freshE.length : Int) > 60) with
        | true => rfl
        | false =>
          have hf3 := of_decide_eq_false hf
          have hf4 := of_decide_eq_false hf2
          simp only [cond_false]
          rw [iterN]
          dsimp only
          rw [show IntKind.wrap .i64 ((1 : Int) + 1) = 2 from rfl, show decide ((2 : Int) < 2) = false from rfl, cond_false]
          obtain ⟨k1, k2, k3, k4⟩ := chkG_0 hc0
          rw [turnedN_ok g.nodes d.gone d.fresh _ (nodF_rise k3).2.1 (by omega) (fun x hx => ⟨(hg x hx).1, by have := (hg x hx).2; omega⟩) (by omega) h3 (by omega) (by omega)]
          rw [turnedE_ok g.edges d.goneE d.freshE _ (edgF_rise k4).2.1 (by omega) (fun x hx => ⟨(he x hx).1, by have := (he x hx).2; omega⟩) (by omega) h4 (by omega) (by omega)]
          cases ha : turnF Ev.Node.id eqN g.nodes d.gone d.fresh with
          | none =>
            cases hb : turnF Edg.id eqE g.edges d.goneE d.freshE with
            | none => rfl
            | some b => rfl
          | some a =>
            cases hb : turnF Edg.id eqE g.edges d.goneE d.freshE with
            | none => rfl
            | some b =>
              dsimp only [Option.bind_some]
              simp only [Bool.not_true, Bool.or_self, cond_false]
              rw [gcheck_ok _ _ (by omega), Option.bind_some]
              dsimp only
              cases hr : chkG (Graph.mk a b d.dst) != 0 with
              | true => rfl
              | false =>
                have hr0 : chkG (Graph.mk a b d.dst) = 0 := by simpa using hr
                simp only [cond_false]
                rw [copyG_ok _ _ (by omega) (graphS_of hr0), Option.bind_some]
end Pure


/- Turned back, told. No program. -/
namespace Pure
open Esp Ev Go
set_option linter.unusedSimpArgs false
set_option linter.unusedVariables false
set_option linter.unusedSimpArgs false
set_option linter.unusedVariables false

structure deltaS (d : Delta) : Prop where
  gl : d.gone.length ≤ 100
  fl : d.fresh.length ≤ 100
  gel : d.goneE.length ≤ 100
  fel : d.freshE.length ≤ 100
  g : ∀ x ∈ d.gone, nodeS x
  f : ∀ x ∈ d.fresh, nodeS x
  ge : ∀ x ∈ d.goneE, prpE x.props = 0
  fe : ∀ x ∈ d.freshE, prpE x.props = 0
end Pure


/- What the law takes away, told. No program. -/
namespace Pure
open Esp Ev Go
set_option linter.unusedSimpArgs false
set_option linter.unusedVariables false
set_option linter.unusedSimpArgs false
set_option linter.unusedVariables false
end Pure


/- The same graph, the same difference; the closed fact. No program. -/
namespace Pure
open Esp Ev Go
set_option linter.unusedSimpArgs false
set_option linter.unusedVariables false
set_option linter.unusedSimpArgs false
set_option linter.unusedVariables false

theorem eqN_list (l m : List Ev.Node) (n : Nat) (h : ∀ x ∈ l, NL' x ∧ nSz x ≤ n) (hl : l.length ≤ 9223372036854775807) (hn : l.length < n) :
    q2z n (l, m, ()) = some (eqL eqN l m, ()) := by
  unfold q2z
  dsimp only
  cases hlen : ((l.length : Int) != (m.length : Int)) with
  | true =>
    rw [cond_true, eqL_len (by intro e; rw [e] at hlen; simp at hlen)]
  | false =>
    have hl2 : l.length = m.length := by
      have : (l.length : Int) = (m.length : Int) := by simpa using hlen
      omega
    rw [cond_false, R_q2z_s0 n _ _ l n _ hl hn]
    refine (eqK (F := F_q2z_s0 n _) (eq := eqN) (m := m) (kr := fun x => some (x.1, ())) l [] m (fun x hx i rec => ?_) rfl hl2).trans ?_
    · unfold F_q2z_s0
      dsimp only
      refine congrArg _ (funext fun y => ?_)
      rw [Node.eta, Node.eta, rsameN_ok x y n (h x hx).1.v (h x hx).1.l (h x hx).1.p (h x hx).2, Option.bind_some]
    · cases eqL eqN l m with
      | true => rfl
      | false => rfl
theorem eqE_list (l m : List Edg) (n : Nat) (h : ∀ x ∈ l, EL' x ∧ eSz x ≤ n) (hl : l.length ≤ 9223372036854775807) (hn : l.length < n) :
    q1z n (l, m, ()) = some (eqL eqE l m, ()) := by
  unfold q1z
  dsimp only
  cases hlen : ((l.length : Int) != (m.length : Int)) with
  | true =>
    rw [cond_true, eqL_len (by intro e; rw [e] at hlen; simp at hlen)]
  | false =>
    have hl2 : l.length = m.length := by
      have : (l.length : Int) = (m.length : Int) := by simpa using hlen
      omega
    rw [cond_false, R_q1z_s0 n _ _ l n _ hl hn]
    refine (eqK (F := F_q1z_s0 n _) (eq := eqE) (m := m) (kr := fun x => some (x.1, ())) l [] m (fun x hx i rec => ?_) rfl hl2).trans ?_
    · unfold F_q1z_s0
      dsimp only
      refine congrArg _ (funext fun y => ?_)
      rw [Edg.eta3, Edg.eta3, rsameE_ok x y n (h x hx).1.v (h x hx).1.p (h x hx).2, Option.bind_some]
    · cases eqL eqE l m with
      | true => rfl
      | false => rfl
theorem eqN_refl (l : List Ev.Node) : eqL eqN l l = true := (eqL_iff fun x _ y _ => eqN_iff x y).2 rfl
theorem eqE_refl (l : List Edg) : eqL eqE l l = true := (eqL_iff fun x _ y _ => eqE_iff x y).2 rfl
theorem sameG_refl (g : Graph) (n : Nat) (hw : gOk g) (hc : chkG g = 0) (hn : gSz g + 100 ≤ n) : q25z n (g, g, ()) = some (true, ()) := by
  have h1 := (graphS_of hc).nl
  have h2 := (graphS_of hc).el
  unfold gSz at hn
  unfold q25z
  dsimp only
  rw [beq_self_eq_true, cond_true, eqN_list g.nodes g.nodes n (fun x hx => ⟨(gN hw hc x hx).1, by have := sum_mem nSz hx; omega⟩) (by omega) (by omega), eqN_refl, Option.bind_some]
  dsimp only
  rw [cond_true, eqE_list g.edges g.edges n (fun x hx => ⟨(gE hw hc x hx).1, by have := sum_mem eSz hx; omega⟩) (by omega) (by omega), eqE_refl, Option.bind_some]
end Pure


/- The program does what the law wants of it: a closed fact. -/
namespace Pure
open Esp Ev Go
set_option linter.unusedSimpArgs false
set_option linter.unusedVariables false
set_option linter.unusedSimpArgs false
set_option linter.unusedVariables false
theorem copyOwn_ok (g : Graph) (n : Nat) (hn : 80 ≤ n) (h : graphS g) : q54z n (g, ()) = some ((g.next, ()), g.nodes, g.edges, ()) := by
  have h1 := h.nl
  have h2 := h.el
  unfold q54z
  dsimp only
  rw [R_q54z_s0 n _ _ g.nodes n _ _ _ _ (by omega) (by omega)]
  refine (push_fold (F := F_q54z_s0 n _) (fun a => ((Ev.Graph.mk g.nodes g.edges g.next, ()), (Ev.Graph.mk [] [] 0, ()), (g.next, ()), a, ())) nodeS (fun i x acc rec hx ha => ?_) g.nodes 0 [] h.nd (by simp; omega)).trans ?_
  · unfold F_q54z_s0
    dsimp only
    rw [Node.eta, copyN_ok x n (by omega) hx, Option.bind_some]
    dsimp only
    rw [Node.eta, ck_ok (room_ok (by simp; omega) (by omega))]
  dsimp only
  rw [R_q54z_s2 n _ _ g.edges n _ _ _ _ (by omega) (by omega)]
  refine (push_fold (F := F_q54z_s2 n _) (fun a => ((Ev.Graph.mk [] [] 0, ()), (g.next, ()), [] ++ g.nodes, a, ())) (fun x : Edg => prpE x.props = 0) (fun i x acc rec hx ha => ?_) g.edges 0 [] h.ed (by simp; omega)).trans ?_
  · unfold F_q54z_s2
    dsimp only
    rw [Edg.eta3, copyE_ok x n (by omega) hx, Option.bind_some]
    dsimp only
    rw [Edg.eta3, ck_ok (room_ok (by simp; omega) (by omega))]
  rfl
def knowsG : Graph := Ev.Graph.mk [Ev.Node.mk 1 [⟨#[65]⟩] [Ev.Prp.mk ⟨#[110]⟩ (Ev.Val.mk 2 5 ⟨#[]⟩ [])], Ev.Node.mk 2 [] []] [Ev.Edg.mk 3 1 2 ⟨#[75]⟩ []] 4
theorem knows_chk : chkG knowsG = 0 := by kernel_rfl
theorem changed_at (m : Nat) : q36z (m + 100) () = some (true, ()) := by
  unfold q36z
  show Option.bind (txn_Apply (m + 100) (knowsG, _, ())) _ = _
  unfold txn_Apply
  dsimp only
  rw [show Graph.mk knowsG.nodes knowsG.edges knowsG.next = knowsG from rfl, gcheck_ok knowsG (m + 100) (by omega), knows_chk, Option.bind_some]
  dsimp only
  rw [show ((0 : Int) != 0) = false from rfl, cond_false]
  rw [copyOwn_ok knowsG (m + 100) (by omega) (graphS_of knows_chk), Option.bind_some]
  kernel_rfl
theorem changed_ok (n : Nat) (hn : 100 ≤ n) : q36z n () = some (true, ()) := by
  obtain ⟨m, rfl⟩ : ∃ m, n = m + 100 := ⟨n - 100, by omega⟩
  exact changed_at m
end Pure


/- The laws of what differs. No program. -/
namespace Pure
open Esp Ev Go
set_option linter.unusedSimpArgs false
set_option linter.unusedVariables false
set_option linter.unusedSimpArgs false
set_option linter.unusedVariables false

end Pure

/- The law TxnTurn's loops: what goes out, what comes in. No program. -/
namespace Pure
open Esp Ev Go
set_option linter.unusedSimpArgs false
set_option linter.unusedVariables false
set_option linter.unusedSimpArgs false
set_option linter.unusedVariables false

noncomputable def failT (n : Nat) (kr : Bool × Unit → Option (Bool × Unit)) (e : Int) (out : Graph) : Option (Bool × Unit) :=
  bif (e : Int) == 6 then (q37z n ((Ev.Graph.mk out.nodes out.edges out.next), ())).bind fun (y, _) => kr (y, ()) else kr (false, ())
theorem rise_up {α : Type} {id : α → Int} {l : List α} (h : Rise id l) : Up id l := h
theorem rise_nodup {α : Type} {id : α → Int} {l : List α} (h : Rise id l) : l.Nodup := by
  refine List.Pairwise.imp ?_ h
  intro a b h e
  subst e
  omega
theorem insF_perm {α : Type} {id : α → Int} {x : α} : ∀ {l l' : List α}, insF id x l = some l' → l'.Perm (x :: l)
  | [], l', h => by
    rw [insF] at h
    cases h
    exact .refl _
  | y :: r, l', h => by
    rw [insF] at h
    split at h
    · obtain ⟨q, h1, rfl⟩ := Option.map_eq_some_iff.1 h
      exact ((insF_perm h1).cons y).trans (.swap x y r)
    · split at h
      · cases h
      · cases h
        exact .refl _

theorem insF_none {α : Type} {id : α → Int} {x : α} {l : List α} (hr : Rise id l) (h : ¬ ∀ y ∈ l, id y ≠ id x) : insF id x l = none := by
  cases hi : insF id x l with
  | none => rfl
  | some l' =>
    exfalso
    obtain ⟨h1, h2, _⟩ := insF_rise hr hi
    apply h
    intro y hy e
    have hp := insF_perm hi
    have hy' : y ∈ l' := (h2 y).2 (.inl hy)
    have hx' : x ∈ l' := (h2 x).2 (.inr rfl)
    have e2 := Up.inj (rise_up h1) hy' hx' e
    subst e2
    have hn : (y :: l).Nodup := hp.nodup_iff.1 (rise_nodup h1)
    exact (List.nodup_cons.1 hn).1 hy

theorem nodeAt_ok2 (g : Graph) (t : Int) (n : Nat) (hl : g.nodes.length ≤ 1000) (hn : 1010 ≤ n) : q42z n (g, t, ()) = some (nodeIn g.nodes t, ()) := by
  unfold q42z
  exact (range_list g.nodes (fun i (s : Unit) => (t, (g.nodes.length : Int), i, (g, ()), ())) _ (fun (i : Int) (x : Ev.Node) (s : Unit) (rec : Unit → Option (Option Ev.Node × Unit)) => bif (x.id : Int) == t then (ix g.nodes i).bind fun z => some (some (Ev.Node.mk z.id z.labels z.props), ()) else rec s) (fun _ => some (none, ()))
    (fun rec i s => rfl) (by omega) n () (by omega)).trans (nodeAt_fold g t g.nodes [] rfl)
theorem law1N_ok (x y : Ev.Node) (n : Nat) (h : NL' x) (hn : nSz x ≤ n) : q23z n (y, (x, ()), ()) = some (eqN x y, (x, ()), ()) := by
  unfold q23z
  dsimp only
  rw [Node.eta, Node.eta, rsameN_ok x y n h.v h.l h.p hn, Option.bind_some]
theorem lidxN_loop {ρ : Type} (n : Nat) (x : Ev.Node) (h : NL' x) (hn : nSz x ≤ n) (kx : (Ev.Node × Unit) × (List Ev.Node) × Unit → Option ρ) (kr : Int × (Ev.Node × Unit) × (List Ev.Node) × Unit → Option ρ) :
    ∀ (r p : List Ev.Node) (fuel : Nat), (p ++ r).length ≤ 1000 → r.length < fuel →
      iterN (fun rc => q9z_s0 n rc kx kr) fuel (((p ++ r).length : Int), (p.length : Int), (x, ()), p ++ r, ()) =
        match r.findIdx? (eqN x) with
        | some j => kr (((p.length + j : Nat) : Int), (x, ()), p ++ r, ())
        | none => kx ((x, ()), p ++ r, ())
  | _, _, 0, _, hf => by omega
  | [], p, m + 1, hl, _ => by
    rw [iterN]
    unfold q9z_s0
    dsimp only
    rw [decide_eq_false (by simp), cond_false]
    rfl
  | y :: r, p, m + 1, hl, hf => by
    rw [iterN]
    have ih := lidxN_loop n x h hn kx kr r (p ++ [y]) m (by simpa using hl) (by simp at hf; omega)
    rw [List.append_assoc, List.singleton_append] at ih
    generalize iterN (fun rc => q9z_s0 n rc kx kr) m = R at ih ⊢
    unfold q9z_s0
    dsimp only
    rw [decide_eq_true (by simp; omega), cond_true, ixg, ix_ok (x := y) (by simp), Option.bind_some, Node.eta, Node.eta, law1N_ok x y n h hn, Option.bind_some]
    dsimp only
    rw [List.findIdx?_cons]
    cases hy : eqN x y with
    | true => simp only [cond_true, if_true]; rfl
    | false =>
      rw [cond_false, if_neg (by simp), wrap64 (by omega) (by simp at hl; omega), Node.eta, show ((p.length : Int) + 1) = ((p ++ [y]).length : Int) by simp, ih]
      cases r.findIdx? (eqN x) with
      | none => rfl
      | some j =>
        dsimp only [Option.map_some]
        congr 3
        simp
        omega
theorem lidxN_ok (l : List Ev.Node) (x : Ev.Node) (n : Nat) (h : NL' x) (hl : l.length ≤ 1000) (hn : nSz x + l.length + 1 ≤ n) :
    q9z n (l, (x, ()), ()) = some ((match l.findIdx? (eqN x) with | some j => (j : Int) | none => -1), l, (x, ()), ()) := by
  unfold q9z
  dsimp only
  have key := lidxN_loop (ρ := Int × List Ev.Node × (Ev.Node × Unit) × Unit) n x h (by omega) (fun (o10, o11, _) => some ((-1), o11, ((Ev.Node.mk o10.1.id o10.1.labels o10.1.props), ()), ())) (fun (v12, o13, o14, _) => some (v12, o14, ((Ev.Node.mk o13.1.id o13.1.labels o13.1.props), ()), ())) l [] n (by simpa using hl) (by omega)
  simp only [List.nil_append] at key
  refine key.trans ?_
  cases l.findIdx? (eqN x) with
  | none => rfl
  | some j => simp
theorem lgoneN (n : Nat) (kr : Bool × Unit → Option (Bool × Unit)) (k : (Int × (Ev.Delta × Unit) × (Ev.Graph × Unit) × (Int × Unit) × (List Ev.Node) × (List Ev.Edg) × Unit) → Option (Bool × Unit)) (e : Int) (d : Delta) (out : Graph) (dst : Int) (es : List Ev.Edg) :
    ∀ (g : List Ev.Node) (i : Int) (l : List Ev.Node), (∀ x ∈ g, NL' x ∧ nSz x + 1001 ≤ n) → l.length ≤ 1000 →
      foldK (F_q35z_s1 n kr) k i g (e, (d, ()), (out, ()), (dst, ()), l, es, ()) = match delsF eqN g l with
        | some l' => k (e, (d, ()), (out, ()), (dst, ()), l', es, ())
        | none => failT n kr e out
  | [], i, l, _, _ => rfl
  | x :: g, i, l, h, hl => by
    obtain ⟨h1, h2⟩ := h x (by simp)
    rw [foldK]
    have ih := fun l' hl' => lgoneN n kr k e d out dst es g (i + 1) l' (fun y hy => h y (by simp [hy])) hl'
    generalize foldK (F_q35z_s1 n kr) k (i + 1) g = R at ih ⊢
    unfold F_q35z_s1
    dsimp only
    rw [Node.eta, lidxN_ok l x n h1 hl (by omega), Option.bind_some, delsF]
    dsimp only
    have hd := delF_idx (same := eqN) (x := x) l
    cases hf : l.findIdx? (eqN x) with
    | none =>
      rw [hf] at hd
      rw [hd]
      rfl
    | some j =>
      rw [hf, Option.map_some] at hd
      have hj : j < l.length := (List.findIdx?_eq_some_iff_findIdx_eq.1 hf).1
      dsimp only
      rw [decide_eq_false (by omega), cond_false, wrap64 (by omega) (by omega), delN_ok hj, Option.bind_some, hd, Option.bind_some]
      dsimp only
      exact ih _ (by simp; omega)
theorem nodeIn_none (c : List Ev.Node) (t : Int) : nodeIn c t = none ↔ ∀ y ∈ c, y.id ≠ t := by
  unfold nodeIn
  rw [List.find?_eq_none]
  simp
theorem lfreshN (n : Nat) (hn : 1100 ≤ n) (kr : Bool × Unit → Option (Bool × Unit)) (k : (Int × (Ev.Delta × Unit) × (Ev.Graph × Unit) × (Int × Unit) × (List Ev.Node) × (List Ev.Edg) × Unit) → Option (Bool × Unit)) (e : Int) (d : Delta) (out : Graph) (dst : Int) (es : List Ev.Edg) :
    ∀ (g : List Ev.Node) (i : Int) (c m : List Ev.Node), Rise (Ev.Node.id) m → m.Perm c → c.length + g.length ≤ 900 →
      (∃ m', inssF Ev.Node.id g m = some m' ∧ Rise (Ev.Node.id) m' ∧ m'.Perm (c ++ g) ∧ foldK (F_q35z_s3 n kr) k i g (e, (d, ()), (out, ()), (dst, ()), c, es, ()) = k (e, (d, ()), (out, ()), (dst, ()), (c ++ g), es, ())) ∨
      (inssF Ev.Node.id g m = none ∧ foldK (F_q35z_s3 n kr) k i g (e, (d, ()), (out, ()), (dst, ()), c, es, ()) = failT n kr e out)
  | [], i, c, m, hr, hp, _ => .inl ⟨m, rfl, hr, by rw [List.append_nil]; exact hp, by rw [List.append_nil]; rfl⟩
  | x :: g, i, c, m, hr, hp, hl => by
    rw [List.length_cons] at hl
    have ih := fun m' hr' hp' => lfreshN n hn kr k e d out dst es g (i + 1) (c ++ [x]) m' hr' hp' (by simp; omega)
    have e0 : foldK (F_q35z_s3 n kr) k i (x :: g) (e, (d, ()), (out, ()), (dst, ()), c, es, ()) = match nodeIn c x.id with
        | none => foldK (F_q35z_s3 n kr) k (i + 1) g (e, (d, ()), (out, ()), (dst, ()), (c ++ [x]), es, ())
        | some _ => failT n kr e out := by
      rw [foldK]
      generalize foldK (F_q35z_s3 n kr) k (i + 1) g = R
      unfold F_q35z_s3
      dsimp only
      rw [nodeAt_ok2 (Ev.Graph.mk c es dst) x.id n (by show c.length ≤ 1000; omega) (by omega), Option.bind_some]
      dsimp only
      cases nodeIn c x.id with
      | none =>
        unfold optC
        dsimp only
        rw [ck_ok (room_ok (by simp; omega) (by omega))]
      | some z => rfl
    rw [e0]
    rw [inssF]
    by_cases hx : ∀ y ∈ m, y.id ≠ x.id
    · obtain ⟨m', h1, h2, h3⟩ := insF_ok (id := Ev.Node.id) (x := x) (rise_up hr) hx
      have hr' := (insF_rise hr h1).1
      have hp' : m'.Perm (c ++ [x]) := (insF_perm h1).trans (((hp.cons x).trans (by simpa using (List.perm_append_comm (l₁ := [x]) (l₂ := c)))))
      have hnone : nodeIn c x.id = none := (nodeIn_none c x.id).2 fun y hy => hx y (hp.mem_iff.2 hy)
      rw [hnone, h1, Option.bind_some]
      dsimp only
      rcases ih m' hr' hp' with ⟨m2, a1, a2, a3, a4⟩ | ⟨a1, a2⟩
      · exact .inl ⟨m2, a1, a2, by simpa using a3, by rw [a4]; simp⟩
      · exact .inr ⟨a1, a2⟩
    · have hins : insF Ev.Node.id x m = none := insF_none hr hx
      have hsome : ∃ z, nodeIn c x.id = some z := by
        cases hq : nodeIn c x.id with
        | some z => exact ⟨z, rfl⟩
        | none => exact absurd (fun y hy => (nodeIn_none c x.id).1 hq y (hp.mem_iff.1 hy)) hx
      obtain ⟨z, hz⟩ := hsome
      rw [hz, hins]
      exact .inr ⟨rfl, rfl⟩

theorem edgeAt_ok2 (g : Graph) (t : Int) (n : Nat) (hl : g.edges.length ≤ 1000) (hn : 1010 ≤ n) : q40z n (g, t, ()) = some (edgeIn g.edges t, ()) := by
  unfold q40z
  exact (range_list g.edges (fun i (s : Unit) => (t, (g.edges.length : Int), i, (g, ()), ())) _ (fun (i : Int) (x : Ev.Edg) (s : Unit) (rec : Unit → Option (Option Ev.Edg × Unit)) => bif (x.id : Int) == t then (ix g.edges i).bind fun z => some (some (Edg.mk z.id z.src z.dst z.type z.props), ()) else rec s) (fun _ => some (none, ()))
    (fun rec i s => rfl) (by omega) n () (by omega)).trans (edgeAt_fold g t g.edges [] rfl)
theorem law1E_ok (x y : Ev.Edg) (n : Nat) (h : EL' x) (hn : eSz x ≤ n) : q24z n (y, (x, ()), ()) = some (eqE x y, (x, ()), ()) := by
  unfold q24z
  dsimp only
  rw [Edg.eta3, Edg.eta3, rsameE_ok x y n h.v h.p hn, Option.bind_some]
theorem lidxE_loop {ρ : Type} (n : Nat) (x : Ev.Edg) (h : EL' x) (hn : eSz x ≤ n) (kx : (Ev.Edg × Unit) × (List Ev.Edg) × Unit → Option ρ) (kr : Int × (Ev.Edg × Unit) × (List Ev.Edg) × Unit → Option ρ) :
    ∀ (r p : List Ev.Edg) (fuel : Nat), (p ++ r).length ≤ 1000 → r.length < fuel →
      iterN (fun rc => q7z_s0 n rc kx kr) fuel (((p ++ r).length : Int), (p.length : Int), (x, ()), p ++ r, ()) =
        match r.findIdx? (eqE x) with
        | some j => kr (((p.length + j : Nat) : Int), (x, ()), p ++ r, ())
        | none => kx ((x, ()), p ++ r, ())
  | _, _, 0, _, hf => by omega
  | [], p, m + 1, hl, _ => by
    rw [iterN]
    unfold q7z_s0
    dsimp only
    rw [decide_eq_false (by simp), cond_false]
    rfl
  | y :: r, p, m + 1, hl, hf => by
    rw [iterN]
    have ih := lidxE_loop n x h hn kx kr r (p ++ [y]) m (by simpa using hl) (by simp at hf; omega)
    rw [List.append_assoc, List.singleton_append] at ih
    generalize iterN (fun rc => q7z_s0 n rc kx kr) m = R at ih ⊢
    unfold q7z_s0
    dsimp only
    rw [decide_eq_true (by simp; omega), cond_true, ixg, ix_ok (x := y) (by simp), Option.bind_some, Edg.eta3, Edg.eta3, law1E_ok x y n h hn, Option.bind_some]
    dsimp only
    rw [List.findIdx?_cons]
    cases hy : eqE x y with
    | true => simp only [cond_true, if_true]; rfl
    | false =>
      rw [cond_false, if_neg (by simp), wrap64 (by omega) (by simp at hl; omega), Edg.eta3, show ((p.length : Int) + 1) = ((p ++ [y]).length : Int) by simp, ih]
      cases r.findIdx? (eqE x) with
      | none => rfl
      | some j =>
        dsimp only [Option.map_some]
        congr 3
        simp
        omega
theorem lidxE_ok (l : List Ev.Edg) (x : Ev.Edg) (n : Nat) (h : EL' x) (hl : l.length ≤ 1000) (hn : eSz x + l.length + 1 ≤ n) :
    q7z n (l, (x, ()), ()) = some ((match l.findIdx? (eqE x) with | some j => (j : Int) | none => -1), l, (x, ()), ()) := by
  unfold q7z
  dsimp only
  have key := lidxE_loop (ρ := Int × List Ev.Edg × (Ev.Edg × Unit) × Unit) n x h (by omega) (fun (o10, o11, _) => some ((-1), o11, ((Ev.Edg.mk o10.1.id o10.1.src o10.1.dst o10.1.type o10.1.props), ()), ())) (fun (v12, o13, o14, _) => some (v12, o14, ((Ev.Edg.mk o13.1.id o13.1.src o13.1.dst o13.1.type o13.1.props), ()), ())) l [] n (by simpa using hl) (by omega)
  simp only [List.nil_append] at key
  refine key.trans ?_
  cases l.findIdx? (eqE x) with
  | none => rfl
  | some j => simp
theorem lgoneE (n : Nat) (kr : Bool × Unit → Option (Bool × Unit)) (k : (Int × (Ev.Delta × Unit) × (Ev.Graph × Unit) × (Int × Unit) × (List Ev.Node) × (List Ev.Edg) × Unit) → Option (Bool × Unit)) (e : Int) (d : Delta) (out : Graph) (dst : Int) (ns : List Ev.Node) :
    ∀ (g : List Ev.Edg) (i : Int) (l : List Ev.Edg), (∀ x ∈ g, EL' x ∧ eSz x + 1001 ≤ n) → l.length ≤ 1000 →
      foldK (F_q35z_s5 n kr) k i g (e, (d, ()), (out, ()), (dst, ()), ns, l, ()) = match delsF eqE g l with
        | some l' => k (e, (d, ()), (out, ()), (dst, ()), ns, l', ())
        | none => failT n kr e out
  | [], i, l, _, _ => rfl
  | x :: g, i, l, h, hl => by
    obtain ⟨h1, h2⟩ := h x (by simp)
    rw [foldK]
    have ih := fun l' hl' => lgoneE n kr k e d out dst ns g (i + 1) l' (fun y hy => h y (by simp [hy])) hl'
    generalize foldK (F_q35z_s5 n kr) k (i + 1) g = R at ih ⊢
    unfold F_q35z_s5
    dsimp only
    rw [Edg.eta3, lidxE_ok l x n h1 hl (by omega), Option.bind_some, delsF]
    dsimp only
    have hd := delF_idx (same := eqE) (x := x) l
    cases hf : l.findIdx? (eqE x) with
    | none =>
      rw [hf] at hd
      rw [hd]
      rfl
    | some j =>
      rw [hf, Option.map_some] at hd
      have hj : j < l.length := (List.findIdx?_eq_some_iff_findIdx_eq.1 hf).1
      dsimp only
      rw [decide_eq_false (by omega), cond_false, wrap64 (by omega) (by omega), delN_ok hj, Option.bind_some, hd, Option.bind_some]
      dsimp only
      exact ih _ (by simp; omega)
theorem edgeIn_none (c : List Ev.Edg) (t : Int) : edgeIn c t = none ↔ ∀ y ∈ c, y.id ≠ t := by
  unfold edgeIn
  rw [List.find?_eq_none]
  simp
theorem lfreshE (n : Nat) (hn : 1100 ≤ n) (kr : Bool × Unit → Option (Bool × Unit)) (k : (Int × (Ev.Graph × Unit) × (Int × Unit) × (List Ev.Node) × (List Ev.Edg) × Unit) → Option (Bool × Unit)) (e : Int) (out : Graph) (dst : Int) (ns : List Ev.Node) :
    ∀ (g : List Ev.Edg) (i : Int) (c m : List Ev.Edg), Rise (Ev.Edg.id) m → m.Perm c → c.length + g.length ≤ 900 →
      (∃ m', inssF Ev.Edg.id g m = some m' ∧ Rise (Ev.Edg.id) m' ∧ m'.Perm (c ++ g) ∧ foldK (F_q35z_s7 n kr) k i g (e, (out, ()), (dst, ()), ns, c, ()) = k (e, (out, ()), (dst, ()), ns, (c ++ g), ())) ∨
      (inssF Ev.Edg.id g m = none ∧ foldK (F_q35z_s7 n kr) k i g (e, (out, ()), (dst, ()), ns, c, ()) = failT n kr e out)
  | [], i, c, m, hr, hp, _ => .inl ⟨m, rfl, hr, by rw [List.append_nil]; exact hp, by rw [List.append_nil]; rfl⟩
  | x :: g, i, c, m, hr, hp, hl => by
    rw [List.length_cons] at hl
    have ih := fun m' hr' hp' => lfreshE n hn kr k e out dst ns g (i + 1) (c ++ [x]) m' hr' hp' (by simp; omega)
    have e0 : foldK (F_q35z_s7 n kr) k i (x :: g) (e, (out, ()), (dst, ()), ns, c, ()) = match edgeIn c x.id with
        | none => foldK (F_q35z_s7 n kr) k (i + 1) g (e, (out, ()), (dst, ()), ns, (c ++ [x]), ())
        | some _ => failT n kr e out := by
      rw [foldK]
      generalize foldK (F_q35z_s7 n kr) k (i + 1) g = R
      unfold F_q35z_s7
      dsimp only
      rw [edgeAt_ok2 (Ev.Graph.mk ns c dst) x.id n (by show c.length ≤ 1000; omega) (by omega), Option.bind_some]
      dsimp only
      cases edgeIn c x.id with
      | none =>
        unfold optC
        dsimp only
        rw [ck_ok (room_ok (by simp; omega) (by omega))]
      | some z => rfl
    rw [e0]
    rw [inssF]
    by_cases hx : ∀ y ∈ m, y.id ≠ x.id
    · obtain ⟨m', h1, h2, h3⟩ := insF_ok (id := Ev.Edg.id) (x := x) (rise_up hr) hx
      have hr' := (insF_rise hr h1).1
      have hp' : m'.Perm (c ++ [x]) := (insF_perm h1).trans (((hp.cons x).trans (by simpa using (List.perm_append_comm (l₁ := [x]) (l₂ := c)))))
      have hnone : edgeIn c x.id = none := (edgeIn_none c x.id).2 fun y hy => hx y (hp.mem_iff.2 hy)
      rw [hnone, h1, Option.bind_some]
      dsimp only
      rcases ih m' hr' hp' with ⟨m2, a1, a2, a3, a4⟩ | ⟨a1, a2⟩
      · exact .inl ⟨m2, a1, a2, by simpa using a3, by rw [a4]; simp⟩
      · exact .inr ⟨a1, a2⟩
    · have hins : insF Ev.Edg.id x m = none := insF_none hr hx
      have hsome : ∃ z, edgeIn c x.id = some z := by
        cases hq : edgeIn c x.id with
        | some z => exact ⟨z, rfl⟩
        | none => exact absurd (fun y hy => (edgeIn_none c x.id).1 hq y (hp.mem_iff.1 hy)) hx
      obtain ⟨z, hz⟩ := hsome
      rw [hz, hins]
      exact .inr ⟨rfl, rfl⟩
end Pure

/- Any difference makes of any graph what the document says. No program. -/
namespace Pure
open Esp Ev Go
set_option linter.unusedSimpArgs false
set_option linter.unusedVariables false
set_option linter.unusedSimpArgs false
set_option linter.unusedVariables false

def dSz (d : Delta) : Nat := (d.gone.map nSz).sum + (d.fresh.map nSz).sum + (d.goneE.map eSz).sum + (d.freshE.map eSz).sum + d.gone.length + d.goneE.length
def noG : Graph := .mk [] [] 0
theorem noGraph_ok (n : Nat) (hn : 100 ≤ n) : q37z n (noG, ()) = some (true, ()) := by
  unfold q37z q25z noG
  dsimp only
  rw [show ((0 : Int) == 0) = true from rfl, cond_true, eqN_list [] [] n (fun x hx => by cases hx) (by simp) (by simp; omega), Option.bind_some]
  dsimp only
  rw [show eqL eqN ([] : List Ev.Node) [] = true from rfl, cond_true, eqE_list [] [] n (fun x hx => by cases hx) (by simp) (by simp; omega), Option.bind_some]
  rfl
theorem cloneN_own (l : List Ev.Node) (h : l.length ≤ 1000) : q15z (l, ()) = some (l, ()) := by
  unfold q15z nilq
  dsimp only
  rw [List.nil_append, ck_ok (room_ok (by omega) (by omega))]
  cases l with
  | nil => exact dem2_same _
  | cons a r => rfl
theorem cloneE_own (l : List Edg) (h : l.length ≤ 1000) : q14z (l, ()) = some (l, ()) := by
  unfold q14z nilq
  dsimp only
  rw [List.nil_append, ck_ok (room_ok (by omega) (by omega))]
  cases l with
  | nil => exact dem2_same _
  | cons a r => rfl
theorem nL_of {x : Ev.Node} (h : nOk x) : NL' x := ⟨fun p hp => (h.2.2.2 p hp).2, by have := h.2.1.1; unfold maxLen at this; omega, by have := h.2.2.1; unfold maxLen at this; omega⟩
theorem eL_of {x : Edg} (h : eOk x) : EL' x := ⟨fun p hp => (h.2.2.2.2.2 p hp).2, by have := h.2.2.2.2.1; unfold maxLen at this; omega⟩
theorem sum_perm {α : Type} (f : α → Nat) {l m : List α} (h : l.Perm m) : (l.map f).sum = (m.map f).sum := (h.map f).sum_nat
theorem sum_sub {α : Type} (f : α → Nat) {l m : List α} (h : l.Sublist m) : (l.map f).sum ≤ (m.map f).sum := by
  induction h with
  | slnil => exact Nat.le_refl _
  | cons a h ih => simp only [List.map_cons, List.sum_cons]; omega
  | cons_cons a h ih => simp only [List.map_cons, List.sum_cons]; omega
theorem sfN_ok {α : Type} {κ : α → Int} {l m : List α} (hr : Rise κ m) (hp : m.Perm l) (hl : l.length ≤ 1000) : sfN κ (l, ()) = some (m, ()) := by
  have hn : (l.map κ).Nodup := by
    rw [← (hp.map κ).nodup_iff, List.nodup_iff_pairwise_ne, List.pairwise_map]
    exact List.Pairwise.imp (fun h => by omega) hr
  unfold sfN
  dsimp only
  rw [decide_eq_true hn, Nat.ble_eq_true_of_le (by omega), Bool.true_and, cond_true]
  have he : riseB κ l = m := rise_unique κ ((List.mergeSort_perm l _).trans hp.symm) (riseB_pair κ hn) hr
  rw [he]
noncomputable def tailT (n : Nat) (g : Graph) (d : Delta) (out : Graph) (e : Int) : Option (Bool × Unit) :=
  (q15z (g.nodes, ())).bind fun (o191, _) =>
  (q14z (g.edges, ())).bind fun (o192, _) =>
  iterN (fun rc228 => q35z_s1 n rc228 (fun (v193, o194, o195, o196, o197, o198, _) =>
  iterN (fun rc227 => q35z_s3 n rc227 (fun (v200, o201, o202, o203, o204, o205, _) =>
  iterN (fun rc226 => q35z_s5 n rc226 (fun (v207, o208, o209, o210, o211, o212, _) =>
  iterN (fun rc225 => q35z_s7 n rc225 (fun (v214, o215, o216, o217, o218, _) =>
  (sfNode (o217, ())).bind fun (o220, _) =>
  (sfEdge (o218, ())).bind fun (o221, _) =>
  (q20z n ((Ev.Graph.mk o220 o221 o216.1), ())).bind fun (y222, _) =>
  (bif (y222 : Int) != 0 then
  (bif (v214 : Int) == y222 then
  (q37z n ((Ev.Graph.mk o215.1.nodes o215.1.edges o215.1.next), ())).bind fun (y223, _) => some (y223, ())
  else some (false, ()))
  else
  (bif (v214 : Int) == 0 then
  (q25z n ((Ev.Graph.mk o215.1.nodes o215.1.edges o215.1.next), (Ev.Graph.mk o220 o221 o216.1), ())).bind fun (y224, _) => some (y224, ())
  else some (false, ())))) (fun (v219, _) => some (v219, ()))) (n) (v207, o208.1.freshE, (o208.1.freshE.length : Int), 0, ((Ev.Graph.mk o209.1.nodes o209.1.edges o209.1.next), ()), (o210.1, ()), o211, o212, ())) (fun (v213, _) => some (v213, ()))) (n) (v200, o201.1.goneE, (o201.1.goneE.length : Int), 0, ((Ev.Delta.mk o201.1.gone o201.1.fresh o201.1.goneE o201.1.freshE o201.1.src o201.1.dst), ()), ((Ev.Graph.mk o202.1.nodes o202.1.edges o202.1.next), ()), (o203.1, ()), o204, o205, ())) (fun (v206, _) => some (v206, ()))) (n) (v193, o194.1.fresh, (o194.1.fresh.length : Int), 0, ((Ev.Delta.mk o194.1.gone o194.1.fresh o194.1.goneE o194.1.freshE o194.1.src o194.1.dst), ()), ((Ev.Graph.mk o195.1.nodes o195.1.edges o195.1.next), ()), (o196.1, ()), o197, o198, ())) (fun (v199, _) => some (v199, ()))) (n) (e, d.gone, (d.gone.length : Int), 0, ((Ev.Delta.mk d.gone d.fresh d.goneE d.freshE d.src d.dst), ()), ((Ev.Graph.mk out.nodes out.edges out.next), ()), (d.dst, ()), o191, o192, ())
theorem fail_ok (n : Nat) (hn : 100 ≤ n) : failT n (fun (v, _) => some (v, ())) 6 noG = some (true, ()) := by
  unfold failT
  rw [show ((6 : Int) == 6) = true from rfl, cond_true, show Ev.Graph.mk noG.nodes noG.edges noG.next = noG from rfl, noGraph_ok n hn]
  rfl
theorem tail_ok (g : Graph) (d : Delta) (hw : gOk g) (hd : dlOk d) (hc : chkG g = 0) (hf : d.fresh.length ≤ 60) (hfE : d.freshE.length ≤ 60) (n : Nat) (hn : gSz g + dSz d + 3000 ≤ n)
    (R : Graph × Int) (hR : R = match turnF Ev.Node.id eqN g.nodes d.gone d.fresh, turnF Edg.id eqE g.edges d.goneE d.freshE with
      | some a, some b => bif chkG (.mk a b d.dst) != 0 then (.mk [] [] 0, chkG (.mk a b d.dst)) else (.mk a b d.dst, 0)
      | _, _ => (.mk [] [] 0, 6)) : tailT n g d R.1 R.2 = some (true, ()) := by
  obtain ⟨k1, k2, k3, k4⟩ := chkG_0 hc
  have r1 := (nodF_rise k3).2.1
  have r2 := (edgF_rise k4).2.1
  have hsz : gSz g = (g.nodes.map nSz).sum + (g.edges.map eSz).sum := rfl
  unfold dSz at hn
  have hgl := hd.1.1
  have hgeL := hd.2.2.1.1
  unfold maxLen at hgl hgeL
  unfold tailT
  rw [cloneN_own _ (by omega), Option.bind_some]
  dsimp only
  rw [cloneE_own _ (by omega), Option.bind_some]
  dsimp only
  refine (R_q35z_s1 n _ _ d.gone n R.2 (d, ()) (R.1, ()) (d.dst, ()) g.nodes g.edges (by omega) (by omega)).trans ?_
  refine (lgoneN n _ _ R.2 d R.1 d.dst g.edges d.gone 0 g.nodes (fun x hx => ⟨nL_of (hd.1.2 x hx), by have := sum_mem nSz hx; omega⟩) (by omega)).trans ?_
  cases hg1 : delsF eqN d.gone g.nodes with
  | none =>
    have : R = (noG, 6) := by rw [hR, turnF, hg1]; rfl
    rw [this]
    exact fail_ok n (by omega)
  | some l1 =>
  have hs1 := delsF_sub hg1
  have hl1 := hs1.length_le
  have rl1 : Rise Ev.Node.id l1 := List.Pairwise.sublist hs1 r1
  dsimp only
  refine (R_q35z_s3 n _ _ d.fresh n R.2 (d, ()) (R.1, ()) (d.dst, ()) l1 g.edges (by omega) (by omega)).trans ?_
  rcases lfreshN n (by omega) (fun (v199, _) => some (v199, ())) _ R.2 d R.1 d.dst g.edges d.fresh 0 l1 l1 rl1 (.refl _) (by omega) with ⟨a, i1, i2, i3, i4⟩ | ⟨i1, i2⟩
  case inr =>
    refine i2.trans ?_
    have : R = (noG, 6) := by rw [hR, turnF, hg1, Option.bind_some, i1]; rfl
    rw [this]
    exact fail_ok n (by omega)
  refine i4.trans ?_
  dsimp only
  refine (R_q35z_s5 n _ _ d.goneE n R.2 (d, ()) (R.1, ()) (d.dst, ()) (l1 ++ d.fresh) g.edges (by omega) (by omega)).trans ?_
  refine (lgoneE n _ _ R.2 d R.1 d.dst (l1 ++ d.fresh) d.goneE 0 g.edges (fun x hx => ⟨eL_of (hd.2.2.1.2 x hx), by have := sum_mem eSz hx; omega⟩) (by omega)).trans ?_
  have hT1 : turnF Ev.Node.id eqN g.nodes d.gone d.fresh = some a := by rw [turnF, hg1, Option.bind_some, i1]
  cases hg2 : delsF eqE d.goneE g.edges with
  | none =>
    have : R = (noG, 6) := by rw [hR, hT1, turnF, hg2]; rfl
    rw [this]
    exact fail_ok n (by omega)
  | some l2 =>
  have hs2 := delsF_sub hg2
  have hl2 := hs2.length_le
  have rl2 : Rise Edg.id l2 := List.Pairwise.sublist hs2 r2
  dsimp only
  refine (R_q35z_s7 n _ _ d.freshE n R.2 (R.1, ()) (d.dst, ()) (l1 ++ d.fresh) l2 (by omega) (by omega)).trans ?_
  rcases lfreshE n (by omega) (fun (v219, _) => some (v219, ())) _ R.2 R.1 d.dst (l1 ++ d.fresh) d.freshE 0 l2 l2 rl2 (.refl _) (by omega) with ⟨b, j1, j2, j3, j4⟩ | ⟨j1, j2⟩
  case inr =>
    refine j2.trans ?_
    have : R = (noG, 6) := by rw [hR, hT1, turnF, hg2, Option.bind_some, j1]; rfl
    rw [this]
    exact fail_ok n (by omega)
  refine j4.trans ?_
  dsimp only
  have hT2 : turnF Edg.id eqE g.edges d.goneE d.freshE = some b := by rw [turnF, hg2, Option.bind_some, j1]
  rw [hT1, hT2] at hR
  dsimp only at hR
  rw [show sfNode (l1 ++ d.fresh, ()) = some (a, ()) from sfN_ok i2 i3 (by simp; omega), Option.bind_some]
  dsimp only
  rw [show sfEdge (l2 ++ d.freshE, ()) = some (b, ()) from sfN_ok j2 j3 (by simp; omega), Option.bind_some]
  dsimp only
  rw [rgcheck_ok _ n (by omega), Option.bind_some]
  dsimp only
  cases hx : chkG (.mk a b d.dst) != 0 with
  | true =>
    rw [hx, cond_true] at hR
    rw [hR, cond_true]
    dsimp only
    rw [beq_self_eq_true, cond_true, show (Ev.Graph.mk [] [] 0 : Graph) = noG from rfl, noGraph_ok n (by omega)]
    rfl
  | false =>
    rw [hx, cond_false] at hR
    rw [hR, cond_false]
    dsimp only
    have hx0 : chkG (.mk a b d.dst) = 0 := by simpa using hx
    obtain ⟨m1, m2, _, _⟩ := chkG_0 hx0
    have hok : gOk (.mk a b d.dst) := by
      refine ⟨⟨by show a.length ≤ _; unfold maxLen; have : a.length ≤ 40 := m1; omega, fun x hx => ?_⟩, ⟨by show b.length ≤ _; unfold maxLen; have : b.length ≤ 60 := m2; omega, fun x hx => ?_⟩, hd.2.2.2.2.2⟩
      · rcases List.mem_append.1 (i3.mem_iff.1 hx) with h | h
        · exact hw.1.2 x (hs1.subset h)
        · exact hd.2.1.2 x h
      · rcases List.mem_append.1 (j3.mem_iff.1 hx) with h | h
        · exact hw.2.1.2 x (hs2.subset h)
        · exact hd.2.2.2.1.2 x h
    have hsz2 : gSz (.mk a b d.dst) + 100 ≤ n := by
      have q1 := sum_perm nSz i3
      have q2 := sum_perm eSz j3
      have q3 := sum_sub nSz hs1
      have q4 := sum_sub eSz hs2
      rw [List.map_append, List.sum_append] at q1 q2
      show (a.map nSz).sum + (b.map eSz).sum + 100 ≤ n
      omega
    rw [show ((0 : Int) == 0) = true from rfl, cond_true, sameG_refl _ n hok hx0 hsz2]
    rfl
theorem TxnTurn_ok (g : Graph) (d : Delta) (hw : gOk g) (hd : dlOk d) (n : Nat) (hn : gSz g + dSz d + 3000 ≤ n) : q35z n (g, d, ()) = some (true, ()) := by
  have hn2 := hn
  unfold dSz at hn2
  have hgl := hd.1.1
  have hgeL := hd.2.2.1.1
  unfold maxLen at hgl hgeL
  have ht := turn_ok g d n (fun x hx => ⟨nL_of (hd.1.2 x hx), by have := sum_mem nSz hx; omega⟩) (fun x hx => ⟨eL_of (hd.2.2.1.2 x hx), by have := sum_mem eSz hx; omega⟩) (by omega) (by omega) (by omega) (by omega) (by omega)
  have hch := changed_ok n (by omega)
  unfold q35z
  dsimp only
  rw [show Ev.Graph.mk g.nodes g.edges g.next = g from rfl, show Ev.Delta.mk d.gone d.fresh d.goneE d.freshE d.src d.dst = d from rfl, ht, Option.bind_some]
  dsimp only
  rw [rgcheck_ok g n (by omega), Option.bind_some]
  dsimp only
  cases h1 : chkG g != 0 with
  | true =>
    have hR : turnR g d = (noG, chkG g) := by unfold turnR; rw [h1]; rfl
    rw [hR]
    dsimp only
    rw [cond_true, hch, Option.bind_some]
    dsimp only
    rw [Bool.or_true, cond_true, Option.bind_some]
    dsimp only
    rw [beq_self_eq_true, Bool.and_true, cond_true, show Ev.Graph.mk noG.nodes noG.edges noG.next = noG from rfl, noGraph_ok n (by omega)]
    rfl
  | false =>
    have hc : chkG g = 0 := by simpa using h1
    rw [cond_false]
    cases h2 : (d.src : Int) != g.next with
    | true =>
      have hR : turnR g d = (noG, 6) := by unfold turnR; rw [h1, h2]; rfl
      rw [hR]
      dsimp only
      rw [cond_true, hch, Option.bind_some]
      dsimp only
      rw [Bool.or_true, cond_true, Option.bind_some]
      dsimp only
      rw [show ((6 : Int) == 6) = true from rfl, Bool.and_true, cond_true, show Ev.Graph.mk noG.nodes noG.edges noG.next = noG from rfl, noGraph_ok n (by omega)]
      rfl
    | false =>
      rw [cond_false]
      cases h3 : (decide (((d.fresh.length : Int) : Int) > 60)) || (decide (((d.freshE.length : Int) : Int) > 60)) with
      | true =>
        have hR : turnR g d = (noG, 2) := by unfold turnR; rw [h1, h2, h3]; rfl
        rw [hR]
        dsimp only
        rw [cond_true, hch, Option.bind_some]
        dsimp only
        rw [Bool.or_true, cond_true, Option.bind_some]
        dsimp only
        rw [show ((2 : Int) == 2) = true from rfl, Bool.and_true, cond_true, show Ev.Graph.mk noG.nodes noG.edges noG.next = noG from rfl, noGraph_ok n (by omega)]
        rfl
      | false =>
        rw [cond_false, hch, Option.bind_some]
        dsimp only
        rw [Bool.not_true, Bool.false_or, cond_false]
        have h4 := Bool.or_eq_false_iff.1 h3
        have h5 := of_decide_eq_false h4.1
        have h6 := of_decide_eq_false h4.2
        exact tail_ok g d hw hd hc (by omega) (by omega) n hn (turnR g d) (by unfold turnR; rw [h1, h2, h3]; rfl)
end Pure

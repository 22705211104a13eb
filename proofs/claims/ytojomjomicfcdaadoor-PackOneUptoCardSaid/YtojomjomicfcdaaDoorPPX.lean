/- Several texts in one (merge.py). -/
import Derived.Test.YtojomjomicfcdaaDoorPA

/- Who may see what. No program. -/
namespace Pure
open Esp Ev Go
set_option linter.unusedSimpArgs false
set_option linter.unusedVariables false
set_option linter.unusedSimpArgs false
set_option linter.unusedVariables false

end Pure


/- Who sees what. No program. -/
namespace Pure
open Esp Ev Go
set_option linter.unusedSimpArgs false
set_option linter.unusedVariables false

theorem Grant.eta (g : Grant) : Grant.mk g.who g.labels = g := rfl

/-! ## what is in order -/
structure nodeS (x : Ev.Node) : Prop where
  lab : x.labels.length ≤ 4
  prp : prpE x.props = 0
structure graphS (g : Graph) : Prop where
  nl : g.nodes.length ≤ 40
  el : g.edges.length ≤ 60
  nd : ∀ x ∈ g.nodes, nodeS x
  ed : ∀ x ∈ g.edges, prpE x.props = 0
theorem graphS_of {g : Graph} (h : chkG g = 0) : graphS g := by
  obtain ⟨h1, h2, h3, h4⟩ := chkG_0 h
  exact ⟨h1, h2, fun x hx => ⟨labE_0 (nodF_0 h3 x hx).1, (nodF_0 h3 x hx).2⟩, fun x hx => (edgF_0 h4 x hx).1⟩

def both (l : List Ev.Node) (e : Edg) : Bool := (nodeIn l e.src).isSome && (nodeIn l e.dst).isSome
def g0 : Graph := ⟨[], [], 0⟩
end Pure


/- Differences of rising lists: what is taken out and put in makes the one of the other. Plain Lean. -/
namespace Pure
section
variable {α : Type} (id : α → Int) (same : α → α → Bool)
abbrev Up (l : List α) : Prop := l.Pairwise fun a b => id a < id b
variable {id same}
theorem Up.inj {l : List α} (h : Up id l) {x y : α} (hx : x ∈ l) (hy : y ∈ l) (e : id x = id y) : x = y := by
  induction l with
  | nil => cases hx
  | cons z r ih =>
    have h2 := List.pairwise_cons.1 h
    rcases List.mem_cons.1 hx with e1 | hx2
    · rcases List.mem_cons.1 hy with e2 | hy2
      · exact e1.trans e2.symm
      · have := h2.1 y hy2; rw [← e1] at this; omega
    · rcases List.mem_cons.1 hy with e2 | hy2
      · have := h2.1 x hx2; rw [← e2] at this; omega
      · exact ih h2.2 hx2 hy2
end
end Pure


/- Nodes and edges that are alike, by the program and by the document. No program. -/
namespace Pure
open Esp Ev Go
set_option linter.unusedSimpArgs false
set_option linter.unusedVariables false

def eqL {α β : Type} (eq : α → β → Bool) : List α → List β → Bool
  | [], [] => true
  | x :: r, y :: t => eq x y && eqL eq r t
  | _, _ => false
theorem eqL_iff {α : Type} {eq : α → α → Bool} : ∀ {l m : List α}, (∀ x ∈ l, ∀ y ∈ m, eq x y = true ↔ x = y) → (eqL eq l m = true ↔ l = m)
  | [], [], _ => by simp [eqL]
  | [], _ :: _, _ => by simp [eqL]
  | _ :: _, [], _ => by simp [eqL]
  | x :: r, y :: t, h => by
    rw [eqL, Bool.and_eq_true, h x (by simp) y (by simp), eqL_iff fun a ha b hb => h a (by simp [ha]) b (by simp [hb]), List.cons.injEq]
theorem eqL_len {α β : Type} {eq : α → β → Bool} : ∀ {l : List α} {m : List β}, l.length ≠ m.length → eqL eq l m = false
  | [], [], h => absurd rfl h
  | [], _ :: _, _ => rfl
  | _ :: _, [], _ => rfl
  | x :: r, y :: t, h => by
    rw [eqL, eqL_len (by simpa using h), Bool.and_false]
theorem eqK {α β ρ : Type} {F : Int → α → (List β × Unit) → ((List β × Unit) → Option ρ) → Option ρ} {eq : α → β → Bool} {m : List β} {kr : Bool × Unit → Option ρ} {k : (List β × Unit) → Option ρ} :
    ∀ (l : List α) (q r : List β), (∀ x ∈ l, ∀ i rec, F i x (m, ()) rec = (ix m i).bind fun y => bif !(eq x y) then kr (false, ()) else rec (m, ())) → m = q ++ r → l.length = r.length →
      foldK F k (q.length : Int) l (m, ()) = bif eqL eq l r then k (m, ()) else kr (false, ())
  | [], q, [], _, _, _ => rfl
  | [], _, _ :: _, _, _, h => by simp at h
  | _ :: _, _, [], _, _, h => by simp at h
  | x :: l, q, y :: r, hF, hm, h => by
    have ih := eqK (k := k) l (q ++ [y]) r (fun z hz => hF z (by simp [hz])) (by rw [hm]; simp) (by simpa using h)
    rw [show ((q ++ [y]).length : Int) = (q.length : Int) + 1 by simp] at ih
    rw [foldK, hF x (by simp), show ix m (q.length : Int) = some y from ix_ok (by rw [hm]; simp), Option.bind_some, eqL]
    cases eq x y with
    | true => rw [Bool.not_true, cond_false, Bool.true_and]; exact ih
    | false => rfl
def eqP (p q : Prp) : Bool := seq p.name q.name && (ordV p.val q.val == 0)
theorem eqP_iff (p q : Prp) : eqP p q = true ↔ p = q := by
  unfold eqP
  rw [Bool.and_eq_true, seq_iff, beq_iff_eq, ordV_zero]
  constructor
  · rintro ⟨h1, h2⟩; cases p; cases q; simp_all
  · rintro rfl; exact ⟨rfl, rfl⟩
def pSz' : List Prp → Nat
  | [] => 0
  | p :: r => vSz p.val + pSz' r
theorem pSz_mem : ∀ {l : List Prp} {p : Prp}, p ∈ l → vSz p.val ≤ pSz' l
  | q :: r, p, h => by
    rw [pSz']
    rcases List.mem_cons.1 h with rfl | h
    · omega
    · have := pSz_mem h; omega
theorem Prp.eta (p : Prp) : Prp.mk p.name (Val.mk p.val.kind p.val.n p.val.s p.val.l) = p := by rw [Val.eta]
theorem equalS_any (l m : List ByteArray) (n : Nat) (hl : l.length ≤ 9223372036854775807) (hn : l.length < n) : q13z n (l, m, ()) = some (eqL seq l m, ()) := by
  unfold q13z
  dsimp only
  cases hc : ((l.length : Int) != (m.length : Int)) with
  | true =>
    rw [eqL_len (by rw [bne_iff_ne] at hc; omega)]
    rfl
  | false =>
    have hlen : l.length = m.length := by simp at hc; omega
    simp only [cond_false]
    rw [R_q13z_s0 n _ _ l n _ hl (by omega)]
    have key := eqK (F := F_q13z_s0 n (fun (v10, _) => some (v10, ()))) (eq := seq) (m := m) (kr := fun (v10, _) => some (v10, ())) (k := fun _ => some (true, ())) l [] m (fun x hx i rec => by
      unfold F_q13z_s0
      dsimp only) rfl hlen
    refine key.trans ?_
    cases eqL seq l m <;> rfl
theorem rsameV_any (v w : Val) (n : Nat) (h : vOk v) (hn : vSz v + 2 ≤ n) : q17z n (v, w, ()) = some (ordV v w == 0, ()) := by
  unfold q17z
  dsimp only
  rw [Val.eta, Val.eta, orderOf_ok v w n h hn, Option.bind_some]
theorem rsameProps1_ok (p q : Prp) (n : Nat) (h : vOk p.val) (hn : vSz p.val + 6 ≤ n) : q14z n (p, q, ()) = some (eqP p q, ()) := by
  unfold q14z eqP
  dsimp only
  cases seq p.name q.name with
  | false => rfl
  | true =>
    simp only [cond_true]
    rw [Val.eta, Val.eta, rsameV_any _ _ n h (by omega), Option.bind_some, Bool.true_and]
theorem rsameProps_ok (l m : List Prp) (n : Nat) (h : ∀ p ∈ l, vOk p.val) (hl : l.length ≤ 9223372036854775807) (hn : pSz' l + l.length + 7 ≤ n) : q16z n (l, m, ()) = some (eqL eqP l m, ()) := by
  unfold q16z q0z
  dsimp only
  cases hc : ((l.length : Int) != (m.length : Int)) with
  | true =>
    rw [eqL_len (by rw [bne_iff_ne] at hc; omega)]
    rfl
  | false =>
    have hlen : l.length = m.length := by simp at hc; omega
    simp only [cond_false]
    rw [R_q0z_s0 n _ _ l n _ hl (by omega)]
    have key := eqK (F := F_q0z_s0 n (fun (v10, _) => some (v10, ()))) (eq := eqP) (m := m) (kr := fun (v10, _) => some (v10, ())) (k := fun _ => some (true, ())) l [] m (fun x hx i rec => by
      unfold F_q0z_s0
      dsimp only
      cases ix m i with
      | none => rfl
      | some y =>
        rw [Option.bind_some, Option.bind_some, Prp.eta, Prp.eta, rsameProps1_ok x y n (h x hx) (by have := pSz_mem hx; omega), Option.bind_some]) rfl hlen
    refine (congrArg (fun z => Option.bind z (fun x : Bool × Unit => some (x.1, ()))) key).trans ?_
    cases eqL eqP l m <;> rfl
/-! ## nodes, edges -/
def eqN (x y : Ev.Node) : Bool := (x.id == y.id) && (eqL seq x.labels y.labels && eqL eqP x.props y.props)
def eqE (x y : Edg) : Bool := ((((x.id == y.id) && (x.src == y.src)) && (x.dst == y.dst)) && seq x.type y.type) && eqL eqP x.props y.props
theorem eqN_iff (x y : Ev.Node) : eqN x y = true ↔ x = y := by
  unfold eqN
  rw [Bool.and_eq_true, Bool.and_eq_true, beq_iff_eq, eqL_iff fun a _ b _ => seq_iff a b, eqL_iff fun a _ b _ => eqP_iff a b]
  constructor
  · rintro ⟨h1, h2, h3⟩; cases x; cases y; simp_all
  · rintro rfl; exact ⟨rfl, rfl, rfl⟩
theorem eqE_iff (x y : Edg) : eqE x y = true ↔ x = y := by
  unfold eqE
  rw [Bool.and_eq_true, Bool.and_eq_true, Bool.and_eq_true, Bool.and_eq_true, beq_iff_eq, beq_iff_eq, beq_iff_eq, seq_iff, eqL_iff fun a _ b _ => eqP_iff a b]
  constructor
  · rintro ⟨⟨⟨⟨h1, h2⟩, h3⟩, h4⟩, h5⟩; cases x; cases y; simp_all
  · rintro rfl; exact ⟨⟨⟨⟨rfl, rfl⟩, rfl⟩, rfl⟩, rfl⟩
def nSz (x : Ev.Node) : Nat := x.labels.length + pSz' x.props + x.props.length + 8
def eSz (x : Edg) : Nat := pSz' x.props + x.props.length + 8
theorem rsameN_ok (x y : Ev.Node) (n : Nat) (h : ∀ p ∈ x.props, vOk p.val) (h1 : x.labels.length ≤ 9223372036854775807) (h2 : x.props.length ≤ 9223372036854775807) (hn : nSz x ≤ n) : q19z n (x, y, ()) = some (eqN x y, ()) := by
  unfold nSz at hn
  unfold q19z eqN
  dsimp only
  cases x.id == y.id with
  | false => rfl
  | true =>
    simp only [cond_true]
    rw [equalS_any _ _ n h1 (by omega), Option.bind_some]
    dsimp only
    cases eqL seq x.labels y.labels with
    | false => rfl
    | true =>
      simp only [cond_true]
      rw [rsameProps_ok _ _ n h h2 (by omega), Option.bind_some, Bool.true_and, Bool.true_and]
theorem rsameE_ok (x y : Edg) (n : Nat) (h : ∀ p ∈ x.props, vOk p.val) (h2 : x.props.length ≤ 9223372036854775807) (hn : eSz x ≤ n) : q18z n (x, y, ()) = some (eqE x y, ()) := by
  unfold eSz at hn
  unfold q18z eqE
  dsimp only
  cases (((x.id == y.id) && (x.src == y.src)) && (x.dst == y.dst)) && seq x.type y.type with
  | false => rfl
  | true =>
    simp only [cond_true]
    rw [rsameProps_ok _ _ n h h2 (by omega), Option.bind_some, Bool.true_and]
end Pure


/- What differs between two graphs, by the program. No program. -/
namespace Pure
open Esp Ev Go
set_option linter.unusedSimpArgs false
set_option linter.unusedVariables false

theorem Node.eta (x : Ev.Node) : Ev.Node.mk x.id x.labels x.props = x := rfl
structure NL' (x : Ev.Node) : Prop where
  v : ∀ p ∈ x.props, vOk p.val
  l : x.labels.length ≤ 9223372036854775807
  p : x.props.length ≤ 9223372036854775807
end Pure


/- What differs between two graphs, told. No program. -/
namespace Pure
open Esp Ev Go
set_option linter.unusedSimpArgs false
set_option linter.unusedVariables false

end Pure


/- What differs between two graphs: edges (made of PTxn2, PTxn3 by substitution). No program. -/
namespace Pure
open Esp Ev Go
set_option linter.unusedSimpArgs false
set_option linter.unusedVariables false

theorem Edg.eta3 (x : Edg) : Ev.Edg.mk x.id x.src x.dst x.type x.props = x := rfl
structure EL' (x : Edg) : Prop where
  v : ∀ p ∈ x.props, vOk p.val
  p : x.props.length ≤ 9223372036854775807
end Pure


/- Between, told. No program. -/
namespace Pure
open Esp Ev Go
set_option linter.unusedSimpArgs false
set_option linter.unusedVariables false

def gSz (g : Graph) : Nat := (g.nodes.map nSz).sum + (g.edges.map eSz).sum
theorem sum_mem {α : Type} (f : α → Nat) : ∀ {l : List α} {x : α}, x ∈ l → f x ≤ (l.map f).sum
  | y :: r, x, h => by
    rw [List.map_cons, List.sum_cons]
    rcases List.mem_cons.1 h with rfl | h
    · omega
    · have := sum_mem f h; omega
theorem gN {g : Graph} (hw : gOk g) (hc : chkG g = 0) : ∀ x ∈ g.nodes, NL' x ∧ nodeS x := fun x hx =>
  have h := (graphS_of hc).nd x hx
  have hp := prpE_0 h.prp
  ⟨⟨fun p hp' => ((hw.1.2 x hx).2.2.2 p hp').2, by have := h.lab; omega, by have := hp.1; omega⟩, h⟩
theorem gE {g : Graph} (hw : gOk g) (hc : chkG g = 0) : ∀ x ∈ g.edges, EL' x ∧ prpE x.props = 0 := fun x hx =>
  have h := (graphS_of hc).ed x hx
  have hp := prpE_0 h
  ⟨⟨fun p hp' => ((hw.2.1.2 x hx).2.2.2.2.2 p hp').2, by have := hp.1; omega⟩, h⟩
end Pure


/- What differs turns the one graph into the other: the plain law. No program. -/
namespace Pure
open Esp Ev Go
set_option linter.unusedSimpArgs false
set_option linter.unusedVariables false

end Pure


/- The same graph, the same difference; the closed fact. No program. -/
namespace Pure
open Esp Ev Go
set_option linter.unusedSimpArgs false
set_option linter.unusedVariables false

theorem eqN_list (l m : List Ev.Node) (n : Nat) (h : ∀ x ∈ l, NL' x ∧ nSz x ≤ n) (hl : l.length ≤ 9223372036854775807) (hn : l.length < n) :
    q2z n (l, m, ()) = some (eqL eqN l m, ()) := by
  unfold q2z
  dsimp only
  cases hlen : ((l.length : Int) != (m.length : Int)) with
  | true =>
    rw [cond_true, eqL_len (by intro e; rw [e] at hlen; simp at hlen)]
  | false =>
    have hl2 : l.length = m.length := by
      have : (l.length : Int) = (m.length : Int) := by simpa using hlen
      omega
    rw [cond_false, R_q2z_s0 n _ _ l n _ hl hn]
    refine (eqK (F := F_q2z_s0 n _) (eq := eqN) (m := m) (kr := fun x => some (x.1, ())) l [] m (fun x hx i rec => ?_) rfl hl2).trans ?_
    · unfold F_q2z_s0
      dsimp only
      refine congrArg _ (funext fun y => ?_)
      rw [Node.eta, Node.eta, rsameN_ok x y n (h x hx).1.v (h x hx).1.l (h x hx).1.p (h x hx).2, Option.bind_some]
    · cases eqL eqN l m with
      | true => rfl
      | false => rfl
theorem eqE_list (l m : List Edg) (n : Nat) (h : ∀ x ∈ l, EL' x ∧ eSz x ≤ n) (hl : l.length ≤ 9223372036854775807) (hn : l.length < n) :
    q1z n (l, m, ()) = some (eqL eqE l m, ()) := by
  unfold q1z
  dsimp only
  cases hlen : ((l.length : Int) != (m.length : Int)) with
  | true =>
    rw [cond_true, eqL_len (by intro e; rw [e] at hlen; simp at hlen)]
  | false =>
    have hl2 : l.length = m.length := by
      have : (l.length : Int) = (m.length : Int) := by simpa using hlen
      omega
    rw [cond_false, R_q1z_s0 n _ _ l n _ hl hn]
    refine (eqK (F := F_q1z_s0 n _) (eq := eqE) (m := m) (kr := fun x => some (x.1, ())) l [] m (fun x hx i rec => ?_) rfl hl2).trans ?_
    · unfold F_q1z_s0
      dsimp only
      refine congrArg _ (funext fun y => ?_)
      rw [Edg.eta3, Edg.eta3, rsameE_ok x y n (h x hx).1.v (h x hx).1.p (h x hx).2, Option.bind_some]
    · cases eqL eqE l m with
      | true => rfl
      | false => rfl
theorem eqN_refl (l : List Ev.Node) : eqL eqN l l = true := (eqL_iff fun x _ y _ => eqN_iff x y).2 rfl
theorem eqE_refl (l : List Edg) : eqL eqE l l = true := (eqL_iff fun x _ y _ => eqE_iff x y).2 rfl
end Pure


/- The bytes of values that are right, and back. No program. -/
namespace Pure
open Esp Ev Go
set_option linter.unusedSimpArgs false
set_option linter.unusedVariables false

mutual
def putL : Val → List UInt8
  | .mk k n s l =>
    if k = 1 ∨ k = 2 then UInt8.ofNat k.toNat :: numB (n + 9223372036854775808) 8
    else if k = 3 then 3 :: (numB (s.size : Int) 2 ++ s.data.toList)
    else if k = 4 then 4 :: UInt8.ofNat l.length :: putLs l
    else [UInt8.ofNat k.toNat]
def putLs : List Val → List UInt8
  | [] => []
  | x :: r => putL x ++ putLs r
end
/-! ## numbers -/
theorem number_loop {ρ : Type} (n : Nat) (a : Int) (kx : List Int × Unit → Option ρ) (kr : Unit → Option ρ) :
    ∀ (s : Nat) (o : List UInt8) (fuel : Nat), s < fuel → s ≤ 8 → o.length + s ≤ 140737488355328 →
      iterN (fun rc => q50z_s0 n rc kx kr) fuel (a, (s : Int) - 1, bi o, ()) = kx (bi (o ++ numB a s), ()) := by
  intro s
  induction s with
  | zero =>
    intro o fuel hf hs ho
    obtain ⟨m, rfl⟩ : ∃ m, fuel = m + 1 := ⟨fuel - 1, by omega⟩
    rw [iterN]
    simp only [q50z_s0]
    rw [show decide (((0 : Nat) : Int) - 1 ≥ 0) = false by decide]
    simp [numB]
  | succ s ih =>
    intro o fuel hf hs ho
    obtain ⟨m, rfl⟩ : ∃ m, fuel = m + 1 := ⟨fuel - 1, by omega⟩
    rw [iterN]
    simp only [q50z_s0]
    have e0 : (((s + 1 : Nat) : Int) - 1) = (s : Int) := by omega
    rw [e0, show decide ((s : Int) ≥ 0) = true by rw [decide_eq_true_iff]; omega]
    have e1 : IntKind.wrap .i64 (8 * (s : Int)) = 8 * (s : Int) := wrap64 (by omega) (by omega)
    have e2 : IntKind.wrap .i64 ((s : Int) - 1) = (s : Int) - 1 := wrap64 (by omega) (by omega)
    have e3 : shamt (8 * (s : Int)) = some (8 * (s : Int)) := by unfold shamt; rw [if_pos (by omega)]
    have e4 : bi o ++ [((byteAt a (8 * (s : Int))).toNat : Int)] = bi (o ++ [byteAt a (8 * (s : Int))]) := by rw [bi_app]; rfl
    simp only [cond_true, e1, e2, e3, Option.bind_some, byteAt_eq, e4]
    rw [ck_ok (room1 (by rw [bi_length]; simp; omega)), ih _ _ (by omega) (by omega) (by simp; omega)]
    simp [numB]
theorem number_ok (n : Nat) (a : Int) (s : Nat) (o : List UInt8) (hn : 10 ≤ n) (hs : s ≤ 8) (ho : o.length + s ≤ 140737488355328) : q50z n (a, (s : Int), bi o, ()) = some (bi (o ++ numB a s), ()) := by
  simp only [q50z]
  rw [wrap64 (by omega) (by omega)]
  exact number_loop n a _ _ s o n (by omega) hs ho
theorem numberOf_loop {ρ : Type} (n : Nat) (l : List Int) (hl : l.length ≤ 100) (kx : Int × Unit → Option ρ) (kr : Unit → Option ρ) :
    ∀ (r p : List Int), l = p ++ r → ∀ (fuel : Nat) (x : Int), r.length < fuel →
      iterN (fun rc => q44z_s0 n rc kx kr) fuel (x, l, (l.length : Int), (p.length : Int), ()) = kx (r.foldl numStepI x, ()) := by
  intro r
  induction r with
  | nil =>
    intro p hp fuel x hf
    obtain ⟨m, rfl⟩ : ∃ m, fuel = m + 1 := ⟨fuel - 1, by omega⟩
    have e : decide ((p.length : Int) < (l.length : Int)) = false := by rw [decide_eq_false_iff_not]; subst hp; simp
    rw [iterN]
    simp only [q44z_s0, e, cond_false, List.foldl_nil]
  | cons y r ih =>
    intro p hp fuel x hf
    obtain ⟨m, rfl⟩ : ∃ m, fuel = m + 1 := ⟨fuel - 1, by omega⟩
    have hlen : l.length = p.length + (r.length + 1) := by rw [hp]; simp
    have e : decide ((p.length : Int) < (l.length : Int)) = true := by rw [decide_eq_true_iff]; omega
    have e2 : ix l (p.length : Int) = some y := ix_ok (by rw [hp]; simp)
    have e3 : IntKind.wrap .i64 ((p.length : Int) + 1) = ((p ++ [y]).length : Int) := by rw [wrap64 (by omega) (by omega)]; simp
    have e5 := ih (p ++ [y]) (by simp [hp]) m (numStepI x y) (by simp at hf; omega)
    rw [iterN]
    simp only [q44z_s0, e, e2, e3, cond_true, Option.bind_some]
    exact e5
theorem numberOf_ok (n : Nat) (l : List UInt8) (hn : 10 ≤ n) (hl : l.length ≤ 8) : q44z n (bi l, ()) = some (((numN l 0 : Nat) : Int), ()) := by
  simp only [q44z]
  have := numberOf_loop n (bi l) (by rw [bi_length]; omega) (fun (v7, _) => some ((v7 : Int), ())) (fun (_) => none) (bi l) [] rfl n 0 (by rw [bi_length]; omega)
  refine this.trans ?_
  have e := fold_eq l 0 0 (by decide) (by omega)
  rw [show ((0 : Nat) : Int) = 0 from rfl] at e
  simp only [e]

/-! ## bytes -/
theorem put_loop {ρ : Type} (self : Val × List Int × Unit → Option (List Int × Unit)) (n : Nat) (l : List Val) (kx : List Int × Unit → Option ρ) (kr : Unit → Option ρ) (hl : l.length ≤ 30)
    (hs : ∀ x ∈ l, ∀ o : List UInt8, o.length + (putL x).length ≤ 140737488355328 → self (x, bi o, ()) = some (bi (o ++ putL x), ())) :
    ∀ (r p : List Val), l = p ++ r → ∀ (fuel : Nat) (o : List UInt8), r.length < fuel → o.length + (putLs r).length ≤ 140737488355328 →
      iterN (fun rc => code_Put_s1 self n rc kx kr) fuel (l, (l.length : Int), (p.length : Int), bi o, ()) = kx (bi (o ++ putLs r), ()) := by
  intro r
  induction r with
  | nil =>
    intro p hp fuel o hf ho
    obtain ⟨m, rfl⟩ : ∃ m, fuel = m + 1 := ⟨fuel - 1, by omega⟩
    have e : decide ((p.length : Int) < (l.length : Int)) = false := by rw [decide_eq_false_iff_not]; subst hp; simp
    rw [iterN]
    simp only [code_Put_s1, e, cond_false, putLs, List.append_nil]
  | cons y r ih =>
    intro p hp fuel o hf ho
    obtain ⟨m, rfl⟩ : ∃ m, fuel = m + 1 := ⟨fuel - 1, by omega⟩
    have hlen : l.length = p.length + (r.length + 1) := by rw [hp]; simp
    have e : decide ((p.length : Int) < (l.length : Int)) = true := by rw [decide_eq_true_iff]; omega
    have e2 : ix l (p.length : Int) = some y := ix_ok (by rw [hp]; simp)
    have e3 : IntKind.wrap .i64 ((p.length : Int) + 1) = ((p ++ [y]).length : Int) := by rw [wrap64 (by omega) (by omega)]; simp
    have ho2 : o.length + ((putL y).length + (putLs r).length) ≤ 140737488355328 := by simpa [putLs] using ho
    have e4 := hs y (by rw [hp]; simp) o (by omega)
    have e5 := ih (p ++ [y]) (by simp [hp]) m (o ++ putL y) (by simp at hf; omega) (by simp; omega)
    rw [iterN]
    simp only [code_Put_s1, Val.eta, e, e2, e3, e4, cond_true, Option.bind_some]
    rw [e5, putLs, List.append_assoc]
theorem bi_snoc (o : List UInt8) (k : Int) (h0 : 0 ≤ k) (h1 : k ≤ 255) : bi o ++ [IntKind.wrap .u8 k] = bi (o ++ [UInt8.ofNat k.toNat]) := by
  have e : bi [UInt8.ofNat k.toNat] = [k] := by
    rw [bi_cons, bi_nil, UInt8.toNat_ofNat_of_lt' (by show _ < 256; omega)]
    congr 1
    omega
  rw [bi_app, wrapU8 h0 h1, e]

theorem put_ok {v : Val} {d : Int} (h : Right v d) : ∀ (n : Nat) (o : List UInt8), 1 ≤ d → d ≤ 7 → 40 ≤ n + d.toNat → o.length + (putL v).length ≤ 140737488355328 → code_Put n (v, bi o, ()) = some (bi (o ++ putL v), ()) := by
  induction h with
  | null d =>
    intro n o h1 h2 hn ho
    obtain ⟨m, rfl⟩ : ∃ m, n = m + 1 := ⟨n - 1, by omega⟩
    simp [putL] at ho
    rw [code_Put]
    unfold code_Put_b
    simp only [kind_mk]
    rw [bi_snoc o 0 (by omega) (by omega), ck_ok (room1 (by rw [bi_length]; simp; omega))]
    rfl
  | truth a d h =>
    intro n o h1 h2 hn ho
    obtain ⟨m, rfl⟩ : ∃ m, n = m + 1 := ⟨n - 1, by omega⟩
    simp [putL, numB_length] at ho
    rw [code_Put]
    unfold code_Put_b
    simp only [kind_mk, n_mk]
    rw [bi_snoc o 1 (by omega) (by omega), ck_ok (room1 (by rw [bi_length]; simp; omega)), top_flip a (by omega) (by omega)]
    have := number_ok m (a + 9223372036854775808) 8 (o ++ [UInt8.ofNat (1 : Int).toNat]) (by omega) (by omega) (by simp; omega)
    rw [show ((8 : Nat) : Int) = 8 from rfl] at this
    rw [show ((1 : Int) == 1) = true from rfl, cond_true, cond_true, this]
    simp [putL]
  | int a d h =>
    intro n o h1 h2 hn ho
    obtain ⟨m, rfl⟩ : ∃ m, n = m + 1 := ⟨n - 1, by omega⟩
    simp [putL, numB_length] at ho
    have hr : -9223372036854775808 ≤ a ∧ a ≤ 9223372036854775807 := by
      unfold wfI Lit.wf at h
      simp [IntKind.bits, IntKind.signed, IntKind.min, IntKind.max] at h
      omega
    rw [code_Put]
    unfold code_Put_b
    simp only [kind_mk, n_mk]
    rw [bi_snoc o 2 (by omega) (by omega), ck_ok (room1 (by rw [bi_length]; simp; omega)), top_flip a (by omega) (by omega)]
    have := number_ok m (a + 9223372036854775808) 8 (o ++ [UInt8.ofNat (2 : Int).toNat]) (by omega) (by omega) (by simp; omega)
    rw [show ((8 : Nat) : Int) = 8 from rfl] at this
    rw [show ((2 : Int) == 1) = false from rfl, show ((2 : Int) == 2) = true from rfl, cond_false, cond_true, this]
    simp [putL]
  | text s d h3 h4 =>
    intro n o h1 h2 hn ho
    obtain ⟨m, rfl⟩ : ∃ m, n = m + 1 := ⟨n - 1, by omega⟩
    have e : s.data.size = s.size := rfl
    simp [putL, numB_length] at ho
    rw [code_Put]
    unfold code_Put_b
    simp only [kind_mk, s_mk]
    rw [bi_snoc o 3 (by omega) (by omega), ck_ok (room1 (by rw [bi_length]; simp; omega)), wrapU64 (x := (s.size : Int)) (by omega) (by omega)]
    have := number_ok m (s.size : Int) 2 (o ++ [UInt8.ofNat (3 : Int).toNat]) (by omega) (by omega) (by simp; omega)
    rw [show ((2 : Nat) : Int) = 2 from rfl] at this
    rw [show ((3 : Int) == 1) = false from rfl, show ((3 : Int) == 2) = false from rfl, show ((3 : Int) == 3) = true from rfl, cond_false, cond_false, cond_true, this]
    simp only [Option.bind_some, bytesI_eq]
    rw [← bi_app, ck_ok (room1 (by rw [bi_length]; simp [numB_length]; omega))]
    simp [putL]
  | list l d h3 h4 h5 ih =>
    intro n o h1 h2 hn ho
    obtain ⟨m, rfl⟩ : ∃ m, n = m + 1 := ⟨n - 1, by omega⟩
    simp [putL] at ho
    rw [code_Put]
    unfold code_Put_b
    simp only [kind_mk, l_mk]
    rw [bi_snoc o 4 (by omega) (by omega), ck_ok (room1 (by rw [bi_length]; simp; omega)), bi_snoc _ (l.length : Int) (by omega) (by omega)]
    rw [show ((4 : Int) == 1) = false from rfl, show ((4 : Int) == 2) = false from rfl, show ((4 : Int) == 3) = false from rfl, show ((4 : Int) == 4) = true from rfl]
    simp only [cond_false, cond_true]
    rw [ck_ok (room1 (by rw [bi_length]; simp; omega))]
    have := put_loop (code_Put m) m l (fun (o15, _) => some (o15, ())) (fun (_) => none) h3 (fun x hx o ho => ih x hx m o (by omega) (by omega) (by omega) ho) l [] rfl m (o ++ [UInt8.ofNat (4 : Int).toNat] ++ [UInt8.ofNat (l.length : Int).toNat]) (by omega) (by simp; omega)
    refine this.trans ?_
    simp [putL]
end Pure


/- Bytes of values that are right are read back as these; a value is the same as itself. No program. -/
namespace Pure
open Esp Ev Go
set_option linter.unusedSimpArgs false
set_option linter.unusedVariables false

theorem take_ok (a t : List UInt8) (k : Int) (hk : k = (a.length : Int)) : q33z (k, (bi (a ++ t), false, ()), ()) = some (bi a, (bi t, false, ()), ()) := by
  subst hk
  simp only [q33z, Bool.false_or]
  rw [show decide ((a.length : Int) > ((bi (a ++ t)).length : Int)) = false by rw [decide_eq_false_iff_not, bi_length, List.length_append]; omega]
  rw [cond_false]
  have h1 : lsl3 (bi (a ++ t)) 0 (a.length : Int) (a.length : Int) = some (bi a) := by
    unfold lsl3
    rw [if_pos ⟨by omega, by omega, by omega, by rw [bi_length, List.length_append]; omega⟩]
    simp [bi]
  have h2 : lsl (bi (a ++ t)) (a.length : Int) ((bi (a ++ t)).length : Int) = some (bi t) := by
    unfold lsl
    rw [if_pos ⟨by omega, by rw [bi_length, List.length_append]; omega, by omega⟩]
    have e : (bi (a ++ t)).drop (a.length : Int).toNat = bi t := by simp [bi]
    rw [e, List.take_of_length_le (by rw [bi_length, bi_length, List.length_append]; omega)]
  simp only [h1, h2, Option.bind_some]

theorem read_loop {ρ : Type} (self : Int × (List Int × Bool × Unit) × Unit → Option (Val × (List Int × Bool × Unit) × Unit)) (n : Nat) (d : Int) (hd : d ≤ 6) (hd1 : 1 ≤ d) (o : Val) (o23 : Int × Int × ByteArray × Unit) (l : List Val) (hl : l.length ≤ 30)
    (kx : (Val × Unit) × (Int × Int × ByteArray × Unit) × List Val × (List Int × Bool × Unit) × Unit → Option ρ) (kr : Unit → Option ρ)
    (hs : ∀ x ∈ l, ∀ t : List UInt8, self (d + 1, (bi (putL x ++ t), false, ()), ()) = some (x, (bi t, false, ()), ())) (t : List UInt8) :
    ∀ (r p : List Val), l = p ++ r → ∀ (fuel : Nat), r.length < fuel →
      iterN (fun rc => q27z_s1 self n rc kx kr) fuel (d, (l.length : Int), (p.length : Int), (o, ()), o23, p, (bi (putLs r ++ t), false, ()), ()) = kx ((o, ()), o23, l, (bi t, false, ()), ()) := by
  intro r
  induction r with
  | nil =>
    intro p hp fuel hf
    obtain ⟨m, rfl⟩ : ∃ m, fuel = m + 1 := ⟨fuel - 1, by omega⟩
    have e : decide ((p.length : Int) < (l.length : Int)) = false := by rw [decide_eq_false_iff_not]; subst hp; simp
    obtain rfl : l = p := by simpa using hp
    rw [iterN]
    simp only [q27z_s1, Val.eta, e, cond_false, putLs, List.nil_append]
  | cons y r ih =>
    intro p hp fuel hf
    obtain ⟨m, rfl⟩ : ∃ m, fuel = m + 1 := ⟨fuel - 1, by omega⟩
    have hlen : l.length = p.length + (r.length + 1) := by rw [hp]; simp
    have e : decide ((p.length : Int) < (l.length : Int)) = true := by rw [decide_eq_true_iff]; omega
    have e3 : IntKind.wrap .i64 ((p.length : Int) + 1) = ((p ++ [y]).length : Int) := by rw [wrap64 (by omega) (by omega)]; simp
    have e4 : IntKind.wrap .i64 (d + 1) = d + 1 := wrap64 (by omega) (by omega)
    have e6 : decide (d > 6) = false := by rw [decide_eq_false_iff_not]; omega
    have e7 := hs y (by rw [hp]; simp) (putLs r ++ t)
    have e5 := ih (p ++ [y]) (by simp [hp]) m (by simp at hf; omega)
    rw [iterN]
    simp only [q27z_s1, Val.eta, e, e3, e4, e6, cond_true, cond_false, Bool.or_false, putLs, List.append_assoc, e7, Option.bind_some]
    rw [ck_ok (room56 (by simp; omega))]
    exact e5

theorem ix0 (c : UInt8) : ix (bi [c]) 0 = some (c.toNat : Int) := rfl

theorem read_ok {v : Val} {d : Int} (h : Right v d) : ∀ (n : Nat) (t : List UInt8), 1 ≤ d → d ≤ 7 → 50 ≤ n + d.toNat → q27z n (d, (bi (putL v ++ t), false, ()), ()) = some (v, (bi t, false, ()), ()) := by
  induction h with
  | null d =>
    intro n t h1 h2 hn
    obtain ⟨m, rfl⟩ : ∃ m, n = m + 1 := ⟨n - 1, by omega⟩
    have e : bi (putL (.mk 0 0 ⟨#[]⟩ []) ++ t) = bi ([0] ++ t) := rfl
    have e2 := take_ok [0] t 1 rfl
    rw [q27z]
    unfold q27z_b
    simp only [e, e2, Option.bind_some, ix0]
    rfl
  | truth a d h =>
    intro n t h1 h2 hn
    obtain ⟨m, rfl⟩ : ∃ m, n = m + 1 := ⟨n - 1, by omega⟩
    have e : bi (putL (.mk 1 a ⟨#[]⟩ []) ++ t) = bi ([1] ++ (numB (a + 9223372036854775808) 8 ++ t)) := rfl
    have e2 := take_ok [1] (numB (a + 9223372036854775808) 8 ++ t) 1 rfl
    have e3 := take_ok (numB (a + 9223372036854775808) 8) t 8 (by rw [numB_length]; rfl)
    have e4 := numberOf_ok m (numB (a + 9223372036854775808) 8) (by omega) (by rw [numB_length]; omega)
    obtain ⟨x, hx⟩ : ∃ x : Nat, a + 9223372036854775808 = x := ⟨(a + 9223372036854775808).toNat, by omega⟩
    have e5 : ((numN (numB (a + 9223372036854775808) 8) 0 : Nat) : Int) = a + 9223372036854775808 := by
      rw [hx, numN_back x 8 (by omega) (by omega)]
    rw [e5] at e4
    have e6 := top_back a (by omega) (by omega)
    rw [q27z]
    unfold q27z_b
    simp only [e, e2, Option.bind_some, ix0]
    rw [show IntKind.wrap .i64 (((1 : UInt8).toNat : Nat) : Int) = 1 from by decide]
    rw [show ((1 : Int) == 1) = true from rfl]
    simp only [cond_true, e3, e4, Option.bind_some, e6]
  | int a d h =>
    intro n t h1 h2 hn
    obtain ⟨m, rfl⟩ : ∃ m, n = m + 1 := ⟨n - 1, by omega⟩
    have hr : -9223372036854775808 ≤ a ∧ a ≤ 9223372036854775807 := by
      unfold wfI Lit.wf at h
      simp [IntKind.bits, IntKind.signed, IntKind.min, IntKind.max] at h
      omega
    have e : bi (putL (.mk 2 a ⟨#[]⟩ []) ++ t) = bi ([2] ++ (numB (a + 9223372036854775808) 8 ++ t)) := rfl
    have e2 := take_ok [2] (numB (a + 9223372036854775808) 8 ++ t) 1 rfl
    have e3 := take_ok (numB (a + 9223372036854775808) 8) t 8 (by rw [numB_length]; rfl)
    have e4 := numberOf_ok m (numB (a + 9223372036854775808) 8) (by omega) (by rw [numB_length]; omega)
    obtain ⟨x, hx⟩ : ∃ x : Nat, a + 9223372036854775808 = x := ⟨(a + 9223372036854775808).toNat, by omega⟩
    have e5 : ((numN (numB (a + 9223372036854775808) 8) 0 : Nat) : Int) = a + 9223372036854775808 := by
      rw [hx, numN_back x 8 (by omega) (by omega)]
    rw [e5] at e4
    have e6 := top_back a (by omega) (by omega)
    rw [q27z]
    unfold q27z_b
    simp only [e, e2, Option.bind_some, ix0]
    rw [show IntKind.wrap .i64 (((2 : UInt8).toNat : Nat) : Int) = 2 from by decide]
    rw [show ((2 : Int) == 1) = false from rfl, show ((2 : Int) == 2) = true from rfl]
    simp only [cond_true, cond_false, e3, e4, Option.bind_some, e6]
  | text s d h3 h4 =>
    intro n t h1 h2 hn
    obtain ⟨m, rfl⟩ : ∃ m, n = m + 1 := ⟨n - 1, by omega⟩
    have e : bi (putL (.mk 3 0 s []) ++ t) = bi ([3] ++ (numB (s.size : Int) 2 ++ (s.data.toList ++ t))) := by
      simp [putL]
    have e2 := take_ok [3] (numB (s.size : Int) 2 ++ (s.data.toList ++ t)) 1 rfl
    have e3 := take_ok (numB (s.size : Int) 2) (s.data.toList ++ t) 2 (by rw [numB_length]; rfl)
    have e4 := numberOf_ok m (numB (s.size : Int) 2) (by omega) (by rw [numB_length]; omega)
    rw [numN_back s.size 2 (by omega) (by omega)] at e4
    have e5 := take_ok s.data.toList t (s.size : Int) (by rw [Array.length_toList]; rfl)
    have e6 : IntKind.wrap .i64 (s.size : Int) = (s.size : Int) := wrap64 (by omega) (by omega)
    have e7 : str? (bi s.data.toList) = some s := by rw [str_ok]
    have e8 := validN_some (s := s) (by omega)
    rw [q27z]
    unfold q27z_b
    simp only [e, e2, Option.bind_some, ix0]
    rw [show IntKind.wrap .i64 (((3 : UInt8).toNat : Nat) : Int) = 3 from by decide]
    rw [show ((3 : Int) == 1) = false from rfl, show ((3 : Int) == 2) = false from rfl, show ((3 : Int) == 3) = true from rfl]
    simp only [cond_true, cond_false, e3, e4, e5, e6, e7, e8, h4, Option.bind_some, Bool.not_true]
  | list l d h3 h4 h5 ih =>
    intro n t h1 h2 hn
    obtain ⟨m, rfl⟩ : ∃ m, n = m + 1 := ⟨n - 1, by omega⟩
    have e : bi (putL (.mk 4 0 ⟨#[]⟩ l) ++ t) = bi ([4] ++ ([UInt8.ofNat l.length] ++ (putLs l ++ t))) := by
      simp [putL]
    have e2 := take_ok [4] ([UInt8.ofNat l.length] ++ (putLs l ++ t)) 1 rfl
    have e3 := take_ok [UInt8.ofNat l.length] (putLs l ++ t) 1 rfl
    have e4 : IntKind.wrap .i64 (((UInt8.ofNat l.length).toNat : Nat) : Int) = (l.length : Int) := by
      rw [UInt8.toNat_ofNat_of_lt' (by show _ < 256; omega), wrap64 (by omega) (by omega)]
    rw [q27z]
    unfold q27z_b
    simp only [e, e2, Option.bind_some, ix0]
    rw [show IntKind.wrap .i64 (((4 : UInt8).toNat : Nat) : Int) = 4 from by decide]
    rw [show ((4 : Int) == 1) = false from rfl, show ((4 : Int) == 2) = false from rfl, show ((4 : Int) == 3) = false from rfl, show ((4 : Int) == 4) = true from rfl]
    simp only [cond_true, cond_false, e3, e4, Option.bind_some, ix0]
    exact read_loop (q27z m) m d h4 h1 _ _ l h3 _ _ (fun x hx t => ih x hx m t (by omega) (by omega) (by omega)) t l [] rfl m (by omega)

end Pure


/- Bytes of graphs: what begins with them begins with them in one way. Plain Lean. -/
namespace Pure
open Esp Ev Go
set_option linter.unusedSimpArgs false
set_option linter.unusedVariables false

def PI {α : Type} (e : α → List UInt8) (P : α → Prop) : Prop := ∀ x y r s, P x → P y → e x ++ r = e y ++ s → x = y ∧ r = s
def vint (u : Nat) : List UInt8 := if h : u < 128 then [UInt8.ofNat u] else UInt8.ofNat (u % 128 + 128) :: vint (u / 128)
termination_by u
theorem vint_lo {u : Nat} (h : u < 128) : vint u = [UInt8.ofNat u] := by rw [vint, dif_pos h]
theorem vint_hi {u : Nat} (h : ¬ u < 128) : vint u = UInt8.ofNat (u % 128 + 128) :: vint (u / 128) := by rw [vint, dif_neg h]
theorem ofNat_inj {a b : Nat} (ha : a < 256) (hb : b < 256) (h : UInt8.ofNat a = UInt8.ofNat b) : a = b := by
  have := congrArg UInt8.toNat h
  rw [UInt8.toNat_ofNat', UInt8.toNat_ofNat'] at this
  omega
theorem vint_pi : ∀ (u v : Nat) (r s : List UInt8), vint u ++ r = vint v ++ s → u = v ∧ r = s := by
  intro u
  induction u using Nat.strongRecOn with
  | _ u ih =>
    intro v r s h
    by_cases hu : u < 128
    · rw [vint_lo hu] at h
      by_cases hv : v < 128
      · rw [vint_lo hv] at h
        obtain ⟨h1, h2⟩ := List.cons.inj h
        exact ⟨ofNat_inj (by omega) (by omega) h1, h2⟩
      · rw [vint_hi hv] at h
        have := ofNat_inj (by omega) (by omega) (List.cons.inj h).1
        omega
    · rw [vint_hi hu] at h
      by_cases hv : v < 128
      · rw [vint_lo hv] at h
        have := ofNat_inj (by omega) (by omega) (List.cons.inj h).1
        omega
      · rw [vint_hi hv] at h
        obtain ⟨h1, h2⟩ := List.cons.inj h
        have h3 := ofNat_inj (by omega) (by omega) h1
        obtain ⟨h4, h5⟩ := ih (u / 128) (by omega) (v / 128) r s h2
        exact ⟨by omega, h5⟩
def zig (n : Int) : Nat := if n < 0 then (2 * (-n) - 1).toNat else (2 * n).toNat
theorem zig_inj {a b : Int} (h : zig a = zig b) : a = b := by
  unfold zig at h
  split at h <;> split at h <;> omega
def intB (n : Int) : List UInt8 := vint (zig n)
theorem num_pi : PI intB fun _ => True := fun x y r s _ _ h => by
  obtain ⟨h1, h2⟩ := vint_pi _ _ _ _ h
  exact ⟨zig_inj h1, h2⟩
def textB (s : ByteArray) : List UInt8 := intB s.size ++ s.data.toList
theorem text_pi : PI textB fun _ => True := fun x y r s _ _ h => by
  unfold textB at h
  rw [List.append_assoc, List.append_assoc] at h
  obtain ⟨h1, h2⟩ := num_pi _ _ _ _ trivial trivial h
  have h3 : x.data.toList.length = y.data.toList.length := by
    have e1 : x.size = x.data.toList.length := Array.length_toList.symm
    have e2 : y.size = y.data.toList.length := Array.length_toList.symm
    omega
  obtain ⟨h4, h5⟩ := List.append_inj h2 h3
  refine ⟨?_, h5⟩
  cases x; cases y
  congr 1
  exact Array.toList_inj.1 h4
def eachB {α : Type} (e : α → List UInt8) (l : List α) : List UInt8 := intB l.length ++ l.flatMap e
theorem flat_pi {α : Type} {e : α → List UInt8} {P : α → Prop} (h : PI e P) : ∀ (l m : List α) (r s : List UInt8), (∀ x ∈ l, P x) → (∀ x ∈ m, P x) → l.length = m.length → l.flatMap e ++ r = m.flatMap e ++ s → l = m ∧ r = s
  | [], [], r, s, _, _, _, hh => ⟨rfl, hh⟩
  | [], _ :: _, _, _, _, _, hl, _ => by simp at hl
  | _ :: _, [], _, _, _, _, hl, _ => by simp at hl
  | x :: l, y :: m, r, s, hp, hq, hl, hh => by
    rw [List.flatMap_cons, List.flatMap_cons, List.append_assoc, List.append_assoc] at hh
    obtain ⟨h1, h2⟩ := h x y _ _ (hp x (by simp)) (hq y (by simp)) hh
    obtain ⟨h3, h4⟩ := flat_pi h l m r s (fun z hz => hp z (by simp [hz])) (fun z hz => hq z (by simp [hz])) (by simpa using hl) h2
    exact ⟨by rw [h1, h3], h4⟩
theorem each_pi {α : Type} {e : α → List UInt8} {P : α → Prop} (h : PI e P) : PI (eachB e) fun l => ∀ x ∈ l, P x := fun l m r s hp hq hh => by
  unfold eachB at hh
  rw [List.append_assoc, List.append_assoc] at hh
  obtain ⟨h1, h2⟩ := num_pi _ _ _ _ trivial trivial hh
  exact flat_pi h l m r s hp hq (by omega) h2
theorem bi_inj : ∀ {l m : List UInt8}, bi l = bi m → l = m
  | [], [], _ => rfl
  | [], _ :: _, h => by cases h
  | _ :: _, [], h => by cases h
  | a :: l, b :: m, h => by
    rw [bi_cons, bi_cons] at h
    obtain ⟨h1, h2⟩ := List.cons.inj h
    rw [bi_inj h2, UInt8.toNat_inj.1 (by omega : a.toNat = b.toNat)]
theorem val_pi : PI putL fun v => Right v 1 := fun x y r s hx hy h => by
  have e1 := read_ok hx 100 r (by omega) (by omega) (by omega)
  have e2 := read_ok hy 100 s (by omega) (by omega) (by omega)
  rw [h] at e1
  have := e1.symm.trans e2
  simp only [Option.some.injEq, Prod.mk.injEq] at this
  exact ⟨this.1, bi_inj this.2.1.1⟩
def prB8 (p : Prp) : List UInt8 := textB p.name ++ putL p.val
theorem prp_pi : PI prB8 fun p => Right p.val 1 := fun x y r s hx hy h => by
  unfold prB8 at h
  rw [List.append_assoc, List.append_assoc] at h
  obtain ⟨h1, h2⟩ := text_pi _ _ _ _ trivial trivial h
  obtain ⟨h3, h4⟩ := val_pi _ _ _ _ hx hy h2
  cases x; cases y
  dsimp only at h1 h3
  exact ⟨by rw [h1, h3], h4⟩
def nodB' (x : Ev.Node) : List UInt8 := intB x.id ++ (eachB textB x.labels ++ eachB prB8 x.props)
theorem nod_pi : PI nodB' fun x => ∀ p ∈ x.props, Right p.val 1 := fun x y r s hx hy h => by
  unfold nodB' at h
  simp only [List.append_assoc] at h
  obtain ⟨h1, h2⟩ := num_pi _ _ _ _ trivial trivial h
  obtain ⟨h3, h4⟩ := each_pi text_pi _ _ _ _ (fun _ _ => trivial) (fun _ _ => trivial) h2
  obtain ⟨h5, h6⟩ := each_pi prp_pi _ _ _ _ hx hy h4
  cases x; cases y
  dsimp only at h1 h3 h5
  exact ⟨by rw [h1, h3, h5], h6⟩
def edgB' (x : Edg) : List UInt8 := intB x.id ++ (intB x.src ++ (intB x.dst ++ (textB x.type ++ eachB prB8 x.props)))
theorem edg_pi : PI edgB' fun x => ∀ p ∈ x.props, Right p.val 1 := fun x y r s hx hy h => by
  unfold edgB' at h
  simp only [List.append_assoc] at h
  obtain ⟨h1, h2⟩ := num_pi _ _ _ _ trivial trivial h
  obtain ⟨h3, h4⟩ := num_pi _ _ _ _ trivial trivial h2
  obtain ⟨h5, h6⟩ := num_pi _ _ _ _ trivial trivial h4
  obtain ⟨h7, h8⟩ := text_pi _ _ _ _ trivial trivial h6
  obtain ⟨h9, h10⟩ := each_pi prp_pi _ _ _ _ hx hy h8
  cases x; cases y
  dsimp only at h1 h3 h5 h7 h9
  exact ⟨by rw [h1, h3, h5, h7, h9], h10⟩
def grfB (g : Graph) : List UInt8 := intB g.next ++ (eachB nodB' g.nodes ++ eachB edgB' g.edges)
theorem grf_inj {g h : Graph} (hg : (∀ x ∈ g.nodes, ∀ p ∈ x.props, Right p.val 1) ∧ ∀ x ∈ g.edges, ∀ p ∈ x.props, Right p.val 1) (hh : (∀ x ∈ h.nodes, ∀ p ∈ x.props, Right p.val 1) ∧ ∀ x ∈ h.edges, ∀ p ∈ x.props, Right p.val 1) (e : grfB g = grfB h) : g = h := by
  unfold grfB at e
  obtain ⟨h1, h2⟩ := num_pi _ _ _ _ trivial trivial e
  obtain ⟨h3, h4⟩ := each_pi nod_pi _ _ _ _ hg.1 hh.1 h2
  have h4' : eachB edgB' g.edges ++ [] = eachB edgB' h.edges ++ [] := by rw [List.append_nil, List.append_nil]; exact h4
  obtain ⟨h5, _⟩ := each_pi edg_pi _ _ _ _ hg.2 hh.2 h4'
  cases g; cases h
  dsimp only at h1 h3 h5
  rw [h1, h3, h5]
end Pure


/- The writer of bytes, told. No program. -/
namespace Pure
open Esp Ev Go
set_option linter.unusedSimpArgs false
set_option linter.unusedVariables false

theorem bor_all : (List.range 256).all (fun k => bor .u8 (k : Int) 128 == ((k % 128 + 128 : Nat) : Int)) = true := by kernel_rfl
theorem bor128 {x : Nat} (h : x < 256) : bor .u8 (x : Int) 128 = ((x % 128 + 128 : Nat) : Int) := by
  have := List.all_eq_true.1 bor_all x (List.mem_range.2 h)
  simpa using this
theorem wrapU8_mod (u : Nat) : IntKind.wrap .u8 (u : Int) = ((u % 256 : Nat) : Int) := by
  simp only [IntKind.wrap, IntKind.bits, IntKind.signed]
  simp
theorem toNat_of (k : Nat) (h : k < 256) : ((UInt8.ofNat k).toNat : Int) = (k : Int) := by
  rw [UInt8.toNat_ofNat']
  omega
theorem bi_push (p : List UInt8) (k : Nat) (h : k < 256) : bi p ++ [(k : Int)] = bi (p ++ [UInt8.ofNat k]) := by
  rw [bi_app, bi_cons, toNat_of k h]; rfl
theorem vint_len : ∀ (m u : Nat), u < 128 ^ (m + 1) → (vint u).length ≤ m + 1
  | 0, u, h => by rw [vint_lo (by simpa using h)]; simp
  | m + 1, u, h => by
    by_cases hu : u < 128
    · rw [vint_lo hu]; simp
    · rw [vint_hi hu]
      have := vint_len m (u / 128) (by rw [Nat.pow_succ] at h; omega)
      simp; omega
theorem num_loop (n : Nat) : ∀ (m j u : Nat) (p : List UInt8), u < 128 ^ (m + 1) → p.length + (vint u).length ≤ 140737488355328 →
    iterN (fun rc10 => q25z_s0 (ρ := Unit × (List Int) × Unit) n rc10 (fun (v7, o8, o9, _) =>
      ck (room (o9 ++ ([IntKind.wrap .u8 (v7)] : List Int)).length 1) (some ((()), o9 ++ ([IntKind.wrap .u8 (v7)] : List Int), ()))) (fun (_) => none)) (m + 1 + j) ((u : Int), (), bi p, ()) = some ((), bi (p ++ vint u), ()) := by
  intro m
  induction m with
  | zero =>
    intro j u p hu hl
    have hu' : u < 128 := by simpa using hu
    rw [vint_lo hu'] at hl ⊢
    rw [show 0 + 1 + j = j + 1 by omega, iterN]
    unfold q25z_s0
    dsimp only
    rw [decide_eq_false (by omega), cond_false]
    rw [wrapU8_mod, show u % 256 = u by omega, bi_push p u (by omega), ck_ok (room1 (by rw [bi_length]; simpa using hl))]
  | succ m ih =>
    intro j u p hu hl
    by_cases hu' : u < 128
    · rw [vint_lo hu'] at hl ⊢
      rw [show m + 1 + 1 + j = m + 1 + j + 1 by omega, iterN]
      unfold q25z_s0
      dsimp only
      rw [decide_eq_false (by omega), cond_false]
      rw [wrapU8_mod, show u % 256 = u by omega, bi_push p u (by omega), ck_ok (room1 (by rw [bi_length]; simpa using hl))]
    · rw [vint_hi hu'] at hl ⊢
      rw [show m + 1 + 1 + j = m + 1 + j + 1 by omega, iterN]
      have hr := ih j (u / 128) (p ++ [UInt8.ofNat (u % 128 + 128)]) (by rw [Nat.pow_succ] at hu; omega) (by simp at hl ⊢; omega)
      generalize iterN (fun rc10 => q25z_s0 (ρ := Unit × (List Int) × Unit) n rc10 (fun (v7, o8, o9, _) =>
        ck (room (o9 ++ ([IntKind.wrap .u8 (v7)] : List Int)).length 1) (some ((()), o9 ++ ([IntKind.wrap .u8 (v7)] : List Int), ()))) (fun (_) => none)) (m + 1 + j) = R at hr ⊢
      unfold q25z_s0
      dsimp only
      rw [decide_eq_true (by omega), cond_true]
      rw [wrapU8_mod, bor128 (by omega), show u % 256 % 128 + 128 = u % 128 + 128 by omega, bi_push p _ (by omega), ck_ok (room1 (by rw [bi_length]; simp at hl ⊢; omega))]
      rw [show bshr .u64 (u : Int) 7 = ((u / 128 : Nat) : Int) by show Int.fdiv (u : Int) (2 ^ 7) = _; rw [show (2 : Int) ^ 7 = 128 by decide, Int.fdiv_eq_ediv_of_nonneg _ (by omega)]; omega]
      rw [hr]
      simp
theorem ofInt_nat (x : Int) (h0 : 0 ≤ x) (h1 : x < 18446744073709551616) : (BitVec.ofInt 64 x).toNat = x.toNat := by
  rw [BitVec.toNat_ofInt]
  omega
theorem zig_ok (a : Int) (h0 : -9223372036854775808 ≤ a) (h1 : a ≤ 9223372036854775807) : bxor .u64 (bshl .u64 (IntKind.wrap .u64 a) 1) (IntKind.wrap .u64 (bshr .i64 a 63)) = (zig a : Int) := by
  unfold zig
  by_cases ha : a < 0
  · rw [if_pos ha]
    have e1 : bshr .i64 a 63 = -1 := by
      show Int.fdiv a (2 ^ 63) = -1
      rw [show (2 : Int) ^ 63 = 9223372036854775808 by decide, Int.fdiv_eq_ediv_of_nonneg _ (by omega)]
      omega
    rw [e1, show IntKind.wrap .u64 (-1) = 18446744073709551615 from by decide]
    rw [wrapU64_neg h0 ha]
    have e2 : bshl .u64 (a + 18446744073709551616) 1 = 2 * a + 18446744073709551616 := by
      show IntKind.wrap .u64 ((a + 18446744073709551616) * 2 ^ 1) = _
      simp only [IntKind.wrap, IntKind.bits, IntKind.signed]
      simp
      omega
    rw [e2]
    show IntKind.wrap .u64 (((BitVec.ofInt 64 (2 * a + 18446744073709551616)) ^^^ (BitVec.ofInt 64 18446744073709551615)).toNat : Int) = _
    rw [show BitVec.ofInt 64 18446744073709551615 = BitVec.allOnes 64 by decide, BitVec.xor_allOnes, BitVec.toNat_not, ofInt_nat _ (by omega) (by omega)]
    rw [wrapU64 (by omega) (by omega)]
    omega
  · rw [if_neg ha]
    have e1 : bshr .i64 a 63 = 0 := by
      show Int.fdiv a (2 ^ 63) = 0
      rw [show (2 : Int) ^ 63 = 9223372036854775808 by decide, Int.fdiv_eq_ediv_of_nonneg _ (by omega)]
      omega
    rw [e1, show IntKind.wrap .u64 0 = 0 from by decide]
    rw [wrapU64 (x := a) (by omega) (by omega)]
    have e2 : bshl .u64 a 1 = 2 * a := by
      show IntKind.wrap .u64 (a * 2 ^ 1) = _
      rw [show a * 2 ^ 1 = 2 * a by omega, wrapU64 (by omega) (by omega)]
    rw [e2]
    show IntKind.wrap .u64 (((BitVec.ofInt 64 (2 * a)) ^^^ (BitVec.ofInt 64 0)).toNat : Int) = _
    rw [show BitVec.ofInt 64 0 = 0#64 by decide, BitVec.xor_zero, ofInt_nat _ (by omega) (by omega), wrapU64 (by omega) (by omega)]
theorem zig_lt (a : Int) (h0 : -9223372036854775808 ≤ a) (h1 : a ≤ 9223372036854775807) : zig a < 128 ^ (9 + 1) := by
  have : (128 : Nat) ^ (9 + 1) = 1180591620717411303424 := by decide
  unfold zig
  split <;> omega
def B47 : Nat := 140737488355328
theorem wnum_ok (a : Int) (h0 : -9223372036854775808 ≤ a) (h1 : a ≤ 9223372036854775807) (p : List UInt8) (n : Nat) (hn : 10 ≤ n) (hl : p.length + (intB a).length ≤ B47) : q25z n (a, (), bi p, ()) = some ((), bi (p ++ intB a), ()) := by
  obtain ⟨j, rfl⟩ : ∃ j, n = 9 + 1 + j := ⟨n - 10, by omega⟩
  unfold q25z
  dsimp only
  rw [zig_ok a h0 h1]
  exact num_loop _ 9 j (zig a) p (zig_lt a h0 h1) hl
theorem intB_len (a : Int) (h0 : -9223372036854775808 ≤ a) (h1 : a ≤ 9223372036854775807) : (intB a).length ≤ 10 := vint_len 9 _ (zig_lt a h0 h1)
theorem wtext_ok (s : ByteArray) (hs : s.size ≤ 1000000) (p : List UInt8) (n : Nat) (hn : 10 ≤ n) (hl : p.length + (textB s).length ≤ B47) : q35z n (s, (), bi p, ()) = some ((), bi (p ++ textB s), ()) := by
  unfold textB at hl ⊢
  rw [List.length_append] at hl
  unfold q35z
  dsimp only
  rw [wnum_ok _ (by omega) (by omega) p n hn (by omega), Option.bind_some]
  dsimp only
  have e1 : s.data.toList.length = s.size := Array.length_toList
  rw [bytesI_eq, ← bi_app, ck_ok (room1 (by rw [bi_length]; simp only [List.length_append]; unfold B47 at hl; omega)), List.append_assoc]
theorem each_fold {α σ ρ : Type} {F : Int → α → σ → (σ → Option ρ) → Option ρ} {k : σ → Option ρ} (mk : List UInt8 → σ) (e : α → List UInt8) (ok : α → Prop) (h : ∀ i x p rec, ok x → p.length + (e x).length ≤ B47 → F i x (mk p) rec = rec (mk (p ++ e x))) :
    ∀ (l : List α) (i : Int) (p : List UInt8), (∀ x ∈ l, ok x) → p.length + (l.flatMap e).length ≤ B47 → foldK F k i l (mk p) = k (mk (p ++ l.flatMap e))
  | [], i, p, _, _ => by rw [List.flatMap_nil, List.append_nil]; rfl
  | x :: r, i, p, hx, hl => by
    rw [List.flatMap_cons, List.length_append] at hl
    rw [foldK, h i x p _ (hx x (by simp)) (by omega), each_fold mk e ok h r (i + 1) (p ++ e x) (fun y hy => hx y (by simp [hy])) (by rw [List.length_append]; omega)]
    rw [List.flatMap_cons, List.append_assoc]
theorem wtexts_ok (l : List ByteArray) (hs : ∀ s ∈ l, s.size ≤ 1000000) (hln : l.length ≤ 1000) (p : List UInt8) (n : Nat) (hn : 1010 ≤ n) (hl : p.length + (eachB textB l).length ≤ B47) :
    q8z n (l, (), bi p, ()) = some ((), bi (p ++ eachB textB l), ()) := by
  unfold eachB at hl ⊢
  rw [List.length_append] at hl
  unfold q8z
  dsimp only
  rw [wnum_ok _ (by omega) (by omega) p n (by omega) (by omega), Option.bind_some]
  dsimp only
  rw [R_q8z_s0 n _ _ l n _ _ (by omega) (by omega)]
  refine (each_fold (F := F_q8z_s0 n _) (fun p => ((), bi p, ())) textB (fun s => s.size ≤ 1000000) (fun i x p rec hx hp => ?_) l 0 _ hs (by rw [List.length_append]; omega)).trans ?_
  · unfold F_q8z_s0
    dsimp only
    rw [wtext_ok x hx p n (by omega) hp, Option.bind_some]
  · rw [List.append_assoc]
structure prpW (p : Prp) : Prop where
  nm : p.name.size ≤ 1000000
  r : Right p.val 1
theorem wprp_ok (x : Prp) (hx : prpW x) (p : List UInt8) (n : Nat) (hn : 1010 ≤ n) (hl : p.length + (prB8 x).length ≤ B47) : q21z n (x, (), (), bi p, ()) = some ((), (), bi (p ++ prB8 x), ()) := by
  unfold prB8 at hl ⊢
  rw [List.length_append] at hl
  unfold q21z
  dsimp only
  rw [wtext_ok x.name hx.nm p n (by omega) (by omega), Option.bind_some]
  dsimp only
  unfold q31z
  dsimp only
  simp only [Val.eta]
  rw [put_ok hx.r n _ (by omega) (by omega) (by omega) (by rw [List.length_append]; unfold B47 at hl; omega), Option.bind_some, List.append_assoc]
  rfl
theorem wprps_ok (l : List Prp) (hs : ∀ s ∈ l, prpW s) (hln : l.length ≤ 1000) (p : List UInt8) (n : Nat) (hn : 1010 ≤ n) (hl : p.length + (eachB prB8 l).length ≤ B47) :
    q30z n (l, (), bi p, ()) = some ((), bi (p ++ eachB prB8 l), ()) := by
  unfold eachB at hl ⊢
  rw [List.length_append] at hl
  unfold q30z q4z
  dsimp only
  rw [wnum_ok _ (by omega) (by omega) p n (by omega) (by omega), Option.bind_some]
  dsimp only
  rw [R_q4z_s0 n _ _ l n _ _ _ (by omega) (by omega)]
  refine (congrArg (fun z => Option.bind z _) (each_fold (F := F_q4z_s0 n _) (fun p => ((), bi p, (), ())) prB8 prpW (fun i x p rec hx hp => ?_) l 0 _ hs (by rw [List.length_append]; omega))).trans ?_
  · unfold F_q4z_s0
    dsimp only
    rw [show (Prp.mk x.name (Val.mk x.val.kind x.val.n x.val.s x.val.l)) = x from by rw [Val.eta], wprp_ok x hx p n (by omega) hp, Option.bind_some]
  · rw [List.append_assoc]
    rfl
structure nodW (x : Ev.Node) : Prop where
  i0 : -9223372036854775808 ≤ x.id
  i1 : x.id ≤ 9223372036854775807
  lb : x.labels.length ≤ 1000
  ls : ∀ s ∈ x.labels, s.size ≤ 1000000
  pl : x.props.length ≤ 1000
  ps : ∀ p ∈ x.props, prpW p
theorem wnod_ok (x : Ev.Node) (hx : nodW x) (p : List UInt8) (n : Nat) (hn : 1010 ≤ n) (hl : p.length + (nodB' x).length ≤ B47) : q47z n (x, (), (), bi p, ()) = some ((), (), bi (p ++ nodB' x), ()) := by
  unfold nodB' at hl ⊢
  simp only [List.length_append] at hl
  unfold q47z
  dsimp only
  rw [wnum_ok _ hx.i0 hx.i1 p n (by omega) (by omega), Option.bind_some]
  dsimp only
  rw [wtexts_ok _ hx.ls hx.lb _ n hn (by rw [List.length_append]; omega), Option.bind_some]
  dsimp only
  rw [wprps_ok _ hx.ps hx.pl _ n hn (by simp only [List.length_append]; omega), Option.bind_some]
  simp only [List.append_assoc]
structure edgW (x : Edg) : Prop where
  i0 : -9223372036854775808 ≤ x.id
  i1 : x.id ≤ 9223372036854775807
  s0 : -9223372036854775808 ≤ x.src
  s1 : x.src ≤ 9223372036854775807
  d0 : -9223372036854775808 ≤ x.dst
  d1 : x.dst ≤ 9223372036854775807
  ty : x.type.size ≤ 1000000
  pl : x.props.length ≤ 1000
  ps : ∀ p ∈ x.props, prpW p
theorem wedg_ok (x : Edg) (hx : edgW x) (p : List UInt8) (n : Nat) (hn : 1010 ≤ n) (hl : p.length + (edgB' x).length ≤ B47) : q48z n (x, (), (), bi p, ()) = some ((), (), bi (p ++ edgB' x), ()) := by
  unfold edgB' at hl ⊢
  simp only [List.length_append] at hl
  unfold q48z
  dsimp only
  rw [wnum_ok _ hx.i0 hx.i1 p n (by omega) (by omega), Option.bind_some]
  dsimp only
  rw [wnum_ok _ hx.s0 hx.s1 _ n (by omega) (by rw [List.length_append]; omega), Option.bind_some]
  dsimp only
  rw [wnum_ok _ hx.d0 hx.d1 _ n (by omega) (by simp only [List.length_append]; omega), Option.bind_some]
  dsimp only
  rw [wtext_ok _ hx.ty _ n (by omega) (by simp only [List.length_append]; omega), Option.bind_some]
  dsimp only
  rw [wprps_ok _ hx.ps hx.pl _ n hn (by simp only [List.length_append]; omega), Option.bind_some]
  simp only [List.append_assoc]
structure grfW (g : Graph) : Prop where
  n0 : -9223372036854775808 ≤ g.next
  n1 : g.next ≤ 9223372036854775807
  nl : g.nodes.length ≤ 1000
  el : g.edges.length ≤ 1000
  ns : ∀ x ∈ g.nodes, nodW x
  es : ∀ x ∈ g.edges, edgW x
theorem wgrf_ok (g : Graph) (hg : chkG g = 0) (hx : grfW g) (n : Nat) (hn : 1010 ≤ n) (hl : (grfB g).length ≤ B47) : q58z n (g, ()) = some (⟨(grfB g).toArray⟩, 0, ()) := by
  have h1 := hx.nl
  have h2 := hx.el
  have e0 := hl
  unfold grfB at hl
  unfold eachB at hl
  simp only [List.length_append] at hl
  unfold q58z
  dsimp only
  rw [Graph.eta, gcheck_ok g n (by omega), hg, Option.bind_some]
  dsimp only
  rw [show ((0 : Int) != 0) = false from rfl, cond_false]
  rw [show ([] : List Int) = bi [] from rfl, wnum_ok _ hx.n0 hx.n1 [] n (by omega) (by simp; omega), Option.bind_some]
  dsimp only
  unfold q12z q11z
  dsimp only
  rw [wnum_ok _ (by omega) (by omega) _ n (by omega) (by simp only [List.length_append, List.length_nil]; omega), Option.bind_some]
  dsimp only
  rw [R_q12z_s0 n _ _ g.nodes n _ _ _ (by omega) (by omega)]
  refine (congrArg (fun z => Option.bind z _) (each_fold (F := F_q12z_s0 n _) (fun p => ((), bi p, (), ())) nodB' nodW (fun i x p rec hx hp => ?_) g.nodes 0 _ hx.ns (by simp only [List.length_append, List.length_nil]; omega))).trans ?_
  · unfold F_q12z_s0
    dsimp only
    rw [show (Ev.Node.mk x.id x.labels x.props) = x from rfl, wnod_ok x hx p n (by omega) hp, Option.bind_some]
  rw [Option.bind_some]
  dsimp only
  rw [wnum_ok _ (by omega) (by omega) _ n (by omega) (by simp only [List.length_append, List.length_nil]; omega), Option.bind_some]
  dsimp only
  rw [R_q11z_s0 n _ _ g.edges n _ _ _ (by omega) (by omega)]
  refine (congrArg (fun z => Option.bind z _) (each_fold (F := F_q11z_s0 n _) (fun p => ((), bi p, (), ())) edgB' edgW (fun i x p rec hx hp => ?_) g.edges 0 _ hx.es (by simp only [List.length_append, List.length_nil]; omega))).trans ?_
  · unfold F_q11z_s0
    dsimp only
    rw [show (Ev.Edg.mk x.id x.src x.dst x.type x.props) = x from rfl, wedg_ok x hx p n (by omega) hp, Option.bind_some]
  rw [Option.bind_some]
  dsimp only
  rw [show ∀ a b c d e : List UInt8, ((((([] : List UInt8) ++ a) ++ b) ++ c) ++ d) ++ e = a ++ ((b ++ c) ++ (d ++ e)) from fun a b c d e => by simp, str_ok]
  rfl
end Pure


/- The program packs: a closed fact. -/
namespace Pure
open Esp Ev Go
theorem packed_at (m : Nat) : q26z (m + 100) () = some (true, ()) := by kernel_rfl
theorem packed_ok (n : Nat) (hn : 100 ≤ n) : q26z n () = some (true, ()) := by
  obtain ⟨m, rfl⟩ : ∃ m, n = m + 100 := ⟨n - 100, by omega⟩
  exact packed_at m
end Pure


/- How long the bytes of graphs are; the law. No program. -/
namespace Pure
open Esp Ev Go
set_option linter.unusedSimpArgs false
set_option linter.unusedVariables false

theorem nm_size {s : ByteArray} (h : nmB s = true) : s.size ≤ 12 := by
  unfold nmB at h
  cases h1 : (seq s ⟨#[]⟩) || (decide ((s.size : Int) > 12)) with
  | true => rw [h1] at h; cases h
  | false =>
    have := of_decide_eq_false (Bool.or_eq_false_iff.1 h1).2
    omega
theorem prpF_nm : ∀ {l : List Prp} {prev : ByteArray}, prpF prev l = 0 → ∀ x ∈ l, nmB x.name = true
  | [], _, _ => fun x hx => (by cases hx)
  | y :: r, prev, h => by
    rw [prpF] at h
    cases h1 : ((!(nmB y.name)) || (sless y.name prev || seq y.name prev)) || (y.val.kind == 0) with
    | true => rw [h1] at h; cases h
    | false =>
      rw [h1, cond_false] at h
      cases h2 : chk y.val 1 != 0 with
      | true => rw [h2, cond_true] at h; rw [h] at h2; cases h2
      | false =>
        rw [h2] at h
        intro x hx
        rcases List.mem_cons.1 hx with rfl | hx
        · have := (Bool.or_eq_false_iff.1 (Bool.or_eq_false_iff.1 h1).1).1
          simpa using this
        · exact prpF_nm h x hx
theorem prpE_nm {l : List Prp} (h : prpE l = 0) : ∀ x ∈ l, nmB x.name = true := by
  unfold prpE at h
  cases h1 : decide ((l.length : Int) > 6) with
  | true => rw [h1] at h; cases h
  | false => rw [h1] at h; exact prpF_nm h
theorem labF_nm : ∀ {l : List ByteArray} {prev : ByteArray}, labF prev l = 0 → ∀ x ∈ l, nmB x = true
  | [], _, _ => fun x hx => (by cases hx)
  | y :: r, prev, h => by
    rw [labF] at h
    cases h1 : (!(nmB y)) || (sless y prev || seq y prev) with
    | true => rw [h1] at h; cases h
    | false =>
      rw [h1] at h
      intro x hx
      rcases List.mem_cons.1 hx with rfl | hx
      · have := (Bool.or_eq_false_iff.1 h1).1
        simpa using this
      · exact labF_nm h x hx
theorem labE_nm {l : List ByteArray} (h : labE l = 0) : ∀ x ∈ l, nmB x = true := by
  unfold labE at h
  cases h1 : decide ((l.length : Int) > 4) with
  | true => rw [h1] at h; cases h
  | false => rw [h1] at h; exact labF_nm h
theorem edgF_nm {nodes : List Ev.Node} : ∀ {l : List Edg} {last : Int}, edgF nodes last l = 0 → ∀ x ∈ l, nmB x.type = true
  | [], _, _ => fun x hx => (by cases hx)
  | y :: r, last, h => by
    rw [edgF] at h
    cases h1 : decide (y.id ≤ last) with
    | true => rw [h1] at h; cases h
    | false =>
      cases h2 : (nodeIn nodes y.id).isSome with
      | true => rw [h1, h2] at h; cases h
      | false =>
        cases h3 : !(nmB y.type) with
        | true => rw [h1, h2, h3] at h; cases h
        | false =>
          cases h4 : (nodeIn nodes y.src).isNone with
          | true => rw [h1, h2, h3, h4] at h; cases h
          | false =>
            cases h5 : (nodeIn nodes y.dst).isNone with
            | true => rw [h1, h2, h3, h4, h5] at h; cases h
            | false =>
              rw [h1, h2, h3, h4, h5] at h
              simp only [cond_false] at h
              cases h6 : prpE y.props != 0 with
              | true => rw [h6, cond_true] at h; rw [h] at h6; cases h6
              | false =>
                rw [h6] at h
                intro x hx
                rcases List.mem_cons.1 hx with rfl | hx
                · simpa using h3
                · exact edgF_nm h x hx
theorem wfI_bd {n : Int} (h : wfI .i64 n) : -9223372036854775808 ≤ n ∧ n ≤ 9223372036854775807 := by
  have h1 : (Lit.int .i64 n).wf = true := h
  simp only [Lit.wf] at h1
  simp [IntKind.min, IntKind.max, IntKind.bits, IntKind.signed] at h1
  omega
theorem putLs_bulk {l : List Val} (h : ∀ x ∈ l, (putL x).length ≤ 9 * vBulk x) : (putLs l).length ≤ 9 * sumOn vBulk l := by
  induction l with
  | nil => simp [putLs]
  | cons x r ih =>
    have h1 := h x (by simp)
    have h2 := ih fun y hy => h y (by simp [hy])
    rw [putLs, List.length_append]
    simp only [sumOn]
    omega
theorem putL_bulk (v : Val) : (putL v).length ≤ 9 * vBulk v := by
  induction v using val_ind with
  | _ k a s l ih =>
    have := putLs_bulk ih
    have e1 : s.data.toList.length = s.size := Array.length_toList
    rw [putL, vBulk, vBulks_eq]
    split
    · simp only [List.length_cons, numB_length]; omega
    · split
      · simp only [List.length_cons, List.length_append, numB_length, e1]; omega
      · split
        · simp only [List.length_cons]; omega
        · simp only [List.length_cons, List.length_nil]; omega
def pB (p : Prp) : Nat := vBulk p.val
def nB (x : Ev.Node) : Nat := sumOn pB x.props
def eB (x : Edg) : Nat := sumOn pB x.props
def gB (g : Graph) : Nat := sumOn nB g.nodes + sumOn eB g.edges
theorem flat_len {α : Type} {e : α → List UInt8} {b : α → Nat} {c : Nat} : ∀ {l : List α}, (∀ x ∈ l, (e x).length ≤ c + 9 * b x) → (l.flatMap e).length ≤ c * l.length + 9 * sumOn b l
  | [], _ => by simp
  | x :: r, h => by
    have h1 := h x (by simp)
    have h2 := flat_len (l := r) fun y hy => h y (by simp [hy])
    rw [List.flatMap_cons, List.length_append, List.length_cons, Nat.mul_add]
    simp only [sumOn]
    omega
theorem each_len {α : Type} {e : α → List UInt8} {b : α → Nat} {c : Nat} {l : List α} (hl : l.length ≤ 1000) (h : ∀ x ∈ l, (e x).length ≤ c + 9 * b x) : (eachB e l).length ≤ 10 + c * l.length + 9 * sumOn b l := by
  unfold eachB
  have h1 := intB_len (l.length : Int) (by omega) (by omega)
  have h2 := flat_len h
  rw [List.length_append]
  omega
theorem text_len {s : ByteArray} (h : s.size ≤ 12) : (textB s).length ≤ 22 := by
  unfold textB
  have h1 := intB_len (s.size : Int) (by omega) (by omega)
  have e1 : s.data.toList.length = s.size := Array.length_toList
  rw [List.length_append]
  omega
theorem prps_len {l : List Prp} (h : prpE l = 0) : (eachB prB8 l).length ≤ 142 + 9 * sumOn pB l := by
  have hl := (prpE_0 h).1
  have := each_len (b := pB) (c := 22) (e := prB8) (l := l) (by omega) fun x hx => by
    unfold prB8 pB
    have h1 := text_len (nm_size (prpE_nm h x hx))
    have h2 := putL_bulk x.val
    rw [List.length_append]
    omega
  omega
theorem sumOn_zero {α : Type} : ∀ l : List α, sumOn (fun _ => 0) l = 0
  | [] => rfl
  | x :: r => by simp only [sumOn]; rw [sumOn_zero r]
theorem grf_len {g : Graph} (hw : gOk g) (hc : chkG g = 0) : (grfB g).length ≤ 40000 + 9 * gB g := by
  obtain ⟨k1, k2, k3, k4⟩ := chkG_0 hc
  have hn := wfI_bd hw.2.2
  have b0 := intB_len g.next hn.1 hn.2
  have b1 := each_len (b := nB) (c := 260) (e := nodB') (l := g.nodes) (by omega) fun x hx => by
    have hx2 := nodF_0 k3 x hx
    have hl := labE_0 hx2.1
    have hi := wfI_bd (hw.1.2 x hx).1
    have c1 := intB_len x.id hi.1 hi.2
    have c2 := each_len (b := fun _ => 0) (c := 22) (e := textB) (l := x.labels) (by omega) fun s hs => by have := text_len (nm_size (labE_nm hx2.1 s hs)); omega
    have c3 := prps_len hx2.2
    rw [sumOn_zero] at c2
    unfold nodB' nB
    simp only [List.length_append]
    omega
  have b2 := each_len (b := eB) (c := 260) (e := edgB') (l := g.edges) (by omega) fun x hx => by
    have hx2 := edgF_0 k4 x hx
    have hi := wfI_bd (hw.2.1.2 x hx).1
    have hs := wfI_bd (hw.2.1.2 x hx).2.1
    have hd := wfI_bd (hw.2.1.2 x hx).2.2.1
    have c1 := intB_len x.id hi.1 hi.2
    have c2 := intB_len x.src hs.1 hs.2
    have c3 := intB_len x.dst hd.1 hd.2
    have c4 := text_len (nm_size (edgF_nm k4 x hx))
    have c5 := prps_len hx2.1
    unfold edgB' eB
    simp only [List.length_append]
    omega
  unfold grfB gB
  simp only [List.length_append]
  omega
theorem prpW_of {l : List Prp} (hc : prpE l = 0) (hw : ∀ x ∈ l, pOk x) : ∀ x ∈ l, prpW x := fun x hx =>
  ⟨by have := nm_size (prpE_nm hc x hx); omega, right_of x.val 1 (hw x hx).2 ((prpE_0 hc).2 x hx)⟩
theorem grfW_of {g : Graph} (hw : gOk g) (hc : chkG g = 0) : grfW g := by
  obtain ⟨k1, k2, k3, k4⟩ := chkG_0 hc
  have hn := wfI_bd hw.2.2
  refine ⟨hn.1, hn.2, by omega, by omega, fun x hx => ?_, fun x hx => ?_⟩
  · have hx2 := nodF_0 k3 x hx
    have hl := labE_0 hx2.1
    have hi := wfI_bd (hw.1.2 x hx).1
    exact ⟨hi.1, hi.2, by omega, fun s hs => by have := nm_size (labE_nm hx2.1 s hs); omega, by have := (prpE_0 hx2.2).1; omega, prpW_of hx2.2 (hw.1.2 x hx).2.2.2⟩
  · have hx2 := edgF_0 k4 x hx
    have hi := wfI_bd (hw.2.1.2 x hx).1
    have hs := wfI_bd (hw.2.1.2 x hx).2.1
    have hd := wfI_bd (hw.2.1.2 x hx).2.2.1
    exact ⟨hi.1, hi.2, hs.1, hs.2, hd.1, hd.2, by have := nm_size (edgF_nm k4 x hx); omega, by have := (prpE_0 hx2.1).1; omega, prpW_of hx2.1 (hw.2.1.2 x hx).2.2.2.2.2⟩
theorem gRight {g : Graph} (h : grfW g) : (∀ x ∈ g.nodes, ∀ p ∈ x.props, Right p.val 1) ∧ ∀ x ∈ g.edges, ∀ p ∈ x.props, Right p.val 1 :=
  ⟨fun x hx p hp => ((h.ns x hx).ps p hp).r, fun x hx p hp => ((h.es x hx).ps p hp).r⟩
def packR (g : Graph) : ByteArray × Int := bif chkG g != 0 then (⟨#[]⟩, chkG g) else (⟨(grfB g).toArray⟩, 0)
theorem pack_ok (g : Graph) (hw : gOk g) (n : Nat) (hn : 1010 ≤ n) (hb : gB g ≤ 2000000) : q58z n (g, ()) = some ((packR g).1, (packR g).2, ()) := by
  unfold packR
  cases hc : chkG g != 0 with
  | true =>
    unfold q58z
    dsimp only
    rw [Graph.eta, gcheck_ok g n (by omega), Option.bind_some]
    dsimp only
    rw [hc]
    rfl
  | false =>
    have hc0 : chkG g = 0 := by simpa using hc
    have := grf_len hw hc0
    exact wgrf_ok g hc0 (grfW_of hw hc0) n hn (by unfold B47; omega)
theorem sameG_ok (g h : Graph) (n : Nat) (hw : gOk g) (hc : chkG g = 0) (hn : gSz g + 100 ≤ n) : ∃ b, q15z n (g, h, ()) = some (b, ()) ∧ (b = true ↔ g = h) := by
  have h1 := (graphS_of hc).nl
  have h2 := (graphS_of hc).el
  unfold gSz at hn
  unfold q15z
  dsimp only
  cases he : ((g.next : Int) == h.next) with
  | false =>
    refine ⟨false, rfl, ⟨fun h => (by cases h), fun e => ?_⟩⟩
    rw [e, beq_self_eq_true] at he
    cases he
  | true =>
    have e1 : g.next = h.next := by simpa using he
    rw [cond_true, eqN_list g.nodes h.nodes n (fun x hx => ⟨(gN hw hc x hx).1, by have := sum_mem nSz hx; omega⟩) (by omega) (by omega), Option.bind_some]
    dsimp only
    cases e2 : eqL eqN g.nodes h.nodes with
    | false =>
      refine ⟨false, rfl, ⟨fun h => (by cases h), fun e => ?_⟩⟩
      rw [e, eqN_refl] at e2
      cases e2
    | true =>
      have e3 : g.nodes = h.nodes := (eqL_iff fun x _ y _ => eqN_iff x y).1 e2
      rw [cond_true, eqE_list g.edges h.edges n (fun x hx => ⟨(gE hw hc x hx).1, by have := sum_mem eSz hx; omega⟩) (by omega) (by omega), Option.bind_some]
      dsimp only
      refine ⟨_, rfl, ⟨fun hb => ?_, fun e => ?_⟩⟩
      · have e4 : g.edges = h.edges := (eqL_iff fun x _ y _ => eqE_iff x y).1 hb
        cases g
        cases h
        dsimp only at e1 e3 e4
        rw [e1, e3, e4]
      · rw [e]; exact eqE_refl _
theorem PackOne_ok (g h : Graph) (n : Nat) (wg : gOk g) (wh : gOk h) (bg : gB g ≤ 2000000) (bh : gB h ≤ 2000000) (hn : gSz g + 1200 ≤ n) : q22z n (g, h, ()) = some (true, ()) := by
  unfold q22z
  dsimp only
  rw [Graph.eta, Graph.eta, pack_ok g wg n (by omega) bg, Option.bind_some]
  dsimp only
  rw [pack_ok h wh n (by omega) bh, Option.bind_some]
  dsimp only
  rw [packed_ok n (by omega), Option.bind_some]
  dsimp only
  rw [cond_true]
  unfold packR
  cases hg : chkG g != 0 with
  | true => rw [cond_true]; dsimp only; rw [hg]; rfl
  | false =>
    have cg : chkG g = 0 := by simpa using hg
    cases hh : chkG h != 0 with
    | true => rw [cond_true]; dsimp only; rw [hh]; rfl
    | false =>
      have ch : chkG h = 0 := by simpa using hh
      simp only [cond_false]
      rw [show (((0 : Int) != 0) || ((0 : Int) != 0)) = false from rfl, cond_false]
      obtain ⟨b, e1, e2⟩ := sameG_ok g h n wg cg (by omega)
      rw [e1, Option.bind_some]
      dsimp only
      congr 2
      rw [beq_iff_eq, Bool.eq_iff_iff, e2, seq_iff]
      constructor
      · intro e
        refine grf_inj (gRight (grfW_of wg cg)) (gRight (grfW_of wh ch)) ?_
        have := congrArg (fun s : ByteArray => s.data.toList) e
        simpa using this
      · intro e
        rw [e]
end Pure

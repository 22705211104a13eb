/- Several texts in one (merge.py). -/
import Derived.Test.YtnhbmojhcpcjaaaGreatDoorPA

/- Who may see what. No program. -/
namespace Pure
open Esp Ev Go
set_option linter.unusedSimpArgs false
set_option linter.unusedVariables false
set_option linter.unusedSimpArgs false
set_option linter.unusedVariables false

end Pure


/- Who sees what. No program. -/
namespace Pure
open Esp Ev Go
set_option linter.unusedSimpArgs false
set_option linter.unusedVariables false

theorem Grant.eta (g : Grant) : Grant.mk g.who g.labels = g := rfl

/-! ## what is in order -/
structure nodeS (x : Ev.Node) : Prop where
  lab : x.labels.length ≤ 4
  prp : prpE x.props = 0
structure graphS (g : Graph) : Prop where
  nl : g.nodes.length ≤ 40
  el : g.edges.length ≤ 60
  nd : ∀ x ∈ g.nodes, nodeS x
  ed : ∀ x ∈ g.edges, prpE x.props = 0
theorem graphS_of {g : Graph} (h : chkG g = 0) : graphS g := by
  obtain ⟨h1, h2, h3, h4⟩ := chkG_0 h
  exact ⟨h1, h2, fun x hx => ⟨labE_0 (nodF_0 h3 x hx).1, (nodF_0 h3 x hx).2⟩, fun x hx => (edgF_0 h4 x hx).1⟩

/-! ## copies -/
theorem copyP_ok (l : List Prp) (n : Nat) (hn : 60 ≤ n) (h : prpE l = 0) : q64z n (l, ()) = some (l, ()) := by
  obtain ⟨h6, hc⟩ := prpE_0 h
  unfold q64z
  dsimp only
  rw [R_q64z_s0 n _ _ l n [] (by omega) (by omega)]
  have key : ∀ (r p : List Prp) (i : Int), (∀ x ∈ r, chk x.val 1 = 0) → p.length + r.length ≤ 30 → foldK (F_q64z_s0 n (fun _ => none)) (fun s => some (s.1, ())) i r (p, ()) = some (p ++ r, ()) := by
    intro r
    induction r with
    | nil => intro p i _ _; simp [foldK]
    | cons x r ih =>
      intro p i hx hl
      rw [foldK]
      unfold F_q64z_s0
      dsimp only
      rw [Val.eta, copy_ok x.val 1 n (by omega) (by omega) (by omega) (hx x (by simp)), Option.bind_some]
      dsimp only
      rw [Val.eta, ck_ok (room_ok (by simp at hl ⊢; omega) (by omega))]
      refine (ih (p ++ [x]) (i + 1) (fun y hy => hx y (by simp [hy])) (by simp at hl ⊢; omega)).trans ?_
      simp
  exact (key l [] 0 hc (by simp; omega))
theorem clone_ok (l : List ByteArray) (h : l.length ≤ 4) : q28z (l, ()) = some (l, ()) := by
  unfold q28z nilq
  dsimp only
  rw [List.nil_append, ck_ok (room_ok (by omega) (by omega))]
  cases l with
  | nil => exact dem2_same _
  | cons a r => rfl
theorem copyN_ok (x : Ev.Node) (n : Nat) (hn : 60 ≤ n) (h : nodeS x) : q67z n (x, ()) = some (x, ()) := by
  unfold q67z
  dsimp only
  rw [clone_ok x.labels h.lab, Option.bind_some]
  dsimp only
  rw [copyP_ok x.props n hn h.prp]
  rfl
theorem copyE_ok (x : Edg) (n : Nat) (hn : 60 ≤ n) (h : prpE x.props = 0) : q66z n (x, ()) = some (x, ()) := by
  unfold q66z
  dsimp only
  rw [copyP_ok x.props n hn h]
  rfl

def both (l : List Ev.Node) (e : Edg) : Bool := (nodeIn l e.src).isSome && (nodeIn l e.dst).isSome
def g0 : Graph := ⟨[], [], 0⟩
end Pure


/- Differences of rising lists: what is taken out and put in makes the one of the other. Plain Lean. -/
namespace Pure
section
variable {α : Type} (id : α → Int) (same : α → α → Bool)
def delF (x : α) : List α → Option (List α)
  | [] => none
  | y :: r => bif same x y then some r else (delF x r).map (y :: ·)
def insF (x : α) : List α → Option (List α)
  | [] => some [x]
  | y :: r => if id y < id x then (insF x r).map (y :: ·) else if id y = id x then none else some (x :: y :: r)
def delsF : List α → List α → Option (List α)
  | [], l => some l
  | x :: g, l => (delF same x l).bind (delsF g)
def inssF : List α → List α → Option (List α)
  | [], l => some l
  | x :: g, l => (insF id x l).bind (inssF g)
def turnF (l gone fresh : List α) : Option (List α) := (delsF same gone l).bind (inssF id fresh)
abbrev Up (l : List α) : Prop := l.Pairwise fun a b => id a < id b
variable {id same}
theorem Up.inj {l : List α} (h : Up id l) {x y : α} (hx : x ∈ l) (hy : y ∈ l) (e : id x = id y) : x = y := by
  induction l with
  | nil => cases hx
  | cons z r ih =>
    have h2 := List.pairwise_cons.1 h
    rcases List.mem_cons.1 hx with e1 | hx2
    · rcases List.mem_cons.1 hy with e2 | hy2
      · exact e1.trans e2.symm
      · have := h2.1 y hy2; rw [← e1] at this; omega
    · rcases List.mem_cons.1 hy with e2 | hy2
      · have := h2.1 x hx2; rw [← e2] at this; omega
      · exact ih h2.2 hx2 hy2
theorem up_ext : ∀ {l m : List α}, Up id l → Up id m → (∀ x, x ∈ l ↔ x ∈ m) → l = m
  | [], [], _, _, _ => rfl
  | [], y :: r, _, _, h => by have := (h y).2 (by simp); cases this
  | x :: l, [], _, _, h => by have := (h x).1 (by simp); cases this
  | x :: l, y :: m, h1, h2, h => by
    have a1 := List.pairwise_cons.1 h1
    have a2 := List.pairwise_cons.1 h2
    have e : x = y := by
      rcases List.mem_cons.1 ((h x).1 (by simp)) with e | hx
      · exact e
      · rcases List.mem_cons.1 ((h y).2 (by simp)) with e | hy
        · exact e.symm
        · have := a1.1 y hy
          have := a2.1 x hx
          omega
    subst e
    refine congrArg (x :: ·) (up_ext a1.2 a2.2 fun z => ⟨fun hz => ?_, fun hz => ?_⟩)
    · rcases List.mem_cons.1 ((h z).1 (by simp [hz])) with rfl | h3
      · have := a1.1 z hz; omega
      · exact h3
    · rcases List.mem_cons.1 ((h z).2 (by simp [hz])) with rfl | h3
      · have := a2.1 z hz; omega
      · exact h3
theorem delF_ok {x : α} : ∀ {l : List α}, Up id l → (∀ y ∈ l, same x y = true ↔ x = y) → x ∈ l → ∃ l', delF same x l = some l' ∧ Up id l' ∧ ∀ y, y ∈ l' ↔ y ∈ l ∧ y ≠ x
  | [], _, _, h => by cases h
  | z :: r, h, hs, hx => by
    have h2 := List.pairwise_cons.1 h
    rw [delF]
    cases hz : same x z with
    | true =>
      have e := (hs z (by simp)).1 hz
      subst e
      refine ⟨r, rfl, h2.2, fun y => ⟨fun hy => ⟨by simp [hy], fun e => ?_⟩, fun ⟨hy, hn⟩ => ?_⟩⟩
      · subst e; have := h2.1 y hy; omega
      · rcases List.mem_cons.1 hy with rfl | hy
        · exact absurd rfl hn
        · exact hy
    | false =>
      have hne : x ≠ z := fun e => by rw [(hs z (by simp)).2 e] at hz; cases hz
      have hx2 : x ∈ r := by
        rcases List.mem_cons.1 hx with e | h
        · exact absurd e hne
        · exact h
      obtain ⟨l', h3, h4, h5⟩ := delF_ok h2.2 (fun y hy => hs y (by simp [hy])) hx2
      refine ⟨z :: l', by rw [cond_false, h3]; rfl, List.pairwise_cons.2 ⟨fun y hy => h2.1 y ((h5 y).1 hy).1, h4⟩, fun y => ?_⟩
      rw [List.mem_cons, List.mem_cons, h5 y]
      constructor
      · rintro (rfl | ⟨h6, h7⟩)
        · exact ⟨.inl rfl, fun e => hne e.symm⟩
        · exact ⟨.inr h6, h7⟩
      · rintro ⟨rfl | h6, h7⟩
        · exact .inl rfl
        · exact .inr ⟨h6, h7⟩
theorem insF_ok {x : α} : ∀ {l : List α}, Up id l → (∀ y ∈ l, id y ≠ id x) → ∃ l', insF id x l = some l' ∧ Up id l' ∧ ∀ y, y ∈ l' ↔ y ∈ l ∨ y = x
  | [], _, _ => ⟨[x], rfl, List.pairwise_singleton _ _, fun y => by simp⟩
  | z :: r, h, hn => by
    have h2 := List.pairwise_cons.1 h
    rw [insF]
    by_cases hz : id z < id x
    · obtain ⟨l', h3, h4, h5⟩ := insF_ok h2.2 (x := x) fun y hy => hn y (by simp [hy])
      refine ⟨z :: l', by rw [if_pos hz, h3]; rfl, List.pairwise_cons.2 ⟨fun y hy => ?_, h4⟩, fun y => ?_⟩
      · rcases (h5 y).1 hy with hy | rfl
        · exact h2.1 y hy
        · exact hz
      · rw [List.mem_cons, List.mem_cons, h5 y, or_assoc]
    · have hz2 := hn z (by simp)
      refine ⟨x :: z :: r, by rw [if_neg hz, if_neg hz2], List.pairwise_cons.2 ⟨fun y hy => ?_, h⟩, fun y => ?_⟩
      · rcases List.mem_cons.1 hy with rfl | hy
        · omega
        · have := h2.1 y hy; omega
      · rw [List.mem_cons, or_comm]
theorem delsF_ok : ∀ {g l : List α}, Up id l → g.Nodup → (∀ x ∈ g, x ∈ l) → (∀ x ∈ g, ∀ y ∈ l, same x y = true ↔ x = y) → ∃ l', delsF same g l = some l' ∧ Up id l' ∧ ∀ y, y ∈ l' ↔ y ∈ l ∧ y ∉ g
  | [], l, h, _, _, _ => ⟨l, rfl, h, fun y => by simp⟩
  | x :: g, l, h, hd, hg, hs => by
    have hd2 := List.nodup_cons.1 hd
    obtain ⟨l1, h1, h2, h3⟩ := delF_ok h (hs x (by simp)) (hg x (by simp))
    obtain ⟨l2, h4, h5, h6⟩ := delsF_ok (g := g) h2 hd2.2 (fun y hy => (h3 y).2 ⟨hg y (by simp [hy]), fun e => hd2.1 (e ▸ hy)⟩) (fun y hy z hz => hs y (by simp [hy]) z ((h3 z).1 hz).1)
    refine ⟨l2, by rw [delsF, h1]; exact h4, h5, fun y => ?_⟩
    rw [h6 y, h3 y, List.mem_cons, not_or, and_assoc]
theorem inssF_ok : ∀ {g l : List α}, Up id l → Up id g → (∀ x ∈ g, ∀ y ∈ l, id y ≠ id x) → ∃ l', inssF id g l = some l' ∧ Up id l' ∧ ∀ y, y ∈ l' ↔ y ∈ l ∨ y ∈ g
  | [], l, h, _, _ => ⟨l, rfl, h, fun y => by simp⟩
  | x :: g, l, h, hd, hg => by
    have hd2 := List.pairwise_cons.1 hd
    obtain ⟨l1, h1, h2, h3⟩ := insF_ok h (hg x (by simp))
    obtain ⟨l2, h4, h5, h6⟩ := inssF_ok (g := g) h2 hd2.2 (fun y hy z hz => by
      rcases (h3 z).1 hz with hz | rfl
      · exact hg y (by simp [hy]) z hz
      · have := hd2.1 y hy; omega)
    refine ⟨l2, by rw [inssF, h1]; exact h4, h5, fun y => ?_⟩
    rw [h6 y, h3 y, List.mem_cons, or_assoc]
theorem turnF_ok {l m : List α} (hl : Up id l) (hm : Up id m) (p q : α → Bool) (hp : ∀ x ∈ l, p x = true ↔ x ∉ m) (hq : ∀ x ∈ m, q x = true ↔ x ∉ l) (hs : ∀ x ∈ l, ∀ y ∈ l, same x y = true ↔ x = y) :
    turnF id same l (l.filter p) (m.filter q) = some m := by
  have nd : ∀ {l : List α}, Up id l → l.Nodup := fun h => h.imp fun {a b} hab e => by subst e; omega
  obtain ⟨l1, h1, h2, h3⟩ := delsF_ok (g := l.filter p) hl ((nd hl).filter _) (fun x hx => (List.mem_filter.1 hx).1) (fun x hx y hy => hs x (List.mem_filter.1 hx).1 y hy)
  have k3 : ∀ y, y ∈ l1 ↔ y ∈ l ∧ y ∈ m := fun y => by
    rw [h3 y]
    constructor
    · rintro ⟨a, b⟩
      refine ⟨a, Classical.byContradiction fun hn => b (List.mem_filter.2 ⟨a, (hp y a).2 hn⟩)⟩
    · rintro ⟨a, b⟩
      exact ⟨a, fun hf => (hp y a).1 (List.mem_filter.1 hf).2 b⟩
  obtain ⟨l2, h4, h5, h6⟩ := inssF_ok (g := m.filter q) h2 (hm.filter _) (fun x hx y hy e => by
    have hxm := List.mem_filter.1 hx
    have := hm.inj ((k3 y).1 hy).2 hxm.1 e
    subst this
    exact (hq y hxm.1).1 hxm.2 ((k3 y).1 hy).1)
  unfold turnF
  rw [h1, Option.bind_some, h4]
  refine congrArg some (up_ext h5 hm fun y => ?_)
  rw [h6 y, k3 y, List.mem_filter]
  constructor
  · rintro (⟨_, b⟩ | ⟨a, _⟩)
    · exact b
    · exact a
  · intro hy
    by_cases hyl : y ∈ l
    · exact .inl ⟨hyl, hy⟩
    · exact .inr ⟨hy, (hq y hy).2 hyl⟩
end
end Pure


/- Nodes and edges that are alike, by the program and by the document. No program. -/
namespace Pure
open Esp Ev Go
set_option linter.unusedSimpArgs false
set_option linter.unusedVariables false

def eqL {α β : Type} (eq : α → β → Bool) : List α → List β → Bool
  | [], [] => true
  | x :: r, y :: t => eq x y && eqL eq r t
  | _, _ => false
theorem eqL_iff {α : Type} {eq : α → α → Bool} : ∀ {l m : List α}, (∀ x ∈ l, ∀ y ∈ m, eq x y = true ↔ x = y) → (eqL eq l m = true ↔ l = m)
  | [], [], _ => by simp [eqL]
  | [], _ :: _, _ => by simp [eqL]
  | _ :: _, [], _ => by simp [eqL]
  | x :: r, y :: t, h => by
    rw [eqL, Bool.and_eq_true, h x (by simp) y (by simp), eqL_iff fun a ha b hb => h a (by simp [ha]) b (by simp [hb]), List.cons.injEq]
theorem eqL_len {α β : Type} {eq : α → β → Bool} : ∀ {l : List α} {m : List β}, l.length ≠ m.length → eqL eq l m = false
  | [], [], h => absurd rfl h
  | [], _ :: _, _ => rfl
  | _ :: _, [], _ => rfl
  | x :: r, y :: t, h => by
    rw [eqL, eqL_len (by simpa using h), Bool.and_false]
theorem eqK {α β ρ : Type} {F : Int → α → (List β × Unit) → ((List β × Unit) → Option ρ) → Option ρ} {eq : α → β → Bool} {m : List β} {kr : Bool × Unit → Option ρ} {k : (List β × Unit) → Option ρ} :
    ∀ (l : List α) (q r : List β), (∀ x ∈ l, ∀ i rec, F i x (m, ()) rec = (ix m i).bind fun y => bif !(eq x y) then kr (false, ()) else rec (m, ())) → m = q ++ r → l.length = r.length →
      foldK F k (q.length : Int) l (m, ()) = bif eqL eq l r then k (m, ()) else kr (false, ())
  | [], q, [], _, _, _ => rfl
  | [], _, _ :: _, _, _, h => by simp at h
  | _ :: _, _, [], _, _, h => by simp at h
  | x :: l, q, y :: r, hF, hm, h => by
    have ih := eqK (k := k) l (q ++ [y]) r (fun z hz => hF z (by simp [hz])) (by rw [hm]; simp) (by simpa using h)
    rw [show ((q ++ [y]).length : Int) = (q.length : Int) + 1 by simp] at ih
    rw [foldK, hF x (by simp), show ix m (q.length : Int) = some y from ix_ok (by rw [hm]; simp), Option.bind_some, eqL]
    cases eq x y with
    | true => rw [Bool.not_true, cond_false, Bool.true_and]; exact ih
    | false => rfl
def eqP (p q : Prp) : Bool := seq p.name q.name && (ordV p.val q.val == 0)
theorem eqP_iff (p q : Prp) : eqP p q = true ↔ p = q := by
  unfold eqP
  rw [Bool.and_eq_true, seq_iff, beq_iff_eq, ordV_zero]
  constructor
  · rintro ⟨h1, h2⟩; cases p; cases q; simp_all
  · rintro rfl; exact ⟨rfl, rfl⟩
def pSz' : List Prp → Nat
  | [] => 0
  | p :: r => vSz p.val + pSz' r
theorem pSz_mem : ∀ {l : List Prp} {p : Prp}, p ∈ l → vSz p.val ≤ pSz' l
  | q :: r, p, h => by
    rw [pSz']
    rcases List.mem_cons.1 h with rfl | h
    · omega
    · have := pSz_mem h; omega
theorem Prp.eta (p : Prp) : Prp.mk p.name (Val.mk p.val.kind p.val.n p.val.s p.val.l) = p := by rw [Val.eta]
theorem sameProps1_ok (p q : Prp) (n : Nat) (h : vOk p.val) (hn : vSz p.val + 6 ≤ n) : q58z n (p, q, ()) = some (eqP p q, ()) := by
  unfold q58z eqP
  dsimp only
  cases seq p.name q.name with
  | false => rfl
  | true =>
    simp only [cond_true]
    rw [Val.eta, Val.eta, order2_ok _ _ n h hn, Option.bind_some, Bool.true_and]
theorem sameProps_ok (l m : List Prp) (n : Nat) (h : ∀ p ∈ l, vOk p.val) (hl : l.length ≤ 9223372036854775807) (hn : pSz' l + l.length + 7 ≤ n) : q65z n (l, m, ()) = some (eqL eqP l m, ()) := by
  unfold q65z q6z
  dsimp only
  cases hc : ((l.length : Int) != (m.length : Int)) with
  | true =>
    rw [eqL_len (by rw [bne_iff_ne] at hc; omega)]
    rfl
  | false =>
    have hlen : l.length = m.length := by simp at hc; omega
    simp only [cond_false]
    rw [R_q6z_s0 n _ _ l n _ hl (by omega)]
    have key := eqK (F := F_q6z_s0 n (fun (v10, _) => some (v10, ()))) (eq := eqP) (m := m) (kr := fun (v10, _) => some (v10, ())) (k := fun _ => some (true, ())) l [] m (fun x hx i rec => by
      unfold F_q6z_s0
      dsimp only
      cases ix m i with
      | none => rfl
      | some y =>
        rw [Option.bind_some, Option.bind_some, Prp.eta, Prp.eta, sameProps1_ok x y n (h x hx) (by have := pSz_mem hx; omega), Option.bind_some]) rfl hlen
    refine (congrArg (fun z => Option.bind z (fun x : Bool × Unit => some (x.1, ()))) key).trans ?_
    cases eqL eqP l m <;> rfl
theorem equalS_any (l m : List ByteArray) (n : Nat) (hl : l.length ≤ 9223372036854775807) (hn : l.length < n) : q29z n (l, m, ()) = some (eqL seq l m, ()) := by
  unfold q29z
  dsimp only
  cases hc : ((l.length : Int) != (m.length : Int)) with
  | true =>
    rw [eqL_len (by rw [bne_iff_ne] at hc; omega)]
    rfl
  | false =>
    have hlen : l.length = m.length := by simp at hc; omega
    simp only [cond_false]
    rw [R_q29z_s0 n _ _ l n _ hl (by omega)]
    have key := eqK (F := F_q29z_s0 n (fun (v10, _) => some (v10, ()))) (eq := seq) (m := m) (kr := fun (v10, _) => some (v10, ())) (k := fun _ => some (true, ())) l [] m (fun x hx i rec => by
      unfold F_q29z_s0
      dsimp only) rfl hlen
    refine key.trans ?_
    cases eqL seq l m <;> rfl
theorem rsameV_any (v w : Val) (n : Nat) (h : vOk v) (hn : vSz v + 2 ≤ n) : q43z n (v, w, ()) = some (ordV v w == 0, ()) := by
  unfold q43z
  dsimp only
  rw [Val.eta, Val.eta, orderOf_ok v w n h hn, Option.bind_some]
theorem rsameProps1_ok (p q : Prp) (n : Nat) (h : vOk p.val) (hn : vSz p.val + 6 ≤ n) : q31z n (p, q, ()) = some (eqP p q, ()) := by
  unfold q31z eqP
  dsimp only
  cases seq p.name q.name with
  | false => rfl
  | true =>
    simp only [cond_true]
    rw [Val.eta, Val.eta, rsameV_any _ _ n h (by omega), Option.bind_some, Bool.true_and]
theorem rsameProps_ok (l m : List Prp) (n : Nat) (h : ∀ p ∈ l, vOk p.val) (hl : l.length ≤ 9223372036854775807) (hn : pSz' l + l.length + 7 ≤ n) : q42z n (l, m, ()) = some (eqL eqP l m, ()) := by
  unfold q42z q0z
  dsimp only
  cases hc : ((l.length : Int) != (m.length : Int)) with
  | true =>
    rw [eqL_len (by rw [bne_iff_ne] at hc; omega)]
    rfl
  | false =>
    have hlen : l.length = m.length := by simp at hc; omega
    simp only [cond_false]
    rw [R_q0z_s0 n _ _ l n _ hl (by omega)]
    have key := eqK (F := F_q0z_s0 n (fun (v10, _) => some (v10, ()))) (eq := eqP) (m := m) (kr := fun (v10, _) => some (v10, ())) (k := fun _ => some (true, ())) l [] m (fun x hx i rec => by
      unfold F_q0z_s0
      dsimp only
      cases ix m i with
      | none => rfl
      | some y =>
        rw [Option.bind_some, Option.bind_some, Prp.eta, Prp.eta, rsameProps1_ok x y n (h x hx) (by have := pSz_mem hx; omega), Option.bind_some]) rfl hlen
    refine (congrArg (fun z => Option.bind z (fun x : Bool × Unit => some (x.1, ()))) key).trans ?_
    cases eqL eqP l m <;> rfl
/-! ## nodes, edges -/
def eqN (x y : Ev.Node) : Bool := (x.id == y.id) && (eqL seq x.labels y.labels && eqL eqP x.props y.props)
def eqE (x y : Edg) : Bool := ((((x.id == y.id) && (x.src == y.src)) && (x.dst == y.dst)) && seq x.type y.type) && eqL eqP x.props y.props
theorem eqN_iff (x y : Ev.Node) : eqN x y = true ↔ x = y := by
  unfold eqN
  rw [Bool.and_eq_true, Bool.and_eq_true, beq_iff_eq, eqL_iff fun a _ b _ => seq_iff a b, eqL_iff fun a _ b _ => eqP_iff a b]
  constructor
  · rintro ⟨h1, h2, h3⟩; cases x; cases y; simp_all
  · rintro rfl; exact ⟨rfl, rfl, rfl⟩
theorem eqE_iff (x y : Edg) : eqE x y = true ↔ x = y := by
  unfold eqE
  rw [Bool.and_eq_true, Bool.and_eq_true, Bool.and_eq_true, Bool.and_eq_true, beq_iff_eq, beq_iff_eq, beq_iff_eq, seq_iff, eqL_iff fun a _ b _ => eqP_iff a b]
  constructor
  · rintro ⟨⟨⟨⟨h1, h2⟩, h3⟩, h4⟩, h5⟩; cases x; cases y; simp_all
  · rintro rfl; exact ⟨⟨⟨⟨rfl, rfl⟩, rfl⟩, rfl⟩, rfl⟩
def nSz (x : Ev.Node) : Nat := x.labels.length + pSz' x.props + x.props.length + 8
def eSz (x : Edg) : Nat := pSz' x.props + x.props.length + 8
theorem gsameN_ok (x y : Ev.Node) (n : Nat) (h : ∀ p ∈ x.props, vOk p.val) (h1 : x.labels.length ≤ 9223372036854775807) (h2 : x.props.length ≤ 9223372036854775807) (hn : nSz x ≤ n) : q70z n (x, y, ()) = some (eqN x y, ()) := by
  unfold nSz at hn
  unfold q70z eqN
  dsimp only
  cases x.id == y.id with
  | false => rfl
  | true =>
    simp only [cond_true]
    rw [equalS_any _ _ n h1 (by omega), Option.bind_some]
    dsimp only
    cases eqL seq x.labels y.labels with
    | false => rfl
    | true =>
      simp only [cond_true]
      rw [sameProps_ok _ _ n h h2 (by omega), Option.bind_some, Bool.true_and, Bool.true_and]
theorem rsameN_ok (x y : Ev.Node) (n : Nat) (h : ∀ p ∈ x.props, vOk p.val) (h1 : x.labels.length ≤ 9223372036854775807) (h2 : x.props.length ≤ 9223372036854775807) (hn : nSz x ≤ n) : q50z n (x, y, ()) = some (eqN x y, ()) := by
  unfold nSz at hn
  unfold q50z eqN
  dsimp only
  cases x.id == y.id with
  | false => rfl
  | true =>
    simp only [cond_true]
    rw [equalS_any _ _ n h1 (by omega), Option.bind_some]
    dsimp only
    cases eqL seq x.labels y.labels with
    | false => rfl
    | true =>
      simp only [cond_true]
      rw [rsameProps_ok _ _ n h h2 (by omega), Option.bind_some, Bool.true_and, Bool.true_and]
theorem gsameE_ok (x y : Edg) (n : Nat) (h : ∀ p ∈ x.props, vOk p.val) (h2 : x.props.length ≤ 9223372036854775807) (hn : eSz x ≤ n) : q69z n (x, y, ()) = some (eqE x y, ()) := by
  unfold eSz at hn
  unfold q69z eqE
  dsimp only
  cases (((x.id == y.id) && (x.src == y.src)) && (x.dst == y.dst)) && seq x.type y.type with
  | false => rfl
  | true =>
    simp only [cond_true]
    rw [sameProps_ok _ _ n h h2 (by omega), Option.bind_some, Bool.true_and]
theorem rsameE_ok (x y : Edg) (n : Nat) (h : ∀ p ∈ x.props, vOk p.val) (h2 : x.props.length ≤ 9223372036854775807) (hn : eSz x ≤ n) : q49z n (x, y, ()) = some (eqE x y, ()) := by
  unfold eSz at hn
  unfold q49z eqE
  dsimp only
  cases (((x.id == y.id) && (x.src == y.src)) && (x.dst == y.dst)) && seq x.type y.type with
  | false => rfl
  | true =>
    simp only [cond_true]
    rw [rsameProps_ok _ _ n h h2 (by omega), Option.bind_some, Bool.true_and]
end Pure


/- What differs between two graphs, by the program. No program. -/
namespace Pure
open Esp Ev Go
set_option linter.unusedSimpArgs false
set_option linter.unusedVariables false

theorem Node.eta (x : Ev.Node) : Ev.Node.mk x.id x.labels x.props = x := rfl
structure NL' (x : Ev.Node) : Prop where
  v : ∀ p ∈ x.props, vOk p.val
  l : x.labels.length ≤ 9223372036854775807
  p : x.props.length ≤ 9223372036854775807
theorem lackN1_ok (x y : Ev.Node) (n : Nat) (h : NL' x) (hn : nSz x ≤ n) : q39z n (y, (), (x, ()), ()) = some (eqN x y, (), (x, ()), ()) := by
  unfold q39z
  dsimp only
  rw [Node.eta, Node.eta, gsameN_ok x y n h.v h.l h.p hn, Option.bind_some]
theorem contN_loop {ρ : Type} (n : Nat) (x : Ev.Node) (h : NL' x) (hn : nSz x ≤ n) (kr : Int × Unit × (Ev.Node × Unit) × Unit → Option ρ) (k : (Unit × (Ev.Node × Unit) × Unit) → Option ρ) :
    ∀ (l : List Ev.Node) (i : Int), 0 ≤ i → ∃ j : Int, (l.any (eqN x) = true → 0 ≤ j) ∧ foldK (F_q16z_s0 n kr) k i l ((), (x, ()), ()) = bif l.any (eqN x) then kr (j, (), (x, ()), ()) else k ((), (x, ()), ())
  | [], i, hi => ⟨0, (fun _ => Int.le_refl 0), rfl⟩
  | y :: r, i, hi => by
    obtain ⟨j, h1, h2⟩ := contN_loop n x h hn kr k r (i + 1) (by omega)
    cases hy : eqN x y with
    | true =>
      refine ⟨i, fun _ => hi, ?_⟩
      rw [foldK]
      unfold F_q16z_s0
      dsimp only
      rw [Node.eta, Node.eta, lackN1_ok x y n h hn, Option.bind_some, hy, List.any_cons, hy]
      rfl
    | false =>
      refine ⟨j, fun ha => h1 (by rw [List.any_cons, hy, Bool.false_or] at ha; exact ha), ?_⟩
      rw [foldK]
      generalize foldK (F_q16z_s0 n kr) k (i + 1) r = R at h2
      unfold F_q16z_s0
      dsimp only
      rw [Node.eta, Node.eta, lackN1_ok x y n h hn, Option.bind_some, hy, List.any_cons, hy, Bool.false_or]
      exact h2
theorem contN_ok (l : List Ev.Node) (x : Ev.Node) (n : Nat) (h : NL' x) (hl : l.length ≤ 9223372036854775807) (hn : nSz x + l.length + 1 ≤ n) :
    q12z n (l, (), (x, ()), ()) = some (l.any (eqN x), (), (x, ()), ()) := by
  unfold q12z q16z
  dsimp only
  rw [R_q16z_s0 n _ _ l n _ _ hl (by omega)]
  obtain ⟨j, h1, h2⟩ := contN_loop (ρ := Int × Unit × (Ev.Node × Unit) × Unit) n x h (by omega) (fun (v15, o16, o17, _) => some (v15, (), ((Ev.Node.mk o17.1.id o17.1.labels o17.1.props), ()), ())) (fun (o7, o8, _) => some ((-1), (), ((Ev.Node.mk o8.1.id o8.1.labels o8.1.props), ()), ())) l 0 (by omega)
  refine (congrArg (fun z => Option.bind z (fun x : Int × Unit × (Ev.Node × Unit) × Unit => some (decide (x.1 ≥ 0), (), (Ev.Node.mk x.2.2.1.1.id x.2.2.1.1.labels x.2.2.1.1.props, ()), ()))) h2).trans ?_
  cases ha : l.any (eqN x) with
  | true =>
    show some (decide (j ≥ 0), (), (x, ()), ()) = _
    rw [decide_eq_true (h1 ha)]
  | false => rfl
end Pure


/- What differs between two graphs, told. No program. -/
namespace Pure
open Esp Ev Go
set_option linter.unusedSimpArgs false
set_option linter.unusedVariables false

theorem lackN_loop {ρ : Type} (n : Nat) (m : List Ev.Node) (hm : m.length ≤ 9223372036854775807) (kr : Unit → Option ρ) (k : (List Ev.Node × Unit × List Ev.Node × Unit) → Option ρ) :
    ∀ (l : List Ev.Node) (i : Int) (acc : List Ev.Node), (∀ x ∈ l, NL' x ∧ nodeS x ∧ nSz x + m.length + 61 ≤ n) → acc.length + l.length ≤ 1000 →
      foldK (F_q19z_s0 n kr) k i l (m, (), acc, ()) = k (m, (), acc ++ l.filter (fun x => !(m.any (eqN x))), ())
  | [], i, acc, _, _ => by rw [List.filter_nil, List.append_nil]; rfl
  | x :: r, i, acc, h, hl => by
    obtain ⟨h1, h2, h3⟩ := h x (by simp)
    rw [foldK]
    have ih := fun acc' hl' => lackN_loop n m hm kr k r (i + 1) acc' (fun y hy => h y (by simp [hy])) hl'
    generalize foldK (F_q19z_s0 n kr) k (i + 1) r = R at ih
    unfold F_q19z_s0
    dsimp only
    rw [Node.eta, contN_ok m x n h1 hm (by omega), Option.bind_some]
    dsimp only
    rw [List.filter_cons]
    cases ha : m.any (eqN x) with
    | true =>
      rw [Bool.not_true, cond_false, if_neg (by simp)]
      exact ih acc (by simp at hl ⊢; omega)
    | false =>
      rw [Bool.not_false, cond_true, if_pos rfl, Node.eta, copyN_ok x n (by omega) h2, Option.bind_some]
      dsimp only
      rw [Node.eta, ck_ok (room_ok (by simp at hl ⊢; omega) (by omega)), ih (acc ++ [x]) (by simp at hl ⊢; omega)]
      simp
theorem lackN_ok (l m : List Ev.Node) (n : Nat) (h : ∀ x ∈ l, NL' x ∧ nodeS x ∧ nSz x + m.length + 61 ≤ n) (hl : l.length ≤ 1000) (hm : m.length ≤ 9223372036854775807) (hn : l.length < n) :
    q19z n (l, m, ()) = some (l.filter (fun x => !(m.any (eqN x))), ()) := by
  unfold q19z
  dsimp only
  rw [R_q19z_s0 n _ _ l n _ _ _ (by omega) hn]
  refine (lackN_loop n m hm _ _ l 0 [] h (by simpa using hl)).trans ?_
  rw [List.nil_append]
end Pure


/- What differs between two graphs: edges (made of PTxn2, PTxn3 by substitution). No program. -/
namespace Pure
open Esp Ev Go
set_option linter.unusedSimpArgs false
set_option linter.unusedVariables false

theorem Edg.eta3 (x : Edg) : Ev.Edg.mk x.id x.src x.dst x.type x.props = x := rfl
structure EL' (x : Edg) : Prop where
  v : ∀ p ∈ x.props, vOk p.val
  p : x.props.length ≤ 9223372036854775807
theorem lackE1_ok (x y : Ev.Edg) (n : Nat) (h : EL' x) (hn : eSz x ≤ n) : q38z n (y, (), (x, ()), ()) = some (eqE x y, (), (x, ()), ()) := by
  unfold q38z
  dsimp only
  rw [Edg.eta3, Edg.eta3, gsameE_ok x y n h.v h.p hn, Option.bind_some]
theorem contE_loop {ρ : Type} (n : Nat) (x : Ev.Edg) (h : EL' x) (hn : eSz x ≤ n) (kr : Int × Unit × (Ev.Edg × Unit) × Unit → Option ρ) (k : (Unit × (Ev.Edg × Unit) × Unit) → Option ρ) :
    ∀ (l : List Ev.Edg) (i : Int), 0 ≤ i → ∃ j : Int, (l.any (eqE x) = true → 0 ≤ j) ∧ foldK (F_q15z_s0 n kr) k i l ((), (x, ()), ()) = bif l.any (eqE x) then kr (j, (), (x, ()), ()) else k ((), (x, ()), ())
  | [], i, hi => ⟨0, (fun _ => Int.le_refl 0), rfl⟩
  | y :: r, i, hi => by
    obtain ⟨j, h1, h2⟩ := contE_loop n x h hn kr k r (i + 1) (by omega)
    cases hy : eqE x y with
    | true =>
      refine ⟨i, fun _ => hi, ?_⟩
      rw [foldK]
      unfold F_q15z_s0
      dsimp only
      rw [Edg.eta3, Edg.eta3, lackE1_ok x y n h hn, Option.bind_some, hy, List.any_cons, hy]
      rfl
    | false =>
      refine ⟨j, fun ha => h1 (by rw [List.any_cons, hy, Bool.false_or] at ha; exact ha), ?_⟩
      rw [foldK]
      generalize foldK (F_q15z_s0 n kr) k (i + 1) r = R at h2
      unfold F_q15z_s0
      dsimp only
      rw [Edg.eta3, Edg.eta3, lackE1_ok x y n h hn, Option.bind_some, hy, List.any_cons, hy, Bool.false_or]
      exact h2
theorem contE_ok (l : List Ev.Edg) (x : Ev.Edg) (n : Nat) (h : EL' x) (hl : l.length ≤ 9223372036854775807) (hn : eSz x + l.length + 1 ≤ n) :
    q11z n (l, (), (x, ()), ()) = some (l.any (eqE x), (), (x, ()), ()) := by
  unfold q11z q15z
  dsimp only
  rw [R_q15z_s0 n _ _ l n _ _ hl (by omega)]
  obtain ⟨j, h1, h2⟩ := contE_loop (ρ := Int × Unit × (Ev.Edg × Unit) × Unit) n x h (by omega) (fun (v15, o16, o17, _) => some (v15, (), ((Ev.Edg.mk o17.1.id o17.1.src o17.1.dst o17.1.type o17.1.props), ()), ())) (fun (o7, o8, _) => some ((-1), (), ((Ev.Edg.mk o8.1.id o8.1.src o8.1.dst o8.1.type o8.1.props), ()), ())) l 0 (by omega)
  refine (congrArg (fun z => Option.bind z (fun x : Int × Unit × (Ev.Edg × Unit) × Unit => some (decide (x.1 ≥ 0), (), (Ev.Edg.mk x.2.2.1.1.id x.2.2.1.1.src x.2.2.1.1.dst x.2.2.1.1.type x.2.2.1.1.props, ()), ()))) h2).trans ?_
  cases ha : l.any (eqE x) with
  | true =>
    show some (decide (j ≥ 0), (), (x, ()), ()) = _
    rw [decide_eq_true (h1 ha)]
  | false => rfl

theorem lackE_loop {ρ : Type} (n : Nat) (m : List Ev.Edg) (hm : m.length ≤ 9223372036854775807) (kr : Unit → Option ρ) (k : (List Ev.Edg × Unit × List Ev.Edg × Unit) → Option ρ) :
    ∀ (l : List Ev.Edg) (i : Int) (acc : List Ev.Edg), (∀ x ∈ l, EL' x ∧ prpE x.props = 0 ∧ eSz x + m.length + 61 ≤ n) → acc.length + l.length ≤ 1000 →
      foldK (F_q18z_s0 n kr) k i l (m, (), acc, ()) = k (m, (), acc ++ l.filter (fun x => !(m.any (eqE x))), ())
  | [], i, acc, _, _ => by rw [List.filter_nil, List.append_nil]; rfl
  | x :: r, i, acc, h, hl => by
    obtain ⟨h1, h2, h3⟩ := h x (by simp)
    rw [foldK]
    have ih := fun acc' hl' => lackE_loop n m hm kr k r (i + 1) acc' (fun y hy => h y (by simp [hy])) hl'
    generalize foldK (F_q18z_s0 n kr) k (i + 1) r = R at ih
    unfold F_q18z_s0
    dsimp only
    rw [Edg.eta3, contE_ok m x n h1 hm (by omega), Option.bind_some]
    dsimp only
    rw [List.filter_cons]
    cases ha : m.any (eqE x) with
    | true =>
      rw [Bool.not_true, cond_false, if_neg (by simp)]
      exact ih acc (by simp at hl ⊢; omega)
    | false =>
      rw [Bool.not_false, cond_true, if_pos rfl, Edg.eta3, copyE_ok x n (by omega) h2, Option.bind_some]
      dsimp only
      rw [Edg.eta3, ck_ok (room_ok (by simp at hl ⊢; omega) (by omega)), ih (acc ++ [x]) (by simp at hl ⊢; omega)]
      simp
theorem lackE_ok (l m : List Ev.Edg) (n : Nat) (h : ∀ x ∈ l, EL' x ∧ prpE x.props = 0 ∧ eSz x + m.length + 61 ≤ n) (hl : l.length ≤ 1000) (hm : m.length ≤ 9223372036854775807) (hn : l.length < n) :
    q18z n (l, m, ()) = some (l.filter (fun x => !(m.any (eqE x))), ()) := by
  unfold q18z
  dsimp only
  rw [R_q18z_s0 n _ _ l n _ _ _ (by omega) hn]
  refine (lackE_loop n m hm _ _ l 0 [] h (by simpa using hl)).trans ?_
  rw [List.nil_append]
end Pure


/- Between, told. No program. -/
namespace Pure
open Esp Ev Go
set_option linter.unusedSimpArgs false
set_option linter.unusedVariables false

def lackN (l m : List Ev.Node) : List Ev.Node := l.filter fun x => !(m.any (eqN x))
def lackE (l m : List Edg) : List Edg := l.filter fun x => !(m.any (eqE x))
def deltaF (a b : Graph) : Delta := .mk (lackN a.nodes b.nodes) (lackN b.nodes a.nodes) (lackE a.edges b.edges) (lackE b.edges a.edges) a.next b.next
def delta0 : Delta := .mk [] [] [] [] 0 0
def betwF (a b : Graph) : Delta × Int := bif chkG a != 0 then (delta0, chkG a) else bif chkG b != 0 then (delta0, chkG b) else (deltaF a b, 0)
def gSz (g : Graph) : Nat := (g.nodes.map nSz).sum + (g.edges.map eSz).sum
theorem sum_mem {α : Type} (f : α → Nat) : ∀ {l : List α} {x : α}, x ∈ l → f x ≤ (l.map f).sum
  | y :: r, x, h => by
    rw [List.map_cons, List.sum_cons]
    rcases List.mem_cons.1 h with rfl | h
    · omega
    · have := sum_mem f h; omega
theorem gN {g : Graph} (hw : gOk g) (hc : chkG g = 0) : ∀ x ∈ g.nodes, NL' x ∧ nodeS x := fun x hx =>
  have h := (graphS_of hc).nd x hx
  have hp := prpE_0 h.prp
  ⟨⟨fun p hp' => ((hw.1.2 x hx).2.2.2 p hp').2, by have := h.lab; omega, by have := hp.1; omega⟩, h⟩
theorem gE {g : Graph} (hw : gOk g) (hc : chkG g = 0) : ∀ x ∈ g.edges, EL' x ∧ prpE x.props = 0 := fun x hx =>
  have h := (graphS_of hc).ed x hx
  have hp := prpE_0 h
  ⟨⟨fun p hp' => ((hw.2.1.2 x hx).2.2.2.2.2 p hp').2, by have := hp.1; omega⟩, h⟩
theorem between_ok (a b : Graph) (n : Nat) (ha : gOk a) (hb : gOk b) (hn : gSz a + gSz b + 400 ≤ n) : q78z n (a, b, ()) = some ((betwF a b).1, (betwF a b).2, ()) := by
  obtain ⟨m, rfl⟩ : ∃ m, n = m + 3 := ⟨n - 3, by omega⟩
  unfold q78z betwF
  dsimp only
  rw [iterN]
  unfold q78z_s0
  dsimp only
  rw [show decide ((0 : Int) < 2) = true from rfl, cond_true]
  rw [show ∀ x y : Graph, ix [x, y] (0 : Int) = some x from fun _ _ => rfl, Option.bind_some]
  dsimp only
  rw [show (Graph.mk a.nodes a.edges a.next) = a from rfl, gcheck_ok a _ (by omega), Option.bind_some]
  dsimp only
  cases h1 : chkG a != 0 with
  | true => rfl
  | false =>
    simp only [cond_false]
    rw [iterN]
    dsimp only
    rw [show IntKind.wrap .i64 ((0 : Int) + 1) = 1 from rfl, show decide ((1 : Int) < 2) = true from rfl, cond_true]
    rw [show ∀ x y : Graph, ix [x, y] (1 : Int) = some y from fun _ _ => rfl, Option.bind_some]
    dsimp only
    rw [show (Graph.mk b.nodes b.edges b.next) = b from rfl, gcheck_ok b _ (by omega), Option.bind_some]
    dsimp only
    cases h2 : chkG b != 0 with
    | true => rfl
    | false =>
      have ca : chkG a = 0 := by simpa using h1
      have cb : chkG b = 0 := by simpa using h2
      have sa := graphS_of ca
      have sb := graphS_of cb
      simp only [cond_false]
      rw [iterN]
      dsimp only
      rw [show IntKind.wrap .i64 ((1 : Int) + 1) = 2 from rfl, show decide ((2 : Int) < 2) = false from rfl, cond_false]
      unfold gSz at hn
      have nl1 := sa.nl
      have nl2 := sb.nl
      have el1 := sa.el
      have el2 := sb.el
      rw [lackN_ok a.nodes b.nodes _ (fun x hx => ⟨(gN ha ca x hx).1, (gN ha ca x hx).2, by have := sum_mem nSz hx; omega⟩) (by omega) (by omega) (by omega), Option.bind_some]
      dsimp only
      rw [lackN_ok b.nodes a.nodes _ (fun x hx => ⟨(gN hb cb x hx).1, (gN hb cb x hx).2, by have := sum_mem nSz hx; omega⟩) (by omega) (by omega) (by omega), Option.bind_some]
      dsimp only
      rw [lackE_ok a.edges b.edges _ (fun x hx => ⟨(gE ha ca x hx).1, (gE ha ca x hx).2, by have := sum_mem eSz hx; omega⟩) (by omega) (by omega) (by omega), Option.bind_some]
      dsimp only
      rw [lackE_ok b.edges a.edges _ (fun x hx => ⟨(gE hb cb x hx).1, (gE hb cb x hx).2, by have := sum_mem eSz hx; omega⟩) (by omega) (by omega) (by omega), Option.bind_some]
      rfl
end Pure


/- What differs turns the one graph into the other: the plain law. No program. -/
namespace Pure
open Esp Ev Go
set_option linter.unusedSimpArgs false
set_option linter.unusedVariables false

theorem lack_iff {α : Type} {eq : α → α → Bool} (he : ∀ x y, eq x y = true ↔ x = y) (x : α) (m : List α) : (!(m.any (eq x))) = true ↔ x ∉ m := by
  rw [Bool.not_eq_true', ← Bool.not_eq_true, List.any_eq_true]
  constructor
  · intro h hx
    exact h ⟨x, hx, (he x x).2 rfl⟩
  · rintro h ⟨y, hy, e⟩
    rw [(he x y).1 e] at h
    exact h hy
theorem turnN_ok {l m : List Ev.Node} (hl : Rise Ev.Node.id l) (hm : Rise Ev.Node.id m) : turnF Ev.Node.id eqN l (lackN l m) (lackN m l) = some m :=
  turnF_ok hl hm _ _ (fun x _ => lack_iff eqN_iff x m) (fun x _ => lack_iff eqN_iff x l) fun x _ y _ => eqN_iff x y
theorem turnE_ok {l m : List Edg} (hl : Rise Edg.id l) (hm : Rise Edg.id m) : turnF Edg.id eqE l (lackE l m) (lackE m l) = some m :=
  turnF_ok hl hm _ _ (fun x _ => lack_iff eqE_iff x m) (fun x _ => lack_iff eqE_iff x l) fun x _ y _ => eqE_iff x y
def backF (d : Delta) : Delta := .mk d.fresh d.gone d.freshE d.goneE d.dst d.src
theorem back_delta (a b : Graph) : backF (deltaF a b) = deltaF b a := rfl
end Pure

/- A list turned by a difference, by the program: nodes. No program. -/
namespace Pure
open Esp Ev Go
set_option linter.unusedSimpArgs false
set_option linter.unusedVariables false

theorem ixg {α ρ : Type} (l : List α) (j : Int) (f : α → Option ρ) : ((ix l j).bind fun _ => (l[j.toNat]?).bind f) = (ix l j).bind f := by
  unfold ix
  split
  · cases h : l[j.toNat]? <;> simp
  · rfl
theorem delF_idx {α : Type} {same : α → α → Bool} {x : α} : ∀ l : List α, delF same x l = (l.findIdx? (same x)).map fun k => l.take k ++ l.drop (k + 1)
  | [] => rfl
  | y :: r => by
    rw [delF, List.findIdx?_cons]
    cases h : same x y with
    | true => simp
    | false =>
      rw [cond_false, delF_idx r]
      cases r.findIdx? (same x) <;> simp
theorem delF_sub {α : Type} {same : α → α → Bool} {x : α} : ∀ {l l' : List α}, delF same x l = some l' → l'.Sublist l
  | [], _, h => by cases h
  | y :: r, l', h => by
    rw [delF] at h
    cases hs : same x y with
    | true => rw [hs] at h; cases h; exact List.sublist_cons_self ..
    | false =>
      rw [hs, cond_false, Option.map_eq_some_iff] at h
      obtain ⟨r', h1, rfl⟩ := h
      exact (delF_sub h1).cons_cons _
theorem delsF_sub {α : Type} {same : α → α → Bool} : ∀ {g l l' : List α}, delsF same g l = some l' → l'.Sublist l
  | [], l, l', h => by cases h; exact List.Sublist.refl _
  | x :: g, l, l', h => by
    rw [delsF, Option.bind_eq_some_iff] at h
    obtain ⟨l1, h1, h2⟩ := h
    exact (delsF_sub h2).trans (delF_sub h1)
theorem insF_at {α : Type} {id : α → Int} {x : α} : ∀ {l : List α} {k : Nat}, Rise id l → k ≤ l.length → (∀ (q : Nat) y, l[q]? = some y → q < k → id y < id x) → (∀ (q : Nat) y, l[q]? = some y → k ≤ q → id x ≤ id y) →
    insF id x l = if (∃ y, l[k]? = some y ∧ id y = id x) then none else some (l.take k ++ x :: l.drop k)
  | [], k, _, hk, _, _ => by
    have : k = 0 := by simpa using hk
    subst this
    simp [insF]
  | y :: r, 0, hr, _, _, h2 => by
    have hy := h2 0 y rfl (Nat.le_refl _)
    rw [insF, if_neg (by omega)]
    by_cases he : id y = id x
    · rw [if_pos he, if_pos ⟨y, rfl, he⟩]
    · rw [if_neg he, if_neg (by rintro ⟨z, hz, e⟩; cases hz; exact he e)]
      rfl
  | y :: r, k + 1, hr, hk, h1, h2 => by
    have hy := h1 0 y rfl (by omega)
    have hp := List.pairwise_cons.1 hr
    rw [insF, if_pos hy, insF_at (k := k) hp.2 (by simpa using hk) (fun q z hz hq => h1 (q + 1) z (by simpa using hz) (by omega)) fun q z hz hq => h2 (q + 1) z (by simpa using hz) (by omega)]
    by_cases he : ∃ z, r[k]? = some z ∧ id z = id x
    · rw [if_pos he, if_pos (by simpa using he)]; rfl
    · rw [if_neg he, if_neg (by simpa using he)]; rfl
theorem insF_rise {α : Type} {id : α → Int} {x : α} : ∀ {l l' : List α}, Rise id l → insF id x l = some l' → Rise id l' ∧ (∀ y, y ∈ l' ↔ y ∈ l ∨ y = x) ∧ l'.length = l.length + 1
  | [], l', _, h => by cases h; exact ⟨List.pairwise_singleton _ _, fun y => by simp, rfl⟩
  | z :: r, l', hr, h => by
    have hp := List.pairwise_cons.1 hr
    rw [insF] at h
    by_cases hz : id z < id x
    · rw [if_pos hz, Option.map_eq_some_iff] at h
      obtain ⟨r', h1, rfl⟩ := h
      obtain ⟨h2, h3, h4⟩ := insF_rise hp.2 h1
      refine ⟨List.pairwise_cons.2 ⟨fun y hy => ?_, h2⟩, fun y => by rw [List.mem_cons, List.mem_cons, h3 y, or_assoc], by simp [h4]⟩
      rcases (h3 y).1 hy with hy | rfl
      · exact hp.1 y hy
      · exact hz
    · rw [if_neg hz] at h
      by_cases he : id z = id x
      · rw [if_pos he] at h; cases h
      · rw [if_neg he] at h
        cases h
        refine ⟨List.pairwise_cons.2 ⟨fun y hy => ?_, hr⟩, fun y => by rw [List.mem_cons, or_comm], rfl⟩
        rcases List.mem_cons.1 hy with rfl | hy
        · omega
        · have := hp.1 y hy; omega

/-! ## nodes -/
theorem turnN1_ok (x y : Ev.Node) (n : Nat) (h : NL' x) (hn : nSz x ≤ n) : q46z n (y, (), (x, ()), ()) = some (eqN x y, (), (x, ()), ()) := by
  unfold q46z
  dsimp only
  rw [Node.eta, Node.eta, gsameN_ok x y n h.v h.l h.p hn, Option.bind_some]
theorem idxN_loop {ρ : Type} (n : Nat) (x : Ev.Node) (h : NL' x) (hn : nSz x ≤ n) (kx : Unit × (Ev.Node × Unit) × (List Ev.Node) × Unit → Option ρ) (kr : Int × Unit × (Ev.Node × Unit) × (List Ev.Node) × Unit → Option ρ) :
    ∀ (r p : List Ev.Node) (fuel : Nat), (p ++ r).length ≤ 1000 → r.length < fuel →
      iterN (fun rc => q14z_s0 n rc kx kr) fuel (((p ++ r).length : Int), (p.length : Int), (), (x, ()), p ++ r, ()) =
        match r.findIdx? (eqN x) with
        | some j => kr (((p.length + j : Nat) : Int), (), (x, ()), p ++ r, ())
        | none => kx ((), (x, ()), p ++ r, ())
  | _, _, 0, _, hf => by omega
  | [], p, m + 1, hl, _ => by
    rw [iterN]
    unfold q14z_s0
    dsimp only
    rw [decide_eq_false (by simp), cond_false]
    rfl
  | y :: r, p, m + 1, hl, hf => by
    rw [iterN]
    have ih := idxN_loop n x h hn kx kr r (p ++ [y]) m (by simpa using hl) (by simp at hf; omega)
    rw [List.append_assoc, List.singleton_append] at ih
    generalize iterN (fun rc => q14z_s0 n rc kx kr) m = R at ih ⊢
    unfold q14z_s0
    dsimp only
    rw [decide_eq_true (by simp; omega), cond_true, ixg, ix_ok (x := y) (by simp), Option.bind_some, Node.eta, Node.eta, turnN1_ok x y n h hn, Option.bind_some]
    dsimp only
    rw [List.findIdx?_cons]
    cases hy : eqN x y with
    | true => simp only [cond_true, if_true]; rfl
    | false =>
      rw [cond_false, if_neg (by simp), wrap64 (by omega) (by simp at hl; omega), Node.eta, show ((p.length : Int) + 1) = ((p ++ [y]).length : Int) by simp, ih]
      cases r.findIdx? (eqN x) with
      | none => rfl
      | some j =>
        dsimp only [Option.map_some]
        congr 3
        simp
        omega
theorem idxN_ok (l : List Ev.Node) (x : Ev.Node) (n : Nat) (h : NL' x) (hl : l.length ≤ 1000) (hn : nSz x + l.length + 1 ≤ n) :
    q14z n (l, (), (x, ()), ()) = some ((match l.findIdx? (eqN x) with | some j => (j : Int) | none => -1), l, (), (x, ()), ()) := by
  unfold q14z
  dsimp only
  have key := idxN_loop (ρ := Int × List Ev.Node × Unit × (Ev.Node × Unit) × Unit) n x h (by omega) (fun (o13, o14, o15, _) => some ((-1), o15, (()), ((Ev.Node.mk o14.1.id o14.1.labels o14.1.props), ()), ())) (fun (v16, o17, o18, o19, _) => some (v16, o19, (()), ((Ev.Node.mk o18.1.id o18.1.labels o18.1.props), ()), ())) l [] n (by simpa using hl) (by omega)
  simp only [List.nil_append] at key
  refine key.trans ?_
  cases l.findIdx? (eqN x) with
  | none => rfl
  | some j => simp
theorem turnN2_ok (x : Ev.Node) (t : Int) : q47z (x, t, (), ()) = some (cmpI x.id t, (), ()) := by
  unfold q47z q88z
  dsimp only
  rw [Option.bind_some, cmp_int_ok, Option.bind_some]
theorem binN_ok (l : List Ev.Node) (t : Int) (n : Nat) (hr : Rise Ev.Node.id l) (hl : l.length ≤ 1000) (hn : l.length < n) :
    ∃ k : Nat, k ≤ l.length ∧ (∀ (q : Nat) y, l[q]? = some y → q < k → y.id < t) ∧ (∀ (q : Nat) y, l[q]? = some y → k ≤ q → t ≤ y.id) ∧
      q4z n (t, l, (), ()) = some ((k : Int), (match l[k]? with | some y => decide (y.id = t) | none => false), l, (), ()) := by
  obtain ⟨k, h1, h2, h3, h4⟩ := bin_iter (ρ := Int × Bool × List Ev.Node × Unit × Unit) l Ev.Node.id t (fun x => some (cmpI x.id t, ())) (fun x => rfl) (fun i j => (t, (l.length : Int), i, j, (), l, ()))
    (fun rec => q4z_s0 n rec (fun (v13, v14, v15, o16, o17, _) =>
  (bif decide ((v15 : Int) < v14) then
  (ix o17 v15).bind fun _ =>
  ((o17)[(v15 : Int).toNat]?).bind fun e18 =>
  (q47z ((Ev.Node.mk e18.id e18.labels e18.props), v13, (()), ())).bind fun (y19, o20, _) => some (v15, (y19 : Int) == 0, o17, (()), ())
  else some (v15, false, o17, (()), ()))) (fun (_) => none)) (fun i => bif decide ((i : Int) < (l.length : Int)) then (ix l i).bind fun e18 => some (i, (cmpI e18.id t : Int) == 0, l, (()), ()) else some (i, false, l, (()), ()))
    (fun rec i j => by
      unfold q4z_s0
      dsimp only
      simp only [ixg, Node.eta, turnN2_ok, Option.bind_some]) hr (by omega) n 0 l.length (by omega) (by omega) (by omega) (fun q x _ h => absurd h (by omega)) (fun q x h h' => by
    obtain ⟨h5, _⟩ := List.getElem?_eq_some_iff.1 h; omega)
  refine ⟨k, h2, h3, h4, ?_⟩
  have e0 : q4z n (t, l, (), ()) = _ := h1
  rw [e0]
  by_cases hk : k < l.length
  · have e1 := List.getElem?_eq_getElem hk
    have e2 : ix l (k : Int) = some l[k] := ix_ok e1
    rw [decide_eq_true (by omega), cond_true, e2, Option.bind_some, cmpI_zero, e1]
  · rw [decide_eq_false (by omega), cond_false, List.getElem?_eq_none (by omega)]
theorem insN_ok {α : Type} {l : List α} {x : α} {k : Nat} (hk : k ≤ l.length) (hl : l.length ≤ 1000) : insN ((k : Int), l, [x], ()) = some (l.take k ++ x :: l.drop k, [x], ()) := by
  unfold insN
  dsimp only
  rw [decide_eq_true (by omega), Int.toNat_natCast, Nat.ble_eq_true_of_le hk, Nat.ble_eq_true_of_le (by omega)]
  rfl
theorem delN_ok {α : Type} {l : List α} {k : Nat} (hk : k < l.length) : delN ((k : Int), (k : Int) + 1, l, ()) = some (l.take k ++ l.drop (k + 1), ()) := by
  unfold delN
  dsimp only
  rw [decide_eq_true (by omega), decide_eq_true (by omega), Int.toNat_natCast, show ((k : Int) + 1).toNat = k + 1 by omega, Nat.ble_eq_true_of_le hk]
  rfl
theorem goneN_loop {ρ : Type} (n : Nat) (kr : List Ev.Node × Bool × Unit → Option ρ) (k : (List Ev.Node × Unit × Unit × List Ev.Node × Unit) → Option ρ) (v : List Ev.Node) :
    ∀ (g : List Ev.Node) (i : Int) (l : List Ev.Node), (∀ x ∈ g, NL' x ∧ nSz x + 1001 ≤ n) → l.length ≤ 1000 →
      foldK (F_q23z_s0 n kr) k i g (v, (), (), l, ()) = match delsF eqN g l with
        | some l' => k (v, (), (), l', ())
        | none => kr ([], false, ())
  | [], i, l, _, _ => rfl
  | x :: g, i, l, h, hl => by
    obtain ⟨h1, h2⟩ := h x (by simp)
    rw [foldK]
    have ih := fun l' hl' => goneN_loop n kr k v g (i + 1) l' (fun y hy => h y (by simp [hy])) hl'
    generalize foldK (F_q23z_s0 n kr) k (i + 1) g = R at ih ⊢
    unfold F_q23z_s0
    dsimp only
    rw [Node.eta, idxN_ok l x n h1 hl (by omega), Option.bind_some, delsF]
    dsimp only
    have hd := delF_idx (same := eqN) (x := x) l
    cases hf : l.findIdx? (eqN x) with
    | none =>
      rw [hf] at hd
      rw [hd]
      rfl
    | some j =>
      rw [hf, Option.map_some] at hd
      have hj : j < l.length := by
        have := (List.findIdx?_eq_some_iff_findIdx_eq.1 hf).1
        exact this
      dsimp only
      rw [decide_eq_false (by omega), cond_false, wrap64 (by omega) (by omega), delN_ok hj, Option.bind_some, hd, Option.bind_some]
      dsimp only
      exact ih _ (by simp; omega)
theorem freshN_loop {ρ : Type} (n : Nat) (kr : List Ev.Node × Bool × Unit → Option ρ) (k : (Unit × List Ev.Node × Unit) → Option ρ) :
    ∀ (g : List Ev.Node) (i : Int) (l : List Ev.Node), Rise Ev.Node.id l → l.length + g.length ≤ 900 → 1000 ≤ n →
      foldK (F_q23z_s2 n kr) k i g ((), l, ()) = match inssF Ev.Node.id g l with
        | some l' => k ((), l', ())
        | none => kr ([], false, ())
  | [], i, l, _, _, _ => rfl
  | x :: g, i, l, hr, hl, hn => by
    rw [foldK]
    have ih := fun l' hr' hl' => freshN_loop n kr k g (i + 1) l' hr' hl' hn
    generalize foldK (F_q23z_s2 n kr) k (i + 1) g = R at ih ⊢
    unfold F_q23z_s2 q88z
    dsimp only
    simp only [List.length_cons] at hl
    obtain ⟨q, h1, h2, h3, h4⟩ := binN_ok l x.id n hr (by omega) (by omega)
    rw [Option.bind_some, h4, Option.bind_some, inssF]
    dsimp only
    have hi := insF_at (id := Ev.Node.id) (x := x) hr h1 h2 h3
    by_cases he : ∃ y, l[q]? = some y ∧ y.id = x.id
    · rw [if_pos he] at hi
      obtain ⟨y, hy, hy2⟩ := he
      rw [hi, hy]
      dsimp only
      rw [decide_eq_true hy2]
      rfl
    · rw [if_neg he] at hi
      have hb : (match l[q]? with | some y => decide (y.id = x.id) | none => false) = false := by
        cases hq : l[q]? with
        | none => rfl
        | some y => exact decide_eq_false fun e => he ⟨y, hq, e⟩
      rw [hb, cond_false, Node.eta, insN_ok h1 (by omega), Option.bind_some, hi, Option.bind_some]
      dsimp only
      obtain ⟨h5, _, h6⟩ := insF_rise hr hi
      exact ih _ h5 (by rw [h6]; omega)
theorem turnedN_ok (l gone fresh : List Ev.Node) (n : Nat) (hr : Rise Ev.Node.id l) (hl : l.length ≤ 100) (hg : ∀ x ∈ gone, NL' x ∧ nSz x + 1001 ≤ n) (hgl : gone.length < n) (hgm : gone.length ≤ 9223372036854775807) (hfl : fresh.length ≤ 100) (hn : 1001 ≤ n) :
    q23z n (l, gone, fresh, ()) = match turnF Ev.Node.id eqN l gone fresh with
      | some r => some (r, true, ())
      | none => some ([], false, ()) := by
  have hc : q25z (l, ()) = some (l, ()) := by
    unfold q25z nilq
    dsimp only
    rw [List.nil_append, ck_ok (room_ok (by omega) (by omega))]
    first | done | (cases l with
      | nil => exact dem2_same _
      | cons a r => rfl)
  unfold q23z turnF
  dsimp only
  rw [hc, Option.bind_some]
  dsimp only
  rw [R_q23z_s0 n _ _ gone n _ _ _ _ hgm hgl, goneN_loop n _ _ fresh gone 0 l hg (by omega)]
  cases hd : delsF eqN gone l with
  | none => rfl
  | some l1 =>
    have hs := delsF_sub hd
    have hl1 := hs.length_le
    dsimp only
    rw [R_q23z_s2 n _ _ fresh n _ _ (by omega) (by omega), freshN_loop n _ _ fresh 0 l1 (List.Pairwise.sublist hs hr) (by omega) (by omega), Option.bind_some]
end Pure

/- A list turned by a difference, by the program: edges. No program. -/
namespace Pure
open Esp Ev Go
set_option linter.unusedSimpArgs false
set_option linter.unusedVariables false

/-! ## edges -/
theorem turnE1_ok (x y : Ev.Edg) (n : Nat) (h : EL' x) (hn : eSz x ≤ n) : q44z n (y, (), (x, ()), ()) = some (eqE x y, (), (x, ()), ()) := by
  unfold q44z
  dsimp only
  rw [Edg.eta3, Edg.eta3, gsameE_ok x y n h.v h.p hn, Option.bind_some]
theorem idxE_loop {ρ : Type} (n : Nat) (x : Ev.Edg) (h : EL' x) (hn : eSz x ≤ n) (kx : Unit × (Ev.Edg × Unit) × (List Ev.Edg) × Unit → Option ρ) (kr : Int × Unit × (Ev.Edg × Unit) × (List Ev.Edg) × Unit → Option ρ) :
    ∀ (r p : List Ev.Edg) (fuel : Nat), (p ++ r).length ≤ 1000 → r.length < fuel →
      iterN (fun rc => q13z_s0 n rc kx kr) fuel (((p ++ r).length : Int), (p.length : Int), (), (x, ()), p ++ r, ()) =
        match r.findIdx? (eqE x) with
        | some j => kr (((p.length + j : Nat) : Int), (), (x, ()), p ++ r, ())
        | none => kx ((), (x, ()), p ++ r, ())
  | _, _, 0, _, hf => by omega
  | [], p, m + 1, hl, _ => by
    rw [iterN]
    unfold q13z_s0
    dsimp only
    rw [decide_eq_false (by simp), cond_false]
    rfl
  | y :: r, p, m + 1, hl, hf => by
    rw [iterN]
    have ih := idxE_loop n x h hn kx kr r (p ++ [y]) m (by simpa using hl) (by simp at hf; omega)
    rw [List.append_assoc, List.singleton_append] at ih
    generalize iterN (fun rc => q13z_s0 n rc kx kr) m = R at ih ⊢
    unfold q13z_s0
    dsimp only
    rw [decide_eq_true (by simp; omega), cond_true, ixg, ix_ok (x := y) (by simp), Option.bind_some, Edg.eta3, Edg.eta3, turnE1_ok x y n h hn, Option.bind_some]
    dsimp only
    rw [List.findIdx?_cons]
    cases hy : eqE x y with
    | true => simp only [cond_true, if_true]; rfl
    | false =>
      rw [cond_false, if_neg (by simp), wrap64 (by omega) (by simp at hl; omega), Edg.eta3, show ((p.length : Int) + 1) = ((p ++ [y]).length : Int) by simp, ih]
      cases r.findIdx? (eqE x) with
      | none => rfl
      | some j =>
        dsimp only [Option.map_some]
        congr 3
        simp
        omega
theorem idxE_ok (l : List Ev.Edg) (x : Ev.Edg) (n : Nat) (h : EL' x) (hl : l.length ≤ 1000) (hn : eSz x + l.length + 1 ≤ n) :
    q13z n (l, (), (x, ()), ()) = some ((match l.findIdx? (eqE x) with | some j => (j : Int) | none => -1), l, (), (x, ()), ()) := by
  unfold q13z
  dsimp only
  have key := idxE_loop (ρ := Int × List Ev.Edg × Unit × (Ev.Edg × Unit) × Unit) n x h (by omega) (fun (o13, o14, o15, _) => some ((-1), o15, (()), ((Ev.Edg.mk o14.1.id o14.1.src o14.1.dst o14.1.type o14.1.props), ()), ())) (fun (v16, o17, o18, o19, _) => some (v16, o19, (()), ((Ev.Edg.mk o18.1.id o18.1.src o18.1.dst o18.1.type o18.1.props), ()), ())) l [] n (by simpa using hl) (by omega)
  simp only [List.nil_append] at key
  refine key.trans ?_
  cases l.findIdx? (eqE x) with
  | none => rfl
  | some j => simp
theorem turnE2_ok (x : Ev.Edg) (t : Int) : q45z (x, t, (), ()) = some (cmpI x.id t, (), ()) := by
  unfold q45z q89z
  dsimp only
  rw [Option.bind_some, cmp_int_ok, Option.bind_some]
theorem binE_ok (l : List Ev.Edg) (t : Int) (n : Nat) (hr : Rise Ev.Edg.id l) (hl : l.length ≤ 1000) (hn : l.length < n) :
    ∃ k : Nat, k ≤ l.length ∧ (∀ (q : Nat) y, l[q]? = some y → q < k → y.id < t) ∧ (∀ (q : Nat) y, l[q]? = some y → k ≤ q → t ≤ y.id) ∧
      q3z n (t, l, (), ()) = some ((k : Int), (match l[k]? with | some y => decide (y.id = t) | none => false), l, (), ()) := by
  obtain ⟨k, h1, h2, h3, h4⟩ := bin_iter (ρ := Int × Bool × List Ev.Edg × Unit × Unit) l Ev.Edg.id t (fun x => some (cmpI x.id t, ())) (fun x => rfl) (fun i j => (t, (l.length : Int), i, j, (), l, ()))
    (fun rec => q3z_s0 n rec (fun (v13, v14, v15, o16, o17, _) =>
  (bif decide ((v15 : Int) < v14) then
  (ix o17 v15).bind fun _ =>
  ((o17)[(v15 : Int).toNat]?).bind fun e18 =>
  (q45z ((Ev.Edg.mk e18.id e18.src e18.dst e18.type e18.props), v13, (()), ())).bind fun (y19, o20, _) => some (v15, (y19 : Int) == 0, o17, (()), ())
  else some (v15, false, o17, (()), ()))) (fun (_) => none)) (fun i => bif decide ((i : Int) < (l.length : Int)) then (ix l i).bind fun e18 => some (i, (cmpI e18.id t : Int) == 0, l, (()), ()) else some (i, false, l, (()), ()))
    (fun rec i j => by
      unfold q3z_s0
      dsimp only
      simp only [ixg, Edg.eta3, turnE2_ok, Option.bind_some]) hr (by omega) n 0 l.length (by omega) (by omega) (by omega) (fun q x _ h => absurd h (by omega)) (fun q x h h' => by
    obtain ⟨h5, _⟩ := List.getElem?_eq_some_iff.1 h; omega)
  refine ⟨k, h2, h3, h4, ?_⟩
  have e0 : q3z n (t, l, (), ()) = _ := h1
  rw [e0]
  by_cases hk : k < l.length
  · have e1 := List.getElem?_eq_getElem hk
    have e2 : ix l (k : Int) = some l[k] := ix_ok e1
    rw [decide_eq_true (by omega), cond_true, e2, Option.bind_some, cmpI_zero, e1]
  · rw [decide_eq_false (by omega), cond_false, List.getElem?_eq_none (by omega)]
theorem goneE_loop {ρ : Type} (n : Nat) (kr : List Ev.Edg × Bool × Unit → Option ρ) (k : (List Ev.Edg × Unit × Unit × List Ev.Edg × Unit) → Option ρ) (v : List Ev.Edg) :
    ∀ (g : List Ev.Edg) (i : Int) (l : List Ev.Edg), (∀ x ∈ g, EL' x ∧ eSz x + 1001 ≤ n) → l.length ≤ 1000 →
      foldK (F_q22z_s0 n kr) k i g (v, (), (), l, ()) = match delsF eqE g l with
        | some l' => k (v, (), (), l', ())
        | none => kr ([], false, ())
  | [], i, l, _, _ => rfl
  | x :: g, i, l, h, hl => by
    obtain ⟨h1, h2⟩ := h x (by simp)
    rw [foldK]
    have ih := fun l' hl' => goneE_loop n kr k v g (i + 1) l' (fun y hy => h y (by simp [hy])) hl'
    generalize foldK (F_q22z_s0 n kr) k (i + 1) g = R at ih ⊢
    unfold F_q22z_s0
    dsimp only
    rw [Edg.eta3, idxE_ok l x n h1 hl (by omega), Option.bind_some, delsF]
    dsimp only
    have hd := delF_idx (same := eqE) (x := x) l
    cases hf : l.findIdx? (eqE x) with
    | none =>
      rw [hf] at hd
      rw [hd]
      rfl
    | some j =>
      rw [hf, Option.map_some] at hd
      have hj : j < l.length := by
        have := (List.findIdx?_eq_some_iff_findIdx_eq.1 hf).1
        exact this
      dsimp only
      rw [decide_eq_false (by omega), cond_false, wrap64 (by omega) (by omega), delN_ok hj, Option.bind_some, hd, Option.bind_some]
      dsimp only
      exact ih _ (by simp; omega)
theorem freshE_loop {ρ : Type} (n : Nat) (kr : List Ev.Edg × Bool × Unit → Option ρ) (k : (Unit × List Ev.Edg × Unit) → Option ρ) :
    ∀ (g : List Ev.Edg) (i : Int) (l : List Ev.Edg), Rise Ev.Edg.id l → l.length + g.length ≤ 900 → 1000 ≤ n →
      foldK (F_q22z_s2 n kr) k i g ((), l, ()) = match inssF Ev.Edg.id g l with
        | some l' => k ((), l', ())
        | none => kr ([], false, ())
  | [], i, l, _, _, _ => rfl
  | x :: g, i, l, hr, hl, hn => by
    rw [foldK]
    have ih := fun l' hr' hl' => freshE_loop n kr k g (i + 1) l' hr' hl' hn
    generalize foldK (F_q22z_s2 n kr) k (i + 1) g = R at ih ⊢
    unfold F_q22z_s2 q89z
    dsimp only
    simp only [List.length_cons] at hl
    obtain ⟨q, h1, h2, h3, h4⟩ := binE_ok l x.id n hr (by omega) (by omega)
    rw [Option.bind_some, h4, Option.bind_some, inssF]
    dsimp only
    have hi := insF_at (id := Ev.Edg.id) (x := x) hr h1 h2 h3
    by_cases he : ∃ y, l[q]? = some y ∧ y.id = x.id
    · rw [if_pos he] at hi
      obtain ⟨y, hy, hy2⟩ := he
      rw [hi, hy]
      dsimp only
      rw [decide_eq_true hy2]
      rfl
    · rw [if_neg he] at hi
      have hb : (match l[q]? with | some y => decide (y.id = x.id) | none => false) = false := by
        cases hq : l[q]? with
        | none => rfl
        | some y => exact decide_eq_false fun e => he ⟨y, hq, e⟩
      rw [hb, cond_false, Edg.eta3, insN_ok h1 (by omega), Option.bind_some, hi, Option.bind_some]
      dsimp only
      obtain ⟨h5, _, h6⟩ := insF_rise hr hi
      exact ih _ h5 (by rw [h6]; omega)
theorem turnedE_ok (l gone fresh : List Ev.Edg) (n : Nat) (hr : Rise Ev.Edg.id l) (hl : l.length ≤ 100) (hg : ∀ x ∈ gone, EL' x ∧ eSz x + 1001 ≤ n) (hgl : gone.length < n) (hgm : gone.length ≤ 9223372036854775807) (hfl : fresh.length ≤ 100) (hn : 1001 ≤ n) :
    q22z n (l, gone, fresh, ()) = match turnF Ev.Edg.id eqE l gone fresh with
      | some r => some (r, true, ())
      | none => some ([], false, ()) := by
  have hc : q24z (l, ()) = some (l, ()) := by
    unfold q24z nilq
    dsimp only
    rw [List.nil_append, ck_ok (room_ok (by omega) (by omega))]
    first | done | (cases l with
      | nil => exact dem2_same _
      | cons a r => rfl)
  unfold q22z turnF
  dsimp only
  rw [hc, Option.bind_some]
  dsimp only
  rw [R_q22z_s0 n _ _ gone n _ _ _ _ hgm hgl, goneE_loop n _ _ fresh gone 0 l hg (by omega)]
  cases hd : delsF eqE gone l with
  | none => rfl
  | some l1 =>
    have hs := delsF_sub hd
    have hl1 := hs.length_le
    dsimp only
    rw [R_q22z_s2 n _ _ fresh n _ _ (by omega) (by omega), freshE_loop n _ _ fresh 0 l1 (List.Pairwise.sublist hs hr) (by omega) (by omega), Option.bind_some]
end Pure


/- A graph copied, a graph turned, told. No program. -/
namespace Pure
open Esp Ev Go
set_option linter.unusedSimpArgs false
set_option linter.unusedVariables false

theorem push_fold {α σ ρ : Type} {F : Int → α → σ → (σ → Option ρ) → Option ρ} {k : σ → Option ρ} (mk : List α → σ) (ok : α → Prop) (h : ∀ i x acc rec, ok x → acc.length ≤ 500 → F i x (mk acc) rec = rec (mk (acc ++ [x]))) :
    ∀ (l : List α) (i : Int) (acc : List α), (∀ x ∈ l, ok x) → acc.length + l.length ≤ 500 → foldK F k i l (mk acc) = k (mk (acc ++ l))
  | [], i, acc, _, _ => by rw [List.append_nil]; rfl
  | x :: r, i, acc, hx, hl => by
    rw [foldK, h i x acc _ (hx x (by simp)) (by omega), push_fold mk ok h r (i + 1) (acc ++ [x]) (fun y hy => hx y (by simp [hy])) (by simp at hl ⊢; omega)]
    simp
theorem copyG_ok (g : Graph) (n : Nat) (hn : 80 ≤ n) (h : graphS g) : q85z n (g, ()) = some (g, ()) := by
  have h1 := h.nl
  have h2 := h.el
  unfold q85z
  dsimp only
  rw [R_q85z_s0 n _ _ g.nodes n _ _ _ _ (by omega) (by omega)]
  refine (push_fold (F := F_q85z_s0 n _) (fun a => ((Ev.Graph.mk g.nodes g.edges g.next, ()), (Ev.Graph.mk [] [] 0, ()), (g.next, ()), a, ())) nodeS (fun i x acc rec hx ha => ?_) g.nodes 0 [] h.nd (by simp; omega)).trans ?_
  · unfold F_q85z_s0
    dsimp only
    rw [Node.eta, copyN_ok x n (by omega) hx, Option.bind_some]
    dsimp only
    rw [Node.eta, ck_ok (room_ok (by simp; omega) (by omega))]
  dsimp only
  rw [R_q85z_s2 n _ _ g.edges n _ _ _ _ (by omega) (by omega)]
  refine (push_fold (F := F_q85z_s2 n _) (fun a => ((Ev.Graph.mk [] [] 0, ()), (g.next, ()), [] ++ g.nodes, a, ())) (fun x : Edg => prpE x.props = 0) (fun i x acc rec hx ha => ?_) g.edges 0 [] h.ed (by simp; omega)).trans ?_
  · unfold F_q85z_s2
    dsimp only
    rw [Edg.eta3, copyE_ok x n (by omega) hx, Option.bind_some]
    dsimp only
    rw [Edg.eta3, ck_ok (room_ok (by simp; omega) (by omega))]
  rfl
def turnR (g : Graph) (d : Delta) : Graph × Int :=
  bif chkG g != 0 then (.mk [] [] 0, chkG g) else bif d.src != g.next then (.mk [] [] 0, 6) else
  bif decide ((d.fresh.length : Int) > 60) || decide ((d.freshE.length : Int) > 60) then (.mk [] [] 0, 2) else
  match turnF Ev.Node.id eqN g.nodes d.gone d.fresh, turnF Edg.id eqE g.edges d.goneE d.freshE with
  | some a, some b => bif chkG (.mk a b d.dst) != 0 then (.mk [] [] 0, chkG (.mk a b d.dst)) else (.mk a b d.dst, 0)
  | _, _ => (.mk [] [] 0, 6)
theorem turn_ok (g : Graph) (d : Delta) (n : Nat) (hg : ∀ x ∈ d.gone, NL' x ∧ nSz x + 1010 ≤ n) (he : ∀ x ∈ d.goneE, EL' x ∧ eSz x + 1010 ≤ n) (h1 : d.gone.length + 3 < n) (h2 : d.goneE.length + 3 < n)
    (h3 : d.gone.length ≤ 9223372036854775807) (h4 : d.goneE.length ≤ 9223372036854775807) (hn : 1010 ≤ n) :
    txn_Turn n (g, d, ()) = some ((turnR g d).1, (turnR g d).2, ()) := by
  obtain ⟨m, rfl⟩ : ∃ m, n = m + 3 := ⟨n - 3, by omega⟩
  unfold txn_Turn turnR
  dsimp only
  rw [show (Graph.mk g.nodes g.edges g.next) = g from rfl, gcheck_ok g _ (by omega), Option.bind_some]
  dsimp only
  cases hc : chkG g != 0 with
  | true => rfl
  | false =>
    have hc0 : chkG g = 0 := by simpa using hc
    simp only [cond_false]
    cases hs : d.src != g.next with
    | true => rfl
    | false =>
      simp only [cond_false]
      rw [iterN]
      unfold txn_Turn_s0
      dsimp only
      rw [show decide ((0 : Int) < 2) = true from rfl, cond_true]
      rw [show ∀ x y : Int, ix [x, y] (0 : Int) = some x from fun _ _ => rfl, Option.bind_some]
      cases hf : decide ((d.fresh.length : Int) > 60) with
      | true => rfl
      | false =>
        simp only [cond_false, Bool.false_or]
        rw [iterN]
        dsimp only
        rw [show IntKind.wrap .i64 ((0 : Int) + 1) = 1 from rfl, show decide ((1 : Int) < 2) = true from rfl, cond_true]
        rw [show ∀ x y : Int, ix [x, y] (1 : Int) = some y from fun _ _ => rfl, Option.bind_some]
        cases hf2 : decide ((d.freshE.length : Int) > 60) with
        | true => rfl
        | false =>
          have hf3 := of_decide_eq_false hf
          have hf4 := of_decide_eq_false hf2
          simp only [cond_false]
          rw [iterN]
          dsimp only
          rw [show IntKind.wrap .i64 ((1 : Int) + 1) = 2 from rfl, show decide ((2 : Int) < 2) = false from rfl, cond_false]
          obtain ⟨k1, k2, k3, k4⟩ := chkG_0 hc0
          rw [turnedN_ok g.nodes d.gone d.fresh _ (nodF_rise k3).2.1 (by omega) (fun x hx => ⟨(hg x hx).1, by have := (hg x hx).2; omega⟩) (by omega) h3 (by omega) (by omega)]
          rw [turnedE_ok g.edges d.goneE d.freshE _ (edgF_rise k4).2.1 (by omega) (fun x hx => ⟨(he x hx).1, by have := (he x hx).2; omega⟩) (by omega) h4 (by omega) (by omega)]
          cases ha : turnF Ev.Node.id eqN g.nodes d.gone d.fresh with
          | none =>
            cases hb : turnF Edg.id eqE g.edges d.goneE d.freshE with
            | none => rfl
            | some b => rfl
          | some a =>
            cases hb : turnF Edg.id eqE g.edges d.goneE d.freshE with
            | none => rfl
            | some b =>
              dsimp only [Option.bind_some]
              simp only [Bool.not_true, Bool.or_self, cond_false]
              rw [gcheck_ok _ _ (by omega), Option.bind_some]
              dsimp only
              cases hr : chkG (Graph.mk a b d.dst) != 0 with
              | true => rfl
              | false =>
                have hr0 : chkG (Graph.mk a b d.dst) = 0 := by simpa using hr
                simp only [cond_false]
                rw [copyG_ok _ _ (by omega) (graphS_of hr0), Option.bind_some]
theorem turnR_ok {a b : Graph} (ha : chkG a = 0) (hb : chkG b = 0) : turnR a (deltaF a b) = (b, 0) := by
  obtain ⟨k1, k2, k3, k4⟩ := chkG_0 ha
  obtain ⟨j1, j2, j3, j4⟩ := chkG_0 hb
  have n1 := (nodF_rise k3).2.1
  have n2 := (nodF_rise j3).2.1
  have e1 := (edgF_rise k4).2.1
  have e2 := (edgF_rise j4).2.1
  have l1 : (lackN b.nodes a.nodes).length ≤ b.nodes.length := List.length_filter_le _ _
  have l2 : (lackE b.edges a.edges).length ≤ b.edges.length := List.length_filter_le _ _
  unfold turnR deltaF
  dsimp only
  rw [ha, show ((0 : Int) != 0) = false from rfl, cond_false, show (a.next != a.next) = false by simp, cond_false, decide_eq_false (by omega), decide_eq_false (by omega), turnN_ok n1 n2, turnE_ok e1 e2, Bool.or_false, cond_false]
  dsimp only
  rw [show (Graph.mk b.nodes b.edges b.next) = b from rfl, hb]
  rfl
end Pure


/- Turned back, told. No program. -/
namespace Pure
open Esp Ev Go
set_option linter.unusedSimpArgs false
set_option linter.unusedVariables false

structure deltaS (d : Delta) : Prop where
  gl : d.gone.length ≤ 100
  fl : d.fresh.length ≤ 100
  gel : d.goneE.length ≤ 100
  fel : d.freshE.length ≤ 100
  g : ∀ x ∈ d.gone, nodeS x
  f : ∀ x ∈ d.fresh, nodeS x
  ge : ∀ x ∈ d.goneE, prpE x.props = 0
  fe : ∀ x ∈ d.freshE, prpE x.props = 0
theorem back_ok (d : Delta) (n : Nat) (hn : 120 ≤ n) (h : deltaS d) : txn_Back n (d, ()) = some (backF d, ()) := by
  have h1 := h.gl
  have h2 := h.fl
  have h3 := h.gel
  have h4 := h.fel
  unfold txn_Back
  dsimp only
  rw [R_txn_Back_s2 n _ _ d.gone n _ _ _ _ _ _ _ (by omega) (by omega)]
  refine (push_fold (F := F_txn_Back_s2 n _) (fun a => (0, (d.gone, d.fresh, ()), (d, ()), (Ev.Delta.mk [] [] [] [] 0 0, ()), (d.dst, d.src, ()), (d.gone, ()), a, ())) nodeS (fun i x acc rec hx ha => ?_) d.gone 0 [] h.g (by simp; omega)).trans ?_
  · unfold F_txn_Back_s2
    dsimp only
    rw [Node.eta, copyN_ok x n (by omega) hx, Option.bind_some]
    dsimp only
    rw [Node.eta, ck_ok (room_ok (by simp; omega) (by omega))]
  dsimp only
  rw [show IntKind.wrap .i64 ((0 : Int) + 1) = 1 from rfl, show decide ((1 : Int) < 2) = true from rfl, cond_true, show ((1 : Int) == 0) = false from rfl, cond_false, show ((1 : Int) == 1) = true from rfl, cond_true]
  rw [R_txn_Back_s2v0 n _ _ d.fresh n _ _ _ _ _ _ _ _ (by omega) (by omega)]
  refine (push_fold (F := F_txn_Back_s2v0 n _) (fun a => (1, (d.gone, d.fresh, ()), (d, ()), (Ev.Delta.mk [] [] [] [] 0 0, ()), (d.dst, d.src, ()), (d.fresh, ()), a, [] ++ d.gone, ())) nodeS (fun i x acc rec hx ha => ?_) d.fresh 0 [] h.f (by simp; omega)).trans ?_
  · unfold F_txn_Back_s2v0
    dsimp only
    rw [Node.eta, copyN_ok x n (by omega) hx, Option.bind_some]
    dsimp only
    rw [Node.eta, ck_ok (room_ok (by simp; omega) (by omega))]
  dsimp only
  rw [show IntKind.wrap .i64 ((1 : Int) + 1) = 2 from rfl, show decide ((2 : Int) < 2) = false from rfl, cond_false]
  rw [R_txn_Back_s4 n _ _ d.goneE n _ _ _ _ _ _ (by omega) (by omega)]
  refine (push_fold (F := F_txn_Back_s4 n _) (fun a => ((d, ()), (Ev.Delta.mk [] [] [] [] 0 0, ()), (d.dst, d.src, ()), [] ++ d.fresh, [] ++ d.gone, a, ())) (fun x : Edg => prpE x.props = 0) (fun i x acc rec hx ha => ?_) d.goneE 0 [] h.ge (by simp; omega)).trans ?_
  · unfold F_txn_Back_s4
    dsimp only
    rw [Edg.eta3, copyE_ok x n (by omega) hx, Option.bind_some]
    dsimp only
    rw [Edg.eta3, ck_ok (room_ok (by simp; omega) (by omega))]
  dsimp only
  rw [R_txn_Back_s6 n _ _ d.freshE n _ _ _ _ _ _ (by omega) (by omega)]
  refine (push_fold (F := F_txn_Back_s6 n _) (fun a => ((Ev.Delta.mk [] [] [] [] 0 0, ()), (d.dst, d.src, ()), [] ++ d.fresh, [] ++ d.gone, a, [] ++ d.goneE, ())) (fun x : Edg => prpE x.props = 0) (fun i x acc rec hx ha => ?_) d.freshE 0 [] h.fe (by simp; omega)).trans ?_
  · unfold F_txn_Back_s6
    dsimp only
    rw [Edg.eta3, copyE_ok x n (by omega) hx, Option.bind_some]
    dsimp only
    rw [Edg.eta3, ck_ok (room_ok (by simp; omega) (by omega))]
  rfl
theorem deltaF_S {a b : Graph} (ha : chkG a = 0) (hb : chkG b = 0) : deltaS (deltaF a b) := by
  have sa := graphS_of ha
  have sb := graphS_of hb
  have h1 := sa.nl
  have h2 := sa.el
  have h3 := sb.nl
  have h4 := sb.el
  have l1 : (lackN b.nodes a.nodes).length ≤ b.nodes.length := List.length_filter_le _ _
  have l2 : (lackE b.edges a.edges).length ≤ b.edges.length := List.length_filter_le _ _
  have l3 : (lackN a.nodes b.nodes).length ≤ a.nodes.length := List.length_filter_le _ _
  have l4 : (lackE a.edges b.edges).length ≤ a.edges.length := List.length_filter_le _ _
  exact ⟨by unfold deltaF; dsimp only; omega, by unfold deltaF; dsimp only; omega, by unfold deltaF; dsimp only; omega, by unfold deltaF; dsimp only; omega, fun x hx => sa.nd x ((List.mem_filter.1 hx).1), fun x hx => sb.nd x ((List.mem_filter.1 hx).1), fun x hx => sa.ed x ((List.mem_filter.1 hx).1), fun x hx => sb.ed x ((List.mem_filter.1 hx).1)⟩
theorem turnD_ok {a b : Graph} (wa : gOk a) (wb : gOk b) (ha : chkG a = 0) (hb : chkG b = 0) (n : Nat) (hn : gSz a + gSz b + 1100 ≤ n) : txn_Turn n (a, deltaF a b, ()) = some (b, 0, ()) := by
  have hs := deltaF_S ha hb
  have h1 := hs.gl
  have h3 := hs.gel
  rw [turn_ok a (deltaF a b) n (fun x hx => ?_) (fun x hx => ?_) (by omega) (by omega) (by omega) (by omega) (by omega), turnR_ok ha hb]
  · have hx' : x ∈ a.nodes := (List.mem_filter.1 hx).1
    exact ⟨(gN wa ha x hx').1, by have := sum_mem nSz hx'; unfold gSz at hn; omega⟩
  · have hx' : x ∈ a.edges := (List.mem_filter.1 hx).1
    exact ⟨(gE wa ha x hx').1, by have := sum_mem eSz hx'; unfold gSz at hn; omega⟩
end Pure


/- What the law takes away, told. No program. -/
namespace Pure
open Esp Ev Go
set_option linter.unusedSimpArgs false
set_option linter.unusedVariables false
theorem mlackN1_ok (x y : Ev.Node) (n : Nat) (h : NL' x) (hn : nSz x ≤ n) : q27z n (y, (), (x, ()), ()) = some (eqN x y, (), (x, ()), ()) := by
  unfold q27z
  dsimp only
  rw [Node.eta, Node.eta, rsameN_ok x y n h.v h.l h.p hn, Option.bind_some]
theorem mcontN_loop {ρ : Type} (n : Nat) (x : Ev.Node) (h : NL' x) (hn : nSz x ≤ n) (kr : Int × Unit × (Ev.Node × Unit) × Unit → Option ρ) (k : (Unit × (Ev.Node × Unit) × Unit) → Option ρ) :
    ∀ (l : List Ev.Node) (i : Int), 0 ≤ i → ∃ j : Int, (l.any (eqN x) = true → 0 ≤ j) ∧ foldK (F_q10z_s0 n kr) k i l ((), (x, ()), ()) = bif l.any (eqN x) then kr (j, (), (x, ()), ()) else k ((), (x, ()), ())
  | [], i, hi => ⟨0, (fun _ => Int.le_refl 0), rfl⟩
  | y :: r, i, hi => by
    obtain ⟨j, h1, h2⟩ := mcontN_loop n x h hn kr k r (i + 1) (by omega)
    cases hy : eqN x y with
    | true =>
      refine ⟨i, fun _ => hi, ?_⟩
      rw [foldK]
      unfold F_q10z_s0
      dsimp only
      rw [Node.eta, Node.eta, mlackN1_ok x y n h hn, Option.bind_some, hy, List.any_cons, hy]
      rfl
    | false =>
      refine ⟨j, fun ha => h1 (by rw [List.any_cons, hy, Bool.false_or] at ha; exact ha), ?_⟩
      rw [foldK]
      generalize foldK (F_q10z_s0 n kr) k (i + 1) r = R at h2
      unfold F_q10z_s0
      dsimp only
      rw [Node.eta, Node.eta, mlackN1_ok x y n h hn, Option.bind_some, hy, List.any_cons, hy, Bool.false_or]
      exact h2
theorem mcontN_ok (l : List Ev.Node) (x : Ev.Node) (n : Nat) (h : NL' x) (hl : l.length ≤ 9223372036854775807) (hn : nSz x + l.length + 1 ≤ n) :
    q8z n (l, (), (x, ()), ()) = some (l.any (eqN x), (), (x, ()), ()) := by
  unfold q8z q10z
  dsimp only
  rw [R_q10z_s0 n _ _ l n _ _ hl (by omega)]
  obtain ⟨j, h1, h2⟩ := mcontN_loop (ρ := Int × Unit × (Ev.Node × Unit) × Unit) n x h (by omega) (fun (v15, o16, o17, _) => some (v15, (), ((Ev.Node.mk o17.1.id o17.1.labels o17.1.props), ()), ())) (fun (o7, o8, _) => some ((-1), (), ((Ev.Node.mk o8.1.id o8.1.labels o8.1.props), ()), ())) l 0 (by omega)
  refine (congrArg (fun z => Option.bind z (fun x : Int × Unit × (Ev.Node × Unit) × Unit => some (decide (x.1 ≥ 0), (), (Ev.Node.mk x.2.2.1.1.id x.2.2.1.1.labels x.2.2.1.1.props, ()), ()))) h2).trans ?_
  cases ha : l.any (eqN x) with
  | true =>
    show some (decide (j ≥ 0), (), (x, ()), ()) = _
    rw [decide_eq_true (h1 ha)]
  | false => rfl

theorem mlackN_loop {ρ : Type} (n : Nat) (m : List Ev.Node) (hm : m.length ≤ 9223372036854775807) (kr : Unit → Option ρ) (k : (List Ev.Node × Unit × List Ev.Node × Unit) → Option ρ) :
    ∀ (l : List Ev.Node) (i : Int) (acc : List Ev.Node), (∀ x ∈ l, NL' x ∧ nodeS x ∧ nSz x + m.length + 61 ≤ n) → acc.length + l.length ≤ 1000 →
      foldK (F_q21z_s0 n kr) k i l (m, (), acc, ()) = k (m, (), acc ++ l.filter (fun x => !(m.any (eqN x))), ())
  | [], i, acc, _, _ => by rw [List.filter_nil, List.append_nil]; rfl
  | x :: r, i, acc, h, hl => by
    obtain ⟨h1, h2, h3⟩ := h x (by simp)
    rw [foldK]
    have ih := fun acc' hl' => mlackN_loop n m hm kr k r (i + 1) acc' (fun y hy => h y (by simp [hy])) hl'
    generalize foldK (F_q21z_s0 n kr) k (i + 1) r = R at ih
    unfold F_q21z_s0
    dsimp only
    rw [Node.eta, mcontN_ok m x n h1 hm (by omega), Option.bind_some]
    dsimp only
    rw [List.filter_cons]
    cases ha : m.any (eqN x) with
    | true =>
      rw [Bool.not_true, cond_false, if_neg (by simp)]
      exact ih acc (by simp at hl ⊢; omega)
    | false =>
      rw [Bool.not_false, cond_true, if_pos rfl, Node.eta, ck_ok (room_ok (by simp at hl ⊢; omega) (by omega)), ih (acc ++ [x]) (by simp at hl ⊢; omega)]
      simp
theorem mlackN_ok (l m : List Ev.Node) (n : Nat) (h : ∀ x ∈ l, NL' x ∧ nodeS x ∧ nSz x + m.length + 61 ≤ n) (hl : l.length ≤ 1000) (hm : m.length ≤ 9223372036854775807) (hn : l.length < n) :
    q21z n (l, m, ()) = some (l.filter (fun x => !(m.any (eqN x))), ()) := by
  unfold q21z
  dsimp only
  rw [R_q21z_s0 n _ _ l n _ _ _ (by omega) hn]
  refine (mlackN_loop n m hm _ _ l 0 [] h (by simpa using hl)).trans ?_
  rw [List.nil_append]

theorem mlackE1_ok (x y : Ev.Edg) (n : Nat) (h : EL' x) (hn : eSz x ≤ n) : q26z n (y, (), (x, ()), ()) = some (eqE x y, (), (x, ()), ()) := by
  unfold q26z
  dsimp only
  rw [Edg.eta3, Edg.eta3, rsameE_ok x y n h.v h.p hn, Option.bind_some]
theorem mcontE_loop {ρ : Type} (n : Nat) (x : Ev.Edg) (h : EL' x) (hn : eSz x ≤ n) (kr : Int × Unit × (Ev.Edg × Unit) × Unit → Option ρ) (k : (Unit × (Ev.Edg × Unit) × Unit) → Option ρ) :
    ∀ (l : List Ev.Edg) (i : Int), 0 ≤ i → ∃ j : Int, (l.any (eqE x) = true → 0 ≤ j) ∧ foldK (F_q9z_s0 n kr) k i l ((), (x, ()), ()) = bif l.any (eqE x) then kr (j, (), (x, ()), ()) else k ((), (x, ()), ())
  | [], i, hi => ⟨0, (fun _ => Int.le_refl 0), rfl⟩
  | y :: r, i, hi => by
    obtain ⟨j, h1, h2⟩ := mcontE_loop n x h hn kr k r (i + 1) (by omega)
    cases hy : eqE x y with
    | true =>
      refine ⟨i, fun _ => hi, ?_⟩
      rw [foldK]
      unfold F_q9z_s0
      dsimp only
      rw [Edg.eta3, Edg.eta3, mlackE1_ok x y n h hn, Option.bind_some, hy, List.any_cons, hy]
      rfl
    | false =>
      refine ⟨j, fun ha => h1 (by rw [List.any_cons, hy, Bool.false_or] at ha; exact ha), ?_⟩
      rw [foldK]
      generalize foldK (F_q9z_s0 n kr) k (i + 1) r = R at h2
      unfold F_q9z_s0
      dsimp only
      rw [Edg.eta3, Edg.eta3, mlackE1_ok x y n h hn, Option.bind_some, hy, List.any_cons, hy, Bool.false_or]
      exact h2
theorem mcontE_ok (l : List Ev.Edg) (x : Ev.Edg) (n : Nat) (h : EL' x) (hl : l.length ≤ 9223372036854775807) (hn : eSz x + l.length + 1 ≤ n) :
    q7z n (l, (), (x, ()), ()) = some (l.any (eqE x), (), (x, ()), ()) := by
  unfold q7z q9z
  dsimp only
  rw [R_q9z_s0 n _ _ l n _ _ hl (by omega)]
  obtain ⟨j, h1, h2⟩ := mcontE_loop (ρ := Int × Unit × (Ev.Edg × Unit) × Unit) n x h (by omega) (fun (v15, o16, o17, _) => some (v15, (), ((Ev.Edg.mk o17.1.id o17.1.src o17.1.dst o17.1.type o17.1.props), ()), ())) (fun (o7, o8, _) => some ((-1), (), ((Ev.Edg.mk o8.1.id o8.1.src o8.1.dst o8.1.type o8.1.props), ()), ())) l 0 (by omega)
  refine (congrArg (fun z => Option.bind z (fun x : Int × Unit × (Ev.Edg × Unit) × Unit => some (decide (x.1 ≥ 0), (), (Ev.Edg.mk x.2.2.1.1.id x.2.2.1.1.src x.2.2.1.1.dst x.2.2.1.1.type x.2.2.1.1.props, ()), ()))) h2).trans ?_
  cases ha : l.any (eqE x) with
  | true =>
    show some (decide (j ≥ 0), (), (x, ()), ()) = _
    rw [decide_eq_true (h1 ha)]
  | false => rfl

theorem mlackE_loop {ρ : Type} (n : Nat) (m : List Ev.Edg) (hm : m.length ≤ 9223372036854775807) (kr : Unit → Option ρ) (k : (List Ev.Edg × Unit × List Ev.Edg × Unit) → Option ρ) :
    ∀ (l : List Ev.Edg) (i : Int) (acc : List Ev.Edg), (∀ x ∈ l, EL' x ∧ prpE x.props = 0 ∧ eSz x + m.length + 61 ≤ n) → acc.length + l.length ≤ 1000 →
      foldK (F_q20z_s0 n kr) k i l (m, (), acc, ()) = k (m, (), acc ++ l.filter (fun x => !(m.any (eqE x))), ())
  | [], i, acc, _, _ => by rw [List.filter_nil, List.append_nil]; rfl
  | x :: r, i, acc, h, hl => by
    obtain ⟨h1, h2, h3⟩ := h x (by simp)
    rw [foldK]
    have ih := fun acc' hl' => mlackE_loop n m hm kr k r (i + 1) acc' (fun y hy => h y (by simp [hy])) hl'
    generalize foldK (F_q20z_s0 n kr) k (i + 1) r = R at ih
    unfold F_q20z_s0
    dsimp only
    rw [Edg.eta3, mcontE_ok m x n h1 hm (by omega), Option.bind_some]
    dsimp only
    rw [List.filter_cons]
    cases ha : m.any (eqE x) with
    | true =>
      rw [Bool.not_true, cond_false, if_neg (by simp)]
      exact ih acc (by simp at hl ⊢; omega)
    | false =>
      rw [Bool.not_false, cond_true, if_pos rfl, Edg.eta3, ck_ok (room_ok (by simp at hl ⊢; omega) (by omega)), ih (acc ++ [x]) (by simp at hl ⊢; omega)]
      simp
theorem mlackE_ok (l m : List Ev.Edg) (n : Nat) (h : ∀ x ∈ l, EL' x ∧ prpE x.props = 0 ∧ eSz x + m.length + 61 ≤ n) (hl : l.length ≤ 1000) (hm : m.length ≤ 9223372036854775807) (hn : l.length < n) :
    q20z n (l, m, ()) = some (l.filter (fun x => !(m.any (eqE x))), ()) := by
  unfold q20z
  dsimp only
  rw [R_q20z_s0 n _ _ l n _ _ _ (by omega) hn]
  refine (mlackE_loop n m hm _ _ l 0 [] h (by simpa using hl)).trans ?_
  rw [List.nil_append]

end Pure


/- The same graph, the same difference; the closed fact. No program. -/
namespace Pure
open Esp Ev Go
set_option linter.unusedSimpArgs false
set_option linter.unusedVariables false

theorem eqN_list (l m : List Ev.Node) (n : Nat) (h : ∀ x ∈ l, NL' x ∧ nSz x ≤ n) (hl : l.length ≤ 9223372036854775807) (hn : l.length < n) :
    q2z n (l, m, ()) = some (eqL eqN l m, ()) := by
  unfold q2z
  dsimp only
  cases hlen : ((l.length : Int) != (m.length : Int)) with
  | true =>
    rw [cond_true, eqL_len (by intro e; rw [e] at hlen; simp at hlen)]
  | false =>
    have hl2 : l.length = m.length := by
      have : (l.length : Int) = (m.length : Int) := by simpa using hlen
      omega
    rw [cond_false, R_q2z_s0 n _ _ l n _ hl hn]
    refine (eqK (F := F_q2z_s0 n _) (eq := eqN) (m := m) (kr := fun x => some (x.1, ())) l [] m (fun x hx i rec => ?_) rfl hl2).trans ?_
    · unfold F_q2z_s0
      dsimp only
      refine congrArg _ (funext fun y => ?_)
      rw [Node.eta, Node.eta, rsameN_ok x y n (h x hx).1.v (h x hx).1.l (h x hx).1.p (h x hx).2, Option.bind_some]
    · cases eqL eqN l m with
      | true => rfl
      | false => rfl
theorem eqE_list (l m : List Edg) (n : Nat) (h : ∀ x ∈ l, EL' x ∧ eSz x ≤ n) (hl : l.length ≤ 9223372036854775807) (hn : l.length < n) :
    q1z n (l, m, ()) = some (eqL eqE l m, ()) := by
  unfold q1z
  dsimp only
  cases hlen : ((l.length : Int) != (m.length : Int)) with
  | true =>
    rw [cond_true, eqL_len (by intro e; rw [e] at hlen; simp at hlen)]
  | false =>
    have hl2 : l.length = m.length := by
      have : (l.length : Int) = (m.length : Int) := by simpa using hlen
      omega
    rw [cond_false, R_q1z_s0 n _ _ l n _ hl hn]
    refine (eqK (F := F_q1z_s0 n _) (eq := eqE) (m := m) (kr := fun x => some (x.1, ())) l [] m (fun x hx i rec => ?_) rfl hl2).trans ?_
    · unfold F_q1z_s0
      dsimp only
      refine congrArg _ (funext fun y => ?_)
      rw [Edg.eta3, Edg.eta3, rsameE_ok x y n (h x hx).1.v (h x hx).1.p (h x hx).2, Option.bind_some]
    · cases eqL eqE l m with
      | true => rfl
      | false => rfl
theorem eqN_refl (l : List Ev.Node) : eqL eqN l l = true := (eqL_iff fun x _ y _ => eqN_iff x y).2 rfl
theorem eqE_refl (l : List Edg) : eqL eqE l l = true := (eqL_iff fun x _ y _ => eqE_iff x y).2 rfl
theorem sameG_refl (g : Graph) (n : Nat) (hw : gOk g) (hc : chkG g = 0) (hn : gSz g + 100 ≤ n) : q41z n (g, g, ()) = some (true, ()) := by
  have h1 := (graphS_of hc).nl
  have h2 := (graphS_of hc).el
  unfold gSz at hn
  unfold q41z
  dsimp only
  rw [beq_self_eq_true, cond_true, eqN_list g.nodes g.nodes n (fun x hx => ⟨(gN hw hc x hx).1, by have := sum_mem nSz hx; omega⟩) (by omega) (by omega), eqN_refl, Option.bind_some]
  dsimp only
  rw [cond_true, eqE_list g.edges g.edges n (fun x hx => ⟨(gE hw hc x hx).1, by have := sum_mem eSz hx; omega⟩) (by omega) (by omega), eqE_refl, Option.bind_some]
theorem sameD_refl (d : Delta) (n : Nat) (h1 : ∀ x ∈ d.gone, NL' x ∧ nSz x ≤ n) (h2 : ∀ x ∈ d.fresh, NL' x ∧ nSz x ≤ n) (h3 : ∀ x ∈ d.goneE, EL' x ∧ eSz x ≤ n) (h4 : ∀ x ∈ d.freshE, EL' x ∧ eSz x ≤ n)
    (l1 : d.gone.length ≤ 100) (l2 : d.fresh.length ≤ 100) (l3 : d.goneE.length ≤ 100) (l4 : d.freshE.length ≤ 100) (hn : 101 ≤ n) : q40z n (d, d, ()) = some (true, ()) := by
  unfold q40z
  dsimp only
  rw [beq_self_eq_true, beq_self_eq_true, Bool.and_self, cond_true, eqN_list _ _ n h1 (by omega) (by omega), eqN_refl, Option.bind_some]
  dsimp only
  rw [cond_true, eqN_list _ _ n h2 (by omega) (by omega), eqN_refl, Option.bind_some]
  dsimp only
  rw [cond_true, eqE_list _ _ n h3 (by omega) (by omega), eqE_refl, Option.bind_some]
  dsimp only
  rw [cond_true, eqE_list _ _ n h4 (by omega) (by omega), eqE_refl, Option.bind_some]
theorem sameD0 (n : Nat) (hn : 101 ≤ n) : q40z n (delta0, delta0, ()) = some (true, ()) :=
  sameD_refl delta0 n (fun x hx => by cases hx) (fun x hx => by cases hx) (fun x hx => by cases hx) (fun x hx => by cases hx) (by decide) (by decide) (by decide) (by decide) hn
end Pure


/- The program does what the law wants of it: a closed fact. -/
namespace Pure
open Esp Ev Go
set_option linter.unusedSimpArgs false
set_option linter.unusedVariables false
theorem copyOwn_ok (g : Graph) (n : Nat) (hn : 80 ≤ n) (h : graphS g) : q68z n (g, ()) = some ((g.next, ()), g.nodes, g.edges, ()) := by
  have h1 := h.nl
  have h2 := h.el
  unfold q68z
  dsimp only
  rw [R_q68z_s0 n _ _ g.nodes n _ _ _ _ (by omega) (by omega)]
  refine (push_fold (F := F_q68z_s0 n _) (fun a => ((Ev.Graph.mk g.nodes g.edges g.next, ()), (Ev.Graph.mk [] [] 0, ()), (g.next, ()), a, ())) nodeS (fun i x acc rec hx ha => ?_) g.nodes 0 [] h.nd (by simp; omega)).trans ?_
  · unfold F_q68z_s0
    dsimp only
    rw [Node.eta, copyN_ok x n (by omega) hx, Option.bind_some]
    dsimp only
    rw [Node.eta, ck_ok (room_ok (by simp; omega) (by omega))]
  dsimp only
  rw [R_q68z_s2 n _ _ g.edges n _ _ _ _ (by omega) (by omega)]
  refine (push_fold (F := F_q68z_s2 n _) (fun a => ((Ev.Graph.mk [] [] 0, ()), (g.next, ()), [] ++ g.nodes, a, ())) (fun x : Edg => prpE x.props = 0) (fun i x acc rec hx ha => ?_) g.edges 0 [] h.ed (by simp; omega)).trans ?_
  · unfold F_q68z_s2
    dsimp only
    rw [Edg.eta3, copyE_ok x n (by omega) hx, Option.bind_some]
    dsimp only
    rw [Edg.eta3, ck_ok (room_ok (by simp; omega) (by omega))]
  rfl
def knowsG : Graph := Ev.Graph.mk [Ev.Node.mk 1 [⟨#[65]⟩] [Ev.Prp.mk ⟨#[110]⟩ (Ev.Val.mk 2 5 ⟨#[]⟩ [])], Ev.Node.mk 2 [] []] [Ev.Edg.mk 3 1 2 ⟨#[75]⟩ []] 4
theorem knows_chk : chkG knowsG = 0 := by kernel_rfl
theorem changed_at (m : Nat) : q52z (m + 100) () = some (true, ()) := by
  unfold q52z
  show Option.bind (txn_Apply (m + 100) (knowsG, _, ())) _ = _
  unfold txn_Apply
  dsimp only
  rw [show Graph.mk knowsG.nodes knowsG.edges knowsG.next = knowsG from rfl, gcheck_ok knowsG (m + 100) (by omega), knows_chk, Option.bind_some]
  dsimp only
  rw [show ((0 : Int) != 0) = false from rfl, cond_false]
  rw [copyOwn_ok knowsG (m + 100) (by omega) (graphS_of knows_chk), Option.bind_some]
  kernel_rfl
theorem changed_ok (n : Nat) (hn : 100 ≤ n) : q52z n () = some (true, ()) := by
  obtain ⟨m, rfl⟩ : ∃ m, n = m + 100 := ⟨n - 100, by omega⟩
  exact changed_at m
end Pure


/- The laws of what differs. No program. -/
namespace Pure
open Esp Ev Go
set_option linter.unusedSimpArgs false
set_option linter.unusedVariables false

theorem betwF_0 {a b : Graph} (ha : chkG a = 0) (hb : chkG b = 0) : betwF a b = (deltaF a b, 0) := by
  unfold betwF
  rw [ha, hb]
  rfl
theorem betwF_bad {a b : Graph} (h : ¬ (chkG a = 0 ∧ chkG b = 0)) : ((betwF a b).2 != 0) = true := by
  unfold betwF
  cases h1 : chkG a != 0 with
  | true => exact h1
  | false =>
    have ha : chkG a = 0 := by simpa using h1
    cases h2 : chkG b != 0 with
    | true => exact h2
    | false => exact absurd ⟨ha, by simpa using h2⟩ h
theorem dN {a b : Graph} (wa : gOk a) (ha : chkG a = 0) {n : Nat} (hn : gSz a ≤ n) : ∀ x ∈ lackN a.nodes b.nodes, NL' x ∧ nSz x ≤ n := fun x hx => by
  have hx' : x ∈ a.nodes := (List.mem_filter.1 hx).1
  exact ⟨(gN wa ha x hx').1, by have := sum_mem nSz hx'; unfold gSz at hn; omega⟩
theorem dE {a b : Graph} (wa : gOk a) (ha : chkG a = 0) {n : Nat} (hn : gSz a ≤ n) : ∀ x ∈ lackE a.edges b.edges, EL' x ∧ eSz x ≤ n := fun x hx => by
  have hx' : x ∈ a.edges := (List.mem_filter.1 hx).1
  exact ⟨(gE wa ha x hx').1, by have := sum_mem eSz hx'; unfold gSz at hn; omega⟩
theorem sameD_ok {a b : Graph} (wa : gOk a) (wb : gOk b) (ha : chkG a = 0) (hb : chkG b = 0) (n : Nat) (hn : gSz a + gSz b + 101 ≤ n) : q40z n (deltaF a b, deltaF a b, ()) = some (true, ()) := by
  have hs := deltaF_S ha hb
  exact sameD_refl _ n (dN wa ha (by omega)) (dN wb hb (by omega)) (dE wa ha (by omega)) (dE wb hb (by omega)) hs.gl hs.fl hs.gel hs.fel (by omega)

theorem TxnTurns_ok (a b : Graph) (n : Nat) (wa : gOk a) (wb : gOk b) (hn : gSz a + gSz b + 1200 ≤ n) : q48z n (a, b, ()) = some (true, ()) := by
  unfold q48z
  dsimp only
  rw [Graph.eta, Graph.eta, between_ok a b n wa wb (by omega), Option.bind_some]
  dsimp only
  rw [changed_ok n (by omega), Option.bind_some]
  dsimp only
  by_cases h : chkG a = 0 ∧ chkG b = 0
  · obtain ⟨ha, hb⟩ := h
    rw [betwF_0 ha hb]
    dsimp only
    rw [show ((!true) || ((0 : Int) != 0)) = false from rfl, cond_false]
    rw [show ∀ d : Delta, Delta.mk d.gone d.fresh d.goneE d.freshE d.src d.dst = d from fun _ => rfl]
    rw [turnD_ok wa wb ha hb n (by omega), Option.bind_some]
    dsimp only
    rw [back_ok (deltaF a b) n (by omega) (deltaF_S ha hb), back_delta, Option.bind_some]
    dsimp only
    rw [show ∀ d : Delta, Delta.mk d.gone d.fresh d.goneE d.freshE d.src d.dst = d from fun _ => rfl]
    rw [turnD_ok wb wa hb ha n (by omega), Option.bind_some]
    dsimp only
    rw [show (((0 : Int) == 0) && ((0 : Int) == 0)) = true from rfl, cond_true, Graph.eta, Graph.eta, sameG_refl b n wb hb (by omega), Option.bind_some]
    dsimp only
    rw [cond_true, sameG_refl a n wa ha (by omega), Option.bind_some]
  · rw [betwF_bad h]
    rfl
theorem TxnThrough_ok (a b c : Graph) (n : Nat) (wa : gOk a) (wb : gOk b) (wc : gOk c) (hn : gSz a + gSz b + gSz c + 1200 ≤ n) : q33z n (a, b, c, ()) = some (true, ()) := by
  unfold q33z
  dsimp only
  rw [Graph.eta, Graph.eta, Graph.eta, between_ok a b n wa wb (by omega), Option.bind_some]
  dsimp only
  rw [between_ok b c n wb wc (by omega), Option.bind_some]
  dsimp only
  rw [changed_ok n (by omega), Option.bind_some]
  dsimp only
  by_cases h : chkG a = 0 ∧ chkG b = 0
  · obtain ⟨ha, hb⟩ := h
    by_cases hc : chkG c = 0
    · rw [betwF_0 ha hb, betwF_0 hb hc]
      dsimp only
      rw [show (((!true) || ((0 : Int) != 0)) || ((0 : Int) != 0)) = false from rfl, cond_false]
      rw [show ∀ d : Delta, Delta.mk d.gone d.fresh d.goneE d.freshE d.src d.dst = d from fun _ => rfl, show ∀ d : Delta, Delta.mk d.gone d.fresh d.goneE d.freshE d.src d.dst = d from fun _ => rfl]
      rw [turnD_ok wa wb ha hb n (by omega), Option.bind_some]
      dsimp only
      rw [Graph.eta, turnD_ok wb wc hb hc n (by omega), Option.bind_some]
      dsimp only
      rw [show (((0 : Int) == 0) && ((0 : Int) == 0)) = true from rfl, cond_true, Graph.eta, sameG_refl c n wc hc (by omega), Option.bind_some]
    · rw [betwF_bad (a := b) (b := c) fun h => hc h.2, Bool.or_true]
      rfl
  · rw [betwF_bad h, Bool.or_true, Bool.true_or]
    rfl
theorem TxnBetween_ok (a b : Graph) (n : Nat) (wa : gOk a) (wb : gOk b) (hn : gSz a + gSz b + 1200 ≤ n) : q32z n (a, b, ()) = some (true, ()) := by
  unfold q32z
  dsimp only
  rw [Graph.eta, Graph.eta, between_ok a b n wa wb (by omega), Option.bind_some]
  dsimp only
  rw [rgcheck_ok a n (by omega), Option.bind_some]
  dsimp only
  rw [show ∀ d : Delta, Delta.mk d.gone d.fresh d.goneE d.freshE d.src d.dst = d from fun _ => rfl]
  cases h1 : chkG a == 0 with
  | false =>
    have h2 : (chkG a != 0) = true := by rw [bne, h1]; rfl
    rw [cond_false, changed_ok n (by omega), Option.bind_some]
    dsimp only
    rw [h2, Bool.or_true, cond_true, Option.bind_some]
    dsimp only
    rw [show betwF a b = (delta0, chkG a) by unfold betwF; rw [h2]; rfl]
    dsimp only
    rw [beq_self_eq_true, Bool.and_self, cond_true, show Delta.mk [] [] [] [] 0 0 = delta0 from rfl, sameD0 n (by omega), Option.bind_some]
  | true =>
    have ha : chkG a = 0 := by simpa using h1
    rw [cond_true, rgcheck_ok b n (by omega), Option.bind_some]
    dsimp only
    rw [changed_ok n (by omega), Option.bind_some]
    dsimp only
    cases h3 : chkG b != 0 with
    | true =>
      rw [Bool.or_true, cond_true, Option.bind_some]
      dsimp only
      rw [show betwF a b = (delta0, chkG b) by unfold betwF; rw [ha, h3]; rfl]
      dsimp only
      rw [beq_self_eq_true, Bool.and_self, cond_true, show Delta.mk [] [] [] [] 0 0 = delta0 from rfl, sameD0 n (by omega), Option.bind_some]
    | false =>
      have hb : chkG b = 0 := by simpa using h3
      have sa := graphS_of ha
      have sb := graphS_of hb
      have h1 := sa.nl
      have h2 := sa.el
      have h3 := sb.nl
      have h4 := sb.el
      have hg := hn
      unfold gSz at hg
      rw [betwF_0 ha hb]
      dsimp only
      rw [show ((!true) || false) = false from rfl, cond_false]
      rw [mlackN_ok a.nodes b.nodes n (fun x hx => ⟨(gN wa ha x hx).1, (gN wa ha x hx).2, by have := sum_mem nSz hx; omega⟩) (by omega) (by omega) (by omega), Option.bind_some]
      dsimp only
      rw [mlackN_ok b.nodes a.nodes n (fun x hx => ⟨(gN wb hb x hx).1, (gN wb hb x hx).2, by have := sum_mem nSz hx; omega⟩) (by omega) (by omega) (by omega), Option.bind_some]
      dsimp only
      rw [mlackE_ok a.edges b.edges n (fun x hx => ⟨(gE wa ha x hx).1, (gE wa ha x hx).2, by have := sum_mem eSz hx; omega⟩) (by omega) (by omega) (by omega), Option.bind_some]
      dsimp only
      rw [mlackE_ok b.edges a.edges n (fun x hx => ⟨(gE wb hb x hx).1, (gE wb hb x hx).2, by have := sum_mem eSz hx; omega⟩) (by omega) (by omega) (by omega), Option.bind_some]
      dsimp only
      rw [show ((0 : Int) == 0) = true from rfl, cond_true]
      have hd : Delta.mk (a.nodes.filter fun x => !(b.nodes.any (eqN x))) (b.nodes.filter fun x => !(a.nodes.any (eqN x))) (a.edges.filter fun x => !(b.edges.any (eqE x))) (b.edges.filter fun x => !(a.edges.any (eqE x))) a.next b.next = deltaF a b := rfl
      rw [hd, sameD_ok wa wb ha hb n (by omega), Option.bind_some]
      dsimp only
      rw [cond_true, back_ok (deltaF a b) n (by omega) (deltaF_S ha hb), Option.bind_some]
      unfold q34z
      dsimp only
      rw [Option.bind_some, back_delta]
      dsimp only
      have hd2 : Delta.mk (deltaF a b).fresh (deltaF a b).gone (deltaF a b).freshE (deltaF a b).goneE (deltaF a b).dst (deltaF a b).src = deltaF b a := rfl
      rw [show ∀ d : Delta, Delta.mk d.gone d.fresh d.goneE d.freshE d.src d.dst = d from fun _ => rfl, hd2, sameD_ok wb wa hb ha n (by omega), Option.bind_some]
end Pure

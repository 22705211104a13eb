/- Several texts in one (merge.py). -/
import Derived.Test.YtffefjmpmgkfoaaGreatDoorPA
import Derived.Test.YtffefjmpmgkfoaaGreatDoorPCode
import Derived.KernelRfl

/- Who may see what. No program. -/
namespace Pure
open Esp Ev Go
set_option linter.unusedSimpArgs false
set_option linter.unusedVariables false
set_option linter.unusedSimpArgs false
set_option linter.unusedVariables false

end Pure


/- Who sees what. No program. -/
namespace Pure
open Esp Ev Go
set_option linter.unusedSimpArgs false
set_option linter.unusedVariables false
set_option linter.unusedSimpArgs false
set_option linter.unusedVariables false

theorem Grant.eta (g : Grant) : Grant.mk g.who g.labels = g := rfl

/-! ## what is in order -/
structure nodeS (x : Ev.Node) : Prop where
  lab : x.labels.length ≤ 4
  prp : prpE x.props = 0
structure graphS (g : Graph) : Prop where
  nl : g.nodes.length ≤ 40
  el : g.edges.length ≤ 60
  nd : ∀ x ∈ g.nodes, nodeS x
  ed : ∀ x ∈ g.edges, prpE x.props = 0
def both (l : List Ev.Node) (e : Edg) : Bool := (nodeIn l e.src).isSome && (nodeIn l e.dst).isSome
def g0 : Graph := ⟨[], [], 0⟩
end Pure


/- Differences of rising lists: what is taken out and put in makes the one of the other. Plain Lean. -/
namespace Pure
section
variable {α : Type} (id : α → Int) (same : α → α → Bool)
abbrev Up (l : List α) : Prop := l.Pairwise fun a b => id a < id b
variable {id same}
theorem Up.inj {l : List α} (h : Up id l) {x y : α} (hx : x ∈ l) (hy : y ∈ l) (e : id x = id y) : x = y := by
  induction l with
  | nil => cases hx
  | cons z r ih =>
    have h2 := List.pairwise_cons.1 h
    rcases List.mem_cons.1 hx with e1 | hx2
    · rcases List.mem_cons.1 hy with e2 | hy2
      · exact e1.trans e2.symm
      · have := h2.1 y hy2; rw [← e1] at this; omega
    · rcases List.mem_cons.1 hy with e2 | hy2
      · have := h2.1 x hx2; rw [← e2] at this; omega
      · exact ih h2.2 hx2 hy2
end
end Pure


/- Nodes and edges that are alike, by the program and by the document. No program. -/
namespace Pure
open Esp Ev Go
set_option linter.unusedSimpArgs false
set_option linter.unusedVariables false
set_option linter.unusedSimpArgs false
set_option linter.unusedVariables false

def pSz' : List Prp → Nat
  | [] => 0
  | p :: r => vSz p.val + pSz' r
theorem Prp.eta (p : Prp) : Prp.mk p.name (Val.mk p.val.kind p.val.n p.val.s p.val.l) = p := by rw [Val.eta]
def nSz (x : Ev.Node) : Nat := x.labels.length + pSz' x.props + x.props.length + 8
def eSz (x : Edg) : Nat := pSz' x.props + x.props.length + 8
end Pure


/- What differs between two graphs, by the program. No program. -/
namespace Pure
open Esp Ev Go
set_option linter.unusedSimpArgs false
set_option linter.unusedVariables false
set_option linter.unusedSimpArgs false
set_option linter.unusedVariables false

theorem Node.eta (x : Ev.Node) : Ev.Node.mk x.id x.labels x.props = x := rfl
structure NL' (x : Ev.Node) : Prop where
  v : ∀ p ∈ x.props, vOk p.val
  l : x.labels.length ≤ 9223372036854775807
  p : x.props.length ≤ 9223372036854775807
end Pure


/- What differs between two graphs, told. No program. -/
namespace Pure
open Esp Ev Go
set_option linter.unusedSimpArgs false
set_option linter.unusedVariables false
set_option linter.unusedSimpArgs false
set_option linter.unusedVariables false

end Pure


/- What differs between two graphs: edges (made of PTxn2, PTxn3 by substitution). No program. -/
namespace Pure
open Esp Ev Go
set_option linter.unusedSimpArgs false
set_option linter.unusedVariables false
set_option linter.unusedSimpArgs false
set_option linter.unusedVariables false

structure EL' (x : Edg) : Prop where
  v : ∀ p ∈ x.props, vOk p.val
  p : x.props.length ≤ 9223372036854775807
end Pure


/- Between, told. No program. -/
namespace Pure
open Esp Ev Go
set_option linter.unusedSimpArgs false
set_option linter.unusedVariables false
set_option linter.unusedSimpArgs false
set_option linter.unusedVariables false

def gSz (g : Graph) : Nat := (g.nodes.map nSz).sum + (g.edges.map eSz).sum
end Pure


/- Names in graphs that are right; are two graphs the same. No program. -/
namespace Pure
open Esp Ev Go
set_option linter.unusedSimpArgs false
set_option linter.unusedVariables false
set_option linter.unusedSimpArgs false
set_option linter.unusedVariables false

theorem nm_size {s : ByteArray} (h : nmB s = true) : s.size ≤ 12 := by
  unfold nmB at h
  cases h1 : (seq s ⟨#[]⟩) || (decide ((s.size : Int) > 12)) with
  | true => rw [h1] at h; cases h
  | false =>
    have := of_decide_eq_false (Bool.or_eq_false_iff.1 h1).2
    omega
theorem prpF_nm : ∀ {l : List Prp} {prev : ByteArray}, prpF prev l = 0 → ∀ x ∈ l, nmB x.name = true
  | [], _, _ => fun x hx => (by cases hx)
  | y :: r, prev, h => by
    rw [prpF] at h
    cases h1 : ((!(nmB y.name)) || (sless y.name prev || seq y.name prev)) || (y.val.kind == 0) with
    | true => rw [h1] at h; cases h
    | false =>
      rw [h1, cond_false] at h
      cases h2 : chk y.val 1 != 0 with
      | true => rw [h2, cond_true] at h; rw [h] at h2; cases h2
      | false =>
        rw [h2] at h
        intro x hx
        rcases List.mem_cons.1 hx with rfl | hx
        · have := (Bool.or_eq_false_iff.1 (Bool.or_eq_false_iff.1 h1).1).1
          simpa using this
        · exact prpF_nm h x hx
theorem prpE_nm {l : List Prp} (h : prpE l = 0) : ∀ x ∈ l, nmB x.name = true := by
  unfold prpE at h
  cases h1 : decide ((l.length : Int) > 6) with
  | true => rw [h1] at h; cases h
  | false => rw [h1] at h; exact prpF_nm h
theorem labF_nm : ∀ {l : List ByteArray} {prev : ByteArray}, labF prev l = 0 → ∀ x ∈ l, nmB x = true
  | [], _, _ => fun x hx => (by cases hx)
  | y :: r, prev, h => by
    rw [labF] at h
    cases h1 : (!(nmB y)) || (sless y prev || seq y prev) with
    | true => rw [h1] at h; cases h
    | false =>
      rw [h1] at h
      intro x hx
      rcases List.mem_cons.1 hx with rfl | hx
      · have := (Bool.or_eq_false_iff.1 h1).1
        simpa using this
      · exact labF_nm h x hx
theorem labE_nm {l : List ByteArray} (h : labE l = 0) : ∀ x ∈ l, nmB x = true := by
  unfold labE at h
  cases h1 : decide ((l.length : Int) > 4) with
  | true => rw [h1] at h; cases h
  | false => rw [h1] at h; exact labF_nm h
theorem edgF_nm {nodes : List Ev.Node} : ∀ {l : List Edg} {last : Int}, edgF nodes last l = 0 → ∀ x ∈ l, nmB x.type = true
  | [], _, _ => fun x hx => (by cases hx)
  | y :: r, last, h => by
    rw [edgF] at h
    cases h1 : decide (y.id ≤ last) with
    | true => rw [h1] at h; cases h
    | false =>
      cases h2 : (nodeIn nodes y.id).isSome with
      | true => rw [h1, h2] at h; cases h
      | false =>
        cases h3 : !(nmB y.type) with
        | true => rw [h1, h2, h3] at h; cases h
        | false =>
          cases h4 : (nodeIn nodes y.src).isNone with
          | true => rw [h1, h2, h3, h4] at h; cases h
          | false =>
            cases h5 : (nodeIn nodes y.dst).isNone with
            | true => rw [h1, h2, h3, h4, h5] at h; cases h
            | false =>
              rw [h1, h2, h3, h4, h5] at h
              simp only [cond_false] at h
              cases h6 : prpE y.props != 0 with
              | true => rw [h6, cond_true] at h; rw [h] at h6; cases h6
              | false =>
                rw [h6] at h
                intro x hx
                rcases List.mem_cons.1 hx with rfl | hx
                · simpa using h3
                · exact edgF_nm h x hx
end Pure

namespace Pure
open Esp Ev Go
set_option linter.unusedSimpArgs false
set_option linter.unusedVariables false
theorem ported_ok (n : Nat) : q28z (n + 80) () = some (true, ()) := by kernel_rfl
end Pure

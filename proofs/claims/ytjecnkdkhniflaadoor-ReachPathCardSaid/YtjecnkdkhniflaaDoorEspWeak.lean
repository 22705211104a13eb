/- ESP, part 17: a nil slice taken as an empty one. -/
import Derived.Test.YtjecnkdkhniflaaDoorEspEntry
namespace Esp
open Go
set_option linter.unusedSimpArgs false
set_option linter.unusedVariables false
variable [Tabs]

inductive DLe : D → D → Prop
  | refl (x : D) : DLe x x
  | nil (e : Nat) : DLe (.sc (.slice none 0 0)) (.sl e 0 [])
inductive DsLe : List D → List D → Prop
  | refl (l : List D) : DsLe l l
  | cons {x y : D} {l m : List D} (h : DLe x y) (k : DsLe l m) : DsLe (x :: l) (y :: m)
inductive AVle : AV → AV → Prop
  | refl (x : AV) : AVle x x
  | cell {x y : D} (h : DLe x y) : AVle (.cell (.d x)) (.cell (.d y))
  | agg {l m : List D} (h : DsLe l m) : AVle (.aggD l) (.aggD m)
inductive AVsLe : List AV → List AV → Prop
  | refl (l : List AV) : AVsLe l l
  | cons {x y : AV} {l m : List AV} (h : AVle x y) (k : AVsLe l m) : AVsLe (x :: l) (y :: m)
inductive TLe : AV → AV → Prop
  | one {x y : AV} (h : AVle x y) : TLe x y
  | tup {l m : List AV} (h : AVsLe l m) : TLe (.tup l) (.tup m)

section
variable {w : World} {F : Nat → Prop} {ρ : Env} {tm : Array Value}
omit [Tabs] in
theorem RelD.le {x y : D} (h : DLe x y) {v : Value} (hr : RelD w F x v) : RelD w F y v := by
  cases h with
  | refl => exact hr
  | nil e =>
    generalize hx : D.sc (.slice none 0 0) = x at hr
    cases hr with
    | sc v h =>
      cases hx
      exact .nil e none 0
    | _ => cases hx
omit [Tabs] in
theorem DsLe.length {l m : List D} (h : DsLe l m) : l.length = m.length := by
  induction h with
  | refl => rfl
  | cons _ _ ih => simp [ih]
omit [Tabs] in
theorem DsLe.get {l m : List D} (h : DsLe l m) : ∀ i (h1 : i < l.length) (h2 : i < m.length), DLe l[i] m[i] := by
  induction h with
  | refl l => exact fun i h1 h2 => .refl _
  | cons hx _ ih =>
    intro i h1 h2
    cases i with
    | zero => exact hx
    | succ i => exact ih i (by simpa using h1) (by simpa using h2)
omit [Tabs] in
theorem RelAV.le {x y : AV} (h : AVle x y) {v : Value} (hr : RelAV w F ρ tm x v) : RelAV w F ρ tm y v := by
  cases h with
  | refl => exact hr
  | cell h => cases hr with
    | cell c v hc => cases hc with
      | d x v hd => exact .cell _ _ (.d _ _ (hd.le h))
  | agg h => cases hr with
    | aggD cs arr hs hh => exact .aggD _ arr (hs.trans h.length) fun i hi => (hh i (by rw [h.length]; exact hi)).le (h.get i _ hi)
omit [Tabs] in
theorem AVsLe.length {l m : List AV} (h : AVsLe l m) : l.length = m.length := by
  induction h with
  | refl => rfl
  | cons _ _ ih => simp [ih]
omit [Tabs] in
theorem AVsLe.get {l m : List AV} (h : AVsLe l m) : ∀ i (h1 : i < l.length) (h2 : i < m.length), AVle l[i] m[i] := by
  induction h with
  | refl l => exact fun i h1 h2 => .refl _
  | cons hx _ ih =>
    intro i h1 h2
    cases i with
    | zero => exact hx
    | succ i => exact ih i (by simpa using h1) (by simpa using h2)
omit [Tabs] in
theorem RelAV.tle {x y : AV} (h : TLe x y) {v : Value} (hr : RelAV w F ρ tm x v) : RelAV w F ρ tm y v := by
  cases h with
  | one h => exact hr.le h
  | tup h => cases hr with
    | tup vs arr hs hh => exact .tup _ arr (hs.trans h.length) fun i hi => (hh i (by rw [h.length]; exact hi)).le (h.get i _ hi)
end

section
variable {P : Program} {N : Nat} {ops : Array Oper} {Q : Exit → ASt → Prop} {st st' : ASt} {l : List Nat}

theorem Rel.weak {F : Nat → Prop} {ρ : Env} {a : Act} {w : World} (h : Rel N F ρ st a w) (i : Nat) {x y : AV} (hx : lkF st.fr i = x) (hle : TLe x y) : Rel N F ρ { st with fr := (i, y) :: st.fr } a w := by
  refine ⟨h.rw, fun j => ?_, h.ob, h.sz, h.df⟩
  simp only [lkF]
  cases hb : Nat.beq j i with
  | false => exact h.fr j
  | true =>
    rw [Nat.eq_of_beq_eq_true hb, cond_true]
    have := h.fr i
    rw [hx] at this
    exact this.tle hle

theorem AW.weak {c : Code} (i : Nat) (x y : AV) (hx : lkF st.fr i = x) (hle : TLe x y) (ks os : List Nat) (hs : ({ st with fr := (i, y) :: st.fr } : ASt).keep ks os = st') (k : AW P N c st' Q) : AW P N c st Q := by
  have k2 : AW P N c { st with fr := (i, y) :: st.fr } Q := .keep ks os hs k
  intro F ρ a w hr
  exact k2.after (hr.weak i hx hle) (Fr.refl F ρ w)
theorem AOps.weak (i : Nat) (x y : AV) (hx : lkF st.fr i = x) (hle : TLe x y) (ks os : List Nat) (hs : ({ st with fr := (i, y) :: st.fr } : ASt).keep ks os = st') (k : AOps P N ops l st' Q) : AOps P N ops l st Q := by
  have k2 : AOps P N ops l { st with fr := (i, y) :: st.fr } Q := .keep ks os hs k
  intro F ρ a w hr
  exact k2.after (hr.weak i hx hle) (Fr.refl F ρ w)
end
end Esp

/- ESP, part 2: one operation on abstract states: its value where it only reads. -/
import Derived.Test.YtojomjomicfcdaaDoorEspRel
import GoSem.Dispatch
import Derived.Laws.Sem
namespace Esp
open Go
set_option linter.unusedSimpArgs false
set_option linter.unusedVariables false
variable [Tabs]

/-! ## state updates -/

mutual
def AV.uses (g : Nat) : AV → Bool
  | .whn h _ x => Nat.beq h g || AV.uses g x
  | .tup vs => AV.usesL g vs
  | _ => false
def AV.usesL (g : Nat) : List AV → Bool
  | [] => false
  | v :: r => AV.uses g v || AV.usesL g r
end

omit [Tabs] in
theorem AV.usesL_get {k : Nat} : ∀ {l : List AV}, AV.usesL k l = false → ∀ i (h : i < l.length), AV.uses k l[i] = false
  | [], _, i, h => by simp at h
  | c :: r, h, i, hi => by
    simp only [AV.usesL, Bool.or_eq_false_iff] at h
    cases i with
    | zero => simpa using h.1
    | succ i => simpa using AV.usesL_get h.2 i (by simpa using hi)

omit [Tabs] in
theorem getD_set_other {α : Type} (tm : Array α) (d g : Nat) (u x : α) (h : g ≠ d) : (tm.setIfInBounds d u).getD g x = tm.getD g x := by
  simp [Array.getD_eq_getD_getElem?, Array.getElem?_setIfInBounds, Ne.symm h]
omit [Tabs] in
theorem getD_set_same {α : Type} (tm : Array α) (d : Nat) (u x : α) (h : d < tm.size) : (tm.setIfInBounds d u).getD d x = u := by
  simp [Array.getD_eq_getD_getElem?, Array.getElem?_setIfInBounds, h]

omit [Tabs] in
theorem RelAV.tm {w : World} {F : Nat → Prop} {ρ : Env} {tm : Array Value} {d : Nat} {u : Value} {x : AV} {v : Value} (h : RelAV w F ρ tm x v) (hx : x.uses d = false) :
    RelAV w F ρ (tm.setIfInBounds d u) x v := by
  induction h with
  | cell c v h => exact .cell c v h
  | agg cs arr hz h => exact .agg cs arr hz h
  | aggD cs arr hz h => exact .aggD cs arr hz h
  | tup vs arr hz h ih => exact .tup vs arr hz fun i hi => ih i hi (AV.usesL_get (by simpa [AV.uses] using hx) i hi)
  | whn g want x v h h' ih =>
    simp only [AV.uses, Bool.or_eq_false_iff] at hx
    have hg : g ≠ d := Nat.ne_of_beq_eq_false hx.1
    exact .whn g want x v (fun e => ih (by rwa [getD_set_other _ _ _ _ _ hg] at e) hx.2) (fun e => h' (by rwa [getD_set_other _ _ _ _ _ hg] at e))
  | junk v => exact .junk v

def AV.dropW (d : Nat) (v : AV) : AV := bif v.uses d then .junk else v

def setF (d : Nat) (x : AV) (fr : List (Nat × AV)) : List (Nat × AV) :=
  (d, x) :: (fr.filter fun p => !Nat.beq p.1 d).map fun p => (p.1, p.2.dropW d)

omit [Tabs] in
theorem lkF_map (f : AV → AV) (hf : f .junk = .junk) : ∀ (fr : List (Nat × AV)) (i : Nat), lkF (fr.map fun p => (p.1, f p.2)) i = f (lkF fr i)
  | [], _ => hf.symm
  | (j, v) :: r, i => by
    simp only [List.map_cons, lkF]
    cases Nat.beq i j with
    | true => rfl
    | false => simpa using lkF_map f hf r i

omit [Tabs] in
theorem lkF_filter (d : Nat) : ∀ (fr : List (Nat × AV)) (i : Nat), i ≠ d → lkF (fr.filter fun p => !Nat.beq p.1 d) i = lkF fr i
  | [], _, _ => rfl
  | (j, v) :: r, i, h => by
    cases hj : Nat.beq j d with
    | true =>
      have : Nat.beq i j = false := by
        cases hij : Nat.beq i j with
        | false => rfl
        | true => exact absurd ((Nat.eq_of_beq_eq_true hij).trans (Nat.eq_of_beq_eq_true hj)) h
      rw [List.filter_cons_of_neg (by simp [hj])]
      simp only [lkF, this, cond_false]
      exact lkF_filter d r i h
    | false =>
      rw [List.filter_cons_of_pos (by simp [hj])]
      simp only [lkF]
      cases Nat.beq i j with
      | true => rfl
      | false => simpa using lkF_filter d r i h

omit [Tabs] in
theorem lkF_set_same (d : Nat) (x : AV) (fr : List (Nat × AV)) : lkF (setF d x fr) d = x := by simp [setF, lkF]
omit [Tabs] in
theorem lkF_set_other (d : Nat) (x : AV) (fr : List (Nat × AV)) (i : Nat) (h : i ≠ d) : lkF (setF d x fr) i = (lkF fr i).dropW d := by
  have hb : Nat.beq i d = false := by cases hb : Nat.beq i d with | false => rfl | true => exact absurd (Nat.eq_of_beq_eq_true hb) h
  simp only [setF, lkF, hb, cond_false]
  rw [lkF_map (AV.dropW d) rfl, lkF_filter d fr i h]

omit [Tabs] in
theorem RelAV.dropW {w : World} {F : Nat → Prop} {ρ : Env} {tm : Array Value} {d : Nat} {u : Value} {x : AV} {v : Value} (h : RelAV w F ρ tm x v) :
    RelAV w F ρ (tm.setIfInBounds d u) (x.dropW d) v := by
  unfold AV.dropW
  cases hx : x.uses d with
  | true => exact .junk v
  | false => exact h.tm hx

def ASt.put (st : ASt) (dst : Option Tmp) (x : AV) : ASt :=
  match dst with
  | some d => { st with fr := setF d x st.fr }
  | none => st

def dstOk (N : Nat) : Option Tmp → Bool
  | some d => Nat.blt d N
  | none => true

theorem Rel.put {N : Nat} {F : Nat → Prop} {ρ : Env} {st : ASt} {a : Act} {w : World} (h : Rel N F ρ st a w) (d : Tmp) (hd : d < N) {x : AV} {v : Value}
    (hx : RelAV w F ρ (a.tmps.setIfInBounds d v) x v) : Rel N F ρ (st.put (some d) x) (a.put (some d) v) w where
  rw := h.rw
  fr i := by
    simp only [ASt.put, Act.put]
    by_cases hi : i = d
    · subst hi
      rw [lkF_set_same, getD_set_same _ _ _ _ (by rw [h.sz]; exact hd)]
      exact hx
    · rw [lkF_set_other _ _ _ _ hi, getD_set_other _ _ _ _ _ hi]
      exact (h.fr i).dropW
  ob := h.ob
  sz := by simpa [Act.put] using h.sz
  df := h.df

/-! ## operands -/

def ev (fr : List (Nat × AV)) : Operand → AV
  | .tmp t => lkF fr t
  | .const v => bif v.oneCell' then .cell (.d (.sc v)) else .junk
  | .global _ => .junk
  | .func f => .cell (.fn (.func f) [] [])

theorem ev_rel {N : Nat} {F : Nat → Prop} {ρ : Env} {st : ASt} {a : Act} {w : World} (h : Rel N F ρ st a w) (x : Operand) : RelAV w F ρ a.tmps (ev st.fr x) (a.eval x) := by
  cases x with
  | tmp t => exact h.fr t
  | const v =>
    simp only [ev, Act.eval]
    cases hv : v.oneCell' with
    | true => exact .cell _ _ (.d _ _ (.sc v hv))
    | false => exact .junk _
  | global g => exact .junk _
  | func f => exact .cell _ _ (.fn _ [] [] #[] #[] rfl rfl (fun i hi => absurd hi (by simp)) (fun i hi => absurd hi (by simp)))

def scV : AV → Option Value
  | .cell (.d (.sc v)) => some v
  | _ => none

omit [Tabs] in
theorem scV_rel {w : World} {F : Nat → Prop} {ρ : Env} {tm : Array Value} {x : AV} {u v : Value} (h : RelAV w F ρ tm x v) (hs : scV x = some u) : v = u ∧ u.oneCell' = true := by
  unfold scV at hs
  split at hs
  · rename_i y
    cases hs
    cases h with
    | cell c v h => cases h with
      | d x v h => cases h with
        | sc v h => exact ⟨rfl, h⟩
  · cases hs

/-! ## runs that look at nothing but the program -/

def pureRun {α : Type} (P : Program) : Sem α → Option α
  | .pure a => some a
  | .program k => pureRun P (k P)
  | .mark _ k => pureRun P k
  | _ => none

omit [Tabs] in
theorem pureRun_run {α : Type} {P : Program} : ∀ {s : Sem α} {a : α}, pureRun P s = some a → ∀ w, s.run P w = .ok a w := by
  intro s
  induction s with
  | pure a => intro b h w; simp only [pureRun, Option.some.injEq] at h; subst h; rfl
  | program k ih => intro b h w; exact ih P h w
  | mark m k ih => intro b h w; exact ih h w
  | _ => intro b h w; simp [pureRun] at h

end Esp

/- ESP, part 15: operations of two scalars with a condition: shifts by an amount, divisions, sums of strings. -/
import Derived.Test.YtjecnkdkhniflaaDoorEspOcall
import Derived.Laws.Concat
namespace Esp
open Go
set_option linter.unusedSimpArgs false
set_option linter.unusedVariables false
variable [Tabs]

def qBin (N : Nat) (ops : Array Oper) (i : Nat) (st : ASt) : Option (Tmp × BinOp × Value × Value) :=
  match opK ops st.fr i with
  | some ⟨some d, .binOp op t x y _, _, _, _, _⟩ => match scV (ev st.fr x), scV (ev st.fr y) with
    | some u, some v => bif Nat.blt d N then some (d, op, u, v) else none
    | _, _ => none
  | _ => none

section
variable {P : Program} {N : Nat} {ops : Array Oper} {Q : Exit → ASt → Prop} {st st' : ASt} {l : List Nat}

theorem IEff.qbin {i d : Nat} {op : BinOp} {u v r : Value} (h : qBin N ops i st = some (d, op, u, v))
    (hr : ∀ (t : TypeId) (x y : Operand) w, (do eqGuard op t x y u v; binOp op t u v : Sem Value).run P w = .ok r w) (h1 : r.oneCell' = true) : IEff P N ops i st (.put d (.cell (.d (.sc r)))) := by
  unfold qBin at h
  split at h
  · rename_i d' op' t' x' y' yt ty pos after guard ho
    split at h
    · rename_i u' v' hu hv
      cases hb : Nat.blt d' N with
      | false => rw [hb] at h; cases h
      | true =>
        rw [hb] at h
        cases h
        refine .of_opK ho ⟨rfl, fun F ρ a w hr' => ?_⟩
        have e1 := (scV_rel (ev_rel hr' x') hu).1
        have e2 := (scV_rel (ev_rel hr' y') hv).1
        refine ⟨r, w, F, ρ, .inl ?_, hr'.put d (blt_lt hb) (.cell _ _ (.d _ _ (.sc r h1))), Fr.refl F ρ w, .none fun _ _ => rfl⟩
        have := hr t' x' y' w
        simp only [execOp, e1, e2]
        simp only [Sem.run_bind] at this ⊢
        rw [this]
        rfl
    · cases h
  · cases h

theorem IEff.qshr {i d : Nat} {k k2 : IntKind} {x y : Int} (h : qBin N ops i st = some (d, .shr, .int k x, .int k2 y)) (h0 : 0 ≤ y) :
    IEff P N ops i st (.put d (.cell (.d (.sc (.int k (bshr k x y)))))) := by
  refine .qbin h (fun t p q w => ?_) rfl
  have h0' : ¬ y < 0 := by omega
  simp [eqGuard, binOp, Op.shift, h0', bshr]
theorem IEff.qshl {i d : Nat} {k k2 : IntKind} {x y : Int} (h : qBin N ops i st = some (d, .shl, .int k x, .int k2 y)) (h0 : 0 ≤ y) :
    IEff P N ops i st (.put d (.cell (.d (.sc (.int k (bshl k x y)))))) := by
  refine .qbin h (fun t p q w => ?_) rfl
  have h0' : ¬ y < 0 := by omega
  simp [eqGuard, binOp, Op.shift, h0', bshl]
theorem IEff.qquo {i d : Nat} {k : IntKind} {x y : Int} (h : qBin N ops i st = some (d, .quo, .int k x, .int k y)) (h0 : y ≠ 0) :
    IEff P N ops i st (.put d (.cell (.d (.sc (.int k (bquo k x y)))))) := by
  refine .qbin h (fun t p q w => ?_) rfl
  simp [eqGuard, binOp, Op.intDiv, h0, bquo]
theorem IEff.qrem {i d : Nat} {k : IntKind} {x y : Int} (h : qBin N ops i st = some (d, .rem, .int k x, .int k y)) (h0 : y ≠ 0) :
    IEff P N ops i st (.put d (.cell (.d (.sc (.int k (brem k x y)))))) := by
  refine .qbin h (fun t p q w => ?_) rfl
  simp [eqGuard, binOp, Op.intDiv, h0, brem]
theorem IEff.qcat {i d : Nat} {a b r : ByteArray} (h : qBin N ops i st = some (d, .add, .string a, .string b)) (h0 : a.size + b.size ≤ 9223372036854775807) (hr : a ++ b = r) :
    IEff P N ops i st (.put d (.cell (.d (.sc (.string r))))) := by
  subst hr
  refine .qbin h (fun t p q w => ?_) rfl
  have := run_string_add_sum (P := P) w a b h0
  simp [eqGuard, binOp, this]
end
end Esp

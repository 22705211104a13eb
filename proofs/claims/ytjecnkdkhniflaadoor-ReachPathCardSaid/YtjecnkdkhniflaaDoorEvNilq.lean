/- EV, part 2d: is a slice nil? Where it is empty, both answers are gone through. -/
import Derived.Test.YtjecnkdkhniflaaDoorEvElt
import Derived.Lib.SliceRun
namespace Esp
open Go
set_option linter.unusedSimpArgs false
set_option linter.unusedVariables false
variable [Tabs]

noncomputable def dem2 {ρ : Type} (a b : Option ρ) : Option ρ :=
  match a with
  | some x => @ite _ (b = some x) (Classical.propDecidable _) (some x) none
  | none => none
omit [Tabs] in
theorem dem2_eq {ρ : Type} {a b : Option ρ} {r : ρ} (h : dem2 a b = some r) : a = some r ∧ b = some r := by
  unfold dem2 at h
  split at h
  · split at h
    · rename_i hb
      cases h
      exact ⟨rfl, hb⟩
    · cases h
  · cases h
omit [Tabs] in
theorem dem2_same {ρ : Type} (a : Option ρ) : dem2 a a = a := by
  unfold dem2
  split <;> simp_all
noncomputable def nilq {α ρ : Type} (xs : List α) (a b : Option ρ) : Option ρ :=
  match xs with
  | [] => dem2 a b
  | _ :: _ => b
omit [Tabs] in
theorem nilq_eq {α ρ : Type} {xs : List α} {a b : Option ρ} {r : ρ} (h : nilq xs a b = some r) : (xs = [] → a = some r) ∧ b = some r := by
  unfold nilq at h
  split at h
  · have h3 := dem2_eq h
    exact ⟨fun _ => h3.1, h3.2⟩
  · exact ⟨fun h => by simp at h, h⟩

structure NilT where
  d : Nat
  τ : Ev.Ty
  xs : List τ.den
  neq : Bool
def nilT (P : Program) (N : Nat) (st : ASt) (o : Oper) : Option NilT :=
  match o with
  | ⟨some d, .binOp op t x y _, _, _, _, _⟩ => match ev st.fr x, ev st.fr y with
    | .cell (.d (.nl τ xs)), .cell (.d (.sc (.slice none 0 0))) => match P.underlying t with
      | some (.slice _) => bif Nat.blt d N then match op with
        | .eql => some ⟨d, τ, xs, false⟩
        | .neq => some ⟨d, τ, xs, true⟩
        | _ => none
        else none
      | _ => none
    | _, _ => none
  | _ => none
abbrev bV (b : Bool) : AV := .cell (.d (.sc (.bool b)))

section
variable {P : Program} {N : Nat} {ops : Array Oper} {Q : Exit → ASt → Prop} {st : ASt} {i n : Nat}
omit [Tabs] in
theorem run_eql_nil (w : World) (t e : TypeId) (a : Option Addr) (n c : Nat) (h : P.underlying t = some (.slice e)) :
    (binOp .eql t (.slice a n c) (.slice none 0 0)).run P w = .ok (.bool a.isNone) w := Lib.run_eql_slice_nil w t e a n c 0 0 h
omit [Tabs] in
theorem run_neq_nil (w : World) (t e : TypeId) (a : Option Addr) (n c : Nat) (h : P.underlying t = some (.slice e)) :
    (binOp .neq t (.slice a n c) (.slice none 0 0)).run P w = .ok (.bool (!a.isNone)) w := by
  simp only [binOp]
  simp [Op.equal, Op.maxDepth, Lib.run_equalIn_slice_nil w 9999 t e a n c 0 0 h]

theorem AOps.nilT {o : Oper} {p : NilT} (ho : opK ops st.fr i = some o) (hn : nilT P N st o = some p)
    (h1 : p.xs = [] → AOps P N ops (List.range' (i + 1) n) (st.put (some p.d) (bV (!p.neq))) Q)
    (h2 : AOps P N ops (List.range' (i + 1) n) (st.put (some p.d) (bV p.neq)) Q) : AOps P N ops (List.range' i (n + 1)) st Q := by
  unfold Esp.nilT at hn
  split at hn
  · rename_i d op t x y u ty pos after guard
    split at hn
    · rename_i τ xs hx hy
      split at hn
      · rename_i e hu
        cases hd : Nat.blt d N with
        | false => rw [hd] at hn; cases hn
        | true =>
          rw [hd, cond_true] at hn
          rw [List.range'_succ]
          intro F ρ a w hr
          rw [wpOps_cons]
          obtain ⟨eo, hw⟩ := opK_wanted hr ho
          have hyv := (scV_rel (ev_rel hr y) (by rw [hy]; rfl)).1
          have hxr := ev_rel hr x
          rw [hx] at hxr
          obtain ⟨ad, m, c, hxv, hm⟩ : ∃ ad m c, a.eval x = .slice ad m c ∧ (ad = none → xs = []) := by
            have h9 := cell_inv hxr
            generalize a.eval x = xv at h9
            cases h9 with
            | nl _ _ v h9 =>
              generalize hn' : xs.length = n' at h9
              generalize flat τ xs = cs at h9
              cases h9 with
              | nil e a cap => exact ⟨a, 0, cap, rfl, fun _ => List.eq_nil_of_length_eq_zero hn'⟩
              | sl e n cs b off cap c => exact ⟨some ⟨b, off, none⟩, _, cap, rfl, fun h => by cases h⟩
          have go : ∀ (b : Bool), (do eqGuard op t x y (a.eval x) (a.eval y); binOp op t (a.eval x) (a.eval y) : Sem Value).run P w = .ok (.bool b) w → AOps P N ops (List.range' (i + 1) n) (st.put (some d) (bV b)) Q →
              wpOp P ops (fun e a' w' => ∃ F' ρ' st', Q e st' ∧ Rel N F' ρ' st' a' w' ∧ Fr F ρ w F' ρ' w') i (wpOps P ops (fun e a' w' => ∃ F' ρ' st', Q e st' ∧ Rel N F' ρ' st' a' w' ∧ Fr F ρ w F' ρ' w') (List.range' (i + 1) n)) a w := fun b hb hq => by
            have hrun : (execOp a.eval ⟨some d, .binOp op t x y u, ty, pos, after, guard⟩).run P w = .ok (.value (.bool b)) w := by
              simp only [Sem.run_bind] at hb
              simp only [execOp, Sem.run_bind]
              generalize (eqGuard op t x y (a.eval x) (a.eval y)).run P w = z at hb ⊢
              cases z <;> simp_all [Result.andThen]
            simp only [wpOp, eo]
            rw [if_pos hw]
            left
            simp only [Oper.wp, Oper.upon, hrun]
            exact hq.after (hr.put d (blt_lt hd) (.cell _ _ (.d _ _ (.sc _ rfl)))) (Fr.refl F ρ w)
          have hg : ∀ op', (op' = .eql ∨ op' = .neq) → (eqGuard op' t x y (a.eval x) (a.eval y)).run P w = .ok () w := fun op' h => by
            rw [hxv, hyv]
            rcases h with rfl | rfl <;> simp [eqGuard]
          split at hn
          · cases hn
            have hrun := fun hq => go ad.isNone (by
              simp only [Sem.run_bind, hg _ (.inl rfl), Result.andThen_ok]
              rw [hxv, hyv]
              exact run_eql_nil w t e ad m c hu) hq
            cases had : ad with
            | none => rw [had] at hrun; exact hrun (h1 (hm had))
            | some q => rw [had] at hrun; exact hrun h2
          · cases hn
            have hrun := fun hq => go (!ad.isNone) (by
              simp only [Sem.run_bind, hg _ (.inr rfl), Result.andThen_ok]
              rw [hxv, hyv]
              exact run_neq_nil w t e ad m c hu) hq
            cases had : ad with
            | none => rw [had] at hrun; exact hrun (h1 (hm had))
            | some q => rw [had] at hrun; exact hrun h2
          · cases hn
      · cases hn
    · cases hn
  · cases hn
end
end Esp

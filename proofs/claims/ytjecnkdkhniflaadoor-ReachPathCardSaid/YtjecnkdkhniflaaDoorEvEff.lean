/- EV, part 2: slices that are built and appended to, as plain lists. -/
import Derived.Test.YtjecnkdkhniflaaDoorEvN
namespace Esp
open Go
set_option linter.unusedSimpArgs false
set_option linter.unusedVariables false
variable [Tabs]

def tyOf : List (TypeId × Ev.Ty) → TypeId → Option Ev.Ty
  | [], _ => none
  | (a, τ) :: r, t => bif Nat.beq t a then some τ else tyOf r t

omit [Tabs] in
theorem RelOb.le {w : World} {F : Nat → Prop} {ρ : Env} {k : Nat} {t : TypeId} {e n : Nat} {cs cs' : List D} (h : RelOb w F ρ k (.arr t e n cs)) (hle : dsle cs cs') : RelOb w F ρ k (.arr t e n cs') := by
  cases h with
  | arr t e n cs u xs hk ho hz hh => exact .arr t e n cs' u xs hk ho (hz.trans hle.length) fun i hi => hle.get i (by rw [hle.length]; exact hi) hi _ _ _ (hh i (by rw [hle.length]; exact hi))

omit [Tabs] in
theorem RelOb.to_na {w : World} {F : Nat → Prop} {ρ : Env} {k : Nat} {t : TypeId} {τ : Ev.Ty} {n : Nat} {cs : List D} {xs : List τ.den} (h : RelOb w F ρ k (.arr t τ.sz n cs)) (hn : xs.length = n) (hle : dsle cs (flat τ xs)) : RelOb w F ρ k (.na t τ xs) := by
  subst hn
  exact .na t τ xs (h.le hle)

section
variable {P : Program} {N : Nat} {ops : Array Oper} {Q : Exit → ASt → Prop} {st st' : ASt} {l : List Nat}

theorem Rel.new_ob {F : Nat → Prop} {ρ : Env} {a : Act} {w : World} {k d : Nat} {o o' : AObj} {x : AV} (ho : ∀ w F ρ, RelOb w F ρ k o → RelOb w F ρ k o') (hr : Rel N F ρ ((Eff.new k o d x).app st) a w) : Rel N F ρ ((Eff.new k o' d x).app st) a w := by
  refine ⟨hr.rw, fun j => ?_, fun j => ?_, hr.sz, hr.df⟩
  · have hj := hr.fr j
    rw [app_fr] at hj ⊢
    exact hj
  · have hj := hr.ob j
    rw [app_ob] at hj ⊢
    simp only [Eff.appF] at hj ⊢
    by_cases e : j = k
    · subst e
      rw [if_pos rfl] at hj ⊢
      exact ho _ _ _ hj
    · rw [if_neg e] at hj ⊢
      exact hj
theorem IEff.new_ob {i k d : Nat} {o o' : AObj} {x : AV} (ho : ∀ w F ρ, RelOb w F ρ k o → RelOb w F ρ k o') (h : IEff P N ops i st (.new k o d x)) : IEff P N ops i st (.new k o' d x) :=
  IEff.conv (e := .new k o d x) rfl rfl rfl (fun _ _ _ _ hr => hr.new_ob ho) h

/-! ## a slice written out -/
def upN (T : List (TypeId × Ev.Ty)) : Eff → Option Eff
  | .new k (.arr te e n cs) d x => match tyOf T te with
    | some τ => bif Nat.beq e τ.sz then (rds τ n cs).bind fun xs => some (.new k (.na te τ xs) d x) else none
    | none => none
  | e => some e
theorem upN_sound {T : List (TypeId × Ev.Ty)} {i : Nat} {e e' : Eff} (h : upN T e = some e') (hi : IEff P N ops i st e) : IEff P N ops i st e' := by
  unfold upN at h
  split at h
  · rename_i k te e n cs d x
    split at h
    · rename_i τ ht
      cases hb : Nat.beq e τ.sz with
      | false => rw [hb] at h; cases h
      | true =>
        rw [hb] at h
        have := Nat.eq_of_beq_eq_true hb
        subst this
        simp only [cond_true, Option.bind_eq_some_iff, Option.some.injEq] at h
        obtain ⟨xs, h1, rfl⟩ := h
        obtain ⟨h2, h3⟩ := rds_le h1
        exact hi.new_ob fun w F ρ ho => ho.to_na h2 h3
    · cases h
  · cases h
    exact hi

/-! ## appending -/
def srcN (P : Program) (ob : List (Nat × AObj)) (k : Nat) (τ : Ev.Ty) (tx : TypeId) (y : AV) : Option (List τ.den) :=
  match P.underlying tx with
  | some (.slice _) => match y with
    | .cell (.d (.nl τ' ys)) => Ev.castL τ' τ ys
    | .cell (.d (.sc (.slice none 0 0))) => some []
    | .cell (.own k') => bif Nat.beq k' k then none else match lkO ob k' with
      | .na _ τ' ys => Ev.castL τ' τ ys
      | _ => none
    | _ => none
  | some .string => match y with
    | .cell (.d (.sc (.string s))) => Ev.castL .u8 τ (bytesI s)
    | _ => none
  | _ => none

omit [Tabs] in
theorem srcN_low {ob : List (Nat × AObj)} {k : Nat} {τ : Ev.Ty} {tx : TypeId} {y : AV} {ys : List τ.den} (h : srcN P ob k τ tx y = some ys) : srcV P (ob.map fun p => (p.1, p.2.low)) k τ.sz tx y.low = some (ys.length, flat τ ys) := by
  unfold srcN at h
  unfold srcV
  split at h
  · rename_i u hu
    simp only [hu]
    split at h
    · obtain ⟨e, rfl⟩ := Ev.castL_eq h
      subst e
      simp [AV.low, D.low]
    · cases h
      simp [AV.low, D.low, flat]
    · rename_i k'
      cases hb : Nat.beq k' k with
      | true => rw [hb] at h; cases h
      | false =>
        rw [hb, cond_false] at h
        split at h
        · rename_i te τ' ys' ho
          obtain ⟨e, rfl⟩ := Ev.castL_eq h
          subst e
          have : lkO (ob.map fun p => (p.1, p.2.low)) k' = .arr te τ'.sz ys'.length (flat τ' ys') := by
            rw [lkO_map AObj.low rfl, ho]
            rfl
          simp [AV.low, hb, this]
        · cases h
    · cases h
  · rename_i hu
    simp only [hu]
    split at h
    · rename_i s
      obtain ⟨e, rfl⟩ := Ev.castL_eq h
      subst e
      have h1 : (bytesI s).length = s.size := by simp [bytesI]
      simp [AV.low, D.low, Ev.Ty.sz, Ev.Ty.sz0, h1, flat_bytesI]
    · cases h
  · cases h

structure App where
  d : Nat
  k : Nat
  te : TypeId
  τ : Ev.Ty
  bytes : Nat
  zs : List τ.den
def App.eff (p : App) : Eff := .new p.k (.na p.te p.τ p.zs) p.d (.cell (.own p.k))

def evApp (P : Program) (N : Nat) (T : List (TypeId × Ev.Ty)) (st : ASt) (o : Oper) : Option App :=
  match o with
  | ⟨some d, .call c, _, _, _, _⟩ => match c.callee, c.args.toList, c.argTypes.toList with
    | .builtin .append, [s, y], [t, tx] => match rowB P t with
      | some (te, e, bytes) => bif Nat.blt d N then match ev st.fr s with
        | .cell (.own k) => match lkO st.ob k with
          | .na te' τ xs => bif Nat.beq te te' && Nat.beq e τ.sz && Nat.blt k 2000000 then (srcN P st.ob k τ tx (ev st.fr y)).bind fun ys => some ⟨d, k, te, τ, bytes, xs ++ ys⟩ else none
          | _ => none
        | .cell (.d (.sc (.slice none 0 0))) => match tyOf T te with
          | some τ => bif Nat.beq e τ.sz then (srcN P st.ob d τ tx (ev st.fr y)).bind fun ys => some ⟨d, d, te, τ, bytes, ys⟩ else none
          | none => none
        | _ => none
        else none
      | none => none
    | _, _, _ => none
  | _ => none
def room (n b : Nat) : Bool := Nat.ble n 1152921504606846976 && Nat.ble (n * b) 140737488355328
omit [Tabs] in
theorem room_eq {n b : Nat} (h : room n b = true) : n ≤ maxLen ∧ n * b ≤ 140737488355328 := by
  simp only [room, Bool.and_eq_true] at h
  exact ⟨by have := Nat.le_of_ble_eq_true h.1; unfold maxLen; omega, Nat.le_of_ble_eq_true h.2⟩

theorem evApp_sound {T : List (TypeId × Ev.Ty)} {i : Nat} {o : Oper} {p : App} (ho : opK ops st.fr i = some o) (h : evApp P N T st o = some p) (hr : room p.zs.length p.bytes = true) : IEff P N ops i st p.eff := by
  unfold evApp at h
  split at h
  · rename_i d c ty pos after guard
    obtain ⟨callee, args, ats⟩ := c
    dsimp only at h
    split at h
    · rename_i s y t tx ha1 ha2
      have e1 : args = #[s, y] := by cases args; simp_all
      have e2 : ats = #[t, tx] := by cases ats; simp_all
      subst e1
      subst e2
      split at h
      · rename_i te e bytes ht
        cases hd : Nat.blt d N with
        | false => rw [hd] at h; cases h
        | true =>
        rw [hd, cond_true] at h
        split at h
        · rename_i k hs
          split at h
          · rename_i te' τ xs hk
            cases hb : (Nat.beq te te' && Nat.beq e τ.sz && Nat.blt k 2000000) with
            | false => rw [hb] at h; cases h
            | true =>
              rw [hb, cond_true] at h
              simp only [Bool.and_eq_true] at hb
              have q1 := Nat.eq_of_beq_eq_true hb.1.1
              have q2 := Nat.eq_of_beq_eq_true hb.1.2
              subst q1
              subst q2
              simp only [Option.bind_eq_some_iff, Option.some.injEq] at h
              obtain ⟨ys, h1, rfl⟩ := h
              obtain ⟨r1, r2⟩ := room_eq hr
              dsimp only at r1 r2
              rw [List.length_append] at r1 r2
              refine IEff.new_ob (o := .arr te τ.sz (xs.length + ys.length) (flat τ xs ++ flat τ ys)) (fun w F ρ hw => hw.to_na (by simp) (by rw [flat_append]; exact .refl _)) (.ofLow ?_)
              exact .append (by rw [opK_low]; exact ho) (by rw [low_ev, hs]; rfl) (by rw [low_ob, hk]; rfl) ht hd (by rw [low_ev]; exact srcN_low h1) r1 r2 rfl rfl hb.2
          · cases h
        · rename_i hs
          split at h
          · rename_i τ hτ
            cases hb : Nat.beq e τ.sz with
            | false => rw [hb] at h; cases h
            | true =>
              rw [hb, cond_true] at h
              have q2 := Nat.eq_of_beq_eq_true hb
              subst q2
              simp only [Option.bind_eq_some_iff, Option.some.injEq] at h
              obtain ⟨ys, h1, rfl⟩ := h
              obtain ⟨r1, r2⟩ := room_eq hr
              refine IEff.new_ob (o := .arr te τ.sz ys.length (flat τ ys)) (fun w F ρ hw => hw.to_na rfl (.refl _)) (.ofLow ?_)
              exact .appendNil (by rw [opK_low]; exact ho) (by rw [low_ev, hs]; rfl) ht hd (by rw [low_ev]; exact srcN_low h1) r1 r2
          · cases h
        · cases h
      · cases h
    · cases h
  · cases h
end
end Esp

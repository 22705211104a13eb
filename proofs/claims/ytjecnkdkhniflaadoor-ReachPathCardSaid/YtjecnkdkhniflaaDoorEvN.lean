/- EV, part 1: operations on plain lists: each follows from the rule on cells. -/
import Derived.Test.YtjecnkdkhniflaaDoorEspWeak
import Derived.Test.YtjecnkdkhniflaaDoorEspBin
import Derived.Test.YtjecnkdkhniflaaDoorEspTab
namespace Esp
open Go
set_option linter.unusedSimpArgs false
set_option linter.unusedVariables false
variable [Tabs]

section
variable {P : Program} {N : Nat} {ops : Array Oper} {Q : Exit → ASt → Prop} {st st' : ASt} {l : List Nat}

theorem IEff.frame {i : Nat} {e : Eff} {s s' : ASt} (hs : ∀ F ρ a w, Rel N F ρ s a w → Rel N F ρ s' a w) (h : IEff P N ops i s' e) : IEff P N ops i s e := by
  intro F ρ a w hr K R k
  refine h F ρ a w (hs F ρ a w hr) K R fun v w' F' ρ' hr' hf ht => k v w' F' ρ' ?_ hf ht
  have hF : ∀ b, F b → w'.heap[b]? = w.heap[b]? := fun b hb => hf.keep b (hr.rw.lt b hb) (hr.rw.dis b hb)
  have oth : ∀ j, e.touch ≠ some j → ∀ l b, ρ j = some l → l.blk = some b → w'.heap[b]? = w.heap[b]? := fun j hj l b hl hb =>
    ht.keep b ((hr.ob j).lt hl hb) fun k' l' hk' hl' hb' => hj (by rw [hk', hr.rw.inj _ _ _ _ b hl hl' hb hb'])
  refine ⟨hr'.rw, fun i => ?_, fun j => ?_, hr'.sz, hr'.df⟩
  · have h1 := hr'.fr i
    have h0 := hr.fr i
    cases e with
    | put d x =>
      have hρ : ρ' = ρ := by funext j; exact ht.off j (by simp [Eff.key])
      subst hρ
      rw [app_fr] at h1
      rw [app_fr]
      simp only [Eff.appF, Eff.dst, Act.put] at h1 ⊢
      by_cases hi : i = d
      · rw [if_pos hi] at h1 ⊢
        exact h1
      · rw [if_neg hi, getD_set_other _ _ _ _ _ hi]
        exact (h0.mono hF hf.sub fun _ _ h => h).dropW
    | new kk o d x =>
      rw [app_fr] at h1
      rw [app_fr]
      simp only [Eff.appF, Eff.dst, Act.put] at h1 ⊢
      by_cases hi : i = d
      · rw [if_pos hi] at h1 ⊢
        exact h1
      · rw [if_neg hi, getD_set_other _ _ _ _ _ hi]
        have hoff : offK kk ρ ρ' := fun j hj => ht.off j (by simp only [Eff.key, ne_eq, Option.some.injEq]; exact fun e => hj e.symm)
        exact ((h0.kill hoff).mono hF hf.sub fun _ _ h => h).dropW
    | upd kk o =>
      have hρ : ρ' = ρ := by funext j; exact ht.off j (by simp [Eff.key])
      subst hρ
      rw [app_fr]
      simp only [Eff.appF, Eff.dst, Act.put]
      exact h0.mono hF hf.sub fun _ _ h => h
    | upp kk o d x =>
      have hρ : ρ' = ρ := by funext j; exact ht.off j (by simp [Eff.key])
      subst hρ
      rw [app_fr] at h1
      rw [app_fr]
      simp only [Eff.appF, Eff.dst, Act.put] at h1 ⊢
      by_cases hi : i = d
      · rw [if_pos hi] at h1 ⊢
        exact h1
      · rw [if_neg hi, getD_set_other _ _ _ _ _ hi]
        exact (h0.mono hF hf.sub fun _ _ h => h).dropW
  · have h1 := hr'.ob j
    have h0 := hr.ob j
    rw [app_ob] at h1
    rw [app_ob]
    cases e with
    | put d x =>
      have hρ : ρ' = ρ := by funext j; exact ht.off j (by simp [Eff.key])
      subst hρ
      simp only [Eff.appF]
      exact h0.through hF hf.sub (oth j (by simp [Eff.touch]))
    | new kk o d x =>
      simp only [Eff.appF] at h1 ⊢
      by_cases hj : j = kk
      · rw [if_pos hj] at h1 ⊢
        exact h1
      · rw [if_neg hj]
        have hoff : offK kk ρ ρ' := fun j hj => ht.off j (by simp only [Eff.key, ne_eq, Option.some.injEq]; exact fun e => hj e.symm)
        have h2 := h0.kill hoff hj
        refine h2.through hF hf.sub fun l b hl hb => oth j (by simp only [Eff.touch, ne_eq, Option.some.injEq]; exact fun e => hj e.symm) l b ?_ hb
        rw [← hoff j hj]
        exact hl
    | upd kk o =>
      have hρ : ρ' = ρ := by funext j; exact ht.off j (by simp [Eff.key])
      subst hρ
      simp only [Eff.appF] at h1 ⊢
      by_cases hj : j = kk
      · rw [if_pos hj] at h1 ⊢
        exact h1
      · rw [if_neg hj]
        exact h0.through hF hf.sub (oth j (by simp only [Eff.touch, ne_eq, Option.some.injEq]; exact fun e => hj e.symm))
    | upp kk o d x =>
      have hρ : ρ' = ρ := by funext j; exact ht.off j (by simp [Eff.key])
      subst hρ
      simp only [Eff.appF] at h1 ⊢
      by_cases hj : j = kk
      · rw [if_pos hj] at h1 ⊢
        exact h1
      · rw [if_neg hj]
        exact h0.through hF hf.sub (oth j (by simp only [Eff.touch, ne_eq, Option.some.injEq]; exact fun e => hj e.symm))

theorem IEff.conv {i : Nat} {e e' : Eff} (hd : e'.dst = e.dst) (hk : e'.key = e.key) (ht : e'.touch = e.touch) (hs : ∀ F ρ a w, Rel N F ρ (e.app st) a w → Rel N F ρ (e'.app st) a w) (h : IEff P N ops i st e) : IEff P N ops i st e' := by
  intro F ρ a w hr K R k
  refine h F ρ a w hr K R fun v w' F' ρ' hr' hf htc => ?_
  rw [← hd]
  refine k v w' F' ρ' (by rw [hd]; exact hs _ _ _ _ hr') hf ⟨by rw [hk]; exact htc.off, by rw [ht]; exact htc.keep⟩
end

section
variable {P : Program} {N : Nat} {ops : Array Oper} {Q : Exit → ASt → Prop} {st st' : ASt} {l : List Nat}
theorem IEff.newF {i d : Nat} {te : TypeId} {τ : Ev.Ty} {xs : List τ.den} (hN : Nat.blt d N = true) (hg : lkO st.ob d = .gone) (h : IEff P N ops i st (.new d (.na te τ xs) d (.cell (.own d)))) : IEff P N ops i st (.put d (.cell (.d (.nl τ xs)))) := by
  intro F ρ a w hr K R k
  have hd0 : ρ d = none := by
    have h0 := hr.ob d
    rw [hg] at h0
    cases h0
    assumption
  refine h F ρ a w hr K R fun v w' F' ρ' hr' hf ht => ?_
  have ho := hr'.ob d
  rw [app_ob] at ho
  simp only [Eff.appF, if_pos] at ho
  cases ho with
  | na _ _ _ ho =>
  obtain ⟨F2, h2, hf2⟩ := hr'.freezeD1 d (.nl τ xs) ho fun _ _ h => .nl _ _ _ h
  have hρ : ρ'.set d none = ρ := by
    funext j
    by_cases e : j = d
    · subst e; rw [Env.set_same, hd0]
    · rw [Env.set_other _ _ _ e]
      exact ht.off j (by simp only [Eff.key, ne_eq, Option.some.injEq]; exact fun e' => e e'.symm)
  rw [hρ] at h2 hf2
  have hfr := hf.trans hr'.rw.dis hf2
  have hkeep : ∀ b, b < w.heap.size → w'.heap[b]? = w.heap[b]? := fun b hb => ht.keep b hb fun k' l' hk' hl' _ => by
    simp only [Eff.touch] at hk'
    cases hk'
    rw [hd0] at hl'
    cases hl'
  have hF : ∀ b, F b → w'.heap[b]? = w.heap[b]? := fun b hb => hkeep b (hr.rw.lt b hb)
  refine k v w' F2 ρ ⟨h2.rw, fun j => ?_, fun j => ?_, h2.sz, h2.df⟩ hfr ⟨fun _ _ => rfl, fun b hb _ => hkeep b hb⟩
  · rw [app_fr]
    simp only [Eff.appF, Eff.dst, Act.put]
    by_cases hj : j = d
    · rw [if_pos hj]
      have h1 := h2.fr d
      simp only at h1
      rw [lkF_map (AV.frz d (.nl τ xs)) (by simp [AV.frz]), app_fr] at h1
      simp only [Eff.appF, if_pos, AV.frz, AC.frz, Nat.beq_refl, cond_true, Eff.dst, Act.put] at h1
      subst hj
      exact h1
    · rw [if_neg hj, getD_set_other _ _ _ _ _ hj]
      exact ((hr.fr j).mono hF hfr.sub fun _ _ h => h).dropW
  · rw [app_ob]
    simp only [Eff.appF]
    exact (hr.ob j).through hF hfr.sub fun l b hl hb => hkeep b ((hr.ob j).lt hl hb)
theorem IEff.newS {i k d : Nat} {te : TypeId} {τ : Ev.Ty} {xs : List τ.den} (h : IEff P N ops i st (.new k (.na te τ xs) d (.cell (.own k)))) : IEff P N ops i st (.new k .gone d (.cell (.d (.nl τ xs)))) := by
  intro F ρ a w hr K R kk
  refine h F ρ a w hr K R fun v w' F' ρ' hr' hf ht => ?_
  have ho := hr'.ob k
  rw [app_ob] at ho
  simp only [Eff.appF, if_pos] at ho
  cases ho with
  | na _ _ _ ho =>
  obtain ⟨F2, h2, hf2⟩ := hr'.freezeD1 k (.nl τ xs) ho fun _ _ h => .nl _ _ _ h
  have hfr := hf.trans hr'.rw.dis hf2
  have hsub : ∀ j l, (ρ'.set k none) j = some l → ρ' j = some l := fun j l hl => by
    by_cases e : j = k
    · subst e; rw [Env.set_same] at hl; cases hl
    · rwa [Env.set_other _ _ _ e] at hl
  refine kk v w' F2 (ρ'.set k none) ⟨h2.rw, fun j => ?_, fun j => ?_, h2.sz, h2.df⟩ hfr ⟨fun j hj => ?_, fun b hb hk => ht.keep b hb hk⟩
  · rw [app_fr]
    simp only [Eff.appF, Eff.dst, Act.put]
    by_cases hj : j = d
    · rw [if_pos hj]
      have h1 := h2.fr d
      simp only at h1
      rw [lkF_map (AV.frz k (.nl τ xs)) (by simp [AV.frz]), app_fr] at h1
      simp only [Eff.appF, if_pos, AV.frz, AC.frz, Nat.beq_refl, cond_true, Eff.dst, Act.put] at h1
      subst hj
      exact h1
    · rw [if_neg hj]
      have h1 := hr'.fr j
      rw [app_fr] at h1
      simp only [Eff.appF, if_neg hj, Eff.dst, Act.put] at h1
      exact h1.mono (fun _ _ => rfl) hf2.sub hsub
  · rw [app_ob]
    simp only [Eff.appF]
    by_cases hj : j = k
    · rw [if_pos hj]
      subst hj
      exact .gone (Env.set_same _ _ _)
    · rw [if_neg hj]
      have h1 := hr'.ob j
      rw [app_ob] at h1
      simp only [Eff.appF, if_neg hj] at h1
      exact (h1.through (fun _ _ => rfl) hf2.sub fun l b hl hb => rfl).cut (Env.set_other _ _ _ hj) hsub
  · have e : j ≠ k := fun e => hj (by rw [e]; rfl)
    rw [Env.set_other _ _ _ e]
    exact ht.off j hj
end

/-! ## the state with its plain lists as cells -/
def D.low : D → D
  | .nl t xs => .sl t.sz xs.length (flat t xs)
  | x => x
def AV.low : AV → AV
  | .cell (.d x) => .cell (.d x.low)
  | x => x
def AObj.low : AObj → AObj
  | .na t e xs => .arr t e.sz xs.length (flat e xs)
  | x => x
def ASt.low (s : ASt) : ASt := ⟨s.fr.map fun p => (p.1, p.2.low), s.ob.map fun p => (p.1, p.2.low)⟩

omit [Tabs] in
theorem RelD.low {w : World} {F : Nat → Prop} {x : D} {v : Value} (h : RelD w F x v) : RelD w F x.low v := by
  cases h with
  | nl t xs v h => exact h
  | sc v h => exact .sc v h
  | nil e a cap => exact .nil e a cap
  | sl e n cs b off cap c hF hl hcap hc hr => exact .sl e n cs b off cap c hF hl hcap hc hr
  | rp cs b off c hF hc hr => exact .rp cs b off c hF hc hr
  | nm0 kt vt => exact .nm0 kt vt
  | nm kt vt l b es clock ka va hb hbb hsz hz he h1 h2 hst => exact .nm kt vt l b es clock ka va hb hbb hsz hz he h1 h2 hst
omit [Tabs] in
theorem RelAV.low {w : World} {F : Nat → Prop} {ρ : Env} {tm : Array Value} {x : AV} {v : Value} (h : RelAV w F ρ tm x v) : RelAV w F ρ tm x.low v := by
  unfold AV.low
  split
  · exact .cell _ _ (.d _ _ (cell_inv h).low)
  · exact h
omit [Tabs] in
theorem RelOb.low {w : World} {F : Nat → Prop} {ρ : Env} {k : Nat} {x : AObj} (h : RelOb w F ρ k x) : RelOb w F ρ k x.low := by
  unfold AObj.low
  split
  · cases h with
    | na t e xs h => exact h
  · exact h
omit [Tabs] in
theorem low_fr (s : ASt) (i : Nat) : lkF s.low.fr i = (lkF s.fr i).low := lkF_map AV.low rfl s.fr i
omit [Tabs] in
theorem low_ob (s : ASt) (i : Nat) : lkO s.low.ob i = (lkO s.ob i).low := lkO_map AObj.low rfl s.ob i
theorem Rel.low {N : Nat} {F : Nat → Prop} {ρ : Env} {s : ASt} {a : Act} {w : World} (h : Rel N F ρ s a w) : Rel N F ρ s.low a w :=
  ⟨h.rw, fun i => by rw [low_fr]; exact (h.fr i).low, fun k => by rw [low_ob]; exact (h.ob k).low, h.sz, h.df⟩
omit [Tabs] in
theorem low_ev (s : ASt) (x : Operand) : ev s.low.fr x = (ev s.fr x).low := by
  cases x with
  | tmp t => exact low_fr s t
  | const v =>
    simp only [ev]
    cases v.oneCell' <;> rfl
  | global g => rfl
  | func f => rfl
omit [Tabs] in
theorem boolV_low (x : AV) : boolV x.low = boolV x := by
  unfold AV.low
  split
  · rename_i y
    cases y <;> rfl
  · rfl
omit [Tabs] in
theorem opK_low (ops : Array Oper) (s : ASt) (i : Nat) : opK ops s.low.fr i = opK ops s.fr i := by
  unfold opK
  cases ops[i]? with
  | none => rfl
  | some o =>
    dsimp only
    cases o.guard with
    | none => rfl
    | some p =>
      obtain ⟨j, want⟩ := p
      dsimp only
      cases gslot ops j with
      | none => rfl
      | some g =>
        dsimp only
        rw [low_fr, boolV_low]

section
variable {P : Program} {N : Nat} {ops : Array Oper} {Q : Exit → ASt → Prop} {st st' : ASt} {l : List Nat}

theorem IEff.ofLow {i : Nat} {e : Eff} (h : IEff P N ops i st.low e) : IEff P N ops i st e := .frame (fun _ _ _ _ hr => hr.low) h

theorem IEff.indexN {i d : Nat} {t ty te : TypeId} {x ix : Operand} {pos : String} {after : Array Edge} {guard : Option (Nat × Bool)} {τ : Ev.Ty} {xs : List τ.den} {y : τ.den} {kk : IntKind} {j : Int}
    (ho : opK ops st.fr i = some ⟨some d, .indexAddr t x ix, ty, pos, after, guard⟩) (hx : ev st.fr x = .cell (.d (.nl τ xs))) (hi : ev st.fr ix = .cell (.d (.sc (.int kk j))))
    (ht : elemB P t = some (te, τ.sz)) (hd : Nat.blt d N = true) (h0 : 0 ≤ j) (hy : xs[j.toNat]? = some y) :
    IEff P N ops i st (.put d (.cell (.d (.rp (cells τ y))))) := by
  have hlt := (List.getElem?_eq_some_iff.1 hy).1
  exact .ofLow (.index (by rw [opK_low]; exact ho) (by rw [low_ev, hx]; rfl) (by rw [low_ev, hi]; rfl) ht hd h0 (by omega) (flat_at τ hy))

theorem Rel.put_nl {F : Nat → Prop} {ρ : Env} {a : Act} {w : World} {d n e : Nat} {cs : List D} (τ : Ev.Ty) (xs : List τ.den) (he : e = τ.sz) (hn : n = xs.length) (hc : cs = flat τ xs)
    (hr : Rel N F ρ ((Eff.put d (.cell (.d (.sl e n cs)))).app st) a w) : Rel N F ρ ((Eff.put d (.cell (.d (.nl τ xs)))).app st) a w := by
  subst he
  subst hn
  subst hc
  refine ⟨hr.rw, fun j => ?_, hr.ob, hr.sz, hr.df⟩
  have hj := hr.fr j
  simp only [Eff.app, ASt.put] at hj ⊢
  by_cases e : j = d
  · subst e
    rw [lkF_set_same] at hj ⊢
    exact .cell _ _ (.d _ _ (.nl _ _ _ (cell_inv hj)))
  · rw [lkF_set_other _ _ _ _ e] at hj ⊢
    exact hj

theorem IEff.put_nl {i d n e : Nat} {cs : List D} (τ : Ev.Ty) (xs : List τ.den) (he : e = τ.sz) (hn : n = xs.length) (hc : cs = flat τ xs) (h : IEff P N ops i st (.put d (.cell (.d (.sl e n cs))))) :
    IEff P N ops i st (.put d (.cell (.d (.nl τ xs)))) :=
  IEff.conv (e := .put d (.cell (.d (.sl e n cs)))) rfl rfl rfl (fun _ _ _ _ hr => hr.put_nl τ xs he hn hc) h

theorem IEff.sliceN {i d : Nat} {t ty te : TypeId} {x : Operand} {lo hi : Option Operand} {pos : String} {after : Array Edge} {guard : Option (Nat × Bool)} {τ : Ev.Ty} {xs : List τ.den} {p q : Int}
    (ho : opK ops st.fr i = some ⟨some d, .slice t x lo hi none, ty, pos, after, guard⟩) (hx : ev st.fr x = .cell (.d (.nl τ xs))) (ht : elemB P t = some (te, τ.sz))
    (hl : bndV st.fr lo 0 = some p) (hh : bndV st.fr hi xs.length = some q) (hd : Nat.blt d N = true) (h0 : 0 ≤ p) (h1 : p ≤ q) (h2 : q ≤ xs.length) :
    IEff P N ops i st (.put d (.cell (.d (.nl τ ((xs.drop p.toNat).take (q - p).toNat))))) := by
  have hbl : ∀ (o : Option Operand) (z : Int), bndV st.low.fr o z = bndV st.fr o z := by
    intro o z
    cases o with
    | none => rfl
    | some y =>
      simp only [bndV, low_ev]
      generalize ev st.fr y = v
      cases v with
      | cell c => cases c with
        | d u => cases u <;> rfl
        | _ => rfl
      | _ => rfl
  have h := IEff.slice (P := P) (N := N) (st := st.low) (es := flat τ ((xs.drop p.toNat).take (q - p).toNat)) (by rw [opK_low]; exact ho) (by rw [low_ev, hx]; rfl) ht (by rw [hbl]; exact hl) (by rw [hbl]; exact hh) hd h0 h1 h2 rfl (by rw [flat_drop, flat_take])
  exact (IEff.ofLow h).put_nl τ _ rfl (by simp; omega) rfl

def bytesI (s : ByteArray) : List Int := s.data.toList.map fun c => (c.toNat : Int)
omit [Tabs] in
theorem flat_bytesI (s : ByteArray) : flat .u8 (bytesI s) = bytesD s.data.toList := by
  simp only [flat, bytesI, bytesD]
  induction s.data.toList with
  | nil => rfl
  | cons c r ih =>
    simp only [List.map_cons, List.flatMap_cons, ih]
    rfl
def okBytes : List Int → Bool
  | [] => true
  | n :: r => decide (0 ≤ n ∧ n < 256) && okBytes r
def strI (l : List Int) : ByteArray := ⟨(l.map fun n => UInt8.ofNat n.toNat).toArray⟩
omit [Tabs] in
theorem okBytes_eq : ∀ {l : List Int}, okBytes l = true → flat .u8 l = bytesD (l.map fun n => UInt8.ofNat n.toNat)
  | [], _ => rfl
  | n :: r, h => by
    simp only [okBytes, Bool.and_eq_true, decide_eq_true_eq] at h
    have ih := okBytes_eq h.2
    simp only [flat, List.flatMap_cons, bytesD, List.map_cons] at ih ⊢
    rw [ih]
    have : ((UInt8.ofNat n.toNat).toNat : Int) = n := by
      rw [UInt8.toNat_ofNat_of_lt' (by show _ < 256; omega)]
      omega
    simp only [cells, cells0, iC, List.cons_append, List.nil_append, this]

theorem IEff.bytesOfN {i d : Nat} {src dst ty : TypeId} {x : Operand} {pos : String} {after : Array Edge} {guard : Option (Nat × Bool)} {s : ByteArray}
    (ho : opK ops st.fr i = some ⟨some d, .convert src dst x, ty, pos, after, guard⟩) (hx : ev st.fr x = .cell (.d (.sc (.string s)))) (hs : P.underlying src = some .string) (ht : isBytesT P dst = true) (hd : Nat.blt d N = true) :
    IEff P N ops i st (.put d (.cell (.d (.nl .u8 (bytesI s))))) := by
  exact (IEff.bytesOf (P := P) ho hx hs ht hd).put_nl .u8 (bytesI s) rfl (by simp [bytesI]) (flat_bytesI s).symm

theorem IEff.ofBytesN {i d : Nat} {src dst ty : TypeId} {x : Operand} {pos : String} {after : Array Edge} {guard : Option (Nat × Bool)} {l : List Int}
    (ho : opK ops st.fr i = some ⟨some d, .convert src dst x, ty, pos, after, guard⟩) (hx : ev st.fr x = .cell (.d (.nl .u8 l))) (ht : P.underlying dst = some .string) (hs : isBytesT P src = true) (hd : Nat.blt d N = true) (hl : okBytes l = true) :
    IEff P N ops i st (.put d (.cell (.d (.sc (.string (strI l)))))) :=
  .ofLow (.ofBytes (by rw [opK_low]; exact ho) (by rw [low_ev, hx]; rfl) hs ht hd (b := l.map fun n => UInt8.ofNat n.toNat) (by simp) (okBytes_eq hl) rfl)


end

/-! ## cells read as plain data -/
def dle (x y : D) : Prop := ∀ w F v, RelD w F x v → RelD w F y v
omit [Tabs] in
theorem dle.refl (x : D) : dle x x := fun _ _ _ h => h
def dsle : List D → List D → Prop
  | [], [] => True
  | x :: r, y :: s => dle x y ∧ dsle r s
  | _, _ => False
omit [Tabs] in
theorem dsle.refl : ∀ l : List D, dsle l l
  | [] => trivial
  | x :: r => ⟨.refl x, .refl r⟩
omit [Tabs] in
theorem dsle.append : ∀ {a b c d : List D}, dsle a b → dsle c d → dsle (a ++ c) (b ++ d)
  | [], [], _, _, _, h => h
  | x :: r, y :: s, _, _, h, k => ⟨h.1, dsle.append h.2 k⟩
  | [], _ :: _, _, _, h, _ => h.elim
  | _ :: _, [], _, _, h, _ => h.elim
omit [Tabs] in
theorem dsle.length : ∀ {a b : List D}, dsle a b → a.length = b.length
  | [], [], _ => rfl
  | x :: r, y :: s, h => by simp [dsle.length h.2]
  | [], _ :: _, h => h.elim
  | _ :: _, [], h => h.elim
omit [Tabs] in
theorem dsle.get : ∀ {a b : List D}, dsle a b → ∀ i (h1 : i < a.length) (h2 : i < b.length), dle a[i] b[i]
  | x :: r, y :: s, h, 0, _, _ => h.1
  | x :: r, y :: s, h, i + 1, h1, h2 => dsle.get h.2 i (by simpa using h1) (by simpa using h2)
  | [], [], _, i, h1, _ => by simp at h1
  | [], _ :: _, h, _, _, _ => h.elim
  | _ :: _, [], h, _, _, _ => h.elim

def sameK : IntKind → IntKind → Bool
  | .i64, .i64 | .u8, .u8 | .u32, .u32 | .u64, .u64 | .i32, .i32 => true
  | _, _ => false
omit [Tabs] in
theorem sameK_eq {a b : IntKind} (h : sameK a b = true) : a = b := by
  cases a <;> cases b <;> first | rfl | (simp [sameK] at h)
def rI (k : IntKind) : D → Option Int
  | .sc (.int k' n) => bif sameK k' k then some n else none
  | _ => none
def rB : D → Option Bool
  | .sc (.bool b) => some b
  | _ => none
def rS : D → Option ByteArray
  | .sc (.string s) => some s
  | _ => none
def rL (t : Ev.Ty) : D → Option (List t.den)
  | .nl t' xs => Ev.castL t' t xs
  | .sc (.slice none 0 0) => some []
  | _ => none
def rM (kt vt : Ev.Ty) : D → Option (List (kt.den × vt.den))
  | .nm k v l => Ev.castM k kt v vt l
  | _ => none
omit [Tabs] in
theorem rM_le {kt vt : Ev.Ty} {x : D} {l : List (kt.den × vt.den)} (h : rM kt vt x = some l) : dle x (.nm kt vt l) := by
  unfold rM at h
  split at h
  · obtain ⟨e1, e2, rfl⟩ := Ev.castM_eq h
    subst e1
    subst e2
    exact .refl _
  · cases h
omit [Tabs] in
theorem rI_le {k : IntKind} {x : D} {n : Int} (h : rI k x = some n) : dle x (iC k n) := by
  unfold rI at h
  split at h
  · rename_i k' m
    cases hb : sameK k' k with
    | false => rw [hb] at h; cases h
    | true =>
      rw [hb] at h
      cases h
      rw [sameK_eq hb]
      exact .refl _
  · cases h
omit [Tabs] in
theorem rB_le {x : D} {b : Bool} (h : rB x = some b) : dle x (bC b) := by
  unfold rB at h
  split at h
  · cases h; exact .refl _
  · cases h
omit [Tabs] in
theorem rS_le {x : D} {b : ByteArray} (h : rS x = some b) : dle x (sC b) := by
  unfold rS at h
  split at h
  · cases h; exact .refl _
  · cases h
omit [Tabs] in
theorem dle_nil (t : Ev.Ty) : dle (.sc (.slice none 0 0)) (.nl t []) := by
  intro w F v h
  generalize hx : D.sc (.slice none 0 0) = x at h
  cases h with
  | sc v h => cases hx; exact .nl _ _ _ (.nil _ none 0)
  | _ => cases hx
omit [Tabs] in
theorem rL_le {t : Ev.Ty} {x : D} {l : List t.den} (h : rL t x = some l) : dle x (.nl t l) := by
  unfold rL at h
  split at h
  · obtain ⟨e, rfl⟩ := Ev.castL_eq h
    subst e
    exact .refl _
  · cases h
    exact dle_nil t
  · cases h

open Ev in
def rVal : List D → Option Val
  | [a, b, c, d] => (rI .i64 a).bind fun k => (rI .i64 b).bind fun n => (rS c).bind fun s => (rL .val d).bind fun l => some (.mk k n s l)
  | _ => none
omit [Tabs] in
open Ev in
theorem rVal_le {cs : List D} {v : Val} (h : rVal cs = some v) : dsle cs (cVal v) := by
  unfold rVal at h
  split at h
  · simp only [Option.bind_eq_some_iff, Option.some.injEq] at h
    obtain ⟨k, h1, n, h2, s, h3, l, h4, rfl⟩ := h
    exact ⟨rI_le h1, rI_le h2, rS_le h3, rL_le h4, trivial⟩
  · cases h
open Ev in
def rTerm : List D → Option Term
  | [a, b, c, d, e, f, g] => (rI .i64 a).bind fun k => (rVal [b, c, d, e]).bind fun v => (rS f).bind fun s => (rL .term g).bind fun l => some (.mk k v s l)
  | _ => none
omit [Tabs] in
open Ev in
theorem rTerm_le {cs : List D} {v : Term} (h : rTerm cs = some v) : dsle cs (cTerm v) := by
  unfold rTerm at h
  split at h
  · simp only [Option.bind_eq_some_iff, Option.some.injEq] at h
    obtain ⟨k, h1, n, h2, s, h3, l, h4, rfl⟩ := h
    have := rVal_le h2
    exact ⟨rI_le h1, this.1, this.2.1, this.2.2.1, this.2.2.2.1, rS_le h3, rL_le h4, trivial⟩
  · cases h
open Ev in
def rGraph : List D → Option Graph
  | [a, b, c] => (rL .node a).bind fun n => (rL .edg b).bind fun e => (rI .i64 c).bind fun k => some ⟨n, e, k⟩
  | _ => none
omit [Tabs] in
open Ev in
theorem rGraph_le {cs : List D} {v : Graph} (h : rGraph cs = some v) : dsle cs (cGraph v) := by
  unfold rGraph at h
  split at h
  · simp only [Option.bind_eq_some_iff, Option.some.injEq] at h
    obtain ⟨n, h1, e, h2, k, h3, rfl⟩ := h
    exact ⟨rL_le h1, rL_le h2, rI_le h3, trivial⟩
  · cases h
open Ev in
def rQuery : List D → Option Query
  | [a, b, c, d, e] => (rL .dot a).bind fun x1 => (rL .arrow b).bind fun x2 => (rL .term c).bind fun x3 => (rL .item d).bind fun x4 => (rB e).bind fun x5 => some ⟨x1, x2, x3, x4, x5⟩
  | _ => none
omit [Tabs] in
open Ev in
theorem rQuery_le {cs : List D} {v : Query} (h : rQuery cs = some v) : dsle cs (cQuery v) := by
  unfold rQuery at h
  split at h
  · simp only [Option.bind_eq_some_iff, Option.some.injEq] at h
    obtain ⟨x1, h1, x2, h2, x3, h3, x4, h4, x5, h5, rfl⟩ := h
    exact ⟨rL_le h1, rL_le h2, rL_le h3, rL_le h4, rB_le h5, trivial⟩
  · cases h
open Ev in
def rStore : List D → Option Store
  | [a, b, c, d, e, f, g, h] => (rGraph [a, b, c]).bind fun x1 => (rI .i64 d).bind fun x2 => (rS e).bind fun x3 => (rS f).bind fun x4 => (rS g).bind fun x5 => (rL .str h).bind fun x6 => some ⟨x1, x2, ⟨x3, x4⟩, x5, x6⟩
  | _ => none
omit [Tabs] in
open Ev in
theorem rStore_le {cs : List D} {v : Store} (h : rStore cs = some v) : dsle cs (cStore v) := by
  unfold rStore at h
  split at h
  · simp only [Option.bind_eq_some_iff, Option.some.injEq] at h
    obtain ⟨x1, h1, x2, h2, x3, h3, x4, h4, x5, h5, x6, h6, rfl⟩ := h
    have := rGraph_le h1
    exact ⟨this.1, this.2.1, this.2.2.1, rI_le h2, rS_le h3, rS_le h4, rS_le h5, rL_le h6, trivial⟩
  · cases h
open Ev in
def rd0 : (t : Ty) → List D → Option t.den
  | .i64, [x] => rI .i64 x | .u8, [x] => rI .u8 x | .u32, [x] => rI .u32 x | .u64, [x] => rI .u64 x | .i32, [x] => rI .i32 x
  | .bool, [x] => rB x | .str, [x] => rS x
  | .lst t, [x] => rL t x
  | .val, cs => rVal cs
  | .prp, a :: cs => (rS a).bind fun s => (rVal cs).bind fun v => some ⟨s, v⟩
  | .node, [a, b, c] => (rI .i64 a).bind fun i => (rL .str b).bind fun l => (rL .prp c).bind fun p => some ⟨i, l, p⟩
  | .edg, [a, b, c, d, e] => (rI .i64 a).bind fun x1 => (rI .i64 b).bind fun x2 => (rI .i64 c).bind fun x3 => (rS d).bind fun x4 => (rL .prp e).bind fun x5 => some ⟨x1, x2, x3, x4, x5⟩
  | .graph, cs => rGraph cs
  | .opn, [a, b, c, d, e, f, g, h, i, j, k] => (rI .i64 a).bind fun x1 => (rI .i64 b).bind fun x2 => (rI .i64 c).bind fun x3 => (rI .i64 d).bind fun x4 => (rS e).bind fun x5 => (rVal [f, g, h, i]).bind fun x6 => (rL .str j).bind fun x7 => (rL .prp k).bind fun x8 => some ⟨x1, x2, x3, x4, x5, x6, x7, x8⟩
  | .delta, [a, b, c, d, e, f] => (rL .node a).bind fun x1 => (rL .node b).bind fun x2 => (rL .edg c).bind fun x3 => (rL .edg d).bind fun x4 => (rI .i64 e).bind fun x5 => (rI .i64 f).bind fun x6 => some ⟨x1, x2, x3, x4, x5, x6⟩
  | .term, cs => rTerm cs
  | .dot, [a, b] => (rS a).bind fun x1 => (rS b).bind fun x2 => some ⟨x1, x2⟩
  | .arrow, [a, b, c, d] => (rS a).bind fun x1 => (rS b).bind fun x2 => (rB c).bind fun x3 => (rB d).bind fun x4 => some ⟨x1, x2, x3, x4⟩
  | .item, a :: b :: cs => (rS a).bind fun x1 => (rS b).bind fun x2 => (rTerm cs).bind fun x3 => some ⟨x1, x2, x3⟩
  | .query, cs => rQuery cs
  | .cnt, [a, b] => (rL .val a).bind fun x1 => (rI .i64 b).bind fun x2 => some ⟨x1, x2⟩
  | .hold, [a, b, c, d, e, f] => (rQuery [a, b, c, d, e]).bind fun x1 => (rL (.lst .i64) f).bind fun x2 => some ⟨x1, x2⟩
  | .plan, [a, b, c1, c2, c3, c4, c5, c6, c7, d] => (rI .i64 a).bind fun x1 => (rI .i64 b).bind fun x2 => (rTerm [c1, c2, c3, c4, c5, c6, c7]).bind fun x3 => (rL .plan d).bind fun x4 => some (.mk x1 x2 x3 x4)
  | .entry, [a, b, c, d, e, f, g] => (rS a).bind fun x1 => (rS b).bind fun x2 => (rVal [c, d, e, f]).bind fun x3 => (rL .i64 g).bind fun x4 => some ⟨x1, x2, x3, x4⟩
  | .disk, [a, b] => (rS a).bind fun x1 => (rS b).bind fun x2 => some ⟨x1, x2⟩
  | .store, cs => rStore cs
  | .guest, [a, b, c, d] => (rI .i64 a).bind fun x1 => (rL (.lst .cnt) b).bind fun x2 => (rB c).bind fun x3 => (rI .i64 d).bind fun x4 => some ⟨x1, x2, x3, x4⟩
  | .desk, [a, b, c, d, e, f, g, h, i, j] => (rStore [a, b, c, d, e, f, g, h]).bind fun x1 => (rL .hold i).bind fun x2 => (rL .guest j).bind fun x3 => some ⟨x1, x2, x3⟩
  | .answer, [a, b, c, d, e] => (rI .i64 a).bind fun x1 => (rI .i64 b).bind fun x2 => (rL .i64 c).bind fun x3 => (rL .cnt d).bind fun x4 => (rB e).bind fun x5 => some ⟨x1, x2, x3, x4, x5⟩
  | .grant, [a, b] => (rS a).bind fun x1 => (rL .str b).bind fun x2 => some ⟨x1, x2⟩
  | .request, [a, b, c, d] => (rI .i64 a).bind fun x1 => (rL .opn b).bind fun x2 => (rS c).bind fun x3 => (rI .i64 d).bind fun x4 => some ⟨x1, x2, x3, x4⟩
  | .pair, [a, b] => (rI .i64 a).bind fun x1 => (rI .i64 b).bind fun x2 => some ⟨x1, x2⟩
  | .map k v, [x] => rM k v x
  | .envr, [a, b, c, d] => (rGraph [a, b, c]).bind fun x1 => (rM .str .i64 d).bind fun x2 => some ⟨x1, x2⟩
  | _, _ => none
omit [Tabs] in
theorem rd0_le {t : Ev.Ty} {cs : List D} {x : t.den} (h : rd0 t cs = some x) : dsle cs (cells0 t x) := by
  unfold rd0 at h
  split at h
  all_goals first
    | exact ⟨rI_le h, trivial⟩
    | exact ⟨rB_le h, trivial⟩
    | exact ⟨rS_le h, trivial⟩
    | exact ⟨rL_le h, trivial⟩
    | exact ⟨rM_le h, trivial⟩
    | exact rVal_le h
    | exact rGraph_le h
    | exact rTerm_le h
    | exact rQuery_le h
    | exact rStore_le h
    | cases h
    | skip
  all_goals simp only [Option.bind_eq_some_iff, Option.some.injEq] at h
  · obtain ⟨s, h1, v, h2, rfl⟩ := h; exact ⟨rS_le h1, rVal_le h2⟩
  · obtain ⟨s, h1, v, h2, q, h3, rfl⟩ := h; exact ⟨rI_le h1, rL_le h2, rL_le h3, trivial⟩
  · obtain ⟨s, h1, v, h2, q, h3, x4, h4, x5, h5, rfl⟩ := h; exact ⟨rI_le h1, rI_le h2, rI_le h3, rS_le h4, rL_le h5, trivial⟩
  · obtain ⟨s, h1, v, h2, q, h3, x4, h4, x5, h5, x6, h6, x7, h7, x8, h8, rfl⟩ := h
    have := rVal_le h6
    exact ⟨rI_le h1, rI_le h2, rI_le h3, rI_le h4, rS_le h5, this.1, this.2.1, this.2.2.1, this.2.2.2.1, rL_le h7, rL_le h8, trivial⟩
  · obtain ⟨s, h1, v, h2, q, h3, x4, h4, x5, h5, x6, h6, rfl⟩ := h; exact ⟨rL_le h1, rL_le h2, rL_le h3, rL_le h4, rI_le h5, rI_le h6, trivial⟩
  · obtain ⟨s, h1, v, h2, rfl⟩ := h; exact ⟨rS_le h1, rS_le h2, trivial⟩
  · obtain ⟨s, h1, v, h2, q, h3, x4, h4, rfl⟩ := h; exact ⟨rS_le h1, rS_le h2, rB_le h3, rB_le h4, trivial⟩
  · obtain ⟨s, h1, v, h2, q, h3, rfl⟩ := h; exact ⟨rS_le h1, rS_le h2, rTerm_le h3⟩
  · obtain ⟨s, h1, v, h2, rfl⟩ := h; exact ⟨rL_le h1, rI_le h2, trivial⟩
  · obtain ⟨s, h1, v, h2, rfl⟩ := h
    have := rQuery_le h1
    exact ⟨this.1, this.2.1, this.2.2.1, this.2.2.2.1, this.2.2.2.2.1, rL_le h2, trivial⟩
  · obtain ⟨s, h1, v, h2, q, h3, x4, h4, rfl⟩ := h
    have := rTerm_le h3
    exact ⟨rI_le h1, rI_le h2, this.1, this.2.1, this.2.2.1, this.2.2.2.1, this.2.2.2.2.1, this.2.2.2.2.2.1, this.2.2.2.2.2.2.1, rL_le h4, trivial⟩
  · obtain ⟨s, h1, v, h2, q, h3, x4, h4, rfl⟩ := h
    have := rVal_le h3
    exact ⟨rS_le h1, rS_le h2, this.1, this.2.1, this.2.2.1, this.2.2.2.1, rL_le h4, trivial⟩
  · obtain ⟨s, h1, v, h2, rfl⟩ := h; exact ⟨rS_le h1, rS_le h2, trivial⟩
  · obtain ⟨s, h1, v, h2, q, h3, x4, h4, rfl⟩ := h; exact ⟨rI_le h1, rL_le h2, rB_le h3, rI_le h4, trivial⟩
  · obtain ⟨s, h1, v, h2, q, h3, rfl⟩ := h
    have := rStore_le h1
    exact ⟨this.1, this.2.1, this.2.2.1, this.2.2.2.1, this.2.2.2.2.1, this.2.2.2.2.2.1, this.2.2.2.2.2.2.1, this.2.2.2.2.2.2.2.1, rL_le h2, rL_le h3, trivial⟩
  · obtain ⟨s, h1, v, h2, q, h3, x4, h4, x5, h5, rfl⟩ := h; exact ⟨rI_le h1, rI_le h2, rL_le h3, rL_le h4, rB_le h5, trivial⟩
  · obtain ⟨s, h1, v, h2, rfl⟩ := h; exact ⟨rS_le h1, rL_le h2, trivial⟩
  · obtain ⟨s, h1, v, h2, q, h3, x4, h4, rfl⟩ := h; exact ⟨rI_le h1, rL_le h2, rS_le h3, rI_le h4, trivial⟩
  · obtain ⟨s, h1, v, h2, rfl⟩ := h; exact ⟨rI_le h1, rI_le h2, trivial⟩
  · obtain ⟨s, h1, v, h2, rfl⟩ := h
    have := rGraph_le h1
    exact ⟨this.1, this.2.1, this.2.2.1, rM_le h2, trivial⟩

omit [Tabs] in
theorem dle_rp {cs ds : List D} (h : dsle cs ds) : dle (.rp cs) (.rp ds) := by
  intro w F v hv
  generalize hx : D.rp cs = x at hv
  cases hv with
  | rp cs' b off c hF hc hr =>
    cases hx
    exact .rp _ b off c (fun h2 => hF fun e => h2 (List.eq_nil_of_length_eq_zero (by rw [← h.length, e]; rfl))) (fun i hi => hc i (by rw [h.length]; exact hi)) fun i hi => h.get i (by rw [h.length]; exact hi) hi _ _ _ (hr i (by rw [h.length]; exact hi))
  | _ => cases hx
def rdP (t : Ev.Ty) : List D → Option t.den
  | [.rp cs] => rd0 t cs
  | _ => none
def rd2 (t : Ev.Ty) (cs : List D) : Option (t.den × t.den) := (rd0 t (cs.take t.sz0)).bind fun x => (rd0 t (cs.drop t.sz0)).bind fun y => some (x, y)
open Ev in
def rd : (t : Ty) → List D → Option t.den
  | .ptr t => rdP t
  | .two t => rd2 t
  | t => rd0 t
omit [Tabs] in
theorem rd_eq {t : Ev.Ty} (h : ∀ u, t ≠ .ptr u) (h2 : ∀ u, t ≠ .two u) : rd t = rd0 t := by cases t <;> first | rfl | exact absurd rfl (h _) | exact absurd rfl (h2 _)
omit [Tabs] in
theorem cells_eq {t : Ev.Ty} (h : ∀ u, t ≠ .ptr u) (h2 : ∀ u, t ≠ .two u) : cells t = cells0 t := by cases t <;> first | rfl | exact absurd rfl (h _) | exact absurd rfl (h2 _)
omit [Tabs] in
theorem rd_le {t : Ev.Ty} {cs : List D} {x : t.den} (h : rd t cs = some x) : dsle cs (cells t x) := by
  by_cases hp : ∃ u, t = .ptr u
  · obtain ⟨u, rfl⟩ := hp
    have h' : rdP u cs = some x := h
    unfold rdP at h'
    split at h'
    · exact ⟨dle_rp (rd0_le h'), trivial⟩
    · cases h'
  · by_cases h2 : ∃ u, t = .two u
    · obtain ⟨u, rfl⟩ := h2
      have h' : rd2 u cs = some x := h
      unfold rd2 at h'
      simp only [Option.bind_eq_some_iff, Option.some.injEq] at h'
      obtain ⟨a, h3, b, h4, rfl⟩ := h'
      show dsle cs (cells0 u a ++ cells0 u b)
      rw [← List.take_append_drop u.sz0 cs]
      exact (rd0_le h3).append (rd0_le h4)
    · rw [rd_eq (fun u e => hp ⟨u, e⟩) (fun u e => h2 ⟨u, e⟩)] at h
      rw [cells_eq (fun u e => hp ⟨u, e⟩) (fun u e => h2 ⟨u, e⟩)]
      exact rd0_le h

def rds (t : Ev.Ty) : Nat → List D → Option (List t.den)
  | 0, [] => some []
  | n + 1, cs => (rd t (cs.take t.sz)).bind fun x => (rds t n (cs.drop t.sz)).bind fun r => some (x :: r)
  | _, _ => none
omit [Tabs] in
theorem rds_le {t : Ev.Ty} : ∀ {n : Nat} {cs : List D} {xs : List t.den}, rds t n cs = some xs → xs.length = n ∧ dsle cs (flat t xs)
  | 0, [], xs, h => by cases h; exact ⟨rfl, trivial⟩
  | 0, _ :: _, xs, h => by cases h
  | n + 1, cs, xs, h => by
    simp only [rds, Option.bind_eq_some_iff, Option.some.injEq] at h
    obtain ⟨x, h1, r, h2, rfl⟩ := h
    obtain ⟨i1, i2⟩ := rds_le h2
    refine ⟨by simp [i1], ?_⟩
    rw [← List.take_append_drop t.sz cs]
    simp only [flat, List.flatMap_cons]
    exact (rd_le h1).append i2
end Esp

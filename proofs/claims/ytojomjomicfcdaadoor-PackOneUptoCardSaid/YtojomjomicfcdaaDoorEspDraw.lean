/- ESP, part 9: a region that draws its order: one run in the text's order serves for all. -/
import Derived.Test.YtojomjomicfcdaaDoorEspCall
import Derived.Orders
namespace Esp
open Go
set_option linter.unusedSimpArgs false
set_option linter.unusedVariables false
variable [Tabs]

/-! ## states as functions -/
structure FSt where
  fr : Nat → AV
  ob : Nat → AObj
def ASt.fn (s : ASt) : FSt := ⟨lkF s.fr, lkO s.ob⟩

def Eff.appF : Eff → FSt → FSt
  | .put d x, f => ⟨fun i => if i = d then x else (f.fr i).dropW d, f.ob⟩
  | .new k o d x, f => ⟨fun i => if i = d then x else ((f.fr i).kill k).dropW d, fun j => if j = k then o else (f.ob j).kill k⟩
  | .upd k o, f => ⟨f.fr, fun j => if j = k then o else f.ob j⟩
  | .upp k o d x, f => ⟨fun i => if i = d then x else (f.fr i).dropW d, fun j => if j = k then o else f.ob j⟩

omit [Tabs] in
theorem put_fn (st : ASt) (d : Tmp) (x : AV) : (st.put (some d) x).fn = ⟨fun i => if i = d then x else (lkF st.fr i).dropW d, lkO st.ob⟩ := by
  simp only [ASt.fn, ASt.put, FSt.mk.injEq, and_true]
  funext i
  by_cases h : i = d
  · subst h; rw [lkF_set_same, if_pos rfl]
  · rw [lkF_set_other _ _ _ _ h, if_neg h]

omit [Tabs] in
theorem app_fn (e : Eff) (st : ASt) : (e.app st).fn = e.appF st.fn := by
  cases e with
  | put d x => exact put_fn st d x
  | new k o d x =>
    simp only [Eff.app]
    rw [put_fn]
    simp only [Eff.appF, ASt.fn, FSt.mk.injEq]
    refine ⟨?_, ?_⟩
    · funext i
      simp only [ASt.newOb, ASt.killF, lkF_map (AV.kill k) (AV.kill_junk k)]
    · funext j
      by_cases h : j = k
      · subst h; simp only [ASt.newOb, lkO_set_same, if_pos]
      · simp only [ASt.newOb, ASt.killO, lkO_set_other _ _ _ _ h, lkO_map (AObj.kill k) rfl, if_neg h]
  | upd k o =>
    simp only [Eff.app, Eff.appF, ASt.fn, FSt.mk.injEq, true_and]
    funext j
    by_cases h : j = k
    · subst h; rw [lkO_set_same, if_pos rfl]
    · rw [lkO_set_other _ _ _ _ h, if_neg h]
  | upp k o d x =>
    simp only [Eff.app]
    rw [put_fn]
    simp only [Eff.appF, ASt.fn, FSt.mk.injEq, true_and]
    funext j
    by_cases h : j = k
    · subst h; rw [lkO_set_same, if_pos rfl]
    · rw [lkO_set_other _ _ _ _ h, if_neg h]

omit [Tabs] in
theorem upp_appF (k : Nat) (o : AObj) (d : Tmp) (x : AV) (f : FSt) : (Eff.upp k o d x).appF f = (Eff.put d x).appF ((Eff.upd k o).appF f) := rfl

omit [Tabs] in
theorem app_fr (e : Eff) (st : ASt) (i : Nat) : lkF (e.app st).fr i = (e.appF st.fn).fr i := congrFun (congrArg FSt.fr (app_fn e st)) i
omit [Tabs] in
theorem app_ob (e : Eff) (st : ASt) (i : Nat) : lkO (e.app st).ob i = (e.appF st.fn).ob i := congrFun (congrArg FSt.ob (app_fn e st)) i

theorem Rel.congr {N : Nat} {F : Nat → Prop} {ρ : Env} {s s' : ASt} {a : Act} {w : World} (h : Rel N F ρ s a w) (e : s.fn = s'.fn) : Rel N F ρ s' a w := by
  simp only [ASt.fn, FSt.mk.injEq] at e
  exact ⟨h.rw, fun i => e.1 ▸ h.fr i, fun k => e.2 ▸ h.ob k, h.sz, h.df⟩

/-! ## striking by predicates -/
mutual
def AC.refsP (p : Nat → Bool) : AC → Bool
  | .d _ => false
  | .own j => p j
  | .ptr j _ => p j
  | .elt j _ _ _ => p j
  | .osl j _ _ _ => p j
  | .pn j => p j
  | .ifo _ j => p j
  | .mpr j => p j
  | .fn _ fs cs => AC.refsPL p fs || AC.refsPL p cs
  | .junk => false
def AC.refsPL (p : Nat → Bool) : List AC → Bool
  | [] => false
  | c :: r => AC.refsP p c || AC.refsPL p r
end
def AC.killP (p : Nat → Bool) (c : AC) : AC := bif c.refsP p then .junk else c
mutual
def AV.killP (p : Nat → Bool) : AV → AV
  | .cell c => .cell (c.killP p)
  | .agg cs => .agg (cs.map (AC.killP p))
  | .aggD cs => .aggD cs
  | .tup vs => .tup (AV.killPL p vs)
  | .whn g w x => .whn g w (AV.killP p x)
  | .junk => .junk
def AV.killPL (p : Nat → Bool) : List AV → List AV
  | [] => []
  | v :: r => AV.killP p v :: AV.killPL p r
end
def AObj.killP (p : Nat → Bool) : AObj → AObj
  | .box cs ty => .box (cs.map (AC.killP p)) ty
  | o => o
mutual
def AV.usesP (q : Nat → Bool) : AV → Bool
  | .whn h _ x => q h || AV.usesP q x
  | .tup vs => AV.usesPL q vs
  | _ => false
def AV.usesPL (q : Nat → Bool) : List AV → Bool
  | [] => false
  | v :: r => AV.usesP q v || AV.usesPL q r
end
def AV.dropP (q : Nat → Bool) (v : AV) : AV := bif v.usesP q then .junk else v

omit [Tabs] in
mutual
theorem AC.refsP_or (p q : Nat → Bool) : ∀ c : AC, c.refsP (fun j => p j || q j) = (c.refsP p || c.refsP q)
  | .d _ => rfl
  | .own j => rfl
  | .ptr j _ => rfl
  | .elt j _ _ _ => rfl
  | .osl j _ _ _ => rfl
  | .pn j => rfl
  | .ifo _ j => rfl
  | .mpr j => rfl
  | .fn _ fs cs => by
    simp only [AC.refsP, AC.refsPL_or p q fs, AC.refsPL_or p q cs]
    cases AC.refsPL p fs <;> cases AC.refsPL p cs <;> cases AC.refsPL q fs <;> cases AC.refsPL q cs <;> rfl
  | .junk => rfl
theorem AC.refsPL_or (p q : Nat → Bool) : ∀ c : List AC, AC.refsPL (fun j => p j || q j) c = (AC.refsPL p c || AC.refsPL q c)
  | [] => rfl
  | c :: r => by
    simp only [AC.refsPL, AC.refsP_or p q c, AC.refsPL_or p q r]
    cases AC.refsP p c <;> cases AC.refsP q c <;> cases AC.refsPL p r <;> cases AC.refsPL q r <;> rfl
end
omit [Tabs] in
mutual
theorem AC.refs_eq (k : Nat) : ∀ c : AC, c.refs k = c.refsP (fun j => Nat.beq j k)
  | .d _ => rfl
  | .own j => rfl
  | .ptr j _ => rfl
  | .elt j _ _ _ => rfl
  | .osl j _ _ _ => rfl
  | .pn j => rfl
  | .ifo _ j => rfl
  | .mpr j => rfl
  | .fn _ fs cs => by simp only [AC.refs, AC.refsP, AC.refsL_eq k fs, AC.refsL_eq k cs]
  | .junk => rfl
theorem AC.refsL_eq (k : Nat) : ∀ c : List AC, AC.refsL k c = AC.refsPL (fun j => Nat.beq j k) c
  | [] => rfl
  | c :: r => by simp only [AC.refsL, AC.refsPL, AC.refs_eq k c, AC.refsL_eq k r]
end
omit [Tabs] in
theorem AC.killP_killP (p q : Nat → Bool) (c : AC) : (c.killP q).killP p = c.killP (fun j => p j || q j) := by
  unfold AC.killP
  rw [AC.refsP_or]
  cases h1 : c.refsP q with
  | true => simp [AC.refsP]
  | false => simp
omit [Tabs] in
theorem AC.kill_eq (k : Nat) (c : AC) : c.kill k = c.killP (fun j => Nat.beq j k) := by unfold AC.kill AC.killP; rw [AC.refs_eq]
omit [Tabs] in
theorem AV.killPL_map (p : Nat → Bool) (l : List AV) : AV.killPL p l = l.map (AV.killP p) := by
  induction l with
  | nil => rfl
  | cons v r ih => simp [AV.killPL, ih]
omit [Tabs] in
mutual
theorem AV.kill_eq (k : Nat) : ∀ v : AV, v.kill k = v.killP (fun j => Nat.beq j k)
  | .cell c => by simp only [AV.kill, AV.killP, AC.kill_eq]
  | .agg cs => by
    simp only [AV.kill, AV.killP]
    congr 1
    exact List.map_congr_left fun c _ => AC.kill_eq k c
  | .aggD cs => rfl
  | .tup vs => by simp only [AV.kill, AV.killP, AV.killL_eq' k vs]
  | .whn g w x => by simp only [AV.kill, AV.killP, AV.kill_eq k x]
  | .junk => rfl
theorem AV.killL_eq' (k : Nat) : ∀ v : List AV, AV.killL k v = AV.killPL (fun j => Nat.beq j k) v
  | [] => rfl
  | v :: r => by simp only [AV.killL, AV.killPL, AV.kill_eq k v, AV.killL_eq' k r]
end
omit [Tabs] in
theorem AObj.kill_eq (k : Nat) (o : AObj) : o.kill k = o.killP (fun j => Nat.beq j k) := by
  cases o with
  | box cs =>
    simp only [AObj.kill, AObj.killP]
    congr 1
    exact List.map_congr_left fun c _ => AC.kill_eq k c
  | _ => rfl
omit [Tabs] in
mutual
theorem AV.killP_killP (p q : Nat → Bool) : ∀ v : AV, (v.killP q).killP p = v.killP (fun j => p j || q j)
  | .cell c => by simp only [AV.killP, AC.killP_killP]
  | .agg cs => by
    simp only [AV.killP, List.map_map]
    congr 1
    exact List.map_congr_left fun c _ => AC.killP_killP p q c
  | .aggD cs => rfl
  | .tup vs => by simp only [AV.killP, AV.killPL_killPL p q vs]
  | .whn g w x => by simp only [AV.killP, AV.killP_killP p q x]
  | .junk => rfl
theorem AV.killPL_killPL (p q : Nat → Bool) : ∀ v : List AV, AV.killPL p (AV.killPL q v) = AV.killPL (fun j => p j || q j) v
  | [] => rfl
  | v :: r => by simp only [AV.killPL, AV.killP_killP p q v, AV.killPL_killPL p q r]
end
omit [Tabs] in
theorem AObj.killP_killP (p q : Nat → Bool) (o : AObj) : (o.killP q).killP p = o.killP (fun j => p j || q j) := by
  cases o with
  | box cs =>
    simp only [AObj.killP, List.map_map]
    congr 1
    exact List.map_congr_left fun c _ => AC.killP_killP p q c
  | _ => rfl
omit [Tabs] in
mutual
theorem AV.usesP_killP (p q : Nat → Bool) : ∀ v : AV, (v.killP p).usesP q = v.usesP q
  | .cell c => rfl
  | .agg cs => rfl
  | .aggD cs => rfl
  | .tup vs => by simp only [AV.killP, AV.usesP, AV.usesPL_killPL p q vs]
  | .whn g w x => by simp only [AV.killP, AV.usesP, AV.usesP_killP p q x]
  | .junk => rfl
theorem AV.usesPL_killPL (p q : Nat → Bool) : ∀ v : List AV, AV.usesPL q (AV.killPL p v) = AV.usesPL q v
  | [] => rfl
  | v :: r => by simp only [AV.killPL, AV.usesPL, AV.usesP_killP p q v, AV.usesPL_killPL p q r]
theorem AV.usesP_or (p q : Nat → Bool) : ∀ v : AV, v.usesP (fun j => p j || q j) = (v.usesP p || v.usesP q)
  | .cell c => rfl
  | .agg cs => rfl
  | .aggD cs => rfl
  | .tup vs => by simp only [AV.usesP, AV.usesPL_or p q vs]
  | .whn g w x => by
    simp only [AV.usesP, AV.usesP_or p q x]
    cases p g <;> cases q g <;> cases x.usesP p <;> cases x.usesP q <;> rfl
  | .junk => rfl
theorem AV.usesPL_or (p q : Nat → Bool) : ∀ v : List AV, AV.usesPL (fun j => p j || q j) v = (AV.usesPL p v || AV.usesPL q v)
  | [] => rfl
  | v :: r => by
    simp only [AV.usesPL, AV.usesP_or p q v, AV.usesPL_or p q r]
    cases AV.usesP p v <;> cases AV.usesP q v <;> cases AV.usesPL p r <;> cases AV.usesPL q r <;> rfl
theorem AV.uses_eq (d : Nat) : ∀ v : AV, v.uses d = v.usesP (fun j => Nat.beq j d)
  | .cell c => rfl
  | .agg cs => rfl
  | .aggD cs => rfl
  | .tup vs => by simp only [AV.uses, AV.usesP, AV.usesL_eq d vs]
  | .whn g w x => by simp only [AV.uses, AV.usesP, AV.uses_eq d x]
  | .junk => rfl
theorem AV.usesL_eq (d : Nat) : ∀ v : List AV, AV.usesL d v = AV.usesPL (fun j => Nat.beq j d) v
  | [] => rfl
  | v :: r => by simp only [AV.usesL, AV.usesPL, AV.uses_eq d v, AV.usesL_eq d r]
end
omit [Tabs] in
theorem AV.dropW_eq (d : Nat) (v : AV) : v.dropW d = v.dropP (fun j => Nat.beq j d) := by unfold AV.dropW AV.dropP; rw [AV.uses_eq]
omit [Tabs] in
theorem AV.dropP_dropP (p q : Nat → Bool) (v : AV) : (v.dropP q).dropP p = v.dropP (fun j => p j || q j) := by
  unfold AV.dropP
  rw [AV.usesP_or]
  cases h1 : v.usesP q with
  | true => simp [AV.usesP]
  | false => simp
omit [Tabs] in
theorem AV.killP_dropP (p q : Nat → Bool) (v : AV) : (v.dropP q).killP p = (v.killP p).dropP q := by
  unfold AV.dropP
  rw [AV.usesP_killP]
  cases v.usesP q with
  | true => rfl
  | false => rfl

omit [Tabs] in
theorem or_comm_fun (p q : Nat → Bool) : (fun j => p j || q j) = fun j => q j || p j := by funext j; exact Bool.or_comm _ _
omit [Tabs] in
theorem or_absorb (p : Nat → Bool) (k : Nat) (h : p k = true) : (fun j => p j || Nat.beq j k) = p := by
  funext j
  cases hb : Nat.beq j k with
  | false => simp
  | true => rw [Nat.eq_of_beq_eq_true hb, h]; rfl

/-! ## what an operation may not lean on -/

def FSt.strike (p q dk : Nat → Bool) (f : FSt) : FSt :=
  ⟨fun i => bif q i then .junk else ((f.fr i).killP p).dropP q, fun j => bif dk j then .gone else (f.ob j).killP p⟩

def Eff.inside (p q dk : Nat → Bool) (e : Eff) : Bool :=
  match e with
  | .put d _ => q d
  | .new k _ d _ => q d && p k && dk k
  | .upd k _ => dk k
  | .upp k _ d _ => q d && dk k

omit [Tabs] in
theorem strike_inside0 {p q dk : Nat → Bool} {e : Eff} (hu : ∀ k o d x, e ≠ .upp k o d x) (h : e.inside p q dk = true) (f : FSt) : (e.appF f).strike p q dk = f.strike p q dk := by
  cases e with
  | upp k o d x => exact absurd rfl (hu k o d x)
  | put d x =>
    simp only [Eff.inside] at h
    simp only [FSt.strike, Eff.appF, FSt.mk.injEq, and_true]
    funext i
    cases hq : q i with
    | true => rfl
    | false =>
      simp only [cond_false]
      have hne : i ≠ d := fun e => by rw [e, h] at hq; cases hq
      rw [if_neg hne, AV.dropW_eq, AV.killP_dropP, AV.dropP_dropP, or_absorb q d h]
  | new k o d x =>
    simp only [Eff.inside, Bool.and_eq_true] at h
    obtain ⟨⟨h1, h2⟩, h3⟩ := h
    simp only [FSt.strike, Eff.appF, FSt.mk.injEq]
    refine ⟨?_, ?_⟩
    · funext i
      cases hq : q i with
      | true => rfl
      | false =>
        simp only [cond_false]
        have hne : i ≠ d := fun e => by rw [e, h1] at hq; cases hq
        rw [if_neg hne, AV.dropW_eq, AV.killP_dropP, AV.dropP_dropP, or_absorb q d h1, AV.kill_eq, AV.killP_killP, or_absorb p k h2]
    · funext j
      cases hd : dk j with
      | true => rfl
      | false =>
        simp only [cond_false]
        have hne : j ≠ k := fun e => by rw [e, h3] at hd; cases hd
        rw [if_neg hne, AObj.kill_eq, AObj.killP_killP, or_absorb p k h2]
  | upd k o =>
    simp only [Eff.inside] at h
    simp only [FSt.strike, Eff.appF, FSt.mk.injEq, true_and]
    funext j
    cases hd : dk j with
    | true => rfl
    | false =>
      simp only [cond_false]
      have hne : j ≠ k := fun e => by rw [e, h] at hd; cases hd
      rw [if_neg hne]

omit [Tabs] in
theorem strike_inside {p q dk : Nat → Bool} {e : Eff} (h : e.inside p q dk = true) (f : FSt) : (e.appF f).strike p q dk = f.strike p q dk := by
  cases e with
  | upp k o d x =>
    simp only [Eff.inside, Bool.and_eq_true] at h
    rw [upp_appF, strike_inside0 (e := .put d x) (fun _ _ _ _ e => by cases e) h.1, strike_inside0 (e := .upd k o) (fun _ _ _ _ e => by cases e) h.2]
  | put d x => exact strike_inside0 (fun _ _ _ _ e => by cases e) h f
  | new k o d x => exact strike_inside0 (fun _ _ _ _ e => by cases e) h f
  | upd k o => exact strike_inside0 (fun _ _ _ _ e => by cases e) h f

omit [Tabs] in
theorem strike_congr0 {p q dk : Nat → Bool} (e : Eff) (hu : ∀ k o d x, e ≠ .upp k o d x) {f f' : FSt} (h : f.strike p q dk = f'.strike p q dk) : (e.appF f).strike p q dk = (e.appF f').strike p q dk := by
  simp only [FSt.strike, FSt.mk.injEq] at h
  obtain ⟨h1, h2⟩ := h
  have g1 := fun i => congrFun h1 i
  have g2 := fun j => congrFun h2 j
  have sw : ∀ (v : AV) (d : Nat), (((v.dropW d).killP p).dropP q) = ((v.killP p).dropP q).dropW d := by
    intro v d
    rw [AV.dropW_eq, AV.killP_dropP, AV.dropP_dropP, AV.dropW_eq, AV.dropP_dropP, or_comm_fun]
  have sk : ∀ (v : AV) (k : Nat), (((v.kill k).killP p).dropP q) = ((v.killP p).dropP q).kill k := by
    intro v k
    rw [AV.kill_eq, AV.killP_killP, AV.kill_eq, AV.killP_dropP, AV.killP_killP, or_comm_fun]
  have so : ∀ (o : AObj) (k : Nat), ((o.kill k).killP p) = (o.killP p).kill k := by
    intro o k
    rw [AObj.kill_eq, AObj.killP_killP, AObj.kill_eq, AObj.killP_killP, or_comm_fun]
  cases e with
  | upp k o d x => exact absurd rfl (hu k o d x)
  | put d x =>
    simp only [FSt.strike, Eff.appF, FSt.mk.injEq]
    refine ⟨?_, h2⟩
    funext i
    cases hq : q i with
    | true => rfl
    | false =>
      simp only [cond_false]
      by_cases hi : i = d
      · rw [if_pos hi, if_pos hi]
      · have := g1 i
        rw [hq, cond_false, cond_false] at this
        rw [if_neg hi, if_neg hi, sw, sw, this]
  | new k o d x =>
    simp only [FSt.strike, Eff.appF, FSt.mk.injEq]
    refine ⟨?_, ?_⟩
    · funext i
      cases hq : q i with
      | true => rfl
      | false =>
        simp only [cond_false]
        by_cases hi : i = d
        · rw [if_pos hi, if_pos hi]
        · have := g1 i
          rw [hq, cond_false, cond_false] at this
          rw [if_neg hi, if_neg hi, sw, sw, sk, sk, this]
    · funext j
      cases hd : dk j with
      | true => rfl
      | false =>
        simp only [cond_false]
        by_cases hj : j = k
        · rw [if_pos hj, if_pos hj]
        · have := g2 j
          rw [hd, cond_false, cond_false] at this
          rw [if_neg hj, if_neg hj, so, so, this]
  | upd k o =>
    simp only [FSt.strike, Eff.appF, FSt.mk.injEq]
    refine ⟨h1, ?_⟩
    funext j
    cases hd : dk j with
    | true => rfl
    | false =>
      simp only [cond_false]
      by_cases hj : j = k
      · rw [if_pos hj, if_pos hj]
      · have := g2 j
        rw [hd, cond_false, cond_false] at this
        rw [if_neg hj, if_neg hj, this]

omit [Tabs] in
theorem strike_congr {p q dk : Nat → Bool} (e : Eff) {f f' : FSt} (h : f.strike p q dk = f'.strike p q dk) : (e.appF f).strike p q dk = (e.appF f').strike p q dk := by
  cases e with
  | upp k o d x => exact strike_congr0 (.put d x) (fun _ _ _ _ e => by cases e) (strike_congr0 (.upd k o) (fun _ _ _ _ e => by cases e) h)
  | put d x => exact strike_congr0 _ (fun _ _ _ _ e => by cases e) h
  | new k o d x => exact strike_congr0 _ (fun _ _ _ _ e => by cases e) h
  | upd k o => exact strike_congr0 _ (fun _ _ _ _ e => by cases e) h

def ASt.weak (p q : Nat → Bool) (dk : List Nat) (f : Nat → AObj) (s : ASt) : ASt :=
  { fr := s.fr.map fun z => (z.1, bif q z.1 then .junk else (z.2.killP p).dropP q),
    ob := (dk.map fun k => (k, f k)) ++ s.ob.map fun z => (z.1, z.2.killP p) }

omit [Tabs] in
theorem lkF_mapI (g : Nat → AV → AV) (hg : ∀ i, g i .junk = .junk) : ∀ (fr : List (Nat × AV)) (i : Nat), lkF (fr.map fun z => (z.1, g z.1 z.2)) i = g i (lkF fr i)
  | [], i => (hg i).symm
  | (j, v) :: r, i => by
    simp only [List.map_cons, lkF]
    cases hb : Nat.beq i j with
    | true => rw [Nat.eq_of_beq_eq_true hb]; rfl
    | false => simpa using lkF_mapI g hg r i

def memB (k : Nat) : List Nat → Bool
  | [] => false
  | j :: r => Nat.beq k j || memB k r

omit [Tabs] in
theorem lkO_weak (f : Nat → AObj) (r : List (Nat × AObj)) : ∀ (dk : List Nat) (k : Nat), lkO ((dk.map fun k => (k, f k)) ++ r) k = bif memB k dk then f k else lkO r k
  | [], k => rfl
  | j :: dk, k => by
    simp only [List.map_cons, List.cons_append, lkO, memB]
    cases hb : Nat.beq k j with
    | true => rw [Nat.eq_of_beq_eq_true hb]; rfl
    | false => simpa using lkO_weak f r dk k

omit [Tabs] in
theorem weak_fn (p q : Nat → Bool) (dk : List Nat) (f : Nat → AObj) (s : ASt) : (s.weak p q dk f).fn =
    ⟨fun i => bif q i then .junk else ((lkF s.fr i).killP p).dropP q, fun j => bif memB j dk then f j else (lkO s.ob j).killP p⟩ := by
  simp only [ASt.fn, ASt.weak, FSt.mk.injEq]
  refine ⟨?_, ?_⟩
  · funext i
    rw [lkF_mapI (fun i v => bif q i then .junk else (v.killP p).dropP q) (fun i => by cases q i <;> simp [AV.killP, AV.dropP, AV.usesP])]
  · funext j
    rw [lkO_weak, lkO_map (AObj.killP p) rfl]

omit [Tabs] in
theorem RelAC.killP {w : World} {F : Nat → Prop} {ρ : Env} {x : AC} {v : Value} (p : Nat → Bool) (h : RelAC w F ρ x v) : RelAC w F ρ (x.killP p) v := by
  unfold AC.killP
  cases x.refsP p with
  | true => exact .junk v
  | false => exact h
omit [Tabs] in
theorem RelAV.killP {w : World} {F : Nat → Prop} {ρ : Env} {tm : Array Value} {x : AV} {v : Value} (p : Nat → Bool) (h : RelAV w F ρ tm x v) : RelAV w F ρ tm (x.killP p) v := by
  induction h with
  | cell c v h => exact .cell _ v (h.killP p)
  | agg cs arr hz h =>
    simp only [AV.killP]
    exact .agg _ arr (by simpa using hz) fun i hi => by simpa using (h i (by simpa using hi)).killP p
  | aggD cs arr hz h => exact .aggD cs arr hz h
  | tup vs arr hz h ih =>
    simp only [AV.killP, AV.killPL_map]
    exact .tup _ arr (by simpa using hz) fun i hi => by simpa using ih i (by simpa using hi)
  | whn g want x v h h' ih => exact .whn g want _ v ih h'
  | junk v => exact .junk v
omit [Tabs] in
theorem RelAV.dropP {w : World} {F : Nat → Prop} {ρ : Env} {tm : Array Value} {x : AV} {v : Value} (q : Nat → Bool) (h : RelAV w F ρ tm x v) : RelAV w F ρ tm (x.dropP q) v := by
  unfold AV.dropP
  cases x.usesP q with
  | true => exact .junk v
  | false => exact h
omit [Tabs] in
theorem RelOb.killP {w : World} {F : Nat → Prop} {ρ : Env} {k : Nat} {x : AObj} (p : Nat → Bool) (h : RelOb w F ρ k x) : RelOb w F ρ k (x.killP p) := by
  induction h with
  | gone h => exact .gone h
  | na t ee xs h ih => exact .na t ee xs ih
  | any o h ih => exact .any _ ih
  | box cs oty b c t hoty hk hb hs h => exact .box _ _ b c t hoty hk hb (by simpa using hs) fun i hi => by simpa using (h i (by simpa using hi)).killP p
  | arr t ee n cs u xs hk hown hs h => exact .arr t ee n cs u xs hk hown hs h
  | tab b o hk hF hb => exact .tab b o hk hF hb
  | it s pos b hk hb => exact .it s pos b hk hb
  | mp t kt vt l b es c hk hb hs h dn hd => exact .mp t kt vt l b es c hk hb hs h dn hd

section
variable {P : Program} {N : Nat} {ops : Array Oper} {Q : Exit → ASt → Prop} {st st' : ASt} {l : List Nat}

theorem IEff.lift {p q : Nat → Bool} {dk : List Nat} {i : Nat} {e : Eff} {s s0 : ASt} (h : ∀ f, IEff P N ops i (s0.weak p q dk f) e)
    (hs : s.fn.strike p q (memB · dk) = s0.fn.strike p q (memB · dk)) : IEff P N ops i s e := by
  intro F ρ a w hr K R k
  have hwk : Rel N F ρ (s0.weak p q dk (lkO s.ob)) a w := by
    simp only [FSt.strike, ASt.fn, FSt.mk.injEq] at hs
    have hf := weak_fn p q dk (lkO s.ob) s0
    simp only [ASt.fn, FSt.mk.injEq] at hf
    refine ⟨hr.rw, fun i => ?_, fun j => ?_, hr.sz, hr.df⟩
    · have hfi := congrFun hf.1 i
      have e1 := congrFun hs.1 i
      rw [hfi, ← e1]
      cases q i with
      | true => exact .junk _
      | false => exact ((hr.fr i).killP p).dropP q
    · have hfj := congrFun hf.2 j
      have := congrFun hs.2 j
      rw [hfj]
      cases hm : memB j dk with
      | true => exact hr.ob j
      | false =>
        rw [hm, cond_false, cond_false] at this
        rw [cond_false, ← this]
        exact (hr.ob j).killP p
  refine h (lkO s.ob) F ρ a w hwk K R fun v w' F' ρ' hr' hf ht => k v w' F' ρ' ?_ hf ht
  have hF : ∀ b, F b → w'.heap[b]? = w.heap[b]? := fun b hb => hf.keep b (hr.rw.lt b hb) (hr.rw.dis b hb)
  have oth : ∀ j, e.touch ≠ some j → ∀ l b, ρ j = some l → l.blk = some b → w'.heap[b]? = w.heap[b]? := fun j hj l b hl hb =>
    ht.keep b ((hr.ob j).lt hl hb) fun k' l' hk' hl' hb' => hj (by rw [hk', hr.rw.inj _ _ _ _ b hl hl' hb hb'])
  refine ⟨hr'.rw, fun i => ?_, fun j => ?_, hr'.sz, hr'.df⟩
  · have h1 := hr'.fr i
    have h0 := hr.fr i
    cases e with
    | put d x =>
      have hρ : ρ' = ρ := by funext j; exact ht.off j (by simp [Eff.key])
      subst hρ
      rw [app_fr] at h1
      rw [app_fr]
      simp only [Eff.appF, Eff.dst, Act.put] at h1 ⊢
      by_cases hi : i = d
      · rw [if_pos hi] at h1 ⊢
        exact h1
      · rw [if_neg hi, getD_set_other _ _ _ _ _ hi]
        exact (h0.mono hF hf.sub fun _ _ h => h).dropW
    | new kk o d x =>
      rw [app_fr] at h1
      rw [app_fr]
      simp only [Eff.appF, Eff.dst, Act.put] at h1 ⊢
      by_cases hi : i = d
      · rw [if_pos hi] at h1 ⊢
        exact h1
      · rw [if_neg hi, getD_set_other _ _ _ _ _ hi]
        have hoff : offK kk ρ ρ' := fun j hj => ht.off j (by simp only [Eff.key, ne_eq, Option.some.injEq]; exact fun e => hj e.symm)
        exact ((h0.kill hoff).mono hF hf.sub fun _ _ h => h).dropW
    | upd kk o =>
      have hρ : ρ' = ρ := by funext j; exact ht.off j (by simp [Eff.key])
      subst hρ
      rw [app_fr]
      simp only [Eff.appF, Eff.dst, Act.put]
      exact h0.mono hF hf.sub fun _ _ h => h
    | upp kk o d x =>
      have hρ : ρ' = ρ := by funext j; exact ht.off j (by simp [Eff.key])
      subst hρ
      rw [app_fr] at h1
      rw [app_fr]
      simp only [Eff.appF, Eff.dst, Act.put] at h1 ⊢
      by_cases hi : i = d
      · rw [if_pos hi] at h1 ⊢
        exact h1
      · rw [if_neg hi, getD_set_other _ _ _ _ _ hi]
        exact (h0.mono hF hf.sub fun _ _ h => h).dropW
  · have h1 := hr'.ob j
    have h0 := hr.ob j
    rw [app_ob] at h1
    rw [app_ob]
    cases e with
    | put d x =>
      have hρ : ρ' = ρ := by funext j; exact ht.off j (by simp [Eff.key])
      subst hρ
      simp only [Eff.appF]
      exact h0.through hF hf.sub (oth j (by simp [Eff.touch]))
    | new kk o d x =>
      simp only [Eff.appF] at h1 ⊢
      by_cases hj : j = kk
      · rw [if_pos hj] at h1 ⊢
        exact h1
      · rw [if_neg hj]
        have hoff : offK kk ρ ρ' := fun j hj => ht.off j (by simp only [Eff.key, ne_eq, Option.some.injEq]; exact fun e => hj e.symm)
        have h2 := h0.kill hoff hj
        refine h2.through hF hf.sub fun l b hl hb => oth j (by simp only [Eff.touch, ne_eq, Option.some.injEq]; exact fun e => hj e.symm) l b ?_ hb
        rw [← hoff j hj]
        exact hl
    | upd kk o =>
      have hρ : ρ' = ρ := by funext j; exact ht.off j (by simp [Eff.key])
      subst hρ
      simp only [Eff.appF] at h1 ⊢
      by_cases hj : j = kk
      · rw [if_pos hj] at h1 ⊢
        exact h1
      · rw [if_neg hj]
        exact h0.through hF hf.sub (oth j (by simp only [Eff.touch, ne_eq, Option.some.injEq]; exact fun e => hj e.symm))
    | upp kk o d x =>
      have hρ : ρ' = ρ := by funext j; exact ht.off j (by simp [Eff.key])
      subst hρ
      simp only [Eff.appF] at h1 ⊢
      by_cases hj : j = kk
      · rw [if_pos hj] at h1 ⊢
        exact h1
      · rw [if_neg hj]
        exact h0.through hF hf.sub (oth j (by simp only [Eff.touch, ne_eq, Option.some.injEq]; exact fun e => hj e.symm))

end
end Esp

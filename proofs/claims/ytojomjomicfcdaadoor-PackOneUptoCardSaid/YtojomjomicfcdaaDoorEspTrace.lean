/- ESP, part 10: a region that draws its order, the rule. -/
import Derived.Test.YtojomjomicfcdaaDoorEspDraw
namespace Esp
open Go
set_option linter.unusedSimpArgs false
set_option linter.unusedVariables false
variable [Tabs]

/-! ## references -/
mutual
def AV.hasRef (k : Nat) : AV → Bool
  | .cell c => c.refs k
  | .agg cs => cs.any (AC.refs k)
  | .aggD _ => false
  | .tup vs => AV.hasRefL k vs
  | .whn _ _ x => AV.hasRef k x
  | .junk => false
def AV.hasRefL (k : Nat) : List AV → Bool
  | [] => false
  | v :: r => AV.hasRef k v || AV.hasRefL k r
end
def AObj.hasRef (k : Nat) : AObj → Bool
  | .box cs _ => cs.any (AC.refs k)
  | _ => false

omit [Tabs] in
theorem AC.kill_noref {k : Nat} {c : AC} (h : c.refs k = false) : c.kill k = c := by unfold AC.kill; rw [h]; rfl
omit [Tabs] in
theorem kill_list {k : Nat} : ∀ {cs : List AC}, cs.any (AC.refs k) = false → cs.map (AC.kill k) = cs
  | [], _ => rfl
  | c :: r, h => by
    simp only [List.any_cons, Bool.or_eq_false_iff] at h
    rw [List.map_cons, AC.kill_noref h.1, kill_list h.2]
omit [Tabs] in
mutual
theorem AV.kill_noref (k : Nat) : ∀ v : AV, v.hasRef k = false → v.kill k = v
  | .cell c, h => by simp only [AV.kill, AC.kill_noref (show c.refs k = false from h)]
  | .agg cs, h => by simp only [AV.kill, kill_list (show cs.any (AC.refs k) = false from h)]
  | .aggD cs, _ => rfl
  | .tup vs, h => by simp only [AV.kill, AV.killL_noref k vs h]
  | .whn g w x, h => by simp only [AV.kill, AV.kill_noref k x h]
  | .junk, _ => rfl
theorem AV.killL_noref (k : Nat) : ∀ v : List AV, AV.hasRefL k v = false → AV.killL k v = v
  | [], _ => rfl
  | v :: r, h => by
    simp only [AV.hasRefL, Bool.or_eq_false_iff] at h
    simp only [AV.killL, AV.kill_noref k v h.1, AV.killL_noref k r h.2]
end
omit [Tabs] in
theorem AObj.kill_noref {k : Nat} {o : AObj} (h : o.hasRef k = false) : o.kill k = o := by
  cases o with
  | box cs => simp only [AObj.kill, kill_list (show cs.any (AC.refs k) = false from h)]
  | _ => rfl
omit [Tabs] in
theorem AV.dropW_nouse {d : Nat} {v : AV} (h : v.uses d = false) : v.dropW d = v := by unfold AV.dropW; rw [h]; rfl
omit [Tabs] in
theorem AV.dropW_comm (d e : Nat) (v : AV) : (v.dropW d).dropW e = (v.dropW e).dropW d := by
  rw [AV.dropW_eq, AV.dropW_eq, AV.dropW_eq, AV.dropW_eq, AV.dropP_dropP, AV.dropP_dropP, or_comm_fun]
omit [Tabs] in
theorem AV.kill_comm (d e : Nat) (v : AV) : (v.kill d).kill e = (v.kill e).kill d := by
  rw [AV.kill_eq, AV.kill_eq, AV.kill_eq, AV.kill_eq, AV.killP_killP, AV.killP_killP, or_comm_fun]
omit [Tabs] in
theorem AObj.kill_comm (d e : Nat) (v : AObj) : (v.kill d).kill e = (v.kill e).kill d := by
  rw [AObj.kill_eq, AObj.kill_eq, AObj.kill_eq, AObj.kill_eq, AObj.killP_killP, AObj.killP_killP, or_comm_fun]
omit [Tabs] in
theorem AV.kill_dropW (k d : Nat) (v : AV) : (v.dropW d).kill k = (v.kill k).dropW d := by
  rw [AV.kill_eq, AV.dropW_eq, AV.kill_eq, AV.dropW_eq, AV.killP_dropP]

def commB0 : Eff → Eff → Bool
  | .put d x, .put d' x' => !Nat.beq d d' && !x.uses d' && !x'.uses d
  | .put d x, .new k _ d' x' => !Nat.beq d d' && !x.uses d' && !x'.uses d && !x.hasRef k
  | .new k _ d' x', .put d x => !Nat.beq d d' && !x.uses d' && !x'.uses d && !x.hasRef k
  | .new k o d x, .new k' o' d' x' => !Nat.beq d d' && !Nat.beq k k' && !x.uses d' && !x'.uses d && !x.hasRef k' && !x'.hasRef k && !o.hasRef k' && !o'.hasRef k
  | .put _ _, .upd _ _ => true
  | .upd _ _, .put _ _ => true
  | .upd k o, .new k' _ _ _ => !Nat.beq k k' && !o.hasRef k'
  | .new k' _ _ _, .upd k o => !Nat.beq k k' && !o.hasRef k'
  | .upd k _, .upd k' _ => !Nat.beq k k'
  | _, _ => false
def commB : Eff → Eff → Bool
  | .upp k o d x, .upp k' o' d' x' => commB0 (.upd k o) (.upd k' o') && commB0 (.upd k o) (.put d' x') && (commB0 (.put d x) (.upd k' o') && commB0 (.put d x) (.put d' x'))
  | .upp k o d x, e => commB0 (.upd k o) e && commB0 (.put d x) e
  | e, .upp k o d x => commB0 e (.upd k o) && commB0 e (.put d x)
  | e, e' => commB0 e e'

omit [Tabs] in
theorem comm_put_new {d d' k : Nat} {x x' : AV} {o : AObj} (h : (!Nat.beq d d' && !x.uses d' && !x'.uses d && !x.hasRef k) = true) (f : FSt) :
    (Eff.new k o d' x').appF ((Eff.put d x).appF f) = (Eff.put d x).appF ((Eff.new k o d' x').appF f) := by
  simp only [Bool.and_eq_true, Bool.not_eq_true'] at h
  obtain ⟨⟨⟨h1, h2⟩, h3⟩, h4⟩ := h
  have hne := Nat.ne_of_beq_eq_false h1
  simp only [Eff.appF, FSt.mk.injEq, and_true]
  funext i
  by_cases e1 : i = d'
  · subst e1
    rw [if_pos rfl, if_neg (fun e => hne e.symm), if_pos rfl, AV.dropW_nouse h3]
  · rw [if_neg e1]
    by_cases e2 : i = d
    · subst e2
      rw [if_pos rfl, if_pos rfl, AV.kill_noref k x h4, AV.dropW_nouse h2]
    · rw [if_neg e2, if_neg e2, if_neg e1, AV.kill_dropW, AV.dropW_comm]

omit [Tabs] in
theorem comm_upd_new {k k' d' : Nat} {x' : AV} {o o' : AObj} (h : (!Nat.beq k k' && !o.hasRef k') = true) (f : FSt) :
    (Eff.new k' o' d' x').appF ((Eff.upd k o).appF f) = (Eff.upd k o).appF ((Eff.new k' o' d' x').appF f) := by
  simp only [Bool.and_eq_true, Bool.not_eq_true'] at h
  have hne := Nat.ne_of_beq_eq_false h.1
  simp only [Eff.appF, FSt.mk.injEq, true_and]
  funext j
  by_cases e1 : j = k'
  · subst e1
    rw [if_pos rfl, if_neg (fun e => hne e.symm), if_pos rfl]
  · rw [if_neg e1]
    by_cases e2 : j = k
    · subst e2
      rw [if_pos rfl, if_pos rfl, AObj.kill_noref h.2]
    · rw [if_neg e2, if_neg e2, if_neg e1]

omit [Tabs] in
theorem commB0_appF {e e' : Eff} (h : commB0 e e' = true) (f : FSt) : e'.appF (e.appF f) = e.appF (e'.appF f) := by
  cases e with
  | put d x =>
    cases e' with
    | put d' x' =>
      simp only [commB0, Bool.and_eq_true, Bool.not_eq_true'] at h
      obtain ⟨⟨h1, h2⟩, h3⟩ := h
      have hne := Nat.ne_of_beq_eq_false h1
      simp only [Eff.appF, FSt.mk.injEq, and_true]
      funext i
      by_cases e1 : i = d'
      · subst e1
        rw [if_pos rfl, if_neg (fun e => hne e.symm), if_pos rfl, AV.dropW_nouse h3]
      · rw [if_neg e1]
        by_cases e2 : i = d
        · subst e2
          rw [if_pos rfl, if_pos rfl, AV.dropW_nouse h2]
        · rw [if_neg e2, if_neg e2, if_neg e1, AV.dropW_comm]
    | new k o d' x' => exact comm_put_new h f
    | upd k o => rfl
    | upp k o d x => simp [commB0] at h
  | new k o d x =>
    cases e' with
    | put d' x' => exact (comm_put_new h f).symm
    | new k' o' d' x' =>
      simp only [commB0, Bool.and_eq_true, Bool.not_eq_true'] at h
      obtain ⟨⟨⟨⟨⟨⟨⟨h1, h2⟩, h3⟩, h4⟩, h5⟩, h6⟩, h7⟩, h8⟩ := h
      have hne := Nat.ne_of_beq_eq_false h1
      have hnk := Nat.ne_of_beq_eq_false h2
      simp only [Eff.appF, FSt.mk.injEq]
      refine ⟨?_, ?_⟩
      · funext i
        by_cases e1 : i = d'
        · subst e1
          rw [if_pos rfl, if_neg (fun e => hne e.symm), if_pos rfl, AV.kill_noref k x' h6, AV.dropW_nouse h4]
        · rw [if_neg e1]
          by_cases e2 : i = d
          · subst e2
            rw [if_pos rfl, if_pos rfl, AV.kill_noref k' x h5, AV.dropW_nouse h3]
          · rw [if_neg e2, if_neg e2, if_neg e1, AV.kill_dropW, AV.kill_dropW, AV.dropW_comm, AV.kill_comm]
      · funext j
        by_cases e1 : j = k'
        · subst e1
          rw [if_pos rfl, if_neg (fun e => hnk e.symm), if_pos rfl, AObj.kill_noref h8]
        · rw [if_neg e1]
          by_cases e2 : j = k
          · subst e2
            rw [if_pos rfl, if_pos rfl, AObj.kill_noref h7]
          · rw [if_neg e2, if_neg e2, if_neg e1, AObj.kill_comm]
    | upd k' o' => exact (comm_upd_new h f).symm
    | upp k o d x => simp [commB0] at h
  | upd k o =>
    cases e' with
    | put d' x' => rfl
    | new k' o' d' x' => exact comm_upd_new h f
    | upd k' o' =>
      simp only [commB0, Bool.not_eq_true'] at h
      have hnk := Nat.ne_of_beq_eq_false h
      simp only [Eff.appF, FSt.mk.injEq, true_and]
      funext j
      by_cases e1 : j = k'
      · subst e1
        rw [if_pos rfl, if_neg (fun e => hnk e.symm), if_pos rfl]
      · rw [if_neg e1]
        by_cases e2 : j = k
        · rw [if_pos e2, if_pos e2]
        · rw [if_neg e2, if_neg e2, if_neg e1]
    | upp k o d x => simp [commB0] at h
  | upp k o d x => cases e' <;> simp [commB0] at h
omit [Tabs] in
theorem commB_appF {e e' : Eff} (h : commB e e' = true) (f : FSt) : e'.appF (e.appF f) = e.appF (e'.appF f) := by
  have two : ∀ {k : Nat} {o : AObj} {d : Tmp} {x : AV} {e : Eff}, commB0 (.upd k o) e = true → commB0 (.put d x) e = true → ∀ f, e.appF ((Eff.upp k o d x).appF f) = (Eff.upp k o d x).appF (e.appF f) := by
    intro k o d x e h1 h2 f
    rw [upp_appF, commB0_appF h2, commB0_appF h1, ← upp_appF]
  have two' : ∀ {k : Nat} {o : AObj} {d : Tmp} {x : AV} {e : Eff}, commB0 e (.upd k o) = true → commB0 e (.put d x) = true → ∀ f, (Eff.upp k o d x).appF (e.appF f) = e.appF ((Eff.upp k o d x).appF f) := by
    intro k o d x e h1 h2 f
    rw [upp_appF, commB0_appF h1, commB0_appF h2, ← upp_appF]
  unfold commB at h
  split at h
  · rename_i k o d x k' o' d' x'
    simp only [Bool.and_eq_true] at h
    have q1 := two' (k := k') (o := o') (d := d') (x := x') h.1.1 h.1.2
    have q2 := two' (k := k') (o := o') (d := d') (x := x') h.2.1 h.2.2
    rw [upp_appF k o, q2, q1, ← upp_appF]
  · simp only [Bool.and_eq_true] at h
    exact two h.1 h.2 f
  · simp only [Bool.and_eq_true] at h
    exact two' h.1 h.2 f
  · exact commB0_appF h f

/-! ## which operations are ordered -/

def orD (bs : List Nat) (es : List Edge) : Nat :=
  match es with
  | [] => 0
  | e :: r => bif Region.binds .any e then 2 ^ e.on ||| bs.getD e.on 0 ||| orD bs r else orD bs r

def edgesLt (i : Nat) (es : List Edge) : Bool := es.all fun e => !Region.binds .any e || Nat.blt e.on i

def chkBs (bs : List Nat) : Nat → List Oper → Bool
  | _, [] => true
  | i, o :: r => Nat.beq (bs.getD i 0) (orD bs o.after.toList) && edgesLt i o.after.toList && chkBs bs (i + 1) r

omit [Tabs] in
theorem chkBs_get {bs : List Nat} : ∀ {l : List Oper} {s : Nat}, chkBs bs s l = true → ∀ i o, l[i]? = some o → bs.getD (s + i) 0 = orD bs o.after.toList ∧ edgesLt (s + i) o.after.toList = true
  | [], s, _, i, o, ho => by simp at ho
  | x :: r, s, h, i, o, ho => by
    simp only [chkBs, Bool.and_eq_true] at h
    cases i with
    | zero =>
      simp only [List.getElem?_cons_zero, Option.some.injEq] at ho
      subst ho
      exact ⟨Nat.eq_of_beq_eq_true h.1.1, h.1.2⟩
    | succ i =>
      have := chkBs_get h.2 i o (by simpa using ho)
      rwa [show s + (i + 1) = s + 1 + i by omega]

omit [Tabs] in
theorem orD_bit {bs : List Nat} {j : Nat} : ∀ {es : List Edge}, (orD bs es).testBit j = true → ∃ e ∈ es, Region.binds .any e = true ∧ (e.on = j ∨ (bs.getD e.on 0).testBit j = true)
  | [], h => by simp [orD] at h
  | e :: r, h => by
    simp only [orD] at h
    cases hb : Region.binds .any e with
    | false =>
      rw [hb, cond_false] at h
      obtain ⟨e', he', h'⟩ := orD_bit h
      exact ⟨e', List.mem_cons_of_mem _ he', h'⟩
    | true =>
      rw [hb, cond_true] at h
      simp only [Nat.testBit_or, Bool.or_eq_true] at h
      rcases h with (h | h) | h
      · refine ⟨e, List.mem_cons_self, hb, .inl ?_⟩
        rw [Nat.testBit_two_pow] at h
        exact of_decide_eq_true h
      · exact ⟨e, List.mem_cons_self, hb, .inr h⟩
      · obtain ⟨e', he', h'⟩ := orD_bit h
        exact ⟨e', List.mem_cons_of_mem _ he', h'⟩

section
variable {ops : Array Oper} {bs : List Nat}

omit [Tabs] in
theorem bits_lt (hb : chkBs bs 0 ops.toList = true) : ∀ (i : Nat), i < ops.size → ∀ j, (bs.getD i 0).testBit j = true → j < i := by
  intro i
  induction i using Nat.strongRecOn with
  | _ i ih =>
    intro hi j hj
    have ho : ops.toList[i]? = some ops[i] := by simp [hi]
    obtain ⟨h1, h2⟩ := chkBs_get hb i _ ho
    simp only [Nat.zero_add] at h1 h2
    rw [h1] at hj
    obtain ⟨e, he, hbd, h⟩ := orD_bit hj
    have hlt : e.on < i := by
      have := List.all_eq_true.1 h2 e he
      rw [hbd] at this
      exact blt_lt (by simpa using this)
    rcases h with rfl | h
    · exact hlt
    · exact Nat.lt_trans (ih _ hlt (by omega) j h) hlt

def Waits (ops : Array Oper) (L : Nat → Bool) (i : Nat) : Prop := ∀ o, ops[i]? = some o → ∀ e ∈ o.after.toList, Region.binds .any e = true → L e.on = true

omit [Tabs] in
theorem bits_listed (hb : chkBs bs 0 ops.toList = true) {L : Nat → Bool} (hL : ∀ i, i < ops.size → L i = true → Waits ops L i) : ∀ (i : Nat), i < ops.size → Waits ops L i → ∀ j, (bs.getD i 0).testBit j = true → L j = true := by
  intro i
  induction i using Nat.strongRecOn with
  | _ i ih =>
    intro hi hw j hj
    have ho : ops.toList[i]? = some ops[i] := by simp [hi]
    obtain ⟨h1, h2⟩ := chkBs_get hb i _ ho
    simp only [Nat.zero_add] at h1 h2
    rw [h1] at hj
    obtain ⟨e, he, hbd, h⟩ := orD_bit hj
    have hlt : e.on < i := by
      have := List.all_eq_true.1 h2 e he
      rw [hbd] at this
      exact blt_lt (by simpa using this)
    have hl : L e.on = true := hw ops[i] (by simp [hi]) e he hbd
    rcases h with rfl | h
    · exact hl
    · exact ih _ hlt (by omega) (hL _ (by omega) hl) j h
end

def ub (bs : List Nat) (i j : Nat) : Bool := !Nat.beq i j && !(bs.getD i 0).testBit j && !(bs.getD j 0).testBit i

/-! ## effects of those that are listed, in the text's order -/

def appsF (L : Nat → Bool) : Nat → List Eff → FSt → FSt
  | _, [], f => f
  | i, e :: r, f => appsF L (i + 1) r (bif L i then e.appF f else f)
def appsL (L : Nat → Bool) : Nat → List Eff → ASt → ASt
  | _, [], s => s
  | i, e :: r, s => appsL L (i + 1) r (bif L i then e.app s else s)

omit [Tabs] in
theorem appsL_fn (L : Nat → Bool) : ∀ (r : List Eff) (i : Nat) (s : ASt), (appsL L i r s).fn = appsF L i r s.fn
  | [], _, _ => rfl
  | e :: r, i, s => by
    simp only [appsL, appsF]
    rw [appsL_fn L r]
    cases L i with
    | true => rw [cond_true, cond_true, app_fn]
    | false => rfl

omit [Tabs] in
theorem appsF_congr (L L' : Nat → Bool) : ∀ (r : List Eff) (i : Nat) (f : FSt), (∀ j, i ≤ j → L j = L' j) → appsF L i r f = appsF L' i r f
  | [], _, _, _ => rfl
  | e :: r, i, f, h => by
    simp only [appsF]
    rw [h i (Nat.le_refl _), appsF_congr L L' r (i + 1) _ fun j hj => h j (by omega)]

omit [Tabs] in
theorem appsF_strike {p q dk : Nat → Bool} (L L' : Nat → Bool) : ∀ (r : List Eff) (i : Nat) (f f' : FSt), (∀ j e, r[j]? = some e → e.inside p q dk = true ∨ L (i + j) = L' (i + j)) → f.strike p q dk = f'.strike p q dk →
    (appsF L i r f).strike p q dk = (appsF L' i r f').strike p q dk
  | [], _, _, _, _, h => h
  | e :: r, i, f, f', hh, h => by
    simp only [appsF]
    refine appsF_strike L L' r (i + 1) _ _ (fun j e' he' => ?_) ?_
    · have := hh (j + 1) e' (by simpa using he')
      rwa [show i + (j + 1) = i + 1 + j by omega] at this
    · rcases hh 0 e rfl with hin | he
      · have e1 := strike_inside hin f
        have e2 := strike_inside hin f'
        cases L i <;> cases L' i <;> simp only [cond_true, cond_false]
        · exact h
        · exact h.trans e2.symm
        · exact e1.trans h
        · exact (e1.trans h).trans e2.symm
      · simp only [Nat.add_zero] at he
        rw [he]
        cases L' i with
        | true => exact strike_congr e h
        | false => exact h

omit [Tabs] in
theorem appsF_comm (L : Nat → Bool) (e : Eff) : ∀ (r : List Eff) (i : Nat) (f : FSt), (∀ j e', r[j]? = some e' → L (i + j) = true → commB e e' = true) → appsF L i r (e.appF f) = e.appF (appsF L i r f)
  | [], _, _, _ => rfl
  | e' :: r, i, f, h => by
    simp only [appsF]
    have hr : ∀ j e'', r[j]? = some e'' → L (i + 1 + j) = true → commB e e'' = true := fun j e'' he hl => h (j + 1) e'' (by simpa using he) (by rwa [show i + (j + 1) = i + 1 + j by omega])
    cases hl : L i with
    | true =>
      simp only [cond_true]
      rw [commB_appF (h 0 e' rfl (by simpa using hl)), appsF_comm L e r (i + 1) _ hr]
    | false =>
      simp only [cond_false]
      exact appsF_comm L e r (i + 1) _ hr

omit [Tabs] in
theorem appsF_more (L L' : Nat → Bool) (e : Eff) : ∀ (r : List Eff) (s m : Nat) (f : FSt), r[m]? = some e → L (s + m) = false → L' (s + m) = true → (∀ j, j ≠ s + m → L' j = L j) →
    (∀ j e', m < j → r[j]? = some e' → L (s + j) = true → commB e e' = true) → appsF L' s r f = e.appF (appsF L s r f)
  | [], s, m, f, h, _, _, _, _ => by simp at h
  | e0 :: r, s, 0, f, h, h1, h2, h3, h4 => by
    simp only [List.getElem?_cons_zero, Option.some.injEq] at h
    subst h
    simp only [Nat.add_zero] at h1 h2 h3
    simp only [appsF, h1, h2, cond_true, cond_false]
    rw [appsF_congr L' L r (s + 1) _ fun j hj => h3 j (by omega)]
    exact appsF_comm L e0 r (s + 1) f fun j e' he hl => h4 (j + 1) e' (by omega) (by simpa using he) (by rwa [show s + (j + 1) = s + 1 + j by omega])
  | e0 :: r, s, m + 1, f, h, h1, h2, h3, h4 => by
    simp only [appsF]
    rw [h3 s (by omega)]
    refine appsF_more L L' e r (s + 1) m _ (by simpa using h) (by rwa [show s + 1 + m = s + (m + 1) by omega]) (by rwa [show s + 1 + m = s + (m + 1) by omega]) (fun j hj => h3 j (by omega)) fun j e' hj he hl => ?_
    exact h4 (j + 1) e' (by omega) (by simpa using he) (by rwa [show s + (j + 1) = s + 1 + j by omega])

/-! ## what operation i may lean on -/
def ubEffs (bs : List Nat) (i : Nat) : Nat → List Eff → List Eff
  | _, [] => []
  | j, e :: r => bif ub bs i j then e :: ubEffs bs i (j + 1) r else ubEffs bs i (j + 1) r
def isKey (es : List Eff) (k : Nat) : Bool := es.any fun e => match e with | .new j _ _ _ => Nat.beq k j | _ => false
def isDst (es : List Eff) (d : Nat) : Bool := es.any fun e => match e with | .new _ _ j _ => Nat.beq d j | .put j _ => Nat.beq d j | .upp _ _ j _ => Nat.beq d j | _ => false
def tchs : List Eff → List Nat
  | [] => []
  | .put _ _ :: r => tchs r
  | .new k _ _ _ :: r => k :: tchs r
  | .upd k _ :: r => k :: tchs r
  | .upp k _ _ _ :: r => k :: tchs r

omit [Tabs] in
theorem ubEffs_mem (bs : List Nat) (i : Nat) : ∀ (r : List Eff) (s j : Nat) (e : Eff), r[j]? = some e → ub bs i (s + j) = true → e ∈ ubEffs bs i s r
  | [], s, j, e, h, _ => by simp at h
  | e0 :: r, s, 0, e, h, hu => by
    simp only [List.getElem?_cons_zero, Option.some.injEq] at h
    subst h
    simp only [Nat.add_zero] at hu
    simp [ubEffs, hu]
  | e0 :: r, s, j + 1, e, h, hu => by
    have := ubEffs_mem bs i r (s + 1) j e (by simpa using h) (by rwa [show s + 1 + j = s + (j + 1) by omega])
    simp only [ubEffs]
    cases ub bs i s with
    | true => exact List.mem_cons_of_mem _ this
    | false => exact this

omit [Tabs] in
theorem tchs_mem : ∀ {es : List Eff} {e : Eff}, e ∈ es → ∀ k, e.touch = some k → memB k (tchs es) = true
  | e0 :: r, e, h, k, hk => by
    rcases List.mem_cons.1 h with rfl | h
    · cases e with
      | put d x => cases hk
      | new k' o d x => cases hk; simp [tchs, memB]
      | upd k' o => cases hk; simp [tchs, memB]
      | upp k' o d x => cases hk; simp [tchs, memB]
    · have := tchs_mem h k hk
      cases e0 with
      | put d x => exact this
      | new k' o d x => simp [tchs, memB, this]
      | upd k' o => simp [tchs, memB, this]
      | upp k' o d x => simp [tchs, memB, this]

omit [Tabs] in
theorem inside_of_mem {es : List Eff} {e : Eff} (h : e ∈ es) : e.inside (isKey es) (isDst es) (memB · (tchs es)) = true := by
  cases e with
  | put d x => exact List.any_eq_true.2 ⟨_, h, by simp⟩
  | new k o d x =>
    simp only [Eff.inside, Bool.and_eq_true]
    exact ⟨⟨List.any_eq_true.2 ⟨_, h, by simp⟩, List.any_eq_true.2 ⟨_, h, by simp⟩⟩, tchs_mem h k rfl⟩
  | upd k o => exact tchs_mem h k rfl
  | upp k o d x =>
    simp only [Eff.inside, Bool.and_eq_true]
    exact ⟨List.any_eq_true.2 ⟨_, h, by simp⟩, tchs_mem h k rfl⟩

def weakAt (bs : List Nat) (effs : List Eff) (st : ASt) (i : Nat) (f : Nat → AObj) : ASt :=
  (appsL (Nat.blt · i) 0 effs st).weak (isKey (ubEffs bs i 0 effs)) (isDst (ubEffs bs i 0 effs)) (tchs (ubEffs bs i 0 effs)) f

def chkComm (bs : List Nat) (effs : List Eff) : Bool :=
  (List.range effs.length).all fun i => (List.range effs.length).all fun j => !(Nat.blt i j && ub bs i j) || (match effs[i]?, effs[j]? with | some e, some e' => commB e e' | _, _ => true)

def chkSeq (bs fl : List Nat) (m n : Nat) : Bool := (List.range (n - m)).all fun d => (List.range (m + d)).all fun i => (bs.getD (m + d) 0).testBit i || memB i fl
omit [Tabs] in
theorem memB_in {x : Nat} : ∀ {l : List Nat}, memB x l = true → x ∈ l
  | y :: r, h => by
    simp only [memB, Bool.or_eq_true] at h
    rcases h with h | h
    · rw [Nat.eq_of_beq_eq_true h]; simp
    · exact List.mem_cons_of_mem _ (memB_in h)
omit [Tabs] in
theorem in_memB {x : Nat} : ∀ {l : List Nat}, x ∈ l → memB x l = true
  | y :: r, h => by
    simp only [memB, Bool.or_eq_true]
    rcases List.mem_cons.1 h with rfl | h
    · exact .inl (Nat.beq_refl _)
    · exact .inr (in_memB h)
def flsOk (ops : Array Oper) (m : Nat) (fl : List Nat) : Bool :=
  Region.noSelect ops && fl.all fun i => Nat.blt i m && (match ops[i]? with
    | some o => (match o.op with | .move _ | .assign _ => true | _ => false) && o.guard.isNone && o.after.all (fun e => !Region.binds .any e)
    | none => false) && Region.free .any ops (Array.replicate ops.size false) i
omit [Tabs] in
theorem yields_mv {P : Program} {ops : Array Oper} {o : Oper} {a : Act} (h : (match o.op with | .move _ | .assign _ => true | _ => false) = true) (hg : o.guard.isNone = true) : ∃ v, Yields P ops o v a := by
  have hw : Region.wanted o (yielded ops a.tmps) = true := by
    unfold Region.wanted
    rw [Option.isNone_iff_eq_none.1 hg]
  split at h
  · rename_i x hx
    exact ⟨a.eval x, .inl ⟨hw, fun w => by unfold execOp; rw [hx]; rfl⟩⟩
  · rename_i x hx
    exact ⟨a.eval x, .inl ⟨hw, fun w => by unfold execOp; rw [hx]; rfl⟩⟩
  · cases h
omit [Tabs] in
theorem yields_inv {P : Program} {ops : Array Oper} {i : Nat} {o : Oper} {v : Value} {a : Act} {w : World} {K : Act → World → Prop} (hi : ops[i]? = some o) (hy : Yields P ops o v a) (h : wpOp P ops (fun _ _ _ => False) i K a w) : K (a.put o.dst v) w := by
  unfold wpOp at h
  simp only [hi] at h
  rcases hy with ⟨hw, hv⟩ | ⟨hw, rfl⟩
  · simp only [hw, if_true, Oper.wp, hv w, Oper.upon] at h
    rcases h with h | ⟨_, h⟩
    · exact h
    · exact absurd h (by rintro ⟨_, _, h⟩; exact h)
  · simp only [hw, Bool.false_eq_true, if_false] at h
    exact h
theorem AW.drawSeq {P : Program} {N : Nat} {c : Code} {st st' : ASt} {Q : Exit → ASt → Prop} (hk : kind c = 11) (hm : P.follows .mixedOrders = true) (effs : List Eff) (bs : List Nat) (hn : effs.length ≤ (cops c).size)
    (hb : chkBs bs 0 (cops c).toList = true) (hc : chkComm bs effs = true)
    (hok : ∀ i e, effs[i]? = some e → ∀ f, IEff P N (cops c) i (weakAt bs effs st i f) e) (hst : appsL (fun _ => true) 0 effs st = st') (fl : List Nat) (hfl : fl = [] ∨ (flsOk (cops c) effs.length fl = true ∧ ∀ e s, Q e s → e = .normal)) (hq : chkSeq bs fl effs.length (cops c).size = true) (h : AOps P N (cops c) (List.range' effs.length ((cops c).size - effs.length)) st' Q) : AW P N c st Q := by
  intro F ρ a w hr
  cases c <;> first | (simp [kind] at hk; done) | skip
  rename_i id ops d
  cases d with
  | false => simp [kind] at hk
  | true =>
  simp only [cops] at hn hb hok hq h hfl
  refine wp_region_any hm ?_
  have flm : ∀ i, memB i fl = true → i < effs.length := fun i hi => by
    rcases hfl with rfl | ⟨h1, _⟩
    · cases hi
    · unfold flsOk at h1
      rw [Bool.and_eq_true] at h1
      have h2 := List.all_eq_true.1 h1.2 i (memB_in hi)
      simp only [Bool.and_eq_true] at h2
      exact blt_lt h2.1.1
  have cnt : ∀ (l : List Bool) (m : Nat) (hm : m < l.length), l[m] = false → ((l.set m true).filter (! ·)).length + 1 = (l.filter (! ·)).length := by
    intro l
    induction l with
    | nil => intro m hm; simp at hm
    | cons b r ihl =>
      intro m hm hb
      cases m with
      | zero =>
        simp only [List.getElem_cons_zero] at hb
        subst hb
        simp
      | succ m =>
        have := ihl m (by simpa using hm) (by simpa using hb)
        cases b with
        | true => simpa using this
        | false => simpa using this
  have full : ∀ (listed : Array Bool), listed.size = ops.size → (listed.toList.filter (! ·)).length = 0 → ∀ i, i < ops.size → listed.getD i false = true := by
    intro listed hz hfu i hi
    have hli : i < listed.size := by omega
    have hnil := List.eq_nil_of_length_eq_zero hfu
    rw [List.filter_eq_nil_iff] at hnil
    have := hnil listed[i] (by simp)
    have e : listed.getD i false = listed[i] := by simp [Array.getD_eq_getD_getElem?, hli]
    rw [e]
    simpa using this
  have none_ready : ∀ (listed : Array Bool), listed.size = ops.size → (∀ i, i < ops.size → listed.getD i false = true) → Region.ready .any ops listed = [] := by
    intro listed hz hall
    unfold Region.ready
    rw [List.filter_eq_nil_iff]
    intro i hi
    have hi' := List.mem_range.1 hi
    have hli : i < listed.size := by omega
    have e : listed.getD i true = true := by
      have := hall i hi'
      simp only [Array.getD_eq_getD_getElem?, Array.getElem?_eq_getElem hli, Option.getD_some] at this ⊢
      exact this
    simp [e]
  have ready_of : ∀ (listed : Array Bool), listed.size = ops.size → ∀ i, i ∈ Region.ready .any ops listed → i < ops.size ∧ listed.getD i false = false ∧ Waits ops (fun j => listed.getD j false) i := by
    intro listed hz i hi
    unfold Region.ready at hi
    rw [List.mem_filter] at hi
    obtain ⟨hi1, hi2⟩ := hi
    have hi' := List.mem_range.1 hi1
    have hli : i < listed.size := by omega
    simp only [Bool.and_eq_true, Bool.not_eq_true'] at hi2
    have ho : ops[i]? = some ops[i] := by simp [hi']
    rw [ho] at hi2
    simp only [Option.map_some, Option.getD_some] at hi2
    refine ⟨hi', ?_, ?_⟩
    · have := hi2.1
      simp only [Array.getD_eq_getD_getElem?, Array.getElem?_eq_getElem hli, Option.getD_some] at this ⊢
      exact this
    · intro o ho' e he hbd
      rw [ho] at ho'
      cases ho'
      have := hi2.2
      rw [← Array.all_toList, List.all_eq_true] at this
      simpa [hbd] using this e he
  have set_get : ∀ (listed : Array Bool) (i : Nat), i < listed.size → ∀ j, (listed.setIfInBounds i true).getD j false = if j = i then true else listed.getD j false := by
    intro listed i hli j
    by_cases hj : j = i
    · subst hj
      simp [Array.getD_eq_getD_getElem?, hli]
    · rw [if_neg hj]
      simp [Array.getD_eq_getD_getElem?, Ne.symm hj]
  have closed_set : ∀ (listed : Array Bool) (i : Nat), i < listed.size → Waits ops (fun j => listed.getD j false) i → (∀ i, i < ops.size → listed.getD i false = true → Waits ops (fun j => listed.getD j false) i) →
      ∀ j, j < ops.size → (listed.setIfInBounds i true).getD j false = true → Waits ops (fun j => (listed.setIfInBounds i true).getD j false) j := by
    intro listed i hli hwi hcl j hj hlj o ho' e he hbd
    have hL' := set_get listed i hli
    simp only [hL'] at hlj ⊢
    by_cases hji : j = i
    · subst hji
      have := hwi o ho' e he hbd
      split
      · rfl
      · exact this
    · rw [if_neg hji] at hlj
      have := hcl j hj hlj o ho' e he hbd
      split
      · rfl
      · exact this
  have fuel_set : ∀ (listed : Array Bool) (i fuel : Nat), i < listed.size → listed.getD i false = false → (listed.toList.filter (! ·)).length = fuel + 1 → ((listed.setIfInBounds i true).toList.filter (! ·)).length = fuel := by
    intro listed i fuel hli hLi hfu
    have e1 : listed[i] = false := by
      have : listed.getD i false = listed[i] := by simp [Array.getD_eq_getD_getElem?, hli]
      rw [← this]; exact hLi
    have hli2 : i < listed.toList.length := by simpa using hli
    have := cnt listed.toList i hli2 (by simpa using e1)
    rw [Array.toList_setIfInBounds]
    omega
  have seqb : ∀ j, effs.length ≤ j → j < ops.size → ∀ i, i < j → memB i fl = false → (bs.getD j 0).testBit i = true := by
    intro j hj hjn i hi hif
    have h1 := List.all_eq_true.1 hq (j - effs.length) (List.mem_range.2 (by omega))
    have h2 := List.all_eq_true.1 h1 i (List.mem_range.2 (by omega))
    rwa [show effs.length + (j - effs.length) = j by omega, hif, Bool.or_false] at h2
  have nofl : ∀ i, effs.length ≤ i → memB i fl = false := fun i hi => by
    cases hb : memB i fl with
    | false => rfl
    | true => exact absurd (flm i hb) (by omega)
  -- those that stand in one order
  have tail : ∀ (Q' : Exit → Act → World → Prop) (fuel p : Nat) (listed : Array Bool) (a1 : Act) (w1 : World), listed.size = ops.size → (listed.toList.filter (! ·)).length = fuel → effs.length ≤ p → p ≤ ops.size →
      (∀ j, j < ops.size → listed.getD j false = Nat.blt j p) → (∀ i, i < ops.size → listed.getD i false = true → Waits ops (fun j => listed.getD j false) i) → wpOps P ops Q' (List.range' p (ops.size - p)) a1 w1 → wpAny P .any ops Q' fuel listed a1 w1 := by
    intro Q' fuel
    have bltf : ∀ x y : Nat, ¬ x < y → Nat.blt x y = false := fun x y hxy => by
      cases hbb : Nat.blt x y with
      | false => rfl
      | true => exact absurd (blt_lt hbb) hxy
    have bltt : ∀ x y : Nat, x < y → Nat.blt x y = true := fun x y hxy => Nat.ble_eq_true_of_le hxy
    induction fuel with
    | zero =>
      intro p listed a1 w1 hz hfu hp hpn hl hcl hw
      have hall := full listed hz hfu
      have hpe : p = ops.size := by
        refine Classical.byContradiction fun hc => ?_
        have h1 := hall p (by omega)
        rw [hl p (by omega), bltf p p (by omega)] at h1
        cases h1
      subst hpe
      rw [Nat.sub_self] at hw
      exact ⟨none_ready listed hz hall, hw⟩
    | succ fuel ih =>
      intro p listed a1 w1 hz hfu hp hpn hl hcl hw
      have hpl : p < ops.size := by
        refine Classical.byContradiction fun hc => ?_
        have hall : ∀ i, i < ops.size → listed.getD i false = true := fun i hi => by rw [hl i hi, bltt i p (by omega)]
        have : (listed.toList.filter (! ·)) = [] := by
          rw [List.filter_eq_nil_iff]
          intro x hx
          obtain ⟨i, hi, rfl⟩ := List.getElem_of_mem hx
          have hi' : i < listed.size := by simpa using hi
          have := hall i (by omega)
          simp only [Array.getD_eq_getD_getElem?, Array.getElem?_eq_getElem hi', Option.getD_some] at this
          simpa using this
        rw [this] at hfu
        cases hfu
      have hne : p ∈ Region.ready .any ops listed := by
        unfold Region.ready
        rw [List.mem_filter]
        refine ⟨List.mem_range.2 hpl, ?_⟩
        have hli : p < listed.size := by omega
        have e1 : listed.getD p true = false := by
          have := hl p hpl
          rw [bltf p p (by omega)] at this
          simp only [Array.getD_eq_getD_getElem?, Array.getElem?_eq_getElem hli, Option.getD_some] at this ⊢
          exact this
        have ho : ops[p]? = some ops[p] := by simp [hpl]
        rw [e1, ho]
        simp only [Bool.not_false, Bool.true_and, Option.map_some, Option.getD_some]
        rw [← Array.all_toList, List.all_eq_true]
        intro e he
        cases hbd : Region.binds .any e with
        | false => rfl
        | true =>
          have hlt : e.on < p := by
            have h2 := (chkBs_get hb p ops[p] (by simp [hpl])).2
            simp only [Nat.zero_add] at h2
            have := List.all_eq_true.1 h2 e he
            rw [hbd] at this
            exact blt_lt (by simpa using this)
          have h3 := hl e.on (by omega)
          rw [bltt _ _ hlt] at h3
          simpa using h3
      refine ⟨fun hnil => absurd hne (by rw [hnil]; simp), fun i hi => ?_⟩
      obtain ⟨hi', hLi, hwi⟩ := ready_of listed hz i hi
      have hip : i = p := by
        have h1 : ¬ i < p := fun h => by rw [hl i hi', bltt i p h] at hLi; cases hLi
        refine Classical.byContradiction fun hc => ?_
        have h2 : listed.getD p false = true := bits_listed hb hcl i hi' hwi p (seqb i (by omega) hi' p (by omega) (nofl p hp))
        rw [hl p hpl, bltf p p (by omega)] at h2
        cases h2
      subst hip
      rw [show ops.size - i = (ops.size - (i + 1)) + 1 by omega, List.range'_succ, wpOps_cons] at hw
      refine wpOp_mono (fun a2 w2 hw2 => ?_) hw
      refine ih (i + 1) _ a2 w2 (by simpa using hz) (fuel_set listed i fuel (by omega) hLi hfu) (by omega) (by omega) (fun j hj => ?_) (closed_set listed i (by omega) hwi hcl) hw2
      rw [set_get listed i (by omega)]
      by_cases hji : j = i
      · rw [if_pos hji, bltt j (i + 1) (by omega)]
      · rw [if_neg hji, hl j hj]
        by_cases hlt : j < i
        · rw [bltt j i hlt, bltt j (i + 1) (by omega)]
        · rw [bltf j i hlt, bltf j (i + 1) (by omega)]
  have endst : ∀ (listed : Array Bool), (∀ i, i < effs.length → listed.getD i false = true) → ∀ {s : ASt}, s.fn = appsF (fun j => listed.getD j false) 0 effs st.fn → s.fn = st'.fn := by
    intro listed hall s hfn
    rw [hfn, ← hst, appsL_fn]
    have : ∀ (r : List Eff) (i : Nat) (f : FSt), i + r.length ≤ effs.length → appsF (fun j => listed.getD j false) i r f = appsF (fun _ => true) i r f := by
      intro r
      induction r with
      | nil => intro i f _; rfl
      | cons e r ih =>
        intro i f hi
        simp only [List.length_cons] at hi
        simp only [appsF, hall i (by omega)]
        exact ih (i + 1) _ (by omega)
    exact this effs 0 st.fn (by omega)
  -- nobody is ready: all are listed
  have idle : ∀ (listed : Array Bool), listed.size = ops.size → Region.ready .any ops listed = [] → ∀ i, i < ops.size → listed.getD i false = true := by
    intro listed hz hnil i
    induction i using Nat.strongRecOn with
    | _ i ih =>
      intro hi
      refine Classical.byContradiction fun hc => ?_
      have hmem : i ∈ Region.ready .any ops listed := by
        unfold Region.ready
        rw [List.mem_filter]
        refine ⟨List.mem_range.2 hi, ?_⟩
        have hli : i < listed.size := by omega
        have e1 : listed.getD i true = false := by
          have : listed.getD i false = listed[i] := by simp [Array.getD_eq_getD_getElem?, hli]
          rw [this] at hc
          simp [Array.getD_eq_getD_getElem?, hli]
          simpa using hc
        have ho : ops[i]? = some ops[i] := by simp [hi]
        rw [e1, ho]
        simp only [Bool.not_false, Bool.true_and, Option.map_some, Option.getD_some]
        rw [← Array.all_toList, List.all_eq_true]
        intro e he
        cases hbd : Region.binds .any e with
        | false => rfl
        | true =>
          have hlt : e.on < i := by
            have h2 := (chkBs_get hb i ops[i] (by simp [hi])).2
            simp only [Nat.zero_add] at h2
            have := List.all_eq_true.1 h2 e he
            rw [hbd] at this
            exact blt_lt (by simpa using this)
          simpa using ih _ hlt (by omega)
      rw [hnil] at hmem
      cases hmem
  have step : ∀ (listed : Array Bool) (F1 : Nat → Prop) (ρ1 : Env) (a1 : Act) (w1 : World) (i : Nat), listed.size = ops.size → i < effs.length → listed.getD i false = false → Waits ops (fun j => listed.getD j false) i →
      (∀ i, i < ops.size → listed.getD i false = true → Waits ops (fun j => listed.getD j false) i) → (∃ s, Rel N F1 ρ1 s a1 w1 ∧ s.fn = appsF (fun j => listed.getD j false) 0 effs st.fn) →
      ∀ (K : Act → World → Prop) (R : Exit → Act → World → Prop), (∀ a2 w2 F2 ρ2, (∃ s, Rel N F2 ρ2 s a2 w2 ∧ s.fn = appsF (fun j => (listed.setIfInBounds i true).getD j false) 0 effs st.fn) → Fr F1 ρ1 w1 F2 ρ2 w2 → K a2 w2) → wpOp P ops R i K a1 w1 := by
    intro listed F1 ρ1 a1 w1 i hz hie hLi hwi hcl hs K R hK
    obtain ⟨s, hsr, hfn⟩ := hs
    have hi' : i < ops.size := by omega
    have hli : i < listed.size := by omega
    have hei : effs[i]? = some effs[i] := by simp [hie]
    -- who is ordered with i is listed just if he stands ahead of it
    have hord : ∀ j, j < effs.length → ub bs i j = false → listed.getD j false = Nat.blt j i := by
      intro j hj hu
      simp only [ub, Bool.and_eq_false_iff, Bool.not_eq_false'] at hu
      have bltf : ∀ x y : Nat, ¬ x < y → Nat.blt x y = false := fun x y hxy => by
        cases hbb : Nat.blt x y with
        | false => rfl
        | true => exact absurd (blt_lt hbb) hxy
      rcases hu with (hu | hu) | hu
      · have := Nat.eq_of_beq_eq_true hu
        subst this
        rw [hLi, bltf _ _ (by omega)]
      · have h1 := bits_listed hb hcl i hi' hwi j hu
        have h2 := bits_lt hb i hi' j hu
        have h3 : Nat.blt j i = true := by
          cases hbb : Nat.blt j i with
          | true => rfl
          | false =>
            have : Nat.ble (j + 1) i = true := Nat.ble_eq_true_of_le h2
            exact absurd (show Nat.blt j i = true from this) (by rw [hbb]; simp)
        rw [h1, h3]
      · have h2 := bits_lt hb j (by omega) i hu
        rw [bltf _ _ (by omega)]
        cases hlj : listed.getD j false with
        | false => rfl
        | true =>
          have := bits_listed hb hcl j (by omega) (hcl j (by omega) hlj) i hu
          rw [hLi] at this
          cases this
    have hstr : s.fn.strike (isKey (ubEffs bs i 0 effs)) (isDst (ubEffs bs i 0 effs)) (memB · (tchs (ubEffs bs i 0 effs))) =
        (appsL (Nat.blt · i) 0 effs st).fn.strike (isKey (ubEffs bs i 0 effs)) (isDst (ubEffs bs i 0 effs)) (memB · (tchs (ubEffs bs i 0 effs))) := by
      rw [hfn, appsL_fn]
      refine appsF_strike _ _ effs 0 _ _ (fun j e he => ?_) rfl
      simp only [Nat.zero_add]
      cases hu : ub bs i j with
      | true => exact .inl (inside_of_mem (ubEffs_mem bs i effs 0 j e he (by simpa using hu)))
      | false => exact .inr (hord j ((List.getElem?_eq_some_iff.1 he).1) hu)
    have hieff : IEff P N ops i s effs[i] := .lift (fun f => hok i effs[i] hei f) hstr
    have hL' := set_get listed i hli
    refine hieff F1 ρ1 a1 w1 hsr _ _ fun v w2 F2 ρ2 hr2 hf2 _ => hK _ w2 F2 ρ2 ⟨_, hr2, ?_⟩ hf2
    rw [app_fn, hfn]
    refine (appsF_more (fun j => listed.getD j false) (fun j => (listed.setIfInBounds i true).getD j false) effs[i] effs 0 i st.fn hei (by simpa using hLi) (by simp only [Nat.zero_add, hL', if_pos]) (fun j hj => by simp only [Nat.zero_add] at hj; simp only [hL', if_neg hj]) fun j e' hj he hl => ?_).symm
    simp only [Nat.zero_add] at hl
    have hjl := (List.getElem?_eq_some_iff.1 he).1
    have hu : ub bs i j = true := by
      cases hu : ub bs i j with
      | true => rfl
      | false =>
        have := hord j hjl hu
        rw [hl] at this
        have := blt_lt this.symm
        omega
    have h1 := List.all_eq_true.1 hc i (List.mem_range.2 hie)
    have h2 := List.all_eq_true.1 h1 j (List.mem_range.2 hjl)
    have hblt : Nat.blt i j = true := Nat.ble_eq_true_of_le hj
    simp only [hblt, hu, Bool.and_self, Bool.not_true, Bool.false_or, hei, he] at h2
    exact h2
  -- the induction over what is listed
  have key : ∀ (fuel : Nat) (listed : Array Bool) (F1 : Nat → Prop) (ρ1 : Env) (a1 : Act) (w1 : World), listed.size = ops.size → (listed.toList.filter (! ·)).length = fuel →
      (∀ i, i < ops.size → listed.getD i false = true → Waits ops (fun j => listed.getD j false) i) → (∀ j, effs.length ≤ j → j < ops.size → listed.getD j false = false) → (∀ i, memB i fl = true → listed.getD i false = true) →
      (∃ s, Rel N F1 ρ1 s a1 w1 ∧ s.fn = appsF (fun j => listed.getD j false) 0 effs st.fn) → Fr F ρ w F1 ρ1 w1 →
      wpAny P .any ops (fun ex a' w' => ∃ F' ρ' st', Q ex st' ∧ Rel N F' ρ' st' a' w' ∧ Fr F ρ w F' ρ' w') fuel listed a1 w1 := by
    intro fuel
    induction fuel with
    | zero =>
      intro listed F1 ρ1 a1 w1 hz hfu hcl hsf hfi hs hf
      have hall := full listed hz hfu
      have hme : effs.length = ops.size := by
        refine Classical.byContradiction fun hc => ?_
        have h1 := hall effs.length (by omega)
        rw [hsf effs.length (Nat.le_refl _) (by omega)] at h1
        cases h1
      obtain ⟨s, hs, hfn⟩ := hs
      refine ⟨none_ready listed hz hall, ?_⟩
      have h2 := h F1 ρ1 a1 w1 (hs.congr (endst listed (fun i hi => hall i (by omega)) hfn))
      rw [← hme, Nat.sub_self] at h2
      obtain ⟨F', ρ', st2, q1, q2, q3⟩ := h2
      exact ⟨F', ρ', st2, q1, q2, hf.trans hs.rw.dis q3⟩
    | succ fuel ih =>
      intro listed F1 ρ1 a1 w1 hz hfu hcl hsf hfi hs hf
      by_cases hpre : ∀ i, i < effs.length → listed.getD i false = true
      · obtain ⟨s, hs, hfn⟩ := hs
        refine tail _ (fuel + 1) effs.length listed a1 w1 hz hfu (Nat.le_refl _) hn (fun j hj => ?_) hcl ?_
        · by_cases hjm : j < effs.length
          · rw [hpre j hjm]; exact (Nat.ble_eq_true_of_le hjm).symm
          · rw [hsf j (by omega) hj]
            cases hbb : Nat.blt j effs.length with
            | false => rfl
            | true => exact absurd (blt_lt hbb) hjm
        · refine wpOps_mono (fun e a2 w2 ⟨F', ρ', st2, q1, q2, q3⟩ => ⟨F', ρ', st2, q1, q2, hf.trans hs.rw.dis q3⟩) _ _ _ (h F1 ρ1 a1 w1 (hs.congr (endst listed hpre hfn)))
      obtain ⟨i0, hi0, hl0⟩ : ∃ i0, i0 < effs.length ∧ listed.getD i0 false = false := by
        refine Classical.byContradiction fun hc => hpre fun i hi => ?_
        cases hb : listed.getD i false with
        | true => rfl
        | false => exact absurd ⟨i, hi, hb⟩ hc
      refine ⟨fun hnil => (by have := idle listed hz hnil i0 (by omega); rw [hl0] at this; cases this), fun i hi => ?_⟩
      obtain ⟨hi', hLi, hwi⟩ := ready_of listed hz i hi
      have hli : i < listed.size := by omega
      have ho : ops[i]? = some ops[i] := by simp [hi']
      obtain ⟨s, hsr, hfn⟩ := hs
      have hie : i < effs.length := by
        refine Classical.byContradiction fun hc => ?_
        have h2 : listed.getD i0 false = true := bits_listed hb hcl i hi' hwi i0 (seqb i (by omega) hi' i0 (by omega) (by
          cases hb2 : memB i0 fl with
          | false => rfl
          | true => rw [hfi i0 hb2] at hl0; cases hl0))
        rw [hl0] at h2
        cases h2
      have hzl : (listed.setIfInBounds i true).size = ops.size := by simpa using hz
      have hL' := set_get listed i hli
      exact step listed F1 ρ1 a1 w1 i hz hie hLi hwi hcl ⟨s, hsr, hfn⟩ _ _ fun a2 w2 F2 ρ2 hs2 hf2 => ih _ F2 ρ2 a2 w2 hzl (fuel_set listed i fuel hli hLi hfu) (closed_set listed i hli hwi hcl) (fun j hj hjn => by rw [hL', if_neg (by omega)]; exact hsf j hj hjn) (fun j hj => by rw [hL']; split <;> first | rfl | exact hfi j hj) hs2 (hf.trans hsr.rw.dis hf2)
  -- those that may be taken first are taken first
  have start : ∀ (todo : List Nat), (∀ i ∈ todo, memB i fl = true) → ∀ (fuel : Nat) (listed : Array Bool) (F1 : Nat → Prop) (ρ1 : Env) (a1 : Act) (w1 : World), listed.size = ops.size → (listed.toList.filter (! ·)).length = fuel →
      (∀ i, i < ops.size → listed.getD i false = true → Waits ops (fun j => listed.getD j false) i) → (∀ j, effs.length ≤ j → j < ops.size → listed.getD j false = false) → (∀ i, memB i fl = true → i ∈ todo ∨ listed.getD i false = true) →
      (∃ s, Rel N F1 ρ1 s a1 w1 ∧ s.fn = appsF (fun j => listed.getD j false) 0 effs st.fn) → Fr F ρ w F1 ρ1 w1 →
      wpAny P .any ops (fun ex a' w' => ∃ F' ρ' st', Q ex st' ∧ Rel N F' ρ' st' a' w' ∧ Fr F ρ w F' ρ' w') fuel listed a1 w1 := by
    intro todo
    induction todo with
    | nil => intro _ fuel listed F1 ρ1 a1 w1 hz hfu hcl hsf hfi hs hf; exact key fuel listed F1 ρ1 a1 w1 hz hfu hcl hsf (fun i hi => (hfi i hi).resolve_left (by simp)) hs hf
    | cons i todo iht =>
      intro ht fuel listed F1 ρ1 a1 w1 hz hfu hcl hsf hfi hs hf
      cases hLi : listed.getD i false with
      | true => exact iht (fun j hj => ht j (by simp [hj])) fuel listed F1 ρ1 a1 w1 hz hfu hcl hsf (fun j hj => by
          rcases hfi j hj with h | h
          · rcases List.mem_cons.1 h with rfl | h
            · exact .inr hLi
            · exact .inl h
          · exact .inr h) hs hf
      | false =>
        have hif := ht i (by simp)
        rcases hfl with rfl | ⟨hfo, hQn⟩
        · cases hif
        have him := flm i hif
        have hi' : i < ops.size := by omega
        have hli : i < listed.size := by omega
        have ho : ops[i]? = some ops[i] := by simp [hi']
        unfold flsOk at hfo
        rw [Bool.and_eq_true] at hfo
        have h2 := List.all_eq_true.1 hfo.2 i (memB_in hif)
        rw [ho] at h2
        simp only [Bool.and_eq_true] at h2
        obtain ⟨⟨_, ⟨⟨m1, m2⟩, m3⟩⟩, m4⟩ := h2
        have nob : ∀ e ∈ ops[i].after, Region.binds .any e = true → False := fun e he hbd => by
          have := Array.all_eq_true_iff_forall_mem.1 m3 e he
          rw [hbd] at this
          cases this
        have hwi : Waits ops (fun j => listed.getD j false) i := fun o ho' e he hbd => by
          rw [ho] at ho'
          cases ho'
          exact (nob e (by simpa using he) hbd).elim
        obtain ⟨v, hy⟩ := yields_mv (P := P) (ops := ops) (o := ops[i]) (a := a1) m1 m2
        cases fuel with
        | zero =>
          have := full listed hz hfu i hi'
          rw [hLi] at this
          cases this
        | succ fuel =>
          refine wpAny_first ho (Region.noSelect_spec hfo.1) (fun c a w ⟨_, _, s, hq, _⟩ => (by cases hQn _ _ hq)) fuel listed a1 w1 (fun j oj hj hne _ hno => Region.free_spec ho m4 j oj hj hne (by simp [(Array.getElem?_eq_some_iff.1 hj).1]) hno) (mem_ready.2 ⟨by
            simp only [Array.getD_eq_getD_getElem?, Array.getElem?_eq_getElem hli, Option.getD_some] at hLi ⊢
            exact hLi, ops[i], ho, fun e he hbd => (nob e he hbd).elim⟩) hy ?_
          have hL' := set_get listed i hli
          obtain ⟨s, hsr, hfn⟩ := hs
          obtain ⟨F2, ρ2, hs2, hf2⟩ := yields_inv ho hy (step listed F1 ρ1 a1 w1 i hz him hLi hwi hcl ⟨s, hsr, hfn⟩ (fun a2 w2 => ∃ F2 ρ2, (∃ s, Rel N F2 ρ2 s a2 w2 ∧ s.fn = appsF (fun j => (listed.setIfInBounds i true).getD j false) 0 effs st.fn) ∧ Fr F1 ρ1 w1 F2 ρ2 w2) (fun _ _ _ => False) fun a2 w2 F2 ρ2 h1 h2 => ⟨F2, ρ2, h1, h2⟩)
          refine iht (fun j hj => ht j (by simp [hj])) fuel _ F2 ρ2 _ w1 (by simpa using hz) (fuel_set listed i fuel hli hLi hfu) (closed_set listed i hli hwi hcl) (fun j hj hjn => by rw [hL', if_neg (by omega)]; exact hsf j hj hjn) (fun j hj => ?_) hs2 (hf.trans hsr.rw.dis hf2)
          rcases hfi j hj with h | h
          · rcases List.mem_cons.1 h with rfl | h
            · exact .inr (by rw [hL', if_pos rfl])
            · exact .inl h
          · exact .inr (by rw [hL']; split <;> first | rfl | exact h)
  have hcnt : ∀ n : Nat, ((List.replicate n false).filter (! ·)).length = n := by
    intro n
    induction n with
    | zero => rfl
    | succ n ih => simp [List.replicate_succ]
  have hd : Fr F ρ w F ρ { w with drawn := w.drawn + 1 } := ⟨rfl, rfl, rfl, Nat.le_refl _, fun _ h => h, fun _ _ _ => rfl, fun _ _ h => h, fun _ _ => Stab.refl _ _⟩
  have hrd : Rel N F ρ st a { w with drawn := w.drawn + 1 } :=
    ⟨⟨hr.rw.dis, hr.rw.lt, hr.rw.inj, hr.rw.tab⟩, fun i => (hr.fr i).mono (w := w) (w' := { w with drawn := w.drawn + 1 }) (fun _ _ => rfl) (fun _ h => h) (fun _ _ h => h), fun k => (hr.ob k).through (w := w) (w' := { w with drawn := w.drawn + 1 }) (fun _ _ => rfl) (fun _ h => h) (fun _ _ _ _ => rfl), hr.sz, hr.df⟩
  have hnone : ∀ j, (Array.replicate ops.size false).getD j false = false := by
    intro j
    simp only [Array.getD_eq_getD_getElem?, Array.getElem?_replicate]
    split <;> rfl
  refine start fl (fun i hi => in_memB hi) ops.size (Array.replicate ops.size false) F ρ a _ (by simp) (by rw [Array.toList_replicate]; exact hcnt _) (fun i _ hl => by rw [hnone] at hl; cases hl) (fun j _ _ => hnone j) (fun i hi => .inl (memB_in hi)) ⟨st, hrd, ?_⟩ hd
  have : ∀ (r : List Eff) (i : Nat) (f : FSt), appsF (fun j => (Array.replicate ops.size false).getD j false) i r f = f := by
    intro r
    induction r with
    | nil => intro i f; rfl
    | cons e r ih =>
      intro i f
      show appsF _ (i + 1) r (bif (Array.replicate ops.size false).getD i false then e.appF f else f) = f
      rw [hnone]
      exact ih _ _
  exact (this effs 0 st.fn).symm
theorem AW.draw {P : Program} {N : Nat} {c : Code} {st st' : ASt} {Q : Exit → ASt → Prop} (hk : kind c = 11) (hm : P.follows .mixedOrders = true) (effs : List Eff) (bs : List Nat) (hn : (cops c).size = effs.length)
    (hb : chkBs bs 0 (cops c).toList = true) (hc : chkComm bs effs = true)
    (hok : ∀ i e, effs[i]? = some e → ∀ f, IEff P N (cops c) i (weakAt bs effs st i f) e) (hst : appsL (fun _ => true) 0 effs st = st') (h : Q .normal st') : AW P N c st Q := by
  refine .drawSeq hk hm effs bs (Nat.le_of_eq hn.symm) hb hc hok hst [] (.inl rfl) (by rw [hn]; simp [chkSeq]) ?_
  rw [hn, Nat.sub_self]
  exact fun F ρ a w hr => ⟨F, ρ, st', h, hr, Fr.refl F ρ w⟩
end Esp

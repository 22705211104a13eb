/- ESP, part 5: new objects, stores; steps. -/
import Derived.Test.YtojomjomicfcdaaDoorEspEff
import Derived.Below
namespace Esp
open Go
set_option linter.unusedSimpArgs false
set_option linter.unusedVariables false
variable [Tabs]

/-! ## an object laid at a key -/

def ASt.killF (k : Nat) (fr : List (Nat × AV)) : List (Nat × AV) := fr.map fun p => (p.1, p.2.kill k)
def ASt.setO (k : Nat) (o : AObj) (ob : List (Nat × AObj)) : List (Nat × AObj) := (k, o) :: (ob.filter fun p => !Nat.beq p.1 k)
def ASt.killO (k : Nat) (ob : List (Nat × AObj)) : List (Nat × AObj) := ob.map fun p => (p.1, p.2.kill k)

def ASt.newOb (st : ASt) (k : Nat) (o : AObj) : ASt :=
  { fr := ASt.killF k st.fr, ob := ASt.setO k o (ASt.killO k st.ob) }

omit [Tabs] in
theorem lkO_map (f : AObj → AObj) (hf : f .gone = .gone) : ∀ (fr : List (Nat × AObj)) (i : Nat), lkO (fr.map fun p => (p.1, f p.2)) i = f (lkO fr i)
  | [], _ => hf.symm
  | (j, v) :: r, i => by
    simp only [List.map_cons, lkO]
    cases Nat.beq i j with
    | true => rfl
    | false => simpa using lkO_map f hf r i

omit [Tabs] in
theorem lkO_filter (d : Nat) : ∀ (fr : List (Nat × AObj)) (i : Nat), i ≠ d → lkO (fr.filter fun p => !Nat.beq p.1 d) i = lkO fr i
  | [], _, _ => rfl
  | (j, v) :: r, i, h => by
    cases hj : Nat.beq j d with
    | true =>
      have : Nat.beq i j = false := by
        cases hij : Nat.beq i j with
        | false => rfl
        | true => exact absurd ((Nat.eq_of_beq_eq_true hij).trans (Nat.eq_of_beq_eq_true hj)) h
      rw [List.filter_cons_of_neg (by simp [hj])]
      simp only [lkO, this, cond_false]
      exact lkO_filter d r i h
    | false =>
      rw [List.filter_cons_of_pos (by simp [hj])]
      simp only [lkO]
      cases Nat.beq i j with
      | true => rfl
      | false => simpa using lkO_filter d r i h

omit [Tabs] in
theorem lkO_set_same (k : Nat) (o : AObj) (ob : List (Nat × AObj)) : lkO (ASt.setO k o ob) k = o := by simp [ASt.setO, lkO]
omit [Tabs] in
theorem lkO_set_other (k : Nat) (o : AObj) (ob : List (Nat × AObj)) (i : Nat) (h : i ≠ k) : lkO (ASt.setO k o ob) i = lkO ob i := by
  have hb : Nat.beq i k = false := by cases hb : Nat.beq i k with | false => rfl | true => exact absurd (Nat.eq_of_beq_eq_true hb) h
  simp only [ASt.setO, lkO, hb, cond_false]
  exact lkO_filter k ob i h

omit [Tabs] in
theorem AV.kill_junk (k : Nat) : AV.kill k .junk = .junk := by simp [AV.kill]

def Env.set (ρ : Env) (k : Nat) (l : Option Loc) : Env := fun j => if j = k then l else ρ j
omit [Tabs] in
theorem Env.set_same (ρ : Env) (k : Nat) (l : Option Loc) : ρ.set k l k = l := by simp [Env.set]
omit [Tabs] in
theorem Env.set_other (ρ : Env) (k : Nat) (l : Option Loc) {j : Nat} (h : j ≠ k) : ρ.set k l j = ρ j := by simp [Env.set, h]
omit [Tabs] in
theorem Env.set_off (ρ : Env) (k : Nat) (l : Option Loc) : offK k ρ (ρ.set k l) := fun j h => Env.set_other ρ k l h

omit [Tabs] in
theorem RelOb.lt {w : World} {F : Nat → Prop} {ρ : Env} {k : Nat} {o : AObj} (h : RelOb w F ρ k o) {l : Loc} {b : Nat} (hk : ρ k = some l) (hb : l.blk = some b) : b < w.heap.size := by
  induction h with
  | gone h => rw [h] at hk; cases hk
  | na t ee xs h ih => exact ih
  | any o h ih => exact ih
  | box cs oty b' c t hoty hk' hb' hs hh =>
    rw [hk'] at hk; cases hk; cases hb
    exact (Array.getElem?_eq_some_iff.1 hb').1
  | arr t e n cs u xs hk' ho hs hh =>
    rw [hk'] at hk; cases hk
    exact (ho.lt b hb).2
  | tab b o h => rw [h] at hk; cases hk
  | it s pos b' hk' hb' =>
    rw [hk'] at hk; cases hk; cases hb
    exact (Array.getElem?_eq_some_iff.1 hb').1
  | mp t kt vt l b' es c hk' hb' =>
    rw [hk'] at hk; cases hk; cases hb
    exact (Array.getElem?_eq_some_iff.1 hb').1

omit [Tabs] in
theorem RelOb.through {w w' : World} {F F' : Nat → Prop} {ρ : Env} {k : Nat} {o : AObj} (h : RelOb w F ρ k o) (hF : ∀ b, F b → w'.heap[b]? = w.heap[b]?) (hs : ∀ b, F b → F' b)
    (hb : ∀ l b, ρ k = some l → l.blk = some b → w'.heap[b]? = w.heap[b]?) : RelOb w' F' ρ k o := by
  induction h with
  | gone h => exact .gone h
  | na t ee xs h ih => exact .na t ee xs ih
  | any o h ih => exact .any _ ih
  | box cs oty b c t hoty hk hb' hz hh => exact .box cs _ b c t hoty hk ((hb _ b hk rfl).trans hb') hz fun i hi => (hh i hi).mono hF hs fun _ _ h => h
  | arr t e n cs u xs hk ho hz hh =>
    refine .arr t e n cs u xs hk ?_ hz fun i hi => (hh i hi).mono hF hs
    refine ⟨ho.1, ?_⟩
    rcases ho.2 with h | ⟨g, cap, cur, rfl, hbg, hg, rest⟩
    · exact .inl h
    · exact .inr ⟨g, cap, cur, rfl, hbg, (hb _ g hk rfl).trans hg, rest⟩
  | tab b o hk hfb hb' => exact .tab b o hk (hs b hfb) ((hF b hfb).trans hb')
  | it s pos b hk hb' => exact .it s pos b hk ((hb _ b hk rfl).trans hb')
  | mp t kt vt l b es c hk hb' hz hh dn hd => exact .mp t kt vt l b es c hk ((hb _ b hk rfl).trans hb') hz (fun i h1 h2 => ⟨(hh i h1 h2).1.mono hF hs, (hh i h1 h2).2.mono hF hs⟩) dn hd

section
variable {P : Program} {N : Nat} {F : Nat → Prop} {ρ : Env} {st : ASt} {a : Act} {w w' : World}

theorem Rel.setOb (h : Rel N F ρ st a w) (hos : w'.os = w.os) (htp : w'.tape = w.tape) (hou : w'.output = w.output) (hsz : w.heap.size ≤ w'.heap.size) (k : Nat) (L : Loc) (o : AObj)
    (hkeep : ∀ b, b < w.heap.size → (∀ l, ρ k = some l → l.blk ≠ some b) → w'.heap[b]? = w.heap[b]?)
    (hL : ∀ b, L.blk = some b → b < w'.heap.size ∧ (w.heap.size ≤ b ∨ ∃ l, ρ k = some l ∧ l.blk = some b))
    (ho : RelOb w' F (ρ.set k (some L)) k o) (hst : 1000000 ≤ k → Stab k (ρ k) (some L)) :
    Rel N F (ρ.set k (some L)) (st.newOb k o) a w' ∧ Fr F ρ w F (ρ.set k (some L)) w' := by
  have hF : ∀ b, F b → w'.heap[b]? = w.heap[b]? := fun b hb => hkeep b (h.rw.lt b hb) fun l hl e => h.rw.dis b hb ⟨k, l, hl, e⟩
  have hlive : ∀ b, live (ρ.set k (some L)) b → live ρ b ∨ w.heap.size ≤ b := by
    rintro b ⟨j, l, hj, hb⟩
    by_cases e : j = k
    · subst e
      rw [Env.set_same] at hj
      cases hj
      rcases (hL b hb).2 with h' | ⟨l, hl, hb'⟩
      · exact .inr h'
      · exact .inl ⟨j, l, hl, hb'⟩
    · rw [Env.set_other _ _ _ e] at hj
      exact .inl ⟨j, l, hj, hb⟩
  refine ⟨⟨⟨?_, ?_, ?_, h.rw.tab_of hF fun _ h => h⟩, ?_, ?_, h.sz, h.df⟩, ⟨hos, htp, hou, hsz, fun _ hb => hb, ?_, ?_, ?_⟩⟩
  · intro b hb hl
    rcases hlive b hl with h' | h'
    · exact h.rw.dis b hb h'
    · have := h.rw.lt b hb; omega
  · intro b hb
    have := h.rw.lt b hb; omega
  · intro i j l l' b hi hj hb hb'
    by_cases e1 : i = k <;> by_cases e2 : j = k
    · exact e1.trans e2.symm
    · subst e1
      rw [Env.set_same] at hi; cases hi
      rw [Env.set_other _ _ _ e2] at hj
      rcases (hL b hb).2 with h' | ⟨l, hl, hb2⟩
      · have := (h.ob j).lt hj hb'; omega
      · exact h.rw.inj _ _ _ _ b hl hj hb2 hb'
    · subst e2
      rw [Env.set_same] at hj; cases hj
      rw [Env.set_other _ _ _ e1] at hi
      rcases (hL b hb').2 with h' | ⟨l, hl, hb2⟩
      · have := (h.ob i).lt hi hb; omega
      · exact h.rw.inj _ _ _ _ b hi hl hb hb2
    · rw [Env.set_other _ _ _ e1] at hi
      rw [Env.set_other _ _ _ e2] at hj
      exact h.rw.inj _ _ _ _ b hi hj hb hb'
  · intro i
    simp only [ASt.newOb, ASt.killF]
    rw [lkF_map (AV.kill k) (AV.kill_junk k)]
    exact ((h.fr i).kill (Env.set_off ρ k (some L))).mono hF (fun _ h => h) (fun _ _ h => h)
  · intro j
    by_cases e : j = k
    · subst e
      simp only [ASt.newOb]
      rw [lkO_set_same]
      exact ho
    · simp only [ASt.newOb, ASt.killO]
      rw [lkO_set_other _ _ _ _ e, lkO_map (AObj.kill k) rfl]
      have h1 := (h.ob j).kill (Env.set_off ρ k (some L)) e
      refine h1.through hF (fun _ h => h) fun l b hl hb => ?_
      rw [Env.set_other _ _ _ e] at hl
      exact hkeep b ((h.ob j).lt hl hb) fun l' hl' hb' => e (h.rw.inj _ _ _ _ b hl hl' hb hb')
  · intro b hb hl
    exact hkeep b hb fun l hl' e => hl ⟨k, l, hl', e⟩
  · rintro b hb (hf | hl)
    · exact .inl hf
    · rcases hlive b hl with h' | h'
      · exact .inr h'
      · omega
  · intro j hj
    by_cases e : j = k
    · subst e
      rw [Env.set_same]
      exact hst hj
    · rw [Env.set_other _ _ _ e]
      exact Stab.refl _ _

theorem Rel.setBox (h : Rel N F ρ st a w) (hos : w'.os = w.os) (htp : w'.tape = w.tape) (hou : w'.output = w.output) (hsz : w.heap.size = w'.heap.size) (k : Nat) (o : AObj)
    (hkeep : ∀ b, (∀ l, ρ k = some l → l.blk ≠ some b) → w'.heap[b]? = w.heap[b]?) (ho : RelOb w' F ρ k o) :
    Rel N F ρ { st with ob := ASt.setO k o st.ob } a w' ∧ Fr F ρ w F ρ w' := by
  have hF : ∀ b, F b → w'.heap[b]? = w.heap[b]? := fun b hb => hkeep b fun l hl e => h.rw.dis b hb ⟨k, l, hl, e⟩
  refine ⟨⟨⟨h.rw.dis, fun b hb => hsz ▸ h.rw.lt b hb, h.rw.inj, h.rw.tab_of hF fun _ h => h⟩, fun i => (h.fr i).mono hF (fun _ h => h) (fun _ _ h => h), ?_, h.sz, h.df⟩, ⟨hos, htp, hou, Nat.le_of_eq hsz, fun _ hb => hb, ?_, fun b _ hb => hb, fun _ _ => Stab.refl _ _⟩⟩
  · intro j
    by_cases e : j = k
    · subst e
      rw [lkO_set_same]
      exact ho
    · rw [lkO_set_other _ _ _ _ e]
      exact (h.ob j).through hF (fun _ h => h) fun l b hl hb => hkeep b fun l' hl' hb' => e (h.rw.inj _ _ _ _ b hl hl' hb hb')
  · intro b hb hl
    exact hkeep b fun l hl' e => hl ⟨k, l, hl', e⟩

omit [Tabs] in
theorem RelL.kill {cs : List AC} {arr : Array Value} {k : Nat} {ρ' : Env} (ho : offK k ρ ρ') (h : RelL w F ρ cs arr) : RelL w F ρ' (cs.map (AC.kill k)) arr :=
  ⟨by simpa using h.1, fun i hi => by simpa using (h.2 i (by simpa using hi)).kill ho⟩
omit [Tabs] in
theorem RelL.grow {cs : List AC} {arr : Array Value} (hF : ∀ b, F b → w'.heap[b]? = w.heap[b]?) (h : RelL w F ρ cs arr) : RelL w' F ρ cs arr :=
  ⟨h.1, fun i hi => (h.2 i hi).mono hF (fun _ h => h) fun _ _ h => h⟩

inductive Eff where
  | put (d : Tmp) (x : AV)
  | new (k : Nat) (o : AObj) (d : Tmp) (x : AV)
  | upd (k : Nat) (o : AObj)
  | upp (k : Nat) (o : AObj) (d : Tmp) (x : AV)
  deriving Inhabited
def Eff.app : Eff → ASt → ASt
  | .put d x, st => st.put (some d) x
  | .new k o d x, st => (st.newOb k o).put (some d) x
  | .upd k o, st => { st with ob := ASt.setO k o st.ob }
  | .upp k o d x, st => ASt.put { st with ob := ASt.setO k o st.ob } (some d) x
def Eff.key : Eff → Option Nat
  | .new k _ _ _ => some k
  | _ => none
def Eff.touch : Eff → Option Nat
  | .put _ _ => none
  | .new k _ _ _ => some k
  | .upd k _ => some k
  | .upp k _ _ _ => some k
def Eff.dst : Eff → Option Tmp
  | .put d _ => some d
  | .new _ _ d _ => some d
  | .upd _ _ => none
  | .upp _ _ d _ => some d

structure Tch (e : Eff) (ρ : Env) (w : World) (ρ' : Env) (w' : World) : Prop where
  off : ∀ j, e.key ≠ some j → ρ' j = ρ j
  keep : ∀ b, b < w.heap.size → (∀ k l, e.touch = some k → ρ k = some l → l.blk ≠ some b) → w'.heap[b]? = w.heap[b]?
omit [Tabs] in
theorem Tch.none {e : Eff} {ρ : Env} {w w' : World} (hk : ∀ b, b < w.heap.size → w'.heap[b]? = w.heap[b]?) : Tch e ρ w ρ w' := ⟨fun _ _ => rfl, fun b hb _ => hk b hb⟩

def OpEff (P : Program) (N : Nat) (o : Oper) (st : ASt) (e : Eff) : Prop :=
  o.dst = e.dst ∧ ∀ F ρ a w, Rel N F ρ st a w → ∃ v w' F' ρ', ((execOp a.eval o).run P w = .ok (.value v) w' ∨ ((execOp a.eval o).run P w = .ok .skip w' ∧ v = undef)) ∧
    Rel N F' ρ' (e.app st) (a.put e.dst v) w' ∧ Fr F ρ w F' ρ' w' ∧ Tch e ρ w ρ' w'

theorem newBox_run (h : Rel N F ρ st a w) {cs : List AC} {arr : Array Value} (t : TypeId) (d : Tmp) (hd : d < N) (hr : RelL w F ρ cs arr) (oty : Option TypeId) (hoty : ∀ t', oty = some t' → t = t') :
    ∃ ρ', Rel N F ρ' ((st.newOb d (.box (cs.map (AC.kill d)) oty)).put (some d) (.cell (.ptr d 0))) (a.put (some d) (.pointer (some ⟨w.heap.size, 0, none⟩))) (w.alloc (.cells arr t)) ∧ Fr F ρ w F ρ' (w.alloc (.cells arr t)) ∧ Tch (.new d (.box (cs.map (AC.kill d)) oty) d (.cell (.ptr d 0))) ρ w ρ' (w.alloc (.cells arr t)) := by
  have hF : ∀ b, F b → (w.alloc (.cells arr t)).heap[b]? = w.heap[b]? := fun b hb => Go.RowKit.Below.heap_alloc w _ b (h.rw.lt b hb)
  obtain ⟨h1, h2⟩ := h.setOb (w' := w.alloc (.cells arr t)) rfl rfl rfl (by simp) d (.box w.heap.size) (.box (cs.map (AC.kill d)) oty)
    (fun b hb _ => Go.RowKit.Below.heap_alloc w _ b hb) (fun b hb => by cases hb; exact ⟨by simp, .inl (Nat.le_refl _)⟩)
    (by
      have hk := (hr.kill (Env.set_off ρ d (some (.box w.heap.size)))).grow hF
      exact .box _ _ w.heap.size arr t hoty (Env.set_same _ _ _) (heap_alloc_new w _) hk.1 hk.2) (fun hk => absurd (Nat.lt_of_lt_of_le hd h.df.2) (by omega))
  refine ⟨_, h1.put d hd (.cell _ _ (.ptr _ _ _ fun b hb => ?_)), h2, ⟨fun j hj => Env.set_other _ _ _ fun e => hj (by rw [e]; rfl), fun b hb _ => Go.RowKit.Below.heap_alloc w _ b hb⟩⟩
  rw [Env.set_same] at hb
  cases hb
  rfl

def sAlloc (P : Program) (N : Nat) (d : Option Tmp) (t : TypeId) : Option Eff :=
  match d, zeroB P t with
  | some d, some z => bif Nat.blt d N then some (.new d (.box ((z.map fun v => .d (.sc v)).map (AC.kill d)) (some t)) d (.cell (.ptr d 0))) else none
  | _, _ => none
def sBox (N : Nat) (st : ASt) (d : Option Tmp) (x : Operand) : Option Eff :=
  match d, cellsOf st.ob (ev st.fr x) with
  | some d, some cs => bif Nat.blt d N then some (.new d (.box (cs.map (AC.kill d))) d (.cell (.ptr d 0))) else none
  | _, _ => none

omit [Tabs] in
theorem blt_lt {a b : Nat} (h : Nat.blt a b = true) : a < b := by have := Nat.le_of_ble_eq_true (show Nat.ble (a + 1) b = true from h); omega

theorem sAlloc_run {e : Eff} {o : Oper} {t : TypeId} (ho : o.op = .alloc t) (hs : sAlloc P N o.dst t = some e) : OpEff P N o st e := by
  obtain ⟨dst, op, ty, pos, after, guard⟩ := o
  dsimp only at ho hs
  subst ho
  unfold sAlloc at hs
  split at hs
  · rename_i d z hz
    cases hd : Nat.blt d N with
    | false => rw [hd] at hs; cases hs
    | true =>
      rw [hd] at hs
      cases hs
      refine ⟨rfl, fun F ρ a w h => ?_⟩
      obtain ⟨zv, hzr, hzc, hz1⟩ := zeroB_run hz
      obtain ⟨ρ', h1, h2, h3⟩ := newBox_run h t d (blt_lt hd) (relL_sc z hz1) (some t) (fun t' h => Option.some.inj h)
      refine ⟨_, _, F, ρ', .inl ?_, h1, h2, h3⟩
      simp [execOp, Instr.alloc, hzr, newVar, newRow, hzc]
  · cases hs

theorem sBox_run {e : Eff} {o : Oper} {t : TypeId} {x : Operand} (ho : o.op = .box t x) (hs : sBox N st o.dst x = some e) : OpEff P N o st e := by
  obtain ⟨dst, op, ty, pos, after, guard⟩ := o
  dsimp only at ho hs
  subst ho
  unfold sBox at hs
  split at hs
  · rename_i d cs hc
    cases hd : Nat.blt d N with
    | false => rw [hd] at hs; cases hs
    | true =>
      rw [hd] at hs
      cases hs
      refine ⟨rfl, fun F ρ a w h => ?_⟩
      obtain ⟨ρ', h1, h2, h3⟩ := newBox_run h t d (blt_lt hd) (cellsOf_rel h.ob (ev_rel h x) hc) none (fun t' h => by cases h)
      refine ⟨_, _, F, ρ', .inl ?_, h1, h2, h3⟩
      simp [execOp, Instr.box, newVar, newRow]
  · cases hs

/-! ## a store -/

def sStore (P : Program) (st : ASt) (t : TypeId) (p x : Operand) : Option Eff :=
  match ev st.fr p, cellsOf st.ob (ev st.fr x), sizeB P t with
  | .cell (.ptr k off), some vs, some s => match lkO st.ob k with
    | .box cs ty => bif Nat.beq vs.length s && Nat.ble (off + vs.length) cs.length && vs.all (AC.okIn st.ob) then some (.upd k (.box (splice cs off vs) ty)) else none
    | _ => none
  | _, _, _ => none

theorem sStore_run {e : Eff} {o : Oper} {t : TypeId} {p x : Operand} (ho : o.op = .store t p x) (hd : o.dst = none) (hs : sStore P st t p x = some e) : OpEff P N o st e := by
  obtain ⟨dst, op, ty, pos, after, guard⟩ := o
  dsimp only at ho hd
  subst ho
  subst hd
  unfold sStore at hs
  split at hs
  · rename_i k off vs s he hc hz
    split at hs
    · rename_i cs oty hk
      cases hb : (Nat.beq vs.length s && Nat.ble (off + vs.length) cs.length && vs.all (AC.okIn st.ob)) with
      | false => rw [hb] at hs; cases hs
      | true =>
        rw [hb] at hs
        cases hs
        simp only [Bool.and_eq_true] at hb
        obtain ⟨⟨hb1, hb2⟩, hb3⟩ := hb
        have e1 := Nat.eq_of_beq_eq_true hb1
        have e2 := Nat.le_of_ble_eq_true hb2
        refine ⟨rfl, fun F ρ a w h => ?_⟩
        have hp := ev_rel h p
        rw [he] at hp
        have hv := cellsOf_rel h.ob (ev_rel h x) hc
        have hob := h.ob k
        rw [hk] at hob
        cases hob with
        | box cs oty b c ty' hoty hk' hbk hsz hh =>
          have ep : a.eval p = .pointer (some ⟨b, off, none⟩) := by
            generalize a.eval p = pv at hp
            cases hp with
            | cell c v hp => cases hp with
              | ptr k off v hp => exact hp b hk'
          have hone : ∀ u ∈ (a.eval x).cells.toList, u.oneCell' = true := by
            intro u hu
            obtain ⟨i, hi, rfl⟩ := List.getElem_of_mem hu
            have hi' : i < vs.length := by have := hv.1; simpa [this] using hi
            have := okIn_one h.ob (hv.2 i hi') (List.all_eq_true.1 hb3 _ (List.getElem_mem hi'))
            have e : (a.eval x).cells.getD i undef = (a.eval x).cells.toList[i] := by
              have hi2 : i < (a.eval x).cells.size := by simpa using hi
              simp [Array.getD_eq_getD_getElem?, hi2]
            rwa [e] at this
          have hfit : off + 0 + (a.eval x).cells.toList.length ≤ c.size := by have := hv.1; simp; omega
          have hrun := run_storeCells_at P b off ty' (a.eval x).cells.toList 0 c w hbk hfit hone
          simp only [Nat.add_zero] at hrun
          let new : Array Value := (c.toList.take off ++ (a.eval x).cells.toList ++ c.toList.drop (off + (a.eval x).cells.toList.length)).toArray
          have hnew : (w.setRow b new).heap[b]? = some (.cells new ty' (0, 0)) := setRow_heap w b c new ty' (0, 0) hbk
          have hlen : (a.eval x).cells.toList.length = vs.length := by have := hv.1; simpa using this
          have hget : ∀ i, new[i]? = if off ≤ i ∧ i < off + vs.length then (a.eval x).cells.toList[i - off]? else c[i]? := by
            intro i
            have := splice_get c.toList off (a.eval x).cells.toList (by simp at hfit ⊢; omega) i
            rw [← hlen]
            simpa [new, splice] using this
          have hF : ∀ b', F b' → (w.setRow b new).heap[b']? = w.heap[b']? := fun b' hb' => setRow_other w b b' new fun e => h.rw.dis b' hb' ⟨k, _, hk', by rw [e]; rfl⟩
          obtain ⟨h1, h2⟩ := h.setBox (w' := w.setRow b new) rfl rfl rfl (by simp [World.setRow]) k (.box (splice cs off vs) oty)
            (fun b' hb' => setRow_other w b b' new fun e => hb' _ hk' (by rw [e]; rfl))
            (by
              refine .box _ _ b new ty' hoty hk' hnew ?_ fun i hi => ?_
              · rw [splice_length _ _ _ e2, ← hsz]
                simp [new]; simp at hfit; omega
              · have hi' : i < cs.length := by rwa [splice_length _ _ _ e2] at hi
                have hs := splice_get cs off vs e2 i
                rw [List.getElem?_eq_getElem hi] at hs
                have hg := hget i
                by_cases hin : off ≤ i ∧ i < off + vs.length
                · rw [if_pos hin, List.getElem?_eq_getElem (by omega)] at hs
                  simp only [Option.some.injEq] at hs
                  rw [if_pos hin] at hg
                  have hvj : i - off < (a.eval x).cells.size := by have := hv.1; omega
                  have e3 : (a.eval x).cells.toList[i - off]? = some ((a.eval x).cells.getD (i - off) undef) := by
                    simp [Array.getD_eq_getD_getElem?, hvj]
                  rw [e3] at hg
                  rw [getD_eq_of_get? hg, hs]
                  exact (hv.2 (i - off) (by omega)).mono hF (fun _ h => h) fun _ _ h => h
                · rw [if_neg hin, List.getElem?_eq_getElem hi'] at hs
                  simp only [Option.some.injEq] at hs
                  rw [if_neg hin] at hg
                  have hci : i < c.size := by omega
                  rw [Array.getElem?_eq_getElem hci] at hg
                  rw [getD_eq_of_get? hg, hs]
                  have e4 : c.getD i undef = c[i] := by simp [Array.getD_eq_getD_getElem?, hci]
                  rw [← e4]
                  exact (hh i hi').mono hF (fun _ h => h) fun _ _ h => h)
          refine ⟨undef, _, F, ρ, .inr ⟨?_, rfl⟩, h1, h2, ⟨fun _ _ => rfl, fun b' hb' hn => setRow_other w b b' new fun e => hn k _ rfl hk' (by rw [e]; rfl)⟩⟩
          have hsize : (a.eval x).cells.size = s := by have := hv.1; omega
          simp only [execOp, Instr.storeAt, ep, Instr.sureAddr, storeVar, Sem.run_bind, Sem.run_pure, Result.andThen_ok, run_sizeOf hz, hsize, ne_eq, not_true_eq_false, if_false, hrun]
          rfl
    · cases hs
  · cases hs

/-! ## a slice written out -/

def reps (z : List Value) (n : Nat) : List Value := (List.range n).map fun i => z.getD (i % z.length) undef

def sSlice (P : Program) (N : Nat) (st : ASt) (d : Option Tmp) (t : TypeId) (len : Nat) (parts : Array (Nat × Operand)) : Option Eff :=
  match d, P.underlying t with
  | some d, some (.slice e) => match sizeB P e, zeroB P e with
    | some s, some z =>
      bif Nat.blt d N && Nat.ble (len * s) 16777216 && Nat.blt 0 s && Nat.beq z.length s then
        match afill st.ob (fun i => some (i * s, s)) ((reps z (len * s)).map fun v => .d (.sc v)) (parts.toList.map fun p => (p.1, ev st.fr p.2)) with
        | some cs => match allD cs with
          | some ds => bif Nat.beq ds.length (len * s) then some (.new d (.arr e s len ds) d (.cell (.own d))) else none
          | none => none
        | none => none
      else none
    | _, _ => none
  | _, _ => none

theorem sSlice_run {eff : Eff} {o : Oper} {t : TypeId} {len : Nat} {parts : Array (Nat × Operand)} (ho : o.op = .buildSlice t len parts) (hs : sSlice P N st o.dst t len parts = some eff) : OpEff P N o st eff := by
  obtain ⟨dst, op, ty, pos, after, guard⟩ := o
  dsimp only at ho hs
  subst ho
  unfold sSlice at hs
  split at hs
  · rename_i d e hu
    split at hs
    · rename_i s z hz hzz
      cases hb : (Nat.blt d N && Nat.ble (len * s) 16777216 && Nat.blt 0 s && Nat.beq z.length s) with
      | false => rw [hb] at hs; cases hs
      | true =>
        rw [hb, cond_true] at hs
        simp only [Bool.and_eq_true] at hb
        obtain ⟨⟨⟨hb1, hb2⟩, hb3⟩, hb4⟩ := hb
        have hdN := blt_lt hb1
        have hle := Nat.le_of_ble_eq_true hb2
        have hs0 := blt_lt hb3
        have hzl := Nat.eq_of_beq_eq_true hb4
        obtain ⟨zv, hzr, hzc, hz1⟩ := zeroB_run hzz
        split at hs
        · rename_i cs hf
          split at hs
          · rename_i ds had
            cases hbl : Nat.beq ds.length (len * s) with
            | false => rw [hbl] at hs; cases hs
            | true =>
            rw [hbl] at hs
            cases hs
            have hdl := Nat.eq_of_beq_eq_true hbl
            refine ⟨rfl, fun F ρ a w h => ?_⟩
            have hq := parts_rel h parts.toList
            have hp : (parts.map fun (i, x) => (i, a.eval x)).toList = parts.toList.map fun p => (p.1, a.eval p.2) := by simp
            have hr1 : ∀ v ∈ reps z (len * s), v.oneCell' = true := by
              intro v hv
              simp only [reps, List.mem_map, List.mem_range] at hv
              obtain ⟨i, hi, rfl⟩ := hv
              have : i % z.length < z.length := Nat.mod_lt _ (by omega)
              rw [List.getD_eq_getElem?_getD, List.getElem?_eq_getElem this]
              exact hz1 _ (List.getElem_mem this)
            obtain ⟨arr, hfr, hrel⟩ := afill_run (tm := a.tmps) h.ob _ _ _ _ _ (reps z (len * s)).toArray hq.1 hq.2 (relL_sc _ hr1) hf
            have ecs := allD_eq had
            subst ecs
            have hal : arr.size = ds.length := by simpa using hrel.1
            have hrun : (Instr.buildSlice t len (parts.map fun (i, x) => (i, a.eval x))).run P w = .ok (.slice (some ⟨w.heap.size, 0, none⟩) len len) (w.alloc (.cells arr e)) := by
              unfold Instr.buildSlice
              simp only [Sem.run_bind, run_underlying hu, Result.andThen_ok, run_sizeOf hz, hp]
              rw [if_neg (by omega)]
              by_cases h0 : len * s = 0
              · have harr : ((Array.range (len * s)).map fun x => (#[] : Array Value)[x % (#[] : Array Value).size]!) = (reps z (len * s)).toArray := by simp [h0, reps]
                rw [if_pos h0]
                simp only [Sem.run_bind, Sem.run_pure, Result.andThen_ok]
                rw [harr, hfr]
                rfl
              · have harr : ((Array.range (len * s)).map fun x => zv.cells[x % zv.cells.size]!) = (reps z (len * s)).toArray := by
                  apply Array.ext'
                  simp only [Array.toList_map, Array.toList_range, reps, hzc]
                  apply List.map_congr_left
                  intro i _
                  have hm : i % z.length < z.length := Nat.mod_lt _ (by omega)
                  simp [hm]
                rw [if_neg h0]
                simp only [Sem.run_bind, hzr, Sem.run_pure, Result.andThen_ok]
                rw [harr, hfr]
                rfl
            have hF : ∀ b, F b → (w.alloc (.cells arr e)).heap[b]? = w.heap[b]? := fun b hb => Go.RowKit.Below.heap_alloc w _ b (h.rw.lt b hb)
            have hlm : len ≤ maxLen := by
              have : len ≤ len * s := Nat.le_mul_of_pos_right len hs0
              unfold maxLen; omega
            obtain ⟨h1, h2⟩ := h.setOb (w' := w.alloc (.cells arr e)) rfl rfl rfl (by simp) d (.arr (.slice (some ⟨w.heap.size, 0, none⟩) len len)) (.arr e s len ds)
              (fun b hb _ => Go.RowKit.Below.heap_alloc w _ b hb) (fun b hb => by cases hb; exact ⟨by simp, .inl (Nat.le_refl _)⟩)
              (by
                refine .arr e s len ds _ arr.toList (Env.set_same _ _ _) ⟨by simp; omega, .inr ⟨w.heap.size, len, arr, rfl, Nat.zero_le _, heap_alloc_new w _, Nat.le_refl _, hlm, by omega, ?_⟩⟩ (by simpa using hal) fun i hi => ?_
                · exact List.take_of_length_le (by simp; omega)
                · have := hrel.2 i (by simpa using hi)
                  simp only [List.getElem_map] at this
                  have hi2 : i < arr.size := by omega
                  have e5 : arr.toList.getD i undef = arr.getD i undef := by simp [Array.getD_eq_getD_getElem?, hi2]
                  rw [e5]
                  cases this with
                  | d x v hx => exact hx.mono hF fun _ h => h) (fun hk => absurd (Nat.lt_of_lt_of_le hdN h.df.2) (by omega))
            refine ⟨.slice (some ⟨w.heap.size, 0, none⟩) len len, _, F, _, .inl ?_, h1.put d hdN (.cell _ _ (.own _ _ fun u hu' => ?_)), h2, ⟨fun j hj => Env.set_other _ _ _ fun e => hj (by rw [e]; rfl), fun b hb _ => Go.RowKit.Below.heap_alloc w _ b hb⟩⟩
            · simp only [execOp, Sem.run_bind, hrun, Result.andThen_ok]
              rfl
            · rw [Env.set_same] at hu'
              cases hu'
              rfl
          · cases hs
        · cases hs
    · cases hs
  · cases hs

end
end Esp

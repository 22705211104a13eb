/- EV: rows that are one's own are lent to a call that answers with scalars. -/
import Derived.Test.YtjecnkdkhniflaaDoorEvN
namespace Esp
open Go
set_option linter.unusedSimpArgs false
set_option linter.unusedVariables false
variable [Tabs]
def AC.bor (ob : List (Nat × AObj)) : Nat → AC → AC
  | _, .own k => match lkO ob k with
    | .na _ τ xs => .d (.nl τ xs)
    | _ => .own k
  | _, .mpr k => match lkO ob k with
    | .mp _ kt vt l _ => .d (.nm kt vt l)
    | _ => .mpr k
  | n + 1, .ptr k off => match lkO ob k with
    | .box cs _ => match allD (cs.map (AC.bor ob n)) with
      | some ds => .d (.rp (ds.drop off))
      | none => .ptr k off
    | _ => .ptr k off
  | _, c => c
def AV.bor (ob : List (Nat × AObj)) : AV → AV
  | .cell c => .cell (c.bor ob 3)
  | .agg cs => match allD (cs.map (AC.bor ob 3)) with
    | some ds => .aggD ds
    | none => .agg cs
  | x => x
def borL (ob : List (Nat × AObj)) (l : List AV) : List AV := l.map (AV.bor ob)
def scal1 : AV → Bool
  | .cell (.d (.sc _)) => true
  | .cell (.d (.rp [])) => true
  | _ => false
def weakP : AV → AV
  | .cell (.d (.rp _)) => .cell (.d (.rp []))
  | x => x
def AV.scal : AV → Bool
  | .tup vs => vs.all scal1
  | x => scal1 x
omit [Tabs] in
theorem scal1_rel {w w' : World} {F F' : Nat → Prop} {ρ ρ' : Env} {tm tm' : Array Value} {x : AV} {v : Value} (hx : scal1 x = true) (h : RelAV w F ρ tm x v) : RelAV w' F' ρ' tm' x v := by
  unfold scal1 at hx
  split at hx
  · rename_i u
    have h1 := cell_inv h
    generalize hy : D.sc u = y at h1
    cases h1 with
    | sc v hv => cases hy; exact .cell _ _ (.d _ _ (.sc _ hv))
    | _ => cases hy
  · have h1 := cell_inv h
    generalize hy : D.rp [] = y at h1
    cases h1 with
    | rp cs b off c hF hc hr => cases hy; exact .cell _ _ (.d _ _ (.rp [] b off c (fun h => absurd rfl h) (fun i hi => by simp at hi) fun i hi => by simp at hi))
    | _ => cases hy
  · cases hx
omit [Tabs] in
theorem scal_rel {w w' : World} {F F' : Nat → Prop} {ρ ρ' : Env} {tm tm' : Array Value} {x : AV} {v : Value} (hx : x.scal = true) (h : RelAV w F ρ tm x v) : RelAV w' F' ρ' tm' x v := by
  unfold AV.scal at hx
  split at hx
  · cases h with
    | tup vs arr hs hh => exact .tup _ arr hs fun i hi => scal1_rel (List.all_eq_true.1 hx _ (List.getElem_mem hi)) (hh i hi)
  · exact scal1_rel hx h
omit [Tabs] in
theorem weakP_rel {w : World} {F : Nat → Prop} {ρ : Env} {tm : Array Value} {x : AV} {v : Value} (h : RelAV w F ρ tm x v) : RelAV w F ρ tm (weakP x) v := by
  unfold weakP
  split
  · rename_i cs
    have h1 := cell_inv h
    generalize hy : D.rp cs = y at h1
    cases h1 with
    | rp cs b off c hF hc hr => exact .cell _ _ (.d _ _ (.rp [] b off c (fun h => absurd rfl h) (fun i hi => by simp at hi) fun i hi => by simp at hi))
    | _ => cases hy
  · exact h
section
variable {P : Program} {N : Nat} {ops : Array Oper} {st : ASt}
omit [Tabs] in
theorem bor_ac {F : Nat → Prop} {ρ : Env} {w : World} {ob : List (Nat × AObj)} (hob : ∀ k, RelOb w F ρ k (lkO ob k)) : ∀ (n : Nat) {c : AC} {v : Value}, RelAC w F ρ c v → RelAC w (fun b => F b ∨ live ρ b) ρ (c.bor ob n) v := by
  have own : ∀ (n k : Nat) (v : Value), RelAC w F ρ (.own k) v → RelAC w (fun b => F b ∨ live ρ b) ρ (AC.bor ob n (.own k)) v := by
    intro n k v h
    have hm : RelAC w (fun b => F b ∨ live ρ b) ρ (.own k) v := h.mono (fun _ _ => rfl) (fun b hb => .inl hb) fun _ _ h => h
    cases n <;>
    · simp only [AC.bor]
      split
      · rename_i te τ xs hk
        have ho := hob k
        rw [hk] at ho
        cases ho with
        | na _ _ _ ho =>
          generalize hn : xs.length = n at ho
          generalize hcs : flat τ xs = cs at ho
          cases ho with
          | arr t e n cs u ys hu ho hz hh =>
            have hv : v = u := by
              cases h with
              | own k v h => exact h u hu
            subst hv
            subst hn
            subst hcs
            exact .d _ _ (.nl _ _ _ (ownsRow_relD ho hz hh (fun b hb => .inl hb) fun b hb => .inr ⟨k, _, hu, hb⟩))
      · exact hm
  have mpr : ∀ (n k : Nat) (v : Value), RelAC w F ρ (.mpr k) v → RelAC w (fun b => F b ∨ live ρ b) ρ (AC.bor ob n (.mpr k)) v := by
    intro n k v h
    have hm : RelAC w (fun b => F b ∨ live ρ b) ρ (.mpr k) v := h.mono (fun _ _ => rfl) (fun b hb => .inl hb) fun _ _ h => h
    cases n <;>
    · simp only [AC.bor]
      split
      · rename_i te kt vt l dn hk
        have ho := hob k
        rw [hk] at ho
        cases ho with
        | mp _ _ _ _ b es clock hkk hb hs hh _ hdd =>
          have hv : v = .map (some b) := by
            cases h with
            | mpr k v h => exact h b hkk
          subst hv
          exact .d _ _ (mp_relD (.inr ⟨k, _, hkk, rfl⟩) hb hs (fun i h1 h2 => ⟨(hh i h1 h2).1.mono (fun _ _ => rfl) fun b hb => .inl hb, (hh i h1 h2).2.mono (fun _ _ => rfl) fun b hb => .inl hb⟩) hdd.2)
      · exact hm
  intro n
  induction n with
  | zero =>
    intro c v h
    have hm : RelAC w (fun b => F b ∨ live ρ b) ρ c v := h.mono (fun _ _ => rfl) (fun b hb => .inl hb) fun _ _ h => h
    cases c with
    | own k => exact own 0 k v h
    | mpr k => exact mpr 0 k v h
    | _ => exact hm
  | succ n ih =>
    intro c v h
    have hm : RelAC w (fun b => F b ∨ live ρ b) ρ c v := h.mono (fun _ _ => rfl) (fun b hb => .inl hb) fun _ _ h => h
    cases c with
    | own k => exact own (n + 1) k v h
    | mpr k => exact mpr (n + 1) k v h
    | ptr k off =>
      simp only [AC.bor]
      split
      · rename_i cs ty hk
        split
        · rename_i ds hds
          have e := allD_eq hds
          have ho := hob k
          rw [hk] at ho
          cases ho with
          | box _ _ b c t hoty hkk hb hs hh =>
            have hv : v = .pointer (some ⟨b, off, none⟩) := by
              cases h with
              | ptr k off v h => exact h b hkk
            subst hv
            have hl : cs.length = ds.length := by have := congrArg List.length e; simpa using this
            refine .d _ _ (.rp _ b off (fun i => c.getD (off + i) undef) (fun _ => .inr ⟨k, _, hkk, rfl⟩) (fun i hi => ?_) fun i hi => ?_)
            · have hi' : off + i < c.size := by rw [List.length_drop] at hi; omega
              simp [World.cell?, hb, hi', Array.getD_eq_getD_getElem?]
            · have hi' : off + i < cs.length := by rw [List.length_drop] at hi; omega
              have h1 := ih (hh (off + i) hi')
              have h2 : AC.bor ob n cs[off + i] = .d (ds[off + i]'(by omega)) := by
                have h3 : (cs.map (AC.bor ob n))[off + i]? = (ds.map AC.d)[off + i]? := by rw [e]
                rw [List.getElem?_map, List.getElem?_map, List.getElem?_eq_getElem hi', List.getElem?_eq_getElem (show off + i < ds.length by omega)] at h3
                simpa using h3
              rw [h2] at h1
              rw [List.getElem_drop]
              cases h1 with
              | d x v h => exact h
        · exact hm
      · exact hm
    | _ => exact hm
omit [Tabs] in
theorem bor_rel {F : Nat → Prop} {ρ : Env} {w : World} {tm : Array Value} {ob : List (Nat × AObj)} (hob : ∀ k, RelOb w F ρ k (lkO ob k)) {x : AV} {v : Value} (h : RelAV w F ρ tm x v) : RelAV w (fun b => F b ∨ live ρ b) ρ tm (x.bor ob) v := by
  have hm : RelAV w (fun b => F b ∨ live ρ b) ρ tm x v := h.mono (fun _ _ => rfl) (fun b hb => .inl hb) fun _ _ h => h
  unfold AV.bor
  split
  · cases h with
    | cell c v h => exact .cell _ _ (bor_ac hob 3 h)
  · rename_i cs
    split
    · rename_i ds hd
      have e := allD_eq hd
      cases h with
      | agg cs arr hs hh =>
        have hl : cs.length = ds.length := by have := congrArg List.length e; simpa using this
        refine .aggD _ arr (hs.trans hl) fun i hi => ?_
        have h1 := bor_ac hob 3 (hh i (by omega))
        have h2 : (cs[i]'(by omega)).bor ob 3 = .d ds[i] := by
          have h3 : (cs.map (AC.bor ob 3))[i]? = (ds.map AC.d)[i]? := by rw [e]
          rw [List.getElem?_map, List.getElem?_map, List.getElem?_eq_getElem (show i < cs.length by omega), List.getElem?_eq_getElem hi] at h3
          simpa using h3
        rw [h2] at h1
        cases h1 with
        | d x v h => exact h
    · exact hm
  · exact hm
theorem IEff.borrow {i d : Nat} {c : Call} {ty : TypeId} {pos : String} {after : Array Edge} {guard : Option (Nat × Bool)} {f : FuncId} {args : List AV} {x : AV} {o2 : List (Nat × AObj)}
    (ho : opK ops st.fr i = some ⟨some d, .call c, ty, pos, after, guard⟩) (hc : calleeV st.fr c = some (f, args)) (hf : enterOk P f = true) (hz : AV.frozenL (borL st.ob args) = true) (hd : Nat.blt d N = true)
    (spec : ACalls P f (borL st.ob args) [] (fun r o => r = .ret x ∧ o = o2)) (hx : (weakP x).scal = true) : IEff P N ops i st (.put d (weakP x)) := by
  intro F ρ a w hr K R kk
  obtain ⟨e, hw⟩ := opK_wanted hr ho
  obtain ⟨vs, hrun, hsz, hrel⟩ := calleeV_run hr hc hf ty
  simp only [wpOp, e]
  rw [if_pos hw]
  left
  have hrun' : (execOp a.eval ⟨some d, .call c, ty, pos, after, guard⟩).run P w = .ok (.enter f vs) w := hrun
  simp only [Oper.wp, Oper.upon, hrun']
  have h0 : RelW (fun b => F b ∨ live ρ b) (fun _ => none) w := ⟨(fun b _ ⟨k, l, hk, _⟩ => by cases hk), (fun b hb => hb.elim (hr.rw.lt b) fun ⟨k, l, hk, hl⟩ => (hr.ob k).lt hk hl), (fun k k' l l' b hk => by cases hk), fun b o hb => ⟨.inl (hr.rw.tab b o hb).1, (hr.rw.tab b o hb).2⟩⟩
  refine (spec _ (fun _ => none) vs w h0 (fun k => .gone rfl) ⟨by rw [hsz]; simp [borL], fun j hj => ?_⟩).mono fun en w' ⟨F', ρ', r, ob', ⟨hq, _⟩, hre, hrw, hrob, hfr⟩ => ?_
  · have hj' : j < args.length := by simpa [borL] using hj
    have h1 := bor_rel hr.ob (hrel j hj')
    have h2 : (borL st.ob args)[j] = (args[j]).bor st.ob := by simp [borL]
    have h3 := AV.frozenL_get hz j hj
    rw [h2] at h3 ⊢
    exact h1.frozen_any h3
  subst hq
  have hnl : ∀ b, ¬ live (fun _ => none) b := fun b ⟨k, l, hk, _⟩ => by cases hk
  cases en with
  | returned v =>
    have hv : RelAV w' F' ρ' #[] x v := hre
    have hkeep : ∀ b, b < w.heap.size → w'.heap[b]? = w.heap[b]? := fun b hb => hfr.keep b hb (hnl b)
    have hrel' : Rel N F ρ st a w' := by
      refine ⟨⟨hr.rw.dis, fun b hb => Nat.lt_of_lt_of_le (hr.rw.lt b hb) hfr.size, hr.rw.inj, hr.rw.tab_of (fun b hb => hkeep b (hr.rw.lt b hb)) fun _ h => h⟩, fun j => (hr.fr j).mono (fun b hb => hkeep b (hr.rw.lt b hb)) (fun _ h => h) fun _ _ h => h,
        fun j => (hr.ob j).through (fun b hb => hkeep b (hr.rw.lt b hb)) (fun _ h => h) fun l b hl hb => hkeep b ((hr.ob j).lt hl hb), hr.sz, hr.df⟩
    have hfr' : Fr F ρ w F ρ w' := ⟨hfr.os, hfr.tape, hfr.output, hfr.size, fun _ h => h, fun b hb _ => hkeep b hb, fun _ _ h => h, fun _ _ => Stab.refl _ _⟩
    exact kk v w' F ρ (hrel'.put d (blt_lt hd) (scal_rel hx (weakP_rel hv))) hfr' (.none hkeep)
  | panicked chain => exact hre.elim
  | outgrown => exact hre.elim
def onlyMaps (l : List AV) : Bool := l.all fun a => match a with
  | .cell (.mpr _) => true
  | .cell (.d _) => true
  | .aggD _ => true
  | _ => false
def flatT : Ev.Ty → Bool
  | .i64 => true | .u8 => true | .u32 => true | .u64 => true | .i32 => true | .bool => true | .str => true | .pair => true
  | _ => false
def flatR : AV → Bool
  | .cell (.d (.nl τ _)) => flatT τ
  | _ => false
def okBor (cargs : List AV) (x : AV) : Option AV := bif (weakP x).scal then some (weakP x) else bif onlyMaps cargs && flatR x then some x else none
omit [Tabs] in
theorem flatT_cells {τ : Ev.Ty} (h : flatT τ = true) (x : τ.den) : ∀ c ∈ cells τ x, ∃ v, c = .sc v := by
  cases τ <;> first | (cases h; done) | (intro c hc; simp only [cells, cells0, List.mem_cons, List.not_mem_nil, or_false] at hc; first | (obtain rfl := hc; exact ⟨_, rfl⟩) | (rcases hc with rfl | rfl <;> exact ⟨_, rfl⟩))
omit [Tabs] in
theorem flatT_flat {τ : Ev.Ty} (h : flatT τ = true) (l : List τ.den) : ∀ c ∈ flat τ l, ∃ v, c = .sc v := by
  intro c hc
  unfold flat at hc
  obtain ⟨x, _, hx⟩ := List.mem_flatMap.1 hc
  exact flatT_cells h x c hx
omit [Tabs] in
theorem flatT_pos {τ : Ev.Ty} (h : flatT τ = true) : 0 < τ.sz := by
  cases τ <;> first | (cases h; done) | decide
def plusMaps (F : Nat → Prop) (ρ : Env) (w : World) (b : Nat) : Prop := F b ∨ ∃ k es clock, ρ k = some (.box b) ∧ w.heap[b]? = some (.map es clock)
omit [Tabs] in
theorem borM_rel {F : Nat → Prop} {ρ : Env} {w : World} {tm : Array Value} {ob : List (Nat × AObj)} (hob : ∀ k, RelOb w F ρ k (lkO ob k)) {args : List AV} (hm : onlyMaps args = true) {j : Nat} (hj : j < args.length) {v : Value} (h : RelAV w F ρ tm args[j] v) :
    RelAV w (plusMaps F ρ w) ρ tm (args[j].bor ob) v := by
  have h0 := List.all_eq_true.1 hm _ (List.getElem_mem hj)
  have hmono : ∀ {x : AV}, RelAV w F ρ tm x v → RelAV w (plusMaps F ρ w) ρ tm x v := fun h => h.mono (fun _ _ => rfl) (fun b hb => .inl hb) fun _ _ h => h
  generalize args[j] = a at h h0 ⊢
  split at h0
  · rename_i k
    show RelAV _ _ _ _ (.cell (AC.bor ob 3 (.mpr k))) v
    simp only [AC.bor]
    split
    · rename_i te kt vt l dn hk
      have ho := hob k
      rw [hk] at ho
      cases ho with
      | mp _ _ _ _ b es clock hkk hb hs hh _ hdd =>
        cases h with
        | cell c v h => cases h with
          | mpr k v h =>
            rw [h b hkk]
            exact .cell _ _ (.d _ _ (mp_relD (.inr ⟨k, es, clock, hkk, hb⟩) hb hs (fun i h1 h2 => ⟨(hh i h1 h2).1.mono (fun _ _ => rfl) fun b hb => .inl hb, (hh i h1 h2).2.mono (fun _ _ => rfl) fun b hb => .inl hb⟩) hdd.2))
    · exact hmono h
  · rename_i x
    have e : ∀ n, AC.bor ob n (.d x) = .d x := fun n => by cases n <;> rfl
    show RelAV _ _ _ _ (.cell (AC.bor ob 3 (.d x))) v
    rw [e]
    exact hmono h
  · exact hmono h
  · cases h0
omit [Tabs] in
theorem flatR_keep {w' : World} {F' G : Nat → Prop} {ρ ρ' : Env} {tm tm' : Array Value} {x : AV} {v : Value} (hx : flatR x = true) (hv : RelAV w' F' ρ' tm x v) (hG : ∀ b, F' b → (∃ c t z, w'.heap[b]? = some (.cells c t z)) → G b) : RelAV w' G ρ tm' x v := by
  unfold flatR at hx
  split at hx
  · rename_i τ l
    have hv := cell_inv hv
    refine .cell _ _ (.d _ _ ?_)
    generalize hq : D.nl τ l = q at hv
    cases hv with
    | nl τ' l' v' hs =>
      cases hq
      refine .nl _ _ _ ?_
      have hflat := flatT_flat hx l
      have hlen := flat_length τ l
      have hpos := flatT_pos hx
      generalize flat τ l = fl at hs hflat hlen
      generalize l.length = ln at hs hlen
      generalize τ.sz = z at hs hlen hpos
      cases hs with
      | nil e a cap => exact .nil _ _ _
      | sl e n cs b off cap c hF hl hcap hc hr2 =>
        by_cases h0 : ln = 0
        · subst h0
          obtain rfl : fl = [] := List.eq_nil_of_length_eq_zero (by omega)
          exact .nil _ _ _
        · have hfl : 0 < fl.length := by rw [hlen]; exact Nat.mul_pos (by omega) hpos
          refine .sl _ _ _ b off cap c (hG b hF ?_) hl hcap hc fun i hi => ?_
          · have h2 := hc 0 hfl
            unfold World.cell? at h2
            split at h2
            · rename_i cc t z' hh
              exact ⟨_, _, _, hh⟩
            all_goals cases h2
          · obtain ⟨u, hu⟩ := hflat _ (List.getElem_mem hi)
            have h4 := hr2 i hi
            rw [hu] at h4 ⊢
            cases h4 with
            | sc _ h => exact .sc _ h
    | _ => cases hq
  · cases hx
theorem IEff.borrowM {i d : Nat} {c : Call} {ty : TypeId} {pos : String} {after : Array Edge} {guard : Option (Nat × Bool)} {f : FuncId} {args : List AV} {x : AV} {o2 : List (Nat × AObj)}
    (ho : opK ops st.fr i = some ⟨some d, .call c, ty, pos, after, guard⟩) (hc : calleeV st.fr c = some (f, args)) (hf : enterOk P f = true) (hz : AV.frozenL (borL st.ob args) = true) (hd : Nat.blt d N = true)
    (spec : ACalls P f (borL st.ob args) [] (fun r o => r = .ret x ∧ o = o2)) (hm : onlyMaps args = true) (hx : flatR x = true) : IEff P N ops i st (.put d x) := by
  intro F ρ a w hr K R kk
  obtain ⟨e, hw⟩ := opK_wanted hr ho
  obtain ⟨vs, hrun, hsz, hrel⟩ := calleeV_run hr hc hf ty
  simp only [wpOp, e]
  rw [if_pos hw]
  left
  have hrun' : (execOp a.eval ⟨some d, .call c, ty, pos, after, guard⟩).run P w = .ok (.enter f vs) w := hrun
  simp only [Oper.wp, Oper.upon, hrun']
  have hlt0 : ∀ b, plusMaps F ρ w b → b < w.heap.size := fun b hb => hb.elim (hr.rw.lt b) fun ⟨k, es, cl, _, h⟩ => (Array.getElem?_eq_some_iff.1 h).1
  have h0 : RelW (plusMaps F ρ w) (fun _ => none) w := ⟨(fun b _ ⟨k, l, hk, _⟩ => by cases hk), hlt0, (fun k k' l l' b hk => by cases hk), fun b o hb => ⟨.inl (hr.rw.tab b o hb).1, (hr.rw.tab b o hb).2⟩⟩
  refine (spec _ (fun _ => none) vs w h0 (fun k => .gone rfl) ⟨by rw [hsz]; simp [borL], fun j hj => ?_⟩).mono fun en w' ⟨F', ρ', r, ob', ⟨hq, _⟩, hre, hrw, hrob, hfr⟩ => ?_
  · have hj' : j < args.length := by simpa [borL] using hj
    have h1 := borM_rel hr.ob hm hj' (hrel j hj')
    have h2 : (borL st.ob args)[j] = (args[j]).bor st.ob := by simp [borL]
    have h3 := AV.frozenL_get hz j hj
    rw [h2] at h3 ⊢
    exact h1.frozen_any h3
  subst hq
  have hnl : ∀ b, ¬ live (fun _ => none) b := fun b ⟨k, l, hk, _⟩ => by cases hk
  cases en with
  | returned v =>
    have hv : RelAV w' F' ρ' #[] x v := hre
    have hkeep : ∀ b, b < w.heap.size → w'.heap[b]? = w.heap[b]? := fun b hb => hfr.keep b hb (hnl b)
    let G : Nat → Prop := fun b => F b ∨ (w.heap.size ≤ b ∧ F' b)
    have hrel' : Rel N G ρ st a w' := by
      refine ⟨⟨fun b hb hl => ?_, fun b hb => ?_, hr.rw.inj, hr.rw.tab_of (fun b hb => hkeep b (hr.rw.lt b hb)) fun _ h => .inl h⟩, fun j => (hr.fr j).mono (fun b hb => hkeep b (hr.rw.lt b hb)) (fun _ h => .inl h) fun _ _ h => h,
        fun j => (hr.ob j).through (fun b hb => hkeep b (hr.rw.lt b hb)) (fun _ h => .inl h) fun l b hl hb => hkeep b ((hr.ob j).lt hl hb), hr.sz, hr.df⟩
      · rcases hb with hb | ⟨hb, _⟩
        · exact hr.rw.dis b hb hl
        · obtain ⟨k, l, hk, hbl⟩ := hl
          have := (hr.ob k).lt hk hbl
          omega
      · rcases hb with hb | ⟨_, hb⟩
        · exact Nat.lt_of_lt_of_le (hr.rw.lt b hb) hfr.size
        · exact hrw.lt b hb
    have hfr' : Fr F ρ w G ρ w' := ⟨hfr.os, hfr.tape, hfr.output, hfr.size, fun _ h => .inl h, fun b hb _ => hkeep b hb, fun b hb h => by
      rcases h with (h | ⟨h, _⟩) | h
      · exact .inl h
      · omega
      · exact .inr h, fun _ _ => Stab.refl _ _⟩
    have hres : RelAV w' G ρ #[] x v := flatR_keep hx hv fun b hF ⟨c, t, z, hcell⟩ => by
      rcases Nat.lt_or_ge b w.heap.size with hlt | hge
      · rcases hfr.old b hlt (.inl hF) with h1 | h1
        · rcases h1 with h1 | ⟨k, es, cl, _, h1⟩
          · exact .inl h1
          · rw [hkeep b hlt, h1] at hcell
            cases hcell
        · exact absurd h1 (hnl b)
      · exact .inr ⟨hge, hF⟩
    exact kk v w' G ρ (hrel'.put d (blt_lt hd) (hres.retm (by unfold flatR at hx; split at hx <;> first | rfl | cases hx))) hfr' (.none hkeep)
  | panicked chain => exact hre.elim
  | outgrown => exact hre.elim
end
end Esp

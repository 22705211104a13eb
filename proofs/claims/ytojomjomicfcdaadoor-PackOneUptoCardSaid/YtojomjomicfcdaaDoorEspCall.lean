/- ESP, part 8: append; freezing; calls. -/
import Derived.Test.YtojomjomicfcdaaDoorEspRisk
namespace Esp
open Go
set_option linter.unusedSimpArgs false
set_option linter.unusedVariables false
variable [Tabs]

omit [Tabs] in
theorem run_append_own_src {P : Program} {w : World} (t tx ty e : TypeId) (i : TypeInfo) (z : Value) (ht : P.underlying t = some (.slice e)) (hi : P.info? e = some i) (hz : i.zero = some z)
    (hzs : z.cells.size = i.size) (v : Value) (n : Nat) (xs : List Value) (hown : w.ownsRow 0 e i.size v n xs)
    (x : Value) (m : Nat) (news : List Value) (hs : Src P i.size tx x m news w) (h63 : n + m ≤ maxLen) (hbytes : (n + m) * i.bytes ≤ 140737488355328) :
    ∃ v' w', (Builtin.append_ #[t, tx] ty #[v, x]).run P w = .ok v' w' ∧ w'.ownsRow 0 e i.size v' (n + m) (xs ++ news) ∧ w.grownBy w' v.ownBlock ∧
      (∀ b, v'.ownBlock = some b → b < w'.heap.size ∧ (w.heap.size ≤ b ∨ v.ownBlock = some b)) := by
  have hsmall : n + m ≤ 9223372036854775807 := by simp only [maxLen] at h63; omega
  have hlen : (xs ++ news).length = (n + m) * i.size := by rw [List.length_append, hown.1, hs.newsLen, Nat.add_mul]
  have grown : ∀ (old : Nat), old < n + m → ∀ (row : Option Nat),
      (w.drew.alloc (.cells ((xs ++ news).toArray ++ Builtin.zeroCells z.cells (grownCap w (n + m) old e - (n + m))) e)).ownsRow 0 e i.size
        (.slice (some ⟨w.heap.size, 0, none⟩) (n + m) (grownCap w (n + m) old e)) (n + m) (xs ++ news) ∧
      w.grownBy (w.drew.alloc (.cells ((xs ++ news).toArray ++ Builtin.zeroCells z.cells (grownCap w (n + m) old e - (n + m))) e)) row := by
    intro old ho row
    have hge := grownCap_ge w (n + m) old e
    have hcm : grownCap w (n + m) old e ≤ maxLen := grownCap_le_maxLen w (n + m) old e h63
    refine ⟨⟨hlen, .inr ⟨w.heap.size, _, _, rfl, Nat.zero_le _, heap_alloc_new w.drew _, hge, hcm, ?_, ?_⟩⟩, ⟨rfl, rfl, rfl, by simp, fun k hk _ => heap_alloc_old w.drew _ k hk⟩⟩
    · simp only [Array.size_append, List.size_toArray, size_zeroCells, hzs, hlen, ← Nat.add_mul]
      congr 1
      omega
    · simp only [Array.toList_append]
      rw [← hlen]
      exact List.take_left
  rcases hown.2 with ⟨rfl, rfl⟩ | ⟨g, cap, cur, rfl, hbg, hg, hnc, hcm, hcs, htake⟩
  · have hx : xs = [] := List.eq_nil_of_length_eq_zero (by simpa using hown.1)
    subst hx
    by_cases hm : m = 0
    · subst hm
      have hn : news = [] := List.eq_nil_of_length_eq_zero (by simpa using hs.newsLen)
      subst hn
      refine ⟨.slice none 0 0, w, ?_, World.ownsRow_nil w 0 e i.size, ⟨rfl, rfl, rfl, Nat.le_refl _, fun _ _ _ => rfl⟩, fun b hb => by cases hb⟩
      rcases hs.kind with ⟨e', hk⟩ | hk <;> simp [Builtin.append_, run_underlying ht, run_underlying hk, Go.sizeOf, typeInfo, hi, hs.len, hs.cells]
    · have hold : (Builtin.firstCells i.size 0 (.slice none 0 0)).run P w.drew = .ok ([] : List Value).toArray w.drew := run_firstCells_none w.drew i.size 0 0 0
      have hr := run_append_grow_src (P := P) w t tx ty e i z ht hi hz none 0 0 [] hold x m news hs (by omega) (by omega) (growslice_fits (by omega) hbytes)
      have hgr := grown 0 (by omega) (Value.ownBlock (.slice none 0 0))
      exact ⟨_, _, hr, hgr.1, hgr.2, fun b hb => by cases hb; exact ⟨by simp, .inl (Nat.le_refl _)⟩⟩
  · by_cases hroom : n + m ≤ cap
    · have hfit : n * i.size + news.length ≤ cur.size := by rw [hs.newsLen, hcs, ← Nat.add_mul]; exact Nat.mul_le_mul_right _ hroom
      have hst := run_storeCells_at P g (n * i.size) e news 0 cur w hg (by simpa using hfit) hs.one
      simp only [Nat.add_zero] at hst
      have hr : (Builtin.append_ #[t, tx] ty #[.slice (some ⟨g, 0, none⟩) n cap, x]).run P w = .ok (.slice (some ⟨g, 0, none⟩) (n + m) cap)
          (w.setRow g (cur.toList.take (n * i.size) ++ news ++ cur.toList.drop (n * i.size + news.length)).toArray) := by
        rcases hs.kind with ⟨e', hk⟩ | hk <;> simp [Builtin.append_, run_underlying ht, run_underlying hk, Go.sizeOf, typeInfo, hi, hs.len, hroom, hs.cells, Addr.add_lit, hst]
      refine ⟨_, _, hr, ⟨hlen, .inr ⟨g, cap, _, rfl, hbg, setRow_heap w g cur _ e _ hg, hroom, hcm, ?_, ?_⟩⟩, ⟨rfl, rfl, rfl, by simp, fun k _ hk => setRow_other w g k _ (fun e => hk (by simp [Value.ownBlock, e]))⟩, fun b hb => ?_⟩
      · simp only [List.size_toArray, List.length_append, List.length_take, List.length_drop, Array.length_toList]
        omega
      · rw [htake, ← hlen]
        exact List.take_left
      · exact ⟨by cases hb; simpa using (Array.getElem?_eq_some_iff.1 hg).1, .inr hb⟩
    · have holds : ∀ j u, xs[j]? = some u → w.cell? ((⟨g, 0, none⟩ : Addr).add j) = some u := hown.cells (g := g) rfl
      have hold : (Builtin.firstCells i.size n (.slice (some ⟨g, 0, none⟩) n cap)).run P w.drew = .ok xs.toArray w.drew := run_firstCells_some w.drew i.size n ⟨g, 0, none⟩ n cap xs hown.1 (by simpa using holds)
      have hr := run_append_grow_src (P := P) w t tx ty e i z ht hi hz (some ⟨g, 0, none⟩) n cap xs hold x m news hs (by omega) (by omega) (growslice_fits (by omega) hbytes)
      have hgr := grown cap (by omega) (Value.ownBlock (.slice (some ⟨g, 0, none⟩) n cap))
      exact ⟨_, _, hr, hgr.1, hgr.2, fun b hb => by cases hb; exact ⟨by simp, .inl (Nat.le_refl _)⟩⟩

/-! ## what is appended -/

def srcV (P : Program) (ob : List (Nat × AObj)) (k e : Nat) (tx : TypeId) (y : AV) : Option (Nat × List D) :=
  match P.underlying tx with
  | some (.slice _) => match y with
    | .cell (.d (.sl e' m ys)) => bif Nat.beq e' e then some (m, ys) else none
    | .cell (.d (.sc (.slice none 0 _))) => some (0, [])
    | .cell (.own k') => bif Nat.beq k' k then none else match lkO ob k' with
      | .arr _ e' m ys => bif Nat.beq e' e then some (m, ys) else none
      | _ => none
    | _ => none
  | some .string => match y with
    | .cell (.d (.sc (.string s))) => bif Nat.beq e 1 then some (s.size, bytesD s.data.toList) else none
    | _ => none
  | _ => none

section
variable {P : Program} {N : Nat} {ops : Array Oper} {Q : Exit → ASt → Prop} {st st' : ASt} {l : List Nat}

theorem srcV_run {F : Nat → Prop} {ρ : Env} {a : Act} {w : World} (h : Rel N F ρ st a w) {k e : Nat} {tx : TypeId} {y : AV} {v : Value} (hy : RelAV w F ρ a.tmps y v) {m : Nat} {ys : List D}
    (hs : srcV P st.ob k e tx y = some (m, ys)) : ∃ news, Src P e tx v m news w ∧ news.length = ys.length ∧ ∀ i (hi : i < ys.length), RelD w F ys[i] (news.getD i undef) := by
  unfold srcV at hs
  split at hs
  · rename_i e0 hu
    split at hs
    · rename_i e' m' ys'
      cases hb : Nat.beq e' e with
      | false => rw [hb] at hs; cases hs
      | true =>
        rw [hb] at hs
        cases hs
        have := Nat.eq_of_beq_eq_true hb
        subst this
        have hD := cell_inv hy
        cases hD with
        | nil _ ad cap =>
          cases ad with
          | none => exact ⟨[], Src.ofNil w hu cap, rfl, fun i hi => by simp at hi⟩
          | some ad => exact ⟨[], Src.ofSlice w hu ad 0 cap [] (by simp) (fun j u hj => by simp at hj) (fun u hu => by cases hu), rfl, fun i hi => by simp at hi⟩
        | sl _ _ _ b off cap c hF hl hcap hc hr =>
          have hlen : ((List.range ys.length).map c).length = ys.length := by simp
          refine ⟨(List.range ys.length).map c, Src.ofSlice w hu ⟨b, off, none⟩ m cap _ (by rw [hlen]; exact hl) (fun j u hj => ?_) (fun u hu => ?_), hlen, fun i hi => ?_⟩
          · have hjl : j < ys.length := by
              have := (List.getElem?_eq_some_iff.1 hj).1
              rwa [hlen] at this
            rw [Addr.add_lit, hc j hjl]
            simpa [hjl] using hj
          · simp only [List.mem_map, List.mem_range] at hu
            obtain ⟨j, hj, rfl⟩ := hu
            exact (hr j hj).oneCell
          · have e1 : ((List.range ys.length).map c).getD i undef = c i := by simp [List.getD_eq_getElem?_getD, hi]
            rw [e1]
            exact hr i hi
    · cases hs
      rename_i cap
      have hv := (scV_rel (u := .slice none 0 cap) hy rfl).1
      subst hv
      exact ⟨[], Src.ofNil w hu cap, rfl, fun i hi => by simp at hi⟩
    · rename_i k'
      cases hkk : Nat.beq k' k with
      | true => rw [hkk] at hs; cases hs
      | false =>
        rw [hkk, cond_false] at hs
        split at hs
        · rename_i t' e' m' ys' hob
          cases hb : Nat.beq e' e with
          | false => rw [hb] at hs; cases hs
          | true =>
            rw [hb] at hs
            cases hs
            have := Nat.eq_of_beq_eq_true hb
            subst this
            have ho := h.ob k'
            rw [hob] at ho
            cases ho with
            | arr t e n cs u xs hk ho hz hh =>
              have hv : v = u := by
                cases hy with
                | cell c v hy => cases hy with
                  | own k v hy => exact hy u hk
              subst hv
              have hxl := ho.1
              rcases ho.2 with ⟨rfl, rfl⟩ | ⟨g, cap, cur, rfl, hbg, hg, hnc, hcm, hcs, htake⟩
              · have hx : xs = [] := List.eq_nil_of_length_eq_zero (by simpa using hxl)
                subst hx
                exact ⟨[], Src.ofNil w hu 0, hz, hh⟩
              · refine ⟨xs, Src.ofSlice w hu ⟨g, 0, none⟩ m cap xs hxl (ho.cells (g := g) rfl) (fun u' hu' => ?_), hz, hh⟩
                obtain ⟨i, hi, rfl⟩ := List.getElem_of_mem hu'
                have := (hh i (by omega)).oneCell
                simpa [List.getD_eq_getElem?_getD, hi] using this
        · cases hs
    · cases hs
  · rename_i hu
    split at hs
    · rename_i s
      cases hb : Nat.beq e 1 with
      | false => rw [hb] at hs; cases hs
      | true =>
        rw [hb] at hs
        cases hs
        have := Nat.eq_of_beq_eq_true hb
        subst this
        have hv := (scV_rel (u := .string s) hy rfl).1
        subst hv
        refine ⟨byteCells s, Src.ofString w hu s, by rw [byteCells_length, bytesD_length, Array.length_toList]; rfl, fun i hi => ?_⟩
        rw [bytesD_length] at hi
        have e1 : (byteCells s).getD i undef = .int .u8 (s.data.toList[i].toNat : Int) := by
          simp only [byteCells, List.getD_eq_getElem?_getD, List.getElem?_map, List.getElem?_eq_getElem hi, Option.map_some, Option.getD_some]
        rw [e1]
        simp only [bytesD, List.getElem_map]
        exact .sc _ rfl
    · cases hs
  · cases hs

def rowB (P : Program) (t : TypeId) : Option (TypeId × Nat × Nat) :=
  match P.underlying t with
  | some (.slice e) => match P.info? e with
    | some i => match i.zero with
      | some z => bif Nat.beq z.cells.size i.size then some (e, i.size, i.bytes) else none
      | none => none
    | none => none
  | _ => none

omit [Tabs] in
theorem rowB_eq {t e : TypeId} {s b : Nat} (h : rowB P t = some (e, s, b)) : P.underlying t = some (.slice e) ∧ ∃ i z, P.info? e = some i ∧ i.zero = some z ∧ z.cells.size = i.size ∧ i.size = s ∧ i.bytes = b := by
  unfold rowB at h
  split at h
  · split at h
    · split at h
      · rename_i hu _ i hi _ z hz
        cases hb : Nat.beq z.cells.size i.size with
        | false => rw [hb] at h; cases h
        | true =>
          rw [hb] at h
          cases h
          exact ⟨hu, i, z, hi, hz, Nat.eq_of_beq_eq_true hb, rfl, rfl⟩
      · cases h
    · cases h
  · cases h

theorem append_core {F : Nat → Prop} {ρ : Env} {a : Act} {w : World} (h : Rel N F ρ st a w) {t tx te : TypeId} {e bytes : Nat} (ht : rowB P t = some (te, e, bytes)) (ty : TypeId) (k d : Nat) (hd : d < N)
    {v : Value} {n : Nat} {cs : List D} {xs : List Value} (hown : w.ownsRow 0 te e v n xs) (hxs : xs.length = cs.length) (hrel : ∀ i (hi : i < cs.length), RelD w F cs[i] (xs.getD i undef))
    (hvk : ∀ b, v.ownBlock = some b → ρ k = some (.arr v)) (hst : ∀ v', 1000000 ≤ k → Stab k (ρ k) (some (.arr v')))
    (y : Operand) {m : Nat} {ys : List D} (hs : srcV P st.ob k e tx (ev st.fr y) = some (m, ys)) (h63 : n + m ≤ maxLen) (hbytes : (n + m) * bytes ≤ 140737488355328) :
    ∃ v' w' ρ', (Builtin.append_ #[t, tx] ty #[v, a.eval y]).run P w = .ok v' w' ∧ Rel N F ρ' ((st.newOb k (.arr te e (n + m) (cs ++ ys))).put (some d) (.cell (.own k))) (a.put (some d) v') w' ∧ Fr F ρ w F ρ' w' ∧ Tch (.new k (.arr te e (n + m) (cs ++ ys)) d (.cell (.own k))) ρ w ρ' w' := by
  obtain ⟨hu, i, z, hi, hz, hzs, rfl, rfl⟩ := rowB_eq ht
  obtain ⟨news, hsrc, hnl, hnr⟩ := srcV_run h (ev_rel h y) hs
  obtain ⟨v', w', hrun, hown', hg, hb'⟩ := run_append_own_src (P := P) t tx ty te i z hu hi hz hzs v n xs hown _ m news hsrc h63 hbytes
  have hF : ∀ b, F b → w'.heap[b]? = w.heap[b]? := fun b hb => hg.block b (h.rw.lt b hb) fun e => h.rw.dis b hb ⟨k, _, hvk b e.symm, e.symm⟩
  obtain ⟨h1, h2⟩ := h.setOb (w' := w') hg.os hg.tape hg.output hg.size k (.arr v') (.arr te i.size (n + m) (cs ++ ys))
    (fun b hb hne => hg.block b hb fun e => hne _ (hvk b e.symm) e.symm)
    (fun b hb => ⟨(hb' b hb).1, (hb' b hb).2.imp id fun e => ⟨_, hvk b e, e⟩⟩)
    (by
      refine .arr _ _ _ _ v' (xs ++ news) (Env.set_same _ _ _) hown' (by simp [hxs, hnl]) fun j hj => ?_
      by_cases hlt : j < cs.length
      · have e1 : (xs ++ news).getD j undef = xs.getD j undef := by
          rw [List.getD_eq_getElem?_getD, List.getElem?_append_left (by omega), List.getD_eq_getElem?_getD]
        rw [e1, List.getElem_append_left hlt]
        exact (hrel j hlt).mono hF fun _ h => h
      · have e1 : (xs ++ news).getD j undef = news.getD (j - cs.length) undef := by
          rw [List.getD_eq_getElem?_getD, List.getElem?_append_right (by omega), List.getD_eq_getElem?_getD, hxs]
        rw [e1, List.getElem_append_right (by omega)]
        exact (hnr _ (by rw [List.length_append] at hj; omega)).mono hF fun _ h => h) (hst _)
  exact ⟨v', w', _, hrun, h1.put d hd (.cell _ _ (.own _ _ fun u hu' => by rw [Env.set_same] at hu'; cases hu'; rfl)), h2, ⟨fun j hj => Env.set_other _ _ _ fun e => hj (by rw [e]; rfl), fun b hb hn => hg.block b hb fun e => hn k _ rfl (hvk b e.symm) e.symm⟩⟩

theorem IEff.append {i d k e n m bytes : Nat} {t tx ty te : TypeId} {s y : Operand} {pos : String} {after : Array Edge} {guard : Option (Nat × Bool)} {cs ys zs : List D} {n' : Nat}
    (ho : opK ops st.fr i = some ⟨some d, .call { callee := .builtin .append, args := #[s, y], argTypes := #[t, tx] }, ty, pos, after, guard⟩) (hsv : ev st.fr s = .cell (.own k)) (hk : lkO st.ob k = .arr te e n cs)
    (ht : rowB P t = some (te, e, bytes)) (hd : Nat.blt d N = true) (hs : srcV P st.ob k e tx (ev st.fr y) = some (m, ys)) (h63 : n + m ≤ maxLen) (hbytes : (n + m) * bytes ≤ 140737488355328)
    (hn' : n + m = n') (hz : cs ++ ys = zs) (hk2 : Nat.blt k 2000000 = true) : IEff P N ops i st (.new k (.arr te e n' zs) d (.cell (.own k))) := by
  subst hn'
  subst hz
  refine .of_opK ho ⟨rfl, fun F ρ a w hr => ?_⟩
  have hob := hr.ob k
  rw [hk] at hob
  cases hob with
  | arr t' e' n' cs' u xs hkρ hown hz hh =>
    have hv : a.eval s = u := by
      have := ev_rel hr s
      rw [hsv] at this
      generalize a.eval s = sv at this
      cases this with
      | cell c v h => cases h with
        | own k v h => exact h u hkρ
    obtain ⟨v', w', ρ', hrun, h1, h2, h3⟩ := append_core hr ht ty k d (blt_lt hd) hown hz hh (fun b hb => hkρ) (fun v' _ => by rw [hkρ]; exact fun h => absurd (blt_lt hk2) (by omega)) y hs h63 hbytes
    refine ⟨v', w', F, ρ', .inl ?_, h1, h2, h3⟩
    simp only [execOp, resolve, invoke, builtin, Sem.run_bind, Sem.run_pure, Result.andThen_ok, List.map_toArray, List.map_cons, List.map_nil, hv, hrun]

theorem IEff.appendNil {i d e m bytes : Nat} {t tx ty te : TypeId} {s y : Operand} {pos : String} {after : Array Edge} {guard : Option (Nat × Bool)} {ys : List D}
    (ho : opK ops st.fr i = some ⟨some d, .call { callee := .builtin .append, args := #[s, y], argTypes := #[t, tx] }, ty, pos, after, guard⟩) (hsv : ev st.fr s = .cell (.d (.sc (.slice none 0 0))))
    (ht : rowB P t = some (te, e, bytes)) (hd : Nat.blt d N = true) (hs : srcV P st.ob d e tx (ev st.fr y) = some (m, ys)) (h63 : m ≤ maxLen) (hbytes : m * bytes ≤ 140737488355328) :
    IEff P N ops i st (.new d (.arr te e m ys) d (.cell (.own d))) := by
  refine .of_opK ho ⟨rfl, fun F ρ a w hr => ?_⟩
  have hv := (scV_rel (ev_rel hr s) (by rw [hsv]; rfl)).1
  obtain ⟨v', w', ρ', hrun, h1, h2, h3⟩ := append_core (n := 0) (cs := []) (xs := []) hr ht ty d d (blt_lt hd) (World.ownsRow_nil w 0 te e) rfl (fun i hi => by simp at hi) (fun b hb => by cases hb) (fun v' hk => by have := hr.df.2; have := blt_lt hd; omega) y hs (by omega) (by rw [Nat.zero_add]; exact hbytes)
  rw [Nat.zero_add, List.nil_append] at h1 h3
  refine ⟨v', w', F, ρ', .inl ?_, h1, h2, h3⟩
  simp only [execOp, resolve, invoke, builtin, Sem.run_bind, Sem.run_pure, Result.andThen_ok, List.map_toArray, List.map_cons, List.map_nil, hv, hrun]

/-! ## a nil slice taken for one's own; freezing -/

theorem Rel.adopt {F : Nat → Prop} {ρ : Env} {a : Act} {w : World} (h : Rel N F ρ st a w) (i k : Nat) (te e : Nat) (hk : Nat.blt k N = true) (hi : lkF st.fr i = .cell (.d (.sc (.slice none 0 0)))) :
    ∃ ρ', Rel N F ρ' { (st.newOb k (.arr te e 0 [])) with fr := setF i (.cell (.own k)) (st.newOb k (.arr te e 0 [])).fr } a w ∧ Fr F ρ w F ρ' w := by
  obtain ⟨h1, h2⟩ := h.setOb (w' := w) rfl rfl rfl (Nat.le_refl _) k (.arr (.slice none 0 0)) (.arr te e 0 []) (fun _ _ _ => rfl) (fun b hb => by cases hb)
    (.arr _ _ _ _ _ [] (Env.set_same _ _ _) (World.ownsRow_nil w 0 te e) rfl fun i hi => by simp at hi) (fun hk' => by have := h.df.2; have := blt_lt hk; omega)
  refine ⟨_, ⟨h1.rw, fun j => ?_, h1.ob, h1.sz, h1.df⟩, h2⟩
  by_cases e1 : j = i
  · subst e1
    rw [lkF_set_same]
    have := h.fr j
    rw [hi] at this
    have hv := (scV_rel this (u := .slice none 0 0) rfl).1
    rw [hv]
    exact .cell _ _ (.own _ _ fun u hu => by rw [Env.set_same] at hu; cases hu; rfl)
  · rw [lkF_set_other _ _ _ _ e1]
    have := h1.fr j
    unfold AV.dropW
    cases hx : (lkF (st.newOb k (.arr te e 0 [])).fr j).uses i with
    | true => exact .junk _
    | false => exact this

theorem AW.adopt {c : Code} (i k te e : Nat) (hk : Nat.blt k N = true) (hi : lkF st.fr i = .cell (.d (.sc (.slice none 0 0)))) (hs : ({ (st.newOb k (.arr te e 0 [])) with fr := setF i (.cell (.own k)) (st.newOb k (.arr te e 0 [])).fr } : ASt) = st')
    (kk : AW P N c st' Q) : AW P N c st Q := by
  subst hs
  intro F ρ a w hr
  obtain ⟨ρ', h1, h2⟩ := hr.adopt i k te e hk hi
  exact kk.after h1 h2
theorem AOps.adopt (i k te e : Nat) (hk : Nat.blt k N = true) (hi : lkF st.fr i = .cell (.d (.sc (.slice none 0 0)))) (hs : ({ (st.newOb k (.arr te e 0 [])) with fr := setF i (.cell (.own k)) (st.newOb k (.arr te e 0 [])).fr } : ASt) = st')
    (kk : AOps P N ops l st' Q) : AOps P N ops l st Q := by
  subst hs
  intro F ρ a w hr
  obtain ⟨ρ', h1, h2⟩ := hr.adopt i k te e hk hi
  exact kk.after h1 h2

def AC.frz (k : Nat) (x : D) : AC → AC
  | .own j => bif Nat.beq j k then .d x else .own j
  | .fn f fs cs => AC.kill k (.fn f fs cs)
  | c => c
mutual
def AV.frz (k : Nat) (x : D) : AV → AV
  | .cell c => .cell (c.frz k x)
  | .agg cs => mkAgg (cs.map (AC.frz k x))
  | .aggD cs => .aggD cs
  | .tup vs => .tup (AV.frzL k x vs)
  | .whn g w y => .whn g w (AV.frz k x y)
  | .junk => .junk
def AV.frzL (k : Nat) (x : D) : List AV → List AV
  | [] => []
  | v :: r => AV.frz k x v :: AV.frzL k x r
end
omit [Tabs] in
theorem AV.frzL_eq (k : Nat) (x : D) (l : List AV) : AV.frzL k x l = l.map (AV.frz k x) := by
  induction l with
  | nil => simp [AV.frzL]
  | cons v r ih => simp [AV.frzL, ih]
def AObj.frz (k : Nat) (x : D) : AObj → AObj
  | .box cs ty => .box (cs.map (AC.frz k x)) ty
  | o => o

def AC.frzM (k : Nat) (x : D) : AC → AC
  | .mpr j => bif Nat.beq j k then .d x else .mpr j
  | .fn f fs cs => AC.kill k (.fn f fs cs)
  | c => c
mutual
def AV.frzM (k : Nat) (x : D) : AV → AV
  | .cell c => .cell (c.frzM k x)
  | .agg cs => mkAgg (cs.map (AC.frzM k x))
  | .aggD cs => .aggD cs
  | .tup vs => .tup (AV.frzML k x vs)
  | .whn g w y => .whn g w (AV.frzM k x y)
  | .junk => .junk
def AV.frzML (k : Nat) (x : D) : List AV → List AV
  | [] => []
  | v :: r => AV.frzM k x v :: AV.frzML k x r
end
omit [Tabs] in
theorem AV.frzML_eq (k : Nat) (x : D) (l : List AV) : AV.frzML k x l = l.map (AV.frzM k x) := by
  induction l with
  | nil => simp [AV.frzML]
  | cons v r ih => simp [AV.frzML, ih]
def AObj.frzM (k : Nat) (x : D) : AObj → AObj
  | .box cs ty => .box (cs.map (AC.frzM k x)) ty
  | o => o

def AC.frzB (k : Nat) (x : List D) : AC → AC
  | .ptr j off => bif Nat.beq j k then .d (.rp (x.drop off)) else .ptr j off
  | .fn f fs cs => AC.kill k (.fn f fs cs)
  | c => c
mutual
def AV.frzB (k : Nat) (x : List D) : AV → AV
  | .cell c => .cell (c.frzB k x)
  | .agg cs => mkAgg (cs.map (AC.frzB k x))
  | .aggD cs => .aggD cs
  | .tup vs => .tup (AV.frzBL k x vs)
  | .whn g w y => .whn g w (AV.frzB k x y)
  | .junk => .junk
def AV.frzBL (k : Nat) (x : List D) : List AV → List AV
  | [] => []
  | v :: r => AV.frzB k x v :: AV.frzBL k x r
end
omit [Tabs] in
theorem AV.frzBL_eq (k : Nat) (x : List D) (l : List AV) : AV.frzBL k x l = l.map (AV.frzB k x) := by
  induction l with
  | nil => simp [AV.frzBL]
  | cons v r ih => simp [AV.frzBL, ih]
def AObj.frzB (k : Nat) (x : List D) : AObj → AObj
  | .box cs ty => .box (cs.map (AC.frzB k x)) ty
  | o => o

def ASt.freeze (st : ASt) (k : Nat) : ASt :=
  match lkO st.ob k with
  | .arr _ e n cs => { fr := st.fr.map fun p => (p.1, p.2.frz k (.sl e n cs)), ob := ASt.setO k .gone (st.ob.map fun p => (p.1, p.2.frz k (.sl e n cs))) }
  | .na _ e xs => { fr := st.fr.map fun p => (p.1, p.2.frz k (.nl e xs)), ob := ASt.setO k .gone (st.ob.map fun p => (p.1, p.2.frz k (.nl e xs))) }
  | .mp _ kt vt l _ => { fr := st.fr.map fun p => (p.1, p.2.frzM k (.nm kt vt l)), ob := ASt.setO k .gone (st.ob.map fun p => (p.1, p.2.frzM k (.nm kt vt l))) }
  | .box cs _ => match allD cs with
    | some ds => { fr := st.fr.map fun p => (p.1, p.2.frzB k ds), ob := ASt.setO k .gone (st.ob.map fun p => (p.1, p.2.frzB k ds)) }
    | none => st
  | _ => st

omit [Tabs] in
theorem RelAC.frz {w : World} {F F' : Nat → Prop} {ρ ρ' : Env} {k : Nat} {u : Value} {x : D} (hk : ρ k = some (.arr u)) (hoff : offK k ρ ρ') (hn : ρ' k = none) (hs : ∀ b, F b → F' b) (hx : RelD w F' x u) {c : AC} {v : Value}
    (h : RelAC w F ρ c v) : RelAC w F' ρ' (c.frz k x) v := by
  cases h with
  | d y v h => exact .d _ _ (h.mono (fun _ _ => rfl) hs)
  | own j v h =>
    simp only [AC.frz]
    cases hb : Nat.beq j k with
    | true =>
      have := Nat.eq_of_beq_eq_true hb
      subst this
      rw [h u hk]
      exact .d _ _ hx
    | false =>
      exact .own _ _ fun u hu => h u (by rw [← hoff j (Nat.ne_of_beq_eq_false hb)]; exact hu)
  | ptr j off v h =>
    refine .ptr _ _ _ fun b hb => ?_
    by_cases e : j = k
    · subst e
      rw [hn] at hb
      cases hb
    · exact h b (by rw [← hoff j e]; exact hb)
  | elt j e q off v h =>
    refine .elt _ _ _ _ _ fun u' hb => ?_
    by_cases e : j = k
    · subst e
      rw [hn] at hb
      cases hb
    · exact h u' (by rw [← hoff j e]; exact hb)
  | osl j e q off v h =>
    refine .osl _ _ _ _ _ fun u' hb => ?_
    by_cases e : j = k
    · subst e
      rw [hn] at hb
      cases hb
    · exact h u' (by rw [← hoff j e]; exact hb)
  | pn j v h =>
    refine .pn _ _ fun b hb => ?_
    by_cases e : j = k
    · subst e
      rw [hn] at hb
      cases hb
    · exact h b (by rw [← hoff j e]; exact hb)
  | ifo t j v h =>
    refine .ifo _ _ _ fun b hb => ?_
    by_cases e : j = k
    · subst e
      rw [hn] at hb
      cases hb
    · exact h b (by rw [← hoff j e]; exact hb)
  | mpr j v h =>
    refine .mpr _ _ fun b hb => ?_
    by_cases e : j = k
    · subst e
      rw [hn] at hb
      cases hb
    · exact h b (by rw [← hoff j e]; exact hb)
  | fn f fs cs vs us h1 h2 hf hc => exact (RelAC.kill hoff (.fn f fs cs vs us h1 h2 hf hc)).mono (fun _ _ => rfl) hs fun _ _ h => h
  | junk v => exact .junk v

omit [Tabs] in
theorem RelAV.frz {w : World} {F F' : Nat → Prop} {ρ ρ' : Env} {tm : Array Value} {k : Nat} {u : Value} {x : D} (hk : ρ k = some (.arr u)) (hoff : offK k ρ ρ') (hn : ρ' k = none) (hs : ∀ b, F b → F' b) (hx : RelD w F' x u) {c : AV} {v : Value}
    (h : RelAV w F ρ tm c v) : RelAV w F' ρ' tm (c.frz k x) v := by
  induction h with
  | cell c v h => exact .cell _ _ (h.frz hk hoff hn hs hx)
  | agg cs arr hz h =>
    simp only [AV.frz]
    exact mkAgg_rel (.agg _ _ (by simpa using hz) fun i hi => by simpa using (h i (by simpa using hi)).frz hk hoff hn hs hx)
  | aggD cs arr hz h => exact .aggD _ _ hz fun i hi => (h i hi).mono (fun _ _ => rfl) hs
  | tup vs arr hz h ih =>
    simp only [AV.frz, AV.frzL_eq]
    exact .tup _ _ (by simpa using hz) fun i hi => by simpa using ih i (by simpa using hi)
  | whn g want x v h h' ih => exact .whn _ _ _ _ ih h'
  | junk v => exact .junk v

omit [Tabs] in
theorem RelAC.frzM {w : World} {F F' : Nat → Prop} {ρ ρ' : Env} {k : Nat} {b0 : Nat} {x : D} (hk : ρ k = some (.box b0)) (hoff : offK k ρ ρ') (hn : ρ' k = none) (hs : ∀ b, F b → F' b) (hx : RelD w F' x (.map (some b0))) {c : AC} {v : Value}
    (h : RelAC w F ρ c v) : RelAC w F' ρ' (c.frzM k x) v := by
  cases h with
  | d y v h => exact .d _ _ (h.mono (fun _ _ => rfl) hs)
  | own j v h =>
    refine .own _ _ fun u hb => ?_
    by_cases e : j = k
    · subst e
      rw [hn] at hb
      cases hb
    · exact h u (by rw [← hoff j e]; exact hb)
  | ptr j off v h =>
    refine .ptr _ _ _ fun b hb => ?_
    by_cases e : j = k
    · subst e
      rw [hn] at hb
      cases hb
    · exact h b (by rw [← hoff j e]; exact hb)
  | elt j e q off v h =>
    refine .elt _ _ _ _ _ fun u' hb => ?_
    by_cases e : j = k
    · subst e
      rw [hn] at hb
      cases hb
    · exact h u' (by rw [← hoff j e]; exact hb)
  | osl j e q off v h =>
    refine .osl _ _ _ _ _ fun u' hb => ?_
    by_cases e : j = k
    · subst e
      rw [hn] at hb
      cases hb
    · exact h u' (by rw [← hoff j e]; exact hb)
  | pn j v h =>
    refine .pn _ _ fun b hb => ?_
    by_cases e : j = k
    · subst e
      rw [hn] at hb
      cases hb
    · exact h b (by rw [← hoff j e]; exact hb)
  | ifo t j v h =>
    refine .ifo _ _ _ fun b hb => ?_
    by_cases e : j = k
    · subst e
      rw [hn] at hb
      cases hb
    · exact h b (by rw [← hoff j e]; exact hb)
  | mpr j v h =>
    simp only [AC.frzM]
    cases hb : Nat.beq j k with
    | true =>
      have := Nat.eq_of_beq_eq_true hb
      subst this
      rw [h b0 hk]
      exact .d _ _ hx
    | false =>
      exact .mpr _ _ fun u hu => h u (by rw [← hoff j (Nat.ne_of_beq_eq_false hb)]; exact hu)
  | fn f fs cs vs us h1 h2 hf hc => exact (RelAC.kill hoff (.fn f fs cs vs us h1 h2 hf hc)).mono (fun _ _ => rfl) hs fun _ _ h => h
  | junk v => exact .junk v

omit [Tabs] in
theorem RelAV.frzM {w : World} {F F' : Nat → Prop} {ρ ρ' : Env} {tm : Array Value} {k : Nat} {b0 : Nat} {x : D} (hk : ρ k = some (.box b0)) (hoff : offK k ρ ρ') (hn : ρ' k = none) (hs : ∀ b, F b → F' b) (hx : RelD w F' x (.map (some b0))) {c : AV} {v : Value}
    (h : RelAV w F ρ tm c v) : RelAV w F' ρ' tm (c.frzM k x) v := by
  induction h with
  | cell c v h => exact .cell _ _ (h.frzM hk hoff hn hs hx)
  | agg cs arr hz h =>
    simp only [AV.frzM]
    exact mkAgg_rel (.agg _ _ (by simpa using hz) fun i hi => by simpa using (h i (by simpa using hi)).frzM hk hoff hn hs hx)
  | aggD cs arr hz h => exact .aggD _ _ hz fun i hi => (h i hi).mono (fun _ _ => rfl) hs
  | tup vs arr hz h ih =>
    simp only [AV.frzM, AV.frzML_eq]
    exact .tup _ _ (by simpa using hz) fun i hi => by simpa using ih i (by simpa using hi)
  | whn g want x v h h' ih => exact .whn _ _ _ _ ih h'
  | junk v => exact .junk v

omit [Tabs] in
theorem RelAC.frzB {w : World} {F F' : Nat → Prop} {ρ ρ' : Env} {k : Nat} {b0 : Nat} {x : List D} (hk : ρ k = some (.box b0)) (hoff : offK k ρ ρ') (hn : ρ' k = none) (hs : ∀ b, F b → F' b) (hx : ∀ off, RelD w F' (.rp (x.drop off)) (.pointer (some ⟨b0, off, none⟩))) {c : AC} {v : Value}
    (h : RelAC w F ρ c v) : RelAC w F' ρ' (c.frzB k x) v := by
  cases h with
  | d y v h => exact .d _ _ (h.mono (fun _ _ => rfl) hs)
  | own j v h =>
    refine .own _ _ fun u hb => ?_
    by_cases e : j = k
    · subst e
      rw [hn] at hb
      cases hb
    · exact h u (by rw [← hoff j e]; exact hb)
  | ptr j off v h =>
    simp only [AC.frzB]
    cases hb : Nat.beq j k with
    | true =>
      have := Nat.eq_of_beq_eq_true hb
      subst this
      rw [h b0 hk]
      exact .d _ _ (hx off)
    | false =>
      exact .ptr _ _ _ fun u hu => h u (by rw [← hoff j (Nat.ne_of_beq_eq_false hb)]; exact hu)
  | elt j e q off v h =>
    refine .elt _ _ _ _ _ fun u' hb => ?_
    by_cases e : j = k
    · subst e
      rw [hn] at hb
      cases hb
    · exact h u' (by rw [← hoff j e]; exact hb)
  | osl j e q off v h =>
    refine .osl _ _ _ _ _ fun u' hb => ?_
    by_cases e : j = k
    · subst e
      rw [hn] at hb
      cases hb
    · exact h u' (by rw [← hoff j e]; exact hb)
  | pn j v h =>
    refine .pn _ _ fun b hb => ?_
    by_cases e : j = k
    · subst e
      rw [hn] at hb
      cases hb
    · exact h b (by rw [← hoff j e]; exact hb)
  | ifo t j v h =>
    refine .ifo _ _ _ fun b hb => ?_
    by_cases e : j = k
    · subst e
      rw [hn] at hb
      cases hb
    · exact h b (by rw [← hoff j e]; exact hb)
  | mpr j v h =>
    refine .mpr _ _ fun b hb => ?_
    by_cases e : j = k
    · subst e
      rw [hn] at hb
      cases hb
    · exact h b (by rw [← hoff j e]; exact hb)
  | fn f fs cs vs us h1 h2 hf hc => exact (RelAC.kill hoff (.fn f fs cs vs us h1 h2 hf hc)).mono (fun _ _ => rfl) hs fun _ _ h => h
  | junk v => exact .junk v

omit [Tabs] in
theorem RelAV.frzB {w : World} {F F' : Nat → Prop} {ρ ρ' : Env} {tm : Array Value} {k : Nat} {b0 : Nat} {x : List D} (hk : ρ k = some (.box b0)) (hoff : offK k ρ ρ') (hn : ρ' k = none) (hs : ∀ b, F b → F' b) (hx : ∀ off, RelD w F' (.rp (x.drop off)) (.pointer (some ⟨b0, off, none⟩))) {c : AV} {v : Value}
    (h : RelAV w F ρ tm c v) : RelAV w F' ρ' tm (c.frzB k x) v := by
  induction h with
  | cell c v h => exact .cell _ _ (h.frzB hk hoff hn hs hx)
  | agg cs arr hz h =>
    simp only [AV.frzB]
    exact mkAgg_rel (.agg _ _ (by simpa using hz) fun i hi => by simpa using (h i (by simpa using hi)).frzB hk hoff hn hs hx)
  | aggD cs arr hz h => exact .aggD _ _ hz fun i hi => (h i hi).mono (fun _ _ => rfl) hs
  | tup vs arr hz h ih =>
    simp only [AV.frzB, AV.frzBL_eq]
    exact .tup _ _ (by simpa using hz) fun i hi => by simpa using ih i (by simpa using hi)
  | whn g want x v h h' ih => exact .whn _ _ _ _ ih h'
  | junk v => exact .junk v

omit [Tabs] in
theorem ownsRow_relD {w : World} {F F' : Nat → Prop} {te : TypeId} {e n : Nat} {u : Value} {xs : List Value} {cs : List D} (ho : w.ownsRow 0 te e u n xs) (hz : xs.length = cs.length) (hh : ∀ i (h : i < cs.length), RelD w F cs[i] (xs.getD i undef))
    (hs : ∀ b, F b → F' b) (hb : ∀ b, u.ownBlock = some b → F' b) : RelD w F' (.sl e n cs) u := by
  rcases ho.2 with ⟨rfl, rfl⟩ | ⟨g, cap, cur, rfl, hbg, hg, hnc, hcm, hcs, htake⟩
  · have hx : xs = [] := List.eq_nil_of_length_eq_zero (by simpa using ho.1)
    subst hx
    have : cs = [] := List.eq_nil_of_length_eq_zero hz.symm
    subst this
    exact .nil _ _ _
  · refine .sl e n cs g 0 cap (fun i => xs.getD i undef) (hb g rfl) (by rw [← hz, ho.1]) hnc (fun i hi => ?_) fun i hi => (hh i hi).mono (fun _ _ => rfl) hs
    have := ho.cells (g := g) rfl i (xs.getD i undef) (by simp [List.getD_eq_getElem?_getD, show i < xs.length by omega])
    rw [Addr.add_lit] at this
    exact this

theorem Rel.freezeD1 {F : Nat → Prop} {ρ : Env} {a : Act} {w : World} (h : Rel N F ρ st a w) (k : Nat) (D0 : D) {te : TypeId} {e n : Nat} {cs : List D} (ho : RelOb w F ρ k (.arr te e n cs)) (hD0 : ∀ F' u, RelD w F' (.sl e n cs) u → RelD w F' D0 u) :
    ∃ F', Rel N F' (ρ.set k none) { fr := st.fr.map fun p => (p.1, p.2.frz k D0), ob := ASt.setO k .gone (st.ob.map fun p => (p.1, p.2.frz k D0)) } a w ∧ Fr F ρ w F' (ρ.set k none) w := by
    cases ho with
    | arr t e n cs u xs hk ho hz hh =>
      let F' : Nat → Prop := fun b => F b ∨ u.ownBlock = some b
      have hoff := Env.set_off ρ k none
      have hn : (ρ.set k none) k = none := Env.set_same _ _ _
      have hsub : ∀ b, F b → F' b := fun b hb => .inl hb
      have hD : RelD w F' D0 u := hD0 _ _ (ownsRow_relD ho hz hh hsub fun b hb => .inr hb)
      have hset : ∀ j l, (ρ.set k none) j = some l → j ≠ k ∧ ρ j = some l := by
        intro j l hj
        by_cases e : j = k
        · subst e; rw [hn] at hj; cases hj
        · rw [Env.set_other _ _ _ e] at hj; exact ⟨e, hj⟩
      refine ⟨F', ⟨⟨?_, ?_, ?_, h.rw.tab_of (fun _ _ => rfl) hsub⟩, ?_, ?_, h.sz, h.df⟩, ⟨rfl, rfl, rfl, Nat.le_refl _, hsub, fun _ _ _ => rfl, ?_, ?_⟩⟩
      · rintro b hb ⟨j, l, hj, hl⟩
        obtain ⟨hne, hj'⟩ := hset j l hj
        rcases hb with hb | hb
        · exact h.rw.dis b hb ⟨j, l, hj', hl⟩
        · exact hne (h.rw.inj _ _ _ _ b hj' hk hl hb)
      · rintro b (hb | hb)
        · exact h.rw.lt b hb
        · exact (ho.lt b hb).2
      · intro i j l l' b hi hj hb hb'
        exact h.rw.inj _ _ _ _ b (hset i l hi).2 (hset j l' hj).2 hb hb'
      · intro i
        simp only
        rw [lkF_map (AV.frz k D0) (by simp [AV.frz])]
        exact (h.fr i).frz hk hoff hn hsub hD
      · intro j
        simp only
        by_cases ej : j = k
        · subst ej
          rw [lkO_set_same]
          exact .gone hn
        · rw [lkO_set_other _ _ _ _ ej, lkO_map (AObj.frz k D0) rfl]
          have hj := h.ob j
          have hkj : (ρ.set k none) j = ρ j := Env.set_other _ _ _ ej
          generalize lkO st.ob j = o at hj
          induction hj with
          | gone hj => exact .gone (hkj.trans hj)
          | na t ee xs h ih => exact .na t ee xs ih
          | any o h ih => exact .any _ ih
          | box cs' oty b c t hoty hk' hb hs hh' => exact .box _ _ b c t hoty (hkj.trans hk') hb (by simpa using hs) fun i hi => by simpa using (hh' i (by simpa using hi)).frz hk hoff hn hsub hD
          | arr t e n cs' u xs hk' ho' hz hh' => exact .arr t e n cs' u xs (hkj.trans hk') ho' hz fun i hi => (hh' i hi).mono (fun _ _ => rfl) hsub
          | tab b o hk' hF hb => exact .tab b o (hkj.trans hk') (hsub b hF) hb
          | it s pos b hk' hb => exact .it s pos b (hkj.trans hk') hb
          | mp t kt vt l b es c hk' hb hz hh' dn hdn => exact .mp t kt vt l b es c (hkj.trans hk') hb hz (fun i h1 h2 => ⟨(hh' i h1 h2).1.mono (fun _ _ => rfl) hsub, (hh' i h1 h2).2.mono (fun _ _ => rfl) hsub⟩) dn hdn
      · rintro b hb ((hf | hf) | ⟨j, l, hj, hl⟩)
        · exact .inl hf
        · exact .inr ⟨k, _, hk, hf⟩
        · exact .inr ⟨j, l, (hset j l hj).2, hl⟩
      · intro j hj
        by_cases ej : j = k
        · subst ej
          rw [hn]
          cases ρ j <;> trivial
        · rw [Env.set_other _ _ _ ej]
          exact Stab.refl _ _

omit [Tabs] in
theorem RelE.cells {w : World} {F : Nat → Prop} {τ : Ev.Ty} {x : τ.den} {v : Value} (h : RelE w F τ x v) : ∃ a : Array Value, a.size = (Esp.cells τ x).length ∧ v = packV τ.sz a ∧ ∀ j (h : j < (Esp.cells τ x).length), RelD w F (Esp.cells τ x)[j] (a.getD j undef) := by
  unfold RelE at h
  split at h
  · rename_i hz
    obtain ⟨c, h1, h2⟩ := h
    refine ⟨#[v], by simp [h1], by simp [packV, hz], fun j hj => ?_⟩
    have hj0 : j = 0 := by rw [h1] at hj; simpa using hj
    subst hj0
    simpa [h1] using h2
  · rename_i hz
    obtain ⟨arr, h1, h2, h3⟩ := h
    exact ⟨arr, h2, by rw [packV, if_neg hz]; exact h1, h3⟩
omit [Tabs] in
theorem RelE.of_cells {w : World} {F : Nat → Prop} {τ : Ev.Ty} {x : τ.den} {a : Array Value} (hz : a.size = (Esp.cells τ x).length) (h : ∀ j (h : j < (Esp.cells τ x).length), RelD w F (Esp.cells τ x)[j] (a.getD j undef)) : RelE w F τ x (packV τ.sz a) := by
  unfold RelE packV
  split
  · rename_i hs
    have hl := cells_length τ x
    rw [hs] at hl
    match hc : Esp.cells τ x, hl with
    | [c], _ =>
      refine ⟨c, rfl, ?_⟩
      have := h 0 (by rw [hc]; simp)
      simpa [hc] using this
  · exact ⟨a, rfl, hz, h⟩
omit [Tabs] in
theorem mp_relD {w : World} {F : Nat → Prop} {kt vt : Ev.Ty} {l : List (kt.den × vt.den)} {b : Nat} {es : Array MapEntry} {clock : Nat} (hF : F b) (hb : w.heap[b]? = some (.map es clock)) (hs : es.size = l.length)
    (h : ∀ i (h : i < l.length) (h' : i < es.size), RelE w F kt l[i].1 es[i].key ∧ RelE w F vt l[i].2 es[i].val) : RelD w F (.nm kt vt l) (.map (some b)) := by
  have hk : ∀ i, ∃ a : Array Value, ∀ (h : i < l.length) (h' : i < es.size), a.size = (cells kt l[i].1).length ∧ es[i].key = packV kt.sz a ∧ ∀ j (h : j < (cells kt l[i].1).length), RelD w F (cells kt l[i].1)[j] (a.getD j undef) := by
    intro i
    by_cases hi : i < l.length
    · obtain ⟨a, h1, h2, h3⟩ := (h i hi (by omega)).1.cells
      exact ⟨a, fun _ _ => ⟨h1, h2, h3⟩⟩
    · exact ⟨#[], fun h => absurd h hi⟩
  have hv : ∀ i, ∃ a : Array Value, ∀ (h : i < l.length) (h' : i < es.size), a.size = (cells vt l[i].2).length ∧ es[i].val = packV vt.sz a ∧ ∀ j (h : j < (cells vt l[i].2).length), RelD w F (cells vt l[i].2)[j] (a.getD j undef) := by
    intro i
    by_cases hi : i < l.length
    · obtain ⟨a, h1, h2, h3⟩ := (h i hi (by omega)).2.cells
      exact ⟨a, fun _ _ => ⟨h1, h2, h3⟩⟩
    · exact ⟨#[], fun h => absurd h hi⟩
  obtain ⟨ka, hka⟩ := Classical.axiomOfChoice hk
  obtain ⟨va, hva⟩ := Classical.axiomOfChoice hv
  exact .nm kt vt l b es clock ka va hF hb hs (fun i hi => ⟨(hka i hi (by omega)).1, (hva i hi (by omega)).1⟩) (fun i hi => ⟨(hka i (by omega) hi).2.1, (hva i (by omega) hi).2.1⟩) (fun i hi j hj => (hka i hi (by omega)).2.2 j hj) fun i hi j hj => (hva i hi (by omega)).2.2 j hj

theorem Rel.freezeM1 {F : Nat → Prop} {ρ : Env} {a : Act} {w : World} (h : Rel N F ρ st a w) (k : Nat) {te : TypeId} {kt vt : Ev.Ty} {l : List (kt.den × vt.den)} {dn : Bool} (ho : RelOb w F ρ k (.mp te kt vt l dn)) :
    ∃ F', Rel N F' (ρ.set k none) { fr := st.fr.map fun p => (p.1, p.2.frzM k (.nm kt vt l)), ob := ASt.setO k .gone (st.ob.map fun p => (p.1, p.2.frzM k (.nm kt vt l))) } a w ∧ Fr F ρ w F' (ρ.set k none) w := by
    cases ho with
    | mp t kt vt l b0 es clock hk hb hs hh _ hdn0 =>
      let F' : Nat → Prop := fun b => F b ∨ b0 = b
      have hoff := Env.set_off ρ k none
      have hn : (ρ.set k none) k = none := Env.set_same _ _ _
      have hsub : ∀ b, F b → F' b := fun b hb => .inl hb
      have hD : RelD w F' (.nm kt vt l) (.map (some b0)) := mp_relD (.inr rfl) hb hs fun i h1 h2 => ⟨(hh i h1 h2).1.mono (fun _ _ => rfl) hsub, (hh i h1 h2).2.mono (fun _ _ => rfl) hsub⟩
      have hset : ∀ j l, (ρ.set k none) j = some l → j ≠ k ∧ ρ j = some l := by
        intro j l hj
        by_cases e : j = k
        · subst e; rw [hn] at hj; cases hj
        · rw [Env.set_other _ _ _ e] at hj; exact ⟨e, hj⟩
      refine ⟨F', ⟨⟨?_, ?_, ?_, h.rw.tab_of (fun _ _ => rfl) hsub⟩, ?_, ?_, h.sz, h.df⟩, ⟨rfl, rfl, rfl, Nat.le_refl _, hsub, fun _ _ _ => rfl, ?_, ?_⟩⟩
      · rintro b hb ⟨j, l, hj, hl⟩
        obtain ⟨hne, hj'⟩ := hset j l hj
        rcases hb with hb | hb
        · exact h.rw.dis b hb ⟨j, l, hj', hl⟩
        · exact hne (h.rw.inj _ _ _ _ b hj' hk hl (by rw [hb]; rfl))
      · rintro b (hb | hb)
        · exact h.rw.lt b hb
        · subst hb; exact (Array.getElem?_eq_some_iff.1 ‹w.heap[b0]? = _›).1
      · intro i j l l' b hi hj hb hb'
        exact h.rw.inj _ _ _ _ b (hset i l hi).2 (hset j l' hj).2 hb hb'
      · intro i
        simp only
        rw [lkF_map (AV.frzM k (.nm kt vt l)) (by simp [AV.frzM])]
        exact (h.fr i).frzM hk hoff hn hsub hD
      · intro j
        simp only
        by_cases ej : j = k
        · subst ej
          rw [lkO_set_same]
          exact .gone hn
        · rw [lkO_set_other _ _ _ _ ej, lkO_map (AObj.frzM k (.nm kt vt l)) rfl]
          have hj := h.ob j
          have hkj : (ρ.set k none) j = ρ j := Env.set_other _ _ _ ej
          generalize lkO st.ob j = o at hj
          induction hj with
          | gone hj => exact .gone (hkj.trans hj)
          | na t ee xs h ih => exact .na t ee xs ih
          | any o h ih => exact .any _ ih
          | box cs' oty b c t hoty hk' hb hs hh' => exact .box _ _ b c t hoty (hkj.trans hk') hb (by simpa using hs) fun i hi => by simpa using (hh' i (by simpa using hi)).frzM hk hoff hn hsub hD
          | arr t e n cs' u xs hk' ho' hz hh' => exact .arr t e n cs' u xs (hkj.trans hk') ho' hz fun i hi => (hh' i hi).mono (fun _ _ => rfl) hsub
          | tab b o hk' hF hb => exact .tab b o (hkj.trans hk') (hsub b hF) hb
          | it s pos b hk' hb => exact .it s pos b (hkj.trans hk') hb
          | mp t kt' vt' l' b es c hk' hb hz hh' dn' hdn => exact .mp t kt' vt' l' b es c (hkj.trans hk') hb hz (fun i h1 h2 => ⟨(hh' i h1 h2).1.mono (fun _ _ => rfl) hsub, (hh' i h1 h2).2.mono (fun _ _ => rfl) hsub⟩) dn' hdn
      · rintro b hb ((hf | hf) | ⟨j, l, hj, hl⟩)
        · exact .inl hf
        · exact .inr ⟨k, _, hk, by rw [hf]; rfl⟩
        · exact .inr ⟨j, l, (hset j l hj).2, hl⟩
      · intro j hj
        by_cases ej : j = k
        · subst ej
          rw [hn]
          cases ρ j <;> trivial
        · rw [Env.set_other _ _ _ ej]
          exact Stab.refl _ _

theorem Rel.freezeB1 {F : Nat → Prop} {ρ : Env} {a : Act} {w : World} (h : Rel N F ρ st a w) (k : Nat) {cs : List AC} {ty : Option TypeId} {ds : List D} (ho : RelOb w F ρ k (.box cs ty)) (hds : allD cs = some ds) :
    ∃ F', Rel N F' (ρ.set k none) { fr := st.fr.map fun p => (p.1, p.2.frzB k ds), ob := ASt.setO k .gone (st.ob.map fun p => (p.1, p.2.frzB k ds)) } a w ∧ Fr F ρ w F' (ρ.set k none) w := by
    cases ho with
    | box cs ty b0 c0 t0 hty hk hbb0 hs hh =>
      have hcs := allD_eq hds
      subst hcs
      let F' : Nat → Prop := fun b => F b ∨ b0 = b
      have hoff := Env.set_off ρ k none
      have hn : (ρ.set k none) k = none := Env.set_same _ _ _
      have hsub : ∀ b, F b → F' b := fun b hb => .inl hb
      have hD : ∀ off, RelD w F' (.rp (ds.drop off)) (.pointer (some ⟨b0, off, none⟩)) := by
        intro off
        have hlen : ∀ i, i < (ds.drop off).length → off + i < ds.length := fun i hi => by rw [List.length_drop] at hi; omega
        refine .rp _ b0 off (fun i => c0.getD (off + i) undef) (fun _ => .inr rfl) (fun i hi => ?_) fun i hi => ?_
        · have h1 : off + i < c0.size := by rw [hs]; simpa using hlen i hi
          rw [cell_of_row w b0 (off + i) c0 t0 _ hbb0]
          simp [Array.getD_eq_getD_getElem?, h1]
        · have h1 : off + i < (ds.map AC.d).length := by simpa using hlen i hi
          have h2 := hh (off + i) h1
          simp only [List.getElem_map] at h2
          rw [List.getElem_drop]
          cases h2 with
          | d x v h3 => exact h3.mono (fun _ _ => rfl) hsub
      have hset : ∀ j l, (ρ.set k none) j = some l → j ≠ k ∧ ρ j = some l := by
        intro j l hj
        by_cases e : j = k
        · subst e; rw [hn] at hj; cases hj
        · rw [Env.set_other _ _ _ e] at hj; exact ⟨e, hj⟩
      refine ⟨F', ⟨⟨?_, ?_, ?_, h.rw.tab_of (fun _ _ => rfl) hsub⟩, ?_, ?_, h.sz, h.df⟩, ⟨rfl, rfl, rfl, Nat.le_refl _, hsub, fun _ _ _ => rfl, ?_, ?_⟩⟩
      · rintro b hb ⟨j, l, hj, hl⟩
        obtain ⟨hne, hj'⟩ := hset j l hj
        rcases hb with hb | hb
        · exact h.rw.dis b hb ⟨j, l, hj', hl⟩
        · exact hne (h.rw.inj _ _ _ _ b hj' hk hl (by rw [hb]; rfl))
      · rintro b (hb | hb)
        · exact h.rw.lt b hb
        · subst hb; exact (Array.getElem?_eq_some_iff.1 hbb0).1
      · intro i j l l' b hi hj hb hb'
        exact h.rw.inj _ _ _ _ b (hset i l hi).2 (hset j l' hj).2 hb hb'
      · intro i
        simp only
        rw [lkF_map (AV.frzB k ds) (by simp [AV.frzB])]
        exact (h.fr i).frzB hk hoff hn hsub hD
      · intro j
        simp only
        by_cases ej : j = k
        · subst ej
          rw [lkO_set_same]
          exact .gone hn
        · rw [lkO_set_other _ _ _ _ ej, lkO_map (AObj.frzB k ds) rfl]
          have hj := h.ob j
          have hkj : (ρ.set k none) j = ρ j := Env.set_other _ _ _ ej
          generalize lkO st.ob j = o at hj
          induction hj with
          | gone hj => exact .gone (hkj.trans hj)
          | na t ee xs h ih => exact .na t ee xs ih
          | any o h ih => exact .any _ ih
          | box cs' oty b c t hoty hk' hb hs hh' => exact .box _ _ b c t hoty (hkj.trans hk') hb (by simpa using hs) fun i hi => by simpa using (hh' i (by simpa using hi)).frzB hk hoff hn hsub hD
          | arr t e n cs' u xs hk' ho' hz hh' => exact .arr t e n cs' u xs (hkj.trans hk') ho' hz fun i hi => (hh' i hi).mono (fun _ _ => rfl) hsub
          | tab b o hk' hF hb => exact .tab b o (hkj.trans hk') (hsub b hF) hb
          | it s pos b hk' hb => exact .it s pos b (hkj.trans hk') hb
          | mp t kt' vt' l' b es c hk' hb hz hh' dn' hdn => exact .mp t kt' vt' l' b es c (hkj.trans hk') hb hz (fun i h1 h2 => ⟨(hh' i h1 h2).1.mono (fun _ _ => rfl) hsub, (hh' i h1 h2).2.mono (fun _ _ => rfl) hsub⟩) dn' hdn
      · rintro b hb ((hf | hf) | ⟨j, l, hj, hl⟩)
        · exact .inl hf
        · exact .inr ⟨k, _, hk, by rw [hf]; rfl⟩
        · exact .inr ⟨j, l, (hset j l hj).2, hl⟩
      · intro j hj
        by_cases ej : j = k
        · subst ej
          rw [hn]
          cases ρ j <;> trivial
        · rw [Env.set_other _ _ _ ej]
          exact Stab.refl _ _

theorem Rel.freezeD {F : Nat → Prop} {ρ : Env} {a : Act} {w : World} (h : Rel N F ρ st a w) (k : Nat) (D0 : D) {te : TypeId} {e n : Nat} {cs : List D} (ho : RelOb w F ρ k (.arr te e n cs)) (hD0 : ∀ F' u, RelD w F' (.sl e n cs) u → RelD w F' D0 u) :
    ∃ F' ρ', Rel N F' ρ' { fr := st.fr.map fun p => (p.1, p.2.frz k D0), ob := ASt.setO k .gone (st.ob.map fun p => (p.1, p.2.frz k D0)) } a w ∧ Fr F ρ w F' ρ' w := by
  obtain ⟨F', h1, h2⟩ := h.freezeD1 k D0 ho hD0
  exact ⟨F', _, h1, h2⟩

theorem Rel.freeze {F : Nat → Prop} {ρ : Env} {a : Act} {w : World} (h : Rel N F ρ st a w) (k : Nat) : ∃ F' ρ', Rel N F' ρ' (st.freeze k) a w ∧ Fr F ρ w F' ρ' w := by
  have ho := h.ob k
  unfold ASt.freeze
  split
  · rename_i te e n cs hob
    rw [hob] at ho
    exact h.freezeD k (.sl e n cs) ho fun _ _ h => h
  · rename_i te e xs hob
    rw [hob] at ho
    cases ho with
    | na t ee xs ho => exact h.freezeD k (.nl e xs) ho fun _ _ h => .nl _ _ _ h
  · rename_i te kt vt l dn hob
    rw [hob] at ho
    obtain ⟨F', h1, h2⟩ := h.freezeM1 k ho
    exact ⟨F', _, h1, h2⟩
  · rename_i cs ty hob
    rw [hob] at ho
    split
    · rename_i ds hds
      obtain ⟨F', h1, h2⟩ := h.freezeB1 k ho hds
      exact ⟨F', _, h1, h2⟩
    · exact ⟨F, ρ, h, Fr.refl F ρ w⟩
  · exact ⟨F, ρ, h, Fr.refl F ρ w⟩

theorem AW.freeze {c : Code} (k : Nat) (hs : st.freeze k = st') (kk : AW P N c st' Q) : AW P N c st Q := by
  subst hs
  intro F ρ a w hr
  obtain ⟨F', ρ', h1, h2⟩ := hr.freeze k
  exact kk.after h1 h2
theorem AOps.freeze (k : Nat) (hs : st.freeze k = st') (kk : AOps P N ops l st' Q) : AOps P N ops l st Q := by
  subst hs
  intro F ρ a w hr
  obtain ⟨F', ρ', h1, h2⟩ := hr.freeze k
  exact kk.after h1 h2

/-! ## a call of a function by its contract -/

def enterOk (P : Program) (f : FuncId) : Bool :=
  match P.funcs[f]? with
  | some fn => !(fn.name == "runtime.NumGoroutine") && fn.body.isSome
  | none => false

omit [Tabs] in
theorem callFunc_run {f : FuncId} (h : enterOk P f = true) (args : Array Value) (w : World) : (callFunc f args).run P w = .ok (.enter f args) w := by
  unfold enterOk at h
  split at h
  · rename_i fn hf
    simp only [Bool.and_eq_true, Bool.not_eq_true'] at h
    cases hb : fn.body with
    | none => rw [hb] at h; simp at h
    | some c =>
      have h1 : ¬ fn.name = "runtime.NumGoroutine" := by simpa using h.1
      simp [callFunc, hf, h1, hb]
  · cases h

def calleeV (fr : List (Nat × AV)) (c : Call) : Option (FuncId × List AV) :=
  match c.callee with
  | .value g => match ev fr g with
    | .cell (.fn (.func f) fs cs) => some (f, fs.map .cell ++ (c.args.toList.map (ev fr) ++ cs.map .cell))
    | _ => none
  | _ => none

theorem calleeV_run {F : Nat → Prop} {ρ : Env} {a : Act} {w : World} (h : Rel N F ρ st a w) {c : Call} {f : FuncId} {args : List AV} (hc : calleeV st.fr c = some (f, args)) (hf : enterOk P f = true) (t : TypeId) :
    ∃ vs : Array Value, (do let d ← resolve a.eval c t; invoke d.target d.args : Sem Next).run P w = .ok (.enter f vs) w ∧ vs.size = args.length ∧ ∀ i (hi : i < args.length), RelAV w F ρ a.tmps args[i] (vs.getD i undef) := by
  unfold calleeV at hc
  split at hc
  · rename_i g hg
    split at hc
    · rename_i f' fs cs he
      cases hc
      have hr := ev_rel h g
      rw [he] at hr
      generalize hgv : a.eval g = gv at hr
      cases hr with
      | cell _ _ hr => cases hr with
        | fn _ _ _ vs us h1 h2 hfs hcs =>
          refine ⟨vs ++ c.args.map a.eval ++ us, ?_, by simp [h1, h2] <;> omega, fun i hi => ?_⟩
          · simp only [resolve, hg, hgv, Deferred.ofValue, Sem.run_bind, Sem.run_pure, Result.andThen_ok, invoke]
            exact callFunc_run hf _ w
          · simp only [List.length_append, List.length_map, Array.length_toList] at hi
            by_cases hi1 : i < fs.length
            · have e1 : (vs ++ c.args.map a.eval ++ us).getD i undef = vs.getD i undef := by
                simp only [Array.getD_eq_getD_getElem?]
                rw [Array.append_assoc, Array.getElem?_append_left (by omega)]
              rw [e1, List.getElem_append_left (by simpa using hi1), List.getElem_map]
              exact .cell _ _ (hfs i hi1)
            · rw [List.getElem_append_right (by simp; omega)]
              by_cases hi2 : i - fs.length < c.args.size
              · have e1 : (vs ++ c.args.map a.eval ++ us).getD i undef = a.eval c.args[i - fs.length] := by
                  simp only [Array.getD_eq_getD_getElem?]
                  rw [Array.append_assoc, Array.getElem?_append_right (by omega), Array.getElem?_append_left (by simp only [Array.size_map]; omega), h1]
                  simp [hi2]
                rw [e1, List.getElem_append_left (by simp; omega)]
                simp only [List.getElem_map, List.length_map, Array.getElem_toList]
                exact ev_rel h _
              · have e1 : (vs ++ c.args.map a.eval ++ us).getD i undef = us.getD (i - fs.length - c.args.size) undef := by
                  simp only [Array.getD_eq_getD_getElem?]
                  rw [Array.append_assoc, Array.getElem?_append_right (by omega), Array.getElem?_append_right (by simp; omega), h1]
                  simp
                rw [e1, List.getElem_append_right (by simp; omega)]
                simp only [List.getElem_map, List.length_map, Array.length_toList]
                exact .cell _ _ (hcs _ (by omega))
    · cases hc
  · cases hc

/-! ### nothing but frozen data goes in and comes back -/
mutual
def AV.frozen : AV → Bool
  | .cell (.d _) => true
  | .cell (.fn _ [] []) => true
  | .aggD _ => true
  | .tup vs => AV.frozenL vs
  | _ => false
def AV.frozenL : List AV → Bool
  | [] => true
  | v :: r => AV.frozen v && AV.frozenL r
end
omit [Tabs] in
theorem AV.frozenL_get : ∀ {l : List AV}, AV.frozenL l = true → ∀ i (h : i < l.length), AV.frozen l[i] = true
  | [], _, i, h => by simp at h
  | c :: r, h, i, hi => by
    simp only [AV.frozenL, Bool.and_eq_true] at h
    cases i with
    | zero => simpa using h.1
    | succ i => simpa using AV.frozenL_get h.2 i (by simpa using hi)

omit [Tabs] in
theorem RelAV.frozen_any {w : World} {F : Nat → Prop} {ρ ρ' : Env} {tm tm' : Array Value} {x : AV} {v : Value} (h : RelAV w F ρ tm x v) (hx : x.frozen = true) : RelAV w F ρ' tm' x v := by
  induction h with
  | cell c v h => cases h with
    | d x v h => exact .cell _ _ (.d _ _ h)
    | own => simp [AV.frozen] at hx
    | ptr => simp [AV.frozen] at hx
    | elt => simp [AV.frozen] at hx
    | osl => simp [AV.frozen] at hx
    | pn => simp [AV.frozen] at hx
    | ifo => simp [AV.frozen] at hx
    | mpr => simp [AV.frozen] at hx
    | fn f fs cs vs us h1 h2 hf hc =>
      cases fs with
      | cons _ _ => simp [AV.frozen] at hx
      | nil => cases cs with
        | cons _ _ => simp [AV.frozen] at hx
        | nil => exact .cell _ _ (.fn f [] [] vs us h1 h2 (fun i hi => by simp at hi) (fun i hi => by simp at hi))
    | junk => simp [AV.frozen] at hx
  | agg cs arr hz h => simp [AV.frozen] at hx
  | aggD cs arr hz h => exact .aggD cs arr hz h
  | tup vs arr hz h ih => exact .tup vs arr hz fun i hi => ih i hi (AV.frozenL_get (by simpa [AV.frozen] using hx) i hi)
  | whn g want x v h h' ih => simp [AV.frozen] at hx
  | junk v => simp [AV.frozen] at hx

def PCalls (P : Program) (f : FuncId) (args : List AV) (x : AV) : Prop := ACalls P f args [] fun r _ => r = .ret x

theorem IEff.pcall {i d : Nat} {c : Call} {ty : TypeId} {pos : String} {after : Array Edge} {guard : Option (Nat × Bool)} {f : FuncId} {args : List AV} {x : AV}
    (ho : opK ops st.fr i = some ⟨some d, .call c, ty, pos, after, guard⟩) (hc : calleeV st.fr c = some (f, args)) (hf : enterOk P f = true) (hz : AV.frozenL args = true) (hd : Nat.blt d N = true)
    (spec : PCalls P f args x) (hx : x.frozen = true) : IEff P N ops i st (.put d x) := by
  intro F ρ a w hr K R kk
  obtain ⟨e, hw⟩ := opK_wanted hr ho
  obtain ⟨vs, hrun, hsz, hrel⟩ := calleeV_run hr hc hf ty
  simp only [wpOp, e]
  rw [if_pos hw]
  left
  have hrun' : (execOp a.eval ⟨some d, .call c, ty, pos, after, guard⟩).run P w = .ok (.enter f vs) w := hrun
  simp only [Oper.wp, Oper.upon, hrun']
  have h0 : RelW F (fun _ => none) w := ⟨(fun b _ ⟨k, l, hk, _⟩ => by cases hk), hr.rw.lt, (fun k k' l l' b hk => by cases hk), hr.rw.tab⟩
  refine (spec F (fun _ => none) vs w h0 (fun k => .gone rfl) ⟨hsz, fun j hj => (hrel j hj).frozen_any (AV.frozenL_get hz j hj)⟩).mono fun en w' ⟨F', ρ', r, ob', hq, hre, hrw, hrob, hfr⟩ => ?_
  subst hq
  have hnl : ∀ b, ¬ live (fun _ => none) b := fun b ⟨k, l, hk, _⟩ => by cases hk
  cases en with
  | returned v =>
    have hv : RelAV w' F' ρ' #[] x v := hre
    have hkeep : ∀ b, b < w.heap.size → w'.heap[b]? = w.heap[b]? := fun b hb => hfr.keep b hb (hnl b)
    have hdis : ∀ b, F' b → ¬ live ρ b := by
      rintro b hb ⟨k, l, hk, hl⟩
      have hlt := (hr.ob k).lt hk hl
      rcases hfr.old b hlt (.inl hb) with h | h
      · exact hr.rw.dis b h ⟨k, l, hk, hl⟩
      · exact hnl b h
    have hrel' : Rel N F' ρ st a w' := by
      refine ⟨⟨hdis, hrw.lt, hr.rw.inj, hrw.tab⟩, fun j => (hr.fr j).mono (fun b hb => hkeep b (hr.rw.lt b hb)) hfr.sub fun _ _ h => h,
        fun j => (hr.ob j).through (fun b hb => hkeep b (hr.rw.lt b hb)) hfr.sub fun l b hl hb => hkeep b ((hr.ob j).lt hl hb), hr.sz, hr.df⟩
    have hfr' : Fr F ρ w F' ρ w' := by
      refine ⟨hfr.os, hfr.tape, hfr.output, hfr.size, hfr.sub, fun b hb _ => hkeep b hb, ?_, fun _ _ => Stab.refl _ _⟩
      rintro b hb (h | h)
      · rcases hfr.old b hb (.inl h) with h' | h'
        · exact .inl h'
        · exact absurd h' (hnl b)
      · exact .inr h
    exact kk v w' F' ρ (hrel'.put d (blt_lt hd) (hv.frozen_any hx)) hfr' (.none hkeep)
  | panicked chain => exact hre.elim
  | outgrown => exact hre.elim

end
end Esp

/- EV: the exchange that internal/reflectlite.Swapper hands back, over a row of one's own; sort.SliceStable by what sort.stable_func is proved to do. -/
import Derived.Test.YtheaknjhanchbaaDoorEvFn
import Derived.Test.YtheaknjhanchbaaDoorEvElt
import Derived.Test.YtheaknjhanchbaaDoorEvBuild3
import Derived.Shelf.GgSortMore.Stable
namespace Esp
open Go
set_option linter.unusedSimpArgs false
set_option linter.unusedVariables false
variable [Tabs]
def swapN : Int × Int × List Ev.Cnt × Unit → Option (List Ev.Cnt × Unit) := fun (i, j, l, _) => (ix l i).bind fun x => (ix l j).bind fun y => some ((l.set i.toNat y).set j.toNat x, ())
def F_swap (b te : Nat) : FnT := ⟨4, ⟨[(2, .own 2000000), (3, .hd b te)], [(0, .i64), (1, .i64)], [(2000000, .arr te .cnt)]⟩, [], [(2000000, .arr te .cnt)]⟩
omit [Tabs] in
theorem ix_inv {α : Type} {l : List α} {i : Int} {x : α} (h : ix l i = some x) : ∃ k : Nat, i = (k : Int) ∧ l[k]? = some x := by
  unfold ix at h
  split at h
  · exact ⟨i.toNat, by omega, h⟩
  · cases h
omit [Tabs] in
theorem flat_set (τ : Ev.Ty) : ∀ (xs : List τ.den) (j : Nat) (y : τ.den), j < xs.length → splice (flat τ xs) (j * τ.sz) (cells τ y) = flat τ (xs.set j y)
  | [], j, _, h => by simp at h
  | x :: r, 0, y, _ => by
    simp only [flat, List.flatMap_cons, List.set_cons_zero, splice, Nat.zero_mul, List.take_zero, List.nil_append, Nat.zero_add]
    rw [cells_length, ← cells_length τ x, List.drop_left]
  | x :: r, j + 1, y, h => by
    have ih := flat_set τ r j y (by simpa using h)
    simp only [flat, List.flatMap_cons, List.set_cons_succ] at ih ⊢
    rw [← ih, show (j + 1) * τ.sz = (cells τ x).length + j * τ.sz by rw [cells_length, Nat.add_mul]; omega]
    simp only [splice]
    rw [List.take_append, List.take_of_length_le (by omega), show (cells τ x).length + j * τ.sz - (cells τ x).length = j * τ.sz by omega, List.append_assoc, show (cells τ x).length + j * τ.sz + (cells τ y).length = (cells τ x).length + (j * τ.sz + (cells τ y).length) by omega, ← List.drop_drop, List.drop_left]
omit [Tabs] in
theorem rel_splice {w : World} {F : Nat → Prop} {cs ds : List D} {xs vs : List Value} (o : Nat) (hc : ∀ i (h : i < cs.length), RelD w F cs[i] (xs.getD i undef)) (hd : ∀ i (h : i < ds.length), RelD w F ds[i] (vs.getD i undef))
    (hl : vs.length = ds.length) (h1 : o + ds.length ≤ cs.length) (h2 : cs.length ≤ xs.length) : ∀ i (h : i < (splice cs o ds).length), RelD w F (splice cs o ds)[i] ((splice xs o vs).getD i undef) := by
  intro i hi
  have hi' : i < cs.length := by rwa [splice_length _ _ _ h1] at hi
  have e1 := splice_get cs o ds h1 i
  have e2 := splice_get xs o vs (by omega) i
  rw [List.getElem?_eq_getElem hi] at e1
  rw [List.getD_eq_getElem?_getD, e2]
  by_cases hin : o ≤ i ∧ i < o + ds.length
  · rw [if_pos hin, List.getElem?_eq_getElem (by omega)] at e1
    simp only [Option.some.injEq] at e1
    rw [if_pos (by omega), e1, ← List.getD_eq_getElem?_getD]
    exact hd _ _
  · rw [if_neg hin, List.getElem?_eq_getElem hi'] at e1
    simp only [Option.some.injEq] at e1
    rw [if_neg (by omega), e1, ← List.getD_eq_getElem?_getD]
    exact hc _ _
omit [Tabs] in
theorem getD_take {α : Type} {l : List α} {n i : Nat} {d : α} (h : i < n) : (l.take n).getD i d = l.getD i d := by
  rw [List.getD_eq_getElem?_getD, List.getElem?_take, if_pos h, List.getD_eq_getElem?_getD]
omit [Tabs] in
theorem getD_drop {α : Type} {l : List α} {n i : Nat} {d : α} : (l.drop n).getD i d = l.getD (n + i) d := by
  rw [List.getD_eq_getElem?_getD, List.getElem?_drop, List.getD_eq_getElem?_getD]
section
variable {P : Program}
omit [Tabs] in
theorem storeVar_row (te : TypeId) (ie : TypeInfo) (hie : P.info? te = some ie) (g o : Nat) (vs : List Value) (hs : vs.length = ie.size) (h1 : ∀ v ∈ vs, v.oneCell' = true) (w : World) (cur : Array Value) (hg : w.heap[g]? = some (.cells cur te (0, 0))) (hf : o + vs.length ≤ cur.size) :
    (storeVar te ⟨g, o, none⟩ (.agg vs.toArray)).run P w = .ok () (w.setRow g (splice cur.toList o vs).toArray) := by
  have := Go.run_storeCells_at (P := P) g o te vs 0 cur w hg (by omega) h1
  simp only [Nat.add_zero] at this
  simp [storeVar, Value.cells, Go.sizeOf, Go.Lib.rl_info te ie hie, ← hs, this, Result.andThen, splice]
omit [Tabs] in
theorem swap_run (te : TypeId) (ie : TypeInfo) (hie : P.info? te = some ie) (hagg : ∀ w, (Go.isAgg te).run P w = .ok true w) (g n c i j : Nat) (hi : i < n) (hj : j < n) (w : World) (cur : Array Value) (hg : w.heap[g]? = some (.cells cur te (0, 0)))
    (hz : n * ie.size ≤ cur.size) (h1 : ∀ v ∈ cur.toList.take (n * ie.size), v.oneCell' = true) :
    (Extern.ReflectliteSwapper.swap false #[.int .i64 i, .int .i64 j, .slice (some ⟨g, 0, none⟩) n c, typeHandle P te]).run P w
      = .ok (.tuple #[]) ((w.setRow g (splice cur.toList (i * ie.size) ((cur.toList.drop (j * ie.size)).take ie.size)).toArray).setRow g
          (splice (splice cur.toList (i * ie.size) ((cur.toList.drop (j * ie.size)).take ie.size)) (j * ie.size) ((cur.toList.drop (i * ie.size)).take ie.size)).toArray) := by
  have bi : i * ie.size + ie.size ≤ n * ie.size := by rw [← Nat.succ_mul]; exact Nat.mul_le_mul_right _ hi
  have bj : j * ie.size + ie.size ≤ n * ie.size := by rw [← Nat.succ_mul]; exact Nat.mul_le_mul_right _ hj
  have lX : ((cur.toList.drop (i * ie.size)).take ie.size).length = ie.size := by simp; omega
  have lY : ((cur.toList.drop (j * ie.size)).take ie.size).length = ie.size := by simp; omega
  have oX : ∀ (k : Nat), k * ie.size + ie.size ≤ n * ie.size → ∀ v ∈ (cur.toList.drop (k * ie.size)).take ie.size, v.oneCell' = true := fun k hk v hv => by
    refine h1 v ?_
    obtain ⟨q, hq, rfl⟩ := List.getElem_of_mem hv
    rw [List.length_take, List.length_drop] at hq
    rw [List.getElem_take, List.getElem_drop]
    refine List.mem_of_getElem? (i := k * ie.size + q) ?_
    rw [List.getElem?_take, if_pos (by omega), List.getElem?_eq_getElem]
  have cX : ∀ (k : Nat) q v, ((cur.toList.drop (k * ie.size)).take ie.size)[q]? = some v → w.cell? ⟨g, k * ie.size + q, none⟩ = some v := fun k q v h => by
    rw [Go.Lib.cell_of_heap hg]
    rw [List.getElem?_take] at h
    split at h
    · rw [List.getElem?_drop, Array.getElem?_toList] at h; exact h
    · cases h
  have l1 := Go.Lib.rl_loadVar_cells (P := P) te ie hie hagg g (i * ie.size) _ lX w (cX i)
  have l2 := Go.Lib.rl_loadVar_cells (P := P) te ie hie hagg g (j * ie.size) _ lY w (cX j)
  have s1 := storeVar_row (P := P) te ie hie g (i * ie.size) _ lY (oX j bj) w cur hg (by rw [lY]; omega)
  have hg2 := setRow_heap w g cur (splice cur.toList (i * ie.size) ((cur.toList.drop (j * ie.size)).take ie.size)).toArray te (0, 0) hg
  have hsz : (splice cur.toList (i * ie.size) ((cur.toList.drop (j * ie.size)).take ie.size)).length = cur.size := by rw [splice_length _ _ _ (by rw [lY]; simp; omega)]; simp
  have s2 := storeVar_row (P := P) te ie hie g (j * ie.size) _ lX (oX i bi) _ _ hg2 (by rw [lX]; simp only [List.size_toArray, hsz]; omega)
  have i0 : ¬ ((i : Int) < 0) := by omega
  have i1 : ¬ ((i : Int) ≥ n) := by omega
  have j0 : ¬ ((j : Int) < 0) := by omega
  have j1 : ¬ ((j : Int) ≥ n) := by omega
  rw [Go.Lib.rl_swap]
  simp [i0, i1, j0, j1, Extern.Rtype.ofHandle, Go.handleType, typeHandle, Extern.ReflectliteSwapper.exchange, Go.sizeOf, Go.Lib.rl_info te ie hie, Addr.add_lit, l1, l2, s1, s2, Result.andThen]
/-- a row that is written in place -/
theorem row_end {F : Nat → Prop} {ρ : Env} {w : World} {te : TypeId} {l l' : List Ev.Cnt} {g cap : Nat} {cur : Array Value} {new : List Value} {w' : World} (hrw : RelW F ρ w) (hob : ∀ k, RelOb w F ρ k (lkO [(2000000, .na te .cnt l)] k))
    (hu : ρ 2000000 = some (.arr (.slice (some ⟨g, 0, none⟩) l.length cap))) (hl : l'.length = l.length) (hcap : l.length ≤ cap) (hm : cap ≤ maxLen) (hcs : cur.size = cap * 2) (hnew : new.length = cur.size)
    (hw' : w'.heap[g]? = some (.cells new.toArray te (0, 0))) (hos : w'.os = w.os) (htape : w'.tape = w.tape) (hout : w'.output = w.output) (hsize : w.heap.size ≤ w'.heap.size) (hkeep : ∀ b, b ≠ g → w'.heap[b]? = w.heap[b]?)
    (hrel : ∀ i (h : i < (flat .cnt l').length), RelD w F (flat .cnt l')[i] (new.getD i undef)) :
    ∃ F' ρ' rr ob', EX (.tup []) [(2000000, .na te .cnt l')] rr ob' ∧ RelEnd w' F' ρ' rr (.returned (.tuple #[])) ∧ RelW F' ρ' w' ∧ (∀ k, RelOb w' F' ρ' k (lkO ob' k)) ∧ Fr F ρ w F' ρ' w' := by
  have hg : ∀ b, F b → b ≠ g := fun b hf e => hrw.dis b hf ⟨2000000, _, hu, by rw [e]; rfl⟩
  have hF : ∀ b, F b → w'.heap[b]? = w.heap[b]? := fun b hf => hkeep b (hg b hf)
  have hfl : ∀ m : List Ev.Cnt, (flat .cnt m).length = m.length * 2 := fun m => flat_length .cnt m
  refine ⟨F, ρ, .ret (.tup []), [(2000000, .na te .cnt l')], ⟨rfl, rfl⟩, ?_, ⟨hrw.dis, fun b hf => Nat.lt_of_lt_of_le (hrw.lt b hf) hsize, hrw.inj, hrw.tab_of hF fun _ h => h⟩, fun k => ?_,
    ⟨hos, htape, hout, hsize, fun _ h => h, fun b hbb hnl => hkeep b fun e => hnl ⟨2000000, _, hu, by rw [e]; rfl⟩, fun _ _ h => h, fun _ _ => Stab.refl _ _⟩⟩
  · exact .tup [] #[] rfl fun i hi => by simp at hi
  · by_cases hk : k = 2000000
    · subst hk
      show RelOb w' F ρ 2000000 (.na te .cnt l')
      refine .na _ _ _ (.arr te _ l'.length _ _ (new.take (l'.length * 2)) hu ⟨?_, .inr ⟨g, cap, new.toArray, by rw [hl], Nat.zero_le _, hw', by omega, hm, (show new.toArray.size = cap * 2 by simpa [hnew] using hcs), rfl⟩⟩ ?_ fun i hi => ?_)
      · rw [List.length_take, hnew]
        show min (l'.length * 2) cur.size = l'.length * 2
        omega
      · rw [List.length_take, hnew, hfl]
        omega
      · have hi2 : i < l'.length * 2 := by rw [hfl] at hi; exact hi
        rw [getD_take hi2]
        exact (hrel i hi).mono hF fun _ h => h
    · have h0 := hob k
      have e1 : ∀ o : AObj, lkO [(2000000, o)] k = .gone := fun o => by
        simp only [lkO]
        cases hb : Nat.beq k 2000000 with
        | true => exact absurd (Nat.eq_of_beq_eq_true hb) hk
        | false => rfl
      rw [e1] at h0 ⊢
      cases h0 with
      | gone h => exact .gone h
omit [Tabs] in
theorem swapN_inv {i j : Int} {l : List Ev.Cnt} {y : List Ev.Cnt × Unit} (h : swapN (i, j, l, ()) = some y) : ∃ x, ix l i = some x ∧ ∃ z, ix l j = some z ∧ y = ((l.set i.toNat z).set j.toNat x, ()) := by
  unfold swapN at h
  simp only [Option.bind_eq_some_iff, Option.some.injEq] at h
  obtain ⟨x, hx, z, hz, rfl⟩ := h
  exact ⟨x, hx, z, hz, rfl⟩
theorem swap_xa {f : FuncId} {b te : Nat} {ie : TypeInfo} (hx : ∀ args W, (callFunc f args).run P W = ((Extern.ReflectliteSwapper.swap false args).run P W).andThen fun v w' => .ok (.value v) w') (hie : P.info? te = some ie) (hs : ie.size = 2)
    (hagg : ∀ w, (Go.isAgg te).run P w = .ok true w) (hb : P.globals.size = b) : XAContract P f (F_swap b te) swapN := by
  rintro ⟨i, j, l, u0⟩ y hy
  obtain ⟨x, hx1, z, hz1, he⟩ := swapN_inv (i := i) (j := j) (l := l) (y := y) hy
  subst he
  obtain ⟨i, rfl, hx2⟩ := ix_inv hx1
  obtain ⟨j, rfl, hz2⟩ := ix_inv hz1
  obtain ⟨hi, ex⟩ := List.getElem?_eq_some_iff.1 hx2
  obtain ⟨hj, ez⟩ := List.getElem?_eq_some_iff.1 hz2
  intro F ρ vs w hrw hob hra
  have hob : ∀ k, RelOb w F ρ k (lkO [(2000000, .na te .cnt l)] k) := hob
  have hsz : vs.size = 4 := hra.sz
  obtain ⟨v0, v1, v2, v3, rfl⟩ : ∃ v0 v1 v2 v3, vs = #[v0, v1, v2, v3] := by
    refine ⟨vs[0], vs[1], vs[2], vs[3], ?_⟩
    apply Array.ext
    · simpa using hsz
    · intro q h1 h2
      have : q = 0 ∨ q = 1 ∨ q = 2 ∨ q = 3 := by simp at h2; omega
      rcases this with rfl | rfl | rfl | rfl <;> rfl
  have h0 : RelAV w F ρ #[] (.cell (.d (iC .i64 i))) v0 := hra.rel 0 (by show 0 < 4; omega)
  have h1 : RelAV w F ρ #[] (.cell (.d (iC .i64 j))) v1 := hra.rel 1 (by show 1 < 4; omega)
  have h2 : RelAV w F ρ #[] (.cell (.own 2000000)) v2 := hra.rel 2 (by show 2 < 4; omega)
  have h3 : RelAV w F ρ #[] (.cell (.d (.sc (.pointer (some ⟨b, te, none⟩))))) v3 := hra.rel 3 (by show 3 < 4; omega)
  have e0 := (scV_rel h0 (u := .int .i64 i) rfl).1
  have e1 := (scV_rel h1 (u := .int .i64 j) rfl).1
  have e3 := (scV_rel h3 (u := .pointer (some ⟨b, te, none⟩)) rfl).1
  subst e0; subst e1; subst e3
  have hr : RelOb w F ρ 2000000 (.na te .cnt l) := hob 2000000
  cases hr with
  | na _ _ _ hr =>
  obtain ⟨u, xs, hk, hown, hxs, hh⟩ := arr_inv hr
  have e2 := own_inv h2 hk
  subst e2
  rcases hown.2 with ⟨_, hn0⟩ | ⟨g, cap, cur, hu1, _, hg, hcap, hcm, hcs, htake⟩
  · omega
  subst hu1
  have hsz2 : Ev.Ty.cnt.sz = 2 := rfl
  have hxl : xs.length = l.length * 2 := hown.1
  have hcs : cur.size = cap * 2 := hcs
  have htake : cur.toList.take (l.length * 2) = xs := htake
  have hfl : (flat .cnt l).length = l.length * 2 := flat_length .cnt l
  have hone : ∀ v ∈ cur.toList.take (l.length * ie.size), v.oneCell' = true := by
    rw [hs, htake]
    intro v hv
    obtain ⟨q, hq, rfl⟩ := List.getElem_of_mem hv
    have := (hh q (by omega)).oneCell
    rwa [List.getD_eq_getElem?_getD, List.getElem?_eq_getElem hq, Option.getD_some] at this
  have hrun := swap_run te ie hie hagg g l.length cap i j hi hj w cur hg (by rw [hs, hcs]; exact Nat.mul_le_mul_right _ hcap) hone
  have hth : (Value.pointer (some ⟨b, te, none⟩)) = typeHandle P te := by unfold typeHandle; rw [hb]
  refine ⟨.tuple #[], _, by rw [hx, hth]; rw [hrun]; rfl, ?_⟩
  rw [hs]
  have hcur : ∀ q (h : q < (flat .cnt l).length), RelD w F (flat .cnt l)[q] (cur.toList.getD q undef) := fun q hq => by
    have := hh q hq
    rw [← htake, getD_take (by omega)] at this
    exact this
  have hcl : cur.toList.length = cap * 2 := by simpa using hcs
  have part : ∀ (k : Nat) (c : Ev.Cnt), l[k]? = some c → ∀ q (h : q < (cells .cnt c).length), RelD w F (cells .cnt c)[q] (((cur.toList.drop (k * 2)).take 2).getD q undef) := fun k c hc q hq => by
    have hq2 : q < 2 := by rw [cells_length] at hq; exact hq
    rw [getD_take hq2, getD_drop]
    obtain ⟨hk', _⟩ := List.getElem?_eq_some_iff.1 hc
    have hat := flat_at .cnt hc
    have h5 : k * 2 + q < (flat .cnt l).length := by omega
    have := hcur _ h5
    have e : (cells .cnt c)[q] = (flat .cnt l)[k * 2 + q] := by
      have e6 : (cells .cnt c)[q]? = (flat .cnt l)[k * 2 + q]? := by
        rw [← hat, hsz2, List.getElem?_take, if_pos hq2, List.getElem?_drop]
      rw [List.getElem?_eq_getElem hq, List.getElem?_eq_getElem h5] at e6
      exact Option.some.inj e6
    exact (congrArg (fun d => RelD w F d (cur.toList.getD (k * 2 + q) undef)) e).mpr this
  have lp : ∀ k, k < l.length → ((cur.toList.drop (k * 2)).take 2).length = 2 := fun k hk => by simp; omega
  have c2 : ∀ c : Ev.Cnt, (cells .cnt c).length = 2 := fun c => cells_length .cnt c
  have r1 := rel_splice (w := w) (F := F) (i * 2) hcur (part j z hz2) (by rw [lp j hj, c2]) (by rw [c2]; omega) (by omega)
  have f1 := flat_set .cnt l i z hi
  rw [hsz2] at f1
  rw [f1] at r1
  have hl1 : (splice cur.toList (i * 2) ((cur.toList.drop (j * 2)).take 2)).length = cap * 2 := by rw [splice_length _ _ _ (by rw [lp j hj]; omega), hcl]
  have hfl1 : (flat .cnt (l.set i z)).length = l.length * 2 := by
    have := flat_length .cnt (List.set l i z)
    rw [List.length_set] at this
    exact this
  have r2 := rel_splice (w := w) (F := F) (j * 2) r1 (part i x hx2) (by rw [lp i hi, c2]) (by rw [c2, hfl1]; omega) (by rw [hl1]; omega)
  have f2 := flat_set .cnt (l.set i z) j x (by simpa using hj)
  rw [hsz2] at f2
  rw [f2] at r2
  have hg2 := setRow_heap w g cur (splice cur.toList (i * 2) ((cur.toList.drop (j * 2)).take 2)).toArray te (0, 0) hg
  refine row_end (l' := List.set (List.set l i z) j x) hrw hob hk (by simp) hcap hcm hcs (new := splice (splice cur.toList (i * 2) ((cur.toList.drop (j * 2)).take 2)) (j * 2) ((cur.toList.drop (i * 2)).take 2)) ?_ (setRow_heap _ g _ _ te (0, 0) hg2) rfl rfl rfl (by simp [World.setRow]) (fun b' hb' => ?_) r2
  · rw [splice_length _ _ _ (by rw [lp i hi, hl1]; omega), hl1, hcs]
  · rw [setRow_other _ g b' _ hb', setRow_other _ g b' _ hb']
/-! ## sort.SliceStable -/
def F_stb (b te sw less : Nat) : FnT := ⟨2, ⟨[(0, .two (.clo less [2000000]) (.cls sw 2000001 b te))], [(1, .i64)], [(2000000, .box [.ref (.own 2000001)]), (2000001, .arr te .cnt)]⟩, [], [(2000000, .box [.ref (.own 2000001)]), (2000001, .arr te .cnt)]⟩
def F_ss (ts te less : Nat) : FnT := ⟨2, ⟨[(0, .ifo ts 2000000), (1, .clo less [2000016])], [], [(2000000, .arr te .cnt), (2000016, .box [.ref (.own 2000000)])]⟩, [], [(2000000, .arr te .cnt), (2000016, .box [.ref (.own 2000000)])]⟩
/-- at most so many that the kit's own bound is kept -/
def ssN (nf : Int × Unit × List Ev.Cnt × Unit → Option (Unit × List Ev.Cnt × Unit)) : List Ev.Cnt × Unit × Unit → Option (List Ev.Cnt × Unit × Unit) := fun (l, _, _) =>
  bif Nat.ble l.length 1 then some (l, (), ()) else bif Nat.ble l.length 4000000000000000000 then (nf ((l.length : Int), (), l, ())).bind fun (_, l', _) => some (l', (), ()) else none
omit [Tabs] in
theorem ssN_inv {nf : Int × Unit × List Ev.Cnt × Unit → Option (Unit × List Ev.Cnt × Unit)} {l : List Ev.Cnt} {y : List Ev.Cnt × Unit × Unit} (h : ssN nf (l, (), ()) = some y) :
    (l.length ≤ 1 ∧ y = (l, (), ())) ∨ (2 ≤ l.length ∧ l.length ≤ 4000000000000000000 ∧ ∃ l', nf ((l.length : Int), (), l, ()) = some ((), l', ()) ∧ y = (l', (), ())) := by
  unfold ssN at h
  dsimp only at h
  cases h1 : Nat.ble l.length 1 with
  | true => rw [h1] at h; exact .inl ⟨Nat.le_of_ble_eq_true h1, by simpa using h.symm⟩
  | false =>
    rw [h1] at h
    have h2 : ¬ l.length ≤ 1 := fun hh => by rw [Nat.ble_eq_true_of_le hh] at h1; cases h1
    cases h3 : Nat.ble l.length 4000000000000000000 with
    | false => rw [h3] at h; cases h
    | true =>
      rw [h3] at h
      simp only [cond_true, cond_false, Option.bind_eq_some_iff, Option.some.injEq] at h
      obtain ⟨⟨u, l', u'⟩, h4, rfl⟩ := h
      exact .inr ⟨by omega, Nat.le_of_ble_eq_true h3, l', h4, rfl⟩
/-- what SliceStable is called with: a row, and a box that holds it -/
def ssOb (te : Nat) (l : List Ev.Cnt) : List (Nat × AObj) := [(2000000, .na te .cnt l), (2000016, .box [.own 2000000] none)]
def stOb (te : Nat) (l : List Ev.Cnt) : List (Nat × AObj) := [(2000000, .box [.own 2000001] none), (2000001, .na te .cnt l)]
def ssM : List (Nat × Nat) := [(2000000, 2000016), (2000001, 2000000)]
omit [Tabs] in
theorem ss_obsTo (te : Nat) (l : List Ev.Cnt) : obsTo (ssOb te l) ssM [] = stOb te l := rfl
omit [Tabs] in
theorem ss_after (te : Nat) (l l' : List Ev.Cnt) (k : Nat) : lkO (afterCall ssM [] none (.tup []) (stOb te l') ⟨[], ssOb te l⟩).ob k = lkO (ssOb te l') k := by
  by_cases h1 : k = 2000016
  · subst h1; rfl
  · by_cases h2 : k = 2000000
    · subst h2; rfl
    · have nb : ∀ q, k ≠ q → Nat.beq k q = false := fun q hq => by
        cases hb : Nat.beq k q with
        | true => exact absurd (Nat.eq_of_beq_eq_true hb) hq
        | false => rfl
      have e1 := nb _ h1
      have e2 := nb _ h2
      simp [afterCall, ssM, ssOb, ASt.put, lkO, e1, e2]
theorem sliceStable {ρn : Go.Shelf.Ren} (L : Go.Proofs.LaysGt.n8 P ρn) {ts te less sw : Nat} {i ie : TypeInfo} (hi : P.info? ts = some i) (hd : i.desc = .slice te) (hpk : P.packed ts = false) (hie : P.info? te = some ie) (ke : Nat)
    (hke : ∀ w, (Extern.Rtype.kind te).run P w = .ok ke w) (hK : ∀ n, ∃ f, P.funcs.findIdx? (·.name == "internal/reflectlite" ++ ".Swapper$" ++ toString (Go.Lib.swapperK n ie ke)) = some f ∧ (2 ≤ n → f = sw))
    {nf : Int × Unit × List Ev.Cnt × Unit → Option (Unit × List Ev.Cnt × Unit)} (hc : Contract P (ρn.f 15) (F_stb P.globals.size te sw less) nf) : Contract P (ρn.f 8) (F_ss ts te less) (ssN nf) := by
  rintro ⟨l, u1, u2⟩ y hy
  have hinv := ssN_inv (l := l) (y := y) hy
  intro F ρ vs w hrw hob hra
  have hob : ∀ k, RelOb w F ρ k (lkO (ssOb te l) k) := hob
  have hsz : vs.size = 2 := hra.sz
  obtain ⟨v0, v1, rfl⟩ : ∃ v0 v1, vs = #[v0, v1] := by
    refine ⟨vs[0], vs[1], ?_⟩
    apply Array.ext
    · simpa using hsz
    · intro q h1 h2
      have : q = 0 ∨ q = 1 := by simp at h2; omega
      rcases this with rfl | rfl <;> rfl
  have h0 : RelAV w F ρ #[] (.cell (.ifo ts 2000000)) v0 := hra.rel 0 (by show 0 < 2; omega)
  have h1 : RelAV w F ρ #[] (.cell (.fn (.func less) [] [.ptr 2000016 0])) v1 := hra.rel 1 (by show 1 < 2; omega)
  have hr : RelOb w F ρ 2000000 (.na te .cnt l) := hob 2000000
  cases hr with
  | na _ _ _ hr =>
  obtain ⟨u, xs, hk, hown, hxs, hh⟩ := arr_inv hr
  have e0 : v0 = .iface ts u := by
    cases h0 with
    | cell _ _ h => cases h with
      | ifo _ _ _ h => exact h u hk
  subst e0
  obtain ⟨us1, us2, e1, hu1, hu2, hc2⟩ : ∃ us1 us2 : Array Value, v1 = .func (.func less) us1 us2 ∧ us1.size = 0 ∧ us2.size = 1 ∧ RelAC w F ρ (.ptr 2000016 0) (us2.getD 0 undef) := by
    cases h1 with
    | cell _ _ h => cases h with
      | fn _ _ _ a b h1 h2 hf hc => exact ⟨a, b, rfl, h1, h2, hc 0 (by show 0 < 1; omega)⟩
  subst e1
  have hu1 : us1 = #[] := Array.eq_empty_of_size_eq_zero hu1
  subst hu1
  obtain ⟨p, n, c, rfl, hn⟩ : ∃ p n c, u = .slice p n c ∧ n = l.length := by
    rcases hown.2 with ⟨hv, hn⟩ | ⟨g, cap, cur, hv, _⟩
    · exact ⟨none, 0, 0, hv, hn.symm⟩
    · exact ⟨_, _, _, hv, rfl⟩
  subst hn
  obtain ⟨f, hf, hsw⟩ := hK (List.length l)
  have fin : ∀ (l' : List Ev.Cnt) (e : Ending) (w' : World), (∃ F' ρ' rr ob', EX (.tup []) (ssOb te l') rr ob' ∧ RelEnd w' F' ρ' rr e ∧ RelW F' ρ' w' ∧ (∀ k, RelOb w' F' ρ' k (lkO ob' k)) ∧ Fr F ρ w F' ρ' w') →
      ∃ F' ρ' rr ob', EX ((F_ss ts te less).res (l', (), ())) ((F_ss ts te less).ob2 (l', (), ())) rr ob' ∧ RelEnd w' F' ρ' rr e ∧ RelW F' ρ' w' ∧ (∀ k, RelOb w' F' ρ' k (lkO ob' k)) ∧ Fr F ρ w F' ρ' w' := fun _ _ _ h => h
  rcases hinv with ⟨hle, rfl⟩ | ⟨h2, hmax, l', hl', rfl⟩
  · refine (Go.Proofs.Any.sort_SliceStable_tiny L ts te i ie hi hd hpk hie ke hke p (List.length l) c hle f hf (.func less) #[] us2 w).mono fun e w' ⟨he, os, hw⟩ => ?_
    subst he
    subst hw
    have hkeep : ∀ b, b < w.heap.size → (Go.Sort.grow w os).heap[b]? = w.heap[b]? := fun b hb => by
      show (w.heap ++ os)[b]? = _
      rw [Array.getElem?_append_left hb]
    refine fin l _ _ ⟨F, ρ, _, _, ⟨rfl, rfl⟩, .tup [] #[] rfl fun i hi => by simp at hi, ⟨hrw.dis, fun b hf => Nat.lt_of_lt_of_le (hrw.lt b hf) ?_, hrw.inj, hrw.tab_of (fun b hf => hkeep b (hrw.lt b hf)) fun _ h => h⟩,
      fun k => (hob k).through (fun b hf => hkeep b (hrw.lt b hf)) (fun _ h => h) fun l b hk hl => hkeep b ((hob k).lt hk hl), ⟨rfl, rfl, rfl, ?_, fun _ h => h, fun b hbb _ => hkeep b hbb, fun _ _ h => h, fun _ _ => Stab.refl _ _⟩⟩
    all_goals (show w.heap.size ≤ (w.heap ++ os).size; rw [Array.size_append]; omega)
  · have hfsw := hsw h2
    subst hfsw
    have hB : Go.Proofs.sliceBound P te ie ke p (List.length l) c = #[.slice p (List.length l) c, typeHandle P te] := by
      unfold Go.Proofs.sliceBound
      rw [if_neg (Go.Proofs.swapperK_gt _ _ _ h2)]
    generalize hw1 : Go.Proofs.stableWorld P ρn ts p (List.length l) c w = w1
    obtain ⟨os, hos⟩ : ∃ os, w1 = Go.Sort.grow w os := ⟨_, by rw [← hw1]; unfold Go.Proofs.stableWorld; rw [Go.Sort.alloc_eq_grow, Go.Sort.alloc_eq_grow, Go.Sort.grow_grow]⟩
    have hkeep : ∀ b, b < w.heap.size → w1.heap[b]? = w.heap[b]? := fun b hb => by
      rw [hos]
      show (w.heap ++ os)[b]? = _
      rw [Array.getElem?_append_left hb]
    have hsize : w.heap.size ≤ w1.heap.size := by rw [hos]; show w.heap.size ≤ (w.heap ++ os).size; rw [Array.size_append]; omega
    have hrw1 : RelW F ρ w1 := ⟨hrw.dis, fun b hf => Nat.lt_of_lt_of_le (hrw.lt b hf) hsize, hrw.inj, hrw.tab_of (fun b hf => hkeep b (hrw.lt b hf)) fun _ h => h⟩
    have hob1 : ∀ k, RelOb w1 F ρ k (lkO (ssOb te l) k) := fun k => (hob k).through (fun b hf => hkeep b (hrw.lt b hf)) (fun _ h => h) fun l b hk hl => hkeep b ((hob k).lt hk hl)
    have hfr1 : Fr F ρ w F ρ w1 := ⟨by rw [hos]; rfl, by rw [hos]; rfl, by rw [hos]; rfl, hsize, fun _ h => h, fun b hbb _ => hkeep b hbb, fun _ _ h => h, fun _ _ => Stab.refl _ _⟩
    have hrel : Rel 0 F ρ ⟨[], ssOb te l⟩ ({ tmps := #[], defers := [] } : Act) w1 := ⟨hrw1, fun i => .junk _, hob1, rfl, by simp, by omega⟩
    obtain ⟨x1, x2, x3⟩ := ocall_entry hrel (m := ssM) (ns := []) rfl
    refine Go.Proofs.Any.sort_SliceStable_of_stable L ts te i ie hi hd hpk hie ke hke p (List.length l) c (by omega) f hf (.func less) #[] us2 w
      (fun w' => ∃ F' ρ' rr ob', EX (.tup []) (ssOb te l') rr ob' ∧ RelEnd w' F' ρ' rr (.returned (.tuple #[])) ∧ RelW F' ρ' w' ∧ (∀ k, RelOb w' F' ρ' k (lkO ob' k)) ∧ Fr F ρ w F' ρ' w') ?_ |>.mono fun e w' ⟨he, hR⟩ => by subst he; exact fin l' _ _ hR
    rw [hw1, hB]
    refine (hc (((List.length l : Nat) : Int), (), l, ()) ((), l', ()) hl' F (envTo ρ ssM []) _ w1 x1 (fun k => x2 k (.inr rfl)) ⟨rfl, fun q hq => ?_⟩).mono fun en w' ⟨F', ρ', rr, ob', hq, hre, hrw', hrob, hfr⟩ => ?_
    · have hq2 : q < 2 := hq
      have : q = 0 ∨ q = 1 := by omega
      rcases this with rfl | rfl
      · have hptr : ∀ b, ρ 2000016 = some (.box b) → us2.getD 0 undef = .pointer (some ⟨b, 0, none⟩) := by
          cases hc2 with
          | ptr _ _ _ h => exact h
        show RelAV w1 F (envTo ρ ssM []) #[] (.agg [.fn (.func less) [] [.ptr 2000000 0], .fn (.func f) [] [.own 2000001, .d (.sc (.pointer (some ⟨P.globals.size, te, none⟩)))]]) (.agg #[.func (.func less) #[] us2, .func (.func f) #[] #[.slice p (List.length l) c, typeHandle P te]])
        refine .agg _ _ rfl fun q2 hq2 => ?_
        have : q2 = 0 ∨ q2 = 1 := by simp at hq2; omega
        rcases this with rfl | rfl
        · refine .fn _ _ _ _ _ rfl hu2 (fun i hi => by simp at hi) fun i hi => ?_
          obtain rfl : i = 0 := by simp at hi; omega
          exact .ptr _ _ _ fun b hb => hptr b hb
        · refine .fn _ _ _ _ _ rfl rfl (fun i hi => by simp at hi) fun i hi => ?_
          have : i = 0 ∨ i = 1 := by simp at hi; omega
          rcases this with rfl | rfl
          · refine .own _ _ fun u hu => ?_
            have hu : ρ 2000000 = some (.arr u) := hu
            rw [hk] at hu
            cases hu
            rfl
          · exact .d _ _ (.sc _ rfl)
      · exact .cell _ _ (.d _ _ (.sc _ rfl))
    · obtain ⟨rfl, rfl⟩ := hq
      cases en with
      | returned v =>
        have hv : RelAV w' F' ρ' #[] (.tup []) v := hre
        have hv2 : v = .tuple #[] := by
          cases hv with
          | tup _ arr hz _ =>
            have hz : arr.size = 0 := hz
            rw [Array.eq_empty_of_size_eq_zero hz]
        subst hv2
        obtain ⟨y1, y2⟩ := ocall_back hrel (m := ssM) (nw := []) (ns := []) (d := none) rfl hrw' hrob hfr hre rfl
        refine ⟨rfl, F', _, _, _, ⟨rfl, rfl⟩, .tup [] #[] rfl fun i hi => by simp at hi, y1.rw, fun k => ?_, hfr1.trans hrw1.dis y2⟩
        have := y1.ob k
        rw [← ss_after te l l' k]
        exact this
      | panicked chain => exact hre.elim
      | outgrown => exact hre.elim
end
end Esp

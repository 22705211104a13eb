/- EV: what walks by hand (with the kit's tactics) say of rows: rows that were sorted, or cut, in place. No program. -/
import Derived.Test.YtpfhkokjpmkbkaaGreatDoorEvFn
import Derived.Sort.EncStr
import Derived.Sort.Grow
import Derived.Sort.Row
import Derived.Deep.Upon
namespace Esp
open Go Go.Sort Go.Proofs
set_option linter.unusedSimpArgs false
set_option linter.unusedVariables false
section
variable {α : Type} [Inhabited α] {enc : α → Value} {w w' : World} {g cap n base : Nat} {te : TypeId}
theorem own_holds {xs : List α} (ho : w.ownsRow base te 1 (.slice (some ⟨g, 0, none⟩) n cap) n (xs.map enc)) : Holds enc w g 0 xs.toArray := by
  have hl : xs.length = n := by have := ho.1; simpa using this
  intro j hj
  have hj' : j < xs.length := by simpa using hj
  have h5 := ho.cells (g := g) rfl j (enc xs[j]) (by simp [hj'])
  rw [Addr.add_lit] at h5
  refine ⟨?_, ?_⟩
  · rw [h5]
    simp [getElem!_pos, hj']
  · exact ho.frozenAt _
theorem own_lt {v : Value} {xs : List Value} (ho : w.ownsRow base te 1 v n xs) {b : Nat} (hb : v.ownBlock = some b) : b < w.heap.size := (ho.lt b hb).2
theorem own_put {xs : List Value} (ho : w.ownsRow base te 1 (.slice (some ⟨g, 0, none⟩) n cap) n xs) {zs : List α} (hz : zs.length = n) {q : Nat} {os : Array Obj} (hw : w' = grow (putRow enc (ahead w q) g 0 zs.toArray) os) :
    w'.ownsRow base te 1 (.slice (some ⟨g, 0, none⟩) n cap) n (zs.map enc) ∧ w.grownBy w' (some g) := by
  have hsize : g < w.heap.size := own_lt ho rfl
  rcases ho.2 with ⟨hv0, hn0⟩ | ⟨g2, cap2, cur, hv0, hg, hcur, hcap, hm, hcs, htake⟩
  · cases hv0
  · cases hv0
    have hheap : w'.heap = (w.heap.modify g (onCells (putCells enc 0 zs.toArray))) ++ os := by rw [hw]; rfl
    have hget : ∀ b, b < w.heap.size → w'.heap[b]? = if g = b then (w.heap[b]?).map (onCells (putCells enc 0 zs.toArray)) else w.heap[b]? := fun b hb => by
      rw [hheap, Array.getElem?_append_left (by simpa using hb), Array.getElem?_modify]
    refine ⟨⟨by simp [hz], .inr ⟨g, cap, putCells enc 0 zs.toArray cur, rfl, hg, ?_, hcap, hm, ?_, ?_⟩⟩, ⟨by rw [hw]; rfl, by rw [hw]; rfl, by rw [hw]; rfl, by rw [hheap]; simp, fun b hb hne => ?_⟩⟩
    · rw [hget g hsize, if_pos rfl, hcur]
      rfl
    · simp only [putCells, Array.size_mapIdx]
      exact hcs
    · apply List.ext_getElem?
      intro i
      rw [Nat.mul_one, List.getElem?_take, Array.getElem?_toList]
      simp only [putCells, Array.getElem?_mapIdx, List.getElem?_map]
      by_cases hi : i < zs.length
      · have hic : i < cur.size := by omega
        rw [if_pos (by omega), Array.getElem?_eq_getElem hic, Option.map_some, if_pos ⟨Nat.zero_le _, by simpa using hi⟩, List.getElem?_eq_getElem hi]
        simp [getElem!_pos, hi]
      · rw [if_neg (by omega), List.getElem?_eq_none (by omega)]
        rfl
    · rw [hget b hb, if_neg fun e => hne (by rw [e])]
theorem own_take {xs : List Value} (ho : w.ownsRow base te 1 (.slice (some ⟨g, 0, none⟩) n cap) n xs) {k : Nat} (hk : k ≤ n) : w.ownsRow base te 1 (.slice (some ⟨g, 0, none⟩) k cap) k (xs.take k) := by
  rcases ho.2 with ⟨hv0, hn0⟩ | ⟨g2, cap2, cur, hv0, hg, hcur, hcap, hm, hcs, htake⟩
  · cases hv0
  · cases hv0
    have h1 := ho.1
    refine ⟨by rw [List.length_take, h1]; omega, .inr ⟨g, cap, cur, rfl, hg, hcur, by omega, hm, hcs, ?_⟩⟩
    rw [← htake, List.take_take]
    congr 1
    omega
theorem own_shape {v : Value} {xs : List Value} (ho : w.ownsRow base te 1 v n xs) : (v = .slice none 0 0 ∧ n = 0) ∨ ∃ g cap, v = .slice (some ⟨g, 0, none⟩) n cap ∧ n ≤ cap ∧ cap ≤ maxLen := by
  rcases ho.2 with h | ⟨g2, cap2, cur, hv0, hg, hcur, hcap, hm, hcs, htake⟩
  · exact .inl h
  · exact .inr ⟨g2, cap2, hv0, hcap, hm⟩
theorem own_base {v : Value} {xs : List Value} (ho : w.ownsRow base te 1 v n xs) {base' : Nat} (h : base' ≤ base) : w.ownsRow base' te 1 v n xs := by
  refine ⟨ho.1, ?_⟩
  rcases ho.2 with h0 | ⟨g2, cap2, cur, hv0, hg, r⟩
  · exact .inl h0
  · exact .inr ⟨g2, cap2, cur, hv0, Nat.le_trans h hg, r⟩
theorem own_below {v : Value} {xs : List Value} (ho : w.ownsRow base te 1 v n xs) (hb : RowKit.Below w.heap.size w w') : w'.ownsRow base te 1 v n xs := by
  refine ⟨ho.1, ?_⟩
  rcases ho.2 with h0 | ⟨g2, cap2, cur, hv0, hg, hcur, r⟩
  · exact .inl h0
  · exact .inr ⟨g2, cap2, cur, hv0, hg, (hb.block _ (Array.getElem?_eq_some_iff.1 hcur).1).trans hcur, r⟩
theorem grown_below {v : Value} {xs : List Value} {m : Nat} (ho : w.ownsRow m te 1 v n xs) (hg : w.grownBy w' v.ownBlock) (hm : m ≤ w.heap.size) : RowKit.Below m w w' :=
  ⟨hg.os, hg.tape, hg.output, hg.size, fun k hk => hg.block k (by omega) fun e => by have := (ho.lt k e.symm).1; omega⟩
theorem append_none_run {P : Program} {t : TypeId} {i : TypeInfo} (ty : TypeId) (ht : P.underlying t = some (.slice te)) (hi : P.info? te = some i) {size : Nat} {v : Value} {xs : List Value} (ho : w.ownsRow base te size v n xs) :
    (Builtin.append_ #[t, t] ty #[v, .slice none 0 0]).run P w = .ok v w := by
  rcases ho.2 with ⟨rfl, hn0⟩ | ⟨g2, cap2, cur, rfl, hg, hcur, hcap, r⟩
  · exact run_append_nothing w t t ty te i ht hi none 0 0 (Nat.le_refl _) _ (Src.ofNil w ht 0)
  · exact run_append_nothing w t t ty te i ht hi (some ⟨g2, 0, none⟩) n cap2 hcap _ (Src.ofNil w ht 0)
theorem wpList_append_none {P : Program} {W : World} {ops : Array Oper} {rest : List Oper} {o : Oper} {a : Act} {Q : Exit → Act → World → Prop} (hgd : o.guard = none) (s x : Operand) (t : TypeId)
    (ho : o.op = .call { callee := .builtin .append, args := #[s, x], argTypes := #[t, t] }) (v : Value) (hs : a.eval s = v) (hx : a.eval x = .slice none 0 0)
    (hr : (Builtin.append_ #[t, t] o.type #[v, .slice none 0 0]).run P W = .ok v W) (h : wpList P ops Q rest (a.put o.dst v) W) : wpList P ops Q (o :: rest) a W := by
  refine wpList_plain hgd fun K hK => ?_
  unfold Oper.wp execOp
  simp only [ho, resolve, invoke, builtin, Sem.run_bind, Sem.run_pure, Result.andThen_ok, List.map_toArray, List.map_cons, List.map_nil, hs, hx, hr]
  exact hK _ _ h
end
/-! ## frozen data, taken apart -/
section
theorem sc_inv {w : World} {F : Nat → Prop} {u v : Value} (h : RelD w F (.sc u) v) : v = u := by
  cases h with
  | sc _ _ => rfl
theorem nl_inv {w : World} {F : Nat → Prop} {t : Ev.Ty} {l : List t.den} {v : Value} (h : RelD w F (.nl t l) v) : RelD w F (.sl t.sz l.length (flat t l)) v := by
  cases h with
  | nl _ _ _ h => exact h
theorem nl_slice {w : World} {F : Nat → Prop} {t : Ev.Ty} {l : List t.den} {v : Value} (h : RelD w F (.nl t l) v) : ∃ p q r, v = .slice p q r := by
  have h := nl_inv h
  generalize hfl : flat t l = fl at h
  generalize hln : l.length = ln at h
  cases h with
  | nil e a cap => exact ⟨_, _, _, rfl⟩
  | sl => exact ⟨_, _, _, rfl⟩
theorem flat_sub {t : Ev.Ty} {l : List t.den} {i j : Nat} (hi : i < l.length) (hj : j < t.sz) : (flat t l)[i * t.sz + j]? = (cells t l[i])[j]? := by
  have h := flat_at t (xs := l) (i := i) (x := l[i]) (by simp [hi])
  rw [← h, List.getElem?_take, if_pos hj, List.getElem?_drop]
theorem sl_inv {w : World} {F : Nat → Prop} {e n : Nat} {cs : List D} {v : Value} (h : RelD w F (.sl e n cs) v) : (n = 0 ∧ ∃ a cap, v = .slice a 0 cap) ∨
    ∃ b off cap, ∃ c : Nat → Value, v = .slice (some ⟨b, off, none⟩) n cap ∧ F b ∧ (∀ i, i < cs.length → w.cell? ⟨b, off + i, none⟩ = some (c i)) ∧ ∀ i (h : i < cs.length), RelD w F cs[i] (c i) := by
  cases h with
  | nil e a cap => exact .inl ⟨rfl, a, cap, rfl⟩
  | sl e nn cs b off cap c hF hl hcap hc hr => exact .inr ⟨b, off, cap, c, rfl, hF, hc, hr⟩
theorem nl_cells {w : World} {F : Nat → Prop} {t : Ev.Ty} {l : List t.den} {v : Value} (h : RelD w F (.nl t l) v) : ∃ ao b off cap, v = .slice ao l.length cap ∧ (l.length ≠ 0 → ao = some ⟨b, off, none⟩) ∧ (l.length ≠ 0 → F b) ∧
    ∀ i (hi : i < l.length), ∀ j, j < t.sz → ∃ x c, (cells t l[i])[j]? = some x ∧ w.cell? ⟨b, off + (i * t.sz + j), none⟩ = some c ∧ RelD w F x c := by
  rcases sl_inv (nl_inv h) with ⟨h0, a, cap, rfl⟩ | ⟨b, off, cap, c, rfl, hF, hc, hr⟩
  · exact ⟨a, 0, 0, cap, by rw [h0], fun h => absurd h0 h, fun h => absurd h0 h, fun i hi => by omega⟩
  · refine ⟨some ⟨b, off, none⟩, b, off, cap, rfl, fun _ => rfl, fun _ => hF, fun i hi j hj => ?_⟩
    have hlt : i * t.sz + j < (flat t l).length := by
      rw [flat_length]
      have : (i + 1) * t.sz ≤ l.length * t.sz := Nat.mul_le_mul_right _ hi
      rw [Nat.add_mul] at this
      omega
    have e1 := flat_sub (t := t) (l := l) (i := i) (j := j) hi hj
    rw [List.getElem?_eq_getElem hlt] at e1
    exact ⟨_, _, e1.symm, hc _ hlt, hr _ hlt⟩
def nobody : Env := fun _ => none
@[reducible] def bareT [t : Tabs] : Tabs := @Tabs.mk t.get [] none
def baL (x : List UInt8) : ByteArray := ⟨x.toArray⟩
theorem flat_str (xs : List ByteArray) : flat .str xs = xs.map sC := by
  unfold flat
  induction xs with
  | nil => rfl
  | cons a r ih => simp only [List.flatMap_cons, List.map_cons, ih]; rfl
theorem relD_strs {w : World} {F : Nat → Prop} {base te : Nat} {v : Value} {S : List (List UInt8)} (ho : w.ownsRow base te 1 v S.length (S.map encStr)) (hF : ∀ b, v.ownBlock = some b → F b) : RelD w F (.nl .str (S.map baL)) v := by
  refine .nl _ _ _ ?_
  rw [flat_str, List.map_map, List.length_map]
  rcases own_shape ho with ⟨rfl, h0⟩ | ⟨g, cap, rfl, h1, h2⟩
  · obtain rfl : S = [] := List.eq_nil_of_length_eq_zero h0
    exact .nil 1 none 0
  · refine .sl 1 S.length _ g 0 cap (fun i => (S.map encStr).getD i undef) (hF g rfl) (by simp) h1 (fun i hi => ?_) fun i hi => ?_
    · have hi2 : i < (S.map encStr).length := by simpa using hi
      have := ho.cells (g := g) rfl i (S.map encStr)[i] (List.getElem?_eq_getElem hi2)
      rw [Addr.add_lit, Nat.zero_add] at this
      rw [Nat.zero_add, this, List.getD_eq_getElem?_getD, List.getElem?_eq_getElem hi2]
      rfl
    · have hi2 : i < S.length := by simpa using hi
      have e : (S.map encStr).getD i undef = encStr S[i] := by simp [List.getD_eq_getElem?_getD, hi2]
      rw [e, List.getElem_map]
      exact .sc _ rfl
theorem freeze_strs [Tabs] {F : Nat → Prop} {w w' : World} {te : Nat} {v : Value} {S : List (List UInt8)} (hrw : RelW F nobody w) (hb : RowKit.Below w.heap.size w w') (ho : w'.ownsRow w.heap.size te 1 v S.length (S.map encStr)) :
    ∃ F' ρ' r ob', EX (.cell (.d (.nl .str (S.map baL)))) [] r ob' ∧ RelEnd w' F' ρ' r (.returned v) ∧ RelW F' ρ' w' ∧ (∀ k, RelOb w' F' ρ' k (lkO ob' k)) ∧ Fr F nobody w F' ρ' w' := by
  have hl : ∀ b, v.ownBlock = some b → w.heap.size ≤ b ∧ b < w'.heap.size := fun b h => ho.lt b h
  refine ⟨fun b => F b ∨ v.ownBlock = some b, nobody, .ret (.cell (.d (.nl .str (S.map baL)))), [], ⟨rfl, rfl⟩, .cell _ _ (.d _ _ (relD_strs ho fun b h => .inr h)), ⟨?_, ?_, ?_, ?_⟩, fun k => .gone rfl,
    ⟨hb.os, hb.tape, hb.output, hb.size, fun b h => .inl h, fun b hlt _ => hb.block b hlt, ?_, fun _ _ => Stab.refl _ _⟩⟩
  · rintro b _ ⟨k, l, h, _⟩
    cases h
  · rintro b (h | h)
    · exact Nat.lt_of_lt_of_le (hrw.lt b h) hb.size
    · exact (hl b h).2
  · intro k k' l l' b h
    cases h
  · exact hrw.tab_of (fun b h => hb.block b (hrw.lt b h)) fun b h => .inl h
  · rintro b hlt (h | h)
    · rcases h with h | h
      · exact .inl h
      · have := (hl b h).1
        omega
    · exact .inr h
end
end Esp

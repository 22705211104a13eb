/- EV, part 2d: plain data as a state's value. -/
import Derived.Test.YtjecnkdkhniflaaDoorEvNilq
namespace Esp
open Go
set_option linter.unusedSimpArgs false
set_option linter.unusedVariables false
variable [Tabs]

/-! ## one value -/
open Ev in
def avOf : (t : Ty) → t.den → AV
  | .i64, n => .cell (.d (iC .i64 n)) | .u8, n => .cell (.d (iC .u8 n)) | .u32, n => .cell (.d (iC .u32 n)) | .u64, n => .cell (.d (iC .u64 n)) | .i32, n => .cell (.d (iC .i32 n))
  | .bool, b => .cell (.d (bC b)) | .str, s => .cell (.d (sC s))
  | .lst t, l => .cell (.d (.nl t l))
  | .ptr t, x => .cell (.d (.rp (cells0 t x)))
  | .two t, x => .aggD (cells0 t x.1 ++ cells0 t x.2)
  | .map k v, l => .cell (.d (.nm k v l))
  | t, x => .aggD (cells0 t x)
omit [Tabs] in
theorem dle.rel {x y : D} (h : dle x y) {w : World} {F : Nat → Prop} {ρ : Env} {tm : Array Value} {v : Value} (hr : RelAV w F ρ tm (.cell (.d x)) v) : RelAV w F ρ tm (.cell (.d y)) v :=
  .cell _ _ (.d _ _ (h _ _ _ (cell_inv hr)))
omit [Tabs] in
theorem dsle.rel {cs ds : List D} (h : dsle cs ds) {w : World} {F : Nat → Prop} {ρ : Env} {tm : Array Value} {v : Value} (hr : RelAV w F ρ tm (.aggD cs) v) : RelAV w F ρ tm (.aggD ds) v := by
  cases hr with
  | aggD cs arr hs hh => exact .aggD _ arr (hs.trans h.length) fun i hi => h.get i (by rw [h.length]; exact hi) hi _ _ _ (hh i (by rw [h.length]; exact hi))

def _root_.Ev.Ty.agg : Ev.Ty → Bool
  | .i64 | .u8 | .u32 | .u64 | .i32 | .bool | .str | .lst _ | .ptr _ | .map _ _ => false
  | _ => true
def rdAV' (t : Ev.Ty) (x : AV) : Option t.den :=
  match x with
  | .cell (.d x) => bif t.agg then none else rd t [x]
  | .aggD cs => bif t.agg then rd t cs else none
  | _ => none
omit [Tabs] in
theorem avOf_agg {t : Ev.Ty} (h : t.agg = true) (x : t.den) : avOf t x = .aggD (cells t x) := by
  cases t <;> first | rfl | (simp [Ev.Ty.agg] at h)
omit [Tabs] in
theorem avOf_one {t : Ev.Ty} (h : t.agg = false) (x : t.den) : ∃ y, cells t x = [y] ∧ avOf t x = .cell (.d y) := by
  cases t <;> first | exact ⟨_, rfl, rfl⟩ | (simp [Ev.Ty.agg] at h)
omit [Tabs] in
theorem rdAV_le {t : Ev.Ty} {x : AV} {y : t.den} (h : rdAV' t x = some y) {w : World} {F : Nat → Prop} {ρ : Env} {tm : Array Value} {v : Value} (hr : RelAV w F ρ tm x v) : RelAV w F ρ tm (avOf t y) v := by
  unfold rdAV' at h
  split at h
  · cases ha : t.agg with
    | true => rw [ha] at h; cases h
    | false =>
      rw [ha] at h
      obtain ⟨c, h1, h2⟩ := avOf_one ha y
      have := rd_le h
      rw [h1] at this
      rw [h2]
      exact this.1.rel hr
  · cases ha : t.agg with
    | false => rw [ha] at h; cases h
    | true =>
      rw [ha] at h
      rw [avOf_agg ha]
      exact (rd_le h).rel hr
  · cases h
omit [Tabs] in
theorem avOf_plain (t : Ev.Ty) (x : t.den) : (avOf t x).plain = true := by cases t <;> rfl
/-! ## and as a value of the model -/
omit [Tabs] in
theorem agg_sz {t : Ev.Ty} : t.agg = true ↔ t.sz ≠ 1 := by
  cases t <;> first | (simp [Ev.Ty.agg, Ev.Ty.sz, Ev.Ty.sz0]; done) | (rename_i u; have := Ev.Ty.sz0_pos u; simp [Ev.Ty.agg, Ev.Ty.sz]; omega)
omit [Tabs] in
theorem relE_of_av {w : World} {F : Nat → Prop} {ρ : Env} {tm : Array Value} {t : Ev.Ty} {x : t.den} {v : Value} (h : RelAV w F ρ tm (avOf t x) v) : RelE w F t x v := by
  unfold RelE
  cases ha : t.agg with
  | true =>
    rw [avOf_agg ha] at h
    rw [if_neg (agg_sz.1 ha)]
    cases h with
    | aggD cs arr hs hh => exact ⟨arr, rfl, hs, hh⟩
  | false =>
    have hz : t.sz = 1 := by
      by_cases h1 : t.sz = 1
      · exact h1
      · rw [agg_sz.2 h1] at ha; cases ha
    obtain ⟨y, h1, h2⟩ := avOf_one ha x
    rw [h2] at h
    rw [if_pos hz]
    exact ⟨y, h1, cell_inv h⟩
omit [Tabs] in
theorem relE_av {w : World} {F : Nat → Prop} {ρ : Env} {tm : Array Value} {t : Ev.Ty} {x : t.den} {v : Value} (h : RelE w F t x v) : RelAV w F ρ tm (avOf t x) v := by
  unfold RelE at h
  cases ha : t.agg with
  | true =>
    rw [if_neg (agg_sz.1 ha)] at h
    obtain ⟨arr, rfl, h2, h3⟩ := h
    rw [avOf_agg ha]
    exact .aggD _ arr h2 h3
  | false =>
    have hz : t.sz = 1 := by
      by_cases h1 : t.sz = 1
      · exact h1
      · rw [agg_sz.2 h1] at ha; cases ha
    rw [if_pos hz] at h
    obtain ⟨y, h1, h2⟩ := avOf_one ha x
    obtain ⟨c, h3, h4⟩ := h
    rw [h1] at h3
    cases h3
    rw [h2]
    exact .cell _ _ (.d _ _ h4)
def zeroA (P : Program) (t : TypeId) (n : Nat) : Bool :=
  bif Nat.beq n 1 then match P.info? t with
    | some i => match i.zero with
      | some z => z.oneCell'
      | none => false
    | none => false
  else true
def zeroT (P : Program) (t : TypeId) (τ : Ev.Ty) : Option τ.den :=
  match zeroB P t with
  | some zs => bif Nat.beq zs.length τ.sz && zeroA P t τ.sz then rd τ (zs.map .sc) else none
  | none => none
omit [Tabs] in
theorem zeroE {P : Program} {t : TypeId} {τ : Ev.Ty} {z : τ.den} (hz : zeroT P t τ = some z) : ∃ v, (∀ w, (zeroValue t).run P w = .ok v w) ∧ ∀ w F, RelE w F τ z v := by
  unfold zeroT at hz
  split at hz
  · rename_i zs h
    cases hb : (Nat.beq zs.length τ.sz && zeroA P t τ.sz) with
    | false => rw [hb] at hz; cases hz
    | true =>
      rw [hb] at hz
      simp only [cond_true] at hz
      rw [Bool.and_eq_true] at hb
      have hl := Nat.eq_of_beq_eq_true hb.1
      have hza := hb.2
      unfold zeroB at h
      split at h
      · rename_i i hi
        split at h
        · rename_i v hzz
          cases hc1 : v.cells.toList.all Value.oneCell' with
          | false => rw [hc1] at h; cases h
          | true =>
            rw [hc1] at h
            cases h
            have h3 : ∀ u ∈ v.cells.toList, u.oneCell' = true := fun u hu => List.all_eq_true.1 hc1 u hu
            refine ⟨v, fun w => by simp [zeroValue, typeInfo, hi, hzz], fun w F => ?_⟩
            have hd := rd_le hz
            have hc : ∀ j (h : j < (cells τ z).length), RelD w F (cells τ z)[j] (v.cells.getD j undef) := by
              intro j hj
              have hj' : j < v.cells.size := by rw [← Array.length_toList, hl, ← cells_length τ z]; exact hj
              have hle := hd.get j (by simpa using hj') hj
              refine hle _ _ _ ?_
              simp only [List.getElem_map, Array.getElem_toList]
              rw [show v.cells.getD j undef = v.cells[j] by simp [Array.getD, hj']]
              exact .sc _ (h3 _ (by simp))
            have hsz : v.cells.size = (cells τ z).length := by rw [cells_length, ← hl]; simp
            have hE := RelE.of_cells (w := w) (F := F) hsz hc
            have hv : packV τ.sz v.cells = v := by
              unfold packV
              split
              · rename_i h1s
                rw [h1s] at hza
                simp only [zeroA, Nat.beq_refl, cond_true, hi, hzz] at hza
                cases v <;> first | rfl | (cases hza; done)
              · rename_i hn
                have : v.cells.size ≠ 1 := by rw [hsz, cells_length]; exact hn
                cases v <;> first | rfl | exact absurd rfl this
            rw [hv] at hE
            exact hE
        · cases h
      · cases h
  · cases hz
end Esp

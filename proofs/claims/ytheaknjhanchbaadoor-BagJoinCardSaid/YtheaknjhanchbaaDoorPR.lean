/- Several texts in one (merge.py). -/
import Derived.Test.YtheaknjhanchbaaDoorPSO
import Derived.Test.YtheaknjhanchbaaDoorPCode
import Derived.Test.YtheaknjhanchbaaDoorEvStab
import Derived.Test.YtheaknjhanchbaaDoorPB
import Derived.Test.YtheaknjhanchbaaDoorPLib
import Derived.Test.YtheaknjhanchbaaDoorPA
import Derived.KernelRfl
import Derived.Laws.BitsLemmas

/- The reference's sort (sort.SliceStable, with its exchange and its comparison) does what package slices' sort does. No program. -/
namespace Pure
open Esp Ev Go
set_option linter.unusedSimpArgs false
set_option linter.unusedVariables false
set_option linter.unusedSimpArgs false
set_option linter.unusedVariables false

noncomputable def cmpW (n : Nat) : Cnt × Cnt × Unit → Option (Int × Unit) := fun (x, y, _) => eR_CompareRows n (x.r, y.r, ())
def up : List Cnt × Unit → Unit × List Cnt × Unit := fun (o, _) => ((), o, ())
theorem iter_sim {S T ρ ρ' : Type} {u : ρ' → ρ} {f : (S → Option ρ) → S → Option ρ} {g : (T → Option ρ') → T → Option ρ'} (e : T → S) (h : ∀ rec rec', (∀ t, rec (e t) = (rec' t).map u) → ∀ t, f rec (e t) = (g rec' t).map u) : ∀ n t, iterN f n (e t) = (iterN g n t).map u
  | 0, t => rfl
  | n + 1, t => by rw [iterN, iterN]; exact h _ _ (iter_sim e h n) t
theorem mapB {α β γ : Type} (u : β → γ) (x : Option α) (g : α → Option β) : (x.bind g).map u = x.bind fun a => (g a).map u := by cases x <;> rfl
theorem mapC {β γ : Type} (u : β → γ) (b : Bool) (x y : Option β) : (bif b then x else y).map u = bif b then x.map u else y.map u := by cases b <;> rfl
theorem mapS {β γ : Type} (u : β → γ) (x : β) : (some x).map u = some (u x) := rfl
theorem bindM {α β γ : Type} (u : α → β) (x : Option α) (k : β → Option γ) : (x.map u).bind k = x.bind fun a => k (u a) := by cases x <;> rfl
theorem swap_bind {ρ : Type} (o : List Cnt) (i j : Int) (K : List Cnt × Unit → Option ρ) : (swapN (i, j, o, ())).bind K =
    (ix o j).bind fun _ => (o[j.toNat]?).bind fun e20 => (ix o i).bind fun _ => (o[i.toNat]?).bind fun e21 => (ix o i).bind fun _ => (o[i.toNat]?).bind fun e22 => (ix (o.set i.toNat e20) j).bind fun _ => ((o.set i.toNat e20)[j.toNat]?).bind fun e23 => K ((o.set i.toNat e20).set j.toNat e21, ()) := by
  unfold swapN
  dsimp only
  cases hi : ix o i with
  | none =>
    cases hj : ix o j with
    | none => rfl
    | some y =>
      obtain ⟨b, rfl, h2⟩ := ix_inv hj
      simp only [Option.bind_none, Option.bind_some, Int.toNat_natCast, h2]
  | some x =>
    cases hj : ix o j with
    | none => rfl
    | some y =>
      obtain ⟨a, rfl, h1⟩ := ix_inv hi
      obtain ⟨b, rfl, h2⟩ := ix_inv hj
      have hb : b < o.length := (List.getElem?_eq_some_iff.1 h2).1
      have h3 : (o.set a y)[b]? = some ((o.set a y)[b]'(by simpa using hb)) := List.getElem?_eq_getElem _
      simp only [Option.bind_some, Int.toNat_natCast, h1, h2, h3, ix_ok h3]
theorem less_bind {ρ : Type} (n : Nat) (i j : Int) (v : Unit) (o : List Cnt) (K : Bool × Unit × List Cnt × Unit → Option ρ) : (eR_BagOf_1 n (i, j, v, o, ())).bind K =
    (ix o i).bind fun _ => (o[i.toNat]?).bind fun e => (ix o j).bind fun _ => (o[j.toNat]?).bind fun e' => (cmpW n (e, e', ())).bind fun y => K (decide (y.1 < 0), (), o, ()) := by
  unfold eR_BagOf_1 cmpW
  simp only [Option.bind_assoc, Option.bind_some]
def e3 : Int × Int × Int × List Cnt × Unit → Int × Int × Int × Unit × Unit × List Cnt × Unit := fun (a, b, c, o, _) => (a, b, c, (), (), o, ())
def e4 : Int × Int × Int × Int × List Cnt × Unit → Int × Int × Int × Int × Unit × Unit × List Cnt × Unit := fun (a, b, c, d, o, _) => (a, b, c, d, (), (), o, ())
def e2 : Int × Int × List Cnt × Unit → Int × Int × Unit × Unit × List Cnt × Unit := fun (a, b, o, _) => (a, b, (), (), o, ())
def e8 : Int × Int × Int × Int × Int × Int × Int × Int × List Cnt × Unit → Int × Int × Int × Int × Int × Int × Int × Int × Unit × Unit × List Cnt × Unit := fun (a, b, c, d, e, f, g, h, o, _) => (a, b, c, d, e, f, g, h, (), (), o, ())

/-! ## insertion -/
theorem ins2 {ρ ρ' : Type} {u : ρ' → ρ} (n : Nat) {rec kx kr rec' kx' kr'} (hrec : ∀ t, rec (e4 t) = (rec' t).map u) (hkx : ∀ a b c o, kx (a, b, c, (), (), o, ()) = (kx' (a, b, c, o, ())).map u) : ∀ t, sort_iS_fB_s2 (ρ := ρ) n rec kx kr (e4 t) = (G_iS_s2 (ρ := ρ') cmpW n rec' kx' kr' t).map u := by
  rintro ⟨a, b, c, d, o, _⟩
  have hr := fun a b c d o => hrec (a, b, c, d, o, ())
  simp only [e4] at hr
  unfold sort_iS_fB_s2 G_iS_s2 e4
  simp only [less_bind, swap_bind, mapB, mapC, hr, hkx]
theorem ins0 {ρ ρ' : Type} {u : ρ' → ρ} (n : Nat) {rec kx kr rec' kx' kr'} (hrec : ∀ t, rec (e3 t) = (rec' t).map u) (hkx : ∀ o, kx ((), o, ()) = (kx' (o, ())).map u) : ∀ t, sort_iS_fB_s0 (ρ := ρ) n rec kx kr (e3 t) = (G_iS_s0 (ρ := ρ') cmpW n rec' kx' kr' t).map u := by
  rintro ⟨a, b, c, o, _⟩
  have hr := fun a b c o => hrec (a, b, c, o, ())
  simp only [e3] at hr
  unfold sort_iS_fB_s0 G_iS_s0 e3
  simp only [mapC, hkx]
  congr 1
  refine iter_sim e4 (fun r r' h t => ?_) n (a, b, c, c, o, ())
  refine ins2 n h (fun a b c o => ?_) t
  exact hr _ _ _ _
theorem ins_eq (n : Nat) (a b : Int) (v : Unit) (o : List Cnt) : sort_iS_fB n (a, b, v, o, ()) = (G_iS cmpW n (a, b, o, ())).map up := by
  unfold sort_iS_fB G_iS
  refine iter_sim e3 (fun r r' h t => ?_) n (a, b, _, o, ())
  exact ins0 n h (fun o => rfl) t
/-! ## rotation -/
theorem swr0 {ρ ρ' : Type} {u : ρ' → ρ} (n : Nat) {rec kx kr rec' kx' kr'} (hrec : ∀ t, rec (e4 t) = (rec' t).map u) (hkx : ∀ o, kx ((), o, ()) = (kx' (o, ())).map u) : ∀ t, sort_swapRange_fB_s0 (ρ := ρ) n rec kx kr (e4 t) = (G_swapRange_s0 (ρ := ρ') n rec' kx' kr' t).map u := by
  rintro ⟨a, b, c, d, o, _⟩
  have hr := fun a b c d o => hrec (a, b, c, d, o, ())
  simp only [e4] at hr
  unfold sort_swapRange_fB_s0 G_swapRange_s0 e4
  simp only [swap_bind, mapB, mapC, hr, hkx]
theorem swr_eq (n : Nat) (a b c : Int) (v : Unit) (o : List Cnt) : sort_swapRange_fB n (a, b, c, v, o, ()) = (G_swapRange n (a, b, c, o, ())).map up := by
  unfold sort_swapRange_fB G_swapRange
  refine iter_sim e4 (fun r r' h t => ?_) n (a, b, c, 0, o, ())
  exact swr0 n h (fun o => rfl) t
theorem rot0 {ρ ρ' : Type} {u : ρ' → ρ} (n : Nat) {rec kx kr rec' kx' kr'} (hrec : ∀ t, rec (e3 t) = (rec' t).map u) (hkx : ∀ a b o, kx (a, b, (), (), o, ()) = (kx' (a, b, o, ())).map u) : ∀ t, sort_rotate_fB_s0 (ρ := ρ) n rec kx kr (e3 t) = (G_rotate_s0 (ρ := ρ') n rec' kx' kr' t).map u := by
  rintro ⟨a, b, c, o, _⟩
  have hr := fun a b c o => hrec (a, b, c, o, ())
  simp only [e3] at hr
  unfold sort_rotate_fB_s0 G_rotate_s0 e3
  simp only [swr_eq, bindM, up, mapB, mapC, hr, hkx]
theorem rot_eq (n : Nat) (a b c : Int) (v : Unit) (o : List Cnt) : sort_rotate_fB n (a, b, c, v, o, ()) = (G_rotate n (a, b, c, o, ())).map up := by
  unfold sort_rotate_fB G_rotate
  refine iter_sim e3 (fun r r' h t => ?_) n (b, _, _, o, ())
  exact rot0 n h (fun a b o => by simp only [swr_eq, bindM, mapB, mapS, up]) t
/-! ## merging -/
section
variable {self : Int × Int × Int × Unit × (List Cnt) × Unit → Option (Unit × (List Cnt) × Unit)} {self' : Int × Int × Int × (List Cnt) × Unit → Option ((List Cnt) × Unit)}
theorem sym0 {ρ ρ' : Type} {u : ρ' → ρ} (n : Nat) {rec kx kr rec' kx' kr'} (hrec : ∀ t, rec (e3 t) = (rec' t).map u) (hkx : ∀ a b o, kx (a, b, (), (), o, ()) = (kx' (a, b, o, ())).map u) : ∀ t, sort_sM_fB_s0 (ρ := ρ) self n rec kx kr (e3 t) = (G_sM_s0 (ρ := ρ') cmpW self' n rec' kx' kr' t).map u := by
  rintro ⟨a, b, c, o, _⟩
  have hr := fun a b c o => hrec (a, b, c, o, ())
  simp only [e3] at hr
  unfold sort_sM_fB_s0 G_sM_s0 e3
  simp only [less_bind, mapB, mapC, hr, hkx]
theorem sym4 {ρ ρ' : Type} {u : ρ' → ρ} (n : Nat) {rec kx kr rec' kx' kr'} (hrec : ∀ t, rec (e3 t) = (rec' t).map u) (hkx : ∀ a b o, kx (a, b, (), (), o, ()) = (kx' (a, b, o, ())).map u) : ∀ t, sort_sM_fB_s4 (ρ := ρ) self n rec kx kr (e3 t) = (G_sM_s4 (ρ := ρ') cmpW self' n rec' kx' kr' t).map u := by
  rintro ⟨a, b, c, o, _⟩
  have hr := fun a b c o => hrec (a, b, c, o, ())
  simp only [e3] at hr
  unfold sort_sM_fB_s4 G_sM_s4 e3
  simp only [less_bind, mapB, mapC, hr, hkx]
theorem sym2 {ρ ρ' : Type} {u : ρ' → ρ} (n : Nat) {rec kx kr rec' kx' kr'} (hrec : ∀ t, rec (e2 t) = (rec' t).map u) (hkx : ∀ o, kx ((), o, ()) = (kx' (o, ())).map u) : ∀ t, sort_sM_fB_s2 (ρ := ρ) self n rec kx kr (e2 t) = (G_sM_s2 (ρ := ρ') self' n rec' kx' kr' t).map u := by
  rintro ⟨a, b, o, _⟩
  have hr := fun a b o => hrec (a, b, o, ())
  simp only [e2] at hr
  unfold sort_sM_fB_s2 G_sM_s2 e2
  simp only [swap_bind, mapB, mapC, hr, hkx]
theorem sym6 {ρ ρ' : Type} {u : ρ' → ρ} (n : Nat) {rec kx kr rec' kx' kr'} (hrec : ∀ t, rec (e2 t) = (rec' t).map u) (hkx : ∀ o, kx ((), o, ()) = (kx' (o, ())).map u) : ∀ t, sort_sM_fB_s6 (ρ := ρ) self n rec kx kr (e2 t) = (G_sM_s6 (ρ := ρ') self' n rec' kx' kr' t).map u := by
  rintro ⟨a, b, o, _⟩
  have hr := fun a b o => hrec (a, b, o, ())
  simp only [e2] at hr
  unfold sort_sM_fB_s6 G_sM_s6 e2
  simp only [swap_bind, mapB, mapC, hr, hkx]
theorem sym8 {ρ ρ' : Type} {u : ρ' → ρ} (n : Nat) {rec kx kr rec' kx' kr'} (hrec : ∀ t, rec (e8 t) = (rec' t).map u) (hkx : ∀ a b c d e f o, kx (a, b, c, d, e, f, (), (), o, ()) = (kx' (a, b, c, d, e, f, o, ())).map u) : ∀ t, sort_sM_fB_s8 (ρ := ρ) self n rec kx kr (e8 t) = (G_sM_s8 (ρ := ρ') cmpW self' n rec' kx' kr' t).map u := by
  rintro ⟨a, b, c, d, e, f, g, h, o, _⟩
  have hr := fun a b c d e f g h o => hrec (a, b, c, d, e, f, g, h, o, ())
  simp only [e8] at hr
  unfold sort_sM_fB_s8 G_sM_s8 e8
  simp only [less_bind, mapB, mapC, hr, hkx]
theorem symb (n : Nat) (hs : ∀ a b c v o, self (a, b, c, v, o, ()) = (self' (a, b, c, o, ())).map up) (a b c : Int) (v : Unit) (o : List Cnt) : sort_sM_fB_b self n (a, b, c, v, o, ()) = (G_sM_b cmpW self' n (a, b, c, o, ())).map up := by
  unfold sort_sM_fB_b G_sM_b
  simp only [mapC]
  congr 1
  · refine iter_sim e3 (fun r r' h t => ?_) n (a, b, c, o, ())
    exact sym0 n h (fun a b o => by
    refine iter_sim e2 (fun r r' h t => ?_) n (b, a, o, ())
    exact sym2 n h (fun o => rfl) t) t
  congr 1
  · refine iter_sim e3 (fun r r' h t => ?_) n (b, a, b, o, ())
    exact sym4 n h (fun a b o => by
    refine iter_sim e2 (fun r r' h t => ?_) n (b, a, o, ())
    exact sym6 n h (fun o => rfl) t) t
  congr 1
  · refine iter_sim e8 (fun r r' h t => ?_) n (a, b, c, _, _, _, _, _, o, ())
    exact sym8 n h (fun a b c d e f o => by simp only [rot_eq, hs, bindM, mapB, mapC, mapS, up]) t
  · refine iter_sim e8 (fun r r' h t => ?_) n (a, b, c, _, _, _, _, _, o, ())
    exact sym8 n h (fun a b c d e f o => by simp only [rot_eq, hs, bindM, mapB, mapC, mapS, up]) t
end
theorem sym_eq : ∀ (n : Nat) (a b c : Int) (v : Unit) (o : List Cnt), sort_sM_fB n (a, b, c, v, o, ()) = (G_sM cmpW n (a, b, c, o, ())).map up
  | 0, _, _, _, _, _ => rfl
  | n + 1, a, b, c, v, o => by
    rw [sort_sM_fB, G_sM]
    exact symb n (sym_eq n) a b c v o
/-! ## the whole -/
theorem st0 {ρ ρ' : Type} {u : ρ' → ρ} (n : Nat) {rec kx kr rec' kx' kr'} (hrec : ∀ t, rec (e4 t) = (rec' t).map u) (hkx : ∀ a b c o, kx (a, b, c, (), (), o, ()) = (kx' (a, b, c, o, ())).map u) : ∀ t, sort_stable_fB_s0 (ρ := ρ) n rec kx kr (e4 t) = (G_stable_s0 (ρ := ρ') cmpW n rec' kx' kr' t).map u := by
  rintro ⟨a, b, c, d, o, _⟩
  have hr := fun a b c d o => hrec (a, b, c, d, o, ())
  simp only [e4] at hr
  unfold sort_stable_fB_s0 G_stable_s0 e4
  simp only [ins_eq, bindM, up, mapB, mapC, hr, hkx]
theorem st4 {ρ ρ' : Type} {u : ρ' → ρ} (n : Nat) {rec kx kr rec' kx' kr'} (hrec : ∀ t, rec (e4 t) = (rec' t).map u) (hkx : ∀ a b c o, kx (a, b, c, (), (), o, ()) = (kx' (a, b, c, o, ())).map u) : ∀ t, sort_stable_fB_s4 (ρ := ρ) n rec kx kr (e4 t) = (G_stable_s4 (ρ := ρ') cmpW n rec' kx' kr' t).map u := by
  rintro ⟨a, b, c, d, o, _⟩
  have hr := fun a b c d o => hrec (a, b, c, d, o, ())
  simp only [e4] at hr
  unfold sort_stable_fB_s4 G_stable_s4 e4
  simp only [sym_eq, bindM, up, mapB, mapC, hr, hkx]
theorem st2 {ρ ρ' : Type} {u : ρ' → ρ} (n : Nat) {rec kx kr rec' kx' kr'} (hrec : ∀ t, rec (e2 t) = (rec' t).map u) (hkx : ∀ o, kx ((), o, ()) = (kx' (o, ())).map u) : ∀ t, sort_stable_fB_s2 (ρ := ρ) n rec kx kr (e2 t) = (G_stable_s2 (ρ := ρ') cmpW n rec' kx' kr' t).map u := by
  rintro ⟨a, b, o, _⟩
  have hr := fun a b o => hrec (a, b, o, ())
  simp only [e2] at hr
  unfold sort_stable_fB_s2 G_stable_s2 e2
  simp only [mapC, hkx]
  congr 1
  refine iter_sim e4 (fun r r' h t => ?_) n (a, b, 0, _, o, ())
  exact st4 n h (fun a b c o => by simp only [sym_eq, bindM, mapB, mapC, hr, up]) t
theorem stb_eq (n : Nat) (a : Int) (v : Unit) (o : List Cnt) : sort_stable_fB n (a, v, o, ()) = (G_stable cmpW n (a, o, ())).map up := by
  unfold sort_stable_fB G_stable
  refine iter_sim e4 (fun r r' h t => ?_) n (a, 20, 0, 20, o, ())
  refine st0 n h (fun a b c o => ?_) t
  simp only [ins_eq, bindM, mapB, up]
  congr 1
  funext q
  refine iter_sim e2 (fun r r' h t => ?_) n (a, b, q.1, ())
  exact st2 n h (fun o => rfl) t
/-- the sort of the reference -/
theorem ss_eq (n : Nat) (l : List Cnt) (hl : 2 ≤ l.length) (hm : l.length ≤ 4000000000000000000) : ssN (sort_stable_fB n) (l, (), ()) = (G_SortStableFunc cmpW n (l, ())).map fun p => (p.1, (), ()) := by
  unfold ssN G_SortStableFunc
  have h1 : Nat.ble l.length 1 = false := by
    cases h : Nat.ble l.length 1 with
    | true => have := Nat.le_of_ble_eq_true h; omega
    | false => rfl
  simp only [h1, cond_false, Nat.ble_eq_true_of_le hm, cond_true, stb_eq, bindM, mapB, mapS, up]
end Pure


/- The reference's bag of rows, plain. No program. -/
namespace Pure
open Esp Ev Go
set_option linter.unusedSimpArgs false
set_option linter.unusedVariables false

theorem cmpW_ok (K : Nat) : Cmp cmpW rc (DR K) K where
  ok n hn x y hx hy := by
    show eR_CompareRows n (x.r, y.r, ()) = _
    rw [rcompare_ok x.r y.r n (by unfold maxLen; have := hx.1; omega) hx.2.1 (by have := hx.2.2; omega)]
    rfl
  asy := (cmpR K).asy
  tr := (cmpR K).tr
def eqr (r : List Val) (d : Cnt) : Bool := ordL d.r r == 0
def sumN : List Cnt → Int
  | [] => 0
  | c :: l => c.n + sumN l
/-- equal rows, one behind the other, gathered -/
def runs : List Cnt → List Cnt
  | [] => []
  | c :: t => ⟨c.r, c.n + sumN (t.takeWhile (eqr c.r))⟩ :: runs (t.dropWhile (eqr c.r))
termination_by l => l.length
decreasing_by
  have : (t.dropWhile (eqr c.r)).length ≤ t.length := (List.dropWhile_sublist _).length_le
  simp only [List.length_cons]
  omega
theorem cf_tw (r w : List Val) : ∀ t : List Cnt, cf (t.takeWhile (eqr r)) w = bif ordL r w == 0 then sumN (t.takeWhile (eqr r)) else 0
  | [] => by simp [cf, sumN]
  | d :: t => by
    rw [List.takeWhile_cons]
    cases h : eqr r d with
    | false => simp [cf, sumN]
    | true =>
      have e : d.r = r := (row_beq _ _).1 h
      simp only [if_true]
      rw [cf, sumN, cf_tw r w t, e]
      cases ordL r w == 0 <;> simp only [cond_true, cond_false] <;> omega
theorem cf_runs (w : List Val) : ∀ (k : Nat) (l : List Cnt), l.length ≤ k → cf (runs l) w = cf l w
  | 0, l, h => by
    obtain rfl : l = [] := List.length_eq_zero_iff.1 (by omega)
    rw [runs]
  | k + 1, [], _ => by rw [runs]
  | k + 1, c :: t, h => by
    have hl : (t.dropWhile (eqr c.r)).length ≤ t.length := (List.dropWhile_sublist _).length_le
    rw [runs, cf, cf_runs w k _ (by simp at h; omega)]
    have e := cf_tw c.r w t
    have e2 : cf t w = cf (t.takeWhile (eqr c.r)) w + cf (t.dropWhile (eqr c.r)) w := by rw [← cf_append, List.takeWhile_append_dropWhile]
    rw [cf, e2, e]
    dsimp only
    cases ordL c.r w == 0 <;> simp only [cond_true, cond_false] <;> omega
theorem runs_rows : ∀ (k : Nat) (l : List Cnt), l.length ≤ k → ∀ d ∈ runs l, ∃ x ∈ l, x.r = d.r
  | 0, l, h, d, hd => by
    obtain rfl : l = [] := List.length_eq_zero_iff.1 (by omega)
    rw [runs] at hd; cases hd
  | k + 1, [], _, d, hd => by rw [runs] at hd; cases hd
  | k + 1, c :: t, h, d, hd => by
    have hl : (t.dropWhile (eqr c.r)).length ≤ t.length := (List.dropWhile_sublist _).length_le
    rw [runs] at hd
    rcases List.mem_cons.1 hd with rfl | hd
    · exact ⟨c, by simp, rfl⟩
    · obtain ⟨x, hx, e⟩ := runs_rows k _ (by simp at h; omega) d hd
      exact ⟨x, List.mem_cons_of_mem _ ((List.dropWhile_sublist _).mem hx), e⟩
theorem drop_lt {r : List Val} : ∀ {t : List Cnt}, Sorted rc t → (∀ d ∈ t, ¬ ordL d.r r < 0) → ∀ d ∈ t.dropWhile (eqr r), ordL r d.r < 0
  | [], _, _, d, hd => by cases hd
  | x :: t, hs, hr, d, hd => by
    obtain ⟨h1, h2⟩ := List.pairwise_cons.1 hs
    rw [List.dropWhile_cons] at hd
    cases h : eqr r x with
    | true => rw [h] at hd; exact drop_lt h2 (fun d hd => hr d (by simp [hd])) d hd
    | false =>
      rw [h] at hd
      have hx : ordL r x.r < 0 := by
        have a := hr x (by simp)
        have b : ordL x.r r ≠ 0 := by unfold eqr at h; simpa using h
        rw [ordL_neg x.r r]
        omega
      rcases List.mem_cons.1 hd with rfl | hd
      · exact hx
      · have h3 := h1 d hd
        have h4 : ¬ ordL d.r x.r < 0 := h3
        rw [ordL_neg x.r d.r] at h4
        rcases Int.lt_or_eq_of_le (show ordL x.r d.r ≤ 0 by omega) with h5 | h5
        · exact ordL_trans hx h5
        · rw [← (ordL_zero _ _).1 h5]; exact hx
theorem strict_runs : ∀ (k : Nat) (l : List Cnt), l.length ≤ k → Sorted rc l → Strict (runs l)
  | 0, l, h, _ => by
    obtain rfl : l = [] := List.length_eq_zero_iff.1 (by omega)
    rw [runs]; exact List.Pairwise.nil
  | k + 1, [], _, _ => by rw [runs]; exact List.Pairwise.nil
  | k + 1, c :: t, h, hs => by
    obtain ⟨h1, h2⟩ := List.pairwise_cons.1 hs
    have hl : (t.dropWhile (eqr c.r)).length ≤ t.length := (List.dropWhile_sublist _).length_le
    rw [runs]
    refine List.pairwise_cons.2 ⟨fun d hd => ?_, strict_runs k _ (by simp at h; omega) (h2.sublist (List.dropWhile_sublist _))⟩
    obtain ⟨x, hx, e⟩ := runs_rows _ _ (Nat.le_refl _) d hd
    rw [← e]
    exact drop_lt h2 (fun d hd => h1 d hd) x hx
theorem sum_bound {M : Int} (hM : 0 ≤ M) : ∀ {l : List Cnt}, (∀ c ∈ l, -M ≤ c.n ∧ c.n ≤ M) → -((l.length : Int) * M) ≤ sumN l ∧ sumN l ≤ (l.length : Int) * M
  | [], _ => by simp [sumN]
  | c :: l, h => by
    have h1 := h c (by simp)
    have h2 := sum_bound hM (l := l) fun d hd => h d (by simp [hd])
    have e : ((c :: l).length : Int) * M = (l.length : Int) * M + M := by rw [List.length_cons]; push_cast; rw [Int.add_mul, Int.one_mul]
    rw [e, sumN]
    generalize (l.length : Int) * M = q at *
    omega
/-- equal rows are added up -/
theorem bo_in {ρ : Type} (n K : Nat) (M : Int) (hM : 0 ≤ M) (hn : K ≤ n) (kx : Int × Unit × (List Cnt) × (Cnt × Unit) × (List Cnt) × Unit → Option ρ) (kr : Unit → Option ρ) (s : List Cnt) (hs : ∀ c ∈ s, DR K c ∧ -M ≤ c.n ∧ c.n ≤ M) (hsl : s.length ≤ 100000) (out : List Cnt) (r : List Val) :
    ∀ (t p : List Cnt) (acc : Int) (fuel : Nat), s = p ++ t → t.length < fuel → -9000000000000000000 ≤ acc - (t.length : Int) * M → acc + (t.length : Int) * M ≤ 9000000000000000000 →
      iterN (fun rc => eR_BagOf_s2 n rc kx kr) fuel ((p.length : Int), (), out, (⟨r, acc⟩, ()), s, ()) = kx (((p.length + (t.takeWhile (eqr r)).length : Nat) : Int), (), out, (⟨r, acc + sumN (t.takeWhile (eqr r))⟩, ()), s, ()) := by
  intro t
  induction t with
  | nil =>
    intro p acc fuel hp hf _ _
    obtain ⟨f, rfl⟩ : ∃ f, fuel = f + 1 := ⟨fuel - 1, by omega⟩
    rw [iterN]
    unfold eR_BagOf_s2
    dsimp only
    rw [decide_eq_false (show ¬ (p.length : Int) < (s.length : Int) by subst hp; simp), cond_false]
    simp [sumN]
  | cons x t ih =>
    intro p acc fuel hp hf h0 h1
    obtain ⟨f, rfl⟩ : ∃ f, fuel = f + 1 := ⟨fuel - 1, by omega⟩
    have hx := hs x (by rw [hp]; simp)
    have hlen : s.length = p.length + (t.length + 1) := by rw [hp]; simp
    have hix : ix s (p.length : Int) = some x := ix_ok (by rw [hp]; simp)
    have hg : s[((p.length : Int)).toNat]? = some x := by rw [Int.toNat_natCast, hp]; simp
    have e : ((x :: t).length : Int) * M = (t.length : Int) * M + M := by rw [List.length_cons]; push_cast; rw [Int.add_mul, Int.one_mul]
    rw [e] at h0 h1
    have hq : 0 ≤ (t.length : Int) * M := Int.mul_nonneg (by omega) hM
    have ih2 := ih (p ++ [x]) (acc + x.n) f (by rw [hp]; simp) (by simp at hf; omega)
      (by generalize (t.length : Int) * M = q at *; omega) (by generalize (t.length : Int) * M = q at *; omega)
    rw [List.length_append, List.length_singleton] at ih2
    rw [iterN]
    generalize iterN (fun rc => eR_BagOf_s2 n rc kx kr) f = R at ih2 ⊢
    unfold eR_BagOf_s2
    dsimp only
    rw [decide_eq_true (show (p.length : Int) < (s.length : Int) by omega), cond_true, hix, Option.bind_some, hg, Option.bind_some, rcompare_ok x.r r n (by unfold maxLen; have := hx.1.1; omega) hx.1.2.1 (by have := hx.1.2.2; omega), Option.bind_some]
    dsimp only
    rw [List.takeWhile_cons]
    cases h : eqr r x with
    | false =>
      have h' : (ordL x.r r == 0) = false := h
      rw [h', cond_false]
      simp [sumN]
    | true =>
      have h' : (ordL x.r r == 0) = true := h
      rw [h', cond_true, Option.bind_some, Option.bind_some]
      rw [wrap64 (by omega) (by omega), wrap64 (by generalize (t.length : Int) * M = q at *; omega) (by generalize (t.length : Int) * M = q at *; omega)]
      rw [show ((p.length : Int) + 1) = ((p.length + 1 : Nat) : Int) by omega, ih2]
      simp only [if_true, sumN, List.length_cons]
      rw [show p.length + 1 + (t.takeWhile (eqr r)).length = p.length + ((t.takeWhile (eqr r)).length + 1) by omega, Int.add_assoc]
theorem tw_split (p t : List Cnt) (r : List Val) : p ++ t = (p ++ t.takeWhile (eqr r)) ++ t.dropWhile (eqr r) := by rw [List.append_assoc, List.takeWhile_append_dropWhile]
theorem bo_out (n K : Nat) (M : Int) (hM : 0 ≤ M) (hn : K ≤ n) (kx : (List Cnt) × Unit → Option (List Cnt × Unit)) (kr : Unit → Option (List Cnt × Unit)) (s : List Cnt) (hs : ∀ c ∈ s, DR K c ∧ -M ≤ c.n ∧ c.n ≤ M) (hsl : s.length ≤ 20000) (hn2 : s.length < n) (hMl : (s.length : Int) * M ≤ 9000000000000000000) :
    ∀ (k : Nat) (t p out : List Cnt) (fuel : Nat), t.length ≤ k → s = p ++ t → t.length < fuel → out.length + t.length ≤ 20000 →
      iterN (fun rc => eR_BagOf_s0 n rc kx kr) fuel ((p.length : Int), (), out, s, ()) = kx (out ++ (runs t).filter nz, ()) := by
  intro k
  have last : ∀ (p out : List Cnt) (fuel : Nat), s = p → 0 < fuel → iterN (fun rc => eR_BagOf_s0 n rc kx kr) fuel ((p.length : Int), (), out, s, ()) = kx (out ++ (runs []).filter nz, ()) := by
    intro p out fuel hp hf
    obtain ⟨f, rfl⟩ : ∃ f, fuel = f + 1 := ⟨fuel - 1, by omega⟩
    rw [iterN]
    unfold eR_BagOf_s0
    dsimp only
    rw [decide_eq_false (show ¬ (p.length : Int) < (s.length : Int) by subst hp; omega), cond_false, runs]
    simp
  induction k with
  | zero =>
    intro t p out fuel hk hp hf ho
    obtain rfl : t = [] := List.length_eq_zero_iff.1 (by omega)
    exact last p out fuel (by simpa using hp) (by omega)
  | succ k ih =>
    intro t p out fuel hk hp hf ho
    cases t with
    | nil => exact last p out fuel (by simpa using hp) (by omega)
    | cons c t =>
    obtain ⟨f, rfl⟩ : ∃ f, fuel = f + 1 := ⟨fuel - 1, by omega⟩
    have hlen : s.length = p.length + (t.length + 1) := by rw [hp]; simp
    have hix : ix s (p.length : Int) = some c := ix_ok (by rw [hp]; simp)
    have hg : s[((p.length : Int)).toNat]? = some c := by rw [Int.toNat_natCast, hp]; simp
    have hdl : (t.dropWhile (eqr c.r)).length ≤ t.length := (List.dropWhile_sublist _).length_le
    have htl := congrArg List.length (List.takeWhile_append_dropWhile (p := eqr c.r) (l := t))
    rw [List.length_append] at htl
    have hcc : eqr c.r c = true := (row_beq _ _).2 rfl
    have htw : (c :: t).takeWhile (eqr c.r) = c :: t.takeWhile (eqr c.r) := by
      rw [List.takeWhile_cons, if_pos hcc]
    have hdw : (c :: t).dropWhile (eqr c.r) = t.dropWhile (eqr c.r) := by
      rw [List.dropWhile_cons, if_pos hcc]
    have hsp : s = (p ++ (c :: t.takeWhile (eqr c.r))) ++ t.dropWhile (eqr c.r) := by
      rw [hp, ← htw, ← hdw, List.append_assoc, List.takeWhile_append_dropWhile]
    have hb : ((c :: t).length : Int) * M ≤ 9000000000000000000 := by
      have : ((c :: t).length : Int) * M ≤ (s.length : Int) * M := Int.mul_le_mul_of_nonneg_right (by rw [hlen, List.length_cons]; omega) hM
      omega
    have hin := fun K' kr' => bo_in (ρ := List Cnt × Unit) n K M hM hn K' kr' s hs (by omega) out c.r (c :: t) p 0 n hp (by simp; omega) (by omega) (by omega)
    have ihf := fun out' ho' => ih (t.dropWhile (eqr c.r)) (p ++ (c :: t.takeWhile (eqr c.r))) out' f (by simp at hk; omega) hsp (by simp at hf; omega) ho'
    rw [iterN]
    generalize iterN (fun rc => eR_BagOf_s0 n rc kx kr) f = R at ihf ⊢
    unfold eR_BagOf_s0
    dsimp only
    rw [decide_eq_true (show (p.length : Int) < (s.length : Int) by omega), cond_true, hix, Option.bind_some, hg, Option.bind_some, hin]
    dsimp only
    rw [htw, sumN, Int.zero_add, runs, List.filter_cons]
    have hpl : ((p.length + (c :: t.takeWhile (eqr c.r)).length : Nat) : Int) = (((p ++ (c :: t.takeWhile (eqr c.r))).length : Nat) : Int) := by rw [List.length_append]
    rw [hpl]
    cases hz : c.n + sumN (t.takeWhile (eqr c.r)) == 0 with
    | true =>
      have h1 : nz ⟨c.r, c.n + sumN (t.takeWhile (eqr c.r))⟩ = false := by unfold nz; rw [hz]; rfl
      have h2 : (c.n + sumN (t.takeWhile (eqr c.r)) != 0) = false := by unfold bne; rw [hz]; rfl
      rw [h1, h2, cond_false, if_neg (by simp)]
      exact ihf out (by simp at ho; omega)
    | false =>
      have h1 : nz ⟨c.r, c.n + sumN (t.takeWhile (eqr c.r))⟩ = true := by unfold nz; rw [hz]; rfl
      have h2 : (c.n + sumN (t.takeWhile (eqr c.r)) != 0) = true := by unfold bne; rw [hz]; rfl
      rw [h1, h2, cond_true, if_pos rfl, ck_ok (roomB (by simp at ho ⊢; omega) (by omega))]
      refine (ihf _ (by simp at ho ⊢; omega)).trans ?_
      rw [List.append_assoc]
      rfl
theorem rbag_ok (l : List Cnt) (n K : Nat) (M : Int) (hM : 0 ≤ M) (hD : ∀ c ∈ l, DR K c ∧ -M ≤ c.n ∧ c.n ≤ M) (hMl : (l.length : Int) * M ≤ 9000000000000000000) (hl : l.length ≤ 20000) (hn : l.length + K + 1100 ≤ n) :
    ∃ o, eR_BagOf n (l, ()) = some (o, ()) ∧ CB o ∧ (∀ w, cf o w = cf l w) ∧ (∀ c ∈ o, ∃ d ∈ l, d.r = c.r) := by
  obtain ⟨s, s1, s2, s3⟩ := sort_ok (cmpW_ok K) n l (fun z hz => (hD z hz).1) (by omega) (by omega)
  have hsort : ∃ s : List Cnt, s.Perm l ∧ Sorted rc s ∧ ssN_sort_stable_fB n (l, (), ()) = some (s, (), ()) := by
    by_cases h1 : l.length ≤ 1
    · refine ⟨l, List.Perm.refl _, ?_, ?_⟩
      · cases l with
        | nil => exact List.Pairwise.nil
        | cons c t =>
          obtain rfl : t = [] := List.length_eq_zero_iff.1 (by rw [List.length_cons] at h1; omega)
          exact List.pairwise_singleton _ _
      · show ssN _ (l, (), ()) = _
        unfold ssN
        dsimp only
        rw [Nat.ble_eq_true_of_le h1]
        rfl
    · refine ⟨s, s1, s2, ?_⟩
      show ssN (sort_stable_fB n) (l, (), ()) = _
      rw [ss_eq n l (by omega) (by omega), s3]
      rfl
  obtain ⟨s, s1, s2, s3⟩ := hsort
  have ls := s1.length_eq
  unfold eR_BagOf
  dsimp only
  rw [clone_ok l (by omega), Option.bind_some]
  dsimp only
  rw [s3, Option.bind_some]
  dsimp only
  have := bo_out n K M hM (by omega) (fun (o25, _) => some (o25, ())) (fun _ => none) s (fun c hc => hD c (s1.mem_iff.1 hc)) (by omega) (by omega) (by rw [ls]; exact hMl) s.length s [] [] n (Nat.le_refl _) rfl (by omega) (by simp; omega)
  have e0 : ((([] : List Cnt).length : Nat) : Int) = 0 := rfl
  rw [e0] at this
  refine ⟨(runs s).filter nz, this, ⟨(strict_runs _ s (Nat.le_refl _) s2).sublist (List.filter_sublist ..), fun c hc => ?_⟩, fun w => ?_, fun c hc => ?_⟩
  · have := (List.mem_filter.1 hc).2
    unfold nz at this
    simpa using this
  · rw [cf_filter, cf_runs w _ s (Nat.le_refl _), cf_perm w s1]
  · obtain ⟨x, hx, e⟩ := runs_rows _ s (Nat.le_refl _) c (List.mem_filter.1 hc).1
    exact ⟨x, s1.mem_iff.1 hx, e⟩
end Pure


/- Bags are added as the document says: the plain law. No program. -/
namespace Pure
open Esp Ev Go
set_option linter.unusedSimpArgs false
set_option linter.unusedVariables false

theorem bgF_intro : ∀ {l : List Cnt} {prev : Option (List Val)}, (∀ c ∈ l, c.r.length ≤ 30 ∧ chks c.r 1 = 0 ∧ c.n ≠ 0 ∧ big c.n = false) → Strict l → (∀ p, prev = some p → ∀ c ∈ l, ordL p c.r < 0) → bgF prev l = 0
  | [], _, _, _, _ => rfl
  | c :: r, prev, h, hs, hp => by
    obtain ⟨h1, h2⟩ := List.pairwise_cons.1 hs
    obtain ⟨a1, a2, a3, a4⟩ := h c (by simp)
    have hf : falls prev c.r = false := by
      cases prev with
      | none => rfl
      | some p =>
        have := hp p rfl c (by simp)
        unfold falls
        rw [decide_eq_false_iff_not]; omega
    rw [bgF, decide_eq_false (by omega), cond_false, a2, show ((0 : Int) != 0) = false from rfl, cond_false, beq_eq_false_iff_ne.2 a3, cond_false, hf, cond_false, a4, cond_false]
    exact bgF_intro (fun d hd => h d (by simp [hd])) h2 fun p hp' d hd => by cases hp'; exact h1 d hd
theorem dst_len (a : List Cnt) : (dst a).length ≤ a.length := by
  unfold dst
  rw [List.length_map]
  exact List.length_filter_le _ _
theorem bgE_dst {a : List Cnt} (h : bgE a = 0) : bgE (dst a) = 0 := by
  obtain ⟨hl, hr⟩ := bgE_0 h
  obtain ⟨hc, _⟩ := bgE_cb h
  have := dst_len a
  unfold bgE
  rw [decide_eq_false (by omega), cond_false]
  refine bgF_intro (fun c hc => ?_) ?_ (fun p hp => by cases hp)
  · obtain ⟨d, hd, e1, e2⟩ := dst_rows hc
    rw [← e1, e2]
    exact ⟨(hr d hd).1, (hr d hd).2, by omega, rfl⟩
  · unfold dst
    exact List.pairwise_map.2 (hc.1.sublist (List.filter_sublist ..))
theorem bags_ok (o : List Cnt) (n K : Nat) (wo : WB o) (ro : RB K o) (ho : o.length ≤ 4000) (hn : 20000 * K + 30000 ≤ n) :
    (bgE o ≠ 0 → eL_bags n ([], bgE o, o, ()) = some (true, ())) ∧ (bgE o = 0 → eL_bags n (o, 0, o, ()) = some (true, ())) := by
  have h1 := bSz_le ro
  have h2 : o.length * K ≤ 4000 * K := Nat.mul_le_mul_right _ ho
  have hc := rbcheck_ok o n wo (by omega)
  unfold eL_bags
  dsimp only
  rw [hc, Option.bind_some, Option.bind_some]
  dsimp only
  refine ⟨fun h => ?_, fun h => ?_⟩
  · rw [bne_iff_ne.2 h, cond_true, beq_self_eq_true]; rfl
  · rw [h, show ((0 : Int) != 0) = false from rfl, cond_false, show ((0 : Int) == 0) = true from rfl, cond_true, same2 o n K wo ro (bgE_0 h).1 hn]
    rfl
/-- what is told of a bag that was made, and of the document's, if these are one -/
theorem bags_fin (o : List Cnt) (n K : Nat) (wo : WB o) (ro : RB K o) (ho : o.length ≤ 4000) (hn : 20000 * K + 30000 ≤ n) (x : List Cnt × Int × Unit) (hx : (bif bgE o != 0 then some (([] : List Cnt), bgE o, ()) else some (o, (0 : Int), ())) = some x) :
    eL_bags n (x.1, x.2.1, o, ()) = some (true, ()) := by
  obtain ⟨h1, h2⟩ := bags_ok o n K wo ro ho hn
  cases h : bgE o != 0 with
  | true => rw [h] at hx; cases hx; exact h1 (bne_iff_ne.1 h)
  | false => rw [h] at hx; cases hx; exact h2 (by simpa using h)
theorem mulb {x k : Int} (hx : -1099511627776 ≤ x ∧ x ≤ 1099511627776) (hk : -1000 ≤ k ∧ k ≤ 1000) : -1099511627776000 ≤ x * k ∧ x * k ≤ 1099511627776000 := by
  rcases Int.le_total 0 k with h0 | h0
  · have a1 : x * k ≤ 1099511627776 * k := Int.mul_le_mul_of_nonneg_right hx.2 h0
    have a2 : -1099511627776 * k ≤ x * k := Int.mul_le_mul_of_nonneg_right hx.1 h0
    omega
  · have a1 : x * -k ≤ 1099511627776 * -k := Int.mul_le_mul_of_nonneg_right hx.2 (by omega)
    have a2 : -1099511627776 * -k ≤ x * -k := Int.mul_le_mul_of_nonneg_right hx.1 (by omega)
    have e : x * -k = -(x * k) := Int.mul_neg x k
    rw [e] at a1 a2
    omega
end Pure

/- Whole numbers of any size by lists of 32-bit words. No program. -/
namespace Pure
open Esp Ev Go
set_option linter.unusedSimpArgs false
set_option linter.unusedVariables false

/-- the number that words say -/
def wv : List Int → Int
  | [] => 0
  | w :: r => w + 4294967296 * wv r
def Wd (l : List Int) : Prop := ∀ w ∈ l, 0 ≤ w ∧ w < 4294967296
/-- no nought at the end -/
def Nm (l : List Int) : Prop := ∀ w, l.getLast? = some w → w ≠ 0
theorem wU32 (x : Int) : IntKind.wrap .u32 x = x % 4294967296 := by simp only [IntKind.wrap, IntKind.bits, IntKind.signed]; simp
theorem wU64 (x : Int) : IntKind.wrap .u64 x = x % 18446744073709551616 := by simp only [IntKind.wrap, IntKind.bits, IntKind.signed]; simp
theorem shr32 (x : Int) : bshr .u64 x 32 = x / 4294967296 := by
  unfold bshr
  rw [show (2 : Int) ^ (min (32 : Int).toNat IntKind.u64.bits) = 4294967296 from rfl, Int.fdiv_eq_ediv_of_nonneg _ (by omega)]
theorem shr63 (x : Int) : bshr .u64 x 63 = x / 9223372036854775808 := by
  unfold bshr
  rw [show (2 : Int) ^ (min (63 : Int).toNat IntKind.u64.bits) = 9223372036854775808 from rfl, Int.fdiv_eq_ediv_of_nonneg _ (by omega)]
theorem wv_snoc (w : Int) : ∀ l : List Int, w = 0 → wv (l ++ [w]) = wv l
  | [], h => by subst h; simp [wv]
  | x :: r, h => by rw [List.cons_append, wv, wv, wv_snoc w r h]
theorem lsl0 (l : List Int) (k : Nat) (h : k ≤ l.length) : lsl l 0 (k : Int) = some (l.take k) := by
  unfold lsl
  rw [if_pos ⟨by omega, by omega, by omega⟩]
  simp

theorem trim_ok (n : Nat) (l : List Int) (hl : l.length ≤ 1000) (hn : l.length < n) : ∃ t, eB_trim n (l, ()) = some (t, ()) ∧ wv t = wv l ∧ Nm t ∧ (∃ m, t = l.take m) := by
  have key : ∀ (k fuel : Nat), k ≤ l.length → k < fuel → wv (l.take k) = wv l →
      ∃ t, iterN (fun rc8 => eB_trim_s0 n rc8 (fun (v5, v6, _) => (lsl v5 0 v6).bind fun l7 => some (l7, ())) (fun (_) => none)) fuel (l, (k : Int), ()) = some (t, ()) ∧ wv t = wv l ∧ Nm t ∧ (∃ m, t = l.take m) := by
    intro k
    induction k with
    | zero =>
      intro fuel h1 h2 h3
      obtain ⟨f, rfl⟩ : ∃ f, fuel = f + 1 := ⟨fuel - 1, by omega⟩
      refine ⟨[], ?_, h3, (fun w h => by cases h), 0, rfl⟩
      rw [iterN]
      unfold eB_trim_s0
      dsimp only
      rw [decide_eq_false (show ¬ (((0 : Nat) : Int) > 0) by omega), cond_false, lsl0 l 0 (by omega)]
      rfl
    | succ k ih =>
      intro fuel h1 h2 h3
      obtain ⟨f, rfl⟩ : ∃ f, fuel = f + 1 := ⟨fuel - 1, by omega⟩
      have hw : IntKind.wrap .i64 (((k + 1 : Nat) : Int) - 1) = (k : Int) := by rw [wrap64 (by omega) (by omega)]; omega
      have hx : l[k]? = some l[k] := List.getElem?_eq_getElem (by omega)
      have ht : l.take (k + 1) = l.take k ++ [l[k]] := List.take_succ_eq_append_getElem (by omega)
      rw [iterN]
      generalize hR : iterN _ f = R
      unfold eB_trim_s0
      dsimp only
      rw [decide_eq_true (show (((k + 1 : Nat) : Int) > 0) by omega), cond_true, hw, ix_ok hx, Option.bind_some]
      cases h0 : l[k] == 0 with
      | true =>
        have h0' : l[k] = 0 := by simpa using h0
        rw [cond_true, ← hR]
        exact ih f (by omega) (by omega) (by rw [← h3, ht, wv_snoc _ _ h0'])
      | false =>
        rw [cond_false, lsl0 l (k + 1) (by omega)]
        refine ⟨l.take (k + 1), rfl, h3, fun w h => ?_, k + 1, rfl⟩
        rw [ht, List.getLast?_concat] at h
        cases h
        simpa using h0
  unfold eB_trim
  exact key l.length n (Nat.le_refl _) hn (by rw [List.take_length])

/-! ## products -/
def mS (c x y e : Int) : Int := IntKind.wrap .u64 (c + (IntKind.wrap .u64 ((IntKind.wrap .u64 ((IntKind.wrap .u64 x) * (IntKind.wrap .u64 y))) + (IntKind.wrap .u64 e))))
def lo (t : Int) : Int := IntKind.wrap .u32 t
def hi (t : Int) : Int := bshr .u64 t 32
theorem mS_ok {c x y e : Int} (hc : 0 ≤ c ∧ c < 4294967296) (hx : 0 ≤ x ∧ x < 4294967296) (hy : 0 ≤ y ∧ y < 4294967296) (he : 0 ≤ e ∧ e < 4294967296) :
    mS c x y e = c + x * y + e ∧ 0 ≤ mS c x y e ∧ mS c x y e < 18446744073709551616 := by
  have h1 : x * y ≤ 4294967295 * 4294967295 := Int.mul_le_mul (by omega) (by omega) hy.1 (by omega)
  have h0 : 0 ≤ x * y := Int.mul_nonneg hx.1 hy.1
  have e1 : mS c x y e = c + x * y + e := by
    unfold mS
    rw [wrapU64 hx.1 (by omega), wrapU64 hy.1 (by omega), wrapU64 he.1 (by omega), wrapU64 h0 (by omega), wrapU64 (x := x * y + e) (by omega) (by omega), wrapU64 (by omega) (by omega)]
    omega
  rw [e1]
  exact ⟨rfl, by omega, by omega⟩
theorem lohi {t : Int} (h0 : 0 ≤ t) (h1 : t < 18446744073709551616) : t = lo t + 4294967296 * hi t ∧ (0 ≤ lo t ∧ lo t < 4294967296) ∧ 0 ≤ hi t ∧ hi t < 4294967296 := by
  unfold lo hi
  rw [wU32, shr32]
  omega
theorem lo_small {t : Int} (h0 : 0 ≤ t) (h1 : t < 4294967296) : lo t = t := by
  unfold lo
  rw [wU32]
  omega
theorem mul11 (m : Nat) (a0 b0 : Int) : eB_mul (m + 9) ([a0], [b0], ()) = (eB_trim (m + 9) ([lo (mS 0 a0 b0 0), lo (hi (mS 0 a0 b0 0))], ())).bind fun (y29, _) => some (y29, ()) := by kernel_rfl
theorem mul12 (m : Nat) (a0 b0 b1 : Int) : eB_mul (m + 9) ([a0], [b0, b1], ()) = (eB_trim (m + 9) ([lo (mS 0 a0 b0 0), lo (mS (hi (mS 0 a0 b0 0)) a0 b1 0), lo (hi (mS (hi (mS 0 a0 b0 0)) a0 b1 0))], ())).bind fun (y29, _) => some (y29, ()) := by kernel_rfl
theorem mul21 (m : Nat) (a0 a1 b0 : Int) : eB_mul (m + 9) ([a0, a1], [b0], ()) = (eB_trim (m + 9) ([lo (mS 0 a0 b0 0), lo (mS 0 a1 b0 (lo (hi (mS 0 a0 b0 0)))), lo (hi (mS 0 a1 b0 (lo (hi (mS 0 a0 b0 0)))))], ())).bind fun (y29, _) => some (y29, ()) := by kernel_rfl
theorem mul22 (m : Nat) (a0 a1 b0 b1 : Int) : eB_mul (m + 9) ([a0, a1], [b0, b1], ()) =
    (eB_trim (m + 9) ([lo (mS 0 a0 b0 0), lo (mS 0 a1 b0 (lo (mS (hi (mS 0 a0 b0 0)) a0 b1 0))), lo (mS (hi (mS 0 a1 b0 (lo (mS (hi (mS 0 a0 b0 0)) a0 b1 0)))) a1 b1 (lo (hi (mS (hi (mS 0 a0 b0 0)) a0 b1 0)))),
      lo (hi (mS (hi (mS 0 a1 b0 (lo (mS (hi (mS 0 a0 b0 0)) a0 b1 0)))) a1 b1 (lo (hi (mS (hi (mS 0 a0 b0 0)) a0 b1 0)))))], ())).bind fun (y29, _) => some (y29, ()) := by kernel_rfl
theorem Wd.take {l : List Int} (h : Wd l) (m : Nat) : Wd (l.take m) := fun w hw => h w (List.mem_of_mem_take hw)
theorem bigmul_ok (n : Nat) (hn : 20 ≤ n) (a b : List Int) (ha : Wd a) (hb : Wd b) (la : a.length ≤ 2) (lb : b.length ≤ 2) :
    ∃ t, eB_mul n (a, b, ()) = some (t, ()) ∧ wv t = wv a * wv b ∧ Wd t ∧ Nm t ∧ t.length ≤ 4 := by
  obtain ⟨m, rfl⟩ : ∃ m, n = m + 9 := ⟨n - 9, by omega⟩
  have fin : ∀ l : List Int, Wd l → l.length ≤ 4 → wv l = wv a * wv b → eB_mul (m + 9) (a, b, ()) = (eB_trim (m + 9) (l, ())).bind (fun (y29, _) => some (y29, ())) →
      ∃ t, eB_mul (m + 9) (a, b, ()) = some (t, ()) ∧ wv t = wv a * wv b ∧ Wd t ∧ Nm t ∧ t.length ≤ 4 := by
    intro l h1 h2 h3 h4
    obtain ⟨t, t1, t2, t3, k, t4⟩ := trim_ok (m + 9) l (by omega) (by omega)
    refine ⟨t, by rw [h4, t1]; rfl, by rw [t2, h3], by rw [t4]; exact h1.take k, t3, ?_⟩
    rw [t4, List.length_take]
    omega
  match a, b, la, lb with
  | [], b, _, _ => exact ⟨[], rfl, by simp [wv], (fun w h => by cases h), (fun w h => by cases h), by simp⟩
  | a0 :: ar, [], _, _ =>
    refine ⟨[], ?_, by simp [wv], (fun w h => by cases h), (fun w h => by cases h), by simp⟩
    unfold eB_mul
    simp
  | [a0], [b0], _, _ =>
    have h0 := ha a0 (by simp)
    have g0 := hb b0 (by simp)
    obtain ⟨q1, q2, q3⟩ := mS_ok (c := 0) (e := 0) (by omega) h0 g0 (by omega)
    obtain ⟨r1, r2, r3⟩ := lohi q2 q3
    refine fin _ ?_ (by simp) ?_ (mul11 m a0 b0)
    · intro w hw
      simp only [List.mem_cons, List.not_mem_nil, or_false] at hw
      rcases hw with rfl | rfl
      · exact r2
      · rw [lo_small r3.1 r3.2]; exact r3
    · rw [lo_small r3.1 r3.2]
      simp only [wv]
      rw [show (a0 + 4294967296 * 0) * (b0 + 4294967296 * 0) = a0 * b0 by simp]
      generalize a0 * b0 = P at *
      omega
  | [a0], [b0, b1], _, _ =>
    have h0 := ha a0 (by simp)
    have g0 := hb b0 (by simp)
    have g1 := hb b1 (by simp)
    obtain ⟨q1, q2, q3⟩ := mS_ok (c := 0) (e := 0) (by omega) h0 g0 (by omega)
    obtain ⟨r1, r2, r3⟩ := lohi q2 q3
    obtain ⟨s1, s2, s3⟩ := mS_ok (e := 0) r3 h0 g1 (by omega)
    obtain ⟨u1, u2, u3⟩ := lohi s2 s3
    refine fin _ ?_ (by simp) ?_ (mul12 m a0 b0 b1)
    · intro w hw
      simp only [List.mem_cons, List.not_mem_nil, or_false] at hw
      rcases hw with rfl | rfl | rfl
      · exact r2
      · exact u2
      · rw [lo_small u3.1 u3.2]; exact u3
    · rw [lo_small u3.1 u3.2]
      simp only [wv]
      rw [show (a0 + 4294967296 * 0) * (b0 + 4294967296 * (b1 + 4294967296 * 0)) = a0 * b0 + 4294967296 * (a0 * b1) by simp [Int.mul_add, Int.mul_left_comm]]
      generalize a0 * b0 = P at *
      generalize a0 * b1 = Q at *
      omega
  | [a0, a1], [b0], _, _ =>
    have h0 := ha a0 (by simp)
    have h1 := ha a1 (by simp)
    have g0 := hb b0 (by simp)
    obtain ⟨q1, q2, q3⟩ := mS_ok (c := 0) (e := 0) (by omega) h0 g0 (by omega)
    obtain ⟨r1, r2, r3⟩ := lohi q2 q3
    have e1 := lo_small r3.1 r3.2
    obtain ⟨s1, s2, s3⟩ := mS_ok (c := 0) (e := hi (mS 0 a0 b0 0)) (by omega) h1 g0 r3
    obtain ⟨u1, u2, u3⟩ := lohi s2 s3
    refine fin _ ?_ (by simp) ?_ (mul21 m a0 a1 b0)
    · intro w hw
      rw [e1] at hw
      simp only [List.mem_cons, List.not_mem_nil, or_false] at hw
      rcases hw with rfl | rfl | rfl
      · exact r2
      · exact u2
      · rw [lo_small u3.1 u3.2]; exact u3
    · rw [e1, lo_small u3.1 u3.2]
      simp only [wv]
      rw [show (a0 + 4294967296 * (a1 + 4294967296 * 0)) * (b0 + 4294967296 * 0) = a0 * b0 + 4294967296 * (a1 * b0) by simp [Int.add_mul, Int.mul_assoc]]
      generalize a0 * b0 = P at *
      generalize a1 * b0 = Q at *
      omega
  | [a0, a1], [b0, b1], _, _ =>
    have h0 := ha a0 (by simp)
    have h1 := ha a1 (by simp)
    have g0 := hb b0 (by simp)
    have g1 := hb b1 (by simp)
    obtain ⟨q1, q2, q3⟩ := mS_ok (c := 0) (e := 0) (by omega) h0 g0 (by omega)
    obtain ⟨r1, r2, r3⟩ := lohi q2 q3
    obtain ⟨s1, s2, s3⟩ := mS_ok (e := 0) r3 h0 g1 (by omega)
    obtain ⟨u1, u2, u3⟩ := lohi s2 s3
    have e1 := lo_small u3.1 u3.2
    obtain ⟨v1, v2, v3⟩ := mS_ok (c := 0) (by omega) h1 g0 u2
    obtain ⟨w1, w2, w3⟩ := lohi v2 v3
    obtain ⟨x1, x2, x3⟩ := mS_ok w3 h1 g1 u3
    obtain ⟨y1, y2, y3⟩ := lohi x2 x3
    have e2 := lo_small y3.1 y3.2
    refine fin _ ?_ (by simp) ?_ (mul22 m a0 a1 b0 b1)
    · intro w hw
      rw [e1, e2] at hw
      simp only [List.mem_cons, List.not_mem_nil, or_false] at hw
      rcases hw with rfl | rfl | rfl | rfl
      · exact r2
      · exact w2
      · exact y2
      · exact y3
    · rw [e1, e2]
      simp only [wv]
      rw [show (a0 + 4294967296 * (a1 + 4294967296 * 0)) * (b0 + 4294967296 * (b1 + 4294967296 * 0)) = a0 * b0 + 4294967296 * (a0 * b1 + a1 * b0 + 4294967296 * (a1 * b1)) by
        simp only [Int.mul_zero, Int.add_zero, Int.add_mul, Int.mul_add]
        rw [Int.mul_assoc 4294967296 a1 b0, Int.mul_left_comm a0 4294967296 b1, Int.mul_assoc 4294967296 a1 (4294967296 * b1), Int.mul_left_comm a1 4294967296 b1]
        omega]
      generalize a0 * b0 = P at *
      generalize a0 * b1 = Q at *
      generalize a1 * b0 = R at *
      generalize a1 * b1 = S at *
      omega
  | _ :: _ :: _ :: _, _, h, _ => simp at h
  | _, _ :: _ :: _ :: _, _, h => simp at h

/-! ## a number, made and read -/
theorem or_shift (a b : Int) (ha : 0 ≤ a ∧ a < 4294967296) (hb : 0 ≤ b ∧ b < 4294967296) : bor .u64 (IntKind.wrap .u64 a) (bshl .u64 (IntKind.wrap .u64 b) 32) = a + 4294967296 * b := by
  obtain ⟨x, rfl⟩ : ∃ x : Nat, a = x := ⟨a.toNat, by omega⟩
  obtain ⟨y, rfl⟩ : ∃ y : Nat, b = y := ⟨b.toNat, by omega⟩
  rw [wrapU64 ha.1 (by omega), wrapU64 hb.1 (by omega)]
  have e1 : bshl .u64 (y : Int) 32 = ((y * 4294967296 : Nat) : Int) := by
    unfold bshl
    rw [show (2 : Int) ^ (min (32 : Int).toNat IntKind.u64.bits) = 4294967296 from rfl, wrapU64 (by omega) (by omega)]
    omega
  rw [e1]
  unfold bor
  show IntKind.wrap .u64 (((BitVec.ofInt 64 ((x : Nat) : Int) ||| BitVec.ofInt 64 ((y * 4294967296 : Nat) : Int) : BitVec 64)).toNat : Int) = _
  rw [BitVec.toNat_or, BitVec.ofInt_natCast, BitVec.ofInt_natCast, BitVec.toNat_ofNat, BitVec.toNat_ofNat, Nat.mod_eq_of_lt (by omega), Nat.mod_eq_of_lt (by omega)]
  have e3 : x ||| y * 4294967296 = y * 4294967296 + x := by
    rw [Nat.or_comm, show y * 4294967296 = y <<< 32 by rw [Nat.shiftLeft_eq], ← Nat.shiftLeft_add_eq_or_of_lt (by omega)]
  rw [e3, wrapU64 (by omega) (by omega)]
  omega
theorem wv_nonneg : ∀ {l : List Int}, Wd l → 0 ≤ wv l
  | [], _ => Int.le_refl _
  | w :: r, h => by
    have h1 := h w (by simp)
    have h2 := wv_nonneg (l := r) fun x hx => h x (by simp [hx])
    rw [wv]
    omega
/-- the box of a number -/
def bg (s : Bool) (t : List Int) : Bool × List Int × Unit := (s, t, ())
/-- the number of a box -/
def bv (s : Bool) (t : List Int) : Int := if s = true then - wv t else wv t
theorem newInt_ok (n : Nat) (hn : 10 ≤ n) (x : Int) (h0 : -9223372036854775808 ≤ x) (h1 : x ≤ 9223372036854775807) :
    ∃ t, eB_NewInt n (x, ()) = some ((decide (x < 0), t, ()), ()) ∧ bv (decide (x < 0)) t = x ∧ Wd t ∧ Nm t ∧ t.length ≤ 2 := by
  have words : ∀ u : Int, 0 ≤ u → u < 18446744073709551616 → ∃ t, eB_words n (u, ()) = some (t, ()) ∧ wv t = u ∧ Wd t ∧ Nm t ∧ t.length ≤ 2 := by
    intro u h0 h1
    obtain ⟨t, t1, t2, t3, k, t4⟩ := trim_ok n [IntKind.wrap .u32 u, IntKind.wrap .u32 (bshr .u64 u 32)] (by simp) (by simp; omega)
    refine ⟨t, ?_, ?_, ?_, t3, ?_⟩
    · unfold eB_words
      dsimp only
      rw [t1]
      rfl
    · rw [t2]
      simp only [wv, wU32, shr32]
      omega
    · rw [t4]
      refine Wd.take (fun w hw => ?_) k
      simp only [List.mem_cons, List.not_mem_nil, or_false, wU32, shr32] at hw
      omega
    · rw [t4, List.length_take]
      simp only [List.length_cons, List.length_nil]
      omega
  cases hx : decide (x < 0) with
  | true =>
    have hx' := of_decide_eq_true hx
    obtain ⟨t, t1, t2, t3, t4, t5⟩ := words (-x) (by omega) (by omega)
    have e : IntKind.wrap .u64 (0 - IntKind.wrap .u64 x) = -x := by rw [wU64, wU64]; omega
    refine ⟨t, ?_, ?_, t3, t4, t5⟩
    · unfold eB_NewInt peB_Int_SetInt64
      dsimp only
      rw [hx, cond_true, e, t1, Option.bind_some]
      unfold peB_Int_give
      dsimp only
      have : decide ((t.length : Int) > 0) = true := by
        rw [decide_eq_true_eq]
        cases t with
        | nil => simp [wv] at t2 <;> omega
        | cons a r => simp
      rw [this]
      rfl
    · unfold bv
      rw [if_pos rfl, t2]
      omega
  | false =>
    have hx' := of_decide_eq_false hx
    obtain ⟨t, t1, t2, t3, t4, t5⟩ := words x (by omega) (by omega)
    have e : IntKind.wrap .u64 x = x := by rw [wU64]; omega
    refine ⟨t, ?_, ?_, t3, t4, t5⟩
    · unfold eB_NewInt peB_Int_SetInt64
      dsimp only
      rw [hx, cond_false, e, t1, Option.bind_some]
      rfl
    · unfold bv
      rw [if_neg (by simp), t2]

/-! ## how long a number is -/
theorem shr1 (x : Int) : bshr .u32 x 1 = x / 2 := by
  unfold bshr
  rw [show (2 : Int) ^ (min (1 : Int).toNat IntKind.u32.bits) = 2 from rfl, Int.fdiv_eq_ediv_of_nonneg _ (by omega)]
/-- the loop over a word's bits: how many there are -/
theorem len_loop (n : Nat) (v3 : List Int) (K : List Int × Int × Unit → Option (Int × Unit)) (kr : Unit → Option (Int × Unit)) : ∀ (k fuel : Nat) (c x : Int), 0 ≤ x → x < 2 ^ k → k ≤ 40 → k < fuel → 0 ≤ c → c + k ≤ 1000 →
    ∃ b : Nat, b ≤ k ∧ (∀ j : Nat, b ≤ j ↔ x < 2 ^ j) ∧ iterN (fun rc => eB_length_s0 n rc K kr) fuel (v3, c, x, ()) = K (v3, c + b, ()) := by
  intro k
  induction k with
  | zero =>
    intro fuel c x h0 h1 hk hf hc hc2
    obtain ⟨f, rfl⟩ : ∃ f, fuel = f + 1 := ⟨fuel - 1, by omega⟩
    have hx : x = 0 := by simp at h1; omega
    refine ⟨0, Nat.le_refl _, fun j => ⟨fun _ => by rw [hx]; exact Int.pow_pos (by omega), fun _ => Nat.zero_le _⟩, ?_⟩
    rw [iterN]
    unfold eB_length_s0
    dsimp only
    rw [hx, show ((0 : Int) != 0) = false from rfl, cond_false]
    simp
  | succ k ih =>
    intro fuel c x h0 h1 hk hf hc hc2
    obtain ⟨f, rfl⟩ : ∃ f, fuel = f + 1 := ⟨fuel - 1, by omega⟩
    by_cases hx : x = 0
    · refine ⟨0, by omega, fun j => ⟨fun _ => by rw [hx]; exact Int.pow_pos (by omega), fun _ => Nat.zero_le _⟩, ?_⟩
      rw [iterN]
      unfold eB_length_s0
      dsimp only
      rw [hx, show ((0 : Int) != 0) = false from rfl, cond_false]
      simp
    · have h2 : x / 2 < 2 ^ k := by rw [Int.pow_succ] at h1; omega
      obtain ⟨b, b1, b2, b3⟩ := ih f (c + 1) (x / 2) (by omega) h2 (by omega) (by omega) (by omega) (by omega)
      refine ⟨b + 1, by omega, fun j => ?_, ?_⟩
      · cases j with
        | zero => simp; omega
        | succ j =>
          rw [Int.pow_succ]
          have := b2 j
          constructor
          · intro h; have := this.1 (by omega); omega
          · intro h; have := this.2 (by omega); omega
      · rw [iterN]
        generalize hR : iterN _ f = R
        unfold eB_length_s0
        dsimp only
        rw [show (x != 0) = true by simpa using hx, cond_true, shr1, wrap64 (by omega) (by omega), ← hR]
        refine b3.trans ?_
        rw [show c + 1 + (b : Int) = c + ((b + 1 : Nat) : Int) by omega]
theorem biglen_ok (n : Nat) (hn : 60 ≤ n) (r : List Int) (w : Int) (hw : 0 < w ∧ w < 4294967296) (hl : r.length ≤ 10) :
    ∃ b : Nat, 1 ≤ b ∧ b ≤ 32 ∧ (b ≤ 31 ↔ w < 2147483648) ∧ eB_length n (r ++ [w], ()) = some (32 * (r.length : Int) + b, ()) := by
  obtain ⟨b, b1, b2, b3⟩ := len_loop n (r ++ [w]) (fun (v6, v7, _) => some (IntKind.wrap .i64 ((IntKind.wrap .i64 ((IntKind.wrap .i64 ((v6.length : Int) - 1)) * 32)) + v7), ())) (fun _ => none) 32 n 0 w (by omega) (by simpa using hw.2) (by omega) (by omega) (by omega) (by omega)
  have hb : 1 ≤ b := by
    rcases Nat.eq_zero_or_pos b with h | h
    · have := (b2 0).1 (by omega); simp at this; omega
    · exact h
  refine ⟨b, hb, b1, by simpa using b2 31, ?_⟩
  unfold eB_length
  dsimp only
  rw [List.length_append, List.length_singleton, show (((r.length + 1 : Nat) : Int) == 0) = false by simp; omega, cond_false,
    wrap64 (by omega) (by omega), show ((r.length + 1 : Nat) : Int) - 1 = (r.length : Int) by omega, ix_ok (show (r ++ [w])[r.length]? = some w by simp), Option.bind_some]
  refine b3.trans ?_
  dsimp only
  rw [List.length_append, List.length_singleton, show ((r.length + 1 : Nat) : Int) - 1 = (r.length : Int) by omega, wrap64 (x := (r.length : Int)) (by omega) (by omega), wrap64 (x := (r.length : Int) * 32) (by omega) (by omega), wrap64 (by omega) (by omega)]
  congr 2
  omega

/-! ## the noughts at the low end -/
theorem bit_ok (w0 w1 : Int) (h0 : 0 ≤ w0 ∧ w0 < 4294967296) (h1 : 0 ≤ w1 ∧ w1 < 4294967296) (i : Nat) (hi : i < 64) :
    eB_bit ([w0, w1], (i : Int), ()) = some ((bif Nat.blt i 32 then w0 / 2 ^ i else w1 / 2 ^ (i - 32)) % 2, ()) := by
  have and1 : ∀ y : Int, 0 ≤ y → y < 4294967296 → band .u64 (IntKind.wrap .u64 y) 1 = y % 2 := by
    intro y g0 g1
    obtain ⟨z, rfl⟩ : ∃ z : Nat, y = z := ⟨y.toNat, by omega⟩
    rw [wrapU64 g0 (by omega)]
    unfold band
    show IntKind.wrap .u64 (((BitVec.ofInt 64 ((z : Nat) : Int) &&& BitVec.ofInt 64 ((1 : Nat) : Int) : BitVec 64)).toNat : Int) = _
    rw [BitVec.toNat_and, BitVec.ofInt_natCast, BitVec.ofInt_natCast, BitVec.toNat_ofNat, BitVec.toNat_ofNat, Nat.mod_eq_of_lt (by omega), Nat.mod_eq_of_lt (by omega), Nat.and_one_is_mod, wrapU64 (by omega) (by omega)]
    omega
  have sh : ∀ (x : Int) (q : Nat), 0 ≤ x → x < 4294967296 → q < 32 → bshr .u32 x (q : Int) = x / 2 ^ q ∧ 0 ≤ x / 2 ^ q ∧ x / 2 ^ q < 4294967296 := by
    intro x q g0 g1 g2
    have hp : (0 : Int) < 2 ^ q := Int.pow_pos (by omega)
    refine ⟨?_, Int.ediv_nonneg g0 (by omega), ?_⟩
    · unfold bshr
      rw [show min ((q : Int)).toNat IntKind.u32.bits = q by simp [IntKind.bits]; omega, Int.fdiv_eq_ediv_of_nonneg _ (by omega)]
    · have := Int.ediv_le_self (2 ^ q) g0
      omega
  unfold eB_bit
  dsimp only
  have e1 : bquo .i64 (i : Int) 32 = ((i / 32 : Nat) : Int) := by
    unfold bquo
    rw [Int.tdiv_eq_ediv_of_nonneg (by omega), wrap64 (by omega) (by omega)]
    omega
  have e2 : brem .u64 (IntKind.wrap .u64 (i : Int)) 32 = ((i % 32 : Nat) : Int) := by
    unfold brem
    rw [wrapU64 (by omega) (by omega), Int.tmod_eq_emod_of_nonneg (by omega)]
    omega
  rw [e1, e2, decide_eq_false (show ¬ ((i : Int) < 0) by omega), decide_eq_false (show ¬ (((i / 32 : Nat) : Int) ≥ (([w0, w1] : List Int).length : Int)) by simp; omega), Bool.or_self, cond_false]
  have e3 : shamt ((i % 32 : Nat) : Int) = some ((i % 32 : Nat) : Int) := by unfold shamt; rw [if_pos (by omega)]
  cases hb : Nat.blt i 32 with
  | true =>
    have hlt := blt_lt hb
    rw [ix_ok (show ([w0, w1] : List Int)[i / 32]? = some w0 by rw [show i / 32 = 0 by omega]; rfl), Option.bind_some, e3, Option.bind_some]
    obtain ⟨s1, s2, s3⟩ := sh w0 (i % 32) h0.1 h0.2 (by omega)
    rw [s1, and1 _ s2 s3, cond_true, show i % 32 = i by omega]
  | false =>
    have hge : 32 ≤ i := by
      rcases Nat.lt_or_ge i 32 with h | h
      · rw [show Nat.blt i 32 = true from Nat.ble_eq_true_of_le h] at hb; cases hb
      · exact h
    rw [ix_ok (show ([w0, w1] : List Int)[i / 32]? = some w1 by rw [show i / 32 = 1 by omega]; rfl), Option.bind_some, e3, Option.bind_some]
    obtain ⟨s1, s2, s3⟩ := sh w1 (i % 32) h1.1 h1.2 (by omega)
    rw [s1, and1 _ s2 s3, cond_false, show i % 32 = i - 32 by omega]
/-- a number that is not 0 has a bit -/
theorem has_bit : ∀ (k : Nat) (x : Int), 0 < x → x < 2 ^ k → ∃ j, j < k ∧ x / 2 ^ j % 2 = 1
  | 0, x, h0, h1 => by simp at h1; omega
  | k + 1, x, h0, h1 => by
    by_cases hx : x % 2 = 1
    · exact ⟨0, by omega, by simpa using hx⟩
    · rw [Int.pow_succ] at h1
      obtain ⟨j, j1, j2⟩ := has_bit k (x / 2) (by omega) (by omega)
      refine ⟨j + 1, by omega, ?_⟩
      rw [Int.pow_succ, Int.mul_comm, ← Int.ediv_ediv_of_nonneg (by omega)]
      exact j2
theorem tz_stop (n : Nat) (s : Bool) (w0 w1 : Int) (h0 : 0 ≤ w0 ∧ w0 < 4294967296) (h1 : 0 ≤ w1 ∧ w1 < 4294967296) (j : Nat) (hj : j < 64) (hb : (bif Nat.blt j 32 then w0 / 2 ^ j else w1 / 2 ^ (j - 32)) % 2 = 1)
    (K : Int × (Bool × List Int × Unit) × Unit → Option (Int × (Bool × List Int × Unit) × Unit)) (kr : Unit → Option (Int × (Bool × List Int × Unit) × Unit)) :
    ∀ (d fuel i : Nat), i + d = j → d < fuel → ∃ k : Nat, k ≤ j ∧ iterN (fun rc => peB_Int_TrailingZeroBits_s0 n rc K kr) fuel ((i : Int), (s, [w0, w1], ()), ()) = K ((k : Int), (s, [w0, w1], ()), ()) := by
  intro d
  induction d with
  | zero =>
    intro fuel i hi hf
    obtain ⟨f, rfl⟩ : ∃ f, fuel = f + 1 := ⟨fuel - 1, by omega⟩
    refine ⟨i, by omega, ?_⟩
    have : i = j := by omega
    subst this
    rw [iterN]
    unfold peB_Int_TrailingZeroBits_s0
    dsimp only
    rw [wrap64 (by omega) (by omega), bit_ok w0 w1 h0 h1 i hj, Option.bind_some]
    dsimp only
    rw [hb]
    rfl
  | succ d ih =>
    intro fuel i hi hf
    obtain ⟨f, rfl⟩ : ∃ f, fuel = f + 1 := ⟨fuel - 1, by omega⟩
    rw [iterN]
    obtain ⟨k, k1, k2⟩ := ih f (i + 1) (by omega) (by omega)
    generalize iterN (fun rc => peB_Int_TrailingZeroBits_s0 n rc K kr) f = R at k2 ⊢
    unfold peB_Int_TrailingZeroBits_s0
    dsimp only
    rw [wrap64 (by omega) (by omega), bit_ok w0 w1 h0 h1 i (by omega), Option.bind_some]
    dsimp only
    cases hz : (bif Nat.blt i 32 then w0 / 2 ^ i else w1 / 2 ^ (i - 32)) % 2 == 0 with
    | true =>
      refine ⟨k, k1, ?_⟩
      rw [cond_true, wrapU64 (by omega) (by omega), show (i : Int) + 1 = ((i + 1 : Nat) : Int) by omega]
      exact k2
    | false => exact ⟨i, by omega, by rw [cond_false]⟩
theorem tz_top (m : Nat) : peB_Int_TrailingZeroBits (m + 70) ((true, [0, 2147483648], ()), ()) = some (63, (true, [0, 2147483648], ()), ()) := by kernel_rfl
theorem tz_ok (n : Nat) (hn : 100 ≤ n) (w0 w1 : Int) (h0 : 0 ≤ w0 ∧ w0 < 4294967296) (h1 : 2147483648 ≤ w1 ∧ w1 < 4294967296) :
    ∃ k : Int, (k == 63) = (decide (w0 = 0) && decide (w1 = 2147483648)) ∧ peB_Int_TrailingZeroBits n ((true, [w0, w1], ()), ()) = some (k, (true, [w0, w1], ()), ()) := by
  by_cases ht : w0 = 0 ∧ w1 = 2147483648
  · obtain ⟨rfl, rfl⟩ := ht
    obtain ⟨m, rfl⟩ : ∃ m, n = m + 70 := ⟨n - 70, by omega⟩
    exact ⟨63, by simp, tz_top m⟩
  · have hj : ∃ j : Nat, j < 63 ∧ (bif Nat.blt j 32 then w0 / 2 ^ j else w1 / 2 ^ (j - 32)) % 2 = 1 := by
      by_cases hw : w0 = 0
      · have hw1 : w1 ≠ 2147483648 := fun h => ht ⟨hw, h⟩
        obtain ⟨j, j1, j2⟩ := has_bit 31 (w1 - 2147483648) (by omega) (by have : (2 : Int) ^ 31 = 2147483648 := rfl; omega)
        refine ⟨j + 32, by omega, ?_⟩
        have hb : Nat.blt (j + 32) 32 = false := by
          cases h : Nat.blt (j + 32) 32 with
          | false => rfl
          | true => have := blt_lt h; omega
        rw [hb, cond_false, Nat.add_sub_cancel]
        have e : w1 = (w1 - 2147483648) + 2 ^ (31 - j) * 2 ^ j := by rw [← Int.pow_add, show 31 - j + j = 31 by omega]; omega
        have hp : (0 : Int) < 2 ^ j := Int.pow_pos (by omega)
        rw [e, Int.add_mul_ediv_right _ _ (by omega), show 31 - j = (30 - j) + 1 by omega, Int.pow_succ]
        omega
      · obtain ⟨j, j1, j2⟩ := has_bit 32 w0 (by omega) (by have : (2 : Int) ^ 32 = 4294967296 := rfl; omega)
        refine ⟨j, by omega, ?_⟩
        rw [show Nat.blt j 32 = true from Nat.ble_eq_true_of_le (by omega), cond_true]
        exact j2
    obtain ⟨j, j1, j2⟩ := hj
    obtain ⟨k, k1, k2⟩ := tz_stop n true w0 w1 h0 (by omega) j (by omega) j2 (fun (v5, o6, _) => some (v5, (o6.1, o6.2.1, ()), ())) (fun _ => none) j n 0 (by omega) (by omega)
    refine ⟨(k : Int), ?_, ?_⟩
    · rw [show ((k : Int) == 63) = false by simp; omega]
      have : ¬ (w0 = 0 ∧ w1 = 2147483648) := ht
      cases hd : decide (w0 = 0) with
      | false => rfl
      | true =>
        rw [Bool.true_and]
        exact (decide_eq_false fun h => this ⟨of_decide_eq_true hd, h⟩).symm
    · unfold peB_Int_TrailingZeroBits
      dsimp only
      rw [show ((([w0, w1] : List Int).length : Int) == 0) = false from rfl, cond_false]
      exact k2

/-! ## does it fit? -/
def inG (x : Int) : Bool := decide (-9223372036854775808 ≤ x) && decide (x ≤ 9223372036854775807)
theorem inG_t {x : Int} (h0 : -9223372036854775808 ≤ x) (h1 : x ≤ 9223372036854775807) : inG x = true := by
  unfold inG; rw [decide_eq_true h0, decide_eq_true h1]; rfl
theorem inG_f {x : Int} (h : ¬ (-9223372036854775808 ≤ x ∧ x ≤ 9223372036854775807)) : inG x = false := by
  unfold inG
  rw [Bool.and_eq_false_iff, decide_eq_false_iff_not, decide_eq_false_iff_not]
  omega
theorem isInt_ok (n : Nat) (hn : 100 ≤ n) (s : Bool) (t : List Int) (ht : Wd t) (hm : Nm t) (hl : t.length ≤ 4) : peB_Int_IsInt64 n ((s, t, ()), ()) = some (inG (bv s t), (s, t, ()), ()) := by
  have top : ∀ (r : List Int) (w : Int), t = r ++ [w] → 0 < w ∧ w < 4294967296 := fun r w e => by
    have h1 := ht w (by rw [e]; simp)
    have h2 := hm w (by rw [e]; simp)
    omega
  unfold peB_Int_IsInt64
  dsimp only
  match t, ht, hm, hl, top with
  | [], _, _, _, _ =>
    rw [show inG (bv s []) = true by cases s <;> rfl]
    rfl
  | [w], ht, _, _, top =>
    have hw := top [] w rfl
    obtain ⟨b, b1, b2, b3, b4⟩ := biglen_ok n (by omega) [] w hw (by simp)
    rw [show ([w] : List Int) = [] ++ [w] from rfl, b4, Option.bind_some]
    dsimp only
    rw [decide_eq_true (show 32 * (([] : List Int).length : Int) + (b : Int) < 64 by simp; omega), cond_true]
    rw [inG_t (by unfold bv; cases s <;> simp [wv] <;> omega) (by unfold bv; cases s <;> simp [wv] <;> omega)]
  | [w0, w], ht, _, _, top =>
    have hw := top [w0] w rfl
    have h0 := ht w0 (by simp)
    obtain ⟨b, b1, b2, b3, b4⟩ := biglen_ok n (by omega) [w0] w hw (by simp)
    rw [show ([w0, w] : List Int) = [w0] ++ [w] from rfl, b4, Option.bind_some]
    dsimp only
    have e : bv s ([w0] ++ [w]) = if s = true then -(w0 + 4294967296 * w) else w0 + 4294967296 * w := by
      unfold bv
      simp [wv]
    by_cases hb : b ≤ 31
    · have := b3.1 hb
      rw [decide_eq_true (show 32 * (([w0] : List Int).length : Int) + (b : Int) < 64 by simp; omega), cond_true]
      rw [inG_t (by rw [e]; cases s <;> simp <;> omega) (by rw [e]; cases s <;> simp <;> omega)]
    · have hge : ¬ w < 2147483648 := fun h => hb (b3.2 h)
      rw [decide_eq_false (show ¬ (32 * (([w0] : List Int).length : Int) + (b : Int) < 64) by simp; omega), cond_false,
        show (32 * (([w0] : List Int).length : Int) + (b : Int) == 64) = true by simp; omega, Bool.true_and]
      cases s with
      | false =>
        rw [cond_false, inG_f (by rw [e]; simp; omega)]
      | true =>
        obtain ⟨k, k1, k2⟩ := tz_ok n hn w0 w h0 (by omega)
        rw [cond_true, show peB_Int_TrailingZeroBits n ((true, [w0] ++ [w], ()), ()) = _ from k2, Option.bind_some]
        dsimp only
        rw [k1]
        congr 2
        rw [e]
        by_cases hx : w0 = 0 ∧ w = 2147483648
        · obtain ⟨rfl, rfl⟩ := hx
          rfl
        · rw [inG_f (by simp; omega)]
          cases hd : decide (w0 = 0) with
          | false => rfl
          | true =>
            rw [Bool.true_and]
            exact decide_eq_false fun h => hx ⟨of_decide_eq_true hd, h⟩
  | [w0, w1, w], ht, _, _, top =>
    have hw := top [w0, w1] w rfl
    have h0 := ht w0 (by simp)
    have h1 := ht w1 (by simp)
    obtain ⟨b, b1, b2, b3, b4⟩ := biglen_ok n (by omega) [w0, w1] w hw (by simp)
    rw [show ([w0, w1, w] : List Int) = [w0, w1] ++ [w] from rfl, b4, Option.bind_some]
    dsimp only
    rw [decide_eq_false (show ¬ (32 * (([w0, w1] : List Int).length : Int) + (b : Int) < 64) by simp; omega), cond_false,
        show (32 * (([w0, w1] : List Int).length : Int) + (b : Int) == 64) = false by simp; omega, Bool.false_and, cond_false]
    rw [inG_f (by unfold bv; cases s <;> simp [wv] <;> omega)]
  | [w0, w1, w2, w], ht, _, _, top =>
    have hw := top [w0, w1, w2] w rfl
    have h0 := ht w0 (by simp)
    have h1 := ht w1 (by simp)
    have h2 := ht w2 (by simp)
    obtain ⟨b, b1, b2, b3, b4⟩ := biglen_ok n (by omega) [w0, w1, w2] w hw (by simp)
    rw [show ([w0, w1, w2, w] : List Int) = [w0, w1, w2] ++ [w] from rfl, b4, Option.bind_some]
    dsimp only
    rw [decide_eq_false (show ¬ (32 * (([w0, w1, w2] : List Int).length : Int) + (b : Int) < 64) by simp; omega), cond_false,
        show (32 * (([w0, w1, w2] : List Int).length : Int) + (b : Int) == 64) = false by simp; omega, Bool.false_and, cond_false]
    rw [inG_f (by unfold bv; cases s <;> simp [wv] <;> omega)]
  | _ :: _ :: _ :: _ :: _ :: _, _, _, h, _ => simp at h
theorem int64_ok (s : Bool) (t : List Int) (ht : Wd t) (hm : Nm t) (hg : inG (bv s t) = true) : peB_Int_Int64 ((s, t, ()), ()) = some (bv s t, (s, t, ()), ()) := by
  have hg' : -9223372036854775808 ≤ bv s t ∧ bv s t ≤ 9223372036854775807 := by
    unfold inG at hg
    simpa using hg
  have hU : wv t < 18446744073709551616 ∧ 0 ≤ wv t := by
    have h0 := wv_nonneg ht
    unfold bv at hg'
    cases s <;> simp at hg' <;> omega
  have hu : peB_Int_Uint64 ((s, t, ()), ()) = some (wv t, (s, t, ()), ()) := by
    unfold peB_Int_Uint64
    dsimp only
    match t, ht, hm, hU with
    | [], _, _, _ => rfl
    | [w], ht, _, _ =>
      have h0 := ht w (by simp)
      have e : IntKind.wrap .u64 w = wv [w] := by rw [wrapU64 h0.1 (by omega)]; simp [wv]
      rw [← e]
      rfl
    | [w0, w1], ht, _, _ =>
      have h0 := ht w0 (by simp)
      have h1 := ht w1 (by simp)
      have e : bor .u64 (IntKind.wrap .u64 w0) (bshl .u64 (IntKind.wrap .u64 w1) 32) = wv [w0, w1] := by rw [or_shift w0 w1 h0 h1]; simp [wv]
      rw [← e]
      rfl
    | w0 :: w1 :: w2 :: r, ht, hm, hU =>
      exfalso
      have h0 := ht w0 (by simp)
      have h1 := ht w1 (by simp)
      have hr : 0 < wv (w2 :: r) := by
        have pos : ∀ (l : List Int), Wd l → Nm l → l ≠ [] → 0 < wv l := by
          intro l
          induction l with
          | nil => intro _ _ h; exact absurd rfl h
          | cons a r ih =>
            intro h1 h2 _
            have g := h1 a (by simp)
            cases r with
            | nil =>
              have := h2 a (by simp)
              simp [wv]
              omega
            | cons b q =>
              have := ih (fun x hx => h1 x (by simp [hx])) (fun w hw => h2 w (by rw [List.getLast?_cons_cons]; exact hw)) (by simp)
              rw [wv]
              omega
        exact pos _ (fun v hv => ht v (by simp only [List.mem_cons] at hv ⊢; exact .inr (.inr hv))) (fun w hw => hm w (by rw [List.getLast?_cons_cons, List.getLast?_cons_cons]; exact hw)) (by simp)
      rw [wv, wv] at hU
      omega
  unfold peB_Int_Int64
  dsimp only
  rw [hu, Option.bind_some]
  dsimp only
  unfold bv at hg' ⊢
  cases s with
  | true =>
    rw [cond_true]
    simp only [if_true] at hg' ⊢
    rw [IntKind.wrap_i64, IntKind.wrap_i64]
    congr 2
    omega
  | false =>
    rw [cond_false]
    simp only [Bool.false_eq_true, if_false] at hg' ⊢
    rw [IntKind.wrap_i64]
    congr 2
    omega

/-! ## a product -/
theorem mulR_ok (n : Nat) (hn : 100 ≤ n) (x y : Int) (hx : -9223372036854775808 ≤ x ∧ x ≤ 9223372036854775807) (hy : -9223372036854775808 ≤ y ∧ y ≤ 9223372036854775807) (s1 s2 : ByteArray) (l1 l2 : List Val) :
    eR_ReckonOf n (⟨#[42]⟩, .mk 2 x s1 l1, .mk 2 y s2 l2, ()) = bif inG (x * y) then some (.mk 2 (x * y) ⟨#[]⟩ [], 0, ()) else some (.mk 0 0 ⟨#[]⟩ [], 4, ()) := by
  obtain ⟨a, a1, a2, a3, a4, a5⟩ := newInt_ok n (by omega) x hx.1 hx.2
  obtain ⟨b, b1, b2, b3, b4, b5⟩ := newInt_ok n (by omega) y hy.1 hy.2
  obtain ⟨t, t1, t2, t3, t4, t5⟩ := bigmul_ok n (by omega) a b a3 b3 a5 b5
  unfold eR_ReckonOf
  dsimp +instances only [kind_mk, n_mk, s_mk, l_mk]
  have q1 : seq (⟨#[42]⟩ : ByteArray) (⟨#[43]⟩ : ByteArray) = false := by decide +kernel
  have q2 : seq (⟨#[42]⟩ : ByteArray) (⟨#[45]⟩ : ByteArray) = false := by decide +kernel
  have q3 : seq (⟨#[42]⟩ : ByteArray) (⟨#[42]⟩ : ByteArray) = true := by decide +kernel
  rw [q1, q2, q3]
  simp only [Bool.not_true, Bool.not_false, Bool.and_false, cond_false, show ((2 : Int) == 0) = false from rfl, Bool.or_self, show ((2 : Int) == 2) = true from rfl, Bool.and_self, cond_true]
  rw [a1, Option.bind_some, b1, Option.bind_some]
  unfold peB_Int_Mul
  dsimp only
  rw [t1, Option.bind_some]
  unfold peB_Int_give
  dsimp only
  rw [Option.bind_some, Option.bind_some]
  dsimp only
  generalize hs : (!(decide (x < 0) == decide (y < 0)) && decide ((t.length : Int) > 0)) = s
  have hv : bv s t = x * y := by
    rw [← a2, ← b2, ← hs]
    unfold bv
    cases t with
    | nil =>
      simp [wv] at t2
      have : wv a = 0 ∨ wv b = 0 := Int.mul_eq_zero.1 t2.symm
      rcases this with h | h <;> simp [h, wv]
    | cons w r =>
      rw [show decide ((((w :: r).length : Nat) : Int) > 0) = true by simp, Bool.and_true, t2]
      cases decide (x < 0) <;> cases decide (y < 0) <;> simp [Int.neg_mul, Int.mul_neg]
  rw [isInt_ok n hn s t t3 t4 t5, hv, Option.bind_some]
  dsimp only
  cases hg : inG (x * y) with
  | false => rfl
  | true =>
    rw [show (!true) = false from rfl, cond_false, cond_true, int64_ok s t t3 t4 (by rw [hv]; exact hg), Option.bind_some, hv]
end Pure

/- Joining, with the errors told (printed by mkjoin2.py out of PJoin). No program. -/
namespace Pure
open Esp Ev Go
set_option linter.unusedSimpArgs false
set_option linter.unusedVariables false

/-- what is wrong with two bags that are to be joined -/
def jE (k : Nat) (a b : List Cnt) : Int :=
  bif short k a || short k b then 9 else bif decide (IntKind.wrap .i64 ((a.length : Int) * (b.length : Int)) > 20000) then 2 else bif bgE a != 0 then bgE a else bgE b
theorem join_ok2 (a b : List Cnt) (k n K : Nat) (hk : k ≤ 30) (wa : WB a) (wb : WB b) (ra : RB K a) (rb : RB K b) (sa : bSz a + 2100 ≤ n) (sb : bSz b + 2100 ≤ n) (fa : a.length < n) (fb : b.length < n) (hp1 : a.length ≤ 9223372036854775807) (hp2 : b.length ≤ 9223372036854775807) (hn : 20000 * (2 * K) + 100000 ≤ n) :
    (jE k a b ≠ 0 ∧ bag_Join n (a, b, (k : Int), ()) = some ([], jE k a b, ())) ∨
    (short k a = false ∧ short k b = false ∧ bgE a = 0 ∧ bgE b = 0 ∧ jE k a b = 0 ∧ a.length * b.length ≤ 20000 ∧
      ((jA k b a = none ∧ bag_Join n (a, b, (k : Int), ()) = some ([], 9, ())) ∨
       ∃ u, jA k b a = some u ∧ (u.length ≤ 20000 ∧ RB (2 * K) u ∧ ∀ c ∈ u, c.r.length ≤ 900 ∧ (∀ v ∈ c.r, vOk v) ∧ chks c.r 1 = 0 ∧ -1099511627776 ≤ c.n ∧ c.n ≤ 1099511627776) ∧ ∃ o, CB o ∧ (∀ w, cf o w = cf u w) ∧ o.length ≤ 20000 ∧ WB o ∧ RB (2 * K) o ∧ bag_Join n (a, b, (k : Int), ()) = bif bgE o != 0 then some ([], bgE o, ()) else some (o, 0, ()))) := by
  have ca := bcheck_ok a n wa sa
  have cb := bcheck_ok b n wb sb
  have hkb : ((decide ((k : Int) < 0)) || (decide ((k : Int) > 30))) = false := by
    rw [Bool.or_eq_false_iff, decide_eq_false_iff_not, decide_eq_false_iff_not]; omega
  unfold bag_Join
  dsimp only
  rw [hkb, cond_false, two_rounds _ (by omega)]
  generalize iterN _ (n - 3) = RR
  unfold bag_Join_s0
  dsimp only
  rw [show decide ((0 : Int) < 2) = true from rfl, cond_true, ix2a, Option.bind_some, R_bag_Join_s2 n _ _ a n _ _ _ _ _ (by omega) fa, short_fold]
  cases h1 : short k a with
  | true =>
    have hE : jE k a b = 9 := by unfold jE; rw [h1]; rfl
    exact .inl ⟨by rw [hE]; omega, by rw [hE]; rfl⟩
  | false =>
  rw [cond_false]
  dsimp only
  rw [w01, show decide ((1 : Int) < 2) = true from rfl, cond_true, ix2b, Option.bind_some, R_bag_Join_s2 n _ _ b n _ _ _ _ _ (by omega) fb, short_fold]
  cases h2 : short k b with
  | true =>
    have hE : jE k a b = 9 := by unfold jE; rw [h1, h2]; rfl
    exact .inl ⟨by rw [hE]; omega, by rw [hE]; rfl⟩
  | false =>
  rw [cond_false]
  dsimp only
  rw [w12, show decide ((2 : Int) < 2) = false from rfl, cond_false]
  have hpw : a.length * b.length ≤ 9000000000000000000 → IntKind.wrap .i64 ((a.length : Int) * (b.length : Int)) = ((a.length * b.length : Nat) : Int) := by
    intro hp
    have e : (a.length : Int) * (b.length : Int) = ((a.length * b.length : Nat) : Int) := by push_cast; rfl
    rw [e]
    generalize a.length * b.length = q at *
    exact wrap64 (by omega) (by omega)
  cases h3 : decide (IntKind.wrap .i64 ((a.length : Int) * (b.length : Int)) > 20000) with
  | true =>
    have hE : jE k a b = 2 := by unfold jE; rw [h1, h2, h3]; rfl
    exact .inl ⟨by rw [hE]; omega, by rw [hE]; rfl⟩
  | false =>
  rw [cond_false]
  unfold bag_both_bag_Join_1_c
  dsimp only
  rw [two_rounds _ (by omega)]
  generalize iterN _ (n - 3) = RS
  unfold bag_both_bag_Join_1_c_s0
  dsimp only
  rw [show decide ((0 : Int) < 2) = true from rfl, cond_true, ix2a, Option.bind_some, ca, Option.bind_some]
  dsimp only
  cases h4 : bgE a != 0 with
  | true =>
    have hE : jE k a b = bgE a := by unfold jE; rw [h1, h2, h3, h4]; rfl
    exact .inl ⟨by rw [hE]; exact bne_iff_ne.1 h4, by rw [hE]; rfl⟩
  | false =>
  rw [cond_false, w01, show decide ((1 : Int) < 2) = true from rfl, cond_true, ix2b, Option.bind_some, cb, Option.bind_some]
  dsimp only
  cases h5 : bgE b != 0 with
  | true =>
    have hE : jE k a b = bgE b := by unfold jE; rw [h1, h2, h3, h4]; rfl
    exact .inl ⟨by rw [hE]; exact bne_iff_ne.1 h5, by rw [hE]; rfl⟩
  | false =>
  have ha : bgE a = 0 := by simpa using h4
  have hb : bgE b = 0 := by simpa using h5
  have hE : jE k a b = 0 := by unfold jE; rw [h1, h2, h3, h4, hb]; rfl
  rw [cond_false, w12, show decide ((2 : Int) < 2) = false from rfl, cond_false]
  obtain ⟨cba, na⟩ := bgE_cb ha
  obtain ⟨cbb, nb⟩ := bgE_cb hb
  obtain ⟨la2, ra2⟩ := bgE_0 ha
  obtain ⟨lb2, rb2⟩ := bgE_0 hb
  have hpl : a.length * b.length ≤ 20000 := by
    have h6 : a.length * b.length ≤ 2000 * 2000 := Nat.mul_le_mul la2 lb2
    have := of_decide_eq_false h3
    rw [hpw (by omega)] at this
    omega
  have ja : JOk k n a := ⟨fun c hc => ⟨short_false h1 c hc, (ra2 c hc).1⟩, fun c hc => (wa c hc).1.2, fun c hc => by have := ra c hc; omega, fun c hc => ⟨na c hc, cba.2 c hc⟩⟩
  have jb : JOk k n b := ⟨fun c hc => ⟨short_false h2 c hc, (rb2 c hc).1⟩, fun c hc => (wb c hc).1.2, fun c hc => by have := rb c hc; omega, fun c hc => ⟨nb c hc, cbb.2 c hc⟩⟩
  have hjl := jA_loop n k (by omega) a b ja jb (by omega) (by omega) (fun (v59, o60, o61, o62, o63, _) => some (v59, (o60.1, ()), (o61.1, ()), (o62.1, ()), (o63.1, ()), ()))
    (fun (o54, o55, o56, o57, o58, _) => (bag_Gather n (o54, ())).bind fun (y64, _) => some (y64, (o55.1, ()), (o56.1, ()), (o57.1, ()), (o58.1, ()), ())) a [] [] n rfl (by simpa using hpl) (by omega)
  have hJ1 : bag_Join_1 n ((a, ()), (b, ()), ((k : Int), ()), (false, ()), ()) = match jA k b a with
      | none => some ([], (a, ()), (b, ()), ((k : Int), ()), (true, ()), ())
      | some u => (bag_Gather n (u, ())).bind fun z => some (z.1, (a, ()), (b, ()), ((k : Int), ()), (false, ()), ()) := by
    unfold bag_Join_1
    refine hjl.trans ?_
    cases jA k b a <;> rfl
  rw [hJ1]
  cases hj : jA k b a with
  | none =>
    dsimp only
    rw [Option.bind_some]
    dsimp only
    have cn := bcheck2 [] n K (by intro c hc; cases hc) (by intro c hc; cases hc) (by simp) (by omega)
    rw [cn, Option.bind_some]
    exact .inr ⟨rfl, rfl, ha, hb, hE, hpl, .inl ⟨rfl, rfl⟩⟩
  | some u =>
    dsimp only
    obtain ⟨lu, ru⟩ := jA_rows k b hj
    have hu1 : ∀ c ∈ u, c.r.length ≤ 900 ∧ (∀ v ∈ c.r, vOk v) ∧ chks c.r 1 = 0 ∧ -1099511627776 ≤ c.n ∧ c.n ≤ 1099511627776 := fun c hc => by
      obtain ⟨x, hx, y, hy, rfl, hov⟩ := ru c hc
      have hbd := ovp_ok (na x hx) (cba.2 x hx) (nb y hy) hov
      unfold jrow
      dsimp only
      refine ⟨?_, fun v hv => ?_, chks_of fun v hv => ?_, hbd.1, hbd.2⟩
      · rw [List.length_append, List.length_drop]
        have := (ra2 x hx).1
        have := (rb2 y hy).1
        omega
      · rcases List.mem_append.1 hv with h | h
        · exact (wa x hx).1.2 v h
        · exact (wb y hy).1.2 v (List.mem_of_mem_drop h)
      · rcases List.mem_append.1 hv with h | h
        · exact chks_0 (ra2 x hx).2 v h
        · exact chks_0 (rb2 y hy).2 v (List.mem_of_mem_drop h)
    have hu2 : RB (2 * K) u := fun c hc => by
      obtain ⟨x, hx, y, hy, rfl, hov⟩ := ru c hc
      unfold jrow
      dsimp only
      rw [lSz_append]
      have := ra x hx
      have := rb y hy
      have := lSz_drop y.r k
      omega
    obtain ⟨o, o1, o2, o3, o4, o5, o6, o7, o8⟩ := gather2 u n (2 * K) 1099511627776 (by omega) hu1 hu2 (by omega) (by omega) (by omega)
    rw [o1, Option.bind_some, Option.bind_some]
    dsimp only
    rw [o8, Option.bind_some]
    dsimp only
    refine .inr ⟨rfl, rfl, ha, hb, hE, hpl, .inr ⟨u, rfl, ⟨by omega, hu2, hu1⟩, o, o2, o3, by omega, o6, o7, ?_⟩⟩
    cases bgE o != 0 <;> rfl
end Pure

/- Two bags are joined as the document says: the plain law. No program. -/
namespace Pure
open Esp Ev Go
set_option linter.unusedSimpArgs false
set_option linter.unusedVariables false

/-! ## a pair of rows -/
theorem sameV (v w : Val) (n : Nat) (hv : vOk v) (hn : vSz v + 2 ≤ n) : eR_SameValue n (v, w, ()) = some (ordV v w == 0, ()) := by
  unfold eR_SameValue
  dsimp only
  simp only [Val.eta]
  rw [orderOf_ok v w n hv hn, Option.bind_some]
theorem mt_iff (k : Nat) (x y : List Val) : mt k x y = true ↔ x.take k = y.take k ∧ ∀ v ∈ x.take k, v.kind ≠ 0 := by
  unfold mt
  rw [Bool.and_eq_true, row_beq, Bool.not_eq_true', List.any_eq_false]
  constructor
  · rintro ⟨h1, h2⟩
    exact ⟨h1, fun v hv => by have := h2 v hv; simpa using this⟩
  · rintro ⟨h1, h2⟩
    exact ⟨h1, fun v hv => by have := h2 v hv; simpa using this⟩
theorem mt_succ (i : Nat) (x y : List Val) (a b : Val) (ha : x[i]? = some a) (hb : y[i]? = some b) : mt (i + 1) x y = (mt i x y && (a.kind != 0) && (ordV a b == 0)) := by
  have e1 : x.take (i + 1) = x.take i ++ [a] := by rw [List.take_add_one, ha]; rfl
  have e2 : y.take (i + 1) = y.take i ++ [b] := by rw [List.take_add_one, hb]; rfl
  have l1 : (x.take i).length = (y.take i).length := by
    have h1 := (List.getElem?_eq_some_iff.1 ha).1
    have h2 := (List.getElem?_eq_some_iff.1 hb).1
    rw [List.length_take, List.length_take]; omega
  rw [Bool.eq_iff_iff, mt_iff, Bool.and_eq_true, Bool.and_eq_true, mt_iff, e1, e2, beq_iff_eq, ordV_zero, bne_iff_ne]
  constructor
  · rintro ⟨h1, h2⟩
    obtain ⟨h3, h4⟩ := List.append_inj h1 l1
    exact ⟨⟨⟨h3, fun v hv => h2 v (by simp [hv])⟩, h2 a (by simp)⟩, by simpa using h4⟩
  · rintro ⟨⟨⟨h1, h2⟩, h3⟩, rfl⟩
    refine ⟨by rw [h1], fun v hv => ?_⟩
    rcases List.mem_append.1 hv with hv | hv
    · exact h2 v hv
    · rw [List.mem_singleton.1 hv]; exact h3
theorem s10_loop (n k : Nat) (hk : k ≤ 1000) (x y : Cnt) (hx : k ≤ x.r.length) (hy : k ≤ y.r.length) (vx : ∀ v ∈ x.r, vOk v) (sx : lSz x.r + 6 ≤ n) {ρ : Type} (v83 v84 : List Cnt) (v85 : Int) (v86 : List Cnt) (v87 v88 v89 : Int) (v91 : List Cnt) (v92 v93 : Int) (o96 : List Cnt)
    (K : List Cnt × List Cnt × Int × List Cnt × Int × Int × Int × Bool × List Cnt × Int × Int × List Cnt × (Cnt × Unit) × (Cnt × Unit) × Unit → Option ρ) (kr : Unit → Option ρ) :
    ∀ (d i fuel : Nat), i + d = k → d < fuel → iterN (fun rc => eL_BagJoin_s10 n rc K kr) fuel (v83, v84, v85, v86, v87, v88, v89, mt i x.r y.r, v91, v92, v93, (k : Int), (i : Int), o96, (y, ()), (x, ()), ()) =
      K (v83, v84, v85, v86, v87, v88, v89, mt k x.r y.r, v91, v92, v93, o96, (y, ()), (x, ()), ()) := by
  intro d
  induction d with
  | zero =>
    intro i fuel hi hf
    obtain ⟨f, rfl⟩ : ∃ f, fuel = f + 1 := ⟨fuel - 1, by omega⟩
    have : i = k := by omega
    subst this
    rw [iterN]
    unfold eL_BagJoin_s10
    dsimp only
    rw [decide_eq_false (show ¬ (i : Int) < (i : Int) by omega), cond_false]
  | succ d ih =>
    intro i fuel hi hf
    obtain ⟨f, rfl⟩ : ∃ f, fuel = f + 1 := ⟨fuel - 1, by omega⟩
    have hix : x.r[i]? = some x.r[i] := List.getElem?_eq_getElem (by omega)
    have hiy : y.r[i]? = some y.r[i] := List.getElem?_eq_getElem (by omega)
    have ih2 := ih (i + 1) f (by omega) (by omega)
    have hs := mt_succ i x.r y.r _ _ hix hiy
    rw [iterN]
    generalize iterN (fun rc => eL_BagJoin_s10 n rc K kr) f = R at ih2 ⊢
    unfold eL_BagJoin_s10
    dsimp only
    rw [decide_eq_true (show (i : Int) < (k : Int) by omega), cond_true, wadd1 (by omega)]
    cases h1 : mt i x.r y.r with
    | false =>
      rw [h1, Bool.false_and, Bool.false_and] at hs
      rw [hs] at ih2
      rw [cond_false]
      exact ih2
    | true =>
      rw [h1, Bool.true_and] at hs
      rw [cond_true, ix_ok hix, Option.bind_some, ix_ok hiy]
      cases h2 : x.r[i].kind != 0 with
      | false =>
        rw [h2, Bool.false_and] at hs
        rw [hs] at ih2
        rw [cond_false]
        exact ih2
      | true =>
        rw [h2, Bool.true_and] at hs
        have hm : x.r[i] ∈ x.r := List.getElem_mem _
        have := lSz_mem hm
        rw [cond_true, Option.bind_some, Option.bind_some, Val.eta, Val.eta, sameV _ _ n (vx _ hm) (by omega), Option.bind_some]
        dsimp only
        rw [hs] at ih2
        exact ih2
theorem ovp_true {x y : Cnt} (hx : -1099511627776 ≤ x.n ∧ x.n ≤ 1099511627776) (hx0 : x.n ≠ 0) (hy : -1099511627776 ≤ y.n ∧ y.n ≤ 1099511627776) (h : ovp x y = true) : ¬ (-1099511627776 ≤ x.n * y.n ∧ x.n * y.n ≤ 1099511627776) := by
  unfold ovp at h
  have h := of_decide_eq_true h
  rw [sz_ok hx, sz_ok hy] at h
  have hq : bquo .i64 1099511627776 (x.n.natAbs : Int) = ((1099511627776 / x.n.natAbs : Nat) : Int) := by
    unfold bquo
    have : (1099511627776 : Int).tdiv (x.n.natAbs : Int) = ((1099511627776 / x.n.natAbs : Nat) : Int) := rfl
    have h2 : 1099511627776 / x.n.natAbs ≤ 1099511627776 := Nat.div_le_self _ _
    rw [this]
    generalize 1099511627776 / x.n.natAbs = q at *
    exact wrap64 (by omega) (by omega)
  rw [hq] at h
  have h1 : 1099511627776 / x.n.natAbs + 1 ≤ y.n.natAbs := by omega
  have h2 : 1099511627776 < x.n.natAbs * (1099511627776 / x.n.natAbs + 1) := Nat.lt_mul_div_succ _ (by omega)
  have h3 : x.n.natAbs * (1099511627776 / x.n.natAbs + 1) ≤ x.n.natAbs * y.n.natAbs := Nat.mul_le_mul_left _ h1
  have h4 : 1099511627776 < (x.n * y.n).natAbs := by rw [Int.natAbs_mul]; omega
  omega
/-- the product, as the document asks -/
theorem prod_ok (n : Nat) (hn : 100 ≤ n) (x y : Cnt) (hx : (-1099511627776 ≤ x.n ∧ x.n ≤ 1099511627776) ∧ x.n ≠ 0) (hy : (-1099511627776 ≤ y.n ∧ y.n ≤ 1099511627776) ∧ y.n ≠ 0) :
    ∃ (p e : Int), eR_ReckonOf n (⟨#[42]⟩, .mk 2 x.n ⟨#[]⟩ [], .mk 2 y.n ⟨#[]⟩ [], ()) = some (.mk (if e = 0 then 2 else 0) p ⟨#[]⟩ [], e, ()) ∧
      ((((e : Int) != 0) || (decide ((p : Int) > 1099511627776))) || (decide ((p : Int) < (-1099511627776)))) = ovp x y ∧ (ovp x y = false → p = x.n * y.n) := by
  have hm := mulR_ok n hn x.n y.n (by omega) (by omega) ⟨#[]⟩ ⟨#[]⟩ [] []
  cases hg : inG (x.n * y.n) with
  | true =>
    refine ⟨x.n * y.n, 0, by rw [hm, hg]; rfl, ?_, fun _ => rfl⟩
    rw [show ((0 : Int) != 0) = false from rfl, Bool.false_or]
    cases ho : ovp x y with
    | true =>
      have := ovp_true hx.1 hx.2 hy.1 ho
      rw [Bool.or_eq_true, decide_eq_true_eq, decide_eq_true_eq]
      omega
    | false =>
      have := ovp_ok hx.1 hx.2 hy.1 ho
      rw [Bool.or_eq_false_iff, decide_eq_false_iff_not, decide_eq_false_iff_not]
      omega
  | false =>
    have ho : ovp x y = true := by
      cases ho : ovp x y with
      | true => rfl
      | false =>
        have := ovp_ok hx.1 hx.2 hy.1 ho
        rw [inG_t (by omega) (by omega)] at hg
        cases hg
    refine ⟨0, 4, by rw [hm, hg]; rfl, by rw [ho]; rfl, fun h => by rw [ho] at h; cases h⟩

/-! ## the document's pairs -/
theorem s8_loop (n k : Nat) (hk : k ≤ 30) (hn : 1000 ≤ n) (a b : List Cnt) (x : Cnt) (i : Nat) (hi : a[i]? = some x) (hx : JOk k n [x]) (hb : JOk k n b) (lb : b.length ≤ 100000) (j : List Cnt) (e : Int) {ρ : Type}
    (K : List Cnt × List Cnt × Int × List Cnt × Int × Int × Int × List Cnt × Unit → Option ρ) (kr : Unit → Option ρ) :
    ∀ (r p acc : List Cnt) (fuel : Nat), b = p ++ r → acc.length + r.length ≤ 100000 → r.length < fuel →
      ∃ w, iterN (fun rc => eL_BagJoin_s8 n rc K kr) fuel (a, b, (k : Int), j, e, 0, (i : Int), b, (b.length : Int), (p.length : Int), acc, ()) = K (a, b, (k : Int), j, e, (if jB k x r = none then 9 else 0), (i : Int), w, ()) ∧ ∀ u, jB k x r = some u → w = acc ++ u := by
  have hxl := hx.len x (by simp)
  have hxs := hx.sz x (by simp)
  have hxb := hx.bnd x (by simp)
  intro r
  induction r with
  | nil =>
    intro p acc fuel hp hl hf
    obtain ⟨f, rfl⟩ : ∃ f, fuel = f + 1 := ⟨fuel - 1, by omega⟩
    refine ⟨acc, ?_, fun u hu => by cases hu; simp⟩
    rw [iterN]
    unfold eL_BagJoin_s8
    dsimp only
    rw [decide_eq_false (show ¬ (p.length : Int) < (b.length : Int) by subst hp; simp), cond_false, jB]
    rfl
  | cons y r ih =>
    intro p acc fuel hp hl hf
    obtain ⟨f, rfl⟩ : ∃ f, fuel = f + 1 := ⟨fuel - 1, by omega⟩
    have hym : y ∈ b := by rw [hp]; simp
    have hyl := hb.len y hym
    have hyb := hb.bnd y hym
    have hpl : p.length < b.length := by rw [hp]; simp
    have ihf := fun acc' ha => ih (p ++ [y]) acc' f (by rw [hp]; simp) ha (by simp at hf; omega)
    rw [List.length_append, List.length_singleton] at ihf
    rw [iterN]
    generalize iterN (fun rc => eL_BagJoin_s8 n rc K kr) f = R at ihf ⊢
    unfold eL_BagJoin_s8
    dsimp only
    rw [decide_eq_true (show (p.length : Int) < (b.length : Int) by omega), cond_true, ix_mid hp rfl, Option.bind_some, ix_ok hi, Option.bind_some, Cnt.eta, Cnt.eta]
    have h10 := fun (v91 : List Cnt) K' kr' => s10_loop (ρ := ρ) n k (by omega) x y hxl.1 hyl.1 (hx.vok x (by simp)) hxs a b (k : Int) j e 0 (i : Int) v91 (b.length : Int) (p.length : Int) acc K' kr' k 0 n (by omega) (by omega)
    have hm0 : mt 0 x.r y.r = true := by rw [mt_iff]; simp
    rw [hm0] at h10
    have e0 : ((0 : Nat) : Int) = 0 := rfl
    rw [e0] at h10
    rw [h10]
    dsimp only
    rw [jB]
    cases h1 : mt k x.r y.r with
    | false =>
      rw [Bool.not_false, cond_true, wadd1 (by omega)]
      exact ihf acc (by simp at hl; omega)
    | true =>
      rw [Bool.not_true, cond_false, cond_true]
      obtain ⟨q, er, p1, p2, p3⟩ := prod_ok n (by omega) x y hxb hyb
      rw [show eL_num (x.n, ()) = some (.mk 2 x.n ⟨#[]⟩ [], ()) from rfl, show eL_num (y.n, ()) = some (.mk 2 y.n ⟨#[]⟩ [], ()) from rfl, Option.bind_some, Option.bind_some]
      dsimp +instances only [kind_mk, n_mk, s_mk, l_mk]
      rw [p1, Option.bind_some]
      dsimp +instances only [kind_mk, n_mk, s_mk, l_mk]
      rw [p2]
      cases h2 : ovp x y with
      | true =>
        refine ⟨acc, ?_, fun u hu => by cases hu⟩
        rfl
      | false =>
        rw [cond_false, cond_false, lslD y.r k hyl.1, Option.bind_some, concat_ok x.r (y.r.drop k) n (by rw [List.length_drop]; omega) (by omega), Option.bind_some, p3 h2]
        dsimp only
        rw [ck_ok (roomB (by simp at hl ⊢; omega) (by omega)), wadd1 (by omega)]
        obtain ⟨w, w1, w2⟩ := ihf (acc ++ [jrow k x y]) (by simp at hl ⊢; omega)
        refine ⟨w, ?_, fun u hu => ?_⟩
        · refine w1.trans ?_
          cases jB k x r <;> rfl
        · rw [Option.map_eq_some_iff] at hu
          obtain ⟨v, hv, rfl⟩ := hu
          rw [w2 v hv]
          simp
theorem s6_end (n : Nat) (a b : List Cnt) (k : Int) (j : List Cnt) (e bad i : Int) (acc : List Cnt) {ρ : Type} (K : List Cnt × Int × Int × List Cnt × Unit → Option ρ) (kr : Unit → Option ρ) (fuel : Nat) (hf : 0 < fuel) (h : (bad == 0 && decide (i < (a.length : Int))) = false) :
    iterN (fun rc => eL_BagJoin_s6 n rc K kr) fuel (a, b, k, j, e, bad, i, acc, ()) = K (j, e, bad, acc, ()) := by
  obtain ⟨f, rfl⟩ : ∃ f, fuel = f + 1 := ⟨fuel - 1, by omega⟩
  rw [iterN]
  unfold eL_BagJoin_s6
  dsimp only
  rw [h, cond_false]
theorem s6_loop (n k : Nat) (hk : k ≤ 30) (hn : 100000 ≤ n) (a b : List Cnt) (ha : JOk k n a) (hb : JOk k n b) (la : a.length ≤ 20000) (lb : b.length ≤ 20000) (j : List Cnt) (e : Int) {ρ : Type}
    (K : List Cnt × Int × Int × List Cnt × Unit → Option ρ) (kr : Unit → Option ρ) :
    ∀ (r p acc : List Cnt) (fuel : Nat), a = p ++ r → acc.length + r.length * b.length ≤ 20000 → r.length + 1 < fuel →
      ∃ w, iterN (fun rc => eL_BagJoin_s6 n rc K kr) fuel (a, b, (k : Int), j, e, 0, (p.length : Int), acc, ()) = K (j, e, (if jA k b r = none then 9 else 0), w, ()) ∧ ∀ u, jA k b r = some u → w = acc ++ u := by
  intro r
  induction r with
  | nil =>
    intro p acc fuel hp hl hf
    refine ⟨acc, ?_, fun u hu => by cases hu; simp⟩
    rw [s6_end n a b k j e 0 p.length acc K kr fuel (by omega) (by rw [decide_eq_false (by subst hp; simp)]; rfl), jA]
    rfl
  | cons x r ih =>
    intro p acc fuel hp hl hf
    obtain ⟨f, rfl⟩ : ∃ f, fuel = f + 1 := ⟨fuel - 1, by omega⟩
    have hxm : x ∈ a := by rw [hp]; simp
    have hpl : p.length < a.length := by rw [hp]; simp
    rw [List.length_cons, Nat.add_mul, Nat.one_mul] at hl
    have hx : JOk k n [x] := ⟨fun c hc => by rw [List.mem_singleton.1 hc]; exact ha.len x hxm, fun c hc => by rw [List.mem_singleton.1 hc]; exact ha.vok x hxm, fun c hc => by rw [List.mem_singleton.1 hc]; exact ha.sz x hxm, fun c hc => by rw [List.mem_singleton.1 hc]; exact ha.bnd x hxm⟩
    have ihf := fun acc' ha' => ih (p ++ [x]) acc' f (by rw [hp]; simp) ha' (by simp at hf; omega)
    rw [List.length_append, List.length_singleton] at ihf
    have hend := fun bad (i : Int) acc' h => s6_end n a b (k : Int) j e bad i acc' K kr f (by simp at hf; omega) h
    rw [iterN]
    generalize iterN (fun rc => eL_BagJoin_s6 n rc K kr) f = R at ihf hend ⊢
    unfold eL_BagJoin_s6
    dsimp only
    rw [show ((0 : Int) == 0) = true from rfl, decide_eq_true (show (p.length : Int) < (a.length : Int) by omega), Bool.and_self, cond_true]
    have h8 := fun K' kr' => s8_loop (ρ := ρ) n k hk (by omega) a b x p.length (by rw [hp]; simp) hx hb (by omega) j e K' kr' b [] acc n rfl (by omega) (by omega)
    have e0 : ((([] : List Cnt).length : Nat) : Int) = 0 := rfl
    rw [e0] at h8
    generalize hK : (fun (z : List Cnt × List Cnt × Int × List Cnt × Int × Int × Int × List Cnt × Unit) => _) = KK
    obtain ⟨w, w1, w2⟩ := h8 KK (fun _ => none)
    rw [w1]
    subst hK
    dsimp only
    rw [jA, wadd1 (by omega)]
    cases hj : jB k x b with
    | none =>
      refine ⟨w, ?_, fun u hu => by cases hu⟩
      rw [if_pos rfl, hend 9 _ w rfl]
      rfl
    | some u =>
      have lu := (jB_rows k x hj).1
      obtain ⟨w', w3, w4⟩ := ihf w (by rw [w2 u hj, List.length_append]; omega)
      refine ⟨w', ?_, fun v hv => ?_⟩
      · rw [if_neg (by simp)]
        refine w3.trans ?_
        cases jA k b r <;> rfl
      · rw [Option.bind_some, Option.map_eq_some_iff] at hv
        obtain ⟨z, hz, rfl⟩ := hv
        rw [w4 z hz, w2 u hj, List.append_assoc]

/-! ## what is asked ahead -/
def shortI (k : Int) (a : List Cnt) : Bool := a.any fun c => decide ((c.r.length : Int) < k)
theorem shortI_nat (k : Nat) (a : List Cnt) : shortI (k : Int) a = short k a := by
  unfold shortI short
  congr 1
  funext c
  rw [Bool.eq_iff_iff, decide_eq_true_iff, decide_eq_true_iff]
  omega
theorem s2_fold (n : Nat) (a b : List Cnt) (k : Int) (j : List Cnt) (e : Int) (l2 : List (List Cnt)) (v23 v24 : Int) {ρ : Type} (kr : Unit → Option ρ) (K : List Cnt × List Cnt × Int × List Cnt × Int × Int × List (List Cnt) × Int × Int × Unit → Option ρ) :
    ∀ (r : List Cnt) (i bad : Int), foldK (F_eL_BagJoin_s2 n kr) K i r (a, b, k, j, e, bad, l2, v23, v24, ()) = K (a, b, k, j, e, (bif (bad == 0) && shortI k r then 9 else bad), l2, v23, v24, ()) := by
  intro r
  induction r with
  | nil => intro i bad; rw [foldK]; unfold shortI; simp
  | cons x r ih =>
    intro i bad
    rw [foldK]
    generalize hR : foldK (F_eL_BagJoin_s2 n kr) K (i + 1) r = R
    unfold F_eL_BagJoin_s2
    dsimp only
    have e1 : shortI k (x :: r) = (decide ((x.r.length : Int) < k) || shortI k r) := by unfold shortI; rw [List.any_cons]
    rw [e1]
    cases h : (bad == 0) && decide ((x.r.length : Int) < k) with
    | true =>
      rw [cond_true, ← hR, ih]
      rw [Bool.and_eq_true] at h
      rw [h.1, h.2]
      rfl
    | false =>
      rw [cond_false, ← hR, ih]
      cases hb : bad == 0 with
      | false => rfl
      | true =>
        rw [hb, Bool.true_and] at h
        rw [h]
        rfl
noncomputable def jK6 (n : Nat) : List Cnt × Int × Int × List Cnt × Unit → Option (Bool × Unit) :=
  fun (v135, v136, v137, o138, _) => 
  (eL_bagged n (())).bind fun (y139, _) => 
  (bif (!y139) || ((v137 : Int) != 0) then 
  (eL_bagged n (())).bind fun (y140, _) => some ((y140 && ((v136 : Int) == v137)) && (((v135.length : Int) : Int) == 0), ())
  else 
  (eR_BagOf n (o138, ())).bind fun (y141, _) => 
  (eL_bags n (v135, v136, y141, ())).bind fun (y142, _) => some (y142, ()))
noncomputable def jK4 (n : Nat) : List Cnt × List Cnt × Int × List Cnt × Int × Int × Unit → Option (Bool × Unit) :=
  fun (v56, v57, v58, v59, v60, v61, _) => 
  iterN (fun rc143 => eL_BagJoin_s6 n rc143 (fun (v135, v136, v137, o138, _) => 
  (eL_bagged n (())).bind fun (y139, _) => 
  (bif (!y139) || ((v137 : Int) != 0) then 
  (eL_bagged n (())).bind fun (y140, _) => some ((y140 && ((v136 : Int) == v137)) && (((v135.length : Int) : Int) == 0), ())
  else 
  (eR_BagOf n (o138, ())).bind fun (y141, _) => 
  (eL_bags n (v135, v136, y141, ())).bind fun (y142, _) => some (y142, ()))) (fun (_) => none)) (n) (v56, v57, v58, v59, v60, v61, 0, ([] : List Ev.Cnt), ())
noncomputable def jK0 (n : Nat) : List Cnt × List Cnt × Int × List Cnt × Int × Int × Unit → Option (Bool × Unit) :=
  fun (v39, v40, v41, v42, v43, v44, _) => 
  (bif ((v44 : Int) == 0) && (decide ((IntKind.wrap .i64 ((v39.length : Int) * (v40.length : Int)) : Int) > 20000)) then 
  iterN (fun rc144 => eL_BagJoin_s4 n rc144 (fun (v56, v57, v58, v59, v60, v61, _) => 
  iterN (fun rc143 => eL_BagJoin_s6 n rc143 (fun (v135, v136, v137, o138, _) => 
  (eL_bagged n (())).bind fun (y139, _) => 
  (bif (!y139) || ((v137 : Int) != 0) then 
  (eL_bagged n (())).bind fun (y140, _) => some ((y140 && ((v136 : Int) == v137)) && (((v135.length : Int) : Int) == 0), ())
  else 
  (eR_BagOf n (o138, ())).bind fun (y141, _) => 
  (eL_bags n (v135, v136, y141, ())).bind fun (y142, _) => some (y142, ()))) (fun (_) => none)) (n) (v56, v57, v58, v59, v60, v61, 0, ([] : List Ev.Cnt), ())) (fun (_) => none)) (n) (v39, v40, v41, v42, v43, 2, ([v39, v40] : List (List Ev.Cnt)), (([v39, v40] : List (List Ev.Cnt)).length : Int), 0, ())
  else 
  iterN (fun rc160 => eL_BagJoin_s4 n rc160 (fun (v145, v146, v147, v148, v149, v150, _) => 
  iterN (fun rc159 => eL_BagJoin_s6 n rc159 (fun (v151, v152, v153, o154, _) => 
  (eL_bagged n (())).bind fun (y155, _) => 
  (bif (!y155) || ((v153 : Int) != 0) then 
  (eL_bagged n (())).bind fun (y156, _) => some ((y156 && ((v152 : Int) == v153)) && (((v151.length : Int) : Int) == 0), ())
  else 
  (eR_BagOf n (o154, ())).bind fun (y157, _) => 
  (eL_bags n (v151, v152, y157, ())).bind fun (y158, _) => some (y158, ()))) (fun (_) => none)) (n) (v145, v146, v147, v148, v149, v150, 0, ([] : List Ev.Cnt), ())) (fun (_) => none)) (n) (v39, v40, v41, v42, v43, v44, ([v39, v40] : List (List Ev.Cnt)), (([v39, v40] : List (List Ev.Cnt)).length : Int), 0, ()))
theorem jK6_bad (n : Nat) (hn : 300 ≤ n) (e : Int) (l : List Cnt) (h : e ≠ 0) : jK6 n ([], e, e, l, ()) = some (true, ()) := by
  unfold jK6
  dsimp only
  rw [bagged_ok n hn, Option.bind_some]
  dsimp only
  rw [show (!true || (e != 0)) = true by simpa using h, cond_true, Option.bind_some]
  dsimp only
  rw [beq_self_eq_true]
  rfl
theorem jK4_bad (n : Nat) (hn : 300 ≤ n) (a b : List Cnt) (k : Int) (e : Int) (h : e ≠ 0) : jK4 n (a, b, k, [], e, e, ()) = some (true, ()) := by
  unfold jK4
  dsimp only
  refine (s6_end n a b k [] e e 0 [] (jK6 n) (fun _ => none) n (by omega) ?_).trans (jK6_bad n hn e [] h)
  rw [show (e == 0) = false by simpa using h, Bool.false_and]
/-- bad as it is behind the two checks -/
theorem s4_ok (n : Nat) (hn : 300 ≤ n) (a b : List Cnt) (k : Int) (j : List Cnt) (e bad : Int) (ca : eR_CheckBag n (a, ()) = some (bgE a, ())) (cb : eR_CheckBag n (b, ()) = some (bgE b, ())) (K : List Cnt × List Cnt × Int × List Cnt × Int × Int × Unit → Option (Bool × Unit)) (kr : Unit → Option (Bool × Unit)) :
    iterN (fun rc => eL_BagJoin_s4 n rc K kr) n (a, b, k, j, e, bad, ([a, b] : List (List Ev.Cnt)), (([a, b] : List (List Ev.Cnt)).length : Int), 0, ()) = K (a, b, k, j, e, (bif bad != 0 then bad else bif bgE a != 0 then bgE a else bgE b), ()) := by
  rw [R_eL_BagJoin_s4 n K kr [a, b] n a b k j e bad (by simp) (by simp; omega)]
  simp only [foldK, F_eL_BagJoin_s4]
  cases h : bad == 0 with
  | false =>
    have h' : (bad != 0) = true := by unfold bne; rw [h]; rfl
    rw [h']
    simp only [cond_false, cond_true, h]
  | true =>
    have h' : (bad != 0) = false := by unfold bne; rw [h]; rfl
    rw [h', cond_true, ca, Option.bind_some]
    dsimp only
    rw [cond_false]
    cases h2 : bgE a == 0 with
    | true =>
      have h2' : (bgE a != 0) = false := by unfold bne; rw [h2]; rfl
      rw [h2', cond_true, cb, Option.bind_some, cond_false]
    | false =>
      have h2' : (bgE a != 0) = true := by unfold bne; rw [h2]; rfl
      rw [h2', cond_false, cond_true]
theorem s0_ok (n : Nat) (hn : 300 ≤ n) (a b : List Cnt) (la : a.length < n) (lb : b.length < n) (la2 : a.length ≤ 9223372036854775807) (lb2 : b.length ≤ 9223372036854775807) (k : Int) (j : List Cnt) (e bad : Int) (K : List Cnt × List Cnt × Int × List Cnt × Int × Int × Unit → Option (Bool × Unit)) (kr : Unit → Option (Bool × Unit)) :
    iterN (fun rc => eL_BagJoin_s0 n rc K kr) n (a, b, k, j, e, bad, ([a, b] : List (List Ev.Cnt)), (([a, b] : List (List Ev.Cnt)).length : Int), 0, ()) = K (a, b, k, j, e, (bif (bad == 0) && (shortI k a || shortI k b) then 9 else bad), ()) := by
  rw [two_rounds _ (by omega)]
  generalize iterN _ (n - 3) = RR
  unfold eL_BagJoin_s0
  dsimp only
  rw [show decide ((0 : Int) < (([a, b] : List (List Ev.Cnt)).length : Int)) = true from rfl, cond_true, ix2a, Option.bind_some, R_eL_BagJoin_s2 n _ _ a n _ _ _ _ _ _ _ _ _ la2 la, s2_fold]
  dsimp only
  rw [w01, show decide ((1 : Int) < (([a, b] : List (List Ev.Cnt)).length : Int)) = true from rfl, cond_true, ix2b, Option.bind_some, R_eL_BagJoin_s2 n _ _ b n _ _ _ _ _ _ _ _ _ lb2 lb, s2_fold]
  dsimp only
  rw [w12, show decide ((2 : Int) < (([a, b] : List (List Ev.Cnt)).length : Int)) = false from rfl, cond_false]
  cases hb : bad == 0 <;> cases h1 : shortI k a <;> cases h2 : shortI k b <;> simp [hb]
theorem bags3_ok (o : List Cnt) (n K : Nat) (wo : WB o) (ro : RB K o) (ho : o.length ≤ 20000) (hn : 20000 * K + 30000 ≤ n) :
    (bgE o ≠ 0 → eL_bags n ([], bgE o, o, ()) = some (true, ())) ∧ (bgE o = 0 → eL_bags n (o, 0, o, ()) = some (true, ())) := by
  have h1 := bSz_le ro
  have h2 : o.length * K ≤ 20000 * K := Nat.mul_le_mul_right _ ho
  have hc := rbcheck_ok o n wo (by omega)
  unfold eL_bags
  dsimp only
  rw [hc, Option.bind_some, Option.bind_some]
  dsimp only
  refine ⟨fun h => ?_, fun h => ?_⟩
  · rw [bne_iff_ne.2 h, cond_true, beq_self_eq_true]; rfl
  · rw [h, show ((0 : Int) != 0) = false from rfl, cond_false, show ((0 : Int) == 0) = true from rfl, cond_true, same2 o n K wo ro (bgE_0 h).1 hn]
    rfl

/-! ## the law -/
theorem BagJoin_ok (a b : List Cnt) (k : Int) (wa : WB a) (wb : WB b) (la2 : a.length ≤ 9223372036854775807) (lb2 : b.length ≤ 9223372036854775807) (n : Nat) (hn : 40000 * (bSz a + bSz b + 6) + 200000 + a.length + b.length ≤ n) : eL_BagJoin n (a, b, k, ()) = some (true, ()) := by
  have ca := rbcheck_ok a n wa (by omega)
  have cb := rbcheck_ok b n wb (by omega)
  have st0 := fun (j : List Cnt) (e bad : Int) => s0_ok n (by omega) a b (by omega) (by omega) la2 lb2 k j e bad (jK0 n) (fun _ => none)
  have st4 := fun (j : List Cnt) (e bad : Int) => s4_ok n (by omega) a b k j e bad ca cb (jK4 n) (fun _ => none)
  unfold eL_BagJoin
  dsimp only
  cases hk : (decide ((k : Int) < 0)) || (decide ((k : Int) > 30)) with
  | true =>
    have hJ : bag_Join n (a, b, k, ()) = some ([], 9, ()) := by unfold bag_Join; dsimp only; rw [hk]; rfl
    rw [hJ, Option.bind_some]
    dsimp only
    rw [cond_true]
    refine (st0 [] 9 9).trans ?_
    rw [show ((9 : Int) == 0) = false from rfl, Bool.false_and, cond_false]
    unfold jK0
    dsimp only
    rw [show ((9 : Int) == 0) = false from rfl, Bool.false_and, cond_false]
    refine (st4 [] 9 9).trans ?_
    exact jK4_bad n (by omega) a b k 9 (by omega)
  | false =>
    rw [Bool.or_eq_false_iff, decide_eq_false_iff_not, decide_eq_false_iff_not] at hk
    obtain ⟨m, rfl⟩ : ∃ m : Nat, k = m := ⟨k.toNat, by omega⟩
    have hm : m ≤ 30 := by omega
    have ra : RB (bSz a + bSz b + 6) a := fun c hc => by have := bSz_mem hc; omega
    have rb : RB (bSz a + bSz b + 6) b := fun c hc => by have := bSz_mem hc; omega
    have hj := join_ok2 a b m n (bSz a + bSz b + 6) hm wa wb ra rb (by omega) (by omega) (by omega) (by omega) la2 lb2 (by omega)
    have hbad : ∀ (j : List Cnt) (e : Int), jK0 n (a, b, (m : Int), j, e, (bif ((0 : Int) == 0) && (shortI m a || shortI m b) then 9 else 0), ()) = jK4 n (a, b, (m : Int), j, e, jE m a b, ()) := by
      intro j e
      rw [shortI_nat, shortI_nat, show ((0 : Int) == 0) = true from rfl, Bool.true_and]
      unfold jE jK0
      dsimp only
      cases h1 : short m a || short m b with
      | true =>
        rw [cond_true, cond_true, show ((9 : Int) == 0) = false from rfl, Bool.false_and, cond_false]
        exact st4 j e 9
      | false =>
        rw [cond_false, cond_false, show ((0 : Int) == 0) = true from rfl, Bool.true_and]
        cases h2 : decide (IntKind.wrap .i64 ((a.length : Int) * (b.length : Int)) > 20000) with
        | true =>
          rw [cond_true, cond_true]
          exact st4 j e 2
        | false =>
          rw [cond_false, cond_false]
          exact st4 j e 0
    rcases hj with ⟨h1, h2⟩ | ⟨h1, h2, h3, h4, h5, h6, hr⟩
    · rw [h2, Option.bind_some]
      dsimp only
      rw [cond_false]
      refine (st0 [] (jE m a b) 0).trans ?_
      rw [hbad]
      exact jK4_bad n (by omega) a b m _ h1
    · have ja : JOk m n a := by
        obtain ⟨cba, na⟩ := bgE_cb h3
        obtain ⟨la2, ra2⟩ := bgE_0 h3
        exact ⟨fun c hc => ⟨short_false h1 c hc, (ra2 c hc).1⟩, fun c hc => (wa c hc).1.2, fun c hc => by have := ra c hc; omega, fun c hc => ⟨na c hc, cba.2 c hc⟩⟩
      have jb : JOk m n b := by
        obtain ⟨cbb, nb⟩ := bgE_cb h4
        obtain ⟨lb2, rb2⟩ := bgE_0 h4
        exact ⟨fun c hc => ⟨short_false h2 c hc, (rb2 c hc).1⟩, fun c hc => (wb c hc).1.2, fun c hc => by have := rb c hc; omega, fun c hc => ⟨nb c hc, cbb.2 c hc⟩⟩
      have l20 := (bgE_0 h3).1
      have l21 := (bgE_0 h4).1
      have st6 := fun (j : List Cnt) (e : Int) => s6_loop (ρ := Bool × Unit) n m hm (by omega) a b ja jb (by omega) (by omega) j e (jK6 n) (fun _ => none) a [] [] n rfl (by simpa using h6) (by omega)
      have e0 : ((([] : List Cnt).length : Nat) : Int) = 0 := rfl
      rw [e0] at st6
      have k4 : ∀ (j : List Cnt) (e : Int), ∃ w, jK4 n (a, b, (m : Int), j, e, 0, ()) = jK6 n (j, e, (if jA m b a = none then 9 else 0), w, ()) ∧ ∀ u, jA m b a = some u → w = u := by
        intro j e
        obtain ⟨w, w1, w2⟩ := st6 j e
        refine ⟨w, ?_, fun u hu => by rw [w2 u hu]; rfl⟩
        rw [← w1]
        rfl
      rcases hr with ⟨g1, g2⟩ | ⟨u, g1, ⟨u1, u2, u3⟩, o, o1, o2, o3, o4, o5, o6⟩
      · rw [g2, Option.bind_some]
        dsimp only
        rw [cond_false]
        refine (st0 [] 9 0).trans ?_
        rw [hbad, h5]
        obtain ⟨w, w1, _⟩ := k4 [] 9
        rw [w1, if_pos g1]
        exact jK6_bad n (by omega) 9 w (by omega)
      · obtain ⟨p, p1, p2, p3, p4⟩ := rbag_ok u n (2 * (bSz a + bSz b + 6)) 1099511627776 (by omega) (fun c hc => ⟨⟨(u3 c hc).1, (u3 c hc).2.1, u2 c hc⟩, (u3 c hc).2.2.2⟩) (by omega) u1 (by omega)
        have hp : p = o := cb_eq p2 o1 fun w => by rw [p3, o2]
        rw [hp] at p1
        obtain ⟨f1, f2⟩ := bags3_ok o n (2 * (bSz a + bSz b + 6)) o4 o5 o3 (by omega)
        have fin : ∀ (j : List Cnt) (e : Int), eL_bags n (j, e, o, ()) = some (true, ()) → jK4 n (a, b, (m : Int), j, e, 0, ()) = some (true, ()) := by
          intro j e hb
          obtain ⟨w, w1, w2⟩ := k4 j e
          rw [w1, if_neg (by rw [g1]; simp), w2 u g1]
          unfold jK6
          dsimp only
          rw [bagged_ok n (by omega), Option.bind_some]
          dsimp only
          rw [show (!true || ((0 : Int) != 0)) = false from rfl, cond_false, p1, Option.bind_some, hb]
          rfl
        rw [o6]
        by_cases h7 : bgE o = 0
        · rw [h7, show ((0 : Int) != 0) = false from rfl, cond_false, Option.bind_some]
          dsimp only
          rw [cond_false]
          refine (st0 o 0 0).trans ?_
          rw [hbad, h5]
          exact fin o 0 (f2 h7)
        · rw [bne_iff_ne.2 h7, cond_true, Option.bind_some]
          dsimp only
          rw [cond_false]
          refine (st0 [] (bgE o) 0).trans ?_
          rw [hbad, h5]
          exact fin [] (bgE o) (f1 h7)
end Pure

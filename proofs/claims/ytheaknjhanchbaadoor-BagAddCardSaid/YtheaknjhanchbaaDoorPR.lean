/- Several texts in one (merge.py). -/
import Derived.Test.YtheaknjhanchbaaDoorPSO
import Derived.Test.YtheaknjhanchbaaDoorPCode
import Derived.Test.YtheaknjhanchbaaDoorEvStab
import Derived.Test.YtheaknjhanchbaaDoorPB
import Derived.Test.YtheaknjhanchbaaDoorEvRead
/- The reference's sort (sort.SliceStable, with its exchange and its comparison) does what package slices' sort does. No program. -/
namespace Pure
open Esp Ev Go
set_option linter.unusedSimpArgs false
set_option linter.unusedVariables false
set_option linter.unusedSimpArgs false
set_option linter.unusedVariables false

noncomputable def cmpW (n : Nat) : Cnt × Cnt × Unit → Option (Int × Unit) := fun (x, y, _) => eR_CompareRows n (x.r, y.r, ())
def up : List Cnt × Unit → Unit × List Cnt × Unit := fun (o, _) => ((), o, ())
theorem iter_sim {S T ρ ρ' : Type} {u : ρ' → ρ} {f : (S → Option ρ) → S → Option ρ} {g : (T → Option ρ') → T → Option ρ'} (e : T → S) (h : ∀ rec rec', (∀ t, rec (e t) = (rec' t).map u) → ∀ t, f rec (e t) = (g rec' t).map u) : ∀ n t, iterN f n (e t) = (iterN g n t).map u
  | 0, t => rfl
  | n + 1, t => by rw [iterN, iterN]; exact h _ _ (iter_sim e h n) t
theorem mapB {α β γ : Type} (u : β → γ) (x : Option α) (g : α → Option β) : (x.bind g).map u = x.bind fun a => (g a).map u := by cases x <;> rfl
theorem mapC {β γ : Type} (u : β → γ) (b : Bool) (x y : Option β) : (bif b then x else y).map u = bif b then x.map u else y.map u := by cases b <;> rfl
theorem mapS {β γ : Type} (u : β → γ) (x : β) : (some x).map u = some (u x) := rfl
theorem bindM {α β γ : Type} (u : α → β) (x : Option α) (k : β → Option γ) : (x.map u).bind k = x.bind fun a => k (u a) := by cases x <;> rfl
theorem swap_bind {ρ : Type} (o : List Cnt) (i j : Int) (K : List Cnt × Unit → Option ρ) : (swapN (i, j, o, ())).bind K =
    (ix o j).bind fun _ => (o[j.toNat]?).bind fun e20 => (ix o i).bind fun _ => (o[i.toNat]?).bind fun e21 => (ix o i).bind fun _ => (o[i.toNat]?).bind fun e22 => (ix (o.set i.toNat e20) j).bind fun _ => ((o.set i.toNat e20)[j.toNat]?).bind fun e23 => K ((o.set i.toNat e20).set j.toNat e21, ()) := by
  unfold swapN
  dsimp only
  cases hi : ix o i with
  | none =>
    cases hj : ix o j with
    | none => rfl
    | some y =>
      obtain ⟨b, rfl, h2⟩ := ix_inv hj
      simp only [Option.bind_none, Option.bind_some, Int.toNat_natCast, h2]
  | some x =>
    cases hj : ix o j with
    | none => rfl
    | some y =>
      obtain ⟨a, rfl, h1⟩ := ix_inv hi
      obtain ⟨b, rfl, h2⟩ := ix_inv hj
      have hb : b < o.length := (List.getElem?_eq_some_iff.1 h2).1
      have h3 : (o.set a y)[b]? = some ((o.set a y)[b]'(by simpa using hb)) := List.getElem?_eq_getElem _
      simp only [Option.bind_some, Int.toNat_natCast, h1, h2, h3, ix_ok h3]
theorem less_bind {ρ : Type} (n : Nat) (i j : Int) (v : Unit) (o : List Cnt) (K : Bool × Unit × List Cnt × Unit → Option ρ) : (eR_BagOf_1 n (i, j, v, o, ())).bind K =
    (ix o i).bind fun _ => (o[i.toNat]?).bind fun e => (ix o j).bind fun _ => (o[j.toNat]?).bind fun e' => (cmpW n (e, e', ())).bind fun y => K (decide (y.1 < 0), (), o, ()) := by
  unfold eR_BagOf_1 cmpW
  simp only [Option.bind_assoc, Option.bind_some]
def e3 : Int × Int × Int × List Cnt × Unit → Int × Int × Int × Unit × Unit × List Cnt × Unit := fun (a, b, c, o, _) => (a, b, c, (), (), o, ())
def e4 : Int × Int × Int × Int × List Cnt × Unit → Int × Int × Int × Int × Unit × Unit × List Cnt × Unit := fun (a, b, c, d, o, _) => (a, b, c, d, (), (), o, ())
def e2 : Int × Int × List Cnt × Unit → Int × Int × Unit × Unit × List Cnt × Unit := fun (a, b, o, _) => (a, b, (), (), o, ())
def e8 : Int × Int × Int × Int × Int × Int × Int × Int × List Cnt × Unit → Int × Int × Int × Int × Int × Int × Int × Int × Unit × Unit × List Cnt × Unit := fun (a, b, c, d, e, f, g, h, o, _) => (a, b, c, d, e, f, g, h, (), (), o, ())

/-! ## insertion -/
theorem ins2 {ρ ρ' : Type} {u : ρ' → ρ} (n : Nat) {rec kx kr rec' kx' kr'} (hrec : ∀ t, rec (e4 t) = (rec' t).map u) (hkx : ∀ a b c o, kx (a, b, c, (), (), o, ()) = (kx' (a, b, c, o, ())).map u) : ∀ t, sort_insertionSort_func_two_eR_BagOf_1_c_s2 (ρ := ρ) n rec kx kr (e4 t) = (G_insertionSort_s2 (ρ := ρ') cmpW n rec' kx' kr' t).map u := by
  rintro ⟨a, b, c, d, o, _⟩
  have hr := fun a b c d o => hrec (a, b, c, d, o, ())
  simp only [e4] at hr
  unfold sort_insertionSort_func_two_eR_BagOf_1_c_s2 G_insertionSort_s2 e4
  simp only [less_bind, swap_bind, mapB, mapC, hr, hkx]
theorem ins0 {ρ ρ' : Type} {u : ρ' → ρ} (n : Nat) {rec kx kr rec' kx' kr'} (hrec : ∀ t, rec (e3 t) = (rec' t).map u) (hkx : ∀ o, kx ((), o, ()) = (kx' (o, ())).map u) : ∀ t, sort_insertionSort_func_two_eR_BagOf_1_c_s0 (ρ := ρ) n rec kx kr (e3 t) = (G_insertionSort_s0 (ρ := ρ') cmpW n rec' kx' kr' t).map u := by
  rintro ⟨a, b, c, o, _⟩
  have hr := fun a b c o => hrec (a, b, c, o, ())
  simp only [e3] at hr
  unfold sort_insertionSort_func_two_eR_BagOf_1_c_s0 G_insertionSort_s0 e3
  simp only [mapC, hkx]
  congr 1
  refine iter_sim e4 (fun r r' h t => ?_) n (a, b, c, c, o, ())
  refine ins2 n h (fun a b c o => ?_) t
  exact hr _ _ _ _
theorem ins_eq (n : Nat) (a b : Int) (v : Unit) (o : List Cnt) : sort_insertionSort_func_two_eR_BagOf_1_c n (a, b, v, o, ()) = (G_insertionSort cmpW n (a, b, o, ())).map up := by
  unfold sort_insertionSort_func_two_eR_BagOf_1_c G_insertionSort
  refine iter_sim e3 (fun r r' h t => ?_) n (a, b, _, o, ())
  exact ins0 n h (fun o => rfl) t
/-! ## rotation -/
theorem swr0 {ρ ρ' : Type} {u : ρ' → ρ} (n : Nat) {rec kx kr rec' kx' kr'} (hrec : ∀ t, rec (e4 t) = (rec' t).map u) (hkx : ∀ o, kx ((), o, ()) = (kx' (o, ())).map u) : ∀ t, sort_swapRange_func_two_eR_BagOf_1_c_s0 (ρ := ρ) n rec kx kr (e4 t) = (G_swapRange_s0 (ρ := ρ') n rec' kx' kr' t).map u := by
  rintro ⟨a, b, c, d, o, _⟩
  have hr := fun a b c d o => hrec (a, b, c, d, o, ())
  simp only [e4] at hr
  unfold sort_swapRange_func_two_eR_BagOf_1_c_s0 G_swapRange_s0 e4
  simp only [swap_bind, mapB, mapC, hr, hkx]
theorem swr_eq (n : Nat) (a b c : Int) (v : Unit) (o : List Cnt) : sort_swapRange_func_two_eR_BagOf_1_c n (a, b, c, v, o, ()) = (G_swapRange n (a, b, c, o, ())).map up := by
  unfold sort_swapRange_func_two_eR_BagOf_1_c G_swapRange
  refine iter_sim e4 (fun r r' h t => ?_) n (a, b, c, 0, o, ())
  exact swr0 n h (fun o => rfl) t
theorem rot0 {ρ ρ' : Type} {u : ρ' → ρ} (n : Nat) {rec kx kr rec' kx' kr'} (hrec : ∀ t, rec (e3 t) = (rec' t).map u) (hkx : ∀ a b o, kx (a, b, (), (), o, ()) = (kx' (a, b, o, ())).map u) : ∀ t, sort_rotate_func_two_eR_BagOf_1_c_s0 (ρ := ρ) n rec kx kr (e3 t) = (G_rotate_s0 (ρ := ρ') n rec' kx' kr' t).map u := by
  rintro ⟨a, b, c, o, _⟩
  have hr := fun a b c o => hrec (a, b, c, o, ())
  simp only [e3] at hr
  unfold sort_rotate_func_two_eR_BagOf_1_c_s0 G_rotate_s0 e3
  simp only [swr_eq, bindM, up, mapB, mapC, hr, hkx]
theorem rot_eq (n : Nat) (a b c : Int) (v : Unit) (o : List Cnt) : sort_rotate_func_two_eR_BagOf_1_c n (a, b, c, v, o, ()) = (G_rotate n (a, b, c, o, ())).map up := by
  unfold sort_rotate_func_two_eR_BagOf_1_c G_rotate
  refine iter_sim e3 (fun r r' h t => ?_) n (b, _, _, o, ())
  exact rot0 n h (fun a b o => by simp only [swr_eq, bindM, mapB, mapS, up]) t
/-! ## merging -/
section
variable {self : Int × Int × Int × Unit × (List Cnt) × Unit → Option (Unit × (List Cnt) × Unit)} {self' : Int × Int × Int × (List Cnt) × Unit → Option ((List Cnt) × Unit)}
theorem sym0 {ρ ρ' : Type} {u : ρ' → ρ} (n : Nat) {rec kx kr rec' kx' kr'} (hrec : ∀ t, rec (e3 t) = (rec' t).map u) (hkx : ∀ a b o, kx (a, b, (), (), o, ()) = (kx' (a, b, o, ())).map u) : ∀ t, sort_symMerge_func_two_eR_BagOf_1_c_s0 (ρ := ρ) self n rec kx kr (e3 t) = (G_symMerge_s0 (ρ := ρ') cmpW self' n rec' kx' kr' t).map u := by
  rintro ⟨a, b, c, o, _⟩
  have hr := fun a b c o => hrec (a, b, c, o, ())
  simp only [e3] at hr
  unfold sort_symMerge_func_two_eR_BagOf_1_c_s0 G_symMerge_s0 e3
  simp only [less_bind, mapB, mapC, hr, hkx]
theorem sym4 {ρ ρ' : Type} {u : ρ' → ρ} (n : Nat) {rec kx kr rec' kx' kr'} (hrec : ∀ t, rec (e3 t) = (rec' t).map u) (hkx : ∀ a b o, kx (a, b, (), (), o, ()) = (kx' (a, b, o, ())).map u) : ∀ t, sort_symMerge_func_two_eR_BagOf_1_c_s4 (ρ := ρ) self n rec kx kr (e3 t) = (G_symMerge_s4 (ρ := ρ') cmpW self' n rec' kx' kr' t).map u := by
  rintro ⟨a, b, c, o, _⟩
  have hr := fun a b c o => hrec (a, b, c, o, ())
  simp only [e3] at hr
  unfold sort_symMerge_func_two_eR_BagOf_1_c_s4 G_symMerge_s4 e3
  simp only [less_bind, mapB, mapC, hr, hkx]
theorem sym2 {ρ ρ' : Type} {u : ρ' → ρ} (n : Nat) {rec kx kr rec' kx' kr'} (hrec : ∀ t, rec (e2 t) = (rec' t).map u) (hkx : ∀ o, kx ((), o, ()) = (kx' (o, ())).map u) : ∀ t, sort_symMerge_func_two_eR_BagOf_1_c_s2 (ρ := ρ) self n rec kx kr (e2 t) = (G_symMerge_s2 (ρ := ρ') self' n rec' kx' kr' t).map u := by
  rintro ⟨a, b, o, _⟩
  have hr := fun a b o => hrec (a, b, o, ())
  simp only [e2] at hr
  unfold sort_symMerge_func_two_eR_BagOf_1_c_s2 G_symMerge_s2 e2
  simp only [swap_bind, mapB, mapC, hr, hkx]
theorem sym6 {ρ ρ' : Type} {u : ρ' → ρ} (n : Nat) {rec kx kr rec' kx' kr'} (hrec : ∀ t, rec (e2 t) = (rec' t).map u) (hkx : ∀ o, kx ((), o, ()) = (kx' (o, ())).map u) : ∀ t, sort_symMerge_func_two_eR_BagOf_1_c_s6 (ρ := ρ) self n rec kx kr (e2 t) = (G_symMerge_s6 (ρ := ρ') self' n rec' kx' kr' t).map u := by
  rintro ⟨a, b, o, _⟩
  have hr := fun a b o => hrec (a, b, o, ())
  simp only [e2] at hr
  unfold sort_symMerge_func_two_eR_BagOf_1_c_s6 G_symMerge_s6 e2
  simp only [swap_bind, mapB, mapC, hr, hkx]
theorem sym8 {ρ ρ' : Type} {u : ρ' → ρ} (n : Nat) {rec kx kr rec' kx' kr'} (hrec : ∀ t, rec (e8 t) = (rec' t).map u) (hkx : ∀ a b c d e f o, kx (a, b, c, d, e, f, (), (), o, ()) = (kx' (a, b, c, d, e, f, o, ())).map u) : ∀ t, sort_symMerge_func_two_eR_BagOf_1_c_s8 (ρ := ρ) self n rec kx kr (e8 t) = (G_symMerge_s8 (ρ := ρ') cmpW self' n rec' kx' kr' t).map u := by
  rintro ⟨a, b, c, d, e, f, g, h, o, _⟩
  have hr := fun a b c d e f g h o => hrec (a, b, c, d, e, f, g, h, o, ())
  simp only [e8] at hr
  unfold sort_symMerge_func_two_eR_BagOf_1_c_s8 G_symMerge_s8 e8
  simp only [less_bind, mapB, mapC, hr, hkx]
theorem symb (n : Nat) (hs : ∀ a b c v o, self (a, b, c, v, o, ()) = (self' (a, b, c, o, ())).map up) (a b c : Int) (v : Unit) (o : List Cnt) : sort_symMerge_func_two_eR_BagOf_1_c_b self n (a, b, c, v, o, ()) = (G_symMerge_b cmpW self' n (a, b, c, o, ())).map up := by
  unfold sort_symMerge_func_two_eR_BagOf_1_c_b G_symMerge_b
  simp only [mapC]
  congr 1
  · refine iter_sim e3 (fun r r' h t => ?_) n (a, b, c, o, ())
    exact sym0 n h (fun a b o => by
    refine iter_sim e2 (fun r r' h t => ?_) n (b, a, o, ())
    exact sym2 n h (fun o => rfl) t) t
  congr 1
  · refine iter_sim e3 (fun r r' h t => ?_) n (b, a, b, o, ())
    exact sym4 n h (fun a b o => by
    refine iter_sim e2 (fun r r' h t => ?_) n (b, a, o, ())
    exact sym6 n h (fun o => rfl) t) t
  congr 1
  · refine iter_sim e8 (fun r r' h t => ?_) n (a, b, c, _, _, _, _, _, o, ())
    exact sym8 n h (fun a b c d e f o => by simp only [rot_eq, hs, bindM, mapB, mapC, mapS, up]) t
  · refine iter_sim e8 (fun r r' h t => ?_) n (a, b, c, _, _, _, _, _, o, ())
    exact sym8 n h (fun a b c d e f o => by simp only [rot_eq, hs, bindM, mapB, mapC, mapS, up]) t
end
theorem sym_eq : ∀ (n : Nat) (a b c : Int) (v : Unit) (o : List Cnt), sort_symMerge_func_two_eR_BagOf_1_c n (a, b, c, v, o, ()) = (G_symMerge cmpW n (a, b, c, o, ())).map up
  | 0, _, _, _, _, _ => rfl
  | n + 1, a, b, c, v, o => by
    rw [sort_symMerge_func_two_eR_BagOf_1_c, G_symMerge]
    exact symb n (sym_eq n) a b c v o
/-! ## the whole -/
theorem st0 {ρ ρ' : Type} {u : ρ' → ρ} (n : Nat) {rec kx kr rec' kx' kr'} (hrec : ∀ t, rec (e4 t) = (rec' t).map u) (hkx : ∀ a b c o, kx (a, b, c, (), (), o, ()) = (kx' (a, b, c, o, ())).map u) : ∀ t, sort_stable_func_two_eR_BagOf_1_c_s0 (ρ := ρ) n rec kx kr (e4 t) = (G_stable_s0 (ρ := ρ') cmpW n rec' kx' kr' t).map u := by
  rintro ⟨a, b, c, d, o, _⟩
  have hr := fun a b c d o => hrec (a, b, c, d, o, ())
  simp only [e4] at hr
  unfold sort_stable_func_two_eR_BagOf_1_c_s0 G_stable_s0 e4
  simp only [ins_eq, bindM, up, mapB, mapC, hr, hkx]
theorem st4 {ρ ρ' : Type} {u : ρ' → ρ} (n : Nat) {rec kx kr rec' kx' kr'} (hrec : ∀ t, rec (e4 t) = (rec' t).map u) (hkx : ∀ a b c o, kx (a, b, c, (), (), o, ()) = (kx' (a, b, c, o, ())).map u) : ∀ t, sort_stable_func_two_eR_BagOf_1_c_s4 (ρ := ρ) n rec kx kr (e4 t) = (G_stable_s4 (ρ := ρ') cmpW n rec' kx' kr' t).map u := by
  rintro ⟨a, b, c, d, o, _⟩
  have hr := fun a b c d o => hrec (a, b, c, d, o, ())
  simp only [e4] at hr
  unfold sort_stable_func_two_eR_BagOf_1_c_s4 G_stable_s4 e4
  simp only [sym_eq, bindM, up, mapB, mapC, hr, hkx]
theorem st2 {ρ ρ' : Type} {u : ρ' → ρ} (n : Nat) {rec kx kr rec' kx' kr'} (hrec : ∀ t, rec (e2 t) = (rec' t).map u) (hkx : ∀ o, kx ((), o, ()) = (kx' (o, ())).map u) : ∀ t, sort_stable_func_two_eR_BagOf_1_c_s2 (ρ := ρ) n rec kx kr (e2 t) = (G_stable_s2 (ρ := ρ') cmpW n rec' kx' kr' t).map u := by
  rintro ⟨a, b, o, _⟩
  have hr := fun a b o => hrec (a, b, o, ())
  simp only [e2] at hr
  unfold sort_stable_func_two_eR_BagOf_1_c_s2 G_stable_s2 e2
  simp only [mapC, hkx]
  congr 1
  refine iter_sim e4 (fun r r' h t => ?_) n (a, b, 0, _, o, ())
  exact st4 n h (fun a b c o => by simp only [sym_eq, bindM, mapB, mapC, hr, up]) t
theorem stb_eq (n : Nat) (a : Int) (v : Unit) (o : List Cnt) : sort_stable_func_two_eR_BagOf_1_c n (a, v, o, ()) = (G_stable cmpW n (a, o, ())).map up := by
  unfold sort_stable_func_two_eR_BagOf_1_c G_stable
  refine iter_sim e4 (fun r r' h t => ?_) n (a, 20, 0, 20, o, ())
  refine st0 n h (fun a b c o => ?_) t
  simp only [ins_eq, bindM, mapB, up]
  congr 1
  funext q
  refine iter_sim e2 (fun r r' h t => ?_) n (a, b, q.1, ())
  exact st2 n h (fun o => rfl) t
/-- the sort of the reference -/
theorem ss_eq (n : Nat) (l : List Cnt) (hl : 2 ≤ l.length) (hm : l.length ≤ 4000000000000000000) : ssN (sort_stable_func_two_eR_BagOf_1_c n) (l, (), ()) = (G_SortStableFunc cmpW n (l, ())).map fun p => (p.1, (), ()) := by
  unfold ssN G_SortStableFunc
  have h1 : Nat.ble l.length 1 = false := by
    cases h : Nat.ble l.length 1 with
    | true => have := Nat.le_of_ble_eq_true h; omega
    | false => rfl
  simp only [h1, cond_false, Nat.ble_eq_true_of_le hm, cond_true, stb_eq, bindM, mapB, mapS, up]
end Pure

/- The reference's bag of rows, plain. No program. -/
namespace Pure
open Esp Ev Go
set_option linter.unusedSimpArgs false
set_option linter.unusedVariables false

theorem cmpW_ok (K : Nat) : Cmp cmpW rc (DR K) K where
  ok n hn x y hx hy := by
    show eR_CompareRows n (x.r, y.r, ()) = _
    rw [rcompare_ok x.r y.r n (by unfold maxLen; have := hx.1; omega) hx.2.1 (by have := hx.2.2; omega)]
    rfl
  asy := (cmpR K).asy
  tr := (cmpR K).tr
def eqr (r : List Val) (d : Cnt) : Bool := ordL d.r r == 0
def sumN : List Cnt → Int
  | [] => 0
  | c :: l => c.n + sumN l
/-- equal rows, one behind the other, gathered -/
def runs : List Cnt → List Cnt
  | [] => []
  | c :: t => ⟨c.r, c.n + sumN (t.takeWhile (eqr c.r))⟩ :: runs (t.dropWhile (eqr c.r))
termination_by l => l.length
decreasing_by
  have : (t.dropWhile (eqr c.r)).length ≤ t.length := (List.dropWhile_sublist _).length_le
  simp only [List.length_cons]
  omega
theorem cf_tw (r w : List Val) : ∀ t : List Cnt, cf (t.takeWhile (eqr r)) w = bif ordL r w == 0 then sumN (t.takeWhile (eqr r)) else 0
  | [] => by simp [cf, sumN]
  | d :: t => by
    rw [List.takeWhile_cons]
    cases h : eqr r d with
    | false => simp [cf, sumN]
    | true =>
      have e : d.r = r := (row_beq _ _).1 h
      simp only [if_true]
      rw [cf, sumN, cf_tw r w t, e]
      cases ordL r w == 0 <;> simp only [cond_true, cond_false] <;> omega
theorem cf_runs (w : List Val) : ∀ (k : Nat) (l : List Cnt), l.length ≤ k → cf (runs l) w = cf l w
  | 0, l, h => by
    obtain rfl : l = [] := List.length_eq_zero_iff.1 (by omega)
    rw [runs]
  | k + 1, [], _ => by rw [runs]
  | k + 1, c :: t, h => by
    have hl : (t.dropWhile (eqr c.r)).length ≤ t.length := (List.dropWhile_sublist _).length_le
    rw [runs, cf, cf_runs w k _ (by simp at h; omega)]
    have e := cf_tw c.r w t
    have e2 : cf t w = cf (t.takeWhile (eqr c.r)) w + cf (t.dropWhile (eqr c.r)) w := by rw [← cf_append, List.takeWhile_append_dropWhile]
    rw [cf, e2, e]
    dsimp only
    cases ordL c.r w == 0 <;> simp only [cond_true, cond_false] <;> omega
theorem runs_rows : ∀ (k : Nat) (l : List Cnt), l.length ≤ k → ∀ d ∈ runs l, ∃ x ∈ l, x.r = d.r
  | 0, l, h, d, hd => by
    obtain rfl : l = [] := List.length_eq_zero_iff.1 (by omega)
    rw [runs] at hd; cases hd
  | k + 1, [], _, d, hd => by rw [runs] at hd; cases hd
  | k + 1, c :: t, h, d, hd => by
    have hl : (t.dropWhile (eqr c.r)).length ≤ t.length := (List.dropWhile_sublist _).length_le
    rw [runs] at hd
    rcases List.mem_cons.1 hd with rfl | hd
    · exact ⟨c, by simp, rfl⟩
    · obtain ⟨x, hx, e⟩ := runs_rows k _ (by simp at h; omega) d hd
      exact ⟨x, List.mem_cons_of_mem _ ((List.dropWhile_sublist _).mem hx), e⟩
theorem drop_lt {r : List Val} : ∀ {t : List Cnt}, Sorted rc t → (∀ d ∈ t, ¬ ordL d.r r < 0) → ∀ d ∈ t.dropWhile (eqr r), ordL r d.r < 0
  | [], _, _, d, hd => by cases hd
  | x :: t, hs, hr, d, hd => by
    obtain ⟨h1, h2⟩ := List.pairwise_cons.1 hs
    rw [List.dropWhile_cons] at hd
    cases h : eqr r x with
    | true => rw [h] at hd; exact drop_lt h2 (fun d hd => hr d (by simp [hd])) d hd
    | false =>
      rw [h] at hd
      have hx : ordL r x.r < 0 := by
        have a := hr x (by simp)
        have b : ordL x.r r ≠ 0 := by unfold eqr at h; simpa using h
        rw [ordL_neg x.r r]
        omega
      rcases List.mem_cons.1 hd with rfl | hd
      · exact hx
      · have h3 := h1 d hd
        have h4 : ¬ ordL d.r x.r < 0 := h3
        rw [ordL_neg x.r d.r] at h4
        rcases Int.lt_or_eq_of_le (show ordL x.r d.r ≤ 0 by omega) with h5 | h5
        · exact ordL_trans hx h5
        · rw [← (ordL_zero _ _).1 h5]; exact hx
theorem strict_runs : ∀ (k : Nat) (l : List Cnt), l.length ≤ k → Sorted rc l → Strict (runs l)
  | 0, l, h, _ => by
    obtain rfl : l = [] := List.length_eq_zero_iff.1 (by omega)
    rw [runs]; exact List.Pairwise.nil
  | k + 1, [], _, _ => by rw [runs]; exact List.Pairwise.nil
  | k + 1, c :: t, h, hs => by
    obtain ⟨h1, h2⟩ := List.pairwise_cons.1 hs
    have hl : (t.dropWhile (eqr c.r)).length ≤ t.length := (List.dropWhile_sublist _).length_le
    rw [runs]
    refine List.pairwise_cons.2 ⟨fun d hd => ?_, strict_runs k _ (by simp at h; omega) (h2.sublist (List.dropWhile_sublist _))⟩
    obtain ⟨x, hx, e⟩ := runs_rows _ _ (Nat.le_refl _) d hd
    rw [← e]
    exact drop_lt h2 (fun d hd => h1 d hd) x hx
theorem sum_bound {M : Int} (hM : 0 ≤ M) : ∀ {l : List Cnt}, (∀ c ∈ l, -M ≤ c.n ∧ c.n ≤ M) → -((l.length : Int) * M) ≤ sumN l ∧ sumN l ≤ (l.length : Int) * M
  | [], _ => by simp [sumN]
  | c :: l, h => by
    have h1 := h c (by simp)
    have h2 := sum_bound hM (l := l) fun d hd => h d (by simp [hd])
    have e : ((c :: l).length : Int) * M = (l.length : Int) * M + M := by rw [List.length_cons]; push_cast; rw [Int.add_mul, Int.one_mul]
    rw [e, sumN]
    generalize (l.length : Int) * M = q at *
    omega
/-- equal rows are added up -/
theorem bo_in {ρ : Type} (n K : Nat) (M : Int) (hM : 0 ≤ M) (hn : K ≤ n) (kx : Int × Unit × (List Cnt) × (Cnt × Unit) × (List Cnt) × Unit → Option ρ) (kr : Unit → Option ρ) (s : List Cnt) (hs : ∀ c ∈ s, DR K c ∧ -M ≤ c.n ∧ c.n ≤ M) (hsl : s.length ≤ 100000) (out : List Cnt) (r : List Val) :
    ∀ (t p : List Cnt) (acc : Int) (fuel : Nat), s = p ++ t → t.length < fuel → -9000000000000000000 ≤ acc - (t.length : Int) * M → acc + (t.length : Int) * M ≤ 9000000000000000000 →
      iterN (fun rc => eR_BagOf_s2 n rc kx kr) fuel ((p.length : Int), (), out, (⟨r, acc⟩, ()), s, ()) = kx (((p.length + (t.takeWhile (eqr r)).length : Nat) : Int), (), out, (⟨r, acc + sumN (t.takeWhile (eqr r))⟩, ()), s, ()) := by
  intro t
  induction t with
  | nil =>
    intro p acc fuel hp hf _ _
    obtain ⟨f, rfl⟩ : ∃ f, fuel = f + 1 := ⟨fuel - 1, by omega⟩
    rw [iterN]
    unfold eR_BagOf_s2
    dsimp only
    rw [decide_eq_false (show ¬ (p.length : Int) < (s.length : Int) by subst hp; simp), cond_false]
    simp [sumN]
  | cons x t ih =>
    intro p acc fuel hp hf h0 h1
    obtain ⟨f, rfl⟩ : ∃ f, fuel = f + 1 := ⟨fuel - 1, by omega⟩
    have hx := hs x (by rw [hp]; simp)
    have hlen : s.length = p.length + (t.length + 1) := by rw [hp]; simp
    have hix : ix s (p.length : Int) = some x := ix_ok (by rw [hp]; simp)
    have hg : s[((p.length : Int)).toNat]? = some x := by rw [Int.toNat_natCast, hp]; simp
    have e : ((x :: t).length : Int) * M = (t.length : Int) * M + M := by rw [List.length_cons]; push_cast; rw [Int.add_mul, Int.one_mul]
    rw [e] at h0 h1
    have hq : 0 ≤ (t.length : Int) * M := Int.mul_nonneg (by omega) hM
    have ih2 := ih (p ++ [x]) (acc + x.n) f (by rw [hp]; simp) (by simp at hf; omega)
      (by generalize (t.length : Int) * M = q at *; omega) (by generalize (t.length : Int) * M = q at *; omega)
    rw [List.length_append, List.length_singleton] at ih2
    rw [iterN]
    generalize iterN (fun rc => eR_BagOf_s2 n rc kx kr) f = R at ih2 ⊢
    unfold eR_BagOf_s2
    dsimp only
    rw [decide_eq_true (show (p.length : Int) < (s.length : Int) by omega), cond_true, hix, Option.bind_some, hg, Option.bind_some, rcompare_ok x.r r n (by unfold maxLen; have := hx.1.1; omega) hx.1.2.1 (by have := hx.1.2.2; omega), Option.bind_some]
    dsimp only
    rw [List.takeWhile_cons]
    cases h : eqr r x with
    | false =>
      have h' : (ordL x.r r == 0) = false := h
      rw [h', cond_false]
      simp [sumN]
    | true =>
      have h' : (ordL x.r r == 0) = true := h
      rw [h', cond_true, Option.bind_some, Option.bind_some]
      rw [wrap64 (by omega) (by omega), wrap64 (by generalize (t.length : Int) * M = q at *; omega) (by generalize (t.length : Int) * M = q at *; omega)]
      rw [show ((p.length : Int) + 1) = ((p.length + 1 : Nat) : Int) by omega, ih2]
      simp only [if_true, sumN, List.length_cons]
      rw [show p.length + 1 + (t.takeWhile (eqr r)).length = p.length + ((t.takeWhile (eqr r)).length + 1) by omega, Int.add_assoc]
theorem tw_split (p t : List Cnt) (r : List Val) : p ++ t = (p ++ t.takeWhile (eqr r)) ++ t.dropWhile (eqr r) := by rw [List.append_assoc, List.takeWhile_append_dropWhile]
theorem bo_out (n K : Nat) (M : Int) (hM : 0 ≤ M) (hn : K ≤ n) (kx : (List Cnt) × Unit → Option (List Cnt × Unit)) (kr : Unit → Option (List Cnt × Unit)) (s : List Cnt) (hs : ∀ c ∈ s, DR K c ∧ -M ≤ c.n ∧ c.n ≤ M) (hsl : s.length ≤ 20000) (hn2 : s.length < n) (hMl : (s.length : Int) * M ≤ 9000000000000000000) :
    ∀ (k : Nat) (t p out : List Cnt) (fuel : Nat), t.length ≤ k → s = p ++ t → t.length < fuel → out.length + t.length ≤ 20000 →
      iterN (fun rc => eR_BagOf_s0 n rc kx kr) fuel ((p.length : Int), (), out, s, ()) = kx (out ++ (runs t).filter nz, ()) := by
  intro k
  have last : ∀ (p out : List Cnt) (fuel : Nat), s = p → 0 < fuel → iterN (fun rc => eR_BagOf_s0 n rc kx kr) fuel ((p.length : Int), (), out, s, ()) = kx (out ++ (runs []).filter nz, ()) := by
    intro p out fuel hp hf
    obtain ⟨f, rfl⟩ : ∃ f, fuel = f + 1 := ⟨fuel - 1, by omega⟩
    rw [iterN]
    unfold eR_BagOf_s0
    dsimp only
    rw [decide_eq_false (show ¬ (p.length : Int) < (s.length : Int) by subst hp; omega), cond_false, runs]
    simp
  induction k with
  | zero =>
    intro t p out fuel hk hp hf ho
    obtain rfl : t = [] := List.length_eq_zero_iff.1 (by omega)
    exact last p out fuel (by simpa using hp) (by omega)
  | succ k ih =>
    intro t p out fuel hk hp hf ho
    cases t with
    | nil => exact last p out fuel (by simpa using hp) (by omega)
    | cons c t =>
    obtain ⟨f, rfl⟩ : ∃ f, fuel = f + 1 := ⟨fuel - 1, by omega⟩
    have hlen : s.length = p.length + (t.length + 1) := by rw [hp]; simp
    have hix : ix s (p.length : Int) = some c := ix_ok (by rw [hp]; simp)
    have hg : s[((p.length : Int)).toNat]? = some c := by rw [Int.toNat_natCast, hp]; simp
    have hdl : (t.dropWhile (eqr c.r)).length ≤ t.length := (List.dropWhile_sublist _).length_le
    have htl := congrArg List.length (List.takeWhile_append_dropWhile (p := eqr c.r) (l := t))
    rw [List.length_append] at htl
    have hcc : eqr c.r c = true := (row_beq _ _).2 rfl
    have htw : (c :: t).takeWhile (eqr c.r) = c :: t.takeWhile (eqr c.r) := by
      rw [List.takeWhile_cons, if_pos hcc]
    have hdw : (c :: t).dropWhile (eqr c.r) = t.dropWhile (eqr c.r) := by
      rw [List.dropWhile_cons, if_pos hcc]
    have hsp : s = (p ++ (c :: t.takeWhile (eqr c.r))) ++ t.dropWhile (eqr c.r) := by
      rw [hp, ← htw, ← hdw, List.append_assoc, List.takeWhile_append_dropWhile]
    have hb : ((c :: t).length : Int) * M ≤ 9000000000000000000 := by
      have : ((c :: t).length : Int) * M ≤ (s.length : Int) * M := Int.mul_le_mul_of_nonneg_right (by rw [hlen, List.length_cons]; omega) hM
      omega
    have hin := fun K' kr' => bo_in (ρ := List Cnt × Unit) n K M hM hn K' kr' s hs (by omega) out c.r (c :: t) p 0 n hp (by simp; omega) (by omega) (by omega)
    have ihf := fun out' ho' => ih (t.dropWhile (eqr c.r)) (p ++ (c :: t.takeWhile (eqr c.r))) out' f (by simp at hk; omega) hsp (by simp at hf; omega) ho'
    rw [iterN]
    generalize iterN (fun rc => eR_BagOf_s0 n rc kx kr) f = R at ihf ⊢
    unfold eR_BagOf_s0
    dsimp only
    rw [decide_eq_true (show (p.length : Int) < (s.length : Int) by omega), cond_true, hix, Option.bind_some, hg, Option.bind_some, hin]
    dsimp only
    rw [htw, sumN, Int.zero_add, runs, List.filter_cons]
    have hpl : ((p.length + (c :: t.takeWhile (eqr c.r)).length : Nat) : Int) = (((p ++ (c :: t.takeWhile (eqr c.r))).length : Nat) : Int) := by rw [List.length_append]
    rw [hpl]
    cases hz : c.n + sumN (t.takeWhile (eqr c.r)) == 0 with
    | true =>
      have h1 : nz ⟨c.r, c.n + sumN (t.takeWhile (eqr c.r))⟩ = false := by unfold nz; rw [hz]; rfl
      have h2 : (c.n + sumN (t.takeWhile (eqr c.r)) != 0) = false := by unfold bne; rw [hz]; rfl
      rw [h1, h2, cond_false, if_neg (by simp)]
      exact ihf out (by simp at ho; omega)
    | false =>
      have h1 : nz ⟨c.r, c.n + sumN (t.takeWhile (eqr c.r))⟩ = true := by unfold nz; rw [hz]; rfl
      have h2 : (c.n + sumN (t.takeWhile (eqr c.r)) != 0) = true := by unfold bne; rw [hz]; rfl
      rw [h1, h2, cond_true, if_pos rfl, ck_ok (roomB (by simp at ho ⊢; omega) (by omega))]
      refine (ihf _ (by simp at ho ⊢; omega)).trans ?_
      rw [List.append_assoc]
      rfl
theorem rbag_ok (l : List Cnt) (n K : Nat) (M : Int) (hM : 0 ≤ M) (hD : ∀ c ∈ l, DR K c ∧ -M ≤ c.n ∧ c.n ≤ M) (hMl : (l.length : Int) * M ≤ 9000000000000000000) (hl : l.length ≤ 20000) (hn : l.length + K + 1100 ≤ n) :
    ∃ o, eR_BagOf n (l, ()) = some (o, ()) ∧ CB o ∧ (∀ w, cf o w = cf l w) ∧ (∀ c ∈ o, ∃ d ∈ l, d.r = c.r) := by
  obtain ⟨s, s1, s2, s3⟩ := sort_ok (cmpW_ok K) n l (fun z hz => (hD z hz).1) (by omega) (by omega)
  have hsort : ∃ s : List Cnt, s.Perm l ∧ Sorted rc s ∧ ssN_sort_stable_func_two_eR_BagOf_1_c n (l, (), ()) = some (s, (), ()) := by
    by_cases h1 : l.length ≤ 1
    · refine ⟨l, List.Perm.refl _, ?_, ?_⟩
      · cases l with
        | nil => exact List.Pairwise.nil
        | cons c t =>
          obtain rfl : t = [] := List.length_eq_zero_iff.1 (by rw [List.length_cons] at h1; omega)
          exact List.pairwise_singleton _ _
      · show ssN _ (l, (), ()) = _
        unfold ssN
        dsimp only
        rw [Nat.ble_eq_true_of_le h1]
        rfl
    · refine ⟨s, s1, s2, ?_⟩
      show ssN (sort_stable_func_two_eR_BagOf_1_c n) (l, (), ()) = _
      rw [ss_eq n l (by omega) (by omega), s3]
      rfl
  obtain ⟨s, s1, s2, s3⟩ := hsort
  have ls := s1.length_eq
  unfold eR_BagOf
  dsimp only
  rw [clone_ok l (by omega), Option.bind_some]
  dsimp only
  rw [s3, Option.bind_some]
  dsimp only
  have := bo_out n K M hM (by omega) (fun (o25, _) => some (o25, ())) (fun _ => none) s (fun c hc => hD c (s1.mem_iff.1 hc)) (by omega) (by omega) (by rw [ls]; exact hMl) s.length s [] [] n (Nat.le_refl _) rfl (by omega) (by simp; omega)
  have e0 : ((([] : List Cnt).length : Nat) : Int) = 0 := rfl
  rw [e0] at this
  refine ⟨(runs s).filter nz, this, ⟨(strict_runs _ s (Nat.le_refl _) s2).sublist (List.filter_sublist ..), fun c hc => ?_⟩, fun w => ?_, fun c hc => ?_⟩
  · have := (List.mem_filter.1 hc).2
    unfold nz at this
    simpa using this
  · rw [cf_filter, cf_runs w _ s (Nat.le_refl _), cf_perm w s1]
  · obtain ⟨x, hx, e⟩ := runs_rows _ s (Nat.le_refl _) c (List.mem_filter.1 hc).1
    exact ⟨x, s1.mem_iff.1 hx, e⟩
end Pure

/- Bags are added as the document says: the plain law. No program. -/
namespace Pure
open Esp Ev Go
set_option linter.unusedSimpArgs false
set_option linter.unusedVariables false

theorem bgF_intro : ∀ {l : List Cnt} {prev : Option (List Val)}, (∀ c ∈ l, c.r.length ≤ 30 ∧ chks c.r 1 = 0 ∧ c.n ≠ 0 ∧ big c.n = false) → Strict l → (∀ p, prev = some p → ∀ c ∈ l, ordL p c.r < 0) → bgF prev l = 0
  | [], _, _, _, _ => rfl
  | c :: r, prev, h, hs, hp => by
    obtain ⟨h1, h2⟩ := List.pairwise_cons.1 hs
    obtain ⟨a1, a2, a3, a4⟩ := h c (by simp)
    have hf : falls prev c.r = false := by
      cases prev with
      | none => rfl
      | some p =>
        have := hp p rfl c (by simp)
        unfold falls
        rw [decide_eq_false_iff_not]; omega
    rw [bgF, decide_eq_false (by omega), cond_false, a2, show ((0 : Int) != 0) = false from rfl, cond_false, beq_eq_false_iff_ne.2 a3, cond_false, hf, cond_false, a4, cond_false]
    exact bgF_intro (fun d hd => h d (by simp [hd])) h2 fun p hp' d hd => by cases hp'; exact h1 d hd
theorem dst_len (a : List Cnt) : (dst a).length ≤ a.length := by
  unfold dst
  rw [List.length_map]
  exact List.length_filter_le _ _
theorem bgE_dst {a : List Cnt} (h : bgE a = 0) : bgE (dst a) = 0 := by
  obtain ⟨hl, hr⟩ := bgE_0 h
  obtain ⟨hc, _⟩ := bgE_cb h
  have := dst_len a
  unfold bgE
  rw [decide_eq_false (by omega), cond_false]
  refine bgF_intro (fun c hc => ?_) ?_ (fun p hp => by cases hp)
  · obtain ⟨d, hd, e1, e2⟩ := dst_rows hc
    rw [← e1, e2]
    exact ⟨(hr d hd).1, (hr d hd).2, by omega, rfl⟩
  · unfold dst
    exact List.pairwise_map.2 (hc.1.sublist (List.filter_sublist ..))
theorem bags_ok (o : List Cnt) (n K : Nat) (wo : WB o) (ro : RB K o) (ho : o.length ≤ 4000) (hn : 20000 * K + 30000 ≤ n) :
    (bgE o ≠ 0 → eL_bags n ([], bgE o, o, ()) = some (true, ())) ∧ (bgE o = 0 → eL_bags n (o, 0, o, ()) = some (true, ())) := by
  have h1 := bSz_le ro
  have h2 : o.length * K ≤ 4000 * K := Nat.mul_le_mul_right _ ho
  have hc := rbcheck_ok o n wo (by omega)
  unfold eL_bags
  dsimp only
  rw [hc, Option.bind_some, Option.bind_some]
  dsimp only
  refine ⟨fun h => ?_, fun h => ?_⟩
  · rw [bne_iff_ne.2 h, cond_true, beq_self_eq_true]; rfl
  · rw [h, show ((0 : Int) != 0) = false from rfl, cond_false, show ((0 : Int) == 0) = true from rfl, cond_true, same2 o n K wo ro (bgE_0 h).1 hn]
    rfl
/-- what is told of a bag that was made, and of the document's, if these are one -/
theorem bags_fin (o : List Cnt) (n K : Nat) (wo : WB o) (ro : RB K o) (ho : o.length ≤ 4000) (hn : 20000 * K + 30000 ≤ n) (x : List Cnt × Int × Unit) (hx : (bif bgE o != 0 then some (([] : List Cnt), bgE o, ()) else some (o, (0 : Int), ())) = some x) :
    eL_bags n (x.1, x.2.1, o, ()) = some (true, ()) := by
  obtain ⟨h1, h2⟩ := bags_ok o n K wo ro ho hn
  cases h : bgE o != 0 with
  | true => rw [h] at hx; cases hx; exact h1 (bne_iff_ne.1 h)
  | false => rw [h] at hx; cases hx; exact h2 (by simpa using h)
theorem ba_dst (n : Nat) {ρ : Type} (kr : Unit → Option ρ) (K : List Cnt × List Cnt × Int × List Cnt × Int × List Cnt × Int × Int × List Cnt × Unit → Option ρ) (v1 v2 : List Cnt) (v3 : Int) (v4 : List Cnt) (v5 : Int) (v6 : List Cnt) (v7 v8 : Int) : ∀ (r acc : List Cnt) (i : Int), acc.length + r.length ≤ 100000 →
    foldK (F_eL_BagAdd_s0 n kr) K i r (v1, v2, v3, v4, v5, v6, v7, v8, acc, ()) = K (v1, v2, v3, v4, v5, v6, v7, v8, acc ++ dst r, ()) := by
  intro r
  induction r with
  | nil => intro acc i _; simp [foldK, dst]
  | cons x r ih =>
    intro acc i hl
    rw [foldK]
    generalize hR : foldK (F_eL_BagAdd_s0 n kr) K (i + 1) r = R
    unfold F_eL_BagAdd_s0
    dsimp only
    cases h : decide (x.n > 0) with
    | true =>
      rw [cond_true, ck_ok (roomB (by simp at hl ⊢; omega) (by omega))]
      subst hR
      refine (ih (acc ++ [⟨x.r, 1⟩]) (i + 1) (by simp at hl ⊢; omega)).trans ?_
      unfold dst
      rw [List.filter_cons, h]
      simp
    | false =>
      rw [cond_false]
      subst hR
      refine (ih acc (i + 1) (by simp at hl ⊢; omega)).trans ?_
      unfold dst
      rw [List.filter_cons, h]
      simp
theorem mulb {x k : Int} (hx : -1099511627776 ≤ x ∧ x ≤ 1099511627776) (hk : -1000 ≤ k ∧ k ≤ 1000) : -1099511627776000 ≤ x * k ∧ x * k ≤ 1099511627776000 := by
  rcases Int.le_total 0 k with h0 | h0
  · have a1 : x * k ≤ 1099511627776 * k := Int.mul_le_mul_of_nonneg_right hx.2 h0
    have a2 : -1099511627776 * k ≤ x * k := Int.mul_le_mul_of_nonneg_right hx.1 h0
    omega
  · have a1 : x * -k ≤ 1099511627776 * -k := Int.mul_le_mul_of_nonneg_right hx.2 (by omega)
    have a2 : -1099511627776 * -k ≤ x * -k := Int.mul_le_mul_of_nonneg_right hx.1 (by omega)
    have e : x * -k = -(x * k) := Int.mul_neg x k
    rw [e] at a1 a2
    omega
theorem ba_add (n : Nat) (k : Int) (hk : -1000 ≤ k ∧ k ≤ 1000) {ρ : Type} (kr : Unit → Option ρ) (K : Int × List Cnt × Int × List Cnt × Unit → Option ρ) (v1 : List Cnt) (v2 : Int) : ∀ (r acc : List Cnt) (i : Int), (∀ c ∈ r, -1099511627776 ≤ c.n ∧ c.n ≤ 1099511627776) → acc.length + r.length ≤ 100000 →
    foldK (F_eL_BagAdd_s2 n kr) K i r (k, v1, v2, acc, ()) = K (k, v1, v2, acc ++ times k r, ()) := by
  intro r
  induction r with
  | nil => intro acc i _ _; simp [foldK, times]
  | cons x r ih =>
    intro acc i hx hl
    have h1 := hx x (by simp)
    have hb : -1099511627776000 ≤ k * x.n ∧ k * x.n ≤ 1099511627776000 := by
      rw [Int.mul_comm]
      exact mulb h1 hk
    rw [foldK]
    generalize hR : foldK (F_eL_BagAdd_s2 n kr) K (i + 1) r = R
    unfold F_eL_BagAdd_s2
    dsimp only
    rw [wrap64 (by omega) (by omega), ck_ok (roomB (by simp at hl ⊢; omega) (by omega))]
    subst hR
    refine (ih (acc ++ [⟨x.r, k * x.n⟩]) (i + 1) (fun c hc => hx c (by simp [hc])) (by simp at hl ⊢; omega)).trans ?_
    unfold times
    rw [List.map_cons, Int.mul_comm k x.n]
    simp
theorem BagAdd_ok (a b : List Cnt) (k : Int) (wa : WB a) (wb : WB b) (n : Nat) (hn : 20000 * (bSz a + bSz b + 6) + 30000 ≤ n) : eL_BagAdd n (a, b, k, ()) = some (true, ()) := by
  generalize hK : bSz a + bSz b + 6 = K at hn
  have ra : RB K a := RB_self a (by omega)
  have rb : RB K b := RB_self b (by omega)
  have ca := rbcheck_ok a n wa (by omega)
  have cb := rbcheck_ok b n wb (by omega)
  have hbg := bagged_ok n (by omega)
  obtain ⟨d1, d2⟩ := distinct_ok a n K wa ra (by omega) (by omega)
  have hout : ((decide (k < -1000)) || (decide (k > 1000))) = true → bag_Add n (a, b, k, ()) = some ([], 9, ()) := fun h => by
    unfold bag_Add
    dsimp only
    rw [Bool.or_comm, h]
    rfl
  have hkin : ((decide (k < -1000)) || (decide (k > 1000))) = false → -1000 ≤ k ∧ k ≤ 1000 := fun h => by
    obtain ⟨h1, h2⟩ := Bool.or_eq_false_iff.1 h
    have h1 := of_decide_eq_false h1
    have h2 := of_decide_eq_false h2
    omega
  have hadd := fun h => add_ok a b k n K h wa wb ra rb (by omega) (by omega) hn
  have e00 : ((0 : Int) != 0) = false := rfl
  have e01 : ((0 : Int) == 0) = true := rfl
  have eb : (!true) = false := rfl
  unfold eL_BagAdd
  dsimp only
  cases hk : (decide (k < -1000)) || (decide (k > 1000)) with
  | true =>
    rw [hout hk, Option.bind_some]
    dsimp only
    cases ha : bgE a != 0 with
    | true =>
      rw [d1 (bne_iff_ne.1 ha), Option.bind_some]
      dsimp only
      rw [ca, Option.bind_some]
      dsimp only
      rw [hbg, Option.bind_some]
      dsimp only
      rw [eb, cond_false, ha, cond_true]
      simp
    | false =>
      have ha0 : bgE a = 0 := by simpa using ha
      obtain ⟨wd, rd, ld, d3⟩ := d2 ha0
      rw [bgE_dst ha0, e00, cond_false] at d3
      rw [d3, Option.bind_some]
      dsimp only
      rw [ca, Option.bind_some]
      dsimp only
      rw [hbg, Option.bind_some]
      dsimp only
      rw [eb, cond_false, ha, cond_false, R_eL_BagAdd_s0 n _ _ a n _ _ _ _ _ _ _ _ _ (by have := (bgE_0 ha0).1; omega) (by have := (bgE_0 ha0).1; omega), ba_dst n _ _ _ _ _ _ _ _ _ _ a [] 0 (by have := (bgE_0 ha0).1; simp; omega)]
      dsimp only
      rw [e00, cond_false, List.nil_append, same2 (dst a) n K wd rd ld hn, Option.bind_some]
      dsimp only
      rw [eb, cond_false, hk, cond_true]
      rfl
  | false =>
    obtain ⟨x1, x2, x3⟩ := hadd (hkin hk)
    cases ha : bgE a != 0 with
    | true =>
      have ha0 := bne_iff_ne.1 ha
      rw [x1 ha0, Option.bind_some]
      dsimp only
      rw [d1 ha0, Option.bind_some]
      dsimp only
      rw [ca, Option.bind_some]
      dsimp only
      rw [hbg, Option.bind_some]
      dsimp only
      rw [eb, cond_false, ha, cond_true, cond_false, beq_eq_false_iff_ne.2 ha0]
      simp
    | false =>
      have ha0 : bgE a = 0 := by simpa using ha
      obtain ⟨la, hra⟩ := bgE_0 ha0
      obtain ⟨cba, na⟩ := bgE_cb ha0
      obtain ⟨wd, rd, ld, d3⟩ := d2 ha0
      rw [bgE_dst ha0, e00, cond_false] at d3
      cases hb : bgE b != 0 with
      | true =>
        have hb0 := bne_iff_ne.1 hb
        rw [x2 ha0 hb0, Option.bind_some]
        dsimp only
        rw [d3, Option.bind_some]
        dsimp only
        rw [ca, Option.bind_some]
        dsimp only
        rw [hbg, Option.bind_some]
        dsimp only
        rw [eb, cond_false, ha, cond_false, R_eL_BagAdd_s0 n _ _ a n _ _ _ _ _ _ _ _ _ (by omega) (by omega), ba_dst n _ _ _ _ _ _ _ _ _ _ a [] 0 (by simp; omega)]
        dsimp only
        rw [e00, cond_false, List.nil_append, same2 (dst a) n K wd rd ld hn, Option.bind_some]
        dsimp only
        rw [eb, cond_false, hk, cond_false, ha0, e01, cond_true, cb, Option.bind_some]
        dsimp only
        rw [hb, cond_true, beq_self_eq_true]
        rfl
      | false =>
        have hb0 : bgE b = 0 := by simpa using hb
        obtain ⟨lb, hrb⟩ := bgE_0 hb0
        obtain ⟨cbb, nb⟩ := bgE_cb hb0
        obtain ⟨o, o1, o2, o3, o4, o5, o6⟩ := x3 ha0 hb0
        have hl : ∀ c ∈ a ++ times k b, DR K c ∧ -1099511627776000 ≤ c.n ∧ c.n ≤ 1099511627776000 := fun c hc => by
          rcases List.mem_append.1 hc with hc | hc
          · have h1 := hra c hc
            have h2 := na c hc
            exact ⟨⟨by omega, (wa c hc).1.2, ra c hc⟩, by omega, by omega⟩
          · unfold times at hc
            obtain ⟨d, hd, rfl⟩ := List.mem_map.1 hc
            have h1 := hrb d hd
            have h2 := nb d hd
            have h3 := hkin hk
            have a := mulb h2 h3
            exact ⟨⟨by show d.r.length ≤ 900; omega, (wb d hd).1.2, rb d hd⟩, by show _ ≤ d.n * k; omega, by show d.n * k ≤ _; omega⟩
        have htl : (times k b).length = b.length := by unfold times; simp
        obtain ⟨o', p1, p2, p3, p4⟩ := rbag_ok (a ++ times k b) n K 1099511627776000 (by omega) hl (by rw [List.length_append, htl]; omega) (by rw [List.length_append, htl]; omega) (by rw [List.length_append, htl]; omega)
        have heq : o' = o := cb_eq p2 o1 fun w => by rw [p3, o2, cf_append, cf_times]
        subst heq
        obtain ⟨y, hy⟩ : ∃ y, (bif bgE o' != 0 then some (([] : List Cnt), bgE o', ()) else some (o', (0 : Int), ())) = some y := by cases bgE o' != 0 <;> exact ⟨_, rfl⟩
        have fin := bags_fin o' n K o4 o5 o3 hn y hy
        rw [hy] at o6
        rw [o6, Option.bind_some]
        obtain ⟨y1, y2, y3⟩ := y
        dsimp only at fin ⊢
        rw [d3, Option.bind_some]
        dsimp only
        rw [ca, Option.bind_some]
        dsimp only
        rw [hbg, Option.bind_some]
        dsimp only
        rw [eb, cond_false, ha, cond_false, R_eL_BagAdd_s0 n _ _ a n _ _ _ _ _ _ _ _ _ (by omega) (by omega), ba_dst n _ _ _ _ _ _ _ _ _ _ a [] 0 (by simp; omega)]
        dsimp only
        rw [e00, cond_false, List.nil_append, same2 (dst a) n K wd rd ld hn, Option.bind_some]
        dsimp only
        rw [eb, cond_false, hk, cond_false, ha0, e01, cond_true, cb, Option.bind_some]
        dsimp only
        rw [hb, cond_false, clone_ok a (by omega), Option.bind_some]
        dsimp only
        rw [R_eL_BagAdd_s2 n _ _ b n _ _ _ _ (by omega) (by omega), ba_add n k (hkin hk) _ _ _ _ b a 0 nb (by omega)]
        dsimp only
        rw [p1, Option.bind_some]
        dsimp only
        rw [fin]
        rfl
end Pure

/- Columns are picked of bags as the document says: the plain law. No program. -/
namespace Pure
open Esp Ev Go
set_option linter.unusedSimpArgs false
set_option linter.unusedVariables false

theorem wnext {k : Nat} (h : k < 9223372036854775807) : IntKind.wrap .i64 ((k : Int) + 1) = ((k + 1 : Nat) : Int) := by rw [wrap64 (by omega) (by omega)]; omega
theorem pick_chk2 (n : Nat) (a : List Cnt) (cs : List Int) (hc : cs.length ≤ 30) (hn : 100 ≤ n) (hl : a.length ≤ 9223372036854775807) {ρ : Type} (KR : List Cnt × Int × Unit → Option ρ) (KX : (List Cnt × Unit) × (List Int × Unit) × Unit → Option ρ) : ∀ (r p : List Cnt) (fuel : Nat), a = p ++ r → r.length < fuel →
    iterN (fun rc => bag_Pick_s0 n rc KX KR) fuel (a, (a.length : Int), (p.length : Int), (a, ()), (cs, ()), ()) = bif r.all (fun c => inr cs c.r) then KX ((a, ()), (cs, ()), ()) else KR ([], 9, ()) := by
  intro r
  induction r with
  | nil =>
    intro p fuel hp hf
    obtain ⟨m, rfl⟩ : ∃ m, fuel = m + 1 := ⟨fuel - 1, by omega⟩
    have e : decide ((p.length : Int) < (a.length : Int)) = false := by rw [hp]; simp
    rw [iterN, bag_Pick_s0]
    dsimp only
    rw [e, cond_false]
    rfl
  | cons x r ih =>
    intro p fuel hp hf
    obtain ⟨m, rfl⟩ : ∃ m, fuel = m + 1 := ⟨fuel - 1, by omega⟩
    have e : decide ((p.length : Int) < (a.length : Int)) = true := by rw [hp]; simp; omega
    have hlp : p.length < 9223372036854775807 := by rw [hp] at hl; simp at hl; omega
    rw [iterN, bag_Pick_s0]
    dsimp only
    rw [e, cond_true, ix_mid hp rfl, Option.bind_some, Cnt.eta, R_bag_Pick_s2 n _ _ cs n _ _ _ _ _ _ (by omega) (by omega), inr_fold, List.all_cons]
    cases inr cs x.r with
    | false => rfl
    | true =>
      rw [cond_true, Bool.true_and]
      dsimp only
      rw [wnext hlp]
      have h := ih (p ++ [x]) m (by rw [hp]; simp) (by simp at hf; omega)
      have e2 : (p ++ [x]).length = p.length + 1 := by simp
      rw [e2] at h
      exact h
theorem pick_full (a : List Cnt) (cs : List Int) (n K : Nat) (hla : a.length ≤ 9223372036854775807) (hln : a.length < n) (wa : WB a) (ra : RB K a) (sa : bSz a + 2100 ≤ n) (hn : 20000 * (31 * K + 100) + 100000 ≤ n) :
    (decide ((cs.length : Int) > 30) = true → bag_Pick n (a, cs, ()) = some ([], 2, ())) ∧
    (decide ((cs.length : Int) > 30) = false → a.all (fun c => inr cs c.r) = false → bag_Pick n (a, cs, ()) = some ([], 9, ())) ∧
    (decide ((cs.length : Int) > 30) = false → a.all (fun c => inr cs c.r) = true → bgE a ≠ 0 → bag_Pick n (a, cs, ()) = some ([], bgE a, ())) ∧
    (decide ((cs.length : Int) > 30) = false → a.all (fun c => inr cs c.r) = true → bgE a = 0 →
      ∃ o, CB o ∧ (∀ w, cf o w = cf (pick cs a) w) ∧ o.length ≤ 2000 ∧ WB o ∧ RB (31 * K + 100) o ∧ bag_Pick n (a, cs, ()) = bif bgE o != 0 then some ([], bgE o, ()) else some (o, 0, ())) := by
  have ca := bcheck_ok a n wa sa
  unfold bag_Pick
  dsimp only
  have hpc := fun (hc : cs.length ≤ 30) => pick_chk2 n a cs hc (by omega) (by omega) (fun (v29, v30, _) => some (v29, v30, ())) (fun (o27, o28, _) => 
    (bag_both_bag_Pick_1_c n (o27.1, ([] : List Ev.Cnt), (o27.1, ()), (o28.1, ()), ())).bind fun (y31, y32, o33, o34, _) => some (y31, y32, ())) a [] n rfl (by omega)
  rw [show ((([] : List Cnt).length : Nat) : Int) = 0 from rfl] at hpc
  refine ⟨fun h1 => by rw [h1]; rfl, fun h1 h2 => ?_, fun h1 h2 ha => ?_, fun h1 h2 ha => ?_⟩
  · have hc : cs.length ≤ 30 := by have := of_decide_eq_false h1; omega
    rw [h1, cond_false, hpc hc, h2]
    rfl
  · have hc : cs.length ≤ 30 := by have := of_decide_eq_false h1; omega
    rw [h1, cond_false, hpc hc, h2, cond_true]
    dsimp only
    unfold bag_both_bag_Pick_1_c
    dsimp only
    rw [two_rounds _ (by omega)]
    generalize iterN _ (n - 3) = RS
    unfold bag_both_bag_Pick_1_c_s0
    dsimp only
    rw [show decide ((0 : Int) < 2) = true from rfl, cond_true, ix2a, Option.bind_some, ca, Option.bind_some]
    dsimp only
    rw [bne_iff_ne.2 ha, cond_true]
    rfl
  · have hc : cs.length ≤ 30 := by have := of_decide_eq_false h1; omega
    obtain ⟨cba, na⟩ := bgE_cb ha
    obtain ⟨la2, ra2⟩ := bgE_0 ha
    have hin : ∀ c ∈ a, inr cs c.r = true := List.all_eq_true.1 h2
    rw [h1, cond_false, hpc hc, h2, cond_true]
    dsimp only
    have cn := bcheck2 [] n K (by intro c hc; cases hc) (by intro c hc; cases hc) (by simp) (by omega)
    unfold bag_both_bag_Pick_1_c
    dsimp only
    rw [two_rounds _ (by omega)]
    generalize iterN _ (n - 3) = RS
    unfold bag_both_bag_Pick_1_c_s0
    dsimp only
    rw [show decide ((0 : Int) < 2) = true from rfl, cond_true, ix2a, Option.bind_some, ca, Option.bind_some]
    dsimp only
    rw [ha, show ((0 : Int) != 0) = false from rfl, cond_false, w01, show decide ((1 : Int) < 2) = true from rfl, cond_true, ix2b, Option.bind_some, cn, Option.bind_some]
    dsimp only
    rw [bgE_nil, show ((0 : Int) != 0) = false from rfl, cond_false, w12, show decide ((2 : Int) < 2) = false from rfl, cond_false]
    have lp : (pick cs a).length = a.length := by unfold pick; simp
    obtain ⟨o, o1, o2, o3, o4, o5, o6, o7, o8⟩ := gather2 (pick cs a) n (31 * K + 100) 1099511627776 (by omega) (fun c hc' => by
        obtain ⟨d, hd, rfl⟩ := List.mem_map.1 hc'
        dsimp only
        have := pk_length cs d.r
        exact ⟨by omega, fun v hv => (wa d hd).1.2 v (pk_mem hv), chks_of fun v hv => chks_0 (ra2 d hd).2 v (pk_mem hv), (na d hd).1, (na d hd).2⟩) (fun c hc' => by
        obtain ⟨d, hd, rfl⟩ := List.mem_map.1 hc'
        dsimp only
        have h3 := pk_sz d.r cs
        have h4 := ra d hd
        have h5 : cs.length * (lSz d.r + 2) ≤ 30 * (lSz d.r + 2) := Nat.mul_le_mul_right _ hc
        omega) (by rw [lp]; omega) (by rw [lp]; omega) (by omega)
    have hP : bag_Pick_1 n ((a, ()), (cs, ()), ()) = some (o, (a, ()), (cs, ()), ()) := by
      unfold bag_Pick_1
      refine (pick_loop n a cs hc (by omega) (by omega) hin (fun _ => none) (fun (o32, o33, o34, _) => (bag_Gather n (o32, ())).bind fun (y35, _) => some (y35, (o33.1, ()), (o34.1, ()), ())) a [] [] n rfl rfl (by omega)).trans ?_
      rw [List.nil_append]
      dsimp only
      rw [o1]
      rfl
    rw [hP, Option.bind_some]
    dsimp only
    rw [o8, Option.bind_some]
    dsimp only
    refine ⟨o, o2, o3, by omega, o6, o7, ?_⟩
    cases bgE o != 0 <;> rfl
/-- what is told so far, and whether these go -/
def badF (bad : Int) (b : Bool) : Int := bif (bad == 0) && !b then 9 else bad
theorem bp_col (n : Nat) {ρ : Type} (kr : Unit → Option ρ) (v14 : List Cnt) (v15 : List Int) (v16 : List Cnt) (v17 : Int) (v19 : List Cnt) (v20 v21 : Int) (x : Cnt) (K : List Cnt × List Int × List Cnt × Int × Int × List Cnt × Int × Int × (Cnt × Unit) × Unit → Option ρ) : ∀ (r : List Int) (bad i : Int),
    foldK (F_eL_BagPick_s2 n kr) K i r (v14, v15, v16, v17, bad, v19, v20, v21, (x, ()), ()) = K (v14, v15, v16, v17, badF bad (inr r x.r), v19, v20, v21, (x, ()), ()) := by
  intro r
  induction r with
  | nil =>
    intro bad i
    have : badF bad (inr [] x.r) = bad := by
      unfold badF inr
      cases bad == 0 <;> rfl
    rw [foldK, this]
  | cons k r ih =>
    intro bad i
    rw [foldK]
    generalize hR : foldK (F_eL_BagPick_s2 n kr) K (i + 1) r = R
    unfold F_eL_BagPick_s2
    dsimp only
    have e : inr (k :: r) x.r = ((!((decide (k < 0)) || (decide (k ≥ (x.r.length : Int))))) && inr r x.r) := by unfold inr; rw [List.all_cons]
    rw [e]
    subst hR
    cases hb : bad == 0 with
    | false =>
      rw [Bool.false_and, cond_false, ih bad (i + 1)]
      unfold badF
      rw [hb]
      rfl
    | true =>
      rw [Bool.true_and]
      cases (decide (k < 0)) || (decide (k ≥ (x.r.length : Int))) with
      | true =>
        rw [cond_true, ih 9 (i + 1)]
        unfold badF
        rw [hb]
        rfl
      | false =>
        rw [cond_false, ih bad (i + 1), Bool.not_false, Bool.true_and]
theorem badF_and (bad : Int) (b c : Bool) : badF (badF bad b) c = badF bad (b && c) := by
  unfold badF
  cases hb : bad == 0 <;> cases b <;> cases c <;> simp [hb]
theorem bp_all (n : Nat) (a : List Cnt) (cs : List Int) (hc : cs.length ≤ 9223372036854775807) (hcn : cs.length < n) (hl : a.length ≤ 9223372036854775807) {ρ : Type} (KR : Unit → Option ρ) (KX : List Cnt × List Int × List Cnt × Int × Int × Unit → Option ρ) (v5 v7 : List Cnt) (v8 : Int) : ∀ (r p : List Cnt) (bad : Int) (fuel : Nat), a = p ++ r → r.length < fuel →
    iterN (fun rc => eL_BagPick_s0 n rc KX KR) fuel (v5, cs, v7, v8, bad, a, (a.length : Int), (p.length : Int), ()) = KX (v5, cs, v7, v8, badF bad (r.all fun c => inr cs c.r), ()) := by
  intro r
  induction r with
  | nil =>
    intro p bad fuel hp hf
    obtain ⟨m, rfl⟩ : ∃ m, fuel = m + 1 := ⟨fuel - 1, by omega⟩
    have e : decide ((p.length : Int) < (a.length : Int)) = false := by rw [hp]; simp
    rw [iterN, eL_BagPick_s0]
    dsimp only
    rw [e, cond_false]
    unfold badF
    cases bad == 0 <;> rfl
  | cons x r ih =>
    intro p bad fuel hp hf
    obtain ⟨m, rfl⟩ : ∃ m, fuel = m + 1 := ⟨fuel - 1, by omega⟩
    have e : decide ((p.length : Int) < (a.length : Int)) = true := by rw [hp]; simp; omega
    have hlp : p.length < 9223372036854775807 := by rw [hp] at hl; simp at hl; omega
    rw [iterN, eL_BagPick_s0]
    dsimp only
    rw [e, cond_true, ix_mid hp rfl, Option.bind_some, Cnt.eta, R_eL_BagPick_s2 n _ _ cs n _ _ _ _ _ _ _ _ _ hc hcn, bp_col]
    dsimp only
    rw [wnext hlp]
    have h := ih (p ++ [x]) (badF bad (inr cs x.r)) m (by rw [hp]; simp) (by simp at hf; omega)
    have e2 : (p ++ [x]).length = p.length + 1 := by simp
    rw [e2] at h
    rw [List.all_cons, ← badF_and]
    exact h
theorem bp_pk (n : Nat) {ρ : Type} (kr : Unit → Option ρ) (v52 : List Int) (v53 : List Cnt) (v54 : Int) (v55 : List Cnt) (v56 v57 : Int) (o61 : List Cnt) (x : Cnt) (K : List Int × List Cnt × Int × List Cnt × Int × Int × List Cnt × (Cnt × Unit) × List Val × Unit → Option ρ) : ∀ (r : List Int) (q : List Val) (i : Int), inr r x.r = true → q.length + r.length ≤ 100 →
    foldK (F_eL_BagPick_s6 n kr) K i r (v52, v53, v54, v55, v56, v57, o61, (x, ()), q, ()) = K (v52, v53, v54, v55, v56, v57, o61, (x, ()), q ++ pk r x.r, ()) := by
  intro r
  induction r with
  | nil => intro q i _ _; simp [foldK, pk]
  | cons k r ih =>
    intro q i h hl
    unfold inr at h
    rw [List.all_cons, Bool.and_eq_true] at h
    obtain ⟨v, hv⟩ := ix_inr h.1
    rw [foldK]
    generalize hR : foldK (F_eL_BagPick_s6 n kr) K (i + 1) r = R
    unfold F_eL_BagPick_s6
    dsimp only
    rw [hv, Option.bind_some, Val.eta, ck_ok (room_ok (by simp at hl ⊢; omega) (by omega))]
    subst hR
    refine (ih (q ++ [v]) (i + 1) h.2 (by simp at hl ⊢; omega)).trans ?_
    unfold pk
    rw [List.filterMap_cons, hv]
    simp
theorem bp_loop (n : Nat) (a : List Cnt) (cs : List Int) (hc : cs.length ≤ 30) (hn : 100 ≤ n) (hl : a.length ≤ 100000) (hin : ∀ c ∈ a, inr cs c.r = true) {ρ : Type} (KR : Unit → Option ρ) (KX : List Cnt × Int × List Cnt × Unit → Option ρ) (v45 : List Cnt) (v46 : Int) : ∀ (r p acc : List Cnt) (fuel : Nat), a = p ++ r → acc.length = p.length → r.length < fuel →
    iterN (fun rc => eL_BagPick_s4 n rc KX KR) fuel (cs, v45, v46, a, (a.length : Int), (p.length : Int), acc, ()) = KX (v45, v46, acc ++ pick cs r, ()) := by
  intro r
  induction r with
  | nil =>
    intro p acc fuel hp ha hf
    obtain ⟨m, rfl⟩ : ∃ m, fuel = m + 1 := ⟨fuel - 1, by omega⟩
    have e : decide ((p.length : Int) < (a.length : Int)) = false := by rw [hp]; simp
    rw [iterN, eL_BagPick_s4]
    dsimp only
    rw [e, cond_false]
    simp [pick]
  | cons x r ih =>
    intro p acc fuel hp ha hf
    obtain ⟨m, rfl⟩ : ∃ m, fuel = m + 1 := ⟨fuel - 1, by omega⟩
    have e : decide ((p.length : Int) < (a.length : Int)) = true := by rw [hp]; simp; omega
    have hlp : p.length < 100000 := by rw [hp] at hl; simp at hl; omega
    rw [iterN, eL_BagPick_s4]
    dsimp only
    rw [e, cond_true, ix_mid hp rfl, Option.bind_some, Cnt.eta, R_eL_BagPick_s6 n _ _ cs n _ _ _ _ _ _ _ _ _ (by omega) (by omega), bp_pk n _ _ _ _ _ _ _ acc x _ cs [] 0 (hin x (by rw [hp]; simp)) (by simp; omega)]
    dsimp only
    rw [ck_ok (roomB (by simp; omega) (by omega)), wadd1 (by omega), List.nil_append]
    have h := ih (p ++ [x]) (acc ++ [⟨pk cs x.r, x.n⟩]) m (by rw [hp]; simp) (by simp [ha]) (by simp at hf; omega)
    have e2 : (p ++ [x]).length = p.length + 1 := by simp
    rw [e2] at h
    refine h.trans ?_
    simp [pick]
theorem BagPick_ok (a : List Cnt) (cs : List Int) (wa : WB a) (hla : a.length ≤ maxLen) (hlc : cs.length ≤ maxLen) (n : Nat) (hn : 1000000 * (bSz a + 100) + a.length + cs.length ≤ n) : eL_BagPick n (a, cs, ()) = some (true, ()) := by
  have hla : a.length ≤ 9223372036854775807 := hla
  have hlc : cs.length ≤ 9223372036854775807 := hlc
  generalize hK : bSz a + 6 = K at hn
  have ra : RB K a := RB_self a (by omega)
  have ca := rbcheck_ok a n wa (by omega)
  have hbg := bagged_ok n (by omega)
  have e00 : ((0 : Int) != 0) = false := rfl
  have e01 : ((0 : Int) == 0) = true := rfl
  obtain ⟨x1, x2, x3, x4⟩ := pick_full a cs n K hla (by omega) wa ra (by omega) (by omega)
  have hall := fun (bad : Int) (KX : List Cnt × List Int × List Cnt × Int × Int × Unit → Option (Bool × Unit)) (v7 : List Cnt) (v8 : Int) => bp_all n a cs hlc (by omega) hla (fun _ => none) KX a v7 v8 a [] bad n rfl (by omega)
  rw [show ((([] : List Cnt).length : Nat) : Int) = 0 from rfl] at hall
  unfold eL_BagPick
  dsimp only
  cases hc : decide ((cs.length : Int) > 30) with
  | true =>
    rw [x1 hc, Option.bind_some]
    dsimp only
    rw [cond_true, hall]
    dsimp only
    have e : badF 2 (a.all fun c => inr cs c.r) = 2 := rfl
    rw [e, show ((2 : Int) == 0) = false from rfl, cond_false, hbg, Option.bind_some]
    rfl
  | false =>
    cases h2 : a.all (fun c => inr cs c.r) with
    | false =>
      rw [x2 hc h2, Option.bind_some]
      dsimp only
      rw [cond_false, hall, h2]
      dsimp only
      have e : badF 0 false = 9 := rfl
      rw [e, show ((9 : Int) == 0) = false from rfl, cond_false, hbg, Option.bind_some]
      rfl
    | true =>
      have e : badF 0 true = 0 := rfl
      cases ha : bgE a != 0 with
      | true =>
        rw [x3 hc h2 (bne_iff_ne.1 ha), Option.bind_some]
        dsimp only
        rw [cond_false, hall, h2]
        dsimp only
        rw [e, e01, cond_true, ca, Option.bind_some]
        dsimp only
        rw [hbg, Option.bind_some]
        dsimp only
        rw [ha, Bool.or_true, cond_true, Option.bind_some]
        simp
      | false =>
        have ha0 : bgE a = 0 := by simpa using ha
        obtain ⟨la, hra⟩ := bgE_0 ha0
        obtain ⟨cba, na⟩ := bgE_cb ha0
        have hc30 : cs.length ≤ 30 := by have := of_decide_eq_false hc; omega
        obtain ⟨o, o1, o2, o3, o4, o5, o6⟩ := x4 hc h2 ha0
        have lp : (pick cs a).length = a.length := by unfold pick; simp
        obtain ⟨o', p1, p2, p3, p4⟩ := rbag_ok (pick cs a) n (31 * K + 100) 1099511627776 (by omega) (fun c hc' => by
          obtain ⟨d, hd, rfl⟩ := List.mem_map.1 hc'
          have h3 := pk_sz d.r cs
          have h4 := ra d hd
          have h5 : cs.length * (lSz d.r + 2) ≤ 30 * (lSz d.r + 2) := Nat.mul_le_mul_right _ hc30
          have h6 := pk_length cs d.r
          exact ⟨⟨by show (pk cs d.r).length ≤ 900; omega, fun v hv => (wa d hd).1.2 v (pk_mem hv), by show lSz (pk cs d.r) + 6 ≤ _; omega⟩, (na d hd).1, (na d hd).2⟩) (by rw [lp]; omega) (by rw [lp]; omega) (by rw [lp]; omega)
        have heq : o' = o := cb_eq p2 o1 fun w => by rw [p3, o2]
        subst heq
        obtain ⟨y, hy⟩ : ∃ y, (bif bgE o' != 0 then some (([] : List Cnt), bgE o', ()) else some (o', (0 : Int), ())) = some y := by cases bgE o' != 0 <;> exact ⟨_, rfl⟩
        have fin := bags_fin o' n (31 * K + 100) o4 o5 (by omega) (by omega) y hy
        rw [hy] at o6
        rw [o6, Option.bind_some]
        obtain ⟨y1, y2, y3⟩ := y
        dsimp only at fin ⊢
        rw [cond_false, hall, h2]
        dsimp only
        rw [e, e01, cond_true, ca, Option.bind_some]
        dsimp only
        rw [hbg, Option.bind_some]
        dsimp only
        rw [ha, show ((!true) || false) = false from rfl, cond_false]
        have hbl := bp_loop n a cs hc30 (by omega) (by omega) (List.all_eq_true.1 h2) (fun _ => none) (fun (v99, v100, o101, _) => 
          (eR_BagOf n (o101, ())).bind fun (y102, _) => 
          (eL_bags n (v99, v100, y102, ())).bind fun (y103, _) => some (y103, ())) y1 y2 a [] [] n rfl rfl (by omega)
        rw [show ((([] : List Cnt).length : Nat) : Int) = 0 from rfl] at hbl
        refine hbl.trans ?_
        dsimp only
        rw [List.nil_append, p1, Option.bind_some]
        dsimp only
        rw [fin]
        rfl
end Pure

/- Gathering rows, whatever stands in them: the program's and the document's (printed by mkref2.py out of PGath and PRef). No program. -/
namespace Pure
open Esp Ev Go
set_option linter.unusedSimpArgs false
set_option linter.unusedVariables false

/-- a row, whatever stands in it -/
def DR2 (K : Nat) (x : Cnt) : Prop := x.r.length ≤ 2000000 ∧ (∀ v ∈ x.r, vOk v) ∧ lSz x.r + 6 ≤ K
theorem cmpR2 (K : Nat) : Cmp (fun n => bag_Gather_1 n) rc (DR2 K) K where
  ok n hn x y hx hy := by
    show bag_Gather_1 n (x, y, ()) = _
    unfold bag_Gather_1
    dsimp only
    rw [compare_ok x.r y.r n (by unfold maxLen; have := hx.1; omega) hx.2.1 (by have := hx.2.2; omega)]
    rfl
  asy x y _ _ h h2 := by
    unfold rc at h h2
    rw [ordL_neg x.r y.r] at h2
    omega
  tr x y z _ _ _ h1 h2 h3 := by
    unfold rc at *
    rw [ordL_neg x.r y.r] at h1
    rcases Int.lt_or_eq_of_le (show ordL x.r y.r ≤ 0 by omega) with h | h
    · exact h2 (ordL_trans h3 h)
    · rw [(ordL_zero _ _).1 h] at h3
      exact h2 h3
theorem gath_loop2 (n K : Nat) (M : Int) (hM : 0 ≤ M) (hn : K ≤ n) (hn2 : 1000 ≤ n) (kr : Unit → Option (List Cnt × Unit)) (k : List Cnt × Unit → Option (List Cnt × Unit)) : ∀ (r p o : List Cnt) (i : Int), Sorted rc (p ++ r) →
    (∀ c ∈ p ++ r, DR2 K c ∧ bag_CopyRow n (c.r, ()) = some (c.r, ()) ∧ -M ≤ c.n ∧ c.n ≤ M) → ((p.length + r.length : Nat) : Int) * M ≤ 9000000000000000000 → p.length + r.length ≤ 100000 →
    Strict o → (∀ w, cf o w = cf p w) → (∀ c ∈ o, ∃ d ∈ p, d.r = c.r) → o.length ≤ p.length → (∀ p' d, p = p' ++ [d] → ∃ o' y, o = o' ++ [y] ∧ y.r = d.r) →
    ∃ o', Strict o' ∧ (∀ w, cf o' w = cf (p ++ r) w) ∧ (∀ c ∈ o', ∃ d ∈ p ++ r, d.r = c.r) ∧ o'.length ≤ p.length + r.length ∧ foldK (F_bag_Gather_s0 n kr) k i r (o, ()) = k (o', ()) := by
  intro r
  induction r with
  | nil =>
    intro p o i hs hD hMl hl h1 h2 h3 h4 h5
    exact ⟨o, h1, by simpa using h2, by simpa using h3, by simpa using h4, rfl⟩
  | cons x r ih =>
    intro p o i hs hD hMl hl h1 h2 h3 h4 h5
    have hDx := hD x (by simp)
    have hp : p ++ x :: r = (p ++ [x]) ++ r := by simp
    have hl' : p.length + (r.length + 1) ≤ 100000 := by simpa using hl
    rw [foldK]
    have hcopy := hDx.2.1
    have fin : ∀ o2 : List Cnt, Strict o2 → (∀ w, cf o2 w = cf (p ++ [x]) w) → (∀ c ∈ o2, ∃ d ∈ p ++ [x], d.r = c.r) → o2.length ≤ p.length + 1 → (∃ o' y, o2 = o' ++ [y] ∧ y.r = x.r) →
        ∃ o', Strict o' ∧ (∀ w, cf o' w = cf (p ++ x :: r) w) ∧ (∀ c ∈ o', ∃ d ∈ p ++ x :: r, d.r = c.r) ∧ o'.length ≤ p.length + (x :: r).length ∧ foldK (F_bag_Gather_s0 n kr) k (i + 1) r (o2, ()) = k (o', ()) := by
      intro o2 a1 a2 a3 a4 a5
      obtain ⟨o', b1, b2, b3, b4, b5⟩ := ih (p ++ [x]) o2 (i + 1) (hp ▸ hs) (fun c hc => hD c (hp ▸ hc)) (by simp at hMl ⊢; rw [Int.add_assoc, Int.add_comm 1]; exact hMl) (by simp; omega) a1 a2 a3 (by simpa using a4) (fun p' d hd => by
        obtain ⟨o', y, e1, e2⟩ := a5
        have : x = d := by have := congrArg List.getLast? hd; simpa using this
        exact ⟨o', y, e1, by rw [e2, this]⟩)
      exact ⟨o', b1, by rw [hp]; exact b2, by rw [hp]; exact b3, by simp at b4 ⊢; omega, b5⟩
    generalize hR : foldK (F_bag_Gather_s0 n kr) k (i + 1) r = R
    unfold F_bag_Gather_s0
    dsimp only
    rcases List.eq_nil_or_concat o with rfl | ⟨o', y, ho⟩
    · have e : decide (IntKind.wrap .i64 ((([] : List Cnt).length : Int) - 1) ≥ 0) = false := rfl
      rw [e, cond_false, hcopy, Option.bind_some]
      dsimp only
      rw [ck_ok (roomB (by simp) (by omega))]
      have hp0 : p = [] := by
        rcases List.eq_nil_or_concat p with h | ⟨p', d, h⟩
        · exact h
        · rw [List.concat_eq_append] at h
          obtain ⟨o', y, e1, _⟩ := h5 p' d h
          simp at e1
      subst hp0
      subst hR
      exact fin [x] (by simp [Strict]) (fun w => by simp) (by simp) (by simp) ⟨[], x, rfl, rfl⟩
    · rw [List.concat_eq_append] at ho
      subst ho
      have hol : o'.length + 1 ≤ p.length := by simpa using h4
      have ew : IntKind.wrap .i64 (((o' ++ [y]).length : Int) - 1) = (o'.length : Int) := by rw [show ((o' ++ [y]).length : Int) = ((o'.length + 1 : Nat) : Int) by simp]; exact wsub1 rfl (by omega)
      have e : decide ((o'.length : Int) ≥ 0) = true := by rw [decide_eq_true_iff]; omega
      have d0 : o' ++ [y] = o' ++ y :: [] := rfl
      -- the last of what was before
      obtain ⟨p', d, hpd⟩ : ∃ p' d, p = p' ++ [d] := by
        rcases List.eq_nil_or_concat p with h | ⟨p', d, h⟩
        · subst h; simp at hol
        · exact ⟨p', d, by rw [h]; simp⟩
      obtain ⟨o'', y', hy1, hy2⟩ := h5 p' d hpd
      have hyy : y = y' := by have := congrArg List.getLast? hy1; simpa using this
      have hyd : y.r = d.r := by rw [hyy]; exact hy2
      have hDd := hD d (by rw [hpd]; simp)
      have hle : ¬ ordL x.r y.r < 0 := by
        rw [hyd]
        have := (List.pairwise_append.1 hs).2.2 d (by rw [hpd]; simp) x (by simp)
        exact this
      rw [ew, e, cond_true, ix_mid d0 rfl, tnat, at_mid d0 rfl, Option.bind_some, Option.bind_some, compare_ok y.r x.r n (by rw [hyd]; unfold maxLen; have := hDd.1.1; omega) (by rw [hyd]; exact hDd.1.2.1) (by rw [hyd]; have := hDd.1.2.2; omega), Option.bind_some]
      dsimp only
      cases hb : ordL y.r x.r == 0 with
      | true =>
        have hyx : y.r = x.r := (row_beq _ _).1 hb
        rw [cond_true]
        simp only [Option.bind_some]
        rw [set_mid _ d0 rfl]
        have hyn : y.n = cf p y.r := by rw [← h2, cf_strict h1 (by simp)]
        have hb1 := cf_bound (M := M) hM y.r (l := p) fun c hc => (hD c (by simp [hc])).2.2
        have hMl2 : (p.length : Int) * M + M ≤ 9000000000000000000 := by
          have : (((p.length + (x :: r).length : Nat) : Int)) * M = (p.length : Int) * M + M + (r.length : Int) * M := by
            rw [List.length_cons]; push_cast; rw [Int.add_mul, Int.add_mul, Int.one_mul]; omega
          have h0 : 0 ≤ (r.length : Int) * M := Int.mul_nonneg (by omega) hM
          omega
        have hx2 := hDx.2.2
        have ewn : IntKind.wrap .i64 (y.n + x.n) = y.n + x.n := by
          rw [hyn]
          generalize (p.length : Int) * M = q at *
          exact wrap64 (by omega) (by omega)
        rw [ewn]
        obtain ⟨s1, s2, s3⟩ := List.pairwise_append.1 h1
        subst hR
        refine fin (o' ++ [⟨y.r, y.n + x.n⟩]) ?_ ?_ ?_ (by simp; omega) ⟨o', ⟨y.r, y.n + x.n⟩, rfl, hyx⟩
        · exact List.pairwise_append.2 ⟨s1, by simp, fun a ha b hb => by rw [List.mem_singleton.1 hb]; exact s3 a ha y (by simp)⟩
        · intro w
          rw [cf_append, cf_append, ← h2 w, cf_append]
          simp only [cf]
          rw [hyx]
          cases ordL x.r w == 0 <;> simp only [cond_true, cond_false] <;> omega
        · intro c hc
          rcases List.mem_append.1 hc with hc | hc
          · obtain ⟨d, hd, e⟩ := h3 c (by simp [hc])
            exact ⟨d, by simp [hd], e⟩
          · exact ⟨x, by simp, by rw [List.mem_singleton.1 hc]; exact hyx.symm⟩
      | false =>
        rw [cond_false, hcopy, Option.bind_some]
        dsimp only
        rw [ck_ok (roomB (by simp; omega) (by omega)), Cnt.eta]
        have hlt : ordL y.r x.r < 0 := by
          have h0 : ordL y.r x.r ≠ 0 := by simpa using hb
          rw [ordL_neg y.r x.r] at hle
          omega
        obtain ⟨s1, s2, s3⟩ := List.pairwise_append.1 h1
        subst hR
        refine fin (o' ++ [y] ++ [x]) ?_ ?_ ?_ (by simp; omega) ⟨o' ++ [y], x, rfl, rfl⟩
        · refine List.pairwise_append.2 ⟨h1, by simp, fun a ha b hb => ?_⟩
          rw [List.mem_singleton.1 hb]
          rcases List.mem_append.1 ha with ha | ha
          · exact ordL_trans (s3 a ha y (by simp)) hlt
          · rw [List.mem_singleton.1 ha]; exact hlt
        · intro w
          rw [cf_append w (o' ++ [y]) [x], h2 w, cf_append w p [x]]
        · intro c hc
          rcases List.mem_append.1 hc with hc | hc
          · obtain ⟨d, hd, e⟩ := h3 c hc
            exact ⟨d, by simp [hd], e⟩
          · exact ⟨x, by simp, by rw [List.mem_singleton.1 hc]⟩
theorem gather_ok2 (l : List Cnt) (n K : Nat) (M : Int) (hM : 0 ≤ M) (hD : ∀ c ∈ l, DR2 K c ∧ bag_CopyRow n (c.r, ()) = some (c.r, ()) ∧ -M ≤ c.n ∧ c.n ≤ M) (hMl : (l.length : Int) * M ≤ 9000000000000000000) (hl : l.length ≤ 100000) (hn : l.length + K + 1100 ≤ n) :
    ∃ o, bag_Gather n (l, ()) = some (o, ()) ∧ CB o ∧ (∀ w, cf o w = cf l w) ∧ (∀ c ∈ o, ∃ d ∈ l, d.r = c.r) ∧ o.length ≤ l.length := by
  obtain ⟨s, s1, s2, s3⟩ := sort_ok (cmpR2 K) n l (fun z hz => (hD z hz).1) (by omega) (by omega)
  unfold bag_Gather
  dsimp only
  rw [clone_ok l hl, Option.bind_some]
  dsimp only
  rw [sort_eq, s3, Option.bind_some]
  dsimp only
  have ls := s1.length_eq
  rw [R_bag_Gather_s0 n _ _ s n [] (by omega) (by omega)]
  obtain ⟨o, o1, o2, o3, o4, o5⟩ := gath_loop2 n K M hM (by omega) (by omega) (fun _ => none) (fun z => (slices_DeleteFunc_api_Bag_C_bag_Gather_2 n (z.1, ())).bind fun z => some (z.1, ())) s [] [] 0 (by simpa using s2) (fun c hc => hD c (s1.mem_iff.1 (by simpa using hc))) (by simpa [ls] using hMl) (by simp; omega) (by simp [Strict]) (fun w => rfl) (by simp) (by simp) (fun p' d h => by simp at h)
  simp only [List.nil_append, List.length_nil, Nat.zero_add] at o2 o3 o4
  refine ⟨o.filter nz, ?_, ⟨o1.filter _, fun c hc => ?_⟩, fun w => ?_, fun c hc => ?_, ?_⟩
  · refine o5.trans ?_
    dsimp only
    rw [del_ok o n (by omega) (by omega)]
    rfl
  · have := (List.mem_filter.1 hc).2
    unfold nz at this
    simpa using this
  · rw [cf_filter, o2, cf_perm w s1]
  · obtain ⟨d, hd, e⟩ := o3 c (List.mem_filter.1 hc).1
    exact ⟨d, s1.mem_iff.1 hd, e⟩
  · exact Nat.le_trans (List.length_filter_le _ _) (by omega)
theorem cmpW_ok2 (K : Nat) : Cmp cmpW rc (DR2 K) K where
  ok n hn x y hx hy := by
    show eR_CompareRows n (x.r, y.r, ()) = _
    rw [rcompare_ok x.r y.r n (by unfold maxLen; have := hx.1; omega) hx.2.1 (by have := hx.2.2; omega)]
    rfl
  asy := (cmpR2 K).asy
  tr := (cmpR2 K).tr
theorem bo_in2 {ρ : Type} (n K : Nat) (M : Int) (hM : 0 ≤ M) (hn : K ≤ n) (kx : Int × Unit × (List Cnt) × (Cnt × Unit) × (List Cnt) × Unit → Option ρ) (kr : Unit → Option ρ) (s : List Cnt) (hs : ∀ c ∈ s, DR2 K c ∧ -M ≤ c.n ∧ c.n ≤ M) (hsl : s.length ≤ 100000) (out : List Cnt) (r : List Val) :
    ∀ (t p : List Cnt) (acc : Int) (fuel : Nat), s = p ++ t → t.length < fuel → -9000000000000000000 ≤ acc - (t.length : Int) * M → acc + (t.length : Int) * M ≤ 9000000000000000000 →
      iterN (fun rc => eR_BagOf_s2 n rc kx kr) fuel ((p.length : Int), (), out, (⟨r, acc⟩, ()), s, ()) = kx (((p.length + (t.takeWhile (eqr r)).length : Nat) : Int), (), out, (⟨r, acc + sumN (t.takeWhile (eqr r))⟩, ()), s, ()) := by
  intro t
  induction t with
  | nil =>
    intro p acc fuel hp hf _ _
    obtain ⟨f, rfl⟩ : ∃ f, fuel = f + 1 := ⟨fuel - 1, by omega⟩
    rw [iterN]
    unfold eR_BagOf_s2
    dsimp only
    rw [decide_eq_false (show ¬ (p.length : Int) < (s.length : Int) by subst hp; simp), cond_false]
    simp [sumN]
  | cons x t ih =>
    intro p acc fuel hp hf h0 h1
    obtain ⟨f, rfl⟩ : ∃ f, fuel = f + 1 := ⟨fuel - 1, by omega⟩
    have hx := hs x (by rw [hp]; simp)
    have hlen : s.length = p.length + (t.length + 1) := by rw [hp]; simp
    have hix : ix s (p.length : Int) = some x := ix_ok (by rw [hp]; simp)
    have hg : s[((p.length : Int)).toNat]? = some x := by rw [Int.toNat_natCast, hp]; simp
    have e : ((x :: t).length : Int) * M = (t.length : Int) * M + M := by rw [List.length_cons]; push_cast; rw [Int.add_mul, Int.one_mul]
    rw [e] at h0 h1
    have hq : 0 ≤ (t.length : Int) * M := Int.mul_nonneg (by omega) hM
    have ih2 := ih (p ++ [x]) (acc + x.n) f (by rw [hp]; simp) (by simp at hf; omega)
      (by generalize (t.length : Int) * M = q at *; omega) (by generalize (t.length : Int) * M = q at *; omega)
    rw [List.length_append, List.length_singleton] at ih2
    rw [iterN]
    generalize iterN (fun rc => eR_BagOf_s2 n rc kx kr) f = R at ih2 ⊢
    unfold eR_BagOf_s2
    dsimp only
    rw [decide_eq_true (show (p.length : Int) < (s.length : Int) by omega), cond_true, hix, Option.bind_some, hg, Option.bind_some, rcompare_ok x.r r n (by unfold maxLen; have := hx.1.1; omega) hx.1.2.1 (by have := hx.1.2.2; omega), Option.bind_some]
    dsimp only
    rw [List.takeWhile_cons]
    cases h : eqr r x with
    | false =>
      have h' : (ordL x.r r == 0) = false := h
      rw [h', cond_false]
      simp [sumN]
    | true =>
      have h' : (ordL x.r r == 0) = true := h
      rw [h', cond_true, Option.bind_some, Option.bind_some]
      rw [wrap64 (by omega) (by omega), wrap64 (by generalize (t.length : Int) * M = q at *; omega) (by generalize (t.length : Int) * M = q at *; omega)]
      rw [show ((p.length : Int) + 1) = ((p.length + 1 : Nat) : Int) by omega, ih2]
      simp only [if_true, sumN, List.length_cons]
      rw [show p.length + 1 + (t.takeWhile (eqr r)).length = p.length + ((t.takeWhile (eqr r)).length + 1) by omega, Int.add_assoc]
theorem bo_out2 (n K : Nat) (M : Int) (hM : 0 ≤ M) (hn : K ≤ n) (kx : (List Cnt) × Unit → Option (List Cnt × Unit)) (kr : Unit → Option (List Cnt × Unit)) (s : List Cnt) (hs : ∀ c ∈ s, DR2 K c ∧ -M ≤ c.n ∧ c.n ≤ M) (hsl : s.length ≤ 20000) (hn2 : s.length < n) (hMl : (s.length : Int) * M ≤ 9000000000000000000) :
    ∀ (k : Nat) (t p out : List Cnt) (fuel : Nat), t.length ≤ k → s = p ++ t → t.length < fuel → out.length + t.length ≤ 20000 →
      iterN (fun rc => eR_BagOf_s0 n rc kx kr) fuel ((p.length : Int), (), out, s, ()) = kx (out ++ (runs t).filter nz, ()) := by
  intro k
  have last : ∀ (p out : List Cnt) (fuel : Nat), s = p → 0 < fuel → iterN (fun rc => eR_BagOf_s0 n rc kx kr) fuel ((p.length : Int), (), out, s, ()) = kx (out ++ (runs []).filter nz, ()) := by
    intro p out fuel hp hf
    obtain ⟨f, rfl⟩ : ∃ f, fuel = f + 1 := ⟨fuel - 1, by omega⟩
    rw [iterN]
    unfold eR_BagOf_s0
    dsimp only
    rw [decide_eq_false (show ¬ (p.length : Int) < (s.length : Int) by subst hp; omega), cond_false, runs]
    simp
  induction k with
  | zero =>
    intro t p out fuel hk hp hf ho
    obtain rfl : t = [] := List.length_eq_zero_iff.1 (by omega)
    exact last p out fuel (by simpa using hp) (by omega)
  | succ k ih =>
    intro t p out fuel hk hp hf ho
    cases t with
    | nil => exact last p out fuel (by simpa using hp) (by omega)
    | cons c t =>
    obtain ⟨f, rfl⟩ : ∃ f, fuel = f + 1 := ⟨fuel - 1, by omega⟩
    have hlen : s.length = p.length + (t.length + 1) := by rw [hp]; simp
    have hix : ix s (p.length : Int) = some c := ix_ok (by rw [hp]; simp)
    have hg : s[((p.length : Int)).toNat]? = some c := by rw [Int.toNat_natCast, hp]; simp
    have hdl : (t.dropWhile (eqr c.r)).length ≤ t.length := (List.dropWhile_sublist _).length_le
    have htl := congrArg List.length (List.takeWhile_append_dropWhile (p := eqr c.r) (l := t))
    rw [List.length_append] at htl
    have hcc : eqr c.r c = true := (row_beq _ _).2 rfl
    have htw : (c :: t).takeWhile (eqr c.r) = c :: t.takeWhile (eqr c.r) := by
      rw [List.takeWhile_cons, if_pos hcc]
    have hdw : (c :: t).dropWhile (eqr c.r) = t.dropWhile (eqr c.r) := by
      rw [List.dropWhile_cons, if_pos hcc]
    have hsp : s = (p ++ (c :: t.takeWhile (eqr c.r))) ++ t.dropWhile (eqr c.r) := by
      rw [hp, ← htw, ← hdw, List.append_assoc, List.takeWhile_append_dropWhile]
    have hb : ((c :: t).length : Int) * M ≤ 9000000000000000000 := by
      have : ((c :: t).length : Int) * M ≤ (s.length : Int) * M := Int.mul_le_mul_of_nonneg_right (by rw [hlen, List.length_cons]; omega) hM
      omega
    have hin := fun K' kr' => bo_in2 (ρ := List Cnt × Unit) n K M hM hn K' kr' s hs (by omega) out c.r (c :: t) p 0 n hp (by simp; omega) (by omega) (by omega)
    have ihf := fun out' ho' => ih (t.dropWhile (eqr c.r)) (p ++ (c :: t.takeWhile (eqr c.r))) out' f (by simp at hk; omega) hsp (by simp at hf; omega) ho'
    rw [iterN]
    generalize iterN (fun rc => eR_BagOf_s0 n rc kx kr) f = R at ihf ⊢
    unfold eR_BagOf_s0
    dsimp only
    rw [decide_eq_true (show (p.length : Int) < (s.length : Int) by omega), cond_true, hix, Option.bind_some, hg, Option.bind_some, hin]
    dsimp only
    rw [htw, sumN, Int.zero_add, runs, List.filter_cons]
    have hpl : ((p.length + (c :: t.takeWhile (eqr c.r)).length : Nat) : Int) = (((p ++ (c :: t.takeWhile (eqr c.r))).length : Nat) : Int) := by rw [List.length_append]
    rw [hpl]
    cases hz : c.n + sumN (t.takeWhile (eqr c.r)) == 0 with
    | true =>
      have h1 : nz ⟨c.r, c.n + sumN (t.takeWhile (eqr c.r))⟩ = false := by unfold nz; rw [hz]; rfl
      have h2 : (c.n + sumN (t.takeWhile (eqr c.r)) != 0) = false := by unfold bne; rw [hz]; rfl
      rw [h1, h2, cond_false, if_neg (by simp)]
      exact ihf out (by simp at ho; omega)
    | false =>
      have h1 : nz ⟨c.r, c.n + sumN (t.takeWhile (eqr c.r))⟩ = true := by unfold nz; rw [hz]; rfl
      have h2 : (c.n + sumN (t.takeWhile (eqr c.r)) != 0) = true := by unfold bne; rw [hz]; rfl
      rw [h1, h2, cond_true, if_pos rfl, ck_ok (roomB (by simp at ho ⊢; omega) (by omega))]
      refine (ihf _ (by simp at ho ⊢; omega)).trans ?_
      rw [List.append_assoc]
      rfl
theorem rbag_ok2 (l : List Cnt) (n K : Nat) (M : Int) (hM : 0 ≤ M) (hD : ∀ c ∈ l, DR2 K c ∧ -M ≤ c.n ∧ c.n ≤ M) (hMl : (l.length : Int) * M ≤ 9000000000000000000) (hl : l.length ≤ 20000) (hn : l.length + K + 1100 ≤ n) :
    ∃ o, eR_BagOf n (l, ()) = some (o, ()) ∧ CB o ∧ (∀ w, cf o w = cf l w) ∧ (∀ c ∈ o, ∃ d ∈ l, d.r = c.r) := by
  obtain ⟨s, s1, s2, s3⟩ := sort_ok (cmpW_ok2 K) n l (fun z hz => (hD z hz).1) (by omega) (by omega)
  have hsort : ∃ s : List Cnt, s.Perm l ∧ Sorted rc s ∧ ssN_sort_stable_func_two_eR_BagOf_1_c n (l, (), ()) = some (s, (), ()) := by
    by_cases h1 : l.length ≤ 1
    · refine ⟨l, List.Perm.refl _, ?_, ?_⟩
      · cases l with
        | nil => exact List.Pairwise.nil
        | cons c t =>
          obtain rfl : t = [] := List.length_eq_zero_iff.1 (by rw [List.length_cons] at h1; omega)
          exact List.pairwise_singleton _ _
      · show ssN _ (l, (), ()) = _
        unfold ssN
        dsimp only
        rw [Nat.ble_eq_true_of_le h1]
        rfl
    · refine ⟨s, s1, s2, ?_⟩
      show ssN (sort_stable_func_two_eR_BagOf_1_c n) (l, (), ()) = _
      rw [ss_eq n l (by omega) (by omega), s3]
      rfl
  obtain ⟨s, s1, s2, s3⟩ := hsort
  have ls := s1.length_eq
  unfold eR_BagOf
  dsimp only
  rw [clone_ok l (by omega), Option.bind_some]
  dsimp only
  rw [s3, Option.bind_some]
  dsimp only
  have := bo_out2 n K M hM (by omega) (fun (o25, _) => some (o25, ())) (fun _ => none) s (fun c hc => hD c (s1.mem_iff.1 hc)) (by omega) (by omega) (by rw [ls]; exact hMl) s.length s [] [] n (Nat.le_refl _) rfl (by omega) (by simp; omega)
  have e0 : ((([] : List Cnt).length : Nat) : Int) = 0 := rfl
  rw [e0] at this
  refine ⟨(runs s).filter nz, this, ⟨(strict_runs _ s (Nat.le_refl _) s2).sublist (List.filter_sublist ..), fun c hc => ?_⟩, fun w => ?_, fun c hc => ?_⟩
  · have := (List.mem_filter.1 hc).2
    unfold nz at this
    simpa using this
  · rw [cf_filter, cf_runs w _ s (Nat.le_refl _), cf_perm w s1]
  · obtain ⟨x, hx, e⟩ := runs_rows _ s (Nat.le_refl _) c (List.mem_filter.1 hc).1
    exact ⟨x, s1.mem_iff.1 hx, e⟩
end Pure

/- Any rows make the bag that the document says: the plain law. No program. -/
namespace Pure
open Esp Ev Go
set_option linter.unusedSimpArgs false
set_option linter.unusedVariables false

theorem roomX {n b : Nat} (h : n ≤ 2000000) (hb : b ≤ 1000) : room n b = true := by
  unfold room
  rw [Bool.and_eq_true]
  exact ⟨Nat.ble_eq_true_of_le (by omega), Nat.ble_eq_true_of_le (by have : n * b ≤ 2000000 * 1000 := Nat.mul_le_mul h hb; omega)⟩
theorem sum_mem {α : Type} {f : α → Nat} : ∀ {l : List α} {x : α}, x ∈ l → f x ≤ sumOn f l
  | y :: r, x, h => by
    simp only [sumOn]
    rcases List.mem_cons.1 h with rfl | h
    · omega
    · have := sum_mem (f := f) h; omega
theorem sum_len {α : Type} {f : α → Nat} (hf : ∀ x, 1 ≤ f x) : ∀ l : List α, l.length ≤ sumOn f l
  | [] => Nat.zero_le _
  | y :: r => by
    have := sum_len hf r
    have := hf y
    simp only [sumOn, List.length_cons]
    omega
theorem vBulk_pos : ∀ v : Val, 1 ≤ vBulk v
  | .mk _ _ _ l => by rw [vBulk]; omega
theorem lSz_le {l : List Val} (h : ∀ x ∈ l, vSz x + 1 ≤ vBulk x) : lSz l ≤ sumOn vBulk l := by
  induction l with
  | nil => exact Nat.zero_le _
  | cons x r ih =>
    have h1 := h x (by simp)
    have h2 := ih fun y hy => h y (by simp [hy])
    rw [lSz]
    simp only [sumOn]
    omega
theorem vSz_le (v : Val) : vSz v + 1 ≤ vBulk v := by
  induction v using val_ind with
  | _ k a s l ih =>
    have := lSz_le ih
    rw [vSz, vBulk, vBulks_eq]
    omega
theorem copy_foldX {ρ : Type} (self : Val × Unit → Option (Val × Unit)) (k : List Val → Option ρ) : ∀ (r p : List Val) (i : Int), (∀ x ∈ r, self (x, ()) = some (x, ())) → p.length + r.length ≤ 2000000 →
    foldK (fun (i : Int) (x : Val) (s : List Val) (rec : List Val → Option ρ) => (self (x, ())).bind fun y => ck (room (s ++ ([y.1] : List Val)).length 56) (rec (s ++ ([y.1] : List Val)))) k i r p = k (p ++ r)
  | [], p, i, _, _ => by simp [foldK]
  | x :: r, p, i, h, hl => by
    rw [foldK, h x (by simp), Option.bind_some]
    dsimp only
    rw [ck_ok (roomX (by simp at hl ⊢; omega) (by omega)), copy_foldX self k r (p ++ [x]) (i + 1) (fun y hy => h y (by simp [hy])) (by simp at hl ⊢; omega)]
    simp
theorem copy_any (v : Val) : ∀ n : Nat, vBulk v ≤ 2000000 → vBulk v + 1 ≤ n → value_Copy n (v, ()) = some (v, ()) := by
  induction v using val_ind with
  | _ k a s l ih =>
    intro n hb hn
    obtain ⟨m, rfl⟩ : ∃ m, n = m + 1 := ⟨n - 1, by omega⟩
    rw [vBulk, vBulks_eq] at hb hn
    have hl := sum_len vBulk_pos l
    have hs : ∀ x ∈ l, value_Copy m (x, ()) = some (x, ()) := fun x hx => by
      have := sum_mem (f := vBulk) hx
      exact ih x hx m (by omega) (by omega)
    rw [value_Copy]
    unfold value_Copy_b
    dsimp +instances only [kind_mk, n_mk, s_mk, l_mk]
    refine (range_list l (fun i (s0 : List Val) => (l, (l.length : Int), i, (k, a, s, ()), ((Ev.Val.mk 0 0 (⟨#[]⟩ : ByteArray) ([] : List Ev.Val)), ()), s0, ())) _ (fun (i : Int) (x : Val) (s : List Val) rec => (value_Copy m (x, ())).bind fun y => ck (room (s ++ ([y.1] : List Val)).length 56) (rec (s ++ ([y.1] : List Val)))) (fun s0 => some (.mk k a s s0, ()))
      (fun rec i s => by simp only [value_Copy_s0, Val.eta]) (by omega) m [] (by omega)).trans ?_
    rw [copy_foldX _ _ l [] 0 hs (by simp; omega)]
    rfl
theorem copyRow_any (l : List Val) (n : Nat) (hb : sumOn vBulk l ≤ 2000000) (hn : sumOn vBulk l + 2 ≤ n) : bag_CopyRow n (l, ()) = some (l, ()) := by
  have hl := sum_len vBulk_pos l
  unfold bag_CopyRow
  dsimp only
  rw [R_bag_CopyRow_s0 n _ _ l n [] (by omega) (by omega)]
  have key : ∀ (r p : List Val) (i : Int), (∀ x ∈ r, vBulk x ≤ sumOn vBulk l) → p.length + r.length ≤ 2000000 → foldK (F_bag_CopyRow_s0 n (fun _ => none)) (fun s => some (s.1, ())) i r (p, ()) = some (p ++ r, ()) := by
    intro r
    induction r with
    | nil => intro p i _ _; simp [foldK]
    | cons x r ih =>
      intro p i hx hl
      have h1 := hx x (by simp)
      rw [foldK]
      unfold F_bag_CopyRow_s0
      dsimp only
      rw [Val.eta, copy_any x n (by omega) (by omega), Option.bind_some]
      dsimp only
      rw [Val.eta, ck_ok (roomX (by simp at hl ⊢; omega) (by omega))]
      refine (ih (p ++ [x]) (i + 1) (fun y hy => hx y (by simp [hy])) (by simp at hl ⊢; omega)).trans ?_
      simp
  exact key l [] 0 (fun x hx => sum_mem hx) (by simp; omega)
/-- each row once -/
def one (l : List (List Val)) : List Cnt := l.map fun r => ⟨r, 1⟩
theorem of_fold (n : Nat) {ρ : Type} (kr : Unit → Option ρ) (K : List Cnt × Unit → Option ρ) : ∀ (r : List (List Val)) (acc : List Cnt) (i : Int), acc.length + r.length ≤ 100000 → foldK (F_bag_Of_s0 n kr) K i r (acc, ()) = K (acc ++ one r, ()) := by
  intro r
  induction r with
  | nil => intro acc i _; simp [foldK, one]
  | cons x r ih =>
    intro acc i hl
    rw [foldK]
    generalize hR : foldK (F_bag_Of_s0 n kr) K (i + 1) r = R
    unfold F_bag_Of_s0
    dsimp only
    rw [ck_ok (roomB (by simp at hl ⊢; omega) (by omega))]
    subst hR
    refine (ih (acc ++ [⟨x, 1⟩]) (i + 1) (by simp at hl ⊢; omega)).trans ?_
    simp [one]
theorem rof_fold (n : Nat) {ρ : Type} (kr : Unit → Option ρ) (v6 : List Cnt) (v7 : Int) (K : List Cnt × Int × List Cnt × Unit → Option ρ) : ∀ (r : List (List Val)) (acc : List Cnt) (i : Int), acc.length + r.length ≤ 100000 → foldK (F_eL_BagOf_s0 n kr) K i r (v6, v7, acc, ()) = K (v6, v7, acc ++ one r, ()) := by
  intro r
  induction r with
  | nil => intro acc i _; simp [foldK, one]
  | cons x r ih =>
    intro acc i hl
    rw [foldK]
    generalize hR : foldK (F_eL_BagOf_s0 n kr) K (i + 1) r = R
    unfold F_eL_BagOf_s0
    dsimp only
    rw [ck_ok (roomB (by simp at hl ⊢; omega) (by omega))]
    subst hR
    refine (ih (acc ++ [⟨x, 1⟩]) (i + 1) (by simp at hl ⊢; omega)).trans ?_
    simp [one]
theorem BagOf_ok (l : List (List Val)) (hv : ∀ r ∈ l, ∀ v ∈ r, vOk v) (hb : sumOn (fun r => sumOn vBulk r + 1) l ≤ 1500000) (n : Nat) (hn : 100000000000 ≤ n) : eL_BagOf n (l, ()) = some (true, ()) := by
  have hbg := bagged_ok n (by omega)
  have eb : (!true) = false := rfl
  have hll := sum_len (f := fun r : List Val => sumOn vBulk r + 1) (fun _ => by omega) l
  unfold eL_BagOf
  dsimp only
  cases h1 : decide ((l.length : Int) > 2000) with
  | true =>
    have e : bag_Of n (l, ()) = some ([], 2, ()) := by unfold bag_Of; dsimp only; rw [h1]; rfl
    rw [e, Option.bind_some]
    dsimp only
    rw [hbg, Option.bind_some]
    rfl
  | false =>
    have hl : l.length ≤ 2000 := by have := of_decide_eq_false h1; omega
    have lo : (one l).length = l.length := by unfold one; simp
    have hrow : ∀ c ∈ one l, DR2 1500006 c ∧ -1 ≤ c.n ∧ c.n ≤ 1 := fun c hc => by
      obtain ⟨r, hr, rfl⟩ := List.mem_map.1 hc
      have h2 := sum_mem (f := fun r : List Val => sumOn vBulk r + 1) hr
      have h3 := sum_len vBulk_pos r
      have h4 : lSz r ≤ sumOn vBulk r := lSz_le fun x _ => vSz_le x
      exact ⟨⟨by show r.length ≤ 2000000; omega, hv r hr, by show lSz r + 6 ≤ _; omega⟩, by show (-1 : Int) ≤ 1; omega, by show (1 : Int) ≤ 1; omega⟩
    have hcp : ∀ c ∈ one l, bag_CopyRow n (c.r, ()) = some (c.r, ()) := fun c hc => by
      obtain ⟨r, hr, rfl⟩ := List.mem_map.1 hc
      have h2 := sum_mem (f := fun r : List Val => sumOn vBulk r + 1) hr
      exact copyRow_any r n (by omega) (by omega)
    obtain ⟨o, o1, o2, o3, o4, o5⟩ := gather_ok2 (one l) n 1500006 1 (by omega) (fun c hc => ⟨(hrow c hc).1, hcp c hc, (hrow c hc).2⟩) (by rw [lo]; omega) (by rw [lo]; omega) (by rw [lo]; omega)
    obtain ⟨o', p1, p2, p3, p4⟩ := rbag_ok2 (one l) n 1500006 1 (by omega) hrow (by rw [lo]; omega) (by rw [lo]; omega) (by rw [lo]; omega)
    have heq : o' = o := cb_eq p2 o2 fun w => by rw [p3, o3]
    subst heq
    have wo : WB o' := fun c hc => by
      obtain ⟨d, hd, e⟩ := o4 c hc
      have h2 := (hrow d hd).1
      refine ⟨⟨by rw [← e]; unfold maxLen; have := h2.1; omega, by rw [← e]; exact h2.2.1⟩, ?_⟩
      have h3 : c.n = cf (one l) c.r := by rw [← o3, cf_strict o2.1 hc]
      have h4 := cf_bound (M := 1) (by omega) c.r (l := one l) fun d hd => (hrow d hd).2
      rw [← h3, lo] at h4
      have hmin : IntKind.i64.min = -9223372036854775808 := rfl
      have hmax : IntKind.i64.max = 9223372036854775807 := rfl
      show (decide (IntKind.i64.min ≤ c.n) && decide (c.n ≤ IntKind.i64.max)) = true
      rw [hmin, hmax, Bool.and_eq_true, decide_eq_true_iff, decide_eq_true_iff]
      omega
    have ro : RB 1500006 o' := fun c hc => by
      obtain ⟨d, hd, e⟩ := o4 c hc
      rw [← e]
      exact (hrow d hd).1.2.2
    have ho : o'.length ≤ 2000 := by rw [lo] at o5; omega
    have hcheck := bcheck2 o' n 1500006 wo ro (by omega) (by omega)
    obtain ⟨y, hy⟩ : ∃ y, (bif bgE o' != 0 then some (([] : List Cnt), bgE o', ()) else some (o', (0 : Int), ())) = some y := by cases bgE o' != 0 <;> exact ⟨_, rfl⟩
    have fin := bags_fin o' n 1500006 wo ro (by omega) (by omega) y hy
    have e : bag_Of n (l, ()) = some y := by
      unfold bag_Of
      dsimp only
      rw [h1, cond_false, R_bag_Of_s0 n _ _ l n [] (by omega) (by omega), of_fold n _ _ l [] 0 (by simp; omega)]
      dsimp only
      rw [List.nil_append, o1, Option.bind_some]
      dsimp only
      rw [hcheck, Option.bind_some]
      dsimp only
      exact hy
    obtain ⟨y1, y2, y3⟩ := y
    dsimp only at fin
    rw [e, Option.bind_some]
    dsimp only
    rw [hbg, Option.bind_some]
    dsimp only
    rw [show ((!true) || false) = false from rfl, cond_false, R_eL_BagOf_s0 n _ _ l n _ _ _ (by omega) (by omega), rof_fold n _ _ _ _ l [] 0 (by simp; omega)]
    dsimp only
    rw [List.nil_append, p1, Option.bind_some]
    dsimp only
    rw [fin]
    rfl
end Pure

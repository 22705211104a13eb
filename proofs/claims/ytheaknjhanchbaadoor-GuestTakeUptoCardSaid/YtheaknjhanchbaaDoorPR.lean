/- Several texts in one (merge.py). -/
import Derived.Test.YtheaknjhanchbaaDoorPSO
import Derived.Test.YtheaknjhanchbaaDoorPCode
import Derived.Test.YtheaknjhanchbaaDoorEvStab
import Derived.Test.YtheaknjhanchbaaDoorPB
import Derived.Test.YtheaknjhanchbaaDoorEvRead
import Derived.Test.YtheaknjhanchbaaDoorPA

/- The reference's sort (sort.SliceStable, with its exchange and its comparison) does what package slices' sort does. No program. -/
namespace Pure
open Esp Ev Go
set_option linter.unusedSimpArgs false
set_option linter.unusedVariables false
set_option linter.unusedSimpArgs false
set_option linter.unusedVariables false

noncomputable def cmpW (n : Nat) : Cnt × Cnt × Unit → Option (Int × Unit) := fun (x, y, _) => eR_CompareRows n (x.r, y.r, ())
def up : List Cnt × Unit → Unit × List Cnt × Unit := fun (o, _) => ((), o, ())
theorem iter_sim {S T ρ ρ' : Type} {u : ρ' → ρ} {f : (S → Option ρ) → S → Option ρ} {g : (T → Option ρ') → T → Option ρ'} (e : T → S) (h : ∀ rec rec', (∀ t, rec (e t) = (rec' t).map u) → ∀ t, f rec (e t) = (g rec' t).map u) : ∀ n t, iterN f n (e t) = (iterN g n t).map u
  | 0, t => rfl
  | n + 1, t => by rw [iterN, iterN]; exact h _ _ (iter_sim e h n) t
theorem mapB {α β γ : Type} (u : β → γ) (x : Option α) (g : α → Option β) : (x.bind g).map u = x.bind fun a => (g a).map u := by cases x <;> rfl
theorem mapC {β γ : Type} (u : β → γ) (b : Bool) (x y : Option β) : (bif b then x else y).map u = bif b then x.map u else y.map u := by cases b <;> rfl
theorem mapS {β γ : Type} (u : β → γ) (x : β) : (some x).map u = some (u x) := rfl
theorem bindM {α β γ : Type} (u : α → β) (x : Option α) (k : β → Option γ) : (x.map u).bind k = x.bind fun a => k (u a) := by cases x <;> rfl
theorem swap_bind {ρ : Type} (o : List Cnt) (i j : Int) (K : List Cnt × Unit → Option ρ) : (swapN (i, j, o, ())).bind K =
    (ix o j).bind fun _ => (o[j.toNat]?).bind fun e20 => (ix o i).bind fun _ => (o[i.toNat]?).bind fun e21 => (ix o i).bind fun _ => (o[i.toNat]?).bind fun e22 => (ix (o.set i.toNat e20) j).bind fun _ => ((o.set i.toNat e20)[j.toNat]?).bind fun e23 => K ((o.set i.toNat e20).set j.toNat e21, ()) := by
  unfold swapN
  dsimp only
  cases hi : ix o i with
  | none =>
    cases hj : ix o j with
    | none => rfl
    | some y =>
      obtain ⟨b, rfl, h2⟩ := ix_inv hj
      simp only [Option.bind_none, Option.bind_some, Int.toNat_natCast, h2]
  | some x =>
    cases hj : ix o j with
    | none => rfl
    | some y =>
      obtain ⟨a, rfl, h1⟩ := ix_inv hi
      obtain ⟨b, rfl, h2⟩ := ix_inv hj
      have hb : b < o.length := (List.getElem?_eq_some_iff.1 h2).1
      have h3 : (o.set a y)[b]? = some ((o.set a y)[b]'(by simpa using hb)) := List.getElem?_eq_getElem _
      simp only [Option.bind_some, Int.toNat_natCast, h1, h2, h3, ix_ok h3]
theorem less_bind {ρ : Type} (n : Nat) (i j : Int) (v : Unit) (o : List Cnt) (K : Bool × Unit × List Cnt × Unit → Option ρ) : (eR_BagOf_1 n (i, j, v, o, ())).bind K =
    (ix o i).bind fun _ => (o[i.toNat]?).bind fun e => (ix o j).bind fun _ => (o[j.toNat]?).bind fun e' => (cmpW n (e, e', ())).bind fun y => K (decide (y.1 < 0), (), o, ()) := by
  unfold eR_BagOf_1 cmpW
  simp only [Option.bind_assoc, Option.bind_some]
def e3 : Int × Int × Int × List Cnt × Unit → Int × Int × Int × Unit × Unit × List Cnt × Unit := fun (a, b, c, o, _) => (a, b, c, (), (), o, ())
def e4 : Int × Int × Int × Int × List Cnt × Unit → Int × Int × Int × Int × Unit × Unit × List Cnt × Unit := fun (a, b, c, d, o, _) => (a, b, c, d, (), (), o, ())
def e2 : Int × Int × List Cnt × Unit → Int × Int × Unit × Unit × List Cnt × Unit := fun (a, b, o, _) => (a, b, (), (), o, ())
def e8 : Int × Int × Int × Int × Int × Int × Int × Int × List Cnt × Unit → Int × Int × Int × Int × Int × Int × Int × Int × Unit × Unit × List Cnt × Unit := fun (a, b, c, d, e, f, g, h, o, _) => (a, b, c, d, e, f, g, h, (), (), o, ())

/-! ## insertion -/
theorem ins2 {ρ ρ' : Type} {u : ρ' → ρ} (n : Nat) {rec kx kr rec' kx' kr'} (hrec : ∀ t, rec (e4 t) = (rec' t).map u) (hkx : ∀ a b c o, kx (a, b, c, (), (), o, ()) = (kx' (a, b, c, o, ())).map u) : ∀ t, sort_insertionSort_func_two_eR_BagOf_1_c_s2 (ρ := ρ) n rec kx kr (e4 t) = (G_insertionSort_s2 (ρ := ρ') cmpW n rec' kx' kr' t).map u := by
  rintro ⟨a, b, c, d, o, _⟩
  have hr := fun a b c d o => hrec (a, b, c, d, o, ())
  simp only [e4] at hr
  unfold sort_insertionSort_func_two_eR_BagOf_1_c_s2 G_insertionSort_s2 e4
  simp only [less_bind, swap_bind, mapB, mapC, hr, hkx]
theorem ins0 {ρ ρ' : Type} {u : ρ' → ρ} (n : Nat) {rec kx kr rec' kx' kr'} (hrec : ∀ t, rec (e3 t) = (rec' t).map u) (hkx : ∀ o, kx ((), o, ()) = (kx' (o, ())).map u) : ∀ t, sort_insertionSort_func_two_eR_BagOf_1_c_s0 (ρ := ρ) n rec kx kr (e3 t) = (G_insertionSort_s0 (ρ := ρ') cmpW n rec' kx' kr' t).map u := by
  rintro ⟨a, b, c, o, _⟩
  have hr := fun a b c o => hrec (a, b, c, o, ())
  simp only [e3] at hr
  unfold sort_insertionSort_func_two_eR_BagOf_1_c_s0 G_insertionSort_s0 e3
  simp only [mapC, hkx]
  congr 1
  refine iter_sim e4 (fun r r' h t => ?_) n (a, b, c, c, o, ())
  refine ins2 n h (fun a b c o => ?_) t
  exact hr _ _ _ _
theorem ins_eq (n : Nat) (a b : Int) (v : Unit) (o : List Cnt) : sort_insertionSort_func_two_eR_BagOf_1_c n (a, b, v, o, ()) = (G_insertionSort cmpW n (a, b, o, ())).map up := by
  unfold sort_insertionSort_func_two_eR_BagOf_1_c G_insertionSort
  refine iter_sim e3 (fun r r' h t => ?_) n (a, b, _, o, ())
  exact ins0 n h (fun o => rfl) t
/-! ## rotation -/
theorem swr0 {ρ ρ' : Type} {u : ρ' → ρ} (n : Nat) {rec kx kr rec' kx' kr'} (hrec : ∀ t, rec (e4 t) = (rec' t).map u) (hkx : ∀ o, kx ((), o, ()) = (kx' (o, ())).map u) : ∀ t, sort_swapRange_func_two_eR_BagOf_1_c_s0 (ρ := ρ) n rec kx kr (e4 t) = (G_swapRange_s0 (ρ := ρ') n rec' kx' kr' t).map u := by
  rintro ⟨a, b, c, d, o, _⟩
  have hr := fun a b c d o => hrec (a, b, c, d, o, ())
  simp only [e4] at hr
  unfold sort_swapRange_func_two_eR_BagOf_1_c_s0 G_swapRange_s0 e4
  simp only [swap_bind, mapB, mapC, hr, hkx]
theorem swr_eq (n : Nat) (a b c : Int) (v : Unit) (o : List Cnt) : sort_swapRange_func_two_eR_BagOf_1_c n (a, b, c, v, o, ()) = (G_swapRange n (a, b, c, o, ())).map up := by
  unfold sort_swapRange_func_two_eR_BagOf_1_c G_swapRange
  refine iter_sim e4 (fun r r' h t => ?_) n (a, b, c, 0, o, ())
  exact swr0 n h (fun o => rfl) t
theorem rot0 {ρ ρ' : Type} {u : ρ' → ρ} (n : Nat) {rec kx kr rec' kx' kr'} (hrec : ∀ t, rec (e3 t) = (rec' t).map u) (hkx : ∀ a b o, kx (a, b, (), (), o, ()) = (kx' (a, b, o, ())).map u) : ∀ t, sort_rotate_func_two_eR_BagOf_1_c_s0 (ρ := ρ) n rec kx kr (e3 t) = (G_rotate_s0 (ρ := ρ') n rec' kx' kr' t).map u := by
  rintro ⟨a, b, c, o, _⟩
  have hr := fun a b c o => hrec (a, b, c, o, ())
  simp only [e3] at hr
  unfold sort_rotate_func_two_eR_BagOf_1_c_s0 G_rotate_s0 e3
  simp only [swr_eq, bindM, up, mapB, mapC, hr, hkx]
theorem rot_eq (n : Nat) (a b c : Int) (v : Unit) (o : List Cnt) : sort_rotate_func_two_eR_BagOf_1_c n (a, b, c, v, o, ()) = (G_rotate n (a, b, c, o, ())).map up := by
  unfold sort_rotate_func_two_eR_BagOf_1_c G_rotate
  refine iter_sim e3 (fun r r' h t => ?_) n (b, _, _, o, ())
  exact rot0 n h (fun a b o => by simp only [swr_eq, bindM, mapB, mapS, up]) t
/-! ## merging -/
section
variable {self : Int × Int × Int × Unit × (List Cnt) × Unit → Option (Unit × (List Cnt) × Unit)} {self' : Int × Int × Int × (List Cnt) × Unit → Option ((List Cnt) × Unit)}
theorem sym0 {ρ ρ' : Type} {u : ρ' → ρ} (n : Nat) {rec kx kr rec' kx' kr'} (hrec : ∀ t, rec (e3 t) = (rec' t).map u) (hkx : ∀ a b o, kx (a, b, (), (), o, ()) = (kx' (a, b, o, ())).map u) : ∀ t, sort_symMerge_func_two_eR_BagOf_1_c_s0 (ρ := ρ) self n rec kx kr (e3 t) = (G_symMerge_s0 (ρ := ρ') cmpW self' n rec' kx' kr' t).map u := by
  rintro ⟨a, b, c, o, _⟩
  have hr := fun a b c o => hrec (a, b, c, o, ())
  simp only [e3] at hr
  unfold sort_symMerge_func_two_eR_BagOf_1_c_s0 G_symMerge_s0 e3
  simp only [less_bind, mapB, mapC, hr, hkx]
theorem sym4 {ρ ρ' : Type} {u : ρ' → ρ} (n : Nat) {rec kx kr rec' kx' kr'} (hrec : ∀ t, rec (e3 t) = (rec' t).map u) (hkx : ∀ a b o, kx (a, b, (), (), o, ()) = (kx' (a, b, o, ())).map u) : ∀ t, sort_symMerge_func_two_eR_BagOf_1_c_s4 (ρ := ρ) self n rec kx kr (e3 t) = (G_symMerge_s4 (ρ := ρ') cmpW self' n rec' kx' kr' t).map u := by
  rintro ⟨a, b, c, o, _⟩
  have hr := fun a b c o => hrec (a, b, c, o, ())
  simp only [e3] at hr
  unfold sort_symMerge_func_two_eR_BagOf_1_c_s4 G_symMerge_s4 e3
  simp only [less_bind, mapB, mapC, hr, hkx]
theorem sym2 {ρ ρ' : Type} {u : ρ' → ρ} (n : Nat) {rec kx kr rec' kx' kr'} (hrec : ∀ t, rec (e2 t) = (rec' t).map u) (hkx : ∀ o, kx ((), o, ()) = (kx' (o, ())).map u) : ∀ t, sort_symMerge_func_two_eR_BagOf_1_c_s2 (ρ := ρ) self n rec kx kr (e2 t) = (G_symMerge_s2 (ρ := ρ') self' n rec' kx' kr' t).map u := by
  rintro ⟨a, b, o, _⟩
  have hr := fun a b o => hrec (a, b, o, ())
  simp only [e2] at hr
  unfold sort_symMerge_func_two_eR_BagOf_1_c_s2 G_symMerge_s2 e2
  simp only [swap_bind, mapB, mapC, hr, hkx]
theorem sym6 {ρ ρ' : Type} {u : ρ' → ρ} (n : Nat) {rec kx kr rec' kx' kr'} (hrec : ∀ t, rec (e2 t) = (rec' t).map u) (hkx : ∀ o, kx ((), o, ()) = (kx' (o, ())).map u) : ∀ t, sort_symMerge_func_two_eR_BagOf_1_c_s6 (ρ := ρ) self n rec kx kr (e2 t) = (G_symMerge_s6 (ρ := ρ') self' n rec' kx' kr' t).map u := by
  rintro ⟨a, b, o, _⟩
  have hr := fun a b o => hrec (a, b, o, ())
  simp only [e2] at hr
  unfold sort_symMerge_func_two_eR_BagOf_1_c_s6 G_symMerge_s6 e2
  simp only [swap_bind, mapB, mapC, hr, hkx]
theorem sym8 {ρ ρ' : Type} {u : ρ' → ρ} (n : Nat) {rec kx kr rec' kx' kr'} (hrec : ∀ t, rec (e8 t) = (rec' t).map u) (hkx : ∀ a b c d e f o, kx (a, b, c, d, e, f, (), (), o, ()) = (kx' (a, b, c, d, e, f, o, ())).map u) : ∀ t, sort_symMerge_func_two_eR_BagOf_1_c_s8 (ρ := ρ) self n rec kx kr (e8 t) = (G_symMerge_s8 (ρ := ρ') cmpW self' n rec' kx' kr' t).map u := by
  rintro ⟨a, b, c, d, e, f, g, h, o, _⟩
  have hr := fun a b c d e f g h o => hrec (a, b, c, d, e, f, g, h, o, ())
  simp only [e8] at hr
  unfold sort_symMerge_func_two_eR_BagOf_1_c_s8 G_symMerge_s8 e8
  simp only [less_bind, mapB, mapC, hr, hkx]
theorem symb (n : Nat) (hs : ∀ a b c v o, self (a, b, c, v, o, ()) = (self' (a, b, c, o, ())).map up) (a b c : Int) (v : Unit) (o : List Cnt) : sort_symMerge_func_two_eR_BagOf_1_c_b self n (a, b, c, v, o, ()) = (G_symMerge_b cmpW self' n (a, b, c, o, ())).map up := by
  unfold sort_symMerge_func_two_eR_BagOf_1_c_b G_symMerge_b
  simp only [mapC]
  congr 1
  · refine iter_sim e3 (fun r r' h t => ?_) n (a, b, c, o, ())
    exact sym0 n h (fun a b o => by
    refine iter_sim e2 (fun r r' h t => ?_) n (b, a, o, ())
    exact sym2 n h (fun o => rfl) t) t
  congr 1
  · refine iter_sim e3 (fun r r' h t => ?_) n (b, a, b, o, ())
    exact sym4 n h (fun a b o => by
    refine iter_sim e2 (fun r r' h t => ?_) n (b, a, o, ())
    exact sym6 n h (fun o => rfl) t) t
  congr 1
  · refine iter_sim e8 (fun r r' h t => ?_) n (a, b, c, _, _, _, _, _, o, ())
    exact sym8 n h (fun a b c d e f o => by simp only [rot_eq, hs, bindM, mapB, mapC, mapS, up]) t
  · refine iter_sim e8 (fun r r' h t => ?_) n (a, b, c, _, _, _, _, _, o, ())
    exact sym8 n h (fun a b c d e f o => by simp only [rot_eq, hs, bindM, mapB, mapC, mapS, up]) t
end
theorem sym_eq : ∀ (n : Nat) (a b c : Int) (v : Unit) (o : List Cnt), sort_symMerge_func_two_eR_BagOf_1_c n (a, b, c, v, o, ()) = (G_symMerge cmpW n (a, b, c, o, ())).map up
  | 0, _, _, _, _, _ => rfl
  | n + 1, a, b, c, v, o => by
    rw [sort_symMerge_func_two_eR_BagOf_1_c, G_symMerge]
    exact symb n (sym_eq n) a b c v o
/-! ## the whole -/
theorem st0 {ρ ρ' : Type} {u : ρ' → ρ} (n : Nat) {rec kx kr rec' kx' kr'} (hrec : ∀ t, rec (e4 t) = (rec' t).map u) (hkx : ∀ a b c o, kx (a, b, c, (), (), o, ()) = (kx' (a, b, c, o, ())).map u) : ∀ t, sort_stable_func_two_eR_BagOf_1_c_s0 (ρ := ρ) n rec kx kr (e4 t) = (G_stable_s0 (ρ := ρ') cmpW n rec' kx' kr' t).map u := by
  rintro ⟨a, b, c, d, o, _⟩
  have hr := fun a b c d o => hrec (a, b, c, d, o, ())
  simp only [e4] at hr
  unfold sort_stable_func_two_eR_BagOf_1_c_s0 G_stable_s0 e4
  simp only [ins_eq, bindM, up, mapB, mapC, hr, hkx]
theorem st4 {ρ ρ' : Type} {u : ρ' → ρ} (n : Nat) {rec kx kr rec' kx' kr'} (hrec : ∀ t, rec (e4 t) = (rec' t).map u) (hkx : ∀ a b c o, kx (a, b, c, (), (), o, ()) = (kx' (a, b, c, o, ())).map u) : ∀ t, sort_stable_func_two_eR_BagOf_1_c_s4 (ρ := ρ) n rec kx kr (e4 t) = (G_stable_s4 (ρ := ρ') cmpW n rec' kx' kr' t).map u := by
  rintro ⟨a, b, c, d, o, _⟩
  have hr := fun a b c d o => hrec (a, b, c, d, o, ())
  simp only [e4] at hr
  unfold sort_stable_func_two_eR_BagOf_1_c_s4 G_stable_s4 e4
  simp only [sym_eq, bindM, up, mapB, mapC, hr, hkx]
theorem st2 {ρ ρ' : Type} {u : ρ' → ρ} (n : Nat) {rec kx kr rec' kx' kr'} (hrec : ∀ t, rec (e2 t) = (rec' t).map u) (hkx : ∀ o, kx ((), o, ()) = (kx' (o, ())).map u) : ∀ t, sort_stable_func_two_eR_BagOf_1_c_s2 (ρ := ρ) n rec kx kr (e2 t) = (G_stable_s2 (ρ := ρ') cmpW n rec' kx' kr' t).map u := by
  rintro ⟨a, b, o, _⟩
  have hr := fun a b o => hrec (a, b, o, ())
  simp only [e2] at hr
  unfold sort_stable_func_two_eR_BagOf_1_c_s2 G_stable_s2 e2
  simp only [mapC, hkx]
  congr 1
  refine iter_sim e4 (fun r r' h t => ?_) n (a, b, 0, _, o, ())
  exact st4 n h (fun a b c o => by simp only [sym_eq, bindM, mapB, mapC, hr, up]) t
theorem stb_eq (n : Nat) (a : Int) (v : Unit) (o : List Cnt) : sort_stable_func_two_eR_BagOf_1_c n (a, v, o, ()) = (G_stable cmpW n (a, o, ())).map up := by
  unfold sort_stable_func_two_eR_BagOf_1_c G_stable
  refine iter_sim e4 (fun r r' h t => ?_) n (a, 20, 0, 20, o, ())
  refine st0 n h (fun a b c o => ?_) t
  simp only [ins_eq, bindM, mapB, up]
  congr 1
  funext q
  refine iter_sim e2 (fun r r' h t => ?_) n (a, b, q.1, ())
  exact st2 n h (fun o => rfl) t
/-- the sort of the reference -/
theorem ss_eq (n : Nat) (l : List Cnt) (hl : 2 ≤ l.length) (hm : l.length ≤ 4000000000000000000) : ssN (sort_stable_func_two_eR_BagOf_1_c n) (l, (), ()) = (G_SortStableFunc cmpW n (l, ())).map fun p => (p.1, (), ()) := by
  unfold ssN G_SortStableFunc
  have h1 : Nat.ble l.length 1 = false := by
    cases h : Nat.ble l.length 1 with
    | true => have := Nat.le_of_ble_eq_true h; omega
    | false => rfl
  simp only [h1, cond_false, Nat.ble_eq_true_of_le hm, cond_true, stb_eq, bindM, mapB, mapS, up]
end Pure


/- The reference's bag of rows, plain. No program. -/
namespace Pure
open Esp Ev Go
set_option linter.unusedSimpArgs false
set_option linter.unusedVariables false

theorem cmpW_ok (K : Nat) : Cmp cmpW rc (DR K) K where
  ok n hn x y hx hy := by
    show eR_CompareRows n (x.r, y.r, ()) = _
    rw [rcompare_ok x.r y.r n (by unfold maxLen; have := hx.1; omega) hx.2.1 (by have := hx.2.2; omega)]
    rfl
  asy := (cmpR K).asy
  tr := (cmpR K).tr
def eqr (r : List Val) (d : Cnt) : Bool := ordL d.r r == 0
def sumN : List Cnt → Int
  | [] => 0
  | c :: l => c.n + sumN l
/-- equal rows, one behind the other, gathered -/
def runs : List Cnt → List Cnt
  | [] => []
  | c :: t => ⟨c.r, c.n + sumN (t.takeWhile (eqr c.r))⟩ :: runs (t.dropWhile (eqr c.r))
termination_by l => l.length
decreasing_by
  have : (t.dropWhile (eqr c.r)).length ≤ t.length := (List.dropWhile_sublist _).length_le
  simp only [List.length_cons]
  omega
theorem cf_tw (r w : List Val) : ∀ t : List Cnt, cf (t.takeWhile (eqr r)) w = bif ordL r w == 0 then sumN (t.takeWhile (eqr r)) else 0
  | [] => by simp [cf, sumN]
  | d :: t => by
    rw [List.takeWhile_cons]
    cases h : eqr r d with
    | false => simp [cf, sumN]
    | true =>
      have e : d.r = r := (row_beq _ _).1 h
      simp only [if_true]
      rw [cf, sumN, cf_tw r w t, e]
      cases ordL r w == 0 <;> simp only [cond_true, cond_false] <;> omega
theorem cf_runs (w : List Val) : ∀ (k : Nat) (l : List Cnt), l.length ≤ k → cf (runs l) w = cf l w
  | 0, l, h => by
    obtain rfl : l = [] := List.length_eq_zero_iff.1 (by omega)
    rw [runs]
  | k + 1, [], _ => by rw [runs]
  | k + 1, c :: t, h => by
    have hl : (t.dropWhile (eqr c.r)).length ≤ t.length := (List.dropWhile_sublist _).length_le
    rw [runs, cf, cf_runs w k _ (by simp at h; omega)]
    have e := cf_tw c.r w t
    have e2 : cf t w = cf (t.takeWhile (eqr c.r)) w + cf (t.dropWhile (eqr c.r)) w := by rw [← cf_append, List.takeWhile_append_dropWhile]
    rw [cf, e2, e]
    dsimp only
    cases ordL c.r w == 0 <;> simp only [cond_true, cond_false] <;> omega
theorem runs_rows : ∀ (k : Nat) (l : List Cnt), l.length ≤ k → ∀ d ∈ runs l, ∃ x ∈ l, x.r = d.r
  | 0, l, h, d, hd => by
    obtain rfl : l = [] := List.length_eq_zero_iff.1 (by omega)
    rw [runs] at hd; cases hd
  | k + 1, [], _, d, hd => by rw [runs] at hd; cases hd
  | k + 1, c :: t, h, d, hd => by
    have hl : (t.dropWhile (eqr c.r)).length ≤ t.length := (List.dropWhile_sublist _).length_le
    rw [runs] at hd
    rcases List.mem_cons.1 hd with rfl | hd
    · exact ⟨c, by simp, rfl⟩
    · obtain ⟨x, hx, e⟩ := runs_rows k _ (by simp at h; omega) d hd
      exact ⟨x, List.mem_cons_of_mem _ ((List.dropWhile_sublist _).mem hx), e⟩
theorem drop_lt {r : List Val} : ∀ {t : List Cnt}, Sorted rc t → (∀ d ∈ t, ¬ ordL d.r r < 0) → ∀ d ∈ t.dropWhile (eqr r), ordL r d.r < 0
  | [], _, _, d, hd => by cases hd
  | x :: t, hs, hr, d, hd => by
    obtain ⟨h1, h2⟩ := List.pairwise_cons.1 hs
    rw [List.dropWhile_cons] at hd
    cases h : eqr r x with
    | true => rw [h] at hd; exact drop_lt h2 (fun d hd => hr d (by simp [hd])) d hd
    | false =>
      rw [h] at hd
      have hx : ordL r x.r < 0 := by
        have a := hr x (by simp)
        have b : ordL x.r r ≠ 0 := by unfold eqr at h; simpa using h
        rw [ordL_neg x.r r]
        omega
      rcases List.mem_cons.1 hd with rfl | hd
      · exact hx
      · have h3 := h1 d hd
        have h4 : ¬ ordL d.r x.r < 0 := h3
        rw [ordL_neg x.r d.r] at h4
        rcases Int.lt_or_eq_of_le (show ordL x.r d.r ≤ 0 by omega) with h5 | h5
        · exact ordL_trans hx h5
        · rw [← (ordL_zero _ _).1 h5]; exact hx
theorem strict_runs : ∀ (k : Nat) (l : List Cnt), l.length ≤ k → Sorted rc l → Strict (runs l)
  | 0, l, h, _ => by
    obtain rfl : l = [] := List.length_eq_zero_iff.1 (by omega)
    rw [runs]; exact List.Pairwise.nil
  | k + 1, [], _, _ => by rw [runs]; exact List.Pairwise.nil
  | k + 1, c :: t, h, hs => by
    obtain ⟨h1, h2⟩ := List.pairwise_cons.1 hs
    have hl : (t.dropWhile (eqr c.r)).length ≤ t.length := (List.dropWhile_sublist _).length_le
    rw [runs]
    refine List.pairwise_cons.2 ⟨fun d hd => ?_, strict_runs k _ (by simp at h; omega) (h2.sublist (List.dropWhile_sublist _))⟩
    obtain ⟨x, hx, e⟩ := runs_rows _ _ (Nat.le_refl _) d hd
    rw [← e]
    exact drop_lt h2 (fun d hd => h1 d hd) x hx
theorem sum_bound {M : Int} (hM : 0 ≤ M) : ∀ {l : List Cnt}, (∀ c ∈ l, -M ≤ c.n ∧ c.n ≤ M) → -((l.length : Int) * M) ≤ sumN l ∧ sumN l ≤ (l.length : Int) * M
  | [], _ => by simp [sumN]
  | c :: l, h => by
    have h1 := h c (by simp)
    have h2 := sum_bound hM (l := l) fun d hd => h d (by simp [hd])
    have e : ((c :: l).length : Int) * M = (l.length : Int) * M + M := by rw [List.length_cons]; push_cast; rw [Int.add_mul, Int.one_mul]
    rw [e, sumN]
    generalize (l.length : Int) * M = q at *
    omega
/-- equal rows are added up -/
theorem bo_in {ρ : Type} (n K : Nat) (M : Int) (hM : 0 ≤ M) (hn : K ≤ n) (kx : Int × Unit × (List Cnt) × (Cnt × Unit) × (List Cnt) × Unit → Option ρ) (kr : Unit → Option ρ) (s : List Cnt) (hs : ∀ c ∈ s, DR K c ∧ -M ≤ c.n ∧ c.n ≤ M) (hsl : s.length ≤ 100000) (out : List Cnt) (r : List Val) :
    ∀ (t p : List Cnt) (acc : Int) (fuel : Nat), s = p ++ t → t.length < fuel → -9000000000000000000 ≤ acc - (t.length : Int) * M → acc + (t.length : Int) * M ≤ 9000000000000000000 →
      iterN (fun rc => eR_BagOf_s2 n rc kx kr) fuel ((p.length : Int), (), out, (⟨r, acc⟩, ()), s, ()) = kx (((p.length + (t.takeWhile (eqr r)).length : Nat) : Int), (), out, (⟨r, acc + sumN (t.takeWhile (eqr r))⟩, ()), s, ()) := by
  intro t
  induction t with
  | nil =>
    intro p acc fuel hp hf _ _
    obtain ⟨f, rfl⟩ : ∃ f, fuel = f + 1 := ⟨fuel - 1, by omega⟩
    rw [iterN]
    unfold eR_BagOf_s2
    dsimp only
    rw [decide_eq_false (show ¬ (p.length : Int) < (s.length : Int) by subst hp; simp), cond_false]
    simp [sumN]
  | cons x t ih =>
    intro p acc fuel hp hf h0 h1
    obtain ⟨f, rfl⟩ : ∃ f, fuel = f + 1 := ⟨fuel - 1, by omega⟩
    have hx := hs x (by rw [hp]; simp)
    have hlen : s.length = p.length + (t.length + 1) := by rw [hp]; simp
    have hix : ix s (p.length : Int) = some x := ix_ok (by rw [hp]; simp)
    have hg : s[((p.length : Int)).toNat]? = some x := by rw [Int.toNat_natCast, hp]; simp
    have e : ((x :: t).length : Int) * M = (t.length : Int) * M + M := by rw [List.length_cons]; push_cast; rw [Int.add_mul, Int.one_mul]
    rw [e] at h0 h1
    have hq : 0 ≤ (t.length : Int) * M := Int.mul_nonneg (by omega) hM
    have ih2 := ih (p ++ [x]) (acc + x.n) f (by rw [hp]; simp) (by simp at hf; omega)
      (by generalize (t.length : Int) * M = q at *; omega) (by generalize (t.length : Int) * M = q at *; omega)
    rw [List.length_append, List.length_singleton] at ih2
    rw [iterN]
    generalize iterN (fun rc => eR_BagOf_s2 n rc kx kr) f = R at ih2 ⊢
    unfold eR_BagOf_s2
    dsimp only
    rw [decide_eq_true (show (p.length : Int) < (s.length : Int) by omega), cond_true, hix, Option.bind_some, hg, Option.bind_some, rcompare_ok x.r r n (by unfold maxLen; have := hx.1.1; omega) hx.1.2.1 (by have := hx.1.2.2; omega), Option.bind_some]
    dsimp only
    rw [List.takeWhile_cons]
    cases h : eqr r x with
    | false =>
      have h' : (ordL x.r r == 0) = false := h
      rw [h', cond_false]
      simp [sumN]
    | true =>
      have h' : (ordL x.r r == 0) = true := h
      rw [h', cond_true, Option.bind_some, Option.bind_some]
      rw [wrap64 (by omega) (by omega), wrap64 (by generalize (t.length : Int) * M = q at *; omega) (by generalize (t.length : Int) * M = q at *; omega)]
      rw [show ((p.length : Int) + 1) = ((p.length + 1 : Nat) : Int) by omega, ih2]
      simp only [if_true, sumN, List.length_cons]
      rw [show p.length + 1 + (t.takeWhile (eqr r)).length = p.length + ((t.takeWhile (eqr r)).length + 1) by omega, Int.add_assoc]
theorem tw_split (p t : List Cnt) (r : List Val) : p ++ t = (p ++ t.takeWhile (eqr r)) ++ t.dropWhile (eqr r) := by rw [List.append_assoc, List.takeWhile_append_dropWhile]
theorem bo_out (n K : Nat) (M : Int) (hM : 0 ≤ M) (hn : K ≤ n) (kx : (List Cnt) × Unit → Option (List Cnt × Unit)) (kr : Unit → Option (List Cnt × Unit)) (s : List Cnt) (hs : ∀ c ∈ s, DR K c ∧ -M ≤ c.n ∧ c.n ≤ M) (hsl : s.length ≤ 20000) (hn2 : s.length < n) (hMl : (s.length : Int) * M ≤ 9000000000000000000) :
    ∀ (k : Nat) (t p out : List Cnt) (fuel : Nat), t.length ≤ k → s = p ++ t → t.length < fuel → out.length + t.length ≤ 20000 →
      iterN (fun rc => eR_BagOf_s0 n rc kx kr) fuel ((p.length : Int), (), out, s, ()) = kx (out ++ (runs t).filter nz, ()) := by
  intro k
  have last : ∀ (p out : List Cnt) (fuel : Nat), s = p → 0 < fuel → iterN (fun rc => eR_BagOf_s0 n rc kx kr) fuel ((p.length : Int), (), out, s, ()) = kx (out ++ (runs []).filter nz, ()) := by
    intro p out fuel hp hf
    obtain ⟨f, rfl⟩ : ∃ f, fuel = f + 1 := ⟨fuel - 1, by omega⟩
    rw [iterN]
    unfold eR_BagOf_s0
    dsimp only
    rw [decide_eq_false (show ¬ (p.length : Int) < (s.length : Int) by subst hp; omega), cond_false, runs]
    simp
  induction k with
  | zero =>
    intro t p out fuel hk hp hf ho
    obtain rfl : t = [] := List.length_eq_zero_iff.1 (by omega)
    exact last p out fuel (by simpa using hp) (by omega)
  | succ k ih =>
    intro t p out fuel hk hp hf ho
    cases t with
    | nil => exact last p out fuel (by simpa using hp) (by omega)
    | cons c t =>
    obtain ⟨f, rfl⟩ : ∃ f, fuel = f + 1 := ⟨fuel - 1, by omega⟩
    have hlen : s.length = p.length + (t.length + 1) := by rw [hp]; simp
    have hix : ix s (p.length : Int) = some c := ix_ok (by rw [hp]; simp)
    have hg : s[((p.length : Int)).toNat]? = some c := by rw [Int.toNat_natCast, hp]; simp
    have hdl : (t.dropWhile (eqr c.r)).length ≤ t.length := (List.dropWhile_sublist _).length_le
    have htl := congrArg List.length (List.takeWhile_append_dropWhile (p := eqr c.r) (l := t))
    rw [List.length_append] at htl
    have hcc : eqr c.r c = true := (row_beq _ _).2 rfl
    have htw : (c :: t).takeWhile (eqr c.r) = c :: t.takeWhile (eqr c.r) := by
      rw [List.takeWhile_cons, if_pos hcc]
    have hdw : (c :: t).dropWhile (eqr c.r) = t.dropWhile (eqr c.r) := by
      rw [List.dropWhile_cons, if_pos hcc]
    have hsp : s = (p ++ (c :: t.takeWhile (eqr c.r))) ++ t.dropWhile (eqr c.r) := by
      rw [hp, ← htw, ← hdw, List.append_assoc, List.takeWhile_append_dropWhile]
    have hb : ((c :: t).length : Int) * M ≤ 9000000000000000000 := by
      have : ((c :: t).length : Int) * M ≤ (s.length : Int) * M := Int.mul_le_mul_of_nonneg_right (by rw [hlen, List.length_cons]; omega) hM
      omega
    have hin := fun K' kr' => bo_in (ρ := List Cnt × Unit) n K M hM hn K' kr' s hs (by omega) out c.r (c :: t) p 0 n hp (by simp; omega) (by omega) (by omega)
    have ihf := fun out' ho' => ih (t.dropWhile (eqr c.r)) (p ++ (c :: t.takeWhile (eqr c.r))) out' f (by simp at hk; omega) hsp (by simp at hf; omega) ho'
    rw [iterN]
    generalize iterN (fun rc => eR_BagOf_s0 n rc kx kr) f = R at ihf ⊢
    unfold eR_BagOf_s0
    dsimp only
    rw [decide_eq_true (show (p.length : Int) < (s.length : Int) by omega), cond_true, hix, Option.bind_some, hg, Option.bind_some, hin]
    dsimp only
    rw [htw, sumN, Int.zero_add, runs, List.filter_cons]
    have hpl : ((p.length + (c :: t.takeWhile (eqr c.r)).length : Nat) : Int) = (((p ++ (c :: t.takeWhile (eqr c.r))).length : Nat) : Int) := by rw [List.length_append]
    rw [hpl]
    cases hz : c.n + sumN (t.takeWhile (eqr c.r)) == 0 with
    | true =>
      have h1 : nz ⟨c.r, c.n + sumN (t.takeWhile (eqr c.r))⟩ = false := by unfold nz; rw [hz]; rfl
      have h2 : (c.n + sumN (t.takeWhile (eqr c.r)) != 0) = false := by unfold bne; rw [hz]; rfl
      rw [h1, h2, cond_false, if_neg (by simp)]
      exact ihf out (by simp at ho; omega)
    | false =>
      have h1 : nz ⟨c.r, c.n + sumN (t.takeWhile (eqr c.r))⟩ = true := by unfold nz; rw [hz]; rfl
      have h2 : (c.n + sumN (t.takeWhile (eqr c.r)) != 0) = true := by unfold bne; rw [hz]; rfl
      rw [h1, h2, cond_true, if_pos rfl, ck_ok (roomB (by simp at ho ⊢; omega) (by omega))]
      refine (ihf _ (by simp at ho ⊢; omega)).trans ?_
      rw [List.append_assoc]
      rfl
theorem rbag_ok (l : List Cnt) (n K : Nat) (M : Int) (hM : 0 ≤ M) (hD : ∀ c ∈ l, DR K c ∧ -M ≤ c.n ∧ c.n ≤ M) (hMl : (l.length : Int) * M ≤ 9000000000000000000) (hl : l.length ≤ 20000) (hn : l.length + K + 1100 ≤ n) :
    ∃ o, eR_BagOf n (l, ()) = some (o, ()) ∧ CB o ∧ (∀ w, cf o w = cf l w) ∧ (∀ c ∈ o, ∃ d ∈ l, d.r = c.r) := by
  obtain ⟨s, s1, s2, s3⟩ := sort_ok (cmpW_ok K) n l (fun z hz => (hD z hz).1) (by omega) (by omega)
  have hsort : ∃ s : List Cnt, s.Perm l ∧ Sorted rc s ∧ ssN_sort_stable_func_two_eR_BagOf_1_c n (l, (), ()) = some (s, (), ()) := by
    by_cases h1 : l.length ≤ 1
    · refine ⟨l, List.Perm.refl _, ?_, ?_⟩
      · cases l with
        | nil => exact List.Pairwise.nil
        | cons c t =>
          obtain rfl : t = [] := List.length_eq_zero_iff.1 (by rw [List.length_cons] at h1; omega)
          exact List.pairwise_singleton _ _
      · show ssN _ (l, (), ()) = _
        unfold ssN
        dsimp only
        rw [Nat.ble_eq_true_of_le h1]
        rfl
    · refine ⟨s, s1, s2, ?_⟩
      show ssN (sort_stable_func_two_eR_BagOf_1_c n) (l, (), ()) = _
      rw [ss_eq n l (by omega) (by omega), s3]
      rfl
  obtain ⟨s, s1, s2, s3⟩ := hsort
  have ls := s1.length_eq
  unfold eR_BagOf
  dsimp only
  rw [clone_ok l (by omega), Option.bind_some]
  dsimp only
  rw [s3, Option.bind_some]
  dsimp only
  have := bo_out n K M hM (by omega) (fun (o25, _) => some (o25, ())) (fun _ => none) s (fun c hc => hD c (s1.mem_iff.1 hc)) (by omega) (by omega) (by rw [ls]; exact hMl) s.length s [] [] n (Nat.le_refl _) rfl (by omega) (by simp; omega)
  have e0 : ((([] : List Cnt).length : Nat) : Int) = 0 := rfl
  rw [e0] at this
  refine ⟨(runs s).filter nz, this, ⟨(strict_runs _ s (Nat.le_refl _) s2).sublist (List.filter_sublist ..), fun c hc => ?_⟩, fun w => ?_, fun c hc => ?_⟩
  · have := (List.mem_filter.1 hc).2
    unfold nz at this
    simpa using this
  · rw [cf_filter, cf_runs w _ s (Nat.le_refl _), cf_perm w s1]
  · obtain ⟨x, hx, e⟩ := runs_rows _ s (Nat.le_refl _) c (List.mem_filter.1 hc).1
    exact ⟨x, s1.mem_iff.1 hx, e⟩
end Pure


/- Bags are added as the document says: the plain law. No program. -/
namespace Pure
open Esp Ev Go
set_option linter.unusedSimpArgs false
set_option linter.unusedVariables false

theorem bgF_intro : ∀ {l : List Cnt} {prev : Option (List Val)}, (∀ c ∈ l, c.r.length ≤ 30 ∧ chks c.r 1 = 0 ∧ c.n ≠ 0 ∧ big c.n = false) → Strict l → (∀ p, prev = some p → ∀ c ∈ l, ordL p c.r < 0) → bgF prev l = 0
  | [], _, _, _, _ => rfl
  | c :: r, prev, h, hs, hp => by
    obtain ⟨h1, h2⟩ := List.pairwise_cons.1 hs
    obtain ⟨a1, a2, a3, a4⟩ := h c (by simp)
    have hf : falls prev c.r = false := by
      cases prev with
      | none => rfl
      | some p =>
        have := hp p rfl c (by simp)
        unfold falls
        rw [decide_eq_false_iff_not]; omega
    rw [bgF, decide_eq_false (by omega), cond_false, a2, show ((0 : Int) != 0) = false from rfl, cond_false, beq_eq_false_iff_ne.2 a3, cond_false, hf, cond_false, a4, cond_false]
    exact bgF_intro (fun d hd => h d (by simp [hd])) h2 fun p hp' d hd => by cases hp'; exact h1 d hd
theorem dst_len (a : List Cnt) : (dst a).length ≤ a.length := by
  unfold dst
  rw [List.length_map]
  exact List.length_filter_le _ _
theorem bgE_dst {a : List Cnt} (h : bgE a = 0) : bgE (dst a) = 0 := by
  obtain ⟨hl, hr⟩ := bgE_0 h
  obtain ⟨hc, _⟩ := bgE_cb h
  have := dst_len a
  unfold bgE
  rw [decide_eq_false (by omega), cond_false]
  refine bgF_intro (fun c hc => ?_) ?_ (fun p hp => by cases hp)
  · obtain ⟨d, hd, e1, e2⟩ := dst_rows hc
    rw [← e1, e2]
    exact ⟨(hr d hd).1, (hr d hd).2, by omega, rfl⟩
  · unfold dst
    exact List.pairwise_map.2 (hc.1.sublist (List.filter_sublist ..))
theorem mulb {x k : Int} (hx : -1099511627776 ≤ x ∧ x ≤ 1099511627776) (hk : -1000 ≤ k ∧ k ≤ 1000) : -1099511627776000 ≤ x * k ∧ x * k ≤ 1099511627776000 := by
  rcases Int.le_total 0 k with h0 | h0
  · have a1 : x * k ≤ 1099511627776 * k := Int.mul_le_mul_of_nonneg_right hx.2 h0
    have a2 : -1099511627776 * k ≤ x * k := Int.mul_le_mul_of_nonneg_right hx.1 h0
    omega
  · have a1 : x * -k ≤ 1099511627776 * -k := Int.mul_le_mul_of_nonneg_right hx.2 (by omega)
    have a2 : -1099511627776 * -k ≤ x * -k := Int.mul_le_mul_of_nonneg_right hx.1 (by omega)
    have e : x * -k = -(x * k) := Int.mul_neg x k
    rw [e] at a1 a2
    omega
end Pure


/- Gathering rows, whatever stands in them: the program's and the document's (printed by mkref2.py out of PGath and PRef). No program. -/
namespace Pure
open Esp Ev Go
set_option linter.unusedSimpArgs false
set_option linter.unusedVariables false

/-- a row, whatever stands in it -/
def DR2 (K : Nat) (x : Cnt) : Prop := x.r.length ≤ 2000000 ∧ (∀ v ∈ x.r, vOk v) ∧ lSz x.r + 6 ≤ K
theorem cmpR2 (K : Nat) : Cmp (fun n => bag_Gather_1 n) rc (DR2 K) K where
  ok n hn x y hx hy := by
    show bag_Gather_1 n (x, y, ()) = _
    unfold bag_Gather_1
    dsimp only
    rw [compare_ok x.r y.r n (by unfold maxLen; have := hx.1; omega) hx.2.1 (by have := hx.2.2; omega)]
    rfl
  asy x y _ _ h h2 := by
    unfold rc at h h2
    rw [ordL_neg x.r y.r] at h2
    omega
  tr x y z _ _ _ h1 h2 h3 := by
    unfold rc at *
    rw [ordL_neg x.r y.r] at h1
    rcases Int.lt_or_eq_of_le (show ordL x.r y.r ≤ 0 by omega) with h | h
    · exact h2 (ordL_trans h3 h)
    · rw [(ordL_zero _ _).1 h] at h3
      exact h2 h3
theorem gath_loop2 (n K : Nat) (M : Int) (hM : 0 ≤ M) (hn : K ≤ n) (hn2 : 1000 ≤ n) (kr : Unit → Option (List Cnt × Unit)) (k : List Cnt × Unit → Option (List Cnt × Unit)) : ∀ (r p o : List Cnt) (i : Int), Sorted rc (p ++ r) →
    (∀ c ∈ p ++ r, DR2 K c ∧ bag_CopyRow n (c.r, ()) = some (c.r, ()) ∧ -M ≤ c.n ∧ c.n ≤ M) → ((p.length + r.length : Nat) : Int) * M ≤ 9000000000000000000 → p.length + r.length ≤ 100000 →
    Strict o → (∀ w, cf o w = cf p w) → (∀ c ∈ o, ∃ d ∈ p, d.r = c.r) → o.length ≤ p.length → (∀ p' d, p = p' ++ [d] → ∃ o' y, o = o' ++ [y] ∧ y.r = d.r) →
    ∃ o', Strict o' ∧ (∀ w, cf o' w = cf (p ++ r) w) ∧ (∀ c ∈ o', ∃ d ∈ p ++ r, d.r = c.r) ∧ o'.length ≤ p.length + r.length ∧ foldK (F_bag_Gather_s0 n kr) k i r (o, ()) = k (o', ()) := by
  intro r
  induction r with
  | nil =>
    intro p o i hs hD hMl hl h1 h2 h3 h4 h5
    exact ⟨o, h1, by simpa using h2, by simpa using h3, by simpa using h4, rfl⟩
  | cons x r ih =>
    intro p o i hs hD hMl hl h1 h2 h3 h4 h5
    have hDx := hD x (by simp)
    have hp : p ++ x :: r = (p ++ [x]) ++ r := by simp
    have hl' : p.length + (r.length + 1) ≤ 100000 := by simpa using hl
    rw [foldK]
    have hcopy := hDx.2.1
    have fin : ∀ o2 : List Cnt, Strict o2 → (∀ w, cf o2 w = cf (p ++ [x]) w) → (∀ c ∈ o2, ∃ d ∈ p ++ [x], d.r = c.r) → o2.length ≤ p.length + 1 → (∃ o' y, o2 = o' ++ [y] ∧ y.r = x.r) →
        ∃ o', Strict o' ∧ (∀ w, cf o' w = cf (p ++ x :: r) w) ∧ (∀ c ∈ o', ∃ d ∈ p ++ x :: r, d.r = c.r) ∧ o'.length ≤ p.length + (x :: r).length ∧ foldK (F_bag_Gather_s0 n kr) k (i + 1) r (o2, ()) = k (o', ()) := by
      intro o2 a1 a2 a3 a4 a5
      obtain ⟨o', b1, b2, b3, b4, b5⟩ := ih (p ++ [x]) o2 (i + 1) (hp ▸ hs) (fun c hc => hD c (hp ▸ hc)) (by simp at hMl ⊢; rw [Int.add_assoc, Int.add_comm 1]; exact hMl) (by simp; omega) a1 a2 a3 (by simpa using a4) (fun p' d hd => by
        obtain ⟨o', y, e1, e2⟩ := a5
        have : x = d := by have := congrArg List.getLast? hd; simpa using this
        exact ⟨o', y, e1, by rw [e2, this]⟩)
      exact ⟨o', b1, by rw [hp]; exact b2, by rw [hp]; exact b3, by simp at b4 ⊢; omega, b5⟩
    generalize hR : foldK (F_bag_Gather_s0 n kr) k (i + 1) r = R
    unfold F_bag_Gather_s0
    dsimp only
    rcases List.eq_nil_or_concat o with rfl | ⟨o', y, ho⟩
    · have e : decide (IntKind.wrap .i64 ((([] : List Cnt).length : Int) - 1) ≥ 0) = false := rfl
      rw [e, cond_false, hcopy, Option.bind_some]
      dsimp only
      rw [ck_ok (roomB (by simp) (by omega))]
      have hp0 : p = [] := by
        rcases List.eq_nil_or_concat p with h | ⟨p', d, h⟩
        · exact h
        · rw [List.concat_eq_append] at h
          obtain ⟨o', y, e1, _⟩ := h5 p' d h
          simp at e1
      subst hp0
      subst hR
      exact fin [x] (by simp [Strict]) (fun w => by simp) (by simp) (by simp) ⟨[], x, rfl, rfl⟩
    · rw [List.concat_eq_append] at ho
      subst ho
      have hol : o'.length + 1 ≤ p.length := by simpa using h4
      have ew : IntKind.wrap .i64 (((o' ++ [y]).length : Int) - 1) = (o'.length : Int) := by rw [show ((o' ++ [y]).length : Int) = ((o'.length + 1 : Nat) : Int) by simp]; exact wsub1 rfl (by omega)
      have e : decide ((o'.length : Int) ≥ 0) = true := by rw [decide_eq_true_iff]; omega
      have d0 : o' ++ [y] = o' ++ y :: [] := rfl
      -- the last of what was before
      obtain ⟨p', d, hpd⟩ : ∃ p' d, p = p' ++ [d] := by
        rcases List.eq_nil_or_concat p with h | ⟨p', d, h⟩
        · subst h; simp at hol
        · exact ⟨p', d, by rw [h]; simp⟩
      obtain ⟨o'', y', hy1, hy2⟩ := h5 p' d hpd
      have hyy : y = y' := by have := congrArg List.getLast? hy1; simpa using this
      have hyd : y.r = d.r := by rw [hyy]; exact hy2
      have hDd := hD d (by rw [hpd]; simp)
      have hle : ¬ ordL x.r y.r < 0 := by
        rw [hyd]
        have := (List.pairwise_append.1 hs).2.2 d (by rw [hpd]; simp) x (by simp)
        exact this
      rw [ew, e, cond_true, ix_mid d0 rfl, tnat, at_mid d0 rfl, Option.bind_some, Option.bind_some, compare_ok y.r x.r n (by rw [hyd]; unfold maxLen; have := hDd.1.1; omega) (by rw [hyd]; exact hDd.1.2.1) (by rw [hyd]; have := hDd.1.2.2; omega), Option.bind_some]
      dsimp only
      cases hb : ordL y.r x.r == 0 with
      | true =>
        have hyx : y.r = x.r := (row_beq _ _).1 hb
        rw [cond_true]
        simp only [Option.bind_some]
        rw [set_mid _ d0 rfl]
        have hyn : y.n = cf p y.r := by rw [← h2, cf_strict h1 (by simp)]
        have hb1 := cf_bound (M := M) hM y.r (l := p) fun c hc => (hD c (by simp [hc])).2.2
        have hMl2 : (p.length : Int) * M + M ≤ 9000000000000000000 := by
          have : (((p.length + (x :: r).length : Nat) : Int)) * M = (p.length : Int) * M + M + (r.length : Int) * M := by
            rw [List.length_cons]; push_cast; rw [Int.add_mul, Int.add_mul, Int.one_mul]; omega
          have h0 : 0 ≤ (r.length : Int) * M := Int.mul_nonneg (by omega) hM
          omega
        have hx2 := hDx.2.2
        have ewn : IntKind.wrap .i64 (y.n + x.n) = y.n + x.n := by
          rw [hyn]
          generalize (p.length : Int) * M = q at *
          exact wrap64 (by omega) (by omega)
        rw [ewn]
        obtain ⟨s1, s2, s3⟩ := List.pairwise_append.1 h1
        subst hR
        refine fin (o' ++ [⟨y.r, y.n + x.n⟩]) ?_ ?_ ?_ (by simp; omega) ⟨o', ⟨y.r, y.n + x.n⟩, rfl, hyx⟩
        · exact List.pairwise_append.2 ⟨s1, by simp, fun a ha b hb => by rw [List.mem_singleton.1 hb]; exact s3 a ha y (by simp)⟩
        · intro w
          rw [cf_append, cf_append, ← h2 w, cf_append]
          simp only [cf]
          rw [hyx]
          cases ordL x.r w == 0 <;> simp only [cond_true, cond_false] <;> omega
        · intro c hc
          rcases List.mem_append.1 hc with hc | hc
          · obtain ⟨d, hd, e⟩ := h3 c (by simp [hc])
            exact ⟨d, by simp [hd], e⟩
          · exact ⟨x, by simp, by rw [List.mem_singleton.1 hc]; exact hyx.symm⟩
      | false =>
        rw [cond_false, hcopy, Option.bind_some]
        dsimp only
        rw [ck_ok (roomB (by simp; omega) (by omega)), Cnt.eta]
        have hlt : ordL y.r x.r < 0 := by
          have h0 : ordL y.r x.r ≠ 0 := by simpa using hb
          rw [ordL_neg y.r x.r] at hle
          omega
        obtain ⟨s1, s2, s3⟩ := List.pairwise_append.1 h1
        subst hR
        refine fin (o' ++ [y] ++ [x]) ?_ ?_ ?_ (by simp; omega) ⟨o' ++ [y], x, rfl, rfl⟩
        · refine List.pairwise_append.2 ⟨h1, by simp, fun a ha b hb => ?_⟩
          rw [List.mem_singleton.1 hb]
          rcases List.mem_append.1 ha with ha | ha
          · exact ordL_trans (s3 a ha y (by simp)) hlt
          · rw [List.mem_singleton.1 ha]; exact hlt
        · intro w
          rw [cf_append w (o' ++ [y]) [x], h2 w, cf_append w p [x]]
        · intro c hc
          rcases List.mem_append.1 hc with hc | hc
          · obtain ⟨d, hd, e⟩ := h3 c hc
            exact ⟨d, by simp [hd], e⟩
          · exact ⟨x, by simp, by rw [List.mem_singleton.1 hc]⟩
theorem gather_ok2 (l : List Cnt) (n K : Nat) (M : Int) (hM : 0 ≤ M) (hD : ∀ c ∈ l, DR2 K c ∧ bag_CopyRow n (c.r, ()) = some (c.r, ()) ∧ -M ≤ c.n ∧ c.n ≤ M) (hMl : (l.length : Int) * M ≤ 9000000000000000000) (hl : l.length ≤ 100000) (hn : l.length + K + 1100 ≤ n) :
    ∃ o, bag_Gather n (l, ()) = some (o, ()) ∧ CB o ∧ (∀ w, cf o w = cf l w) ∧ (∀ c ∈ o, ∃ d ∈ l, d.r = c.r) ∧ o.length ≤ l.length := by
  obtain ⟨s, s1, s2, s3⟩ := sort_ok (cmpR2 K) n l (fun z hz => (hD z hz).1) (by omega) (by omega)
  unfold bag_Gather
  dsimp only
  rw [clone_ok l hl, Option.bind_some]
  dsimp only
  rw [sort_eq, s3, Option.bind_some]
  dsimp only
  have ls := s1.length_eq
  rw [R_bag_Gather_s0 n _ _ s n [] (by omega) (by omega)]
  obtain ⟨o, o1, o2, o3, o4, o5⟩ := gath_loop2 n K M hM (by omega) (by omega) (fun _ => none) (fun z => (slices_DeleteFunc_api_Bag_C_bag_Gather_2 n (z.1, ())).bind fun z => some (z.1, ())) s [] [] 0 (by simpa using s2) (fun c hc => hD c (s1.mem_iff.1 (by simpa using hc))) (by simpa [ls] using hMl) (by simp; omega) (by simp [Strict]) (fun w => rfl) (by simp) (by simp) (fun p' d h => by simp at h)
  simp only [List.nil_append, List.length_nil, Nat.zero_add] at o2 o3 o4
  refine ⟨o.filter nz, ?_, ⟨o1.filter _, fun c hc => ?_⟩, fun w => ?_, fun c hc => ?_, ?_⟩
  · refine o5.trans ?_
    dsimp only
    rw [del_ok o n (by omega) (by omega)]
    rfl
  · have := (List.mem_filter.1 hc).2
    unfold nz at this
    simpa using this
  · rw [cf_filter, o2, cf_perm w s1]
  · obtain ⟨d, hd, e⟩ := o3 c (List.mem_filter.1 hc).1
    exact ⟨d, s1.mem_iff.1 hd, e⟩
  · exact Nat.le_trans (List.length_filter_le _ _) (by omega)
theorem cmpW_ok2 (K : Nat) : Cmp cmpW rc (DR2 K) K where
  ok n hn x y hx hy := by
    show eR_CompareRows n (x.r, y.r, ()) = _
    rw [rcompare_ok x.r y.r n (by unfold maxLen; have := hx.1; omega) hx.2.1 (by have := hx.2.2; omega)]
    rfl
  asy := (cmpR2 K).asy
  tr := (cmpR2 K).tr
theorem bo_in2 {ρ : Type} (n K : Nat) (M : Int) (hM : 0 ≤ M) (hn : K ≤ n) (kx : Int × Unit × (List Cnt) × (Cnt × Unit) × (List Cnt) × Unit → Option ρ) (kr : Unit → Option ρ) (s : List Cnt) (hs : ∀ c ∈ s, DR2 K c ∧ -M ≤ c.n ∧ c.n ≤ M) (hsl : s.length ≤ 100000) (out : List Cnt) (r : List Val) :
    ∀ (t p : List Cnt) (acc : Int) (fuel : Nat), s = p ++ t → t.length < fuel → -9000000000000000000 ≤ acc - (t.length : Int) * M → acc + (t.length : Int) * M ≤ 9000000000000000000 →
      iterN (fun rc => eR_BagOf_s2 n rc kx kr) fuel ((p.length : Int), (), out, (⟨r, acc⟩, ()), s, ()) = kx (((p.length + (t.takeWhile (eqr r)).length : Nat) : Int), (), out, (⟨r, acc + sumN (t.takeWhile (eqr r))⟩, ()), s, ()) := by
  intro t
  induction t with
  | nil =>
    intro p acc fuel hp hf _ _
    obtain ⟨f, rfl⟩ : ∃ f, fuel = f + 1 := ⟨fuel - 1, by omega⟩
    rw [iterN]
    unfold eR_BagOf_s2
    dsimp only
    rw [decide_eq_false (show ¬ (p.length : Int) < (s.length : Int) by subst hp; simp), cond_false]
    simp [sumN]
  | cons x t ih =>
    intro p acc fuel hp hf h0 h1
    obtain ⟨f, rfl⟩ : ∃ f, fuel = f + 1 := ⟨fuel - 1, by omega⟩
    have hx := hs x (by rw [hp]; simp)
    have hlen : s.length = p.length + (t.length + 1) := by rw [hp]; simp
    have hix : ix s (p.length : Int) = some x := ix_ok (by rw [hp]; simp)
    have hg : s[((p.length : Int)).toNat]? = some x := by rw [Int.toNat_natCast, hp]; simp
    have e : ((x :: t).length : Int) * M = (t.length : Int) * M + M := by rw [List.length_cons]; push_cast; rw [Int.add_mul, Int.one_mul]
    rw [e] at h0 h1
    have hq : 0 ≤ (t.length : Int) * M := Int.mul_nonneg (by omega) hM
    have ih2 := ih (p ++ [x]) (acc + x.n) f (by rw [hp]; simp) (by simp at hf; omega)
      (by generalize (t.length : Int) * M = q at *; omega) (by generalize (t.length : Int) * M = q at *; omega)
    rw [List.length_append, List.length_singleton] at ih2
    rw [iterN]
    generalize iterN (fun rc => eR_BagOf_s2 n rc kx kr) f = R at ih2 ⊢
    unfold eR_BagOf_s2
    dsimp only
    rw [decide_eq_true (show (p.length : Int) < (s.length : Int) by omega), cond_true, hix, Option.bind_some, hg, Option.bind_some, rcompare_ok x.r r n (by unfold maxLen; have := hx.1.1; omega) hx.1.2.1 (by have := hx.1.2.2; omega), Option.bind_some]
    dsimp only
    rw [List.takeWhile_cons]
    cases h : eqr r x with
    | false =>
      have h' : (ordL x.r r == 0) = false := h
      rw [h', cond_false]
      simp [sumN]
    | true =>
      have h' : (ordL x.r r == 0) = true := h
      rw [h', cond_true, Option.bind_some, Option.bind_some]
      rw [wrap64 (by omega) (by omega), wrap64 (by generalize (t.length : Int) * M = q at *; omega) (by generalize (t.length : Int) * M = q at *; omega)]
      rw [show ((p.length : Int) + 1) = ((p.length + 1 : Nat) : Int) by omega, ih2]
      simp only [if_true, sumN, List.length_cons]
      rw [show p.length + 1 + (t.takeWhile (eqr r)).length = p.length + ((t.takeWhile (eqr r)).length + 1) by omega, Int.add_assoc]
theorem bo_out2 (n K : Nat) (M : Int) (hM : 0 ≤ M) (hn : K ≤ n) (kx : (List Cnt) × Unit → Option (List Cnt × Unit)) (kr : Unit → Option (List Cnt × Unit)) (s : List Cnt) (hs : ∀ c ∈ s, DR2 K c ∧ -M ≤ c.n ∧ c.n ≤ M) (hsl : s.length ≤ 20000) (hn2 : s.length < n) (hMl : (s.length : Int) * M ≤ 9000000000000000000) :
    ∀ (k : Nat) (t p out : List Cnt) (fuel : Nat), t.length ≤ k → s = p ++ t → t.length < fuel → out.length + t.length ≤ 20000 →
      iterN (fun rc => eR_BagOf_s0 n rc kx kr) fuel ((p.length : Int), (), out, s, ()) = kx (out ++ (runs t).filter nz, ()) := by
  intro k
  have last : ∀ (p out : List Cnt) (fuel : Nat), s = p → 0 < fuel → iterN (fun rc => eR_BagOf_s0 n rc kx kr) fuel ((p.length : Int), (), out, s, ()) = kx (out ++ (runs []).filter nz, ()) := by
    intro p out fuel hp hf
    obtain ⟨f, rfl⟩ : ∃ f, fuel = f + 1 := ⟨fuel - 1, by omega⟩
    rw [iterN]
    unfold eR_BagOf_s0
    dsimp only
    rw [decide_eq_false (show ¬ (p.length : Int) < (s.length : Int) by subst hp; omega), cond_false, runs]
    simp
  induction k with
  | zero =>
    intro t p out fuel hk hp hf ho
    obtain rfl : t = [] := List.length_eq_zero_iff.1 (by omega)
    exact last p out fuel (by simpa using hp) (by omega)
  | succ k ih =>
    intro t p out fuel hk hp hf ho
    cases t with
    | nil => exact last p out fuel (by simpa using hp) (by omega)
    | cons c t =>
    obtain ⟨f, rfl⟩ : ∃ f, fuel = f + 1 := ⟨fuel - 1, by omega⟩
    have hlen : s.length = p.length + (t.length + 1) := by rw [hp]; simp
    have hix : ix s (p.length : Int) = some c := ix_ok (by rw [hp]; simp)
    have hg : s[((p.length : Int)).toNat]? = some c := by rw [Int.toNat_natCast, hp]; simp
    have hdl : (t.dropWhile (eqr c.r)).length ≤ t.length := (List.dropWhile_sublist _).length_le
    have htl := congrArg List.length (List.takeWhile_append_dropWhile (p := eqr c.r) (l := t))
    rw [List.length_append] at htl
    have hcc : eqr c.r c = true := (row_beq _ _).2 rfl
    have htw : (c :: t).takeWhile (eqr c.r) = c :: t.takeWhile (eqr c.r) := by
      rw [List.takeWhile_cons, if_pos hcc]
    have hdw : (c :: t).dropWhile (eqr c.r) = t.dropWhile (eqr c.r) := by
      rw [List.dropWhile_cons, if_pos hcc]
    have hsp : s = (p ++ (c :: t.takeWhile (eqr c.r))) ++ t.dropWhile (eqr c.r) := by
      rw [hp, ← htw, ← hdw, List.append_assoc, List.takeWhile_append_dropWhile]
    have hb : ((c :: t).length : Int) * M ≤ 9000000000000000000 := by
      have : ((c :: t).length : Int) * M ≤ (s.length : Int) * M := Int.mul_le_mul_of_nonneg_right (by rw [hlen, List.length_cons]; omega) hM
      omega
    have hin := fun K' kr' => bo_in2 (ρ := List Cnt × Unit) n K M hM hn K' kr' s hs (by omega) out c.r (c :: t) p 0 n hp (by simp; omega) (by omega) (by omega)
    have ihf := fun out' ho' => ih (t.dropWhile (eqr c.r)) (p ++ (c :: t.takeWhile (eqr c.r))) out' f (by simp at hk; omega) hsp (by simp at hf; omega) ho'
    rw [iterN]
    generalize iterN (fun rc => eR_BagOf_s0 n rc kx kr) f = R at ihf ⊢
    unfold eR_BagOf_s0
    dsimp only
    rw [decide_eq_true (show (p.length : Int) < (s.length : Int) by omega), cond_true, hix, Option.bind_some, hg, Option.bind_some, hin]
    dsimp only
    rw [htw, sumN, Int.zero_add, runs, List.filter_cons]
    have hpl : ((p.length + (c :: t.takeWhile (eqr c.r)).length : Nat) : Int) = (((p ++ (c :: t.takeWhile (eqr c.r))).length : Nat) : Int) := by rw [List.length_append]
    rw [hpl]
    cases hz : c.n + sumN (t.takeWhile (eqr c.r)) == 0 with
    | true =>
      have h1 : nz ⟨c.r, c.n + sumN (t.takeWhile (eqr c.r))⟩ = false := by unfold nz; rw [hz]; rfl
      have h2 : (c.n + sumN (t.takeWhile (eqr c.r)) != 0) = false := by unfold bne; rw [hz]; rfl
      rw [h1, h2, cond_false, if_neg (by simp)]
      exact ihf out (by simp at ho; omega)
    | false =>
      have h1 : nz ⟨c.r, c.n + sumN (t.takeWhile (eqr c.r))⟩ = true := by unfold nz; rw [hz]; rfl
      have h2 : (c.n + sumN (t.takeWhile (eqr c.r)) != 0) = true := by unfold bne; rw [hz]; rfl
      rw [h1, h2, cond_true, if_pos rfl, ck_ok (roomB (by simp at ho ⊢; omega) (by omega))]
      refine (ihf _ (by simp at ho ⊢; omega)).trans ?_
      rw [List.append_assoc]
      rfl
theorem rbag_ok2 (l : List Cnt) (n K : Nat) (M : Int) (hM : 0 ≤ M) (hD : ∀ c ∈ l, DR2 K c ∧ -M ≤ c.n ∧ c.n ≤ M) (hMl : (l.length : Int) * M ≤ 9000000000000000000) (hl : l.length ≤ 20000) (hn : l.length + K + 1100 ≤ n) :
    ∃ o, eR_BagOf n (l, ()) = some (o, ()) ∧ CB o ∧ (∀ w, cf o w = cf l w) ∧ (∀ c ∈ o, ∃ d ∈ l, d.r = c.r) := by
  obtain ⟨s, s1, s2, s3⟩ := sort_ok (cmpW_ok2 K) n l (fun z hz => (hD z hz).1) (by omega) (by omega)
  have hsort : ∃ s : List Cnt, s.Perm l ∧ Sorted rc s ∧ ssN_sort_stable_func_two_eR_BagOf_1_c n (l, (), ()) = some (s, (), ()) := by
    by_cases h1 : l.length ≤ 1
    · refine ⟨l, List.Perm.refl _, ?_, ?_⟩
      · cases l with
        | nil => exact List.Pairwise.nil
        | cons c t =>
          obtain rfl : t = [] := List.length_eq_zero_iff.1 (by rw [List.length_cons] at h1; omega)
          exact List.pairwise_singleton _ _
      · show ssN _ (l, (), ()) = _
        unfold ssN
        dsimp only
        rw [Nat.ble_eq_true_of_le h1]
        rfl
    · refine ⟨s, s1, s2, ?_⟩
      show ssN (sort_stable_func_two_eR_BagOf_1_c n) (l, (), ()) = _
      rw [ss_eq n l (by omega) (by omega), s3]
      rfl
  obtain ⟨s, s1, s2, s3⟩ := hsort
  have ls := s1.length_eq
  unfold eR_BagOf
  dsimp only
  rw [clone_ok l (by omega), Option.bind_some]
  dsimp only
  rw [s3, Option.bind_some]
  dsimp only
  have := bo_out2 n K M hM (by omega) (fun (o25, _) => some (o25, ())) (fun _ => none) s (fun c hc => hD c (s1.mem_iff.1 hc)) (by omega) (by omega) (by rw [ls]; exact hMl) s.length s [] [] n (Nat.le_refl _) rfl (by omega) (by simp; omega)
  have e0 : ((([] : List Cnt).length : Nat) : Int) = 0 := rfl
  rw [e0] at this
  refine ⟨(runs s).filter nz, this, ⟨(strict_runs _ s (Nat.le_refl _) s2).sublist (List.filter_sublist ..), fun c hc => ?_⟩, fun w => ?_, fun c hc => ?_⟩
  · have := (List.mem_filter.1 hc).2
    unfold nz at this
    simpa using this
  · rw [cf_filter, cf_runs w _ s (Nat.le_refl _), cf_perm w s1]
  · obtain ⟨x, hx, e⟩ := runs_rows _ s (Nat.le_refl _) c (List.mem_filter.1 hc).1
    exact ⟨x, s1.mem_iff.1 hx, e⟩
end Pure


/- Any rows make the bag that the document says: the plain law. No program. -/
namespace Pure
open Esp Ev Go
set_option linter.unusedSimpArgs false
set_option linter.unusedVariables false

theorem roomX {n b : Nat} (h : n ≤ 2000000) (hb : b ≤ 1000) : room n b = true := by
  unfold room
  rw [Bool.and_eq_true]
  exact ⟨Nat.ble_eq_true_of_le (by omega), Nat.ble_eq_true_of_le (by have : n * b ≤ 2000000 * 1000 := Nat.mul_le_mul h hb; omega)⟩
theorem sum_mem {α : Type} {f : α → Nat} : ∀ {l : List α} {x : α}, x ∈ l → f x ≤ sumOn f l
  | y :: r, x, h => by
    simp only [sumOn]
    rcases List.mem_cons.1 h with rfl | h
    · omega
    · have := sum_mem (f := f) h; omega
theorem sum_len {α : Type} {f : α → Nat} (hf : ∀ x, 1 ≤ f x) : ∀ l : List α, l.length ≤ sumOn f l
  | [] => Nat.zero_le _
  | y :: r => by
    have := sum_len hf r
    have := hf y
    simp only [sumOn, List.length_cons]
    omega
theorem vBulk_pos : ∀ v : Val, 1 ≤ vBulk v
  | .mk _ _ _ l => by rw [vBulk]; omega
theorem lSz_le {l : List Val} (h : ∀ x ∈ l, vSz x + 1 ≤ vBulk x) : lSz l ≤ sumOn vBulk l := by
  induction l with
  | nil => exact Nat.zero_le _
  | cons x r ih =>
    have h1 := h x (by simp)
    have h2 := ih fun y hy => h y (by simp [hy])
    rw [lSz]
    simp only [sumOn]
    omega
theorem vSz_le (v : Val) : vSz v + 1 ≤ vBulk v := by
  induction v using val_ind with
  | _ k a s l ih =>
    have := lSz_le ih
    rw [vSz, vBulk, vBulks_eq]
    omega
theorem copy_foldX {ρ : Type} (self : Val × Unit → Option (Val × Unit)) (k : List Val → Option ρ) : ∀ (r p : List Val) (i : Int), (∀ x ∈ r, self (x, ()) = some (x, ())) → p.length + r.length ≤ 2000000 →
    foldK (fun (i : Int) (x : Val) (s : List Val) (rec : List Val → Option ρ) => (self (x, ())).bind fun y => ck (room (s ++ ([y.1] : List Val)).length 56) (rec (s ++ ([y.1] : List Val)))) k i r p = k (p ++ r)
  | [], p, i, _, _ => by simp [foldK]
  | x :: r, p, i, h, hl => by
    rw [foldK, h x (by simp), Option.bind_some]
    dsimp only
    rw [ck_ok (roomX (by simp at hl ⊢; omega) (by omega)), copy_foldX self k r (p ++ [x]) (i + 1) (fun y hy => h y (by simp [hy])) (by simp at hl ⊢; omega)]
    simp
theorem copy_any (v : Val) : ∀ n : Nat, vBulk v ≤ 2000000 → vBulk v + 1 ≤ n → value_Copy n (v, ()) = some (v, ()) := by
  induction v using val_ind with
  | _ k a s l ih =>
    intro n hb hn
    obtain ⟨m, rfl⟩ : ∃ m, n = m + 1 := ⟨n - 1, by omega⟩
    rw [vBulk, vBulks_eq] at hb hn
    have hl := sum_len vBulk_pos l
    have hs : ∀ x ∈ l, value_Copy m (x, ()) = some (x, ()) := fun x hx => by
      have := sum_mem (f := vBulk) hx
      exact ih x hx m (by omega) (by omega)
    rw [value_Copy]
    unfold value_Copy_b
    dsimp +instances only [kind_mk, n_mk, s_mk, l_mk]
    refine (range_list l (fun i (s0 : List Val) => (l, (l.length : Int), i, (k, a, s, ()), ((Ev.Val.mk 0 0 (⟨#[]⟩ : ByteArray) ([] : List Ev.Val)), ()), s0, ())) _ (fun (i : Int) (x : Val) (s : List Val) rec => (value_Copy m (x, ())).bind fun y => ck (room (s ++ ([y.1] : List Val)).length 56) (rec (s ++ ([y.1] : List Val)))) (fun s0 => some (.mk k a s s0, ()))
      (fun rec i s => by simp only [value_Copy_s0, Val.eta]) (by omega) m [] (by omega)).trans ?_
    rw [copy_foldX _ _ l [] 0 hs (by simp; omega)]
    rfl
theorem copyRow_any (l : List Val) (n : Nat) (hb : sumOn vBulk l ≤ 2000000) (hn : sumOn vBulk l + 2 ≤ n) : bag_CopyRow n (l, ()) = some (l, ()) := by
  have hl := sum_len vBulk_pos l
  unfold bag_CopyRow
  dsimp only
  rw [R_bag_CopyRow_s0 n _ _ l n [] (by omega) (by omega)]
  have key : ∀ (r p : List Val) (i : Int), (∀ x ∈ r, vBulk x ≤ sumOn vBulk l) → p.length + r.length ≤ 2000000 → foldK (F_bag_CopyRow_s0 n (fun _ => none)) (fun s => some (s.1, ())) i r (p, ()) = some (p ++ r, ()) := by
    intro r
    induction r with
    | nil => intro p i _ _; simp [foldK]
    | cons x r ih =>
      intro p i hx hl
      have h1 := hx x (by simp)
      rw [foldK]
      unfold F_bag_CopyRow_s0
      dsimp only
      rw [Val.eta, copy_any x n (by omega) (by omega), Option.bind_some]
      dsimp only
      rw [Val.eta, ck_ok (roomX (by simp at hl ⊢; omega) (by omega))]
      refine (ih (p ++ [x]) (i + 1) (fun y hy => hx y (by simp [hy])) (by simp at hl ⊢; omega)).trans ?_
      simp
  exact key l [] 0 (fun x hx => sum_mem hx) (by simp; omega)
/-- each row once -/
def one (l : List (List Val)) : List Cnt := l.map fun r => ⟨r, 1⟩
end Pure


/- A guest takes what waits: the plain law. No program. -/
namespace Pure
open Esp Ev Go
set_option linter.unusedSimpArgs false
set_option linter.unusedVariables false

/-! ## any rows make some bag -/
theorem clone_any (l : List Cnt) (h : l.length ≤ 2000000) : slices_Clone_C_C_own (l, ()) = some (l, ()) := by
  unfold slices_Clone_C_C_own
  dsimp only
  rw [List.nil_append]
  cases l with
  | nil => unfold nilq; dsimp only; rw [ck_ok (roomB (by simp) (by omega))]; exact dem2_same _
  | cons x l => unfold nilq; dsimp only; rw [ck_ok (roomB (by omega) (by omega))]
theorem bo_in3 {ρ : Type} (n K : Nat) (hn : K ≤ n) (kx : Int × Unit × (List Cnt) × (Cnt × Unit) × (List Cnt) × Unit → Option ρ) (kr : Unit → Option ρ) (s : List Cnt) (hs : ∀ c ∈ s, DR2 K c) (hsl : s.length ≤ 2000000) (out : List Cnt) (r : List Val) :
    ∀ (t p : List Cnt) (acc : Int) (fuel : Nat), s = p ++ t → t.length < fuel →
      ∃ z, iterN (fun rc => eR_BagOf_s2 n rc kx kr) fuel ((p.length : Int), (), out, (⟨r, acc⟩, ()), s, ()) = kx (((p.length + (t.takeWhile (eqr r)).length : Nat) : Int), (), out, (⟨r, z⟩, ()), s, ()) := by
  intro t
  induction t with
  | nil =>
    intro p acc fuel hp hf
    obtain ⟨f, rfl⟩ : ∃ f, fuel = f + 1 := ⟨fuel - 1, by omega⟩
    refine ⟨acc, ?_⟩
    rw [iterN]
    unfold eR_BagOf_s2
    dsimp only
    rw [decide_eq_false (show ¬ (p.length : Int) < (s.length : Int) by subst hp; simp), cond_false]
    simp
  | cons x t ih =>
    intro p acc fuel hp hf
    obtain ⟨f, rfl⟩ : ∃ f, fuel = f + 1 := ⟨fuel - 1, by omega⟩
    have hx := hs x (by rw [hp]; simp)
    have hlen : s.length = p.length + (t.length + 1) := by rw [hp]; simp
    have hix : ix s (p.length : Int) = some x := ix_ok (by rw [hp]; simp)
    have hg : s[((p.length : Int)).toNat]? = some x := by rw [Int.toNat_natCast, hp]; simp
    obtain ⟨z, ih2⟩ := ih (p ++ [x]) (IntKind.wrap .i64 (acc + x.n)) f (by rw [hp]; simp) (by simp at hf; omega)
    rw [List.length_append, List.length_singleton] at ih2
    rw [iterN]
    generalize iterN (fun rc => eR_BagOf_s2 n rc kx kr) f = R at ih2 ⊢
    unfold eR_BagOf_s2
    dsimp only
    rw [decide_eq_true (show (p.length : Int) < (s.length : Int) by omega), cond_true, hix, Option.bind_some, hg, Option.bind_some, rcompare_ok x.r r n (by unfold maxLen; have := hx.1; omega) hx.2.1 (by have := hx.2.2; omega), Option.bind_some]
    dsimp only
    rw [List.takeWhile_cons]
    cases h : eqr r x with
    | false =>
      have h' : (ordL x.r r == 0) = false := h
      refine ⟨acc, ?_⟩
      rw [h', cond_false]
      simp
    | true =>
      have h' : (ordL x.r r == 0) = true := h
      refine ⟨z, ?_⟩
      rw [h', cond_true, Option.bind_some, Option.bind_some]
      rw [wrap64 (by omega) (by omega)]
      rw [show ((p.length : Int) + 1) = ((p.length + 1 : Nat) : Int) by omega, ih2]
      simp only [if_true, List.length_cons]
      rw [show p.length + 1 + (t.takeWhile (eqr r)).length = p.length + ((t.takeWhile (eqr r)).length + 1) by omega]
theorem bo_out3 (n K : Nat) (hn : K ≤ n) (kx : (List Cnt) × Unit → Option (List Cnt × Unit)) (kr : Unit → Option (List Cnt × Unit)) (s : List Cnt) (hs : ∀ c ∈ s, DR2 K c) (hsl : s.length ≤ 2000000) (hn2 : s.length < n) :
    ∀ (k : Nat) (t p out : List Cnt) (fuel : Nat), t.length ≤ k → s = p ++ t → t.length < fuel → out.length + t.length ≤ 2000000 →
      ∃ o, iterN (fun rc => eR_BagOf_s0 n rc kx kr) fuel ((p.length : Int), (), out, s, ()) = kx (o, ()) := by
  intro k
  have last : ∀ (p out : List Cnt) (fuel : Nat), s = p → 0 < fuel → iterN (fun rc => eR_BagOf_s0 n rc kx kr) fuel ((p.length : Int), (), out, s, ()) = kx (out, ()) := by
    intro p out fuel hp hf
    obtain ⟨f, rfl⟩ : ∃ f, fuel = f + 1 := ⟨fuel - 1, by omega⟩
    rw [iterN]
    unfold eR_BagOf_s0
    dsimp only
    rw [decide_eq_false (show ¬ (p.length : Int) < (s.length : Int) by subst hp; omega), cond_false]
  induction k with
  | zero =>
    intro t p out fuel hk hp hf ho
    obtain rfl : t = [] := List.length_eq_zero_iff.1 (by omega)
    exact ⟨out, last p out fuel (by simpa using hp) (by omega)⟩
  | succ k ih =>
    intro t p out fuel hk hp hf ho
    cases t with
    | nil => exact ⟨out, last p out fuel (by simpa using hp) (by omega)⟩
    | cons c t =>
    obtain ⟨f, rfl⟩ : ∃ f, fuel = f + 1 := ⟨fuel - 1, by omega⟩
    have hlen : s.length = p.length + (t.length + 1) := by rw [hp]; simp
    have hix : ix s (p.length : Int) = some c := ix_ok (by rw [hp]; simp)
    have hg : s[((p.length : Int)).toNat]? = some c := by rw [Int.toNat_natCast, hp]; simp
    have hdl : (t.dropWhile (eqr c.r)).length ≤ t.length := (List.dropWhile_sublist _).length_le
    have htl := congrArg List.length (List.takeWhile_append_dropWhile (p := eqr c.r) (l := t))
    rw [List.length_append] at htl
    have hcc : eqr c.r c = true := (row_beq _ _).2 rfl
    have htw : (c :: t).takeWhile (eqr c.r) = c :: t.takeWhile (eqr c.r) := by
      rw [List.takeWhile_cons, if_pos hcc]
    have hdw : (c :: t).dropWhile (eqr c.r) = t.dropWhile (eqr c.r) := by
      rw [List.dropWhile_cons, if_pos hcc]
    have hsp : s = (p ++ (c :: t.takeWhile (eqr c.r))) ++ t.dropWhile (eqr c.r) := by
      rw [hp, ← htw, ← hdw, List.append_assoc, List.takeWhile_append_dropWhile]
    have hin := fun K' kr' => bo_in3 (ρ := List Cnt × Unit) n K hn K' kr' s hs (by omega) out c.r (c :: t) p 0 n hp (by simp; omega)
    have ihf := fun out' ho' => ih (t.dropWhile (eqr c.r)) (p ++ (c :: t.takeWhile (eqr c.r))) out' f (by simp at hk; omega) hsp (by simp at hf; omega) ho'
    rw [iterN]
    generalize iterN (fun rc => eR_BagOf_s0 n rc kx kr) f = R at ihf ⊢
    unfold eR_BagOf_s0
    dsimp only
    rw [decide_eq_true (show (p.length : Int) < (s.length : Int) by omega), cond_true, hix, Option.bind_some, hg, Option.bind_some]
    generalize hK : (fun (x : Int × Unit × (List Cnt) × (Cnt × Unit) × (List Cnt) × Unit) => _) = KK
    obtain ⟨z, hz⟩ := hin KK (fun _ => none)
    rw [hz]
    subst hK
    dsimp only
    have hpl : ((p.length + ((c :: t).takeWhile (eqr c.r)).length : Nat) : Int) = (((p ++ (c :: t.takeWhile (eqr c.r))).length : Nat) : Int) := by rw [htw, List.length_append]
    rw [hpl]
    cases hz0 : z != 0 with
    | false =>
      rw [cond_false]
      exact ihf out (by simp at ho; omega)
    | true =>
      rw [cond_true, ck_ok (roomB (by simp at ho ⊢; omega) (by omega))]
      exact ihf _ (by simp at ho ⊢; omega)
/-- whatever rows: there is a bag of them -/
theorem rbag_any (l : List Cnt) (n K : Nat) (hD : ∀ c ∈ l, DR2 K c) (hl : l.length ≤ 2000000) (hn : l.length + K + 1100 ≤ n) :
    ∃ o, eR_BagOf n (l, ()) = some (o, ()) := by
  obtain ⟨s, s1, s2, s3⟩ := sort_ok (cmpW_ok2 K) n l hD (by omega) (by omega)
  have hsort : ∃ s : List Cnt, s.Perm l ∧ ssN_sort_stable_func_two_eR_BagOf_1_c n (l, (), ()) = some (s, (), ()) := by
    by_cases h1 : l.length ≤ 1
    · refine ⟨l, List.Perm.refl _, ?_⟩
      show ssN _ (l, (), ()) = _
      unfold ssN
      dsimp only
      rw [Nat.ble_eq_true_of_le h1]
      rfl
    · refine ⟨s, s1, ?_⟩
      show ssN (sort_stable_func_two_eR_BagOf_1_c n) (l, (), ()) = _
      rw [ss_eq n l (by omega) (by omega), s3]
      rfl
  obtain ⟨s, s1, s3⟩ := hsort
  have ls := s1.length_eq
  unfold eR_BagOf
  dsimp only
  rw [clone_any l (by omega), Option.bind_some]
  dsimp only
  rw [s3, Option.bind_some]
  dsimp only
  obtain ⟨o, this⟩ := bo_out3 n K (by omega) (fun (o25, _) => some (o25, ())) (fun _ => none) s (fun c hc => hD c (s1.mem_iff.1 hc)) (by omega) (by omega) s.length s [] [] n (Nat.le_refl _) rfl (by omega) (by simp; omega)
  have e0 : ((([] : List Cnt).length : Nat) : Int) = 0 := rfl
  rw [e0] at this
  exact ⟨o, this⟩

/-! ## what comes in, counted -/
def cB (c : Cnt) : Nat := sumOn vBulk c.r + 1
def qB (q : List (List Cnt)) : Nat := sumOn (fun x => sumOn cB x + 1) q
theorem cB_lSz (c : Cnt) : lSz c.r + 1 ≤ cB c := by
  have := lSz_le (l := c.r) fun x _ => vSz_le x
  unfold cB
  omega
theorem bSz_cB : ∀ l : List Cnt, bSz l + l.length ≤ sumOn cB l
  | [] => Nat.le_refl _
  | c :: r => by
    have := bSz_cB r
    have := cB_lSz c
    rw [bSz]
    simp only [sumOn, List.length_cons]
    omega
theorem qSz_qB : ∀ q : List (List Cnt), qSz q + qLen q + q.length ≤ qB q
  | [] => Nat.le_refl _
  | x :: r => by
    have := qSz_qB r
    have := bSz_cB x
    rw [qSz, qLen]
    unfold qB at *
    simp only [sumOn, List.length_cons]
    omega
theorem cB_dr {c : Cnt} (hc : cOk c) (h : cB c ≤ 1500000) : DR2 2000000 c := by
  have h1 := cB_lSz c
  have h2 := sum_len vBulk_pos c.r
  unfold cB at h h1
  exact ⟨by omega, hc.1.2, by omega⟩
theorem flat_mem {q : List (List Cnt)} {c : Cnt} (h : c ∈ q.flatten) : cB c ≤ qB q := by
  obtain ⟨x, hx, hc⟩ := List.mem_flatten.1 h
  have h1 := sum_mem (f := cB) hc
  have h2 := sum_mem (f := fun x => sumOn cB x + 1) hx
  unfold qB
  omega
theorem flat_len : ∀ q : List (List Cnt), q.flatten.length = qLen q
  | [] => rfl
  | x :: r => by rw [List.flatten_cons, List.length_append, flat_len r, qLen]

/-! ## the loops -/
theorem take_fold2 (n : Nat) (g : Guest) {ρ : Type} (kr : Unit → Option ρ) (K : (Guest × Unit) × List Cnt × Unit → Option ρ) : ∀ (r : List (List Cnt)) (acc : List Cnt) (i : Int), acc.length + qLen r ≤ 1000 →
    foldK (F_guest_Take_s0 n kr) K i r ((g, ()), acc, ()) = K ((g, ()), acc ++ r.flatten, ()) := by
  intro r
  induction r with
  | nil => intro acc i _; simp [foldK]
  | cons x r ih =>
    intro acc i hl
    rw [qLen] at hl
    rw [foldK]
    generalize hR : foldK (F_guest_Take_s0 n kr) K (i + 1) r = R
    unfold F_guest_Take_s0
    dsimp only
    rw [ck_ok (room_ok (by rw [List.length_append]; omega) (by omega))]
    subst hR
    refine (ih (acc ++ x) (i + 1) (by rw [List.length_append]; omega)).trans ?_
    rw [List.append_assoc, List.flatten_cons]
theorem clone4_ok (l : List Cnt) (h : l.length ≤ 100000) : slices_Clone_C_C (l, ()) = some (l, ()) := by
  unfold slices_Clone_C_C
  dsimp only
  rw [List.nil_append]
  cases l with
  | nil => unfold nilq; dsimp only; rw [ck_ok (roomB (by simp) (by omega))]; exact dem2_same _
  | cons x l => unfold nilq; dsimp only; rw [ck_ok (roomB (by omega) (by omega))]
theorem gt_loop {ρ : Type} (n : Nat) (all : List Cnt) (at_ : Int) (b : List Cnt) (f : Bool) (e bad : Int) (u v : Guest) (h : qLen u.queue ≤ 2000000) (hq : u.queue.length ≤ 2000000) (hn : 2000000 < n) (K : List Cnt × Int × List Cnt × Bool × Int × Int × (Guest × Unit) × (Guest × Unit) × List Cnt × Unit → Option ρ) (kr : Unit → Option ρ) :
    iterN (fun rc => eL_GuestTake_s0 n rc K kr) n (all, at_, b, f, e, bad, u.queue, (u.queue.length : Int), 0, (u, ()), (v, ()), [], ()) = K (all, at_, b, f, e, bad, (u, ()), (v, ()), u.queue.flatten, ()) := by
  rw [R_eL_GuestTake_s0 n K kr u.queue n all at_ b f e bad (u, ()) (v, ()) [] (by omega) (by omega)]
  have key : ∀ (r : List (List Cnt)) (i : Int) (acc : List Cnt), acc.length + qLen r ≤ 2000000 → foldK (F_eL_GuestTake_s0 n kr) (fun (z : List Cnt × Int × List Cnt × Bool × Int × Int × (Guest × Unit) × (Guest × Unit) × List Cnt × Unit) => K (z.1, z.2.1, z.2.2.1, z.2.2.2.1, z.2.2.2.2.1, z.2.2.2.2.2.1, ((Ev.Guest.mk z.2.2.2.2.2.2.1.1.view z.2.2.2.2.2.2.1.1.queue z.2.2.2.2.2.2.1.1.fresh z.2.2.2.2.2.2.1.1.at_), ()), ((Ev.Guest.mk z.2.2.2.2.2.2.2.1.1.view z.2.2.2.2.2.2.2.1.1.queue z.2.2.2.2.2.2.2.1.1.fresh z.2.2.2.2.2.2.2.1.1.at_), ()), z.2.2.2.2.2.2.2.2.1, ())) i r (all, at_, b, f, e, bad, (u, ()), (v, ()), acc, ()) = K (all, at_, b, f, e, bad, (u, ()), (v, ()), acc ++ r.flatten, ()) := by
    intro r
    induction r with
    | nil => intro i acc _; rw [foldK]; simp
    | cons x r ih =>
      intro i acc h1
      rw [qLen] at h1
      rw [foldK]
      unfold F_eL_GuestTake_s0
      dsimp only
      rw [ck_ok (roomB (by rw [List.length_append]; omega) (by omega))]
      refine (ih (i + 1) _ (by rw [List.length_append]; omega)).trans ?_
      rw [List.append_assoc, List.flatten_cons]
  have := key u.queue 0 [] (by simpa using h)
  rw [List.nil_append] at this
  exact this

/-! ## what is asked behind the loop -/
noncomputable def gtK (n : Nat) : List Cnt × Int × List Cnt × Bool × Int × Int × (Guest × Unit) × (Guest × Unit) × List Cnt × Unit → Option (Bool × Unit) :=
  fun (v23, v24, v25, v26, v27, v28, o29, o30, o31, _) => 
  (bif o29.1.fresh then 
  (eR_BagOf n (v23, ())).bind fun (y32, _) => 
  (bif (v28 : Int) == 0 then 
  (eR_CheckBag n (y32, ())).bind fun (y33, _) => 
  (eL_waits n (())).bind fun (y34, _) => 
  (bif (!y34) || ((y33 : Int) != 0) then 
  (eL_waits n (())).bind fun (y35, _) => 
  (bif y35 && ((v27 : Int) == y33) then 
  (eL_sameGuest n ((Ev.Guest.mk o30.1.view o30.1.queue o30.1.fresh o30.1.at_), (Ev.Guest.mk 0 ([] : List (List Ev.Cnt)) false 0), ())).bind fun (y36, _) => some ((y36 && (((v25.length : Int) : Int) == 0)) && (!v26), ())
  else some (false, ()))
  else 
  (bif ((v27 : Int) == 0) && (v26 == o29.1.fresh) then 
  (eR_SameBag n (v25, y32, ())).bind fun (y37, _) => 
  (bif y37 then 
  (eL_sameGuest n ((Ev.Guest.mk o30.1.view o30.1.queue o30.1.fresh o30.1.at_), (Ev.Guest.mk o29.1.view ([] : List (List Ev.Cnt)) false v24), ())).bind fun (y38, _) => some (y38, ())
  else some (false, ()))
  else some (false, ())))
  else 
  (eL_waits n (())).bind fun (y39, _) => 
  (bif (!y39) || ((v28 : Int) != 0) then 
  (eL_waits n (())).bind fun (y40, _) => 
  (bif y40 && ((v27 : Int) == v28) then 
  (eL_sameGuest n ((Ev.Guest.mk o30.1.view o30.1.queue o30.1.fresh o30.1.at_), (Ev.Guest.mk 0 ([] : List (List Ev.Cnt)) false 0), ())).bind fun (y41, _) => some ((y41 && (((v25.length : Int) : Int) == 0)) && (!v26), ())
  else some (false, ()))
  else 
  (bif ((v27 : Int) == 0) && (v26 == o29.1.fresh) then 
  (eR_SameBag n (v25, y32, ())).bind fun (y42, _) => 
  (bif y42 then 
  (eL_sameGuest n ((Ev.Guest.mk o30.1.view o30.1.queue o30.1.fresh o30.1.at_), (Ev.Guest.mk o29.1.view ([] : List (List Ev.Cnt)) false v24), ())).bind fun (y43, _) => some (y43, ())
  else some (false, ()))
  else some (false, ()))))
  else 
  (eR_BagOf n (o31, ())).bind fun (y44, _) => 
  (bif (v28 : Int) == 0 then 
  (eR_CheckBag n (y44, ())).bind fun (y45, _) => 
  (eL_waits n (())).bind fun (y46, _) => 
  (bif (!y46) || ((y45 : Int) != 0) then 
  (eL_waits n (())).bind fun (y47, _) => 
  (bif y47 && ((v27 : Int) == y45) then 
  (eL_sameGuest n ((Ev.Guest.mk o30.1.view o30.1.queue o30.1.fresh o30.1.at_), (Ev.Guest.mk 0 ([] : List (List Ev.Cnt)) false 0), ())).bind fun (y48, _) => some ((y48 && (((v25.length : Int) : Int) == 0)) && (!v26), ())
  else some (false, ()))
  else 
  (bif ((v27 : Int) == 0) && (v26 == o29.1.fresh) then 
  (eR_SameBag n (v25, y44, ())).bind fun (y49, _) => 
  (bif y49 then 
  (eL_sameGuest n ((Ev.Guest.mk o30.1.view o30.1.queue o30.1.fresh o30.1.at_), (Ev.Guest.mk o29.1.view ([] : List (List Ev.Cnt)) false v24), ())).bind fun (y50, _) => some (y50, ())
  else some (false, ()))
  else some (false, ())))
  else 
  (eL_waits n (())).bind fun (y51, _) => 
  (bif (!y51) || ((v28 : Int) != 0) then 
  (eL_waits n (())).bind fun (y52, _) => 
  (bif y52 && ((v27 : Int) == v28) then 
  (eL_sameGuest n ((Ev.Guest.mk o30.1.view o30.1.queue o30.1.fresh o30.1.at_), (Ev.Guest.mk 0 ([] : List (List Ev.Cnt)) false 0), ())).bind fun (y53, _) => some ((y53 && (((v25.length : Int) : Int) == 0)) && (!v26), ())
  else some (false, ()))
  else 
  (bif ((v27 : Int) == 0) && (v26 == o29.1.fresh) then 
  (eR_SameBag n (v25, y44, ())).bind fun (y54, _) => 
  (bif y54 then 
  (eL_sameGuest n ((Ev.Guest.mk o30.1.view o30.1.queue o30.1.fresh o30.1.at_), (Ev.Guest.mk o29.1.view ([] : List (List Ev.Cnt)) false v24), ())).bind fun (y55, _) => some (y55, ())
  else some (false, ()))
  else some (false, ())))))
theorem gtK_bad (n : Nat) (hn : 3000 ≤ n) (all w : List Cnt) (at_ bad : Int) (u : Guest) (hb : bad ≠ 0) (h1 : ∃ o, eR_BagOf n (all, ()) = some (o, ())) (h2 : ∃ o, eR_BagOf n (w, ()) = some (o, ())) :
    gtK n (all, at_, [], false, bad, bad, (u, ()), (g00, ()), w, ()) = some (true, ()) := by
  obtain ⟨o1, h1⟩ := h1
  obtain ⟨o2, h2⟩ := h2
  have e1 : (bad == 0) = false := by simpa using hb
  have e2 : (bad != 0) = true := by simpa using hb
  have hs : eL_sameGuest n (⟨g00.view, g00.queue, g00.fresh, g00.at_⟩, ⟨0, [], false, 0⟩, ()) = some (true, ()) := sameU0 n hn
  unfold gtK
  dsimp only
  cases u.fresh
  · rw [cond_false, h2, Option.bind_some]
    dsimp only
    rw [e1, cond_false, waits_ok n (by omega), Option.bind_some]
    dsimp only
    rw [e2, Bool.or_true, cond_true, Option.bind_some]
    dsimp only
    rw [beq_self_eq_true, Bool.and_true, cond_true, hs, Option.bind_some]
    rfl
  · rw [cond_true, h1, Option.bind_some]
    dsimp only
    rw [e1, cond_false, waits_ok n (by omega), Option.bind_some]
    dsimp only
    rw [e2, Bool.or_true, cond_true, Option.bind_some]
    dsimp only
    rw [beq_self_eq_true, Bool.and_true, cond_true, hs, Option.bind_some]
    rfl
theorem gtK_new (n : Nat) (all w : List Cnt) (at_ : Int) (u : Guest) (hf : u.fresh = true) (h1 : eR_BagOf n (all, ()) = some (all, ())) (hb : bgE all = 0) (hw : ∀ c ∈ all, cOk c) (hn : bSz all + 5000 ≤ n) :
    gtK n (all, at_, all, true, 0, 0, (u, ()), (⟨u.view, [], false, at_⟩, ()), w, ()) = some (true, ()) := by
  unfold gtK
  dsimp only
  have hs : eL_sameGuest n ((⟨u.view, [], false, at_⟩ : Guest), (⟨u.view, [], false, at_⟩ : Guest), ()) = some (true, ()) := sameU_ok _ n (fun x hx => by cases hx) (fun x hx => by cases hx) (by simp) (by simp [qSz]; omega)
  rw [hf, cond_true, h1, Option.bind_some]
  dsimp only
  rw [show ((0 : Int) == 0) = true from rfl, cond_true, rbcheck_ok all n hw (by omega), Option.bind_some, waits_ok n (by omega), Option.bind_some]
  dsimp only
  rw [hb, show (!true || ((0 : Int) != 0)) = false from rfl, cond_false, show (true && (true == true)) = true from rfl, cond_true, sameB_ok all n hw (bgE_0 hb).1 (by omega), Option.bind_some]
  dsimp only
  rw [cond_true, hs, Option.bind_some]
theorem gtK_old (n : Nat) (all w o : List Cnt) (at_ : Int) (u : Guest) (hf : u.fresh = false) (h1 : eR_BagOf n (w, ()) = some (o, ())) (hw : ∀ c ∈ o, cOk c) (hn : bSz o + 5000 ≤ n) :
    (bgE o ≠ 0 → gtK n (all, at_, [], false, bgE o, 0, (u, ()), (g00, ()), w, ()) = some (true, ())) ∧
    (bgE o = 0 → gtK n (all, at_, o, false, 0, 0, (u, ()), (⟨u.view, [], false, at_⟩, ()), w, ()) = some (true, ())) := by
  have hs : eL_sameGuest n ((⟨u.view, [], false, at_⟩ : Guest), (⟨u.view, [], false, at_⟩ : Guest), ()) = some (true, ()) := sameU_ok _ n (fun x hx => by cases hx) (fun x hx => by cases hx) (by simp) (by simp [qSz]; omega)
  have hs0 : eL_sameGuest n (⟨g00.view, g00.queue, g00.fresh, g00.at_⟩, ⟨0, [], false, 0⟩, ()) = some (true, ()) := sameU0 n (by omega)
  have hc := rbcheck_ok o n hw (by omega)
  refine ⟨fun hb => ?_, fun hb => ?_⟩
  · have e2 : (bgE o != 0) = true := by simpa using hb
    unfold gtK
    dsimp only
    rw [hf, cond_false, h1, Option.bind_some]
    dsimp only
    rw [show ((0 : Int) == 0) = true from rfl, cond_true, hc, Option.bind_some, waits_ok n (by omega), Option.bind_some]
    dsimp only
    rw [e2, Bool.or_true, cond_true, Option.bind_some]
    dsimp only
    rw [beq_self_eq_true, Bool.and_true, cond_true, hs0, Option.bind_some]
    rfl
  · unfold gtK
    dsimp only
    rw [hf, cond_false, h1, Option.bind_some]
    dsimp only
    rw [show ((0 : Int) == 0) = true from rfl, cond_true, hc, Option.bind_some, waits_ok n (by omega), Option.bind_some]
    dsimp only
    rw [hb, show (!true || ((0 : Int) != 0)) = false from rfl, cond_false, show (true && (false == false)) = true from rfl, cond_true, sameB_ok o n hw (bgE_0 hb).1 (by omega), Option.bind_some]
    dsimp only
    rw [cond_true, hs, Option.bind_some]

/-! ## the law -/
theorem GuestTake_ok (u : Guest) (all : List Cnt) (at_ : Int) (hu : ∀ x ∈ u.queue, ∀ c ∈ x, cOk c) (ha : ∀ c ∈ all, cOk c) (hb : qB u.queue + sumOn cB all ≤ 1500000) (n : Nat) (hn : 100000000000 ≤ n) : eL_GuestTake n (u, all, at_, ()) = some (true, ()) := by
  have s1 := qSz_qB u.queue
  have s2 := bSz_cB all
  have lf := flat_len u.queue
  have dall : ∀ c ∈ all, DR2 2000000 c := fun c hc => cB_dr (ha c hc) (by have := sum_mem (f := cB) hc; omega)
  have dq : ∀ c ∈ u.queue.flatten, DR2 2000000 c := fun c hc => by
    have := flat_mem hc
    obtain ⟨x, hx, hcx⟩ := List.mem_flatten.1 hc
    exact cB_dr (hu x hx c hcx) (by omega)
  have any1 := rbag_any all n 2000000 dall (by omega) (by omega)
  have any2 := rbag_any u.queue.flatten n 2000000 dq (by omega) (by omega)
  have cu := gcheck_ok u n hu (by omega) (by omega)
  have cr := rgcheck_ok u n hu (by omega) (by omega)
  have ca := bcheck_ok all n ha (by omega)
  have cra := rbcheck_ok all n ha (by omega)
  have loop := fun (b : List Cnt) (f : Bool) (e bad : Int) (v : Guest) K kr => gt_loop (ρ := Bool × Unit) n all at_ b f e bad u v (by omega) (by omega) (by omega) K kr
  have bad : ∀ b : Int, b ≠ 0 → gtK n (all, at_, [], false, b, b, (u, ()), (g00, ()), u.queue.flatten, ()) = some (true, ()) := fun b hb => gtK_bad n (by omega) all u.queue.flatten at_ b u hb any1 any2
  have cu' : guest_Check n (⟨u.view, u.queue, u.fresh, u.at_⟩, ()) = some (guE u, ()) := cu
  have cr' : eL_checkGuest n (⟨u.view, u.queue, u.fresh, u.at_⟩, ()) = some (guE u, ()) := cr
  unfold eL_GuestTake guest_Take
  dsimp only
  rw [cu', Option.bind_some, cr']
  dsimp only
  by_cases h1 : guE u = 0
  case neg =>
    have e1 : (guE u != 0) = true := by simpa using h1
    have e2 : (guE u == 0) = false := by simpa using h1
    rw [e1, cond_true, Option.bind_some, Option.bind_some]
    dsimp only
    rw [e2, cond_false, Bool.false_and, cond_false]
    exact (loop [] false (guE u) (guE u) g00 _ _).trans (bad _ h1)
  case pos =>
  rw [h1, show ((0 : Int) != 0) = false from rfl, cond_false, ca, Option.bind_some]
  dsimp only
  by_cases h2 : bgE all = 0
  case neg =>
    have e1 : (bgE all != 0) = true := by simpa using h2
    have e2 : (bgE all == 0) = false := by simpa using h2
    rw [e1, cond_true, Option.bind_some, Option.bind_some]
    dsimp only
    rw [show ((0 : Int) == 0) = true from rfl, cond_true, cra, Option.bind_some]
    dsimp only
    rw [e2, Bool.false_and, cond_false]
    exact (loop [] false (bgE all) (bgE all) g00 _ _).trans (bad _ h2)
  case pos =>
  rw [h2, show ((0 : Int) != 0) = false from rfl, cond_false]
  cases h3 : decide (at_ < u.at_) with
  | true =>
    rw [cond_true, Option.bind_some, Option.bind_some]
    dsimp only
    rw [show ((0 : Int) == 0) = true from rfl, cond_true, cra, h2, Option.bind_some]
    dsimp only
    rw [show (((0 : Int) == 0) && true) = true from rfl, cond_true]
    exact (loop [] false 9 9 g00 _ _).trans (bad 9 (by decide))
  | false =>
    rw [cond_false]
    obtain ⟨a1, a2, a3⟩ := guE_0 (by omega) h1
    have hql := qLen_le fun x hx => (a1 x hx).2
    cases hf : u.fresh with
    | true =>
      rw [cond_true, own_ok all n (by omega) h2, Option.bind_some, Option.bind_some, Option.bind_some]
      dsimp only
      rw [show ((0 : Int) == 0) = true from rfl, cond_true, cra, h2, Option.bind_some]
      dsimp only
      rw [show (((0 : Int) == 0) && false) = false from rfl, cond_false]
      have hcb := bgE_cb h2
      have hl := (bgE_0 h2).1
      obtain ⟨o, o1, o2, o3, o4⟩ := rbag_ok2 all n 2000000 1099511627776 (by omega) (fun c hc => ⟨dall c hc, hcb.2 c hc⟩) (by omega) (by omega) (by omega)
      have ho : o = all := cb_eq o2 hcb.1 o3
      rw [ho] at o1
      have hK := gtK_new n all u.queue.flatten at_ u hf o1 h2 ha (by omega)
      have hu' : (⟨u.view, u.queue, true, u.at_⟩ : Guest) = u := by rw [← hf]
      rw [hu']
      exact (loop all true 0 0 ⟨u.view, [], false, at_⟩ _ _).trans hK
    | false =>
      have hu' : (⟨u.view, u.queue, false, u.at_⟩ : Guest) = u := by rw [← hf]
      rw [cond_false, R_guest_Take_s0 n _ _ u.queue n _ _ (by omega) (by omega), take_fold2 n _ _ _ u.queue [] 0 (by simp; omega), List.nil_append, hu']
      dsimp only
      rw [clone4_ok _ (by omega), Option.bind_some]
      dsimp only
      have cbq : ∀ c ∈ u.queue.flatten, c.r.length ≤ 900 ∧ (∀ v ∈ c.r, vOk v) ∧ chks c.r 1 = 0 ∧ -1099511627776 ≤ c.n ∧ c.n ≤ 1099511627776 := fun c hc => by
        obtain ⟨x, hx, hcx⟩ := List.mem_flatten.1 hc
        have q1 := (a1 x hx).1
        have h2 := (bgE_0 q1).2 c hcx
        exact ⟨by omega, (hu x hx c hcx).1.2, h2.2, (bgE_cb q1).2 c hcx⟩
      obtain ⟨o, o1, o2, o3, o4, o5, o6, o7, o8⟩ := gather2 u.queue.flatten n 2000000 1099511627776 (by omega) cbq (fun c hc => (dq c hc).2.2) (by omega) (by omega) (by omega)
      obtain ⟨p, p1, p2, p3, p4⟩ := rbag_ok2 u.queue.flatten n 2000000 1099511627776 (by omega) (fun c hc => ⟨dq c hc, (cbq c hc).2.2.2⟩) (by omega) (by omega) (by omega)
      have hp : p = o := cb_eq p2 o2 fun w => by rw [p3, o3]
      rw [hp] at p1
      have bo := bSz_le o7
      have bo2 : o.length * 2000000 ≤ 40 * 2000000 := Nat.mul_le_mul_right _ (by omega)
      obtain ⟨k1, k2⟩ := gtK_old n all u.queue.flatten o at_ u hf p1 o6 (by omega)
      rw [o1, Option.bind_some]
      dsimp only
      rw [o8, Option.bind_some]
      dsimp only
      by_cases h5 : bgE o = 0
      · rw [h5, show ((0 : Int) != 0) = false from rfl, cond_false, Option.bind_some, Option.bind_some]
        dsimp only
        rw [show ((0 : Int) == 0) = true from rfl, cond_true, cra, h2, Option.bind_some]
        dsimp only
        rw [show (((0 : Int) == 0) && false) = false from rfl, cond_false]
        exact (loop o false 0 0 ⟨u.view, [], false, at_⟩ _ _).trans (k2 h5)
      · rw [show (bgE o != 0) = true by simpa using h5, cond_true, Option.bind_some, Option.bind_some]
        dsimp only
        rw [show ((0 : Int) == 0) = true from rfl, cond_true, cra, h2, Option.bind_some]
        dsimp only
        rw [show (((0 : Int) == 0) && false) = false from rfl, cond_false]
        exact (loop [] false (bgE o) 0 g00 _ _).trans (k1 h5)
end Pure

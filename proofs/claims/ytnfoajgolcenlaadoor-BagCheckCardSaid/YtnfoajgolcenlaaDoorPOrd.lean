
/- Values stand in one order. No program. -/
import Derived.Test.YtnfoajgolcenlaaDoorPGraph2
namespace Pure
open Esp Ev Go
set_option linter.unusedSimpArgs false
set_option linter.unusedVariables false
set_option linter.unusedSimpArgs false
set_option linter.unusedVariables false

/-! ## bytes -/
def cmpS (a b : ByteArray) : Int := bif sless a b then -1 else bif seq a b then 0 else 1
theorem cmpS_zero (a b : ByteArray) : cmpS a b = 0 ↔ a = b := by
  unfold cmpS
  rw [← seq_iff]
  have h := sless_total a b
  cases h1 : sless a b
  · cases h2 : seq a b <;> simp
  · have : seq a b = false := by
      cases h2 : seq a b
      · rfl
      · have e := (seq_iff a b).1 h2
        subst e
        rw [h1] at h
        simp at h
    simp [this]
theorem sless_irr (a : ByteArray) : sless a a = false := by
  have h := sless_total a a
  rw [seq_refl, Bool.or_true] at h
  simpa using h
theorem cmpS_neg (a b : ByteArray) : cmpS b a = - cmpS a b := by
  unfold cmpS
  have h := sless_total a b
  have h' := sless_total b a
  have hs : seq b a = seq a b := by
    cases h1 : seq a b
    · cases h2 : seq b a
      · rfl
      · rw [(seq_iff b a).1 h2, seq_refl] at h1; cases h1
    · rw [(seq_iff a b).1 h1, seq_refl]
  rw [hs] at h' ⊢
  cases h1 : seq a b
  · rw [h1] at h h'
    cases h2 : sless a b
    · rw [h2] at h h'
      have : sless b a = true := by simpa using h
      simp [this]
    · rw [h2] at h h'
      have : sless b a = false := by simpa using h
      simp [this]
  · have e := (seq_iff a b).1 h1
    subst e
    rw [sless_irr]
    rfl
theorem bless_trans : ∀ {x y z : List UInt8}, Op.bytesLess x y = true → Op.bytesLess y z = true → Op.bytesLess x z = true
  | _, [], _, h, _ => by simp [Op.bytesLess] at h
  | _, _ :: _, [], _, h => by simp [Op.bytesLess] at h
  | [], _ :: _, _ :: _, _, _ => rfl
  | a :: x, b :: y, c :: z, h1, h2 => by
    simp only [Op.bytesLess, Bool.or_eq_true, Bool.and_eq_true, decide_eq_true_eq, beq_iff_eq] at h1 h2 ⊢
    rcases h1 with h1 | ⟨h1, h1'⟩
    · rcases h2 with h2 | ⟨h2, h2'⟩
      · exact .inl (UInt8.lt_trans h1 h2)
      · exact .inl (h2 ▸ h1)
    · rcases h2 with h2 | ⟨h2, h2'⟩
      · exact .inl (h1 ▸ h2)
      · exact .inr ⟨h1.trans h2, bless_trans h1' h2'⟩
theorem cmpS_lt (a b : ByteArray) : cmpS a b < 0 ↔ sless a b = true := by
  unfold cmpS
  cases sless a b
  · cases seq a b <;> simp
  · simp
theorem cmpS_trans {a b c : ByteArray} (h1 : cmpS a b < 0) (h2 : cmpS b c < 0) : cmpS a c < 0 := by
  rw [cmpS_lt] at *
  exact bless_trans h1 h2
theorem cmpI_lt (a b : Int) : cmpI a b < 0 ↔ a < b := by
  unfold cmpI
  by_cases h : a < b
  · simp [h]
  · by_cases h2 : a > b <;> simp [h, h2]
theorem cmpI_z (a b : Int) : cmpI a b = 0 ↔ a = b := by
  unfold cmpI
  by_cases h : a < b
  · simp [h]; omega
  · by_cases h2 : a > b
    · simp [h, h2]; omega
    · simp [h, h2]; omega
theorem cmpI_ng (a b : Int) : cmpI b a = - cmpI a b := by
  unfold cmpI
  by_cases h : a < b
  · have : ¬ b < a := by omega
    simp [h, this]
  · by_cases h2 : b < a <;> simp [h, h2]

/-! ## values -/
mutual
/-- how one stands to another -/
def ordV : Val → Val → Int
  | .mk k a s l, .mk k' a' s' l' => bif cmpI k k' != 0 then cmpI k k' else bif cmpI a a' != 0 then cmpI a a' else bif cmpS s s' != 0 then cmpS s s' else ordL l l'
def ordL : List Val → List Val → Int
  | [], [] => 0
  | [], _ :: _ => -1
  | _ :: _, [] => 1
  | x :: r, y :: t => bif ordV x y != 0 then ordV x y else ordL r t
end
theorem bnez {a : Int} (h : a ≠ 0) : (a != 0) = true := by simpa using h
theorem bifz {a b : Int} : (bif a != 0 then a else b) = 0 ↔ a = 0 ∧ b = 0 := by
  by_cases h : a = 0
  · simp [h]
  · rw [bnez h, cond_true]
    exact ⟨fun e => absurd e h, fun e => absurd e.1 h⟩
theorem ordL_zero_of {l : List Val} (h : ∀ x ∈ l, ∀ y, ordV x y = 0 ↔ x = y) : ∀ m, ordL l m = 0 ↔ l = m := by
  induction l with
  | nil => intro m; cases m <;> simp [ordL]
  | cons x r ih =>
    intro m
    cases m with
    | nil => simp [ordL]
    | cons y t =>
      rw [ordL, bifz, h x (by simp), ih (fun z hz => h z (by simp [hz]))]
      simp
theorem ordV_zero (v : Val) : ∀ w, ordV v w = 0 ↔ v = w := by
  induction v using val_ind with
  | _ k a s l ih =>
    intro w
    obtain ⟨k', a', s', l'⟩ := w
    rw [ordV, bifz, bifz, bifz, cmpI_z, cmpI_z, cmpS_zero, ordL_zero_of ih]
    simp
theorem ordL_zero (l m : List Val) : ordL l m = 0 ↔ l = m := ordL_zero_of (fun x _ => ordV_zero x) m
theorem bifneg {a b a' b' : Int} (h1 : a' = -a) (h2 : b' = -b) : (bif a' != 0 then a' else b') = -(bif a != 0 then a else b) := by
  subst h1; subst h2
  by_cases h : a = 0
  · simp [h]
  · rw [bnez h, bnez (a := -a) (by omega), cond_true, cond_true]
theorem ordL_neg_of {l : List Val} (h : ∀ x ∈ l, ∀ y, ordV y x = - ordV x y) : ∀ m, ordL m l = - ordL l m := by
  induction l with
  | nil => intro m; cases m <;> simp [ordL]
  | cons x r ih =>
    intro m
    cases m with
    | nil => simp [ordL]
    | cons y t =>
      rw [ordL, ordL]
      exact bifneg (h x (by simp) y) (ih (fun z hz => h z (by simp [hz])) t)
theorem ordV_neg (v : Val) : ∀ w, ordV w v = - ordV v w := by
  induction v using val_ind with
  | _ k a s l ih =>
    intro w
    obtain ⟨k', a', s', l'⟩ := w
    rw [ordV, ordV]
    exact bifneg (cmpI_ng _ _) (bifneg (cmpI_ng _ _) (bifneg (cmpS_neg _ _) (ordL_neg_of ih l')))
theorem ordL_neg (l m : List Val) : ordL m l = - ordL l m := ordL_neg_of (fun x _ => ordV_neg x) m
/-- one step of an order in which parts are held in turn -/
theorem biftrans {a b c x y z : Int} (h1 : (bif a != 0 then a else x) < 0) (h2 : (bif b != 0 then b else y) < 0) (h : a < 0 → b < 0 → c < 0) (hz1 : a = 0 → c = b) (hz2 : b = 0 → c = a) (hxy : a = 0 → b = 0 → x < 0 → y < 0 → z < 0) : (bif c != 0 then c else z) < 0 := by
  by_cases ha : a = 0
  · by_cases hb : b = 0
    · have hc : c = 0 := by rw [hz1 ha, hb]
      simp only [ha, hb, hc, bne_self_eq_false, cond_false] at h1 h2 ⊢
      exact hxy ha hb h1 h2
    · have hc := hz1 ha
      have hb' : (b != 0) = true := by simpa using hb
      rw [hb', cond_true] at h2
      rw [hc, hb', cond_true]
      exact h2
  · have ha' : (a != 0) = true := by simpa using ha
    rw [ha', cond_true] at h1
    by_cases hb : b = 0
    · rw [hz2 hb, ha', cond_true]
      exact h1
    · have hb' : (b != 0) = true := by simpa using hb
      rw [hb', cond_true] at h2
      have := h h1 h2
      have hc : (c != 0) = true := by simp; omega
      rw [hc, cond_true]
      exact this
theorem ordL_trans_of {l : List Val} (h : ∀ x ∈ l, ∀ y z, ordV x y < 0 → ordV y z < 0 → ordV x z < 0) : ∀ m k, ordL l m < 0 → ordL m k < 0 → ordL l k < 0 := by
  induction l with
  | nil =>
    intro m k h1 h2
    cases m with
    | nil => simp [ordL] at h1
    | cons y t => cases k with
      | nil => simp [ordL] at h2
      | cons z u => simp [ordL]
  | cons x r ih =>
    intro m k h1 h2
    cases m with
    | nil => simp [ordL] at h1
    | cons y t => cases k with
      | nil => simp [ordL] at h2
      | cons z u =>
        rw [ordL] at h1 h2 ⊢
        exact biftrans h1 h2 (h x (by simp) y z) (fun e => by rw [(ordV_zero x y).1 e]) (fun e => by rw [(ordV_zero y z).1 e]) fun _ _ h3 h4 => ih (fun w hw => h w (by simp [hw])) t u h3 h4
theorem ordV_trans (v : Val) : ∀ w u, ordV v w < 0 → ordV w u < 0 → ordV v u < 0 := by
  induction v using val_ind with
  | _ k a s l ih =>
    intro w u
    obtain ⟨k', a', s', l'⟩ := w
    obtain ⟨k2, a2, s2, l2⟩ := u
    rw [ordV, ordV, ordV]
    intro h1 h2
    refine biftrans h1 h2 (fun h3 h4 => ?_) (fun e => by rw [(cmpI_z _ _).1 e]) (fun e => by rw [(cmpI_z _ _).1 e]) fun _ _ h1 h2 =>
      biftrans h1 h2 (fun h3 h4 => ?_) (fun e => by rw [(cmpI_z _ _).1 e]) (fun e => by rw [(cmpI_z _ _).1 e]) fun _ _ h1 h2 =>
      biftrans h1 h2 cmpS_trans (fun e => by rw [(cmpS_zero _ _).1 e]) (fun e => by rw [(cmpS_zero _ _).1 e]) fun _ _ h1 h2 => ordL_trans_of ih l' l2 h1 h2
    · rw [cmpI_lt] at *; omega
    · rw [cmpI_lt] at *; omega
theorem ordL_trans {l m k : List Val} : ordL l m < 0 → ordL m k < 0 → ordL l k < 0 := ordL_trans_of (fun x _ => ordV_trans x) m k

/-! ## how great a value is -/
mutual
def vSz : Val → Nat
  | .mk _ _ _ l => 1 + lSz l
def lSz : List Val → Nat
  | [] => 0
  | x :: r => 1 + vSz x + lSz r
end
theorem lSz_length : ∀ l : List Val, l.length ≤ lSz l
  | [] => Nat.le_refl _
  | x :: r => by have := lSz_length r; rw [lSz, List.length_cons]; omega
theorem lSz_mem : ∀ {l : List Val} {x : Val}, x ∈ l → vSz x < lSz l
  | y :: r, x, h => by
    rw [lSz]
    rcases List.mem_cons.1 h with rfl | h
    · omega
    · have := lSz_mem h; omega
/-- the first difference -/
def fdV : List Val → List Val → Option Int
  | x :: r, y :: t => bif ordV x y != 0 then some (ordV x y) else fdV r t
  | _, _ => none
theorem ordL_fd : ∀ l m : List Val, ordL l m = match fdV l m with | some c => c | none => cmpI l.length m.length
  | [], [] => by simp [ordL, fdV, cmpI]
  | [], y :: t => by
    have h : ((0 : Int) < ((y :: t).length : Int)) := by rw [List.length_cons]; omega
    simp only [ordL, fdV, cmpI, List.length_nil]
    rw [show decide (((0 : Nat) : Int) < ((y :: t).length : Int)) = true by simp]
    rfl
  | x :: r, [] => by
    have h : ¬ (((x :: r).length : Int) < (0 : Int)) := by rw [List.length_cons]; omega
    have h2 : (((x :: r).length : Int) > (0 : Int)) := by rw [List.length_cons]; omega
    simp only [ordL, fdV, cmpI, List.length_nil]
    rw [show decide (((x :: r).length : Int) < ((0 : Nat) : Int)) = false from decide_eq_false h, show decide (((x :: r).length : Int) > ((0 : Nat) : Int)) = true by simp]
    rfl
  | x :: r, y :: t => by
    rw [ordL, fdV]
    by_cases h : ordV x y = 0
    · simp only [h, bne_self_eq_false, cond_false]
      rw [ordL_fd r t]
      cases fdV r t with
      | some c => rfl
      | none =>
        simp only [cmpI, List.length_cons]
        have e1 : decide ((((r.length + 1 : Nat)) : Int) < ((t.length + 1 : Nat) : Int)) = decide ((r.length : Int) < (t.length : Int)) := by congr 1; apply propext; omega
        have e2 : decide ((((r.length + 1 : Nat)) : Int) > ((t.length + 1 : Nat) : Int)) = decide ((r.length : Int) > (t.length : Int)) := by congr 1; apply propext; omega
        rw [e1, e2]
    · have : (ordV x y != 0) = true := by simpa using h
      simp [this]

/-! ## the reference's order -/
theorem bytesOf_bytesI (s : ByteArray) : bytesZ (bytesI s) = s := by
  unfold bytesZ bytesI
  have : Lib.bytesOf (s.data.toList.map fun c => (c.toNat : Int)) = s.data.toList := by
    unfold Lib.bytesOf
    rw [List.map_map]
    conv => rhs; rw [← List.map_id s.data.toList]
    apply List.map_congr_left
    intro c _
    simp
  rw [this]
theorem bless_diff : ∀ (x y : List UInt8) (i : Nat), i < x.length → i < y.length → (∀ j, j < i → x[j]! = y[j]!) → x[i]! ≠ y[i]! → Op.bytesLess x y = decide (x[i]! < y[i]!)
  | [], _, _, h, _, _, _ => by simp at h
  | _ :: _, [], _, _, h, _, _ => by simp at h
  | a :: x, b :: y, 0, _, _, _, hne => by
    have hne' : a ≠ b := by simpa using hne
    have : (a == b) = false := by simpa using hne'
    simp [Op.bytesLess, this]
  | a :: x, b :: y, i + 1, hx, hy, hj, hne => by
    have h0 : a = b := by simpa using hj 0 (by omega)
    subst h0
    have := bless_diff x y i (by simpa using hx) (by simpa using hy) (fun j h => by simpa using hj (j + 1) (by omega)) (by simpa using hne)
    have hl : ¬ a < a := by simp
    simp [Op.bytesLess, this]
theorem bless_same : ∀ (x y : List UInt8), (∀ j, j < min x.length y.length → x[j]! = y[j]!) → Op.bytesLess x y = decide (x.length < y.length)
  | [], [], _ => rfl
  | [], _ :: _, _ => by simp [Op.bytesLess]
  | _ :: _, [], _ => by simp [Op.bytesLess]
  | a :: x, b :: y, hj => by
    have h0 : a = b := by simpa using hj 0 (by simp)
    subst h0
    have := bless_same x y fun j h => by simpa using hj (j + 1) (by simp only [List.length_cons]; omega)
    simp [Op.bytesLess, this]
theorem same_eq : ∀ (x y : List UInt8), (∀ j, j < min x.length y.length → x[j]! = y[j]!) → x.length = y.length → x = y
  | [], [], _, _ => rfl
  | [], _ :: _, _, h => by simp at h
  | _ :: _, [], _, h => by simp at h
  | a :: x, b :: y, hj, h => by
    have h0 : a = b := by simpa using hj 0 (by simp)
    rw [h0, same_eq x y (fun j h => by simpa using hj (j + 1) (by simp only [List.length_cons]; omega)) (by simpa using h)]
theorem bytei (a : ByteArray) (i : Nat) : a[i]! = a.data.toList[i]! := by
  by_cases h : i < a.size
  · rw [getElem!_pos a i h, getElem!_pos a.data.toList i (by simpa using h)]; rfl
  · rw [getElem!_neg a i h, getElem!_neg a.data.toList i (by simpa using h)]
theorem cmpx (a b : ByteArray) : Extern.BytealgCompare.cmp a b = cmpS a b := by
  unfold Extern.BytealgCompare.cmp cmpS sless seq
  rw [ByteArray.toList_eq, ByteArray.toList_eq]
  have ha : a.size = a.data.toList.length := by simp
  have hb : b.size = b.data.toList.length := by simp
  split
  · rename_i i h
    rw [List.find?_range_eq_some] at h
    obtain ⟨h1, h2, h3⟩ := h
    rw [List.mem_range] at h2
    rw [bytei, bytei] at h1 ⊢
    have hne : a.data.toList[i]! ≠ b.data.toList[i]! := by simpa using h1
    have hd := bless_diff a.data.toList b.data.toList i (by omega) (by omega) (fun j hj => by
      have := h3 j hj
      rw [bytei, bytei] at this
      simpa using this) hne
    rw [hd]
    have hs : (a.data.toList == b.data.toList) = false := by
      rw [beq_eq_false_iff_ne]
      exact fun e => hne (by rw [e])
    rw [hs]
    by_cases hl : a.data.toList[i]! < b.data.toList[i]!
    · rw [if_pos hl]; simp only [hl, decide_true, cond_true]
    · rw [if_neg hl]; simp only [hl, decide_false, cond_false]
  · rename_i h
    rw [List.find?_range_eq_none] at h
    have hall : ∀ j, j < min a.data.toList.length b.data.toList.length → a.data.toList[j]! = b.data.toList[j]! := fun j hj => by
      have := h j (by omega)
      rw [bytei, bytei] at this
      simpa using this
    rw [bless_same _ _ hall, ha, hb]
    by_cases h1 : a.data.toList.length < b.data.toList.length
    · rw [if_pos h1]; simp only [h1, decide_true, cond_true]
    · rw [if_neg h1]
      simp only [h1, decide_false, cond_false]
      by_cases h2 : a.data.toList.length > b.data.toList.length
      · have hs : (a.data.toList == b.data.toList) = false := by
          rw [beq_eq_false_iff_ne]
          intro e
          rw [e] at h2
          omega
        rw [if_pos h2, hs]; rfl
      · rw [if_neg h2, same_eq _ _ hall (by omega), beq_self_eq_true]; rfl
theorem bytes_cmp (a b : ByteArray) : bytes_Compare (bytesI a, bytesI b, ()) = some (cmpS a b, ()) := by
  unfold bytes_Compare cmpN
  simp only [Option.bind_some, cmpB, bytesOf_bytesI, cmpx]
end Pure

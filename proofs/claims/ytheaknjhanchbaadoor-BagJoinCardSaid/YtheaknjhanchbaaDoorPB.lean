/- Several texts in one (merge.py). -/
import Derived.Test.YtheaknjhanchbaaDoorPA
import Derived.Test.YtheaknjhanchbaaDoorPSO

/- Rows are gathered: in order, each once, with its sum. No program. -/
namespace Pure
open Esp Ev Go
set_option linter.unusedSimpArgs false
set_option linter.unusedVariables false
set_option linter.unusedSimpArgs false
set_option linter.unusedVariables false

/-! ## how often a row is there -/
def cf : List Cnt → List Val → Int
  | [], _ => 0
  | c :: l, r => (bif ordL c.r r == 0 then c.n else 0) + cf l r
theorem cf_append (r : List Val) : ∀ l m, cf (l ++ m) r = cf l r + cf m r
  | [], m => by simp [cf]
  | c :: l, m => by simp only [List.cons_append, cf, cf_append r l m]; omega
theorem cf_perm (r : List Val) {l m : List Cnt} (h : l.Perm m) : cf l r = cf m r := by
  induction h with
  | nil => rfl
  | cons x _ ih => simp only [cf, ih]
  | swap x y l => simp only [cf]; omega
  | trans _ _ ih1 ih2 => exact ih1.trans ih2
theorem row_beq (a b : List Val) : (ordL a b == 0) = true ↔ a = b := by rw [beq_iff_eq, ordL_zero]
theorem cf_none {r : List Val} : ∀ {l : List Cnt}, (∀ c ∈ l, c.r ≠ r) → cf l r = 0
  | [], _ => rfl
  | c :: l, h => by
    have : (ordL c.r r == 0) = false := by
      cases hb : ordL c.r r == 0 with
      | false => rfl
      | true => exact absurd ((row_beq _ _).1 hb) (h c (by simp))
    rw [cf, this, cond_false, cf_none fun d hd => h d (by simp [hd])]
    rfl
/-- rising rows -/
abbrev Strict (l : List Cnt) : Prop := l.Pairwise fun x y => ordL x.r y.r < 0
theorem lt_ne {a b : List Val} (h : ordL a b < 0) : a ≠ b := by
  rintro rfl
  rw [(ordL_zero a a).2 rfl] at h
  omega
theorem cf_cons_self (c : Cnt) {l : List Cnt} (h : ∀ d ∈ l, ordL c.r d.r < 0) : cf (c :: l) c.r = c.n := by
  rw [cf, (row_beq c.r c.r).2 rfl, cond_true, cf_none fun d hd e => lt_ne (h d hd) e.symm]
  omega
def CB (l : List Cnt) : Prop := Strict l ∧ ∀ c ∈ l, c.n ≠ 0
/-- of bags of one kind there is one -/
theorem cb_eq : ∀ {a b : List Cnt}, CB a → CB b → (∀ r, cf a r = cf b r) → a = b
  | [], [], _, _, _ => rfl
  | [], y :: b, _, hb, h => by
    have := h y.r
    rw [cf_cons_self y (List.pairwise_cons.1 hb.1).1] at this
    exact absurd this.symm (hb.2 y (by simp))
  | x :: a, [], ha, _, h => by
    have := h x.r
    rw [cf_cons_self x (List.pairwise_cons.1 ha.1).1] at this
    exact absurd this (ha.2 x (by simp))
  | x :: a, y :: b, ha, hb, h => by
    obtain ⟨a1, a2⟩ := List.pairwise_cons.1 ha.1
    obtain ⟨b1, b2⟩ := List.pairwise_cons.1 hb.1
    have hx := h x.r
    have hy := h y.r
    rw [cf_cons_self x a1] at hx
    rw [cf_cons_self y b1] at hy
    have hr : x.r = y.r := by
      rcases Int.lt_trichotomy (ordL x.r y.r) 0 with hlt | heq | hgt
      · rw [cf_none (l := y :: b) (r := x.r) (fun c hc e => by
          rcases List.mem_cons.1 hc with rfl | hc
          · exact lt_ne hlt e.symm
          · exact lt_ne (ordL_trans hlt (b1 c hc)) e.symm)] at hx
        exact absurd hx (ha.2 x (by simp))
      · exact (ordL_zero _ _).1 heq
      · have hlt : ordL y.r x.r < 0 := by rw [ordL_neg x.r y.r]; omega
        rw [cf_none (l := x :: a) (r := y.r) (fun c hc e => by
          rcases List.mem_cons.1 hc with rfl | hc
          · exact lt_ne hlt e.symm
          · exact lt_ne (ordL_trans hlt (a1 c hc)) e.symm)] at hy
        exact absurd hy.symm (hb.2 y (by simp))
    have hn : x.n = y.n := by
      rw [hr, cf_cons_self y b1] at hx
      exact hx
    have e : x = y := by cases x; cases y; simp at hr hn; rw [hr, hn]
    subst e
    rw [cb_eq ⟨a2, fun c hc => ha.2 c (by simp [hc])⟩ ⟨b2, fun c hc => hb.2 c (by simp [hc])⟩ fun r => by have := h r; rw [cf, cf] at this; omega]

/-! ## rows that are none are taken out -/
def nz (c : Cnt) : Bool := !(c.n == 0)
theorem idx_none {l : List Cnt} (n : Nat) (hn : l.length < n) (hl : l.length ≤ 100000) : (∃ i, sl_IndexFunc_api_Bag_C_bag_Gather_2 n (l, ()) = some (-1, ()) ∧ i = 0 ∧ ∀ c ∈ l, nz c = true) ∨
    ∃ p x t, l = p ++ x :: t ∧ (∀ c ∈ p, nz c = true) ∧ nz x = false ∧ sl_IndexFunc_api_Bag_C_bag_Gather_2 n (l, ()) = some ((p.length : Int), ()) := by
  unfold sl_IndexFunc_api_Bag_C_bag_Gather_2
  dsimp only
  rw [R_sl_IndexFunc_api_Bag_C_bag_Gather_2_s0 n _ _ l n (by omega) hn]
  have key : ∀ (r p : List Cnt), l = p ++ r → (∀ c ∈ p, nz c = true) →
      (foldK (F_sl_IndexFunc_api_Bag_C_bag_Gather_2_s0 n (fun z => some (z.1, ()))) (fun _ => some (-1, ())) (p.length : Int) r () = some (-1, ()) ∧ ∀ c ∈ l, nz c = true) ∨
      ∃ p x t, l = p ++ x :: t ∧ (∀ c ∈ p, nz c = true) ∧ nz x = false ∧ foldK (F_sl_IndexFunc_api_Bag_C_bag_Gather_2_s0 n (fun z => some (z.1, ()))) (fun _ => some (-1, ())) ((l.length - r.length : Nat) : Int) r () = some ((p.length : Int), ()) := by
    intro r
    induction r with
    | nil => intro p hp h; left; exact ⟨rfl, by rw [hp]; simpa using h⟩
    | cons x r ih =>
      intro p hp h
      have e1 : ((p.length : Int) + 1) = ((p ++ [x]).length : Int) := by simp
      have e0 : l.length - (x :: r).length = p.length := by rw [hp]; simp
      cases hx : nz x with
      | false =>
        right
        refine ⟨p, x, r, hp, h, hx, ?_⟩
        rw [e0, foldK]
        unfold F_sl_IndexFunc_api_Bag_C_bag_Gather_2_s0 bag_Gather_2
        have : (x.n == 0) = true := by unfold nz at hx; simpa using hx
        simp only [Option.bind_some, this, cond_true]
      | true =>
        have hz : (x.n == 0) = false := by unfold nz at hx; simpa using hx
        have hst : ∀ q, foldK (F_sl_IndexFunc_api_Bag_C_bag_Gather_2_s0 n (fun z => some (z.1, ()))) (fun _ => some (-1, ())) (p.length : Int) (x :: r) () = q ↔ foldK (F_sl_IndexFunc_api_Bag_C_bag_Gather_2_s0 n (fun z => some (z.1, ()))) (fun _ => some (-1, ())) ((p ++ [x]).length : Int) r () = q := by
          intro q
          rw [foldK, ← e1]
          unfold F_sl_IndexFunc_api_Bag_C_bag_Gather_2_s0 bag_Gather_2
          simp only [Option.bind_some, hz, cond_false]
        rcases ih (p ++ [x]) (by simp [hp]) (fun c hc => by
          rcases List.mem_append.1 hc with hc | hc
          · exact h c hc
          · rw [List.mem_singleton.1 hc]; exact hx) with ⟨h1, h2⟩ | ⟨p', x', t', h1, h2, h3, h4⟩
        · left; exact ⟨(hst _).2 h1, h2⟩
        · right
          refine ⟨p', x', t', h1, h2, h3, ?_⟩
          have e2 : l.length - r.length = (p ++ [x]).length := by rw [hp]; simp; omega
          rw [e2] at h4
          rw [e0]
          exact (hst _).2 h4
  rcases key l [] rfl (by simp) with ⟨h1, h2⟩ | ⟨p, x, t, h1, h2, h3, h4⟩
  · exact .inl ⟨0, h1, rfl, h2⟩
  · refine .inr ⟨p, x, t, h1, h2, h3, ?_⟩
    rw [Nat.sub_self] at h4
    exact h4
theorem del_loop (n : Nat) : ∀ (t w g : List Cnt) (fuel : Nat), g ≠ [] → w.length + g.length + t.length ≤ 100000 → t.length < fuel →
    iterN (fun rc12 => sl_DeleteFunc_api_Bag_C_bag_Gather_2_s0 n rc12 (fun (v9, o10, _) => 
      ck (decide (0 ≤ (v9 : Int) ∧ (v9 : Int) ≤ ((o10).length : Int))) (
      ck (Nat.ble ((v9 : Int).toNat + ((o10).length - (v9 : Int).toNat)) (o10).length) (
      (cut? (clrL o10 ((v9 : Int).toNat) ((o10).length - (v9 : Int).toNat) (Ev.Cnt.mk ([] : List Ev.Val) 0)) v9).bind fun r11 => some (r11, ())))) (fun (_) => none)) fuel ((w.length : Int), ((w.length + g.length : Nat) : Int), w ++ g ++ t, ()) = some (w ++ t.filter nz, ()) := by
  intro t
  induction t with
  | nil =>
    intro w g fuel hg hl hf
    obtain ⟨m, rfl⟩ : ∃ m, fuel = m + 1 := ⟨fuel - 1, by simp at hf; omega⟩
    have e : decide (((w.length + g.length : Nat) : Int) < ((w ++ g ++ []).length : Int)) = false := by simp
    simp only [iterN, sl_DeleteFunc_api_Bag_C_bag_Gather_2_s0, e, cond_false, List.append_nil, List.filter_nil]
    have e1 : decide (0 ≤ (w.length : Int) ∧ (w.length : Int) ≤ ((w ++ g).length : Int)) = true := by simp; omega
    have e2 : Nat.ble ((w.length : Int).toNat + ((w ++ g).length - (w.length : Int).toNat)) (w ++ g).length = true := by simp
    rw [ck_ok e1, ck_ok e2]
    unfold cut?
    rw [if_pos (by unfold clrL; simp; omega)]
    unfold clrL
    simp
  | cons x t ih =>
    intro w g fuel hg hl hf
    obtain ⟨m, rfl⟩ : ∃ m, fuel = m + 1 := ⟨fuel - 1, by simp at hf; omega⟩
    have hl' : w.length + g.length + (t.length + 1) ≤ 100000 := by simpa using hl
    have e : decide (((w.length + g.length : Nat) : Int) < ((w ++ g ++ x :: t).length : Int)) = true := by simp; omega
    have i1 : w.length + g.length = (w ++ g).length := by simp
    have d1 : w ++ g ++ x :: t = (w ++ g) ++ x :: t := rfl
    have w1 := wadd1 (a := w.length + g.length) (by omega)
    have w2 := wadd1 (a := w.length) (by omega)
    cases hx : nz x with
    | false =>
      have hz : (x.n == 0) = true := by unfold nz at hx; simpa using hx
      simp only [iterN, sl_DeleteFunc_api_Bag_C_bag_Gather_2_s0, e, cond_true, ix_mid d1 i1, tnat, at_mid d1 i1, Option.bind_some, bag_Gather_2, hz, Bool.not_true, cond_false, w1]
      have h := ih w (g ++ [x]) m (by simp) (by simp; omega) (by simp at hf; omega)
      have e1 : w.length + (g ++ [x]).length = w.length + g.length + 1 := by simp; omega
      have e2 : w ++ (g ++ [x]) ++ t = w ++ g ++ x :: t := by simp
      rw [e1, e2] at h
      rw [List.filter_cons, hx]
      exact h
    | true =>
      have hz : (x.n == 0) = false := by unfold nz at hx; simpa using hx
      obtain ⟨y, g', rfl⟩ : ∃ y g', g = y :: g' := by cases g with | nil => exact absurd rfl hg | cons y g' => exact ⟨y, g', rfl⟩
      have d0 : w ++ y :: g' ++ x :: t = w ++ y :: (g' ++ x :: t) := by simp
      have s0 := set_mid x d0 rfl
      simp only [iterN, sl_DeleteFunc_api_Bag_C_bag_Gather_2_s0, e, cond_true, ix_mid d1 i1, tnat, at_mid d1 i1, Option.bind_some, bag_Gather_2, hz, Bool.not_false, ix_mid d0 rfl, at_mid d0 rfl, Cnt.eta, s0, w1, w2]
      have h := ih (w ++ [x]) (g' ++ [x]) m (by simp) (by simp at hl' ⊢; omega) (by simp at hf; omega)
      have e0 : (w ++ [x]).length = w.length + 1 := by simp
      have e1 : (w ++ [x]).length + (g' ++ [x]).length = w.length + (y :: g').length + 1 := by simp; omega
      have e2 : w ++ [x] ++ (g' ++ [x]) ++ t = w ++ x :: (g' ++ x :: t) := by simp
      rw [e1, e2, e0] at h
      rw [List.filter_cons, hx]
      refine h.trans ?_
      simp
theorem del_ok (l : List Cnt) (n : Nat) (hn : l.length < n) (hl : l.length ≤ 100000) : sl_DeleteFunc_api_Bag_C_bag_Gather_2 n (l, ()) = some (l.filter nz, ()) := by
  unfold sl_DeleteFunc_api_Bag_C_bag_Gather_2
  dsimp only
  rcases idx_none n hn hl with ⟨i, h1, h2, h3⟩ | ⟨p, x, t, h1, h2, h3, h4⟩
  · rw [h1, Option.bind_some]
    dsimp only
    rw [show ((-1 : Int) == -1) = true from rfl, cond_true, List.filter_eq_self.2 h3]
  · rw [h4, Option.bind_some]
    dsimp only
    have e : ((p.length : Int) == -1) = false := by rw [beq_eq_false_iff_ne]; omega
    rw [e, cond_false, wadd1 (by rw [h1] at hl; simp at hl; omega)]
    have := del_loop n t p [x] n (by simp) (by rw [h1] at hl; simp at hl ⊢; omega) (by rw [h1] at hn; simp at hn; omega)
    have e2 : p ++ [x] ++ t = l := by rw [h1]; simp
    rw [e2] at this
    refine this.trans ?_
    rw [h1, List.filter_append, List.filter_cons, h3, List.filter_eq_self.2 h2]
    rfl

/-! ## sorting rows -/
def rc (x y : Cnt) : Int := ordL x.r y.r
/-- a row with which it can be reckoned -/
def DR (K : Nat) (x : Cnt) : Prop := x.r.length ≤ 900 ∧ (∀ v ∈ x.r, vOk v) ∧ lSz x.r + 6 ≤ K
theorem cmpR (K : Nat) : Cmp (fun n => bag_Gather_1 n) rc (DR K) K where
  ok n hn x y hx hy := by
    show bag_Gather_1 n (x, y, ()) = _
    unfold bag_Gather_1
    dsimp only
    rw [compare_ok x.r y.r n (by unfold maxLen; have := hx.1; omega) hx.2.1 (by have := hx.2.2; omega)]
    rfl
  asy x y _ _ h h2 := by
    unfold rc at h h2
    rw [ordL_neg x.r y.r] at h2
    omega
  tr x y z _ _ _ h1 h2 h3 := by
    unfold rc at *
    rw [ordL_neg x.r y.r] at h1
    rcases Int.lt_or_eq_of_le (show ordL x.r y.r ≤ 0 by omega) with h | h
    · exact h2 (ordL_trans h3 h)
    · rw [(ordL_zero _ _).1 h] at h3
      exact h2 h3
theorem sort_eq (n : Nat) : sl_SortStableFunc_C_C_bag_Gather_1 n = G_SortStableFunc (fun n => bag_Gather_1 n) n := by kernel_rfl
theorem cf_bound {M : Int} (hM : 0 ≤ M) (r : List Val) : ∀ {l : List Cnt}, (∀ c ∈ l, -M ≤ c.n ∧ c.n ≤ M) → -((l.length : Int) * M) ≤ cf l r ∧ cf l r ≤ (l.length : Int) * M
  | [], _ => by simp [cf]
  | c :: l, h => by
    have h1 := h c (by simp)
    have h2 := cf_bound hM r (l := l) fun d hd => h d (by simp [hd])
    have e : ((c :: l).length : Int) * M = (l.length : Int) * M + M := by rw [List.length_cons]; push_cast; rw [Int.add_mul, Int.one_mul]
    rw [e, cf]
    generalize (l.length : Int) * M = q at *
    cases ordL c.r r == 0 <;> simp only [cond_true, cond_false] <;> omega
theorem cf_strict {o : List Cnt} (h : Strict o) {c : Cnt} (hc : c ∈ o) : cf o c.r = c.n := by
  induction o with
  | nil => cases hc
  | cons x o ih =>
    obtain ⟨h1, h2⟩ := List.pairwise_cons.1 h
    rcases List.mem_cons.1 hc with rfl | hc
    · exact cf_cons_self c h1
    · have : (ordL x.r c.r == 0) = false := by rw [beq_eq_false_iff_ne]; have := h1 c hc; omega
      rw [cf, this, cond_false, ih h2 hc]
      omega

/-! ## copies -/
theorem copyRow2 (l : List Val) (n : Nat) (hn : 1000 ≤ n) (h30 : l.length ≤ 900) (hc : chks l 1 = 0) : bag_CopyRow n (l, ()) = some (l, ()) := by
  unfold bag_CopyRow
  dsimp only
  rw [R_bag_CopyRow_s0 n _ _ l n [] (by omega) (by omega)]
  have key : ∀ (r p : List Val) (i : Int), (∀ x ∈ r, chk x 1 = 0) → p.length + r.length ≤ 900 → foldK (F_bag_CopyRow_s0 n (fun _ => none)) (fun s => some (s.1, ())) i r (p, ()) = some (p ++ r, ()) := by
    intro r
    induction r with
    | nil => intro p i _ _; simp [foldK]
    | cons x r ih =>
      intro p i hx hl
      rw [foldK]
      unfold F_bag_CopyRow_s0
      dsimp only
      rw [Val.eta, copy_ok x 1 n (by omega) (by omega) (by omega) (hx x (by simp)), Option.bind_some]
      dsimp only
      rw [Val.eta, ck_ok (room_ok (by simp at hl ⊢; omega) (by omega))]
      refine (ih (p ++ [x]) (i + 1) (fun y hy => hx y (by simp [hy])) (by simp at hl ⊢; omega)).trans ?_
      simp
  exact key l [] 0 (chks_0 hc) (by simpa using h30)

/-! ## gathering -/
theorem gath_loop (n K : Nat) (M : Int) (hM : 0 ≤ M) (hn : K ≤ n) (hn2 : 1000 ≤ n) (kr : Unit → Option (List Cnt × Unit)) (k : List Cnt × Unit → Option (List Cnt × Unit)) : ∀ (r p o : List Cnt) (i : Int), Sorted rc (p ++ r) →
    (∀ c ∈ p ++ r, DR K c ∧ chks c.r 1 = 0 ∧ -M ≤ c.n ∧ c.n ≤ M) → ((p.length + r.length : Nat) : Int) * M ≤ 9000000000000000000 → p.length + r.length ≤ 100000 →
    Strict o → (∀ w, cf o w = cf p w) → (∀ c ∈ o, ∃ d ∈ p, d.r = c.r) → o.length ≤ p.length → (∀ p' d, p = p' ++ [d] → ∃ o' y, o = o' ++ [y] ∧ y.r = d.r) →
    ∃ o', Strict o' ∧ (∀ w, cf o' w = cf (p ++ r) w) ∧ (∀ c ∈ o', ∃ d ∈ p ++ r, d.r = c.r) ∧ o'.length ≤ p.length + r.length ∧ foldK (F_bag_Gather_s0 n kr) k i r (o, ()) = k (o', ()) := by
  intro r
  induction r with
  | nil =>
    intro p o i hs hD hMl hl h1 h2 h3 h4 h5
    exact ⟨o, h1, by simpa using h2, by simpa using h3, by simpa using h4, rfl⟩
  | cons x r ih =>
    intro p o i hs hD hMl hl h1 h2 h3 h4 h5
    have hDx := hD x (by simp)
    have hp : p ++ x :: r = (p ++ [x]) ++ r := by simp
    have hl' : p.length + (r.length + 1) ≤ 100000 := by simpa using hl
    rw [foldK]
    have hcopy := copyRow2 x.r n hn2 hDx.1.1 hDx.2.1
    have fin : ∀ o2 : List Cnt, Strict o2 → (∀ w, cf o2 w = cf (p ++ [x]) w) → (∀ c ∈ o2, ∃ d ∈ p ++ [x], d.r = c.r) → o2.length ≤ p.length + 1 → (∃ o' y, o2 = o' ++ [y] ∧ y.r = x.r) →
        ∃ o', Strict o' ∧ (∀ w, cf o' w = cf (p ++ x :: r) w) ∧ (∀ c ∈ o', ∃ d ∈ p ++ x :: r, d.r = c.r) ∧ o'.length ≤ p.length + (x :: r).length ∧ foldK (F_bag_Gather_s0 n kr) k (i + 1) r (o2, ()) = k (o', ()) := by
      intro o2 a1 a2 a3 a4 a5
      obtain ⟨o', b1, b2, b3, b4, b5⟩ := ih (p ++ [x]) o2 (i + 1) (hp ▸ hs) (fun c hc => hD c (hp ▸ hc)) (by simp at hMl ⊢; rw [Int.add_assoc, Int.add_comm 1]; exact hMl) (by simp; omega) a1 a2 a3 (by simpa using a4) (fun p' d hd => by
        obtain ⟨o', y, e1, e2⟩ := a5
        have : x = d := by have := congrArg List.getLast? hd; simpa using this
        exact ⟨o', y, e1, by rw [e2, this]⟩)
      exact ⟨o', b1, by rw [hp]; exact b2, by rw [hp]; exact b3, by simp at b4 ⊢; omega, b5⟩
    generalize hR : foldK (F_bag_Gather_s0 n kr) k (i + 1) r = R
    unfold F_bag_Gather_s0
    dsimp only
    rcases List.eq_nil_or_concat o with rfl | ⟨o', y, ho⟩
    · have e : decide (IntKind.wrap .i64 ((([] : List Cnt).length : Int) - 1) ≥ 0) = false := rfl
      rw [e, cond_false, hcopy, Option.bind_some]
      dsimp only
      rw [ck_ok (roomB (by simp) (by omega))]
      have hp0 : p = [] := by
        rcases List.eq_nil_or_concat p with h | ⟨p', d, h⟩
        · exact h
        · rw [List.concat_eq_append] at h
          obtain ⟨o', y, e1, _⟩ := h5 p' d h
          simp at e1
      subst hp0
      subst hR
      exact fin [x] (by simp [Strict]) (fun w => by simp) (by simp) (by simp) ⟨[], x, rfl, rfl⟩
    · rw [List.concat_eq_append] at ho
      subst ho
      have hol : o'.length + 1 ≤ p.length := by simpa using h4
      have ew : IntKind.wrap .i64 (((o' ++ [y]).length : Int) - 1) = (o'.length : Int) := by rw [show ((o' ++ [y]).length : Int) = ((o'.length + 1 : Nat) : Int) by simp]; exact wsub1 rfl (by omega)
      have e : decide ((o'.length : Int) ≥ 0) = true := by rw [decide_eq_true_iff]; omega
      have d0 : o' ++ [y] = o' ++ y :: [] := rfl
      -- the last of what was before
      obtain ⟨p', d, hpd⟩ : ∃ p' d, p = p' ++ [d] := by
        rcases List.eq_nil_or_concat p with h | ⟨p', d, h⟩
        · subst h; simp at hol
        · exact ⟨p', d, by rw [h]; simp⟩
      obtain ⟨o'', y', hy1, hy2⟩ := h5 p' d hpd
      have hyy : y = y' := by have := congrArg List.getLast? hy1; simpa using this
      have hyd : y.r = d.r := by rw [hyy]; exact hy2
      have hDd := hD d (by rw [hpd]; simp)
      have hle : ¬ ordL x.r y.r < 0 := by
        rw [hyd]
        have := (List.pairwise_append.1 hs).2.2 d (by rw [hpd]; simp) x (by simp)
        exact this
      rw [ew, e, cond_true, ix_mid d0 rfl, tnat, at_mid d0 rfl, Option.bind_some, Option.bind_some, compare_ok y.r x.r n (by rw [hyd]; unfold maxLen; have := hDd.1.1; omega) (by rw [hyd]; exact hDd.1.2.1) (by rw [hyd]; have := hDd.1.2.2; omega), Option.bind_some]
      dsimp only
      cases hb : ordL y.r x.r == 0 with
      | true =>
        have hyx : y.r = x.r := (row_beq _ _).1 hb
        rw [cond_true]
        simp only [Option.bind_some]
        rw [set_mid _ d0 rfl]
        have hyn : y.n = cf p y.r := by rw [← h2, cf_strict h1 (by simp)]
        have hb1 := cf_bound (M := M) hM y.r (l := p) fun c hc => (hD c (by simp [hc])).2.2
        have hMl2 : (p.length : Int) * M + M ≤ 9000000000000000000 := by
          have : (((p.length + (x :: r).length : Nat) : Int)) * M = (p.length : Int) * M + M + (r.length : Int) * M := by
            rw [List.length_cons]; push_cast; rw [Int.add_mul, Int.add_mul, Int.one_mul]; omega
          have h0 : 0 ≤ (r.length : Int) * M := Int.mul_nonneg (by omega) hM
          omega
        have hx2 := hDx.2.2
        have ewn : IntKind.wrap .i64 (y.n + x.n) = y.n + x.n := by
          rw [hyn]
          generalize (p.length : Int) * M = q at *
          exact wrap64 (by omega) (by omega)
        rw [ewn]
        obtain ⟨s1, s2, s3⟩ := List.pairwise_append.1 h1
        subst hR
        refine fin (o' ++ [⟨y.r, y.n + x.n⟩]) ?_ ?_ ?_ (by simp; omega) ⟨o', ⟨y.r, y.n + x.n⟩, rfl, hyx⟩
        · exact List.pairwise_append.2 ⟨s1, by simp, fun a ha b hb => by rw [List.mem_singleton.1 hb]; exact s3 a ha y (by simp)⟩
        · intro w
          rw [cf_append, cf_append, ← h2 w, cf_append]
          simp only [cf]
          rw [hyx]
          cases ordL x.r w == 0 <;> simp only [cond_true, cond_false] <;> omega
        · intro c hc
          rcases List.mem_append.1 hc with hc | hc
          · obtain ⟨d, hd, e⟩ := h3 c (by simp [hc])
            exact ⟨d, by simp [hd], e⟩
          · exact ⟨x, by simp, by rw [List.mem_singleton.1 hc]; exact hyx.symm⟩
      | false =>
        rw [cond_false, hcopy, Option.bind_some]
        dsimp only
        rw [ck_ok (roomB (by simp; omega) (by omega)), Cnt.eta]
        have hlt : ordL y.r x.r < 0 := by
          have h0 : ordL y.r x.r ≠ 0 := by simpa using hb
          rw [ordL_neg y.r x.r] at hle
          omega
        obtain ⟨s1, s2, s3⟩ := List.pairwise_append.1 h1
        subst hR
        refine fin (o' ++ [y] ++ [x]) ?_ ?_ ?_ (by simp; omega) ⟨o' ++ [y], x, rfl, rfl⟩
        · refine List.pairwise_append.2 ⟨h1, by simp, fun a ha b hb => ?_⟩
          rw [List.mem_singleton.1 hb]
          rcases List.mem_append.1 ha with ha | ha
          · exact ordL_trans (s3 a ha y (by simp)) hlt
          · rw [List.mem_singleton.1 ha]; exact hlt
        · intro w
          rw [cf_append w (o' ++ [y]) [x], h2 w, cf_append w p [x]]
        · intro c hc
          rcases List.mem_append.1 hc with hc | hc
          · obtain ⟨d, hd, e⟩ := h3 c hc
            exact ⟨d, by simp [hd], e⟩
          · exact ⟨x, by simp, by rw [List.mem_singleton.1 hc]⟩
theorem cf_filter (w : List Val) : ∀ l : List Cnt, cf (l.filter nz) w = cf l w
  | [] => rfl
  | c :: l => by
    rw [List.filter_cons]
    cases h : nz c with
    | true => simp only [if_true, cf, cf_filter w l]
    | false =>
      have : c.n = 0 := by unfold nz at h; simpa using h
      simp only [cf, this]
      cases ordL c.r w == 0 <;> simp [cf_filter w l]
theorem clone_ok (l : List Cnt) (h : l.length ≤ 100000) : sl_Clone_C_C_own (l, ()) = some (l, ()) := by
  unfold sl_Clone_C_C_own
  dsimp only
  rw [List.nil_append]
  cases l with
  | nil => unfold nilq; dsimp only; rw [ck_ok (roomB (by simp) (by omega))]; exact dem2_same _
  | cons x l => unfold nilq; dsimp only; rw [ck_ok (roomB (by omega) (by omega))]
theorem gather_ok (l : List Cnt) (n K : Nat) (M : Int) (hM : 0 ≤ M) (hD : ∀ c ∈ l, DR K c ∧ chks c.r 1 = 0 ∧ -M ≤ c.n ∧ c.n ≤ M) (hMl : (l.length : Int) * M ≤ 9000000000000000000) (hl : l.length ≤ 100000) (hn : l.length + K + 1100 ≤ n) :
    ∃ o, bag_Gather n (l, ()) = some (o, ()) ∧ CB o ∧ (∀ w, cf o w = cf l w) ∧ (∀ c ∈ o, ∃ d ∈ l, d.r = c.r) ∧ o.length ≤ l.length := by
  obtain ⟨s, s1, s2, s3⟩ := sort_ok (cmpR K) n l (fun z hz => (hD z hz).1) (by omega) (by omega)
  unfold bag_Gather
  dsimp only
  rw [clone_ok l hl, Option.bind_some]
  dsimp only
  rw [sort_eq, s3, Option.bind_some]
  dsimp only
  have ls := s1.length_eq
  rw [R_bag_Gather_s0 n _ _ s n [] (by omega) (by omega)]
  obtain ⟨o, o1, o2, o3, o4, o5⟩ := gath_loop n K M hM (by omega) (by omega) (fun _ => none) (fun z => (sl_DeleteFunc_api_Bag_C_bag_Gather_2 n (z.1, ())).bind fun z => some (z.1, ())) s [] [] 0 (by simpa using s2) (fun c hc => hD c (s1.mem_iff.1 (by simpa using hc))) (by simpa [ls] using hMl) (by simp; omega) (by simp [Strict]) (fun w => rfl) (by simp) (by simp) (fun p' d h => by simp at h)
  simp only [List.nil_append, List.length_nil, Nat.zero_add] at o2 o3 o4
  refine ⟨o.filter nz, ?_, ⟨o1.filter _, fun c hc => ?_⟩, fun w => ?_, fun c hc => ?_, ?_⟩
  · refine o5.trans ?_
    dsimp only
    rw [del_ok o n (by omega) (by omega)]
    rfl
  · have := (List.mem_filter.1 hc).2
    unfold nz at this
    simpa using this
  · rw [cf_filter, o2, cf_perm w s1]
  · obtain ⟨d, hd, e⟩ := o3 c (List.mem_filter.1 hc).1
    exact ⟨d, s1.mem_iff.1 hd, e⟩
  · exact Nat.le_trans (List.length_filter_le _ _) (by omega)
end Pure


/- Bags are added, and each row is told once. No program. -/
namespace Pure
open Esp Ev Go
set_option linter.unusedSimpArgs false
set_option linter.unusedVariables false

theorem bgF_all : ∀ {l : List Cnt} {prev : Option (List Val)}, bgF prev l = 0 → (∀ c ∈ l, c.n ≠ 0 ∧ big c.n = false) ∧ Strict l ∧ (∀ p, prev = some p → ∀ c ∈ l, ordL p c.r < 0)
  | [], _, _ => ⟨by simp, List.Pairwise.nil, by simp⟩
  | c :: r, prev, h => by
    rw [bgF] at h
    cases h1 : decide ((c.r.length : Int) > 30) with
    | true => rw [h1] at h; cases h
    | false =>
    rw [h1, cond_false] at h
    cases h2 : chks c.r 1 != 0 with
    | true => rw [h2, cond_true] at h; rw [h] at h2; cases h2
    | false =>
    rw [h2, cond_false] at h
    cases h3 : c.n == 0 with
    | true => rw [h3] at h; cases h
    | false =>
    rw [h3, cond_false] at h
    cases h4 : falls prev c.r with
    | true => rw [h4] at h; cases h
    | false =>
    rw [h4, cond_false] at h
    cases h5 : big c.n with
    | true => rw [h5] at h; cases h
    | false =>
    rw [h5, cond_false] at h
    obtain ⟨i1, i2, i3⟩ := bgF_all h
    have i3 := i3 c.r rfl
    refine ⟨fun d hd => ?_, List.pairwise_cons.2 ⟨i3, i2⟩, fun p hp d hd => ?_⟩
    · rcases List.mem_cons.1 hd with rfl | hd
      · exact ⟨by simpa using h3, h5⟩
      · exact i1 d hd
    · subst hp
      have hlt : ordL p c.r < 0 := by have := of_decide_eq_false h4; omega
      rcases List.mem_cons.1 hd with rfl | hd
      · exact hlt
      · exact ordL_trans hlt (i3 d hd)
theorem bgE_cb {l : List Cnt} (h : bgE l = 0) : CB l ∧ ∀ c ∈ l, -1099511627776 ≤ c.n ∧ c.n ≤ 1099511627776 := by
  have hF : bgF none l = 0 := by
    unfold bgE at h
    cases h1 : decide ((l.length : Int) > 2000) with
    | true => rw [h1] at h; cases h
    | false => rw [h1] at h; exact h
  obtain ⟨h1, h2, _⟩ := bgF_all hF
  refine ⟨⟨h2, fun c hc => (h1 c hc).1⟩, fun c hc => ?_⟩
  have := (h1 c hc).2
  unfold big at this
  rw [Bool.or_eq_false_iff] at this
  have a1 := of_decide_eq_false this.1
  have a2 := of_decide_eq_false this.2
  omega
/-- rows of a size at most -/
def RB (K : Nat) (l : List Cnt) : Prop := ∀ c ∈ l, lSz c.r + 6 ≤ K
theorem bSz_le {K : Nat} : ∀ {l : List Cnt}, RB K l → bSz l ≤ l.length * K
  | [], _ => by simp [bSz]
  | c :: l, h => by
    have h1 := h c (by simp)
    have h2 := bSz_le (l := l) fun d hd => h d (by simp [hd])
    rw [bSz, List.length_cons, Nat.add_mul, Nat.one_mul]
    omega
/-- bags whose rows are values -/
def WB (l : List Cnt) : Prop := ∀ c ∈ l, cOk c
theorem bcheck2 (l : List Cnt) (n K : Nat) (hw : WB l) (hr : RB K l) (hl : l.length ≤ 20000) (hn : 20000 * K + 30000 ≤ n) : bag_Check n (l, ()) = some (bgE l, ()) := by
  refine bcheck_ok l n hw ?_
  have := bSz_le hr
  have h2 : l.length * K ≤ 20000 * K := Nat.mul_le_mul_right K hl
  omega
theorem same2 (l : List Cnt) (n K : Nat) (hw : WB l) (hr : RB K l) (hl : l.length ≤ 2000) (hn : 20000 * K + 30000 ≤ n) : eR_SameBag n (l, l, ()) = some (true, ()) := by
  refine sameB_ok l n hw hl ?_
  have := bSz_le hr
  have h2 : l.length * K ≤ 20000 * K := Nat.mul_le_mul_right K (by omega)
  omega
/-- gathered and checked -/
theorem gather2 (l : List Cnt) (n K : Nat) (M : Int) (hM : 0 ≤ M) (hD : ∀ c ∈ l, c.r.length ≤ 900 ∧ (∀ v ∈ c.r, vOk v) ∧ chks c.r 1 = 0 ∧ -M ≤ c.n ∧ c.n ≤ M) (hr : RB K l) (hMl : (l.length : Int) * M ≤ 9000000000000000000) (hl : l.length ≤ 20000) (hn : 20000 * K + 30000 ≤ n) :
    ∃ o, bag_Gather n (l, ()) = some (o, ()) ∧ CB o ∧ (∀ w, cf o w = cf l w) ∧ (∀ c ∈ o, ∃ d ∈ l, d.r = c.r) ∧ o.length ≤ l.length ∧ WB o ∧ RB K o ∧ bag_Check n (o, ()) = some (bgE o, ()) := by
  obtain ⟨o, o1, o2, o3, o4, o5⟩ := gather_ok l n K M hM (fun c hc => ⟨⟨(hD c hc).1, (hD c hc).2.1, hr c hc⟩, (hD c hc).2.2⟩) hMl (by omega) (by omega)
  have wo : WB o := fun c hc => by
    obtain ⟨d, hd, e⟩ := o4 c hc
    have h1 := hD d hd
    refine ⟨⟨by rw [← e]; unfold maxLen; omega, by rw [← e]; exact h1.2.1⟩, ?_⟩
    have h2 : c.n = cf l c.r := by rw [← o3, cf_strict o2.1 hc]
    have h3 := cf_bound hM c.r (l := l) fun d hd => (hD d hd).2.2.2
    rw [← h2] at h3
    generalize (l.length : Int) * M = q at *
    have hmin : IntKind.i64.min = -9223372036854775808 := rfl
    have hmax : IntKind.i64.max = 9223372036854775807 := rfl
    show (decide (IntKind.i64.min ≤ c.n) && decide (c.n ≤ IntKind.i64.max)) = true
    rw [hmin, hmax, Bool.and_eq_true, decide_eq_true_iff, decide_eq_true_iff]
    omega
  have ro : RB K o := fun c hc => by
    obtain ⟨d, hd, e⟩ := o4 c hc
    rw [← e]
    exact hr d hd
  exact ⟨o, o1, o2, o3, o4, o5, wo, ro, bcheck2 o n K wo ro (by omega) hn⟩
theorem two_rounds {S ρ : Type} (step : (S → Option ρ) → S → Option ρ) {fuel : Nat} (h : 3 ≤ fuel) (s : S) : iterN step fuel s = step (fun s1 => step (fun s2 => step (iterN step (fuel - 3)) s2) s1) s := by
  obtain ⟨m, rfl⟩ : ∃ m, fuel = m + 3 := ⟨fuel - 3, by omega⟩
  rfl
theorem ix2a {α : Type} (a b : α) : ix [a, b] 0 = some a := rfl
theorem ix2b {α : Type} (a b : α) : ix [a, b] 1 = some b := rfl
theorem w01 : IntKind.wrap .i64 (0 + 1) = 1 := rfl
theorem w12 : IntKind.wrap .i64 (1 + 1) = 2 := rfl

/-! ## adding -/
def times (k : Int) (b : List Cnt) : List Cnt := b.map fun c => ⟨c.r, c.n * k⟩
theorem cf_times (k : Int) (w : List Val) : ∀ b, cf (times k b) w = k * cf b w
  | [] => by simp [times, cf]
  | c :: b => by
    have := cf_times k w b
    unfold times at this ⊢
    rw [List.map_cons, cf, cf, this, Int.mul_add]
    cases ordL c.r w == 0 <;> simp [Int.mul_comm]
end Pure


/- Bags are joined; each row once. No program. -/
namespace Pure
open Esp Ev Go
set_option linter.unusedSimpArgs false
set_option linter.unusedVariables false

/-! ## each row once -/
def dst (a : List Cnt) : List Cnt := (a.filter fun c => decide (c.n > 0)).map fun c => ⟨c.r, 1⟩
theorem dst_rows {a : List Cnt} {c : Cnt} (h : c ∈ dst a) : ∃ d ∈ a, d.r = c.r ∧ c.n = 1 := by
  obtain ⟨d, hd, rfl⟩ := List.mem_map.1 h
  exact ⟨d, (List.mem_filter.1 hd).1, rfl, rfl⟩
theorem dst_dst (a : List Cnt) : dst (dst a) = dst a := by
  unfold dst
  rw [List.filter_map]
  have : ((fun c : Cnt => decide (c.n > 0)) ∘ fun c : Cnt => (⟨c.r, 1⟩ : Cnt)) = fun _ => true := by funext c; rfl
  rw [this, List.filter_eq_self.2 (by simp), List.map_map]
  rfl
theorem bgE_nil : bgE [] = 0 := rfl
/-! ## joining -/
def sz (n : Int) : Int := if (IntKind.wrap .i64 (0 - n)) > n then (IntKind.wrap .i64 (0 - n)) else n
theorem sz_ok {n : Int} (h : -1099511627776 ≤ n ∧ n ≤ 1099511627776) : sz n = (n.natAbs : Int) := by
  unfold sz
  rw [wrap64 (by omega) (by omega)]
  split <;> omega
def mt (k : Nat) (x y : List Val) : Bool := (ordL (x.take k) (y.take k) == 0) && !((x.take k).any fun v => v.kind == 0)
def ovp (x y : Cnt) : Bool := decide (sz y.n > bquo .i64 1099511627776 (sz x.n))
theorem ovp_ok {x y : Cnt} (hx : -1099511627776 ≤ x.n ∧ x.n ≤ 1099511627776) (hx0 : x.n ≠ 0) (hy : -1099511627776 ≤ y.n ∧ y.n ≤ 1099511627776) (h : ovp x y = false) : -1099511627776 ≤ x.n * y.n ∧ x.n * y.n ≤ 1099511627776 := by
  unfold ovp at h
  have h := of_decide_eq_false h
  rw [sz_ok hx, sz_ok hy] at h
  have hq : bquo .i64 1099511627776 (x.n.natAbs : Int) = ((1099511627776 / x.n.natAbs : Nat) : Int) := by
    unfold bquo
    have : (1099511627776 : Int).tdiv (x.n.natAbs : Int) = ((1099511627776 / x.n.natAbs : Nat) : Int) := rfl
    have h2 : 1099511627776 / x.n.natAbs ≤ 1099511627776 := Nat.div_le_self _ _
    rw [this]
    generalize 1099511627776 / x.n.natAbs = q at *
    exact wrap64 (by omega) (by omega)
  rw [hq] at h
  have h1 : y.n.natAbs ≤ 1099511627776 / x.n.natAbs := by omega
  have h2 : x.n.natAbs * y.n.natAbs ≤ 1099511627776 := by
    rw [Nat.mul_comm]
    exact Nat.le_trans (Nat.mul_le_mul_right _ h1) (Nat.div_mul_le_self _ _)
  have h3 : (x.n * y.n).natAbs ≤ 1099511627776 := by rw [Int.natAbs_mul]; exact h2
  omega
def jrow (k : Nat) (x y : Cnt) : Cnt := ⟨x.r ++ y.r.drop k, x.n * y.n⟩
/-- the pairs of one row -/
def jB (k : Nat) (x : Cnt) : List Cnt → Option (List Cnt)
  | [] => some []
  | y :: b => bif mt k x.r y.r then (bif ovp x y then none else (jB k x b).map (jrow k x y :: ·)) else jB k x b
def jA (k : Nat) (b : List Cnt) : List Cnt → Option (List Cnt)
  | [] => some []
  | x :: a => (jB k x b).bind fun u => (jA k b a).map (u ++ ·)
theorem lslT (l : List Val) (k : Nat) (h : k ≤ l.length) : lsl l 0 (k : Int) = some (l.take k) := by
  unfold lsl
  rw [if_pos (by omega)]
  simp
theorem lslD (l : List Val) (k : Nat) (h : k ≤ l.length) : lsl l (k : Int) (l.length : Int) = some (l.drop k) := by
  unfold lsl
  rw [if_pos (by omega)]
  simp
  rw [List.take_of_length_le]
  simp
theorem nulls_ok (l : List Val) (n : Nat) (hl : l.length ≤ 1000) (hn : l.length < n) : sl_ContainsFunc_W_V_bag_Join_1_1 n (l, ()) = some (l.any (fun v => v.kind == 0), ()) := by
  have key : ∀ (r : List Val) (i : Int), 0 ≤ i → ∃ j, foldK (F_sl_IndexFunc_W_V_bag_Join_1_1_s0 n (fun z => some (z.1, ()))) (fun _ => some (-1, ())) i r () = some (j, ()) ∧ decide (j ≥ 0) = r.any (fun v => v.kind == 0) := by
    intro r
    induction r with
    | nil => intro i hi; exact ⟨-1, rfl, rfl⟩
    | cons a r ih =>
      intro i hi
      obtain ⟨j, h1', h2'⟩ := ih (i + 1) (by omega)
      rw [foldK, List.any_cons, ← h2']
      generalize foldK (F_sl_IndexFunc_W_V_bag_Join_1_1_s0 n (fun z => some (z.1, ()))) (fun _ => some (-1, ())) (i + 1) r = R at h1'
      unfold F_sl_IndexFunc_W_V_bag_Join_1_1_s0 bag_Join_1_1
      simp only [Option.bind_some, kind_mk]
      cases a.kind == 0
      · exact ⟨j, h1', rfl⟩
      · exact ⟨i, rfl, by simpa using hi⟩
  obtain ⟨j, k1, k2⟩ := key l 0 (by omega)
  unfold sl_ContainsFunc_W_V_bag_Join_1_1 sl_IndexFunc_W_V_bag_Join_1_1
  dsimp only
  rw [R_sl_IndexFunc_W_V_bag_Join_1_1_s0 n _ _ l n (by omega) hn, k1, Option.bind_some]
  dsimp only
  rw [k2]
theorem concat_ok (x y : List Val) (n : Nat) (hl : x.length + y.length ≤ 1000) (hn : 10 ≤ n) : sl_Concat_W_V n ([x, y], ()) = some (x ++ y, ()) := by
  unfold sl_Concat_W_V
  dsimp only
  rw [R_sl_Concat_W_V_s0 n _ _ [x, y] n _ _ (by simp) (by simp; omega)]
  have w1 : IntKind.wrap .i64 (0 + (x.length : Int)) = (x.length : Int) := by rw [wrap64 (by omega) (by omega)]; omega
  have w2 : IntKind.wrap .i64 ((x.length : Int) + (y.length : Int)) = ((x.length + y.length : Nat) : Int) := wadd (by omega)
  have e1 : decide ((x.length : Int) < 0) = false := by rw [decide_eq_false_iff_not]; omega
  have e2 : decide (((x.length + y.length : Nat) : Int) < 0) = false := by rw [decide_eq_false_iff_not]; omega
  simp only [foldK, F_sl_Concat_W_V_s0, w1, w2, e1, e2, cond_false]
  have hg : sl_Grow_W_V_own (((x.length + y.length : Nat) : Int), ()) = some ([], ()) := by
    unfold sl_Grow_W_V_own
    dsimp only
    have w3 : IntKind.wrap .i64 (((x.length + y.length : Nat) : Int) - 0) = ((x.length + y.length : Nat) : Int) := by rw [wrap64 (by omega) (by omega)]; omega
    rw [e2, cond_false, w3]
    cases h : decide (((x.length + y.length : Nat) : Int) > 0) with
    | false => rfl
    | true =>
      rw [cond_true, ck_ok (by decide)]
      rw [Bool.true_and, tnat, ck_ok (room_ok (by omega) (by omega))]
      unfold cut?
      rw [if_pos (by simp; omega)]
      rfl
  rw [hg, Option.bind_some]
  dsimp only
  rw [R_sl_Concat_W_V_s2 n _ _ [x, y] n _ (by simp) (by simp; omega)]
  simp only [foldK, F_sl_Concat_W_V_s2]
  rw [ck_ok (room_ok (by simp; omega) (by omega)), ck_ok (room_ok (by simp; omega) (by omega))]
  rfl

theorem lSz_append (l m : List Val) : lSz (l ++ m) = lSz l + lSz m := by
  induction l with
  | nil => simp [lSz]
  | cons x l ih => simp only [List.cons_append, lSz, ih]; omega
theorem lSz_take (l : List Val) (k : Nat) : lSz (l.take k) ≤ lSz l := by
  have := lSz_append (l.take k) (l.drop k)
  rw [List.take_append_drop] at this
  omega
theorem lSz_drop (l : List Val) (k : Nat) : lSz (l.drop k) ≤ lSz l := by
  have := lSz_append (l.take k) (l.drop k)
  rw [List.take_append_drop] at this
  omega
theorem chks_of {d : Int} : ∀ {l : List Val}, (∀ x ∈ l, chk x d = 0) → chks l d = 0
  | [], _ => rfl
  | x :: l, h => by
    rw [chks, h x (by simp)]
    exact chks_of fun y hy => h y (by simp [hy])
/-- what is asked of a bag that is joined -/
structure JOk (k : Nat) (n : Nat) (a : List Cnt) : Prop where
  len : ∀ c ∈ a, k ≤ c.r.length ∧ c.r.length ≤ 30
  vok : ∀ c ∈ a, ∀ v ∈ c.r, vOk v
  sz : ∀ c ∈ a, lSz c.r + 6 ≤ n
  bnd : ∀ c ∈ a, (-1099511627776 ≤ c.n ∧ c.n ≤ 1099511627776) ∧ c.n ≠ 0
theorem jB_fold (n k : Nat) (hn : 1000 ≤ n) (a b : List Cnt) (la ii : Int) (x : Cnt) (hx : JOk k n [x]) {ρ : Type} (kr : List Cnt × (List Cnt × Unit) × (List Cnt × Unit) × (Int × Unit) × (Bool × Unit) × Unit → Option ρ) (K : List Cnt × Int × Int × List Cnt × (Cnt × Unit) × (List Cnt × Unit) × (List Cnt × Unit) × (Int × Unit) × (Bool × Unit) × Unit → Option ρ) :
    ∀ (r acc : List Cnt) (i : Int), JOk k n r → acc.length + r.length ≤ 100000 →
    foldK (F_bag_Join_1_s2 n kr) K i r (a, la, ii, acc, (x, ()), (a, ()), (b, ()), ((k : Int), ()), (false, ()), ()) = match jB k x r with
      | none => kr ([], (a, ()), (b, ()), ((k : Int), ()), (true, ()), ())
      | some u => K (a, la, ii, acc ++ u, (x, ()), (a, ()), (b, ()), ((k : Int), ()), (false, ()), ()) := by
  intro r
  have hxl := hx.len x (by simp)
  have hxs := hx.sz x (by simp)
  have hxb := hx.bnd x (by simp)
  have hxt := lSz_take x.r k
  induction r with
  | nil => intro acc i _ _; simp [foldK, jB]
  | cons y r ih =>
    intro acc i hr hl
    have hyl := hr.len y (by simp)
    have hyb := hr.bnd y (by simp)
    have hr' : JOk k n r := ⟨fun c hc => hr.len c (by simp [hc]), fun c hc => hr.vok c (by simp [hc]), fun c hc => hr.sz c (by simp [hc]), fun c hc => hr.bnd c (by simp [hc])⟩
    rw [foldK]
    generalize hR : foldK (F_bag_Join_1_s2 n kr) K (i + 1) r = R
    unfold F_bag_Join_1_s2
    dsimp only
    rw [lslT x.r k hxl.1, lslT y.r k hyl.1, Option.bind_some, Option.bind_some, compare_ok (x.r.take k) (y.r.take k) n (by rw [List.length_take]; unfold maxLen; omega) (fun v hv => hx.vok x (by simp) v (List.mem_of_mem_take hv)) (by omega), Option.bind_some]
    dsimp only
    rw [jB]
    unfold mt
    cases h1 : ordL (x.r.take k) (y.r.take k) == 0 with
    | false =>
      rw [cond_false, Bool.false_and, cond_false]
      subst hR
      exact ih acc (i + 1) hr' (by simp at hl ⊢; omega)
    | true =>
      rw [cond_true, Option.bind_some, nulls_ok (x.r.take k) n (by rw [List.length_take]; omega) (by rw [List.length_take]; omega), Option.bind_some, Bool.true_and]
      dsimp only
      cases h2 : (x.r.take k).any (fun v => v.kind == 0) with
      | true =>
        rw [Bool.not_true, cond_false, cond_false]
        subst hR
        exact ih acc (i + 1) hr' (by simp at hl ⊢; omega)
      | false =>
        rw [Bool.not_false, cond_true, cond_true]
        have e1 : bag_size (y.n, ()) = some (sz y.n, ()) := rfl
        have e2 : bag_size (x.n, ()) = some (sz x.n, ()) := rfl
        have e3 : nz? (sz x.n) = some (sz x.n) := by
          unfold nz?
          rw [if_neg]
          rw [sz_ok hxb.1]
          have := hxb.2
          omega
        rw [e1, e2, Option.bind_some, Option.bind_some]
        dsimp only
        rw [e3, Option.bind_some]
        show (bif ovp x y then _ else _) = _
        cases h3 : ovp x y with
        | true => rfl
        | false =>
          rw [cond_false, cond_false, lslD y.r k hyl.1, Option.bind_some, concat_ok x.r (y.r.drop k) n (by rw [List.length_drop]; omega) (by omega), Option.bind_some]
          dsimp only
          have hb := ovp_ok hxb.1 hxb.2 hyb.1 h3
          rw [wrap64 (by omega) (by omega), ck_ok (roomB (by simp at hl ⊢; omega) (by omega))]
          subst hR
          refine (ih (acc ++ [jrow k x y]) (i + 1) hr' (by simp at hl ⊢; omega)).trans ?_
          cases jB k x r with
          | none => rfl
          | some u => simp
theorem jB_rows (k : Nat) (x : Cnt) : ∀ {b u : List Cnt}, jB k x b = some u → u.length ≤ b.length ∧ ∀ c ∈ u, ∃ y ∈ b, c = jrow k x y ∧ ovp x y = false
  | [], u, h => by cases h; simp
  | y :: b, u, h => by
    rw [jB] at h
    cases h1 : mt k x.r y.r with
    | false =>
      rw [h1, cond_false] at h
      obtain ⟨i1, i2⟩ := jB_rows k x h
      refine ⟨by simp; omega, fun c hc => ?_⟩
      obtain ⟨z, hz, e⟩ := i2 c hc
      exact ⟨z, by simp [hz], e⟩
    | true =>
      rw [h1, cond_true] at h
      cases h2 : ovp x y with
      | true => rw [h2] at h; cases h
      | false =>
        rw [h2, cond_false, Option.map_eq_some_iff] at h
        obtain ⟨v, hv, rfl⟩ := h
        obtain ⟨i1, i2⟩ := jB_rows k x hv
        refine ⟨by simp; omega, fun c hc => ?_⟩
        rcases List.mem_cons.1 hc with rfl | hc
        · exact ⟨y, by simp, rfl, h2⟩
        · obtain ⟨z, hz, e⟩ := i2 c hc
          exact ⟨z, by simp [hz], e⟩
theorem jA_rows (k : Nat) (b : List Cnt) : ∀ {a u : List Cnt}, jA k b a = some u → u.length ≤ a.length * b.length ∧ ∀ c ∈ u, ∃ x ∈ a, ∃ y ∈ b, c = jrow k x y ∧ ovp x y = false
  | [], u, h => by cases h; simp
  | x :: a, u, h => by
    rw [jA, Option.bind_eq_some_iff] at h
    obtain ⟨v, hv, h⟩ := h
    rw [Option.map_eq_some_iff] at h
    obtain ⟨w, hw, rfl⟩ := h
    obtain ⟨i1, i2⟩ := jB_rows k x hv
    obtain ⟨j1, j2⟩ := jA_rows k b hw
    refine ⟨by rw [List.length_append, List.length_cons, Nat.add_mul, Nat.one_mul]; omega, fun c hc => ?_⟩
    rcases List.mem_append.1 hc with hc | hc
    · obtain ⟨y, hy, e⟩ := i2 c hc
      exact ⟨x, by simp, y, hy, e⟩
    · obtain ⟨z, hz, e⟩ := j2 c hc
      exact ⟨z, by simp [hz], e⟩
theorem jA_loop (n k : Nat) (hn : 100000 ≤ n) (a b : List Cnt) (ha : JOk k n a) (hb : JOk k n b) (hl : a.length ≤ 20000) (hlb : b.length ≤ 20000) {ρ : Type} (KR : List Cnt × (List Cnt × Unit) × (List Cnt × Unit) × (Int × Unit) × (Bool × Unit) × Unit → Option ρ) (KX : List Cnt × (List Cnt × Unit) × (List Cnt × Unit) × (Int × Unit) × (Bool × Unit) × Unit → Option ρ) :
    ∀ (r p acc : List Cnt) (fuel : Nat), a = p ++ r → acc.length + r.length * b.length ≤ 20000 → r.length < fuel →
    iterN (fun rc => bag_Join_1_s0 n rc KX KR) fuel (a, (a.length : Int), (p.length : Int), acc, (a, ()), (b, ()), ((k : Int), ()), (false, ()), ()) = match jA k b r with
      | none => KR ([], (a, ()), (b, ()), ((k : Int), ()), (true, ()), ())
      | some u => KX (acc ++ u, (a, ()), (b, ()), ((k : Int), ()), (false, ()), ()) := by
  intro r
  induction r with
  | nil =>
    intro p acc fuel hp hl2 hf
    obtain ⟨m, rfl⟩ : ∃ m, fuel = m + 1 := ⟨fuel - 1, by omega⟩
    have e : decide ((p.length : Int) < (a.length : Int)) = false := by rw [hp]; simp
    rw [iterN, bag_Join_1_s0]
    dsimp only
    rw [e, cond_false, jA]
    simp
  | cons x r ih =>
    intro p acc fuel hp hl2 hf
    obtain ⟨m, rfl⟩ : ∃ m, fuel = m + 1 := ⟨fuel - 1, by omega⟩
    have e : decide ((p.length : Int) < (a.length : Int)) = true := by rw [hp]; simp; omega
    have hlp : p.length ≤ 20000 := by rw [hp] at hl; simp at hl; omega
    have hxm : x ∈ a := by rw [hp]; simp
    rw [List.length_cons, Nat.add_mul, Nat.one_mul] at hl2
    rw [iterN, bag_Join_1_s0]
    dsimp only
    rw [e, cond_true, ix_mid hp rfl, Option.bind_some, Cnt.eta, R_bag_Join_1_s2 n _ _ b n _ _ _ _ _ _ _ _ _ (by omega) (by omega),
      jB_fold n k (by omega) a b _ _ x ⟨fun c hc => by rw [List.mem_singleton.1 hc]; exact ha.len x hxm, fun c hc => by rw [List.mem_singleton.1 hc]; exact ha.vok x hxm, fun c hc => by rw [List.mem_singleton.1 hc]; exact ha.sz x hxm, fun c hc => by rw [List.mem_singleton.1 hc]; exact ha.bnd x hxm⟩ _ _ b acc 0 hb (by omega), jA]
    cases hj : jB k x b with
    | none => rfl
    | some u =>
      dsimp only
      rw [Option.bind_some, wadd1 (by omega)]
      have lu := (jB_rows k x hj).1
      have h := ih (p ++ [x]) (acc ++ u) m (by rw [hp]; simp) (by rw [List.length_append]; omega) (by simp at hf; omega)
      have e2 : (p ++ [x]).length = p.length + 1 := by simp
      rw [e2] at h
      rw [h]
      cases jA k b r with
      | none => rfl
      | some v => simp
/-- is a row too short? -/
def short (k : Nat) (a : List Cnt) : Bool := a.any fun c => decide (c.r.length < k)
theorem short_fold (n k : Nat) (v11 : Int) (a b : List Cnt) {ρ : Type} (kr : List Cnt × Int × Unit → Option ρ) (K : (List Cnt × List Cnt) × Int × (List Cnt × Unit) × (List Cnt × Unit) × (Int × Unit) × Unit → Option ρ) : ∀ (r : List Cnt) (i : Int),
    foldK (F_bag_Join_s2 n kr) K i r ((a, b), v11, (a, ()), (b, ()), ((k : Int), ()), ()) = bif short k r then kr ([], 9, ()) else K ((a, b), v11, (a, ()), (b, ()), ((k : Int), ()), ()) := by
  intro r
  induction r with
  | nil => intro i; rfl
  | cons x r ih =>
    intro i
    rw [foldK]
    generalize hR : foldK (F_bag_Join_s2 n kr) K (i + 1) r = R
    unfold F_bag_Join_s2
    dsimp only
    unfold short
    rw [List.any_cons]
    have e : decide (((x.r.length : Int)) < (k : Int)) = decide (x.r.length < k) := by
      rw [Bool.eq_iff_iff, decide_eq_true_iff, decide_eq_true_iff]; omega
    rw [e]
    cases decide (x.r.length < k) with
    | true => rfl
    | false =>
      rw [cond_false, Bool.false_or]
      subst hR
      exact ih (i + 1)
theorem short_false {k : Nat} {a : List Cnt} (h : short k a = false) : ∀ c ∈ a, k ≤ c.r.length := by
  intro c hc
  unfold short at h
  rw [List.any_eq_false] at h
  have := h c hc
  simp at this
  exact this
theorem join_ok (a b : List Cnt) (k n K : Nat) (hk : k ≤ 30) (wa : WB a) (wb : WB b) (ra : RB K a) (rb : RB K b) (sa : bSz a + 2100 ≤ n) (sb : bSz b + 2100 ≤ n) (fa : a.length < n) (fb : b.length < n) (hp1 : a.length ≤ 9223372036854775807) (hp2 : b.length ≤ 9223372036854775807) (hn : 20000 * (2 * K) + 100000 ≤ n) :
    ((short k a = true ∨ short k b = true ∨ bgE a ≠ 0 ∨ bgE b ≠ 0 ∨ ¬ (a.length * b.length ≤ 20000) ∨ jA k b a = none) ∧ ∃ e, e ≠ 0 ∧ bag_Join n (a, b, (k : Int), ()) = some ([], e, ())) ∨
    (short k a = false ∧ short k b = false ∧ bgE a = 0 ∧ bgE b = 0 ∧ ∃ u, jA k b a = some u ∧ a.length * b.length ≤ 20000 ∧ ∃ o, CB o ∧ (∀ w, cf o w = cf u w) ∧ o.length ≤ 20000 ∧ WB o ∧ RB (2 * K) o ∧ bag_Join n (a, b, (k : Int), ()) = bif bgE o != 0 then some ([], bgE o, ()) else some (o, 0, ())) := by
  have ca := bcheck_ok a n wa sa
  have cb := bcheck_ok b n wb sb
  have hkb : ((decide ((k : Int) < 0)) || (decide ((k : Int) > 30))) = false := by
    rw [Bool.or_eq_false_iff, decide_eq_false_iff_not, decide_eq_false_iff_not]; omega
  unfold bag_Join
  dsimp only
  rw [hkb, cond_false, two_rounds _ (by omega)]
  generalize iterN _ (n - 3) = RR
  unfold bag_Join_s0
  dsimp only
  rw [show decide ((0 : Int) < 2) = true from rfl, cond_true, ix2a, Option.bind_some, R_bag_Join_s2 n _ _ a n _ _ _ _ _ (by omega) fa, short_fold]
  cases h1 : short k a with
  | true => exact .inl ⟨.inl rfl, 9, by omega, rfl⟩
  | false =>
  rw [cond_false]
  dsimp only
  rw [w01, show decide ((1 : Int) < 2) = true from rfl, cond_true, ix2b, Option.bind_some, R_bag_Join_s2 n _ _ b n _ _ _ _ _ (by omega) fb, short_fold]
  cases h2 : short k b with
  | true => exact .inl ⟨.inr (.inl rfl), 9, by omega, rfl⟩
  | false =>
  rw [cond_false]
  dsimp only
  rw [w12, show decide ((2 : Int) < 2) = false from rfl, cond_false]
  have hpw : a.length * b.length ≤ 9000000000000000000 → IntKind.wrap .i64 ((a.length : Int) * (b.length : Int)) = ((a.length * b.length : Nat) : Int) := by
    intro hp
    have e : (a.length : Int) * (b.length : Int) = ((a.length * b.length : Nat) : Int) := by push_cast; rfl
    rw [e]
    generalize a.length * b.length = q at *
    exact wrap64 (by omega) (by omega)
  cases h3 : decide (IntKind.wrap .i64 ((a.length : Int) * (b.length : Int)) > 20000) with
  | true =>
    refine .inl ⟨.inr (.inr (.inr (.inr (.inl fun hle => ?_)))), 2, by omega, rfl⟩
    have := of_decide_eq_true h3
    rw [hpw (by omega)] at this
    omega
  | false =>
  rw [cond_false]
  unfold bag_both_bag_Join_1_c
  dsimp only
  rw [two_rounds _ (by omega)]
  generalize iterN _ (n - 3) = RS
  unfold bag_both_bag_Join_1_c_s0
  dsimp only
  rw [show decide ((0 : Int) < 2) = true from rfl, cond_true, ix2a, Option.bind_some, ca, Option.bind_some]
  dsimp only
  cases h4 : bgE a != 0 with
  | true => exact .inl ⟨.inr (.inr (.inl (bne_iff_ne.1 h4))), bgE a, bne_iff_ne.1 h4, rfl⟩
  | false =>
  rw [cond_false, w01, show decide ((1 : Int) < 2) = true from rfl, cond_true, ix2b, Option.bind_some, cb, Option.bind_some]
  dsimp only
  cases h5 : bgE b != 0 with
  | true => exact .inl ⟨.inr (.inr (.inr (.inl (bne_iff_ne.1 h5)))), bgE b, bne_iff_ne.1 h5, rfl⟩
  | false =>
  have ha : bgE a = 0 := by simpa using h4
  have hb : bgE b = 0 := by simpa using h5
  rw [cond_false, w12, show decide ((2 : Int) < 2) = false from rfl, cond_false]
  obtain ⟨cba, na⟩ := bgE_cb ha
  obtain ⟨cbb, nb⟩ := bgE_cb hb
  obtain ⟨la2, ra2⟩ := bgE_0 ha
  obtain ⟨lb2, rb2⟩ := bgE_0 hb
  have hpl : a.length * b.length ≤ 20000 := by
    have h6 : a.length * b.length ≤ 2000 * 2000 := Nat.mul_le_mul la2 lb2
    have := of_decide_eq_false h3
    rw [hpw (by omega)] at this
    omega
  have ja : JOk k n a := ⟨fun c hc => ⟨short_false h1 c hc, (ra2 c hc).1⟩, fun c hc => (wa c hc).1.2, fun c hc => by have := ra c hc; omega, fun c hc => ⟨na c hc, cba.2 c hc⟩⟩
  have jb : JOk k n b := ⟨fun c hc => ⟨short_false h2 c hc, (rb2 c hc).1⟩, fun c hc => (wb c hc).1.2, fun c hc => by have := rb c hc; omega, fun c hc => ⟨nb c hc, cbb.2 c hc⟩⟩
  have hjl := jA_loop n k (by omega) a b ja jb (by omega) (by omega) (fun (v59, o60, o61, o62, o63, _) => some (v59, (o60.1, ()), (o61.1, ()), (o62.1, ()), (o63.1, ()), ()))
    (fun (o54, o55, o56, o57, o58, _) => (bag_Gather n (o54, ())).bind fun (y64, _) => some (y64, (o55.1, ()), (o56.1, ()), (o57.1, ()), (o58.1, ()), ())) a [] [] n rfl (by simpa using hpl) (by omega)
  have hJ1 : bag_Join_1 n ((a, ()), (b, ()), ((k : Int), ()), (false, ()), ()) = match jA k b a with
      | none => some ([], (a, ()), (b, ()), ((k : Int), ()), (true, ()), ())
      | some u => (bag_Gather n (u, ())).bind fun z => some (z.1, (a, ()), (b, ()), ((k : Int), ()), (false, ()), ()) := by
    unfold bag_Join_1
    refine hjl.trans ?_
    cases jA k b a <;> rfl
  rw [hJ1]
  cases hj : jA k b a with
  | none =>
    dsimp only
    rw [Option.bind_some]
    dsimp only
    have cn := bcheck2 [] n K (by intro c hc; cases hc) (by intro c hc; cases hc) (by simp) (by omega)
    rw [cn, Option.bind_some]
    exact .inl ⟨.inr (.inr (.inr (.inr (.inr rfl)))), 9, by omega, rfl⟩
  | some u =>
    dsimp only
    obtain ⟨lu, ru⟩ := jA_rows k b hj
    obtain ⟨o, o1, o2, o3, o4, o5, o6, o7, o8⟩ := gather2 u n (2 * K) 1099511627776 (by omega) (fun c hc => by
      obtain ⟨x, hx, y, hy, rfl, hov⟩ := ru c hc
      have hbd := ovp_ok (na x hx) (cba.2 x hx) (nb y hy) hov
      unfold jrow
      dsimp only
      refine ⟨?_, fun v hv => ?_, chks_of fun v hv => ?_, hbd.1, hbd.2⟩
      · rw [List.length_append, List.length_drop]
        have := (ra2 x hx).1
        have := (rb2 y hy).1
        omega
      · rcases List.mem_append.1 hv with h | h
        · exact (wa x hx).1.2 v h
        · exact (wb y hy).1.2 v (List.mem_of_mem_drop h)
      · rcases List.mem_append.1 hv with h | h
        · exact chks_0 (ra2 x hx).2 v h
        · exact chks_0 (rb2 y hy).2 v (List.mem_of_mem_drop h)) (fun c hc => by
      obtain ⟨x, hx, y, hy, rfl, hov⟩ := ru c hc
      unfold jrow
      dsimp only
      rw [lSz_append]
      have := ra x hx
      have := rb y hy
      have := lSz_drop y.r k
      omega) (by omega) (by omega) (by omega)
    rw [o1, Option.bind_some, Option.bind_some]
    dsimp only
    rw [o8, Option.bind_some]
    dsimp only
    refine .inr ⟨rfl, rfl, ha, hb, u, rfl, hpl, o, o2, o3, by omega, o6, o7, ?_⟩
    cases bgE o != 0 <;> rfl
end Pure


/- The law BagOnce. No program. -/
namespace Pure
open Esp Ev Go
set_option linter.unusedSimpArgs false
set_option linter.unusedVariables false

theorem RB_self (a : List Cnt) {K : Nat} (h : bSz a + 6 ≤ K) : RB K a := fun c hc => by have := bSz_mem hc; omega
theorem one_ok : bgE [⟨[], 1⟩] = 0 := by kernel_rfl
theorem jA_one : ∀ (a : List Cnt), (∀ c ∈ a, (-1099511627776 ≤ c.n ∧ c.n ≤ 1099511627776) ∧ c.n ≠ 0) → jA 0 [⟨[], 1⟩] a = some a
  | [], _ => rfl
  | x :: a, h => by
    have hx := h x (by simp)
    have h1 : jB 0 x [⟨[], 1⟩] = some [x] := by
      rw [jB]
      have e1 : mt 0 x.r [] = true := rfl
      have e2 : ovp x ⟨[], 1⟩ = false := by
        unfold ovp
        dsimp only
        rw [decide_eq_false_iff_not, sz_ok hx.1, sz_ok (by omega)]
        have hq : bquo .i64 1099511627776 (x.n.natAbs : Int) = ((1099511627776 / x.n.natAbs : Nat) : Int) := by
          unfold bquo
          have : (1099511627776 : Int).tdiv (x.n.natAbs : Int) = ((1099511627776 / x.n.natAbs : Nat) : Int) := rfl
          have h2 : 1099511627776 / x.n.natAbs ≤ 1099511627776 := Nat.div_le_self _ _
          rw [this]
          generalize 1099511627776 / x.n.natAbs = q at *
          exact wrap64 (by omega) (by omega)
        rw [hq]
        have : 1 ≤ 1099511627776 / x.n.natAbs := (Nat.le_div_iff_mul_le (by omega)).2 (by omega)
        generalize 1099511627776 / x.n.natAbs = q at *
        have e3 : (1 : Int).natAbs = 1 := rfl
        rw [e3]
        omega
      rw [e1, cond_true, e2, cond_false]
      have e4 : jrow 0 x ⟨[], 1⟩ = x := by unfold jrow; simp
      rw [jB, e4]
      rfl
    rw [jA, h1, Option.bind_some, jA_one a fun c hc => h c (by simp [hc])]
    rfl
end Pure


/- Columns are picked. No program. -/
namespace Pure
open Esp Ev Go
set_option linter.unusedSimpArgs false
set_option linter.unusedVariables false

/-! ## sums over a bag -/
def SG (g : List Val → Int) : List Cnt → Int
  | [] => 0
  | c :: l => c.n * g c.r + SG g l
theorem SG_append (g) : ∀ l m, SG g (l ++ m) = SG g l + SG g m
  | [], m => by simp [SG]
  | c :: l, m => by simp only [List.cons_append, SG, SG_append g l m]; omega
theorem SG_times (g) (k : Int) : ∀ l, SG g (times k l) = k * SG g l
  | [] => by simp [SG, times]
  | c :: l => by
    have := SG_times g k l
    unfold times at this ⊢
    rw [List.map_cons, SG, SG, this, Int.mul_add]
    dsimp only
    rw [Int.mul_right_comm, Int.mul_comm]
/-- those of a row, and the others -/
theorem SG_split (g) (r : List Val) : ∀ l : List Cnt, SG g l = cf l r * g r + SG g (l.filter fun c => !(ordL c.r r == 0))
  | [] => by simp [SG, cf]
  | c :: l => by
    rw [SG, SG_split g r l, List.filter_cons, cf]
    cases h : ordL c.r r == 0 with
    | true =>
      have e := (row_beq _ _).1 h
      simp only [Bool.not_true, Bool.false_eq_true, if_false, cond_true]
      rw [e, Int.add_mul]
      omega
    | false =>
      simp only [Bool.not_false, if_true, cond_false, SG]
      rw [Int.zero_add]
      omega
theorem cf_others (r w : List Val) : ∀ l : List Cnt, cf (l.filter fun c => !(ordL c.r r == 0)) w = bif ordL r w == 0 then 0 else cf l w
  | [] => by cases ordL r w == 0 <;> rfl
  | c :: l => by
    have ih := cf_others r w l
    rw [List.filter_cons]
    cases h : ordL c.r r == 0 with
    | true =>
      have e := (row_beq _ _).1 h
      simp only [Bool.not_true, Bool.false_eq_true, if_false]
      rw [ih, cf, e]
      cases ordL r w == 0 with
      | true => rfl
      | false => simp
    | false =>
      simp only [Bool.not_false, if_true]
      rw [cf, ih, cf]
      cases h2 : ordL r w == 0 with
      | true =>
        have e2 := (row_beq _ _).1 h2
        rw [← e2, h]
        rfl
      | false => rfl
theorem SG_zero (g) : ∀ (k : Nat) (l : List Cnt), l.length ≤ k → (∀ w, cf l w = 0) → SG g l = 0
  | _, [], _, _ => rfl
  | 0, c :: l, h, _ => by simp at h
  | k + 1, c :: l, h, h0 => by
    rw [SG_split g c.r, h0, Int.zero_mul, Int.zero_add]
    refine SG_zero g k _ ?_ fun w => ?_
    · rw [List.filter_cons, (row_beq c.r c.r).2 rfl]
      have := List.length_filter_le (fun c_1 : Cnt => !(ordL c_1.r c.r == 0)) l
      simp at h ⊢
      omega
    · rw [cf_others, h0]
      cases ordL c.r w == 0 <;> rfl
theorem SG_eq (g) {l m : List Cnt} (h : ∀ w, cf l w = cf m w) : SG g l = SG g m := by
  have := SG_zero g _ (l ++ times (-1) m) (Nat.le_refl _) fun w => by rw [cf_append, cf_times, h]; omega
  rw [SG_append, SG_times] at this
  omega

/-! ## picking -/
def inr (cs : List Int) (r : List Val) : Bool := cs.all fun k => !((decide (k < 0)) || (decide (k ≥ (r.length : Int))))
def pk (cs : List Int) (r : List Val) : List Val := cs.filterMap fun k => ix r k
def pick (cs : List Int) (a : List Cnt) : List Cnt := a.map fun c => ⟨pk cs c.r, c.n⟩
theorem cf_pick (cs : List Int) (w : List Val) : ∀ a, cf (pick cs a) w = SG (fun r => bif ordL (pk cs r) w == 0 then 1 else 0) a
  | [] => rfl
  | c :: a => by
    have := cf_pick cs w a
    unfold pick at this ⊢
    rw [List.map_cons, cf, SG, this]
    dsimp only
    cases ordL (pk cs c.r) w == 0 <;> simp
theorem ix_inr {k : Int} {r : List Val} (h : (!((decide (k < 0)) || (decide (k ≥ (r.length : Int))))) = true) : ∃ v, ix r k = some v := by
  rw [Bool.not_eq_true', Bool.or_eq_false_iff, decide_eq_false_iff_not, decide_eq_false_iff_not] at h
  unfold ix
  rw [if_pos (by omega)]
  exact ⟨r[k.toNat]'(by omega), by simp⟩
theorem pk_mem {cs : List Int} {r : List Val} {v : Val} (h : v ∈ pk cs r) : v ∈ r := by
  obtain ⟨k, _, hk⟩ := List.mem_filterMap.1 h
  exact ix_mem hk
theorem pk_length (cs : List Int) (r : List Val) : (pk cs r).length ≤ cs.length := List.length_filterMap_le _ _
theorem pk_sz (r : List Val) : ∀ cs : List Int, lSz (pk cs r) ≤ cs.length * (lSz r + 2)
  | [] => by simp [pk, lSz]
  | k :: cs => by
    have ih := pk_sz r cs
    unfold pk at ih ⊢
    rw [List.filterMap_cons, List.length_cons, Nat.add_mul, Nat.one_mul]
    cases h : ix r k with
    | none => dsimp only; omega
    | some v =>
      have := lSz_mem (ix_mem h)
      dsimp only
      rw [lSz]
      omega
end Pure

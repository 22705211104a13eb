/- Several texts in one (merge.py). -/
import Derived.Test.YtohlmpgbpkeboaaDoorPA
import Derived.KernelRfl
/- Values: sameness and what is ahead, the plain part. No program. -/
namespace Pure
open Esp Ev Go
set_option linter.unusedSimpArgs false
set_option linter.unusedVariables false
set_option linter.unusedSimpArgs false
set_option linter.unusedVariables false

/-- no truth (2), or one -/
def tV (c : Int) : Val := bif c == 2 then .mk 0 0 ⟨#[]⟩ [] else .mk 1 c ⟨#[]⟩ []
mutual
def smV : Val → Val → Int
  | .mk k a s l, .mk k' a' s' l' => bif (k == 0) || (k' == 0) then 2 else bif (k != 4) || (k' != 4) then (bif ordV (.mk k a s l) (.mk k' a' s' l') == 0 then 1 else 0) else bif (l.length : Int) != (l'.length : Int) then 0 else smL 1 l l'
def smL (acc : Int) : List Val → List Val → Int
  | x :: r, y :: t => bif smV x y == 2 then smL 2 r t else bif smV x y == 0 then 0 else smL acc r t
  | _, _ => acc
end
theorem smL_rng {l : List Val} (h : ∀ x ∈ l, ∀ y, smV x y = 0 ∨ smV x y = 1 ∨ smV x y = 2) : ∀ (acc : Int) (m : List Val), (acc = 1 ∨ acc = 2) → smL acc l m = 0 ∨ smL acc l m = 1 ∨ smL acc l m = 2 := by
  induction l with
  | nil => intro acc m ha; rw [smL]; · omega
           intro x r y t h; cases h
  | cons x r ih =>
    intro acc m ha
    cases m with
    | nil => rw [smL]; · omega
             intro x r y t _ h; cases h
    | cons y t =>
      rw [smL]
      have ih' := ih fun z hz => h z (by simp [hz])
      cases smV x y == 2
      · rw [cond_false]
        cases smV x y == 0
        · rw [cond_false]; exact ih' acc t ha
        · exact .inl rfl
      · rw [cond_true]; exact ih' 2 t (.inr rfl)
theorem smV_rng (v : Val) : ∀ w, smV v w = 0 ∨ smV v w = 1 ∨ smV v w = 2 := by
  induction v using val_ind with
  | _ k a s l ih =>
    intro w
    obtain ⟨k', a', s', l'⟩ := w
    rw [smV]
    cases (k == 0) || (k' == 0)
    · rw [cond_false]
      cases (k != 4) || (k' != 4)
      · rw [cond_false]
        cases (l.length : Int) != (l'.length : Int)
        · rw [cond_false]; exact smL_rng ih 1 l' (.inl rfl)
        · exact .inl rfl
      · rw [cond_true]
        cases ordV (.mk k a s l) (.mk k' a' s' l') == 0
        · exact .inl rfl
        · exact .inr (.inl rfl)
    · exact .inr (.inr rfl)
theorem tV_kind {c : Int} : ((tV c).kind == 0) = (c == 2) := by
  unfold tV; cases h : c == 2 <;> rfl
theorem tV_n {c : Int} (h : (c == 2) = false) : (tV c).n = c := by
  unfold tV; rw [h]; rfl
theorem tV_right (c : Int) (h : c = 0 ∨ c = 1 ∨ c = 2) (d : Int) : Right (tV c) d := by
  rcases h with h | h | h
  · subst h; exact .truth 0 d (.inl rfl)
  · subst h; exact .truth 1 d (.inr rfl)
  · subst h; exact .null d
theorem neI {a b : Nat} (h : ((a : Int) != (b : Int)) = false) : a = b := by
  have h2 : (a : Int) = b := by simpa using h
  omega
theorem ordV_refl (v : Val) : ordV v v = 0 := (ordV_zero v v).2 rfl
/-- of values that are right: what is the same is one, what is not is not -/
theorem smL_right {l : List Val} {d : Int} (h : ∀ x ∈ l, ∀ y, Right x d → Right y d → (smV x y = 1 → x = y) ∧ (smV x y = 0 → x ≠ y)) : ∀ (acc : Int) (m : List Val), (acc = 1 ∨ acc = 2) → (∀ x ∈ l, Right x d) → (∀ y ∈ m, Right y d) → l.length = m.length → (smL acc l m = 1 → l = m) ∧ (smL acc l m = 0 → l ≠ m) := by
  induction l with
  | nil =>
    intro acc m ha _ _ hl
    cases m with
    | nil => rw [smL]; · exact ⟨fun _ => rfl, fun h => by omega⟩
             intro x r y t h; cases h
    | cons y t => simp at hl
  | cons x r ih =>
    intro acc m ha h1 h2 hl
    cases m with
    | nil => simp at hl
    | cons y t =>
      have hxy := h x (by simp) y (h1 x (by simp)) (h2 y (by simp))
      have ih' := fun acc ha => ih (fun z hz => h z (by simp [hz])) acc t ha (fun z hz => h1 z (by simp [hz])) (fun z hz => h2 z (by simp [hz])) (by simpa using hl)
      have h01 := smL_rng (l := r) (fun x _ y => smV_rng x y)
      rw [smL]
      rcases smV_rng x y with e | e | e
      · rw [e]
        exact ⟨fun h => absurd (show (0 : Int) = 1 from h) (by decide), fun _ hh => hxy.2 e (by cases hh; rfl)⟩
      · rw [e]
        have ih2 := ih' acc ha
        have e1 := hxy.1 e
        subst e1
        exact ⟨fun h => (by rw [ih2.1 h]), fun h hh => ih2.2 h (by cases hh; rfl)⟩
      · rw [e]
        have ih2 := ih' 2 (.inr rfl)
        exact ⟨fun h => absurd h (smL_two r t), fun h hh => ih2.2 h (by cases hh; rfl)⟩
where
  smL_two : ∀ (r t : List Val), ¬ smL 2 r t = 1
    | [], t => by
      rw [smL]; · omega
      intro x r y t h; cases h
    | x :: r, [] => by
      rw [smL]; · omega
      intro x r y t _ h; cases h
    | x :: r, y :: t => by
      rw [smL]
      cases smV x y == 2
      · rw [cond_false]
        cases smV x y == 0
        · rw [cond_false]; exact smL_two r t
        · intro h; cases h
      · rw [cond_true]; exact smL_two r t
theorem right_list {n : Int} {s : ByteArray} {l : List Val} {d : Int} (h : Right (.mk 4 n s l) d) : n = 0 ∧ s = ⟨#[]⟩ ∧ ∀ x ∈ l, Right x (d + 1) := by
  cases h with
  | list l d h4 h5 h6 => exact ⟨rfl, rfl, h6⟩
theorem smV_right (v : Val) : ∀ (w : Val) (d : Int), Right v d → Right w d → (smV v w = 1 → v = w) ∧ (smV v w = 0 → v ≠ w) := by
  induction v using val_ind with
  | _ k a s l ih =>
    intro w d hv hw
    obtain ⟨k', a', s', l'⟩ := w
    rw [smV]
    cases h0 : (k == 0) || (k' == 0)
    · rw [cond_false]
      cases h4 : (k != 4) || (k' != 4)
      · rw [cond_false]
        obtain ⟨hk, hk'⟩ := Bool.or_eq_false_iff.1 h4
        have hk : k = 4 := by simpa using hk
        have hk' : k' = 4 := by simpa using hk'
        subst hk; subst hk'
        obtain ⟨rfl, rfl, h6⟩ := right_list hv
        obtain ⟨rfl, rfl, h6'⟩ := right_list hw
        cases hl : (l.length : Int) != (l'.length : Int)
        · rw [cond_false]
          have hl : l.length = l'.length := neI hl
          have := smL_right (d := d + 1) (fun x hx y h1 h2 => ih x hx y (d + 1) h1 h2) 1 l' (.inl rfl) h6 h6' hl
          exact ⟨fun h => (by rw [this.1 h]), fun h hh => this.2 h (by cases hh; rfl)⟩
        · refine ⟨fun h => absurd (show (0 : Int) = 1 from h) (by decide), fun _ hh => ?_⟩
          cases hh
          simp at hl
      · rw [cond_true]
        cases ho : ordV (.mk k a s l) (.mk k' a' s' l') == 0
        · refine ⟨fun h => absurd (show (0 : Int) = 1 from h) (by decide), fun _ hh => ?_⟩
          rw [hh, ordV_refl] at ho
          cases ho
        · exact ⟨fun _ => (ordV_zero _ _).1 (by simpa using ho), fun h => absurd (show (1 : Int) = 0 from h) (by decide)⟩
    · exact ⟨fun h => absurd (show (2 : Int) = 1 from h) (by decide), fun h => absurd (show (2 : Int) = 0 from h) (by decide)⟩
def lsV (v w : Val) : Int := bif (v.kind != w.kind) || ((v.kind != 2) && (v.kind != 3)) then 2 else bif decide (ordV v w < 0) then 1 else 0
theorem lsV_rng (v w : Val) : lsV v w = 0 ∨ lsV v w = 1 ∨ lsV v w = 2 := by
  unfold lsV
  cases (v.kind != w.kind) || ((v.kind != 2) && (v.kind != 3))
  · cases decide (ordV v w < 0)
    · exact .inl rfl
    · exact .inr (.inl rfl)
  · exact .inr (.inr rfl)
theorem ordV_rng (v : Val) : ∀ w, -1 ≤ ordV v w ∧ ordV v w ≤ 1 := by
  have hI : ∀ a b, -1 ≤ cmpI a b ∧ cmpI a b ≤ 1 := fun a b => by
    unfold cmpI
    cases decide (a < b)
    · cases decide (a > b) <;> simp
    · simp
  have hS : ∀ a b, -1 ≤ cmpS a b ∧ cmpS a b ≤ 1 := fun a b => by
    unfold cmpS
    cases sless a b
    · cases seq a b <;> simp
    · simp
  have hb : ∀ a b : Int, (-1 ≤ a ∧ a ≤ 1) → (-1 ≤ b ∧ b ≤ 1) → -1 ≤ (bif a != 0 then a else b) ∧ (bif a != 0 then a else b) ≤ 1 := fun a b h1 h2 => by
    cases a != 0
    · exact h2
    · exact h1
  induction v using val_ind with
  | _ k a s l ih =>
    intro w
    obtain ⟨k', a', s', l'⟩ := w
    rw [ordV]
    refine hb _ _ (hI _ _) (hb _ _ (hI _ _) (hb _ _ (hS _ _) ?_))
    clear hI hS
    induction l generalizing l' with
    | nil => cases l' <;> simp [ordL]
    | cons x r ih2 =>
      cases l' with
      | nil => simp [ordL]
      | cons y t => rw [ordL]; exact hb _ _ (ih x (by simp) y) (ih2 (fun z hz => ih z (by simp [hz])) t)
end Pure

/- Values: sameness and what is ahead, as the code has them; the laws of order. No program. -/
namespace Pure
open Esp Ev Go
set_option linter.unusedSimpArgs false
set_option linter.unusedVariables false

theorem truth_ok (b : Bool) : value_truth (b, ()) = some (tV (bif b then 1 else 0), ()) := by cases b <;> rfl
theorem Truth_ok (c : Int) : espalierref_Truth (c, ()) = some (tV c, ()) := by
  unfold espalierref_Truth tV
  dsimp only
  cases c == 2 <;> rfl
theorem same_loop {ρ : Type} (self : Val × Val × Unit → Option (Val × Unit)) (n : Nat) (v w : Val) (hv : v.l.length ≤ maxLen) (hs : ∀ x ∈ v.l, ∀ y ∈ w.l, self (x, y, ()) = some (tV (smV x y), ())) (kx : (Val × Unit) × (Val × Unit) × Unit → Option ρ) (kr : (Val × Unit) × Unit → Option ρ) :
    ∀ (r p r' p' : List Val) (u : Val) (acc : Int), v.l = p ++ r → w.l = p' ++ r' → p.length = p'.length → r.length = r'.length → (acc = 1 ∨ acc = 2) → ∀ fuel, r.length < fuel →
    ∃ u', iterN (fun rc => value_Same_s0 self n rc kx kr) fuel ((v.l.length : Int), (p.length : Int), (v, ()), (w, ()), (u, ()), (tV acc, ()), ()) = bif smL acc r r' == 0 then kr ((tV 0, ()), ()) else kx ((u', ()), (tV (smL acc r r'), ()), ()) := by
  intro r
  induction r with
  | nil =>
    intro p r' p' u acc h1 h2 h3 h4 ha fuel hf
    obtain ⟨m, rfl⟩ : ∃ m, fuel = m + 1 := ⟨fuel - 1, by omega⟩
    have e : decide ((p.length : Int) < (v.l.length : Int)) = false := by rw [decide_eq_false_iff_not, h1]; simp
    have hr : r' = [] := by cases r' with
      | nil => rfl
      | cons y t => simp at h4
    subst hr
    refine ⟨u, ?_⟩
    rw [iterN]
    unfold value_Same_s0
    dsimp only
    rw [e, cond_false, smL]
    · have : (acc == 0) = false := by rcases ha with rfl | rfl <;> rfl
      rw [this, cond_false]
      simp only [Val.eta]
    · intro x xs y ys h; cases h
  | cons x r ih =>
    intro p r' p' u acc h1 h2 h3 h4 ha fuel hf
    obtain ⟨m, rfl⟩ : ∃ m, fuel = m + 1 := ⟨fuel - 1, by omega⟩
    cases r' with
    | nil => simp at h4
    | cons y r' =>
      have hlen : v.l.length = p.length + (r.length + 1) := by rw [h1]; simp
      have e : decide ((p.length : Int) < (v.l.length : Int)) = true := by rw [decide_eq_true_iff]; omega
      have e3 : ix v.l (p.length : Int) = some x := ix_ok (by rw [h1]; simp)
      have e4 : ix w.l (p.length : Int) = some y := by rw [h3]; exact ix_ok (by rw [h2]; simp)
      have e5 : IntKind.wrap .i64 ((p.length : Int) + 1) = ((p ++ [x]).length : Int) := by unfold maxLen at hv; rw [wrap64 (by omega) (by omega)]; simp
      have i1 := fun u acc ha => ih (p ++ [x]) r' (p' ++ [y]) u acc (by simp [h1]) (by simp [h2]) (by simp [h3]) (by simpa using h4) ha m (by simp at hf; omega)
      have hxy := hs x (by rw [h1]; simp) y (by rw [h2]; simp)
      rw [iterN]
      generalize iterN (fun rc => value_Same_s0 self n rc kx kr) m = R at i1 ⊢
      unfold value_Same_s0
      dsimp only
      simp only [e, e3, e4, e5, cond_true, Option.bind_some, Val.eta, hxy, smL, tV_kind]
      cases hc : smV x y == 2
      · simp only [cond_false]
        rw [tV_n hc]
        cases hz : smV x y == 0
        · simp only [cond_false]
          exact i1 u acc ha
        · have hz' : smV x y = 0 := by simpa using hz
          rw [hz']
          exact ⟨u, rfl⟩
      · have hc' : smV x y = 2 := by simpa using hc
        rw [hc']
        simp only [cond_true]
        exact i1 _ 2 (.inr rfl)
theorem sameV_ok (v : Val) : ∀ (w : Val) (n : Nat), vOk v → vSz v + 7 ≤ n → value_Same n (v, w, ()) = some (tV (smV v w), ()) := by
  induction v using val_ind with
  | _ k a s l ih =>
    intro w n hok hn
    obtain ⟨k', a', s', l'⟩ := w
    obtain ⟨m, rfl⟩ : ∃ m, n = m + 1 := ⟨n - 1, by omega⟩
    obtain ⟨h1, h2⟩ := vOk_l hok
    have hord := order2_ok (.mk k a s l) (.mk k' a' s' l') m hok (by omega)
    rw [vSz] at hn
    have hl := lSz_length l
    rw [value_Same]
    unfold value_Same_b
    dsimp +instances only [kind_mk, n_mk, s_mk, l_mk]
    rw [smV]
    cases h0 : (k == 0) || (k' == 0)
    · simp only [cond_false]
      cases h4 : (k != 4) || (k' != 4)
      · simp only [cond_false]
        cases hll : (l.length : Int) != (l'.length : Int)
        · have hll' : l.length = l'.length := neI hll
          simp only [cond_false]
          rw [truth_ok, Option.bind_some]
          dsimp only
          obtain ⟨u', key⟩ := same_loop (ρ := Val × Unit) (value_Same m) m (.mk k a s l) (.mk k' a' s' l') h1 (fun x hx y hy => ih x hx y m (h2 x hx) (by have := lSz_mem (show x ∈ l from hx); omega)) (fun z => some (z.2.1.1, ())) (fun z => some (z.1.1, ())) l [] l' [] (.mk 0 0 ⟨#[]⟩ []) 1 rfl rfl rfl hll' (.inl rfl) m (by omega)
          simp only [Val.eta]
          refine Eq.trans key ?_
          cases hz : smL 1 l l' == 0
          · rfl
          · have hz' : smL 1 l l' = 0 := by simpa using hz
            rw [hz']; rfl
        · rfl
      · simp only [cond_true]
        rw [hord, Option.bind_some]
        dsimp only
        rw [truth_ok]
        cases ordV (.mk k a s l) (.mk k' a' s' l') == 0 <;> rfl
    · rfl
theorem sameOf_loop {ρ : Type} (self : Val × Val × Unit → Option (Val × Unit)) (n : Nat) (v w o : Val) (hv : v.l.length ≤ maxLen) (hs : ∀ x ∈ v.l, ∀ y ∈ w.l, self (x, y, ()) = some (tV (smV x y), ())) (kx : Bool × (Val × Unit) × Unit → Option ρ) (kr : (Val × Unit) × Unit → Option ρ) :
    ∀ (r p r' p' : List Val) (u : Bool), v.l = p ++ r → w.l = p' ++ r' → p.length = p'.length → r.length = r'.length → ∀ fuel, r.length < fuel →
    ∃ o', iterN (fun rc => espalierref_SameOf_s0 self n rc kx kr) fuel (u, (v.l.length : Int), (p.length : Int), (v, ()), (w, ()), (o, ()), ()) = bif smL (bif u then 2 else 1) r r' == 0 then kr ((tV 0, ()), ()) else kx (smL (bif u then 2 else 1) r r' == 2, (o', ()), ()) := by
  intro r
  induction r with
  | nil =>
    intro p r' p' u h1 h2 h3 h4 fuel hf
    obtain ⟨m, rfl⟩ : ∃ m, fuel = m + 1 := ⟨fuel - 1, by omega⟩
    have e : decide ((p.length : Int) < (v.l.length : Int)) = false := by rw [decide_eq_false_iff_not, h1]; simp
    have hr : r' = [] := by cases r' with
      | nil => rfl
      | cons y t => simp at h4
    subst hr
    refine ⟨o, ?_⟩
    rw [iterN]
    unfold espalierref_SameOf_s0
    dsimp only
    rw [e, cond_false, smL]
    · simp only [Val.eta]
      cases u <;> rfl
    · intro x xs y ys h; cases h
  | cons x r ih =>
    intro p r' p' u h1 h2 h3 h4 fuel hf
    obtain ⟨m, rfl⟩ : ∃ m, fuel = m + 1 := ⟨fuel - 1, by omega⟩
    cases r' with
    | nil => simp at h4
    | cons y r' =>
      have hlen : v.l.length = p.length + (r.length + 1) := by rw [h1]; simp
      have e : decide ((p.length : Int) < (v.l.length : Int)) = true := by rw [decide_eq_true_iff]; omega
      have e3 : ix v.l (p.length : Int) = some x := ix_ok (by rw [h1]; simp)
      have e4 : ix w.l (p.length : Int) = some y := by rw [h3]; exact ix_ok (by rw [h2]; simp)
      have e5 : IntKind.wrap .i64 ((p.length : Int) + 1) = ((p ++ [x]).length : Int) := by unfold maxLen at hv; rw [wrap64 (by omega) (by omega)]; simp
      have i1 := fun u => ih (p ++ [x]) r' (p' ++ [y]) u (by simp [h1]) (by simp [h2]) (by simp [h3]) (by simpa using h4) m (by simp at hf; omega)
      have hxy := hs x (by rw [h1]; simp) y (by rw [h2]; simp)
      rw [iterN]
      generalize iterN (fun rc => espalierref_SameOf_s0 self n rc kx kr) m = R at i1 ⊢
      unfold espalierref_SameOf_s0
      dsimp only
      simp only [e, e3, e4, e5, cond_true, Option.bind_some, Val.eta, hxy, smL, tV_kind]
      cases hc : smV x y == 2
      · simp only [cond_false]
        rw [tV_n hc]
        cases hz : smV x y == 0
        · simp only [cond_false]
          exact i1 u
        · refine ⟨o, ?_⟩
          simp only [cond_true]
          rfl
      · have hc' : smV x y = 2 := by simpa using hc
        rw [hc']
        simp only [cond_true]
        exact i1 true
theorem sameOf_ok (v : Val) : ∀ (w : Val) (n : Nat), vOk v → vSz v + 7 ≤ n → espalierref_SameOf n (v, w, ()) = some (tV (smV v w), ()) := by
  induction v using val_ind with
  | _ k a s l ih =>
    intro w n hok hn
    obtain ⟨k', a', s', l'⟩ := w
    obtain ⟨m, rfl⟩ : ∃ m, n = m + 1 := ⟨n - 1, by omega⟩
    obtain ⟨h1, h2⟩ := vOk_l hok
    have hord := orderOf_ok (.mk k a s l) (.mk k' a' s' l') m hok (by omega)
    rw [vSz] at hn
    have hl := lSz_length l
    rw [espalierref_SameOf]
    unfold espalierref_SameOf_b
    dsimp +instances only [kind_mk, n_mk, s_mk, l_mk]
    rw [smV]
    cases h0 : (k == 0) || (k' == 0)
    · simp only [cond_false]
      have h4e : ((k != 4) || (k' != 4)) = !((k == 4) && (k' == 4)) := by
        unfold bne; cases k == 4 <;> cases k' == 4 <;> rfl
      rw [h4e]
      cases h4 : (k == 4) && (k' == 4)
      · simp only [cond_false, Bool.not_false, cond_true]
        unfold espalierref_SameValue
        dsimp only
        simp only [Val.eta]
        rw [hord, Option.bind_some, Option.bind_some]
        dsimp only
        simp only [Truth_ok, Option.bind_some, Val.eta]
        cases ordV (.mk k a s l) (.mk k' a' s' l') == 0 <;> rfl
      · simp only [cond_true, Bool.not_true, cond_false]
        cases hll : (l.length : Int) != (l'.length : Int)
        · have hll' : l.length = l'.length := neI hll
          simp only [cond_false]
          obtain ⟨o', key⟩ := sameOf_loop (ρ := Val × Unit) (espalierref_SameOf m) m (.mk k a s l) (.mk k' a' s' l') (.mk 0 0 ⟨#[]⟩ []) h1 (fun x hx y hy => ih x hx y m (h2 x hx) (by have := lSz_mem (show x ∈ l from hx); omega)) (fun z => bif z.1 then some (tV 2, ()) else some (tV 1, ())) (fun z => some (z.1.1, ())) l [] l' [] false rfl rfl rfl hll' m (by omega)
          simp only [Val.eta, Truth_ok, Option.bind_some]
          refine Eq.trans key ?_
          rw [cond_false]
          rcases smL_rng (l := l) (fun x _ y => smV_rng x y) 1 l' (.inl rfl) with hz | hz | hz <;> rw [hz] <;> rfl
        · rfl
    · rfl
theorem less_ok (v w : Val) (n : Nat) (hok : vOk v) (hn : vSz v + 6 ≤ n) : value_Less n (v, w, ()) = some (tV (lsV v w), ()) := by
  unfold value_Less lsV
  dsimp only
  cases (v.kind != w.kind) || ((v.kind != 2) && (v.kind != 3))
  · simp only [cond_false, Val.eta, order2_ok v w n hok hn, Option.bind_some, truth_ok]
  · rfl
theorem lessOf_ok (v w : Val) (n : Nat) (hok : vOk v) (hn : vSz v + 6 ≤ n) : espalierref_LessOf n (v, w, ()) = some (tV (lsV v w), ()) := by
  unfold espalierref_LessOf lsV
  dsimp only
  cases (v.kind != w.kind) || ((v.kind != 2) && (v.kind != 3))
  · simp only [cond_false, Val.eta, orderOf_ok v w n hok (by omega), Option.bind_some, Truth_ok]
    cases decide (ordV v w < 0) <;> rfl
  · simp only [cond_true, Truth_ok, Option.bind_some, Val.eta]
theorem tV_same (c : Int) (h : c = 0 ∨ c = 1 ∨ c = 2) (n : Nat) : espalierref_SameValue (n + 40) (tV c, tV c, ()) = some (true, ()) := same_ok (tV_right c h 1) (n + 40) (by omega)
theorem valued_ok (n : Nat) : espalierlaw_valued (n + 40) () = some (true, ()) := by kernel_rfl
theorem ValueOrder_ok (v w : Val) (hv : vOk v) (n : Nat) (hn : vSz v + 100 ≤ n) : espalierlaw_ValueOrder n (v, w, ()) = some (true, ()) := by
  obtain ⟨m, rfl⟩ : ∃ m, n = m + 40 := ⟨n - 40, by omega⟩
  have h1 := valued_ok m
  have h2 := order2_ok v w (m + 40) hv (by omega)
  have h3 := orderOf_ok v w (m + 40) hv (by omega)
  have h4 := sameV_ok v w (m + 40) hv (by omega)
  have h5 := sameOf_ok v w (m + 40) hv (by omega)
  have h6 := less_ok v w (m + 40) hv (by omega)
  have h7 := lessOf_ok v w (m + 40) hv (by omega)
  have h8 := tV_same (smV v w) (smV_rng v w) m
  have h9 := tV_same (lsV v w) (lsV_rng v w) m
  unfold espalierlaw_ValueOrder
  dsimp only
  simp only [Val.eta, h1, h2, h3, h4, h5, h6, h7, h8, h9, Option.bind_some, cond_true, beq_self_eq_true]
theorem ValueLess_ok (v w : Val) (hv : vOk v) (hw : vOk w) (n : Nat) (hn : vSz v + vSz w + 100 ≤ n) : espalierlaw_ValueLess n (v, w, ()) = some (true, ()) := by
  obtain ⟨m, rfl⟩ : ∃ m, n = m + 40 := ⟨n - 40, by omega⟩
  have h1 := valued_ok m
  have h2 := less_ok v w (m + 40) hv (by omega)
  have h3 := less_ok w v (m + 40) hw (by omega)
  have h4 := sameV_ok v w (m + 40) hv (by omega)
  unfold espalierlaw_ValueLess
  dsimp only
  simp only [Val.eta, h1, h2, h3, h4, Option.bind_some, tV_kind]
  obtain ⟨k, a, s, l⟩ := v
  obtain ⟨k', a', s', l'⟩ := w
  unfold lsV
  dsimp +instances only [kind_mk]
  by_cases hk : k = k'
  · subst hk
    cases hb : (k != 2) && (k != 3)
    · have hr := ordV_rng (.mk k a s l) (.mk k a' s' l')
      have hg := ordV_neg (.mk k a s l) (.mk k a' s' l')
      have h0 : (k == 0) = false := by
        cases h : k == 0
        · rfl
        · rw [show k = 0 by simpa using h] at hb; cases hb
      have h4 : (k != 4) = true := by
        cases h : k != 4
        · rw [show k = 4 by simpa using h] at hb; cases hb
        · rfl
      rw [smV, h0, h4]
      simp only [bne_self_eq_false, Bool.or_false, cond_false, Bool.true_or, cond_true]
      generalize ordV (.mk k a s l) (.mk k a' s' l') = x at *
      generalize ordV (.mk k a' s' l') (.mk k a s l) = y at *
      have : x = -1 ∨ x = 0 ∨ x = 1 := by omega
      rcases this with rfl | rfl | rfl <;> (have : y = _ := hg; subst this; rfl)
    · simp only [bne_self_eq_false, Bool.false_or]
      rfl
  · have e1 : (k != k') = true := by simpa using hk
    have e2 : (k' != k) = true := by simpa using fun h => hk h.symm
    rw [e1, e2]
    rfl
theorem ValueOrders_ok (v w u : Val) (hv : vOk v) (hw : vOk w) (n : Nat) (hn : vSz v + vSz w + 100 ≤ n) : espalierlaw_ValueOrders n (v, w, u, ()) = some (true, ()) := by
  obtain ⟨m, rfl⟩ : ∃ m, n = m + 40 := ⟨n - 40, by omega⟩
  have h1 := valued_ok m
  have h2 := order2_ok v w (m + 40) hv (by omega)
  have h3 := order2_ok w u (m + 40) hw (by omega)
  have h4 := order2_ok v u (m + 40) hv (by omega)
  have h5 := order2_ok w v (m + 40) hw (by omega)
  have h6 := order2_ok v v (m + 40) hv (by omega)
  have h7 := sameV_ok v w (m + 40) hv (by omega)
  have h8 := Check_ok v (m + 40) (by omega)
  have h9 := Check_ok w (m + 40) (by omega)
  have hr := ordV_rng v w
  have hwr : IntKind.wrap .i64 (0 - ordV v w) = - ordV v w := by rw [wrap64 (by omega) (by omega)]; omega
  unfold espalierlaw_ValueOrders
  dsimp only
  simp only [Val.eta, h1, h2, h3, h4, h5, h6, h7, h8, h9, Option.bind_some, Bool.not_true, cond_false, hwr, ordV_neg v w, ordV_refl, bne_self_eq_false, tV_kind]
  have hord : (((((decide (ordV v w ≤ 0)) && (decide (ordV w u ≤ 0))) && (decide (ordV v u > 0))) || (((decide (ordV v w < 0)) && (decide (ordV w u ≤ 0))) && (decide (ordV v u ≥ 0)))) || (((decide (ordV v w ≤ 0)) && (decide (ordV w u < 0))) && (decide (ordV v u ≥ 0)))) = false := by
    have t := ordV_trans v w u
    by_cases e1 : ordV v w = 0
    · have := (ordV_zero v w).1 e1
      subst this
      simp only [Bool.or_eq_false_iff, Bool.and_eq_false_iff, decide_eq_false_iff_not]
      omega
    · by_cases e2 : ordV w u = 0
      · have := (ordV_zero w u).1 e2
        subst this
        simp only [Bool.or_eq_false_iff, Bool.and_eq_false_iff, decide_eq_false_iff_not]
        omega
      · simp only [Bool.or_eq_false_iff, Bool.and_eq_false_iff, decide_eq_false_iff_not]
        omega
  rw [hord, cond_false]
  cases c1 : chk v 1 != 0
  · rw [cond_false]
    cases c2 : chk w 1 != 0
    · rw [Bool.false_or]
      have r1 := right_of v 1 hv (by simpa using c1)
      have r2 := right_of w 1 hw (by simpa using c2)
      have hs := smV_right v w 1 r1 r2
      rcases smV_rng v w with e | e | e
      · have : ordV v w ≠ 0 := fun h => hs.2 e ((ordV_zero v w).1 h)
        have : (ordV v w == 0) = false := by simpa using this
        rw [e, this]; rfl
      · have : ordV v w = 0 := by rw [hs.1 e]; exact ordV_refl w
        rw [e, this]; rfl
      · rw [e]; rfl
    · rfl
  · rfl
end Pure

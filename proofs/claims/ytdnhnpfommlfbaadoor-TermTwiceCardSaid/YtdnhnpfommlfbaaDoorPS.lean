/- Several texts in one (merge.py). -/
import Derived.Test.YtdnhnpfommlfbaaDoorPA
import Derived.KernelRfl
import Derived.Shelf.Bits.Mul64

/- Values: sameness and what is ahead, the plain part. No program. -/
namespace Pure
open Esp Ev Go
set_option linter.unusedSimpArgs false
set_option linter.unusedVariables false
set_option linter.unusedSimpArgs false
set_option linter.unusedVariables false

/-- no truth (2), or one -/
def tV (c : Int) : Val := bif c == 2 then .mk 0 0 ⟨#[]⟩ [] else .mk 1 c ⟨#[]⟩ []
mutual
def smV : Val → Val → Int
  | .mk k a s l, .mk k' a' s' l' => bif (k == 0) || (k' == 0) then 2 else bif (k != 4) || (k' != 4) then (bif ordV (.mk k a s l) (.mk k' a' s' l') == 0 then 1 else 0) else bif (l.length : Int) != (l'.length : Int) then 0 else smL 1 l l'
def smL (acc : Int) : List Val → List Val → Int
  | x :: r, y :: t => bif smV x y == 2 then smL 2 r t else bif smV x y == 0 then 0 else smL acc r t
  | _, _ => acc
end
theorem smL_rng {l : List Val} (h : ∀ x ∈ l, ∀ y, smV x y = 0 ∨ smV x y = 1 ∨ smV x y = 2) : ∀ (acc : Int) (m : List Val), (acc = 1 ∨ acc = 2) → smL acc l m = 0 ∨ smL acc l m = 1 ∨ smL acc l m = 2 := by
  induction l with
  | nil => intro acc m ha; rw [smL]; · omega
           intro x r y t h; cases h
  | cons x r ih =>
    intro acc m ha
    cases m with
    | nil => rw [smL]; · omega
             intro x r y t _ h; cases h
    | cons y t =>
      rw [smL]
      have ih' := ih fun z hz => h z (by simp [hz])
      cases smV x y == 2
      · rw [cond_false]
        cases smV x y == 0
        · rw [cond_false]; exact ih' acc t ha
        · exact .inl rfl
      · rw [cond_true]; exact ih' 2 t (.inr rfl)
theorem smV_rng (v : Val) : ∀ w, smV v w = 0 ∨ smV v w = 1 ∨ smV v w = 2 := by
  induction v using val_ind with
  | _ k a s l ih =>
    intro w
    obtain ⟨k', a', s', l'⟩ := w
    rw [smV]
    cases (k == 0) || (k' == 0)
    · rw [cond_false]
      cases (k != 4) || (k' != 4)
      · rw [cond_false]
        cases (l.length : Int) != (l'.length : Int)
        · rw [cond_false]; exact smL_rng ih 1 l' (.inl rfl)
        · exact .inl rfl
      · rw [cond_true]
        cases ordV (.mk k a s l) (.mk k' a' s' l') == 0
        · exact .inl rfl
        · exact .inr (.inl rfl)
    · exact .inr (.inr rfl)
theorem tV_kind {c : Int} : ((tV c).kind == 0) = (c == 2) := by
  unfold tV; cases h : c == 2 <;> rfl
theorem tV_n {c : Int} (h : (c == 2) = false) : (tV c).n = c := by
  unfold tV; rw [h]; rfl
theorem tV_right (c : Int) (h : c = 0 ∨ c = 1 ∨ c = 2) (d : Int) : Right (tV c) d := by
  rcases h with h | h | h
  · subst h; exact .truth 0 d (.inl rfl)
  · subst h; exact .truth 1 d (.inr rfl)
  · subst h; exact .null d
theorem neI {a b : Nat} (h : ((a : Int) != (b : Int)) = false) : a = b := by
  have h2 : (a : Int) = b := by simpa using h
  omega
theorem ordV_refl (v : Val) : ordV v v = 0 := (ordV_zero v v).2 rfl
/-- of values that are right: what is the same is one, what is not is not -/
theorem smL_right {l : List Val} {d : Int} (h : ∀ x ∈ l, ∀ y, Right x d → Right y d → (smV x y = 1 → x = y) ∧ (smV x y = 0 → x ≠ y)) : ∀ (acc : Int) (m : List Val), (acc = 1 ∨ acc = 2) → (∀ x ∈ l, Right x d) → (∀ y ∈ m, Right y d) → l.length = m.length → (smL acc l m = 1 → l = m) ∧ (smL acc l m = 0 → l ≠ m) := by
  induction l with
  | nil =>
    intro acc m ha _ _ hl
    cases m with
    | nil => rw [smL]; · exact ⟨fun _ => rfl, fun h => by omega⟩
             intro x r y t h; cases h
    | cons y t => simp at hl
  | cons x r ih =>
    intro acc m ha h1 h2 hl
    cases m with
    | nil => simp at hl
    | cons y t =>
      have hxy := h x (by simp) y (h1 x (by simp)) (h2 y (by simp))
      have ih' := fun acc ha => ih (fun z hz => h z (by simp [hz])) acc t ha (fun z hz => h1 z (by simp [hz])) (fun z hz => h2 z (by simp [hz])) (by simpa using hl)
      have h01 := smL_rng (l := r) (fun x _ y => smV_rng x y)
      rw [smL]
      rcases smV_rng x y with e | e | e
      · rw [e]
        exact ⟨fun h => absurd (show (0 : Int) = 1 from h) (by decide), fun _ hh => hxy.2 e (by cases hh; rfl)⟩
      · rw [e]
        have ih2 := ih' acc ha
        have e1 := hxy.1 e
        subst e1
        exact ⟨fun h => (by rw [ih2.1 h]), fun h hh => ih2.2 h (by cases hh; rfl)⟩
      · rw [e]
        have ih2 := ih' 2 (.inr rfl)
        exact ⟨fun h => absurd h (smL_two r t), fun h hh => ih2.2 h (by cases hh; rfl)⟩
where
  smL_two : ∀ (r t : List Val), ¬ smL 2 r t = 1
    | [], t => by
      rw [smL]; · omega
      intro x r y t h; cases h
    | x :: r, [] => by
      rw [smL]; · omega
      intro x r y t _ h; cases h
    | x :: r, y :: t => by
      rw [smL]
      cases smV x y == 2
      · rw [cond_false]
        cases smV x y == 0
        · rw [cond_false]; exact smL_two r t
        · intro h; cases h
      · rw [cond_true]; exact smL_two r t
theorem right_list {n : Int} {s : ByteArray} {l : List Val} {d : Int} (h : Right (.mk 4 n s l) d) : n = 0 ∧ s = ⟨#[]⟩ ∧ ∀ x ∈ l, Right x (d + 1) := by
  cases h with
  | list l d h4 h5 h6 => exact ⟨rfl, rfl, h6⟩
theorem smV_right (v : Val) : ∀ (w : Val) (d : Int), Right v d → Right w d → (smV v w = 1 → v = w) ∧ (smV v w = 0 → v ≠ w) := by
  induction v using val_ind with
  | _ k a s l ih =>
    intro w d hv hw
    obtain ⟨k', a', s', l'⟩ := w
    rw [smV]
    cases h0 : (k == 0) || (k' == 0)
    · rw [cond_false]
      cases h4 : (k != 4) || (k' != 4)
      · rw [cond_false]
        obtain ⟨hk, hk'⟩ := Bool.or_eq_false_iff.1 h4
        have hk : k = 4 := by simpa using hk
        have hk' : k' = 4 := by simpa using hk'
        subst hk; subst hk'
        obtain ⟨rfl, rfl, h6⟩ := right_list hv
        obtain ⟨rfl, rfl, h6'⟩ := right_list hw
        cases hl : (l.length : Int) != (l'.length : Int)
        · rw [cond_false]
          have hl : l.length = l'.length := neI hl
          have := smL_right (d := d + 1) (fun x hx y h1 h2 => ih x hx y (d + 1) h1 h2) 1 l' (.inl rfl) h6 h6' hl
          exact ⟨fun h => (by rw [this.1 h]), fun h hh => this.2 h (by cases hh; rfl)⟩
        · refine ⟨fun h => absurd (show (0 : Int) = 1 from h) (by decide), fun _ hh => ?_⟩
          cases hh
          simp at hl
      · rw [cond_true]
        cases ho : ordV (.mk k a s l) (.mk k' a' s' l') == 0
        · refine ⟨fun h => absurd (show (0 : Int) = 1 from h) (by decide), fun _ hh => ?_⟩
          rw [hh, ordV_refl] at ho
          cases ho
        · exact ⟨fun _ => (ordV_zero _ _).1 (by simpa using ho), fun h => absurd (show (1 : Int) = 0 from h) (by decide)⟩
    · exact ⟨fun h => absurd (show (2 : Int) = 1 from h) (by decide), fun h => absurd (show (2 : Int) = 0 from h) (by decide)⟩
def lsV (v w : Val) : Int := bif (v.kind != w.kind) || ((v.kind != 2) && (v.kind != 3)) then 2 else bif decide (ordV v w < 0) then 1 else 0
theorem lsV_rng (v w : Val) : lsV v w = 0 ∨ lsV v w = 1 ∨ lsV v w = 2 := by
  unfold lsV
  cases (v.kind != w.kind) || ((v.kind != 2) && (v.kind != 3))
  · cases decide (ordV v w < 0)
    · exact .inl rfl
    · exact .inr (.inl rfl)
  · exact .inr (.inr rfl)
theorem ordV_rng (v : Val) : ∀ w, -1 ≤ ordV v w ∧ ordV v w ≤ 1 := by
  have hI : ∀ a b, -1 ≤ cmpI a b ∧ cmpI a b ≤ 1 := fun a b => by
    unfold cmpI
    cases decide (a < b)
    · cases decide (a > b) <;> simp
    · simp
  have hS : ∀ a b, -1 ≤ cmpS a b ∧ cmpS a b ≤ 1 := fun a b => by
    unfold cmpS
    cases sless a b
    · cases seq a b <;> simp
    · simp
  have hb : ∀ a b : Int, (-1 ≤ a ∧ a ≤ 1) → (-1 ≤ b ∧ b ≤ 1) → -1 ≤ (bif a != 0 then a else b) ∧ (bif a != 0 then a else b) ≤ 1 := fun a b h1 h2 => by
    cases a != 0
    · exact h2
    · exact h1
  induction v using val_ind with
  | _ k a s l ih =>
    intro w
    obtain ⟨k', a', s', l'⟩ := w
    rw [ordV]
    refine hb _ _ (hI _ _) (hb _ _ (hI _ _) (hb _ _ (hS _ _) ?_))
    clear hI hS
    induction l generalizing l' with
    | nil => cases l' <;> simp [ordL]
    | cons x r ih2 =>
      cases l' with
      | nil => simp [ordL]
      | cons y t => rw [ordL]; exact hb _ _ (ih x (by simp) y) (ih2 (fun z hz => ih z (by simp [hz])) t)
end Pure


/- Values: sameness and what is ahead, as the code has them; the laws of order. No program. -/
namespace Pure
open Esp Ev Go
set_option linter.unusedSimpArgs false
set_option linter.unusedVariables false

theorem truth_ok (b : Bool) : value_truth (b, ()) = some (tV (bif b then 1 else 0), ()) := by cases b <;> rfl
theorem Truth_ok (c : Int) : espalierref_Truth (c, ()) = some (tV c, ()) := by
  unfold espalierref_Truth tV
  dsimp only
  cases c == 2 <;> rfl
theorem same_loop {ρ : Type} (self : Val × Val × Unit → Option (Val × Unit)) (n : Nat) (v w : Val) (hv : v.l.length ≤ maxLen) (hs : ∀ x ∈ v.l, ∀ y ∈ w.l, self (x, y, ()) = some (tV (smV x y), ())) (kx : (Val × Unit) × (Val × Unit) × Unit → Option ρ) (kr : (Val × Unit) × Unit → Option ρ) :
    ∀ (r p r' p' : List Val) (u : Val) (acc : Int), v.l = p ++ r → w.l = p' ++ r' → p.length = p'.length → r.length = r'.length → (acc = 1 ∨ acc = 2) → ∀ fuel, r.length < fuel →
    ∃ u', iterN (fun rc => value_Same_s0 self n rc kx kr) fuel ((v.l.length : Int), (p.length : Int), (v, ()), (w, ()), (u, ()), (tV acc, ()), ()) = bif smL acc r r' == 0 then kr ((tV 0, ()), ()) else kx ((u', ()), (tV (smL acc r r'), ()), ()) := by
  intro r
  induction r with
  | nil =>
    intro p r' p' u acc h1 h2 h3 h4 ha fuel hf
    obtain ⟨m, rfl⟩ : ∃ m, fuel = m + 1 := ⟨fuel - 1, by omega⟩
    have e : decide ((p.length : Int) < (v.l.length : Int)) = false := by rw [decide_eq_false_iff_not, h1]; simp
    have hr : r' = [] := by cases r' with
      | nil => rfl
      | cons y t => simp at h4
    subst hr
    refine ⟨u, ?_⟩
    rw [iterN]
    unfold value_Same_s0
    dsimp only
    rw [e, cond_false, smL]
    · have : (acc == 0) = false := by rcases ha with rfl | rfl <;> rfl
      rw [this, cond_false]
      simp only [Val.eta]
    · intro x xs y ys h; cases h
  | cons x r ih =>
    intro p r' p' u acc h1 h2 h3 h4 ha fuel hf
    obtain ⟨m, rfl⟩ : ∃ m, fuel = m + 1 := ⟨fuel - 1, by omega⟩
    cases r' with
    | nil => simp at h4
    | cons y r' =>
      have hlen : v.l.length = p.length + (r.length + 1) := by rw [h1]; simp
      have e : decide ((p.length : Int) < (v.l.length : Int)) = true := by rw [decide_eq_true_iff]; omega
      have e3 : ix v.l (p.length : Int) = some x := ix_ok (by rw [h1]; simp)
      have e4 : ix w.l (p.length : Int) = some y := by rw [h3]; exact ix_ok (by rw [h2]; simp)
      have e5 : IntKind.wrap .i64 ((p.length : Int) + 1) = ((p ++ [x]).length : Int) := by unfold maxLen at hv; rw [wrap64 (by omega) (by omega)]; simp
      have i1 := fun u acc ha => ih (p ++ [x]) r' (p' ++ [y]) u acc (by simp [h1]) (by simp [h2]) (by simp [h3]) (by simpa using h4) ha m (by simp at hf; omega)
      have hxy := hs x (by rw [h1]; simp) y (by rw [h2]; simp)
      rw [iterN]
      generalize iterN (fun rc => value_Same_s0 self n rc kx kr) m = R at i1 ⊢
      unfold value_Same_s0
      dsimp only
      simp only [e, e3, e4, e5, cond_true, Option.bind_some, Val.eta, hxy, smL, tV_kind]
      cases hc : smV x y == 2
      · simp only [cond_false]
        rw [tV_n hc]
        cases hz : smV x y == 0
        · simp only [cond_false]
          exact i1 u acc ha
        · have hz' : smV x y = 0 := by simpa using hz
          rw [hz']
          exact ⟨u, rfl⟩
      · have hc' : smV x y = 2 := by simpa using hc
        rw [hc']
        simp only [cond_true]
        exact i1 _ 2 (.inr rfl)
theorem sameV_ok (v : Val) : ∀ (w : Val) (n : Nat), vOk v → vSz v + 7 ≤ n → value_Same n (v, w, ()) = some (tV (smV v w), ()) := by
  induction v using val_ind with
  | _ k a s l ih =>
    intro w n hok hn
    obtain ⟨k', a', s', l'⟩ := w
    obtain ⟨m, rfl⟩ : ∃ m, n = m + 1 := ⟨n - 1, by omega⟩
    obtain ⟨h1, h2⟩ := vOk_l hok
    have hord := order2_ok (.mk k a s l) (.mk k' a' s' l') m hok (by omega)
    rw [vSz] at hn
    have hl := lSz_length l
    rw [value_Same]
    unfold value_Same_b
    dsimp +instances only [kind_mk, n_mk, s_mk, l_mk]
    rw [smV]
    cases h0 : (k == 0) || (k' == 0)
    · simp only [cond_false]
      cases h4 : (k != 4) || (k' != 4)
      · simp only [cond_false]
        cases hll : (l.length : Int) != (l'.length : Int)
        · have hll' : l.length = l'.length := neI hll
          simp only [cond_false]
          rw [truth_ok, Option.bind_some]
          dsimp only
          obtain ⟨u', key⟩ := same_loop (ρ := Val × Unit) (value_Same m) m (.mk k a s l) (.mk k' a' s' l') h1 (fun x hx y hy => ih x hx y m (h2 x hx) (by have := lSz_mem (show x ∈ l from hx); omega)) (fun z => some (z.2.1.1, ())) (fun z => some (z.1.1, ())) l [] l' [] (.mk 0 0 ⟨#[]⟩ []) 1 rfl rfl rfl hll' (.inl rfl) m (by omega)
          simp only [Val.eta]
          refine Eq.trans key ?_
          cases hz : smL 1 l l' == 0
          · rfl
          · have hz' : smL 1 l l' = 0 := by simpa using hz
            rw [hz']; rfl
        · rfl
      · simp only [cond_true]
        rw [hord, Option.bind_some]
        dsimp only
        rw [truth_ok]
        cases ordV (.mk k a s l) (.mk k' a' s' l') == 0 <;> rfl
    · rfl
theorem less_ok (v w : Val) (n : Nat) (hok : vOk v) (hn : vSz v + 6 ≤ n) : value_Less n (v, w, ()) = some (tV (lsV v w), ()) := by
  unfold value_Less lsV
  dsimp only
  cases (v.kind != w.kind) || ((v.kind != 2) && (v.kind != 3))
  · simp only [cond_false, Val.eta, order2_ok v w n hok hn, Option.bind_some, truth_ok]
  · rfl
theorem tV_same (c : Int) (h : c = 0 ∨ c = 1 ∨ c = 2) (n : Nat) : espalierref_SameValue (n + 40) (tV c, tV c, ()) = some (true, ()) := same_ok (tV_right c h 1) (n + 40) (by omega)
end Pure


/- Values: whole numbers are reckoned with as numbers. No program. -/
namespace Pure
open Esp Ev Go
set_option linter.unusedSimpArgs false
set_option linter.unusedVariables false

/-- a number of 64 bits, or none: it is too great -/
def inR (x : Int) : Bool := decide (-9223372036854775808 ≤ x) && decide (x ≤ 9223372036854775807)
theorem wrapI (x : Int) : IntKind.i64.wrap x = (x + 9223372036854775808) % 18446744073709551616 - 9223372036854775808 := by rw [IntKind.wrap_i64]
theorem add_ok (a b : Int) (ha : inR a = true) (hb : inR b = true) : value_add (a, b, ()) = some (IntKind.wrap .i64 (a + b), inR (a + b), ()) := by
  unfold value_add inR at *
  dsimp only
  rw [wrapI]
  simp only [Bool.and_eq_true, decide_eq_true_eq] at ha hb
  have : (decide ((a + b + 9223372036854775808) % 18446744073709551616 - 9223372036854775808 > a) == decide (b > 0)) = (decide (-9223372036854775808 ≤ a + b) && decide (a + b ≤ 9223372036854775807)) := by
    rw [Bool.eq_iff_iff]
    simp only [beq_iff_eq, Bool.and_eq_true, decide_eq_true_eq, decide_eq_decide]
    omega
  rw [this]
theorem sub_ok (a b : Int) (ha : inR a = true) (hb : inR b = true) : value_sub (a, b, ()) = some (IntKind.wrap .i64 (a - b), inR (a - b), ()) := by
  unfold value_sub inR at *
  dsimp only
  rw [wrapI]
  simp only [Bool.and_eq_true, decide_eq_true_eq] at ha hb
  have : (decide ((a - b + 9223372036854775808) % 18446744073709551616 - 9223372036854775808 < a) == decide (b > 0)) = (decide (-9223372036854775808 ≤ a - b) && decide (a - b ≤ 9223372036854775807)) := by
    rw [Bool.eq_iff_iff]
    simp only [beq_iff_eq, Bool.and_eq_true, decide_eq_true_eq, decide_eq_decide]
    omega
  rw [this]
theorem shrN (a : Nat) : bshr .u64 (a : Int) 32 = ((a / 4294967296 : Nat) : Int) := by
  unfold bshr
  rw [show (2 : Int) ^ (min (32 : Int).toNat IntKind.u64.bits) = 4294967296 from rfl, Int.fdiv_eq_ediv_of_nonneg _ (by omega)]
  omega
theorem maskN' (a : Nat) (ha : a < 18446744073709551616) : band .u64 (a : Int) 4294967295 = ((a % 4294967296 : Nat) : Int) := Go.Proofs.Mul64.maskN a ha
theorem mul64_ok (x y : Nat) (hx : x < 18446744073709551616) (hy : y < 18446744073709551616) : math_bits_Mul64 (x, y, ()) = some (((x * y / 18446744073709551616 : Nat) : Int), ((x * y % 18446744073709551616 : Nat) : Int), ()) := by
  obtain ⟨bd, bt, bw, hhi⟩ := Lib.mul64_hi x y hx hy
  have ba := Lib.half_mul_le (a := x / 4294967296) (b := y / 4294967296) (by omega) (by omega)
  have bb := Lib.half_mul_le (a := x / 4294967296) (b := y % 4294967296) (by omega) (by omega)
  have bc := Lib.half_mul_le (a := x % 4294967296) (b := y / 4294967296) (by omega) (by omega)
  have ba' : x / 4294967296 * (y / 4294967296) < 18446744073709551616 := by omega
  have bb' : x / 4294967296 * (y % 4294967296) < 18446744073709551616 := by omega
  have bc' : x % 4294967296 * (y / 4294967296) < 18446744073709551616 := by omega
  have bh1 : x / 4294967296 * (y / 4294967296) + (x / 4294967296 * (y % 4294967296) + x % 4294967296 * (y % 4294967296) / 4294967296) / 4294967296 < 18446744073709551616 := by omega
  have bh : x / 4294967296 * (y / 4294967296) + (x / 4294967296 * (y % 4294967296) + x % 4294967296 * (y % 4294967296) / 4294967296) / 4294967296 + ((x / 4294967296 * (y % 4294967296) + x % 4294967296 * (y % 4294967296) / 4294967296) % 4294967296 + x % 4294967296 * (y / 4294967296)) / 4294967296 < 18446744073709551616 := by omega
  unfold math_bits_Mul64
  dsimp only
  simp only [maskN' x hx, maskN' y hy, shrN, Go.Proofs.Mul64.mulN, Go.Proofs.Mul64.addN, Go.Proofs.Mul64.wrapN _ bd, Go.Proofs.Mul64.wrapN _ bb', Go.Proofs.Mul64.wrapN _ bt, maskN' _ bt, Go.Proofs.Mul64.wrapN _ bc', Go.Proofs.Mul64.wrapN _ bw, Go.Proofs.Mul64.wrapN _ ba', Go.Proofs.Mul64.wrapN _ bh1, Go.Proofs.Mul64.wrapN _ bh, Go.Proofs.Mul64.wrapM (x * y)]
  rw [hhi]
theorem size_ok (a : Int) (ha : inR a = true) : value_mul_1 (a, ()) = some ((a.natAbs : Int), ()) := by
  unfold value_mul_1 inR at *
  simp only [Bool.and_eq_true, decide_eq_true_eq] at ha
  dsimp only
  simp only [IntKind.wrap_u64]
  by_cases h : a < 0
  · rw [decide_eq_true h, cond_true]
    congr 2; omega
  · rw [decide_eq_false h, cond_false]
    congr 2; omega
theorem mul_ok (a b : Int) (ha : inR a = true) (hb : inR b = true) : ∃ z, value_mul (a, b, ()) = some (z, inR (a * b), ()) ∧ (inR (a * b) = true → z = a * b) := by
  have h1 := size_ok a ha
  have h2 := size_ok b hb
  have h3 := mul64_ok a.natAbs b.natAbs (by unfold inR at ha; simp only [Bool.and_eq_true, decide_eq_true_eq] at ha; omega) (by unfold inR at hb; simp only [Bool.and_eq_true, decide_eq_true_eq] at hb; omega)
  have hab : (a * b).natAbs = a.natAbs * b.natAbs := Int.natAbs_mul a b
  have hsg : (a < 0 ↔ b < 0) → 0 ≤ a * b := fun h => by
    rcases (show a < 0 ∨ 0 ≤ a by omega) with h1 | h1
    · exact Int.mul_nonneg_of_nonpos_of_nonpos (by omega) (by have := h.1 h1; omega)
    · exact Int.mul_nonneg h1 (by rcases (show b < 0 ∨ 0 ≤ b by omega) with h2 | h2
                                  · have := h.2 h2; omega
                                  · exact h2)
  have hsn : ¬ (a < 0 ↔ b < 0) → a * b ≤ 0 := fun h => by
    rcases (show a < 0 ∨ 0 ≤ a by omega) with h1 | h1
    · exact Int.mul_nonpos_of_nonpos_of_nonneg (by omega) (by rcases (show b < 0 ∨ 0 ≤ b by omega) with h2 | h2
                                                              · exact absurd ⟨fun _ => h2, fun _ => h1⟩ h
                                                              · exact h2)
    · exact Int.mul_nonpos_of_nonneg_of_nonpos h1 (by rcases (show b < 0 ∨ 0 ≤ b by omega) with h2 | h2
                                                      · omega
                                                      · exact absurd ⟨fun h => by omega, fun h => by omega⟩ h)
  unfold value_mul
  dsimp only
  rw [h1, h2, Option.bind_some, Option.bind_some]
  dsimp only
  rw [h3, Option.bind_some]
  dsimp only
  rw [← hab]
  generalize a * b = m at *
  have hneg : (decide (a < 0) == decide (b < 0)) = decide (a < 0 ↔ b < 0) := by
    by_cases h4 : a < 0 <;> by_cases h5 : b < 0 <;> simp [h4, h5]
  rw [hneg]
  by_cases hs : (a < 0 ↔ b < 0)
  · have hm := hsg hs
    rw [decide_eq_true hs]
    simp only [Bool.not_true, Bool.not_false, Bool.and_true, cond_false]
    by_cases hin : m ≤ 9223372036854775807
    · have e1 : inR m = true := by unfold inR; simp only [Bool.and_eq_true, decide_eq_true_eq]; omega
      have e2 : ((((m.natAbs / 18446744073709551616 : Nat) : Int) != 0) || decide (((m.natAbs % 18446744073709551616 : Nat) : Int) > 9223372036854775808) || (((m.natAbs % 18446744073709551616 : Nat) : Int) == 9223372036854775808)) = false := by
        simp only [Bool.or_eq_false_iff, bne_eq_false_iff_eq, decide_eq_false_iff_not, beq_eq_false_iff_ne]
        omega
      rw [e2, cond_false, e1]
      refine ⟨_, rfl, fun _ => ?_⟩
      rw [wrap64 (by omega) (by omega)]
      omega
    · have e1 : inR m = false := by unfold inR; simp only [Bool.and_eq_false_iff, decide_eq_false_iff_not]; omega
      have e2 : ((((m.natAbs / 18446744073709551616 : Nat) : Int) != 0) || decide (((m.natAbs % 18446744073709551616 : Nat) : Int) > 9223372036854775808) || (((m.natAbs % 18446744073709551616 : Nat) : Int) == 9223372036854775808)) = true := by
        simp only [Bool.or_eq_true, bne_iff_ne, decide_eq_true_eq, beq_iff_eq]
        omega
      rw [e2, cond_true, e1]
      exact ⟨_, rfl, fun h => by cases h⟩
  · have hm := hsn hs
    rw [decide_eq_false hs]
    simp only [Bool.not_true, Bool.not_false, Bool.and_false, Bool.or_false, cond_true]
    by_cases hin : -9223372036854775808 ≤ m
    · have e1 : inR m = true := by unfold inR; simp only [Bool.and_eq_true, decide_eq_true_eq]; omega
      have e2 : ((((m.natAbs / 18446744073709551616 : Nat) : Int) != 0) || decide (((m.natAbs % 18446744073709551616 : Nat) : Int) > 9223372036854775808)) = false := by
        simp only [Bool.or_eq_false_iff, bne_eq_false_iff_eq, decide_eq_false_iff_not]
        omega
      rw [e2, cond_false, e1]
      refine ⟨_, rfl, fun _ => ?_⟩
      rw [wrapI, IntKind.wrap_u64]
      omega
    · have e1 : inR m = false := by unfold inR; simp only [Bool.and_eq_false_iff, decide_eq_false_iff_not]; omega
      have e2 : ((((m.natAbs / 18446744073709551616 : Nat) : Int) != 0) || decide (((m.natAbs % 18446744073709551616 : Nat) : Int) > 9223372036854775808)) = true := by
        simp only [Bool.or_eq_true, bne_iff_ne, decide_eq_true_eq]
        omega
      rw [e2, cond_true, e1]
      exact ⟨_, rfl, fun h => by cases h⟩
def nV (x : Int) : Val := .mk 2 x ⟨#[]⟩ []
def zV : Val := .mk 0 0 ⟨#[]⟩ []
theorem seq_pm : seq (⟨#[43]⟩ : ByteArray) (⟨#[43]⟩ : ByteArray) = true := seq_refl _
theorem sum_ok (a b : Int) (ha : inR a = true) (hb : inR b = true) (n : Nat) : value_Reckon n (⟨#[43]⟩, nV a, nV b, ()) = some (bif inR (a + b) then nV (a + b) else zV, bif inR (a + b) then 0 else 4, ()) := by
  unfold value_Reckon
  dsimp only
  have h := add_ok a b ha hb
  rw [seq_pm, cond_true]
  unfold nV
  dsimp +instances only [kind_mk, n_mk]
  rw [h, Option.bind_some]
  dsimp only
  cases hi : inR (a + b)
  · rfl
  · have : IntKind.wrap .i64 (a + b) = a + b := by unfold inR at hi; simp only [Bool.and_eq_true, decide_eq_true_eq] at hi; exact wrap64 hi.1 hi.2
    rw [this]; rfl
theorem dif_ok (a b : Int) (ha : inR a = true) (hb : inR b = true) (n : Nat) : value_Reckon n (⟨#[45]⟩, nV a, nV b, ()) = some (bif inR (a - b) then nV (a - b) else zV, bif inR (a - b) then 0 else 4, ()) := by
  unfold value_Reckon
  dsimp only
  have h := sub_ok a b ha hb
  rw [show seq (⟨#[45]⟩ : ByteArray) (⟨#[43]⟩ : ByteArray) = false by decide +kernel, show seq (⟨#[45]⟩ : ByteArray) (⟨#[45]⟩ : ByteArray) = true from seq_refl _, cond_true, cond_false]
  unfold nV
  dsimp +instances only [kind_mk, n_mk]
  rw [h, Option.bind_some]
  dsimp only
  cases hi : inR (a - b)
  · rfl
  · have : IntKind.wrap .i64 (a - b) = a - b := by unfold inR at hi; simp only [Bool.and_eq_true, decide_eq_true_eq] at hi; exact wrap64 hi.1 hi.2
    rw [this]; rfl
theorem prd_ok (a b : Int) (ha : inR a = true) (hb : inR b = true) (n : Nat) : value_Reckon n (⟨#[42]⟩, nV a, nV b, ()) = some (bif inR (a * b) then nV (a * b) else zV, bif inR (a * b) then 0 else 4, ()) := by
  unfold value_Reckon
  dsimp only
  obtain ⟨z, h, hz⟩ := mul_ok a b ha hb
  rw [show seq (⟨#[42]⟩ : ByteArray) (⟨#[43]⟩ : ByteArray) = false by decide +kernel, show seq (⟨#[42]⟩ : ByteArray) (⟨#[45]⟩ : ByteArray) = false by decide +kernel, show seq (⟨#[42]⟩ : ByteArray) (⟨#[42]⟩ : ByteArray) = true from seq_refl _, cond_true, cond_false, cond_false]
  unfold nV
  dsimp +instances only [kind_mk, n_mk]
  rw [h, Option.bind_some]
  dsimp only
  cases hi : inR (a * b)
  · rfl
  · rw [hz hi]; rfl
theorem nul_ok (w : Val) (n : Nat) : value_Reckon n (⟨#[42]⟩, zV, w, ()) = some (zV, 0, ()) := by
  unfold value_Reckon
  dsimp only
  rw [show seq (⟨#[42]⟩ : ByteArray) (⟨#[43]⟩ : ByteArray) = false by decide +kernel, show seq (⟨#[42]⟩ : ByteArray) (⟨#[45]⟩ : ByteArray) = false by decide +kernel, show seq (⟨#[42]⟩ : ByteArray) (⟨#[42]⟩ : ByteArray) = true from seq_refl _, cond_true, cond_false, cond_false]
  rfl
def gV (x : Int) : Val := bif inR x then nV x else zV
def gE (x : Int) : Int := bif inR x then 0 else 4
theorem sumz1 (w : Val) (n : Nat) : value_Reckon n (⟨#[43]⟩, zV, w, ()) = some (zV, 0, ()) := by
  unfold value_Reckon
  dsimp only
  rw [seq_pm, cond_true]
  rfl
theorem sumz2 (x : Int) (n : Nat) : value_Reckon n (⟨#[43]⟩, nV x, zV, ()) = some (zV, 0, ()) := by
  unfold value_Reckon
  dsimp only
  rw [seq_pm, cond_true]
  rfl
theorem sum_g (x y : Int) (n : Nat) : value_Reckon n (⟨#[43]⟩, gV x, gV y, ()) = some (bif inR x && inR y then gV (x + y) else zV, bif inR x && inR y then gE (x + y) else 0, ()) := by
  unfold gV
  cases hx : inR x
  · exact sumz1 _ n
  · cases hy : inR y
    · exact sumz2 _ n
    · rw [cond_true, cond_true, sum_ok x y hx hy n]; rfl
theorem prd_g (x y : Int) (hy : inR y = true) (n : Nat) : value_Reckon n (⟨#[42]⟩, gV x, nV y, ()) = some (bif inR x then gV (x * y) else zV, bif inR x then gE (x * y) else 0, ()) := by
  unfold gV
  cases hx : inR x
  · exact nul_ok _ n
  · rw [cond_true, prd_ok x y hx hy n]; rfl
theorem gV_right (x : Int) : Right (gV x) 1 := by
  unfold gV
  cases hx : inR x
  · exact .null 1
  · refine .int x 1 ?_
    exact hx
theorem gV_same (x : Int) (n : Nat) : espalierref_SameValue (n + 40) (gV x, gV x, ()) = some (true, ()) := same_ok (gV_right x) (n + 40) (by omega)
theorem nV_g {x : Int} (h : inR x = true) : nV x = gV x := by unfold gV; rw [h]; rfl
end Pure

/- Several texts in one (merge.py). -/
import Derived.Test.YtdnhnpfommlfbaaGreatDoorPA
import Derived.KernelRfl
import Derived.Shelf.Bits.Mul64
import Derived.Test.YtdnhnpfommlfbaaGreatDoorPCode
import Derived.Test.YtdnhnpfommlfbaaGreatDoorPLib
import Derived.Laws.BitsLemmas
/- Values: sameness and what is ahead, the plain part. No program. -/
namespace Pure
open Esp Ev Go
set_option linter.unusedSimpArgs false
set_option linter.unusedVariables false
set_option linter.unusedSimpArgs false
set_option linter.unusedVariables false
def tV (c : Int) : Val := bif c == 2 then .mk 0 0 ⟨#[]⟩ [] else .mk 1 c ⟨#[]⟩ []
mutual
def smV : Val → Val → Int
  | .mk k a s l, .mk k' a' s' l' => bif (k == 0) || (k' == 0) then 2 else bif (k != 4) || (k' != 4) then (bif ordV (.mk k a s l) (.mk k' a' s' l') == 0 then 1 else 0) else bif (l.length : Int) != (l'.length : Int) then 0 else smL 1 l l'
def smL (acc : Int) : List Val → List Val → Int
  | x :: r, y :: t => bif smV x y == 2 then smL 2 r t else bif smV x y == 0 then 0 else smL acc r t
  | _, _ => acc
end
theorem smL_rng {l : List Val} (h : ∀ x ∈ l, ∀ y, smV x y = 0 ∨ smV x y = 1 ∨ smV x y = 2) : ∀ (acc : Int) (m : List Val), (acc = 1 ∨ acc = 2) → smL acc l m = 0 ∨ smL acc l m = 1 ∨ smL acc l m = 2 := by
  induction l with
  | nil => intro acc m ha; rw [smL]; · omega
           intro x r y t h; cases h
  | cons x r ih =>
    intro acc m ha
    cases m with
    | nil => rw [smL]; · omega
             intro x r y t _ h; cases h
    | cons y t =>
      rw [smL]
      have ih' := ih fun z hz => h z (by simp [hz])
      cases smV x y == 2
      · rw [cond_false]
        cases smV x y == 0
        · rw [cond_false]; exact ih' acc t ha
        · exact .inl rfl
      · rw [cond_true]; exact ih' 2 t (.inr rfl)
theorem smV_rng (v : Val) : ∀ w, smV v w = 0 ∨ smV v w = 1 ∨ smV v w = 2 := by
  induction v using val_ind with
  | _ k a s l ih =>
    intro w
    obtain ⟨k', a', s', l'⟩ := w
    rw [smV]
    cases (k == 0) || (k' == 0)
    · rw [cond_false]
      cases (k != 4) || (k' != 4)
      · rw [cond_false]
        cases (l.length : Int) != (l'.length : Int)
        · rw [cond_false]; exact smL_rng ih 1 l' (.inl rfl)
        · exact .inl rfl
      · rw [cond_true]
        cases ordV (.mk k a s l) (.mk k' a' s' l') == 0
        · exact .inl rfl
        · exact .inr (.inl rfl)
    · exact .inr (.inr rfl)
theorem tV_kind {c : Int} : ((tV c).kind == 0) = (c == 2) := by
  unfold tV; cases h : c == 2 <;> rfl
theorem tV_n {c : Int} (h : (c == 2) = false) : (tV c).n = c := by
  unfold tV; rw [h]; rfl
theorem tV_right (c : Int) (h : c = 0 ∨ c = 1 ∨ c = 2) (d : Int) : Right (tV c) d := by
  rcases h with h | h | h
  · subst h; exact .truth 0 d (.inl rfl)
  · subst h; exact .truth 1 d (.inr rfl)
  · subst h; exact .null d
theorem neI {a b : Nat} (h : ((a : Int) != (b : Int)) = false) : a = b := by
  have h2 : (a : Int) = b := by simpa using h
  omega
def lsV (v w : Val) : Int := bif (v.kind != w.kind) || ((v.kind != 2) && (v.kind != 3)) then 2 else bif decide (ordV v w < 0) then 1 else 0
theorem lsV_rng (v w : Val) : lsV v w = 0 ∨ lsV v w = 1 ∨ lsV v w = 2 := by
  unfold lsV
  cases (v.kind != w.kind) || ((v.kind != 2) && (v.kind != 3))
  · cases decide (ordV v w < 0)
    · exact .inl rfl
    · exact .inr (.inl rfl)
  · exact .inr (.inr rfl)
end Pure
/- Values: sameness and what is ahead, as the code has them; the laws of order. No program. -/
namespace Pure
open Esp Ev Go
set_option linter.unusedSimpArgs false
set_option linter.unusedVariables false
theorem truth_ok (b : Bool) : q74z (b, ()) = some (tV (bif b then 1 else 0), ()) := by cases b <;> rfl
theorem Truth_ok (c : Int) : q39z (c, ()) = some (tV c, ()) := by
  unfold q39z tV
  dsimp only
  cases c == 2 <;> rfl
theorem same_loop {ρ : Type} (self : Val × Val × Unit → Option (Val × Unit)) (n : Nat) (v w : Val) (hv : v.l.length ≤ maxLen) (hs : ∀ x ∈ v.l, ∀ y ∈ w.l, self (x, y, ()) = some (tV (smV x y), ())) (kx : (Val × Unit) × (Val × Unit) × Unit → Option ρ) (kr : (Val × Unit) × Unit → Option ρ) :
    ∀ (r p r' p' : List Val) (u : Val) (acc : Int), v.l = p ++ r → w.l = p' ++ r' → p.length = p'.length → r.length = r'.length → (acc = 1 ∨ acc = 2) → ∀ fuel, r.length < fuel →
    ∃ u', iterN (fun rc => q85z_s0 self n rc kx kr) fuel ((v.l.length : Int), (p.length : Int), (v, ()), (w, ()), (u, ()), (tV acc, ()), ()) = bif smL acc r r' == 0 then kr ((tV 0, ()), ()) else kx ((u', ()), (tV (smL acc r r'), ()), ()) := by
  intro r
  induction r with
  | nil =>
    intro p r' p' u acc h1 h2 h3 h4 ha fuel hf
    obtain ⟨m, rfl⟩ : ∃ m, fuel = m + 1 := ⟨fuel - 1, by omega⟩
    have e : decide ((p.length : Int) < (v.l.length : Int)) = false := by rw [decide_eq_false_iff_not, h1]; simp
    have hr : r' = [] := by cases r' with
      | nil => rfl
      | cons y t => simp at h4
    subst hr
    refine ⟨u, ?_⟩
    rw [iterN]
    unfold q85z_s0
    dsimp only
    rw [e, cond_false, smL]
    · have : (acc == 0) = false := by rcases ha with rfl | rfl <;> rfl
      rw [this, cond_false]
      simp only [Val.eta]
    · intro x xs y ys h; cases h
  | cons x r ih =>
    intro p r' p' u acc h1 h2 h3 h4 ha fuel hf
    obtain ⟨m, rfl⟩ : ∃ m, fuel = m + 1 := ⟨fuel - 1, by omega⟩
    cases r' with
    | nil => simp at h4
    | cons y r' =>
      have hlen : v.l.length = p.length + (r.length + 1) := by rw [h1]; simp
      have e : decide ((p.length : Int) < (v.l.length : Int)) = true := by rw [decide_eq_true_iff]; omega
      have e3 : ix v.l (p.length : Int) = some x := ix_ok (by rw [h1]; simp)
      have e4 : ix w.l (p.length : Int) = some y := by rw [h3]; exact ix_ok (by rw [h2]; simp)
      have e5 : IntKind.wrap .i64 ((p.length : Int) + 1) = ((p ++ [x]).length : Int) := by unfold maxLen at hv; rw [wrap64 (by omega) (by omega)]; simp
      have i1 := fun u acc ha => ih (p ++ [x]) r' (p' ++ [y]) u acc (by simp [h1]) (by simp [h2]) (by simp [h3]) (by simpa using h4) ha m (by simp at hf; omega)
      have hxy := hs x (by rw [h1]; simp) y (by rw [h2]; simp)
      rw [iterN]
      generalize iterN (fun rc => q85z_s0 self n rc kx kr) m = R at i1 ⊢
      unfold q85z_s0
      dsimp only
      simp only [e, e3, e4, e5, cond_true, Option.bind_some, Val.eta, hxy, smL, tV_kind]
      cases hc : smV x y == 2
      · simp only [cond_false]
        rw [tV_n hc]
        cases hz : smV x y == 0
        · simp only [cond_false]
          exact i1 u acc ha
        · have hz' : smV x y = 0 := by simpa using hz
          rw [hz']
          exact ⟨u, rfl⟩
      · have hc' : smV x y = 2 := by simpa using hc
        rw [hc']
        simp only [cond_true]
        exact i1 _ 2 (.inr rfl)
theorem sameV_ok (v : Val) : ∀ (w : Val) (n : Nat), vOk v → vSz v + 7 ≤ n → q85z n (v, w, ()) = some (tV (smV v w), ()) := by
  induction v using val_ind with
  | _ k a s l ih =>
    intro w n hok hn
    obtain ⟨k', a', s', l'⟩ := w
    obtain ⟨m, rfl⟩ : ∃ m, n = m + 1 := ⟨n - 1, by omega⟩
    obtain ⟨h1, h2⟩ := vOk_l hok
    have hord := order2_ok (.mk k a s l) (.mk k' a' s' l') m hok (by omega)
    rw [vSz] at hn
    have hl := lSz_length l
    rw [q85z]
    unfold q85z_b
    dsimp +instances only [kind_mk, n_mk, s_mk, l_mk]
    rw [smV]
    cases h0 : (k == 0) || (k' == 0)
    · simp only [cond_false]
      cases h4 : (k != 4) || (k' != 4)
      · simp only [cond_false]
        cases hll : (l.length : Int) != (l'.length : Int)
        · have hll' : l.length = l'.length := neI hll
          simp only [cond_false]
          rw [truth_ok, Option.bind_some]
          dsimp only
          obtain ⟨u', key⟩ := same_loop (ρ := Val × Unit) (q85z m) m (.mk k a s l) (.mk k' a' s' l') h1 (fun x hx y hy => ih x hx y m (h2 x hx) (by have := lSz_mem (show x ∈ l from hx); omega)) (fun z => some (z.2.1.1, ())) (fun z => some (z.1.1, ())) l [] l' [] (.mk 0 0 ⟨#[]⟩ []) 1 rfl rfl rfl hll' (.inl rfl) m (by omega)
          simp only [Val.eta]
          refine Eq.trans key ?_
          cases hz : smL 1 l l' == 0
          · rfl
          · have hz' : smL 1 l l' = 0 := by simpa using hz
            rw [hz']; rfl
        · rfl
      · simp only [cond_true]
        rw [hord, Option.bind_some]
        dsimp only
        rw [truth_ok]
        cases ordV (.mk k a s l) (.mk k' a' s' l') == 0 <;> rfl
    · rfl
theorem sameOf_loop {ρ : Type} (self : Val × Val × Unit → Option (Val × Unit)) (n : Nat) (v w o : Val) (hv : v.l.length ≤ maxLen) (hs : ∀ x ∈ v.l, ∀ y ∈ w.l, self (x, y, ()) = some (tV (smV x y), ())) (kx : Bool × (Val × Unit) × Unit → Option ρ) (kr : (Val × Unit) × Unit → Option ρ) :
    ∀ (r p r' p' : List Val) (u : Bool), v.l = p ++ r → w.l = p' ++ r' → p.length = p'.length → r.length = r'.length → ∀ fuel, r.length < fuel →
    ∃ o', iterN (fun rc => q35z_s0 self n rc kx kr) fuel (u, (v.l.length : Int), (p.length : Int), (v, ()), (w, ()), (o, ()), ()) = bif smL (bif u then 2 else 1) r r' == 0 then kr ((tV 0, ()), ()) else kx (smL (bif u then 2 else 1) r r' == 2, (o', ()), ()) := by
  intro r
  induction r with
  | nil =>
    intro p r' p' u h1 h2 h3 h4 fuel hf
    obtain ⟨m, rfl⟩ : ∃ m, fuel = m + 1 := ⟨fuel - 1, by omega⟩
    have e : decide ((p.length : Int) < (v.l.length : Int)) = false := by rw [decide_eq_false_iff_not, h1]; simp
    have hr : r' = [] := by cases r' with
      | nil => rfl
      | cons y t => simp at h4
    subst hr
    refine ⟨o, ?_⟩
    rw [iterN]
    unfold q35z_s0
    dsimp only
    rw [e, cond_false, smL]
    · simp only [Val.eta]
      cases u <;> rfl
    · intro x xs y ys h; cases h
  | cons x r ih =>
    intro p r' p' u h1 h2 h3 h4 fuel hf
    obtain ⟨m, rfl⟩ : ∃ m, fuel = m + 1 := ⟨fuel - 1, by omega⟩
    cases r' with
    | nil => simp at h4
    | cons y r' =>
      have hlen : v.l.length = p.length + (r.length + 1) := by rw [h1]; simp
      have e : decide ((p.length : Int) < (v.l.length : Int)) = true := by rw [decide_eq_true_iff]; omega
      have e3 : ix v.l (p.length : Int) = some x := ix_ok (by rw [h1]; simp)
      have e4 : ix w.l (p.length : Int) = some y := by rw [h3]; exact ix_ok (by rw [h2]; simp)
      have e5 : IntKind.wrap .i64 ((p.length : Int) + 1) = ((p ++ [x]).length : Int) := by unfold maxLen at hv; rw [wrap64 (by omega) (by omega)]; simp
      have i1 := fun u => ih (p ++ [x]) r' (p' ++ [y]) u (by simp [h1]) (by simp [h2]) (by simp [h3]) (by simpa using h4) m (by simp at hf; omega)
      have hxy := hs x (by rw [h1]; simp) y (by rw [h2]; simp)
      rw [iterN]
      generalize iterN (fun rc => q35z_s0 self n rc kx kr) m = R at i1 ⊢
      unfold q35z_s0
      dsimp only
      simp only [e, e3, e4, e5, cond_true, Option.bind_some, Val.eta, hxy, smL, tV_kind]
      cases hc : smV x y == 2
      · simp only [cond_false]
        rw [tV_n hc]
        cases hz : smV x y == 0
        · simp only [cond_false]
          exact i1 u
        · refine ⟨o, ?_⟩
          simp only [cond_true]
          rfl
      · have hc' : smV x y = 2 := by simpa using hc
        rw [hc']
        simp only [cond_true]
        exact i1 true
theorem sameOf_ok (v : Val) : ∀ (w : Val) (n : Nat), vOk v → vSz v + 7 ≤ n → q35z n (v, w, ()) = some (tV (smV v w), ()) := by
  induction v using val_ind with
  | _ k a s l ih =>
    intro w n hok hn
    obtain ⟨k', a', s', l'⟩ := w
    obtain ⟨m, rfl⟩ : ∃ m, n = m + 1 := ⟨n - 1, by omega⟩
    obtain ⟨h1, h2⟩ := vOk_l hok
    have hord := orderOf_ok (.mk k a s l) (.mk k' a' s' l') m hok (by omega)
    rw [vSz] at hn
    have hl := lSz_length l
    rw [q35z]
    unfold q35z_b
    dsimp +instances only [kind_mk, n_mk, s_mk, l_mk]
    rw [smV]
    cases h0 : (k == 0) || (k' == 0)
    · simp only [cond_false]
      have h4e : ((k != 4) || (k' != 4)) = !((k == 4) && (k' == 4)) := by
        unfold bne; cases k == 4 <;> cases k' == 4 <;> rfl
      rw [h4e]
      cases h4 : (k == 4) && (k' == 4)
      · simp only [cond_false, Bool.not_false, cond_true]
        unfold q16z
        dsimp only
        simp only [Val.eta]
        rw [hord, Option.bind_some, Option.bind_some]
        dsimp only
        simp only [Truth_ok, Option.bind_some, Val.eta]
        cases ordV (.mk k a s l) (.mk k' a' s' l') == 0 <;> rfl
      · simp only [cond_true, Bool.not_true, cond_false]
        cases hll : (l.length : Int) != (l'.length : Int)
        · have hll' : l.length = l'.length := neI hll
          simp only [cond_false]
          obtain ⟨o', key⟩ := sameOf_loop (ρ := Val × Unit) (q35z m) m (.mk k a s l) (.mk k' a' s' l') (.mk 0 0 ⟨#[]⟩ []) h1 (fun x hx y hy => ih x hx y m (h2 x hx) (by have := lSz_mem (show x ∈ l from hx); omega)) (fun z => bif z.1 then some (tV 2, ()) else some (tV 1, ())) (fun z => some (z.1.1, ())) l [] l' [] false rfl rfl rfl hll' m (by omega)
          simp only [Val.eta, Truth_ok, Option.bind_some]
          refine Eq.trans key ?_
          rw [cond_false]
          rcases smL_rng (l := l) (fun x _ y => smV_rng x y) 1 l' (.inl rfl) with hz | hz | hz <;> rw [hz] <;> rfl
        · rfl
    · rfl
theorem less_ok (v w : Val) (n : Nat) (hok : vOk v) (hn : vSz v + 6 ≤ n) : q84z n (v, w, ()) = some (tV (lsV v w), ()) := by
  unfold q84z lsV
  dsimp only
  cases (v.kind != w.kind) || ((v.kind != 2) && (v.kind != 3))
  · simp only [cond_false, Val.eta, order2_ok v w n hok hn, Option.bind_some, truth_ok]
  · rfl
theorem lessOf_ok (v w : Val) (n : Nat) (hok : vOk v) (hn : vSz v + 6 ≤ n) : q32z n (v, w, ()) = some (tV (lsV v w), ()) := by
  unfold q32z lsV
  dsimp only
  cases (v.kind != w.kind) || ((v.kind != 2) && (v.kind != 3))
  · simp only [cond_false, Val.eta, orderOf_ok v w n hok (by omega), Option.bind_some, Truth_ok]
    cases decide (ordV v w < 0) <;> rfl
  · simp only [cond_true, Truth_ok, Option.bind_some, Val.eta]
end Pure
/- Values: whole numbers are reckoned with as numbers. No program. -/
namespace Pure
open Esp Ev Go
set_option linter.unusedSimpArgs false
set_option linter.unusedVariables false
def inR (x : Int) : Bool := decide (-9223372036854775808 ≤ x) && decide (x ≤ 9223372036854775807)
theorem wrapI (x : Int) : IntKind.i64.wrap x = (x + 9223372036854775808) % 18446744073709551616 - 9223372036854775808 := by rw [IntKind.wrap_i64]
theorem add_ok (a b : Int) (ha : inR a = true) (hb : inR b = true) : value_add (a, b, ()) = some (IntKind.wrap .i64 (a + b), inR (a + b), ()) := by
  unfold value_add inR at *
  dsimp only
  rw [wrapI]
  simp only [Bool.and_eq_true, decide_eq_true_eq] at ha hb
  have : (decide ((a + b + 9223372036854775808) % 18446744073709551616 - 9223372036854775808 > a) == decide (b > 0)) = (decide (-9223372036854775808 ≤ a + b) && decide (a + b ≤ 9223372036854775807)) := by
    rw [Bool.eq_iff_iff]
    simp only [beq_iff_eq, Bool.and_eq_true, decide_eq_true_eq, decide_eq_decide]
    omega
  rw [this]
theorem sub_ok (a b : Int) (ha : inR a = true) (hb : inR b = true) : value_sub (a, b, ()) = some (IntKind.wrap .i64 (a - b), inR (a - b), ()) := by
  unfold value_sub inR at *
  dsimp only
  rw [wrapI]
  simp only [Bool.and_eq_true, decide_eq_true_eq] at ha hb
  have : (decide ((a - b + 9223372036854775808) % 18446744073709551616 - 9223372036854775808 < a) == decide (b > 0)) = (decide (-9223372036854775808 ≤ a - b) && decide (a - b ≤ 9223372036854775807)) := by
    rw [Bool.eq_iff_iff]
    simp only [beq_iff_eq, Bool.and_eq_true, decide_eq_true_eq, decide_eq_decide]
    omega
  rw [this]
theorem shrN (a : Nat) : bshr .u64 (a : Int) 32 = ((a / 4294967296 : Nat) : Int) := by
  unfold bshr
  rw [show (2 : Int) ^ (min (32 : Int).toNat IntKind.u64.bits) = 4294967296 from rfl, Int.fdiv_eq_ediv_of_nonneg _ (by omega)]
  omega
theorem maskN' (a : Nat) (ha : a < 18446744073709551616) : band .u64 (a : Int) 4294967295 = ((a % 4294967296 : Nat) : Int) := Go.Proofs.Mul64.maskN a ha
theorem mul64_ok (x y : Nat) (hx : x < 18446744073709551616) (hy : y < 18446744073709551616) : q54z (x, y, ()) = some (((x * y / 18446744073709551616 : Nat) : Int), ((x * y % 18446744073709551616 : Nat) : Int), ()) := by
  obtain ⟨bd, bt, bw, hhi⟩ := Lib.mul64_hi x y hx hy
  have ba := Lib.half_mul_le (a := x / 4294967296) (b := y / 4294967296) (by omega) (by omega)
  have bb := Lib.half_mul_le (a := x / 4294967296) (b := y % 4294967296) (by omega) (by omega)
  have bc := Lib.half_mul_le (a := x % 4294967296) (b := y / 4294967296) (by omega) (by omega)
  have ba' : x / 4294967296 * (y / 4294967296) < 18446744073709551616 := by omega
  have bb' : x / 4294967296 * (y % 4294967296) < 18446744073709551616 := by omega
  have bc' : x % 4294967296 * (y / 4294967296) < 18446744073709551616 := by omega
  have bh1 : x / 4294967296 * (y / 4294967296) + (x / 4294967296 * (y % 4294967296) + x % 4294967296 * (y % 4294967296) / 4294967296) / 4294967296 < 18446744073709551616 := by omega
  have bh : x / 4294967296 * (y / 4294967296) + (x / 4294967296 * (y % 4294967296) + x % 4294967296 * (y % 4294967296) / 4294967296) / 4294967296 + ((x / 4294967296 * (y % 4294967296) + x % 4294967296 * (y % 4294967296) / 4294967296) % 4294967296 + x % 4294967296 * (y / 4294967296)) / 4294967296 < 18446744073709551616 := by omega
  unfold q54z
  dsimp only
  simp only [maskN' x hx, maskN' y hy, shrN, Go.Proofs.Mul64.mulN, Go.Proofs.Mul64.addN, Go.Proofs.Mul64.wrapN _ bd, Go.Proofs.Mul64.wrapN _ bb', Go.Proofs.Mul64.wrapN _ bt, maskN' _ bt, Go.Proofs.Mul64.wrapN _ bc', Go.Proofs.Mul64.wrapN _ bw, Go.Proofs.Mul64.wrapN _ ba', Go.Proofs.Mul64.wrapN _ bh1, Go.Proofs.Mul64.wrapN _ bh, Go.Proofs.Mul64.wrapM (x * y)]
  rw [hhi]
theorem size_ok (a : Int) (ha : inR a = true) : q73z (a, ()) = some ((a.natAbs : Int), ()) := by
  unfold q73z inR at *
  simp only [Bool.and_eq_true, decide_eq_true_eq] at ha
  dsimp only
  simp only [IntKind.wrap_u64]
  by_cases h : a < 0
  · rw [decide_eq_true h, cond_true]
    congr 2; omega
  · rw [decide_eq_false h, cond_false]
    congr 2; omega
theorem mul_ok (a b : Int) (ha : inR a = true) (hb : inR b = true) : ∃ z, value_mul (a, b, ()) = some (z, inR (a * b), ()) ∧ (inR (a * b) = true → z = a * b) := by
  have h1 := size_ok a ha
  have h2 := size_ok b hb
  have h3 := mul64_ok a.natAbs b.natAbs (by unfold inR at ha; simp only [Bool.and_eq_true, decide_eq_true_eq] at ha; omega) (by unfold inR at hb; simp only [Bool.and_eq_true, decide_eq_true_eq] at hb; omega)
  have hab : (a * b).natAbs = a.natAbs * b.natAbs := Int.natAbs_mul a b
  have hsg : (a < 0 ↔ b < 0) → 0 ≤ a * b := fun h => by
    rcases (show a < 0 ∨ 0 ≤ a by omega) with h1 | h1
    · exact Int.mul_nonneg_of_nonpos_of_nonpos (by omega) (by have := h.1 h1; omega)
    · exact Int.mul_nonneg h1 (by rcases (show b < 0 ∨ 0 ≤ b by omega) with h2 | h2
                                  · have := h.2 h2; omega
                                  · exact h2)
  have hsn : ¬ (a < 0 ↔ b < 0) → a * b ≤ 0 := fun h => by
    rcases (show a < 0 ∨ 0 ≤ a by omega) with h1 | h1
    · exact Int.mul_nonpos_of_nonpos_of_nonneg (by omega) (by rcases (show b < 0 ∨ 0 ≤ b by omega) with h2 | h2
                                                              · exact absurd ⟨fun _ => h2, fun _ => h1⟩ h
                                                              · exact h2)
    · exact Int.mul_nonpos_of_nonneg_of_nonpos h1 (by rcases (show b < 0 ∨ 0 ≤ b by omega) with h2 | h2
                                                      · omega
                                                      · exact absurd ⟨fun h => by omega, fun h => by omega⟩ h)
  unfold value_mul
  dsimp only
  rw [h1, h2, Option.bind_some, Option.bind_some]
  dsimp only
  rw [h3, Option.bind_some]
  dsimp only
  rw [← hab]
  generalize a * b = m at *
  have hneg : (decide (a < 0) == decide (b < 0)) = decide (a < 0 ↔ b < 0) := by
    by_cases h4 : a < 0 <;> by_cases h5 : b < 0 <;> simp [h4, h5]
  rw [hneg]
  by_cases hs : (a < 0 ↔ b < 0)
  · have hm := hsg hs
    rw [decide_eq_true hs]
    simp only [Bool.not_true, Bool.not_false, Bool.and_true, cond_false]
    by_cases hin : m ≤ 9223372036854775807
    · have e1 : inR m = true := by unfold inR; simp only [Bool.and_eq_true, decide_eq_true_eq]; omega
      have e2 : ((((m.natAbs / 18446744073709551616 : Nat) : Int) != 0) || decide (((m.natAbs % 18446744073709551616 : Nat) : Int) > 9223372036854775808) || (((m.natAbs % 18446744073709551616 : Nat) : Int) == 9223372036854775808)) = false := by
        simp only [Bool.or_eq_false_iff, bne_eq_false_iff_eq, decide_eq_false_iff_not, beq_eq_false_iff_ne]
        omega
      rw [e2, cond_false, e1]
      refine ⟨_, rfl, fun _ => ?_⟩
      rw [wrap64 (by omega) (by omega)]
      omega
    · have e1 : inR m = false := by unfold inR; simp only [Bool.and_eq_false_iff, decide_eq_false_iff_not]; omega
      have e2 : ((((m.natAbs / 18446744073709551616 : Nat) : Int) != 0) || decide (((m.natAbs % 18446744073709551616 : Nat) : Int) > 9223372036854775808) || (((m.natAbs % 18446744073709551616 : Nat) : Int) == 9223372036854775808)) = true := by
        simp only [Bool.or_eq_true, bne_iff_ne, decide_eq_true_eq, beq_iff_eq]
        omega
      rw [e2, cond_true, e1]
      exact ⟨_, rfl, fun h => by cases h⟩
  · have hm := hsn hs
    rw [decide_eq_false hs]
    simp only [Bool.not_true, Bool.not_false, Bool.and_false, Bool.or_false, cond_true]
    by_cases hin : -9223372036854775808 ≤ m
    · have e1 : inR m = true := by unfold inR; simp only [Bool.and_eq_true, decide_eq_true_eq]; omega
      have e2 : ((((m.natAbs / 18446744073709551616 : Nat) : Int) != 0) || decide (((m.natAbs % 18446744073709551616 : Nat) : Int) > 9223372036854775808)) = false := by
        simp only [Bool.or_eq_false_iff, bne_eq_false_iff_eq, decide_eq_false_iff_not]
        omega
      rw [e2, cond_false, e1]
      refine ⟨_, rfl, fun _ => ?_⟩
      rw [wrapI, IntKind.wrap_u64]
      omega
    · have e1 : inR m = false := by unfold inR; simp only [Bool.and_eq_false_iff, decide_eq_false_iff_not]; omega
      have e2 : ((((m.natAbs / 18446744073709551616 : Nat) : Int) != 0) || decide (((m.natAbs % 18446744073709551616 : Nat) : Int) > 9223372036854775808)) = true := by
        simp only [Bool.or_eq_true, bne_iff_ne, decide_eq_true_eq]
        omega
      rw [e2, cond_true, e1]
      exact ⟨_, rfl, fun h => by cases h⟩
def nV (x : Int) : Val := .mk 2 x ⟨#[]⟩ []
def zV : Val := .mk 0 0 ⟨#[]⟩ []
theorem seq_pm : seq (⟨#[43]⟩ : ByteArray) (⟨#[43]⟩ : ByteArray) = true := seq_refl _
theorem sum_ok (a b : Int) (ha : inR a = true) (hb : inR b = true) (n : Nat) : q65z n (⟨#[43]⟩, nV a, nV b, ()) = some (bif inR (a + b) then nV (a + b) else zV, bif inR (a + b) then 0 else 4, ()) := by
  unfold q65z
  dsimp only
  have h := add_ok a b ha hb
  rw [seq_pm, cond_true]
  unfold nV
  dsimp +instances only [kind_mk, n_mk]
  rw [h, Option.bind_some]
  dsimp only
  cases hi : inR (a + b)
  · rfl
  · have : IntKind.wrap .i64 (a + b) = a + b := by unfold inR at hi; simp only [Bool.and_eq_true, decide_eq_true_eq] at hi; exact wrap64 hi.1 hi.2
    rw [this]; rfl
theorem dif_ok (a b : Int) (ha : inR a = true) (hb : inR b = true) (n : Nat) : q65z n (⟨#[45]⟩, nV a, nV b, ()) = some (bif inR (a - b) then nV (a - b) else zV, bif inR (a - b) then 0 else 4, ()) := by
  unfold q65z
  dsimp only
  have h := sub_ok a b ha hb
  rw [show seq (⟨#[45]⟩ : ByteArray) (⟨#[43]⟩ : ByteArray) = false by decide +kernel, show seq (⟨#[45]⟩ : ByteArray) (⟨#[45]⟩ : ByteArray) = true from seq_refl _, cond_true, cond_false]
  unfold nV
  dsimp +instances only [kind_mk, n_mk]
  rw [h, Option.bind_some]
  dsimp only
  cases hi : inR (a - b)
  · rfl
  · have : IntKind.wrap .i64 (a - b) = a - b := by unfold inR at hi; simp only [Bool.and_eq_true, decide_eq_true_eq] at hi; exact wrap64 hi.1 hi.2
    rw [this]; rfl
theorem prd_ok (a b : Int) (ha : inR a = true) (hb : inR b = true) (n : Nat) : q65z n (⟨#[42]⟩, nV a, nV b, ()) = some (bif inR (a * b) then nV (a * b) else zV, bif inR (a * b) then 0 else 4, ()) := by
  unfold q65z
  dsimp only
  obtain ⟨z, h, hz⟩ := mul_ok a b ha hb
  rw [show seq (⟨#[42]⟩ : ByteArray) (⟨#[43]⟩ : ByteArray) = false by decide +kernel, show seq (⟨#[42]⟩ : ByteArray) (⟨#[45]⟩ : ByteArray) = false by decide +kernel, show seq (⟨#[42]⟩ : ByteArray) (⟨#[42]⟩ : ByteArray) = true from seq_refl _, cond_true, cond_false, cond_false]
  unfold nV
  dsimp +instances only [kind_mk, n_mk]
  rw [h, Option.bind_some]
  dsimp only
  cases hi : inR (a * b)
  · rfl
  · rw [hz hi]; rfl
end Pure
/- Whole numbers of any size by lists of 32-bit words. No program. -/
namespace Pure
open Esp Ev Go
set_option linter.unusedSimpArgs false
set_option linter.unusedVariables false
def wv : List Int → Int
  | [] => 0
  | w :: r => w + 4294967296 * wv r
def Wd (l : List Int) : Prop := ∀ w ∈ l, 0 ≤ w ∧ w < 4294967296
def Nm (l : List Int) : Prop := ∀ w, l.getLast? = some w → w ≠ 0
theorem wU32 (x : Int) : IntKind.wrap .u32 x = x % 4294967296 := by simp only [IntKind.wrap, IntKind.bits, IntKind.signed]; simp
theorem wU64 (x : Int) : IntKind.wrap .u64 x = x % 18446744073709551616 := by simp only [IntKind.wrap, IntKind.bits, IntKind.signed]; simp
theorem shr32 (x : Int) : bshr .u64 x 32 = x / 4294967296 := by
  unfold bshr
  rw [show (2 : Int) ^ (min (32 : Int).toNat IntKind.u64.bits) = 4294967296 from rfl, Int.fdiv_eq_ediv_of_nonneg _ (by omega)]
theorem shr63 (x : Int) : bshr .u64 x 63 = x / 9223372036854775808 := by
  unfold bshr
  rw [show (2 : Int) ^ (min (63 : Int).toNat IntKind.u64.bits) = 9223372036854775808 from rfl, Int.fdiv_eq_ediv_of_nonneg _ (by omega)]
theorem wv_snoc (w : Int) : ∀ l : List Int, w = 0 → wv (l ++ [w]) = wv l
  | [], h => by subst h; simp [wv]
  | x :: r, h => by rw [List.cons_append, wv, wv, wv_snoc w r h]
theorem lsl0 (l : List Int) (k : Nat) (h : k ≤ l.length) : lsl l 0 (k : Int) = some (l.take k) := by
  unfold lsl
  rw [if_pos ⟨by omega, by omega, by omega⟩]
  simp
theorem trim_ok (n : Nat) (l : List Int) (hl : l.length ≤ 1000) (hn : l.length < n) : ∃ t, q43z n (l, ()) = some (t, ()) ∧ wv t = wv l ∧ Nm t ∧ (∃ m, t = l.take m) := by
  have key : ∀ (k fuel : Nat), k ≤ l.length → k < fuel → wv (l.take k) = wv l →
      ∃ t, iterN (fun rc8 => q43z_s0 n rc8 (fun (v5, v6, _) => (lsl v5 0 v6).bind fun l7 => some (l7, ())) (fun (_) => none)) fuel (l, (k : Int), ()) = some (t, ()) ∧ wv t = wv l ∧ Nm t ∧ (∃ m, t = l.take m) := by
    intro k
    induction k with
    | zero =>
      intro fuel h1 h2 h3
      obtain ⟨f, rfl⟩ : ∃ f, fuel = f + 1 := ⟨fuel - 1, by omega⟩
      refine ⟨[], ?_, h3, (fun w h => by cases h), 0, rfl⟩
      rw [iterN]
      unfold q43z_s0
      dsimp only
      rw [decide_eq_false (show ¬ (((0 : Nat) : Int) > 0) by omega), cond_false, lsl0 l 0 (by omega)]
      rfl
    | succ k ih =>
      intro fuel h1 h2 h3
      obtain ⟨f, rfl⟩ : ∃ f, fuel = f + 1 := ⟨fuel - 1, by omega⟩
      have hw : IntKind.wrap .i64 (((k + 1 : Nat) : Int) - 1) = (k : Int) := by rw [wrap64 (by omega) (by omega)]; omega
      have hx : l[k]? = some l[k] := List.getElem?_eq_getElem (by omega)
      have ht : l.take (k + 1) = l.take k ++ [l[k]] := List.take_succ_eq_append_getElem (by omega)
      rw [iterN]
      generalize hR : iterN _ f = R
      unfold q43z_s0
      dsimp only
      rw [decide_eq_true (show (((k + 1 : Nat) : Int) > 0) by omega), cond_true, hw, ix_ok hx, Option.bind_some]
      cases h0 : l[k] == 0 with
      | true =>
        have h0' : l[k] = 0 := by simpa using h0
        rw [cond_true, ← hR]
        exact ih f (by omega) (by omega) (by rw [← h3, ht, wv_snoc _ _ h0'])
      | false =>
        rw [cond_false, lsl0 l (k + 1) (by omega)]
        refine ⟨l.take (k + 1), rfl, h3, fun w h => ?_, k + 1, rfl⟩
        rw [ht, List.getLast?_concat] at h
        cases h
        simpa using h0
  unfold q43z
  exact key l.length n (Nat.le_refl _) hn (by rw [List.take_length])
/-! ## products -/
def mS (c x y e : Int) : Int := IntKind.wrap .u64 (c + (IntKind.wrap .u64 ((IntKind.wrap .u64 ((IntKind.wrap .u64 x) * (IntKind.wrap .u64 y))) + (IntKind.wrap .u64 e))))
def lo (t : Int) : Int := IntKind.wrap .u32 t
def hi (t : Int) : Int := bshr .u64 t 32
theorem mS_ok {c x y e : Int} (hc : 0 ≤ c ∧ c < 4294967296) (hx : 0 ≤ x ∧ x < 4294967296) (hy : 0 ≤ y ∧ y < 4294967296) (he : 0 ≤ e ∧ e < 4294967296) :
    mS c x y e = c + x * y + e ∧ 0 ≤ mS c x y e ∧ mS c x y e < 18446744073709551616 := by
  have h1 : x * y ≤ 4294967295 * 4294967295 := Int.mul_le_mul (by omega) (by omega) hy.1 (by omega)
  have h0 : 0 ≤ x * y := Int.mul_nonneg hx.1 hy.1
  have e1 : mS c x y e = c + x * y + e := by
    unfold mS
    rw [wrapU64 hx.1 (by omega), wrapU64 hy.1 (by omega), wrapU64 he.1 (by omega), wrapU64 h0 (by omega), wrapU64 (x := x * y + e) (by omega) (by omega), wrapU64 (by omega) (by omega)]
    omega
  rw [e1]
  exact ⟨rfl, by omega, by omega⟩
theorem lohi {t : Int} (h0 : 0 ≤ t) (h1 : t < 18446744073709551616) : t = lo t + 4294967296 * hi t ∧ (0 ≤ lo t ∧ lo t < 4294967296) ∧ 0 ≤ hi t ∧ hi t < 4294967296 := by
  unfold lo hi
  rw [wU32, shr32]
  omega
theorem lo_small {t : Int} (h0 : 0 ≤ t) (h1 : t < 4294967296) : lo t = t := by
  unfold lo
  rw [wU32]
  omega
theorem mul11 (m : Nat) (a0 b0 : Int) : q50z (m + 9) ([a0], [b0], ()) = (q43z (m + 9) ([lo (mS 0 a0 b0 0), lo (hi (mS 0 a0 b0 0))], ())).bind fun (y29, _) => some (y29, ()) := by kernel_rfl
theorem mul12 (m : Nat) (a0 b0 b1 : Int) : q50z (m + 9) ([a0], [b0, b1], ()) = (q43z (m + 9) ([lo (mS 0 a0 b0 0), lo (mS (hi (mS 0 a0 b0 0)) a0 b1 0), lo (hi (mS (hi (mS 0 a0 b0 0)) a0 b1 0))], ())).bind fun (y29, _) => some (y29, ()) := by kernel_rfl
theorem mul21 (m : Nat) (a0 a1 b0 : Int) : q50z (m + 9) ([a0, a1], [b0], ()) = (q43z (m + 9) ([lo (mS 0 a0 b0 0), lo (mS 0 a1 b0 (lo (hi (mS 0 a0 b0 0)))), lo (hi (mS 0 a1 b0 (lo (hi (mS 0 a0 b0 0)))))], ())).bind fun (y29, _) => some (y29, ()) := by kernel_rfl
theorem mul22 (m : Nat) (a0 a1 b0 b1 : Int) : q50z (m + 9) ([a0, a1], [b0, b1], ()) =
    (q43z (m + 9) ([lo (mS 0 a0 b0 0), lo (mS 0 a1 b0 (lo (mS (hi (mS 0 a0 b0 0)) a0 b1 0))), lo (mS (hi (mS 0 a1 b0 (lo (mS (hi (mS 0 a0 b0 0)) a0 b1 0)))) a1 b1 (lo (hi (mS (hi (mS 0 a0 b0 0)) a0 b1 0)))),
      lo (hi (mS (hi (mS 0 a1 b0 (lo (mS (hi (mS 0 a0 b0 0)) a0 b1 0)))) a1 b1 (lo (hi (mS (hi (mS 0 a0 b0 0)) a0 b1 0)))))], ())).bind fun (y29, _) => some (y29, ()) := by kernel_rfl
theorem Wd.take {l : List Int} (h : Wd l) (m : Nat) : Wd (l.take m) := fun w hw => h w (List.mem_of_mem_take hw)
theorem bigmul_ok (n : Nat) (hn : 20 ≤ n) (a b : List Int) (ha : Wd a) (hb : Wd b) (la : a.length ≤ 2) (lb : b.length ≤ 2) :
    ∃ t, q50z n (a, b, ()) = some (t, ()) ∧ wv t = wv a * wv b ∧ Wd t ∧ Nm t ∧ t.length ≤ 4 := by
  obtain ⟨m, rfl⟩ : ∃ m, n = m + 9 := ⟨n - 9, by omega⟩
  have fin : ∀ l : List Int, Wd l → l.length ≤ 4 → wv l = wv a * wv b → q50z (m + 9) (a, b, ()) = (q43z (m + 9) (l, ())).bind (fun (y29, _) => some (y29, ())) →
      ∃ t, q50z (m + 9) (a, b, ()) = some (t, ()) ∧ wv t = wv a * wv b ∧ Wd t ∧ Nm t ∧ t.length ≤ 4 := by
    intro l h1 h2 h3 h4
    obtain ⟨t, t1, t2, t3, k, t4⟩ := trim_ok (m + 9) l (by omega) (by omega)
    refine ⟨t, by rw [h4, t1]; rfl, by rw [t2, h3], by rw [t4]; exact h1.take k, t3, ?_⟩
    rw [t4, List.length_take]
    omega
  match a, b, la, lb with
  | [], b, _, _ => exact ⟨[], rfl, by simp [wv], (fun w h => by cases h), (fun w h => by cases h), by simp⟩
  | a0 :: ar, [], _, _ =>
    refine ⟨[], ?_, by simp [wv], (fun w h => by cases h), (fun w h => by cases h), by simp⟩
    unfold q50z
    simp
  | [a0], [b0], _, _ =>
    have h0 := ha a0 (by simp)
    have g0 := hb b0 (by simp)
    obtain ⟨q1, q2, q3⟩ := mS_ok (c := 0) (e := 0) (by omega) h0 g0 (by omega)
    obtain ⟨r1, r2, r3⟩ := lohi q2 q3
    refine fin _ ?_ (by simp) ?_ (mul11 m a0 b0)
    · intro w hw
      simp only [List.mem_cons, List.not_mem_nil, or_false] at hw
      rcases hw with rfl | rfl
      · exact r2
      · rw [lo_small r3.1 r3.2]; exact r3
    · rw [lo_small r3.1 r3.2]
      simp only [wv]
      rw [show (a0 + 4294967296 * 0) * (b0 + 4294967296 * 0) = a0 * b0 by simp]
      generalize a0 * b0 = P at *
      omega
  | [a0], [b0, b1], _, _ =>
    have h0 := ha a0 (by simp)
    have g0 := hb b0 (by simp)
    have g1 := hb b1 (by simp)
    obtain ⟨q1, q2, q3⟩ := mS_ok (c := 0) (e := 0) (by omega) h0 g0 (by omega)
    obtain ⟨r1, r2, r3⟩ := lohi q2 q3
    obtain ⟨s1, s2, s3⟩ := mS_ok (e := 0) r3 h0 g1 (by omega)
    obtain ⟨u1, u2, u3⟩ := lohi s2 s3
    refine fin _ ?_ (by simp) ?_ (mul12 m a0 b0 b1)
    · intro w hw
      simp only [List.mem_cons, List.not_mem_nil, or_false] at hw
      rcases hw with rfl | rfl | rfl
      · exact r2
      · exact u2
      · rw [lo_small u3.1 u3.2]; exact u3
    · rw [lo_small u3.1 u3.2]
      simp only [wv]
      rw [show (a0 + 4294967296 * 0) * (b0 + 4294967296 * (b1 + 4294967296 * 0)) = a0 * b0 + 4294967296 * (a0 * b1) by simp [Int.mul_add, Int.mul_left_comm]]
      generalize a0 * b0 = P at *
      generalize a0 * b1 = Q at *
      omega
  | [a0, a1], [b0], _, _ =>
    have h0 := ha a0 (by simp)
    have h1 := ha a1 (by simp)
    have g0 := hb b0 (by simp)
    obtain ⟨q1, q2, q3⟩ := mS_ok (c := 0) (e := 0) (by omega) h0 g0 (by omega)
    obtain ⟨r1, r2, r3⟩ := lohi q2 q3
    have e1 := lo_small r3.1 r3.2
    obtain ⟨s1, s2, s3⟩ := mS_ok (c := 0) (e := hi (mS 0 a0 b0 0)) (by omega) h1 g0 r3
    obtain ⟨u1, u2, u3⟩ := lohi s2 s3
    refine fin _ ?_ (by simp) ?_ (mul21 m a0 a1 b0)
    · intro w hw
      rw [e1] at hw
      simp only [List.mem_cons, List.not_mem_nil, or_false] at hw
      rcases hw with rfl | rfl | rfl
      · exact r2
      · exact u2
      · rw [lo_small u3.1 u3.2]; exact u3
    · rw [e1, lo_small u3.1 u3.2]
      simp only [wv]
      rw [show (a0 + 4294967296 * (a1 + 4294967296 * 0)) * (b0 + 4294967296 * 0) = a0 * b0 + 4294967296 * (a1 * b0) by simp [Int.add_mul, Int.mul_assoc]]
      generalize a0 * b0 = P at *
      generalize a1 * b0 = Q at *
      omega
  | [a0, a1], [b0, b1], _, _ =>
    have h0 := ha a0 (by simp)
    have h1 := ha a1 (by simp)
    have g0 := hb b0 (by simp)
    have g1 := hb b1 (by simp)
    obtain ⟨q1, q2, q3⟩ := mS_ok (c := 0) (e := 0) (by omega) h0 g0 (by omega)
    obtain ⟨r1, r2, r3⟩ := lohi q2 q3
    obtain ⟨s1, s2, s3⟩ := mS_ok (e := 0) r3 h0 g1 (by omega)
    obtain ⟨u1, u2, u3⟩ := lohi s2 s3
    have e1 := lo_small u3.1 u3.2
    obtain ⟨v1, v2, v3⟩ := mS_ok (c := 0) (by omega) h1 g0 u2
    obtain ⟨w1, w2, w3⟩ := lohi v2 v3
    obtain ⟨x1, x2, x3⟩ := mS_ok w3 h1 g1 u3
    obtain ⟨y1, y2, y3⟩ := lohi x2 x3
    have e2 := lo_small y3.1 y3.2
    refine fin _ ?_ (by simp) ?_ (mul22 m a0 a1 b0 b1)
    · intro w hw
      rw [e1, e2] at hw
      simp only [List.mem_cons, List.not_mem_nil, or_false] at hw
      rcases hw with rfl | rfl | rfl | rfl
      · exact r2
      · exact w2
      · exact y2
      · exact y3
    · rw [e1, e2]
      simp only [wv]
      rw [show (a0 + 4294967296 * (a1 + 4294967296 * 0)) * (b0 + 4294967296 * (b1 + 4294967296 * 0)) = a0 * b0 + 4294967296 * (a0 * b1 + a1 * b0 + 4294967296 * (a1 * b1)) by
        simp only [Int.mul_zero, Int.add_zero, Int.add_mul, Int.mul_add]
        rw [Int.mul_assoc 4294967296 a1 b0, Int.mul_left_comm a0 4294967296 b1, Int.mul_assoc 4294967296 a1 (4294967296 * b1), Int.mul_left_comm a1 4294967296 b1]
        omega]
      generalize a0 * b0 = P at *
      generalize a0 * b1 = Q at *
      generalize a1 * b0 = R at *
      generalize a1 * b1 = S at *
      omega
  | _ :: _ :: _ :: _, _, h, _ => simp at h
  | _, _ :: _ :: _ :: _, _, h => simp at h
/-! ## a number, made and read -/
theorem or_shift (a b : Int) (ha : 0 ≤ a ∧ a < 4294967296) (hb : 0 ≤ b ∧ b < 4294967296) : bor .u64 (IntKind.wrap .u64 a) (bshl .u64 (IntKind.wrap .u64 b) 32) = a + 4294967296 * b := by
  obtain ⟨x, rfl⟩ : ∃ x : Nat, a = x := ⟨a.toNat, by omega⟩
  obtain ⟨y, rfl⟩ : ∃ y : Nat, b = y := ⟨b.toNat, by omega⟩
  rw [wrapU64 ha.1 (by omega), wrapU64 hb.1 (by omega)]
  have e1 : bshl .u64 (y : Int) 32 = ((y * 4294967296 : Nat) : Int) := by
    unfold bshl
    rw [show (2 : Int) ^ (min (32 : Int).toNat IntKind.u64.bits) = 4294967296 from rfl, wrapU64 (by omega) (by omega)]
    omega
  rw [e1]
  unfold bor
  show IntKind.wrap .u64 (((BitVec.ofInt 64 ((x : Nat) : Int) ||| BitVec.ofInt 64 ((y * 4294967296 : Nat) : Int) : BitVec 64)).toNat : Int) = _
  rw [BitVec.toNat_or, BitVec.ofInt_natCast, BitVec.ofInt_natCast, BitVec.toNat_ofNat, BitVec.toNat_ofNat, Nat.mod_eq_of_lt (by omega), Nat.mod_eq_of_lt (by omega)]
  have e3 : x ||| y * 4294967296 = y * 4294967296 + x := by
    rw [Nat.or_comm, show y * 4294967296 = y <<< 32 by rw [Nat.shiftLeft_eq], ← Nat.shiftLeft_add_eq_or_of_lt (by omega)]
  rw [e3, wrapU64 (by omega) (by omega)]
  omega
theorem wv_nonneg : ∀ {l : List Int}, Wd l → 0 ≤ wv l
  | [], _ => Int.le_refl _
  | w :: r, h => by
    have h1 := h w (by simp)
    have h2 := wv_nonneg (l := r) fun x hx => h x (by simp [hx])
    rw [wv]
    omega
def bv (s : Bool) (t : List Int) : Int := if s = true then - wv t else wv t
theorem newInt_ok (n : Nat) (hn : 10 ≤ n) (x : Int) (h0 : -9223372036854775808 ≤ x) (h1 : x ≤ 9223372036854775807) :
    ∃ t, q26z n (x, ()) = some ((decide (x < 0), t, ()), ()) ∧ bv (decide (x < 0)) t = x ∧ Wd t ∧ Nm t ∧ t.length ≤ 2 := by
  have words : ∀ u : Int, 0 ≤ u → u < 18446744073709551616 → ∃ t, q36z n (u, ()) = some (t, ()) ∧ wv t = u ∧ Wd t ∧ Nm t ∧ t.length ≤ 2 := by
    intro u h0 h1
    obtain ⟨t, t1, t2, t3, k, t4⟩ := trim_ok n [IntKind.wrap .u32 u, IntKind.wrap .u32 (bshr .u64 u 32)] (by simp) (by simp; omega)
    refine ⟨t, ?_, ?_, ?_, t3, ?_⟩
    · unfold q36z
      dsimp only
      rw [t1]
      rfl
    · rw [t2]
      simp only [wv, wU32, shr32]
      omega
    · rw [t4]
      refine Wd.take (fun w hw => ?_) k
      simp only [List.mem_cons, List.not_mem_nil, or_false, wU32, shr32] at hw
      omega
    · rw [t4, List.length_take]
      simp only [List.length_cons, List.length_nil]
      omega
  cases hx : decide (x < 0) with
  | true =>
    have hx' := of_decide_eq_true hx
    obtain ⟨t, t1, t2, t3, t4, t5⟩ := words (-x) (by omega) (by omega)
    have e : IntKind.wrap .u64 (0 - IntKind.wrap .u64 x) = -x := by rw [wU64, wU64]; omega
    refine ⟨t, ?_, ?_, t3, t4, t5⟩
    · unfold q26z q6z
      dsimp only
      rw [hx, cond_true, e, t1, Option.bind_some]
      unfold q18z
      dsimp only
      have : decide ((t.length : Int) > 0) = true := by
        rw [decide_eq_true_eq]
        cases t with
        | nil => simp [wv] at t2 <;> omega
        | cons a r => simp
      rw [this]
      rfl
    · unfold bv
      rw [if_pos rfl, t2]
      omega
  | false =>
    have hx' := of_decide_eq_false hx
    obtain ⟨t, t1, t2, t3, t4, t5⟩ := words x (by omega) (by omega)
    have e : IntKind.wrap .u64 x = x := by rw [wU64]; omega
    refine ⟨t, ?_, ?_, t3, t4, t5⟩
    · unfold q26z q6z
      dsimp only
      rw [hx, cond_false, e, t1, Option.bind_some]
      rfl
    · unfold bv
      rw [if_neg (by simp), t2]
/-! ## how long a number is -/
theorem shr1 (x : Int) : bshr .u32 x 1 = x / 2 := by
  unfold bshr
  rw [show (2 : Int) ^ (min (1 : Int).toNat IntKind.u32.bits) = 2 from rfl, Int.fdiv_eq_ediv_of_nonneg _ (by omega)]
theorem len_loop (n : Nat) (v3 : List Int) (K : List Int × Int × Unit → Option (Int × Unit)) (kr : Unit → Option (Int × Unit)) : ∀ (k fuel : Nat) (c x : Int), 0 ≤ x → x < 2 ^ k → k ≤ 40 → k < fuel → 0 ≤ c → c + k ≤ 1000 →
    ∃ b : Nat, b ≤ k ∧ (∀ j : Nat, b ≤ j ↔ x < 2 ^ j) ∧ iterN (fun rc => q27z_s0 n rc K kr) fuel (v3, c, x, ()) = K (v3, c + b, ()) := by
  intro k
  induction k with
  | zero =>
    intro fuel c x h0 h1 hk hf hc hc2
    obtain ⟨f, rfl⟩ : ∃ f, fuel = f + 1 := ⟨fuel - 1, by omega⟩
    have hx : x = 0 := by simp at h1; omega
    refine ⟨0, Nat.le_refl _, fun j => ⟨fun _ => by rw [hx]; exact Int.pow_pos (by omega), fun _ => Nat.zero_le _⟩, ?_⟩
    rw [iterN]
    unfold q27z_s0
    dsimp only
    rw [hx, show ((0 : Int) != 0) = false from rfl, cond_false]
    simp
  | succ k ih =>
    intro fuel c x h0 h1 hk hf hc hc2
    obtain ⟨f, rfl⟩ : ∃ f, fuel = f + 1 := ⟨fuel - 1, by omega⟩
    by_cases hx : x = 0
    · refine ⟨0, by omega, fun j => ⟨fun _ => by rw [hx]; exact Int.pow_pos (by omega), fun _ => Nat.zero_le _⟩, ?_⟩
      rw [iterN]
      unfold q27z_s0
      dsimp only
      rw [hx, show ((0 : Int) != 0) = false from rfl, cond_false]
      simp
    · have h2 : x / 2 < 2 ^ k := by rw [Int.pow_succ] at h1; omega
      obtain ⟨b, b1, b2, b3⟩ := ih f (c + 1) (x / 2) (by omega) h2 (by omega) (by omega) (by omega) (by omega)
      refine ⟨b + 1, by omega, fun j => ?_, ?_⟩
      · cases j with
        | zero => simp; omega
        | succ j =>
          rw [Int.pow_succ]
          have := b2 j
          constructor
          · intro h; have := this.1 (by omega); omega
          · intro h; have := this.2 (by omega); omega
      · rw [iterN]
        generalize hR : iterN _ f = R
        unfold q27z_s0
        dsimp only
        rw [show (x != 0) = true by simpa using hx, cond_true, shr1, wrap64 (by omega) (by omega), ← hR]
        refine b3.trans ?_
        rw [show c + 1 + (b : Int) = c + ((b + 1 : Nat) : Int) by omega]
theorem biglen_ok (n : Nat) (hn : 60 ≤ n) (r : List Int) (w : Int) (hw : 0 < w ∧ w < 4294967296) (hl : r.length ≤ 10) :
    ∃ b : Nat, 1 ≤ b ∧ b ≤ 32 ∧ (b ≤ 31 ↔ w < 2147483648) ∧ q27z n (r ++ [w], ()) = some (32 * (r.length : Int) + b, ()) := by
  obtain ⟨b, b1, b2, b3⟩ := len_loop n (r ++ [w]) (fun (v6, v7, _) => some (IntKind.wrap .i64 ((IntKind.wrap .i64 ((IntKind.wrap .i64 ((v6.length : Int) - 1)) * 32)) + v7), ())) (fun _ => none) 32 n 0 w (by omega) (by simpa using hw.2) (by omega) (by omega) (by omega) (by omega)
  have hb : 1 ≤ b := by
    rcases Nat.eq_zero_or_pos b with h | h
    · have := (b2 0).1 (by omega); simp at this; omega
    · exact h
  refine ⟨b, hb, b1, by simpa using b2 31, ?_⟩
  unfold q27z
  dsimp only
  rw [List.length_append, List.length_singleton, show (((r.length + 1 : Nat) : Int) == 0) = false by simp; omega, cond_false,
    wrap64 (by omega) (by omega), show ((r.length + 1 : Nat) : Int) - 1 = (r.length : Int) by omega, ix_ok (show (r ++ [w])[r.length]? = some w by simp), Option.bind_some]
  refine b3.trans ?_
  dsimp only
  rw [List.length_append, List.length_singleton, show ((r.length + 1 : Nat) : Int) - 1 = (r.length : Int) by omega, wrap64 (x := (r.length : Int)) (by omega) (by omega), wrap64 (x := (r.length : Int) * 32) (by omega) (by omega), wrap64 (by omega) (by omega)]
  congr 2
  omega
/-! ## the noughts at the low end -/
theorem bit_ok (w0 w1 : Int) (h0 : 0 ≤ w0 ∧ w0 < 4294967296) (h1 : 0 ≤ w1 ∧ w1 < 4294967296) (i : Nat) (hi : i < 64) :
    q48z ([w0, w1], (i : Int), ()) = some ((bif Nat.blt i 32 then w0 / 2 ^ i else w1 / 2 ^ (i - 32)) % 2, ()) := by
  have and1 : ∀ y : Int, 0 ≤ y → y < 4294967296 → band .u64 (IntKind.wrap .u64 y) 1 = y % 2 := by
    intro y g0 g1
    obtain ⟨z, rfl⟩ : ∃ z : Nat, y = z := ⟨y.toNat, by omega⟩
    rw [wrapU64 g0 (by omega)]
    unfold band
    show IntKind.wrap .u64 (((BitVec.ofInt 64 ((z : Nat) : Int) &&& BitVec.ofInt 64 ((1 : Nat) : Int) : BitVec 64)).toNat : Int) = _
    rw [BitVec.toNat_and, BitVec.ofInt_natCast, BitVec.ofInt_natCast, BitVec.toNat_ofNat, BitVec.toNat_ofNat, Nat.mod_eq_of_lt (by omega), Nat.mod_eq_of_lt (by omega), Nat.and_one_is_mod, wrapU64 (by omega) (by omega)]
    omega
  have sh : ∀ (x : Int) (q : Nat), 0 ≤ x → x < 4294967296 → q < 32 → bshr .u32 x (q : Int) = x / 2 ^ q ∧ 0 ≤ x / 2 ^ q ∧ x / 2 ^ q < 4294967296 := by
    intro x q g0 g1 g2
    have hp : (0 : Int) < 2 ^ q := Int.pow_pos (by omega)
    refine ⟨?_, Int.ediv_nonneg g0 (by omega), ?_⟩
    · unfold bshr
      rw [show min ((q : Int)).toNat IntKind.u32.bits = q by simp [IntKind.bits]; omega, Int.fdiv_eq_ediv_of_nonneg _ (by omega)]
    · have := Int.ediv_le_self (2 ^ q) g0
      omega
  unfold q48z
  dsimp only
  have e1 : bquo .i64 (i : Int) 32 = ((i / 32 : Nat) : Int) := by
    unfold bquo
    rw [Int.tdiv_eq_ediv_of_nonneg (by omega), wrap64 (by omega) (by omega)]
    omega
  have e2 : brem .u64 (IntKind.wrap .u64 (i : Int)) 32 = ((i % 32 : Nat) : Int) := by
    unfold brem
    rw [wrapU64 (by omega) (by omega), Int.tmod_eq_emod_of_nonneg (by omega)]
    omega
  rw [e1, e2, decide_eq_false (show ¬ ((i : Int) < 0) by omega), decide_eq_false (show ¬ (((i / 32 : Nat) : Int) ≥ (([w0, w1] : List Int).length : Int)) by simp; omega), Bool.or_self, cond_false]
  have e3 : shamt ((i % 32 : Nat) : Int) = some ((i % 32 : Nat) : Int) := by unfold shamt; rw [if_pos (by omega)]
  cases hb : Nat.blt i 32 with
  | true =>
    have hlt := blt_lt hb
    rw [ix_ok (show ([w0, w1] : List Int)[i / 32]? = some w0 by rw [show i / 32 = 0 by omega]; rfl), Option.bind_some, e3, Option.bind_some]
    obtain ⟨s1, s2, s3⟩ := sh w0 (i % 32) h0.1 h0.2 (by omega)
    rw [s1, and1 _ s2 s3, cond_true, show i % 32 = i by omega]
  | false =>
    have hge : 32 ≤ i := by
      rcases Nat.lt_or_ge i 32 with h | h
      · rw [show Nat.blt i 32 = true from Nat.ble_eq_true_of_le h] at hb; cases hb
      · exact h
    rw [ix_ok (show ([w0, w1] : List Int)[i / 32]? = some w1 by rw [show i / 32 = 1 by omega]; rfl), Option.bind_some, e3, Option.bind_some]
    obtain ⟨s1, s2, s3⟩ := sh w1 (i % 32) h1.1 h1.2 (by omega)
    rw [s1, and1 _ s2 s3, cond_false, show i % 32 = i - 32 by omega]
theorem has_bit : ∀ (k : Nat) (x : Int), 0 < x → x < 2 ^ k → ∃ j, j < k ∧ x / 2 ^ j % 2 = 1
  | 0, x, h0, h1 => by simp at h1; omega
  | k + 1, x, h0, h1 => by
    by_cases hx : x % 2 = 1
    · exact ⟨0, by omega, by simpa using hx⟩
    · rw [Int.pow_succ] at h1
      obtain ⟨j, j1, j2⟩ := has_bit k (x / 2) (by omega) (by omega)
      refine ⟨j + 1, by omega, ?_⟩
      rw [Int.pow_succ, Int.mul_comm, ← Int.ediv_ediv_of_nonneg (by omega)]
      exact j2
theorem tz_stop (n : Nat) (s : Bool) (w0 w1 : Int) (h0 : 0 ≤ w0 ∧ w0 < 4294967296) (h1 : 0 ≤ w1 ∧ w1 < 4294967296) (j : Nat) (hj : j < 64) (hb : (bif Nat.blt j 32 then w0 / 2 ^ j else w1 / 2 ^ (j - 32)) % 2 = 1)
    (K : Int × (Bool × List Int × Unit) × Unit → Option (Int × (Bool × List Int × Unit) × Unit)) (kr : Unit → Option (Int × (Bool × List Int × Unit) × Unit)) :
    ∀ (d fuel i : Nat), i + d = j → d < fuel → ∃ k : Nat, k ≤ j ∧ iterN (fun rc => q3z_s0 n rc K kr) fuel ((i : Int), (s, [w0, w1], ()), ()) = K ((k : Int), (s, [w0, w1], ()), ()) := by
  intro d
  induction d with
  | zero =>
    intro fuel i hi hf
    obtain ⟨f, rfl⟩ : ∃ f, fuel = f + 1 := ⟨fuel - 1, by omega⟩
    refine ⟨i, by omega, ?_⟩
    have : i = j := by omega
    subst this
    rw [iterN]
    unfold q3z_s0
    dsimp only
    rw [wrap64 (by omega) (by omega), bit_ok w0 w1 h0 h1 i hj, Option.bind_some]
    dsimp only
    rw [hb]
    rfl
  | succ d ih =>
    intro fuel i hi hf
    obtain ⟨f, rfl⟩ : ∃ f, fuel = f + 1 := ⟨fuel - 1, by omega⟩
    rw [iterN]
    obtain ⟨k, k1, k2⟩ := ih f (i + 1) (by omega) (by omega)
    generalize iterN (fun rc => q3z_s0 n rc K kr) f = R at k2 ⊢
    unfold q3z_s0
    dsimp only
    rw [wrap64 (by omega) (by omega), bit_ok w0 w1 h0 h1 i (by omega), Option.bind_some]
    dsimp only
    cases hz : (bif Nat.blt i 32 then w0 / 2 ^ i else w1 / 2 ^ (i - 32)) % 2 == 0 with
    | true =>
      refine ⟨k, k1, ?_⟩
      rw [cond_true, wrapU64 (by omega) (by omega), show (i : Int) + 1 = ((i + 1 : Nat) : Int) by omega]
      exact k2
    | false => exact ⟨i, by omega, by rw [cond_false]⟩
theorem tz_top (m : Nat) : q3z (m + 70) ((true, [0, 2147483648], ()), ()) = some (63, (true, [0, 2147483648], ()), ()) := by kernel_rfl
theorem tz_ok (n : Nat) (hn : 100 ≤ n) (w0 w1 : Int) (h0 : 0 ≤ w0 ∧ w0 < 4294967296) (h1 : 2147483648 ≤ w1 ∧ w1 < 4294967296) :
    ∃ k : Int, (k == 63) = (decide (w0 = 0) && decide (w1 = 2147483648)) ∧ q3z n ((true, [w0, w1], ()), ()) = some (k, (true, [w0, w1], ()), ()) := by
  by_cases ht : w0 = 0 ∧ w1 = 2147483648
  · obtain ⟨rfl, rfl⟩ := ht
    obtain ⟨m, rfl⟩ : ∃ m, n = m + 70 := ⟨n - 70, by omega⟩
    exact ⟨63, by simp, tz_top m⟩
  · have hj : ∃ j : Nat, j < 63 ∧ (bif Nat.blt j 32 then w0 / 2 ^ j else w1 / 2 ^ (j - 32)) % 2 = 1 := by
      by_cases hw : w0 = 0
      · have hw1 : w1 ≠ 2147483648 := fun h => ht ⟨hw, h⟩
        obtain ⟨j, j1, j2⟩ := has_bit 31 (w1 - 2147483648) (by omega) (by have : (2 : Int) ^ 31 = 2147483648 := rfl; omega)
        refine ⟨j + 32, by omega, ?_⟩
        have hb : Nat.blt (j + 32) 32 = false := by
          cases h : Nat.blt (j + 32) 32 with
          | false => rfl
          | true => have := blt_lt h; omega
        rw [hb, cond_false, Nat.add_sub_cancel]
        have e : w1 = (w1 - 2147483648) + 2 ^ (31 - j) * 2 ^ j := by rw [← Int.pow_add, show 31 - j + j = 31 by omega]; omega
        have hp : (0 : Int) < 2 ^ j := Int.pow_pos (by omega)
        rw [e, Int.add_mul_ediv_right _ _ (by omega), show 31 - j = (30 - j) + 1 by omega, Int.pow_succ]
        omega
      · obtain ⟨j, j1, j2⟩ := has_bit 32 w0 (by omega) (by have : (2 : Int) ^ 32 = 4294967296 := rfl; omega)
        refine ⟨j, by omega, ?_⟩
        rw [show Nat.blt j 32 = true from Nat.ble_eq_true_of_le (by omega), cond_true]
        exact j2
    obtain ⟨j, j1, j2⟩ := hj
    obtain ⟨k, k1, k2⟩ := tz_stop n true w0 w1 h0 (by omega) j (by omega) j2 (fun (v5, o6, _) => some (v5, (o6.1, o6.2.1, ()), ())) (fun _ => none) j n 0 (by omega) (by omega)
    refine ⟨(k : Int), ?_, ?_⟩
    · rw [show ((k : Int) == 63) = false by simp; omega]
      have : ¬ (w0 = 0 ∧ w1 = 2147483648) := ht
      cases hd : decide (w0 = 0) with
      | false => rfl
      | true =>
        rw [Bool.true_and]
        exact (decide_eq_false fun h => this ⟨of_decide_eq_true hd, h⟩).symm
    · unfold q3z
      dsimp only
      rw [show ((([w0, w1] : List Int).length : Int) == 0) = false from rfl, cond_false]
      exact k2
/-! ## does it fit? -/
def inG (x : Int) : Bool := decide (-9223372036854775808 ≤ x) && decide (x ≤ 9223372036854775807)
theorem inG_t {x : Int} (h0 : -9223372036854775808 ≤ x) (h1 : x ≤ 9223372036854775807) : inG x = true := by
  unfold inG; rw [decide_eq_true h0, decide_eq_true h1]; rfl
theorem inG_f {x : Int} (h : ¬ (-9223372036854775808 ≤ x ∧ x ≤ 9223372036854775807)) : inG x = false := by
  unfold inG
  rw [Bool.and_eq_false_iff, decide_eq_false_iff_not, decide_eq_false_iff_not]
  omega
theorem isInt_ok (n : Nat) (hn : 100 ≤ n) (s : Bool) (t : List Int) (ht : Wd t) (hm : Nm t) (hl : t.length ≤ 4) : q7z n ((s, t, ()), ()) = some (inG (bv s t), (s, t, ()), ()) := by
  have top : ∀ (r : List Int) (w : Int), t = r ++ [w] → 0 < w ∧ w < 4294967296 := fun r w e => by
    have h1 := ht w (by rw [e]; simp)
    have h2 := hm w (by rw [e]; simp)
    omega
  unfold q7z
  dsimp only
  match t, ht, hm, hl, top with
  | [], _, _, _, _ =>
    rw [show inG (bv s []) = true by cases s <;> rfl]
    rfl
  | [w], ht, _, _, top =>
    have hw := top [] w rfl
    obtain ⟨b, b1, b2, b3, b4⟩ := biglen_ok n (by omega) [] w hw (by simp)
    rw [show ([w] : List Int) = [] ++ [w] from rfl, b4, Option.bind_some]
    dsimp only
    rw [decide_eq_true (show 32 * (([] : List Int).length : Int) + (b : Int) < 64 by simp; omega), cond_true]
    rw [inG_t (by unfold bv; cases s <;> simp [wv] <;> omega) (by unfold bv; cases s <;> simp [wv] <;> omega)]
  | [w0, w], ht, _, _, top =>
    have hw := top [w0] w rfl
    have h0 := ht w0 (by simp)
    obtain ⟨b, b1, b2, b3, b4⟩ := biglen_ok n (by omega) [w0] w hw (by simp)
    rw [show ([w0, w] : List Int) = [w0] ++ [w] from rfl, b4, Option.bind_some]
    dsimp only
    have e : bv s ([w0] ++ [w]) = if s = true then -(w0 + 4294967296 * w) else w0 + 4294967296 * w := by
      unfold bv
      simp [wv]
    by_cases hb : b ≤ 31
    · have := b3.1 hb
      rw [decide_eq_true (show 32 * (([w0] : List Int).length : Int) + (b : Int) < 64 by simp; omega), cond_true]
      rw [inG_t (by rw [e]; cases s <;> simp <;> omega) (by rw [e]; cases s <;> simp <;> omega)]
    · have hge : ¬ w < 2147483648 := fun h => hb (b3.2 h)
      rw [decide_eq_false (show ¬ (32 * (([w0] : List Int).length : Int) + (b : Int) < 64) by simp; omega), cond_false,
        show (32 * (([w0] : List Int).length : Int) + (b : Int) == 64) = true by simp; omega, Bool.true_and]
      cases s with
      | false =>
        rw [cond_false, inG_f (by rw [e]; simp; omega)]
      | true =>
        obtain ⟨k, k1, k2⟩ := tz_ok n hn w0 w h0 (by omega)
        rw [cond_true, show q3z n ((true, [w0] ++ [w], ()), ()) = _ from k2, Option.bind_some]
        dsimp only
        rw [k1]
        congr 2
        rw [e]
        by_cases hx : w0 = 0 ∧ w = 2147483648
        · obtain ⟨rfl, rfl⟩ := hx
          rfl
        · rw [inG_f (by simp; omega)]
          cases hd : decide (w0 = 0) with
          | false => rfl
          | true =>
            rw [Bool.true_and]
            exact decide_eq_false fun h => hx ⟨of_decide_eq_true hd, h⟩
  | [w0, w1, w], ht, _, _, top =>
    have hw := top [w0, w1] w rfl
    have h0 := ht w0 (by simp)
    have h1 := ht w1 (by simp)
    obtain ⟨b, b1, b2, b3, b4⟩ := biglen_ok n (by omega) [w0, w1] w hw (by simp)
    rw [show ([w0, w1, w] : List Int) = [w0, w1] ++ [w] from rfl, b4, Option.bind_some]
    dsimp only
    rw [decide_eq_false (show ¬ (32 * (([w0, w1] : List Int).length : Int) + (b : Int) < 64) by simp; omega), cond_false,
        show (32 * (([w0, w1] : List Int).length : Int) + (b : Int) == 64) = false by simp; omega, Bool.false_and, cond_false]
    rw [inG_f (by unfold bv; cases s <;> simp [wv] <;> omega)]
  | [w0, w1, w2, w], ht, _, _, top =>
    have hw := top [w0, w1, w2] w rfl
    have h0 := ht w0 (by simp)
    have h1 := ht w1 (by simp)
    have h2 := ht w2 (by simp)
    obtain ⟨b, b1, b2, b3, b4⟩ := biglen_ok n (by omega) [w0, w1, w2] w hw (by simp)
    rw [show ([w0, w1, w2, w] : List Int) = [w0, w1, w2] ++ [w] from rfl, b4, Option.bind_some]
    dsimp only
    rw [decide_eq_false (show ¬ (32 * (([w0, w1, w2] : List Int).length : Int) + (b : Int) < 64) by simp; omega), cond_false,
        show (32 * (([w0, w1, w2] : List Int).length : Int) + (b : Int) == 64) = false by simp; omega, Bool.false_and, cond_false]
    rw [inG_f (by unfold bv; cases s <;> simp [wv] <;> omega)]
  | _ :: _ :: _ :: _ :: _ :: _, _, _, h, _ => simp at h
theorem int64_ok (s : Bool) (t : List Int) (ht : Wd t) (hm : Nm t) (hg : inG (bv s t) = true) : q14z ((s, t, ()), ()) = some (bv s t, (s, t, ()), ()) := by
  have hg' : -9223372036854775808 ≤ bv s t ∧ bv s t ≤ 9223372036854775807 := by
    unfold inG at hg
    simpa using hg
  have hU : wv t < 18446744073709551616 ∧ 0 ≤ wv t := by
    have h0 := wv_nonneg ht
    unfold bv at hg'
    cases s <;> simp at hg' <;> omega
  have hu : q9z ((s, t, ()), ()) = some (wv t, (s, t, ()), ()) := by
    unfold q9z
    dsimp only
    match t, ht, hm, hU with
    | [], _, _, _ => rfl
    | [w], ht, _, _ =>
      have h0 := ht w (by simp)
      have e : IntKind.wrap .u64 w = wv [w] := by rw [wrapU64 h0.1 (by omega)]; simp [wv]
      rw [← e]
      rfl
    | [w0, w1], ht, _, _ =>
      have h0 := ht w0 (by simp)
      have h1 := ht w1 (by simp)
      have e : bor .u64 (IntKind.wrap .u64 w0) (bshl .u64 (IntKind.wrap .u64 w1) 32) = wv [w0, w1] := by rw [or_shift w0 w1 h0 h1]; simp [wv]
      rw [← e]
      rfl
    | w0 :: w1 :: w2 :: r, ht, hm, hU =>
      exfalso
      have h0 := ht w0 (by simp)
      have h1 := ht w1 (by simp)
      have hr : 0 < wv (w2 :: r) := by
        have pos : ∀ (l : List Int), Wd l → Nm l → l ≠ [] → 0 < wv l := by
          intro l
          induction l with
          | nil => intro _ _ h; exact absurd rfl h
          | cons a r ih =>
            intro h1 h2 _
            have g := h1 a (by simp)
            cases r with
            | nil =>
              have := h2 a (by simp)
              simp [wv]
              omega
            | cons b q =>
              have := ih (fun x hx => h1 x (by simp [hx])) (fun w hw => h2 w (by rw [List.getLast?_cons_cons]; exact hw)) (by simp)
              rw [wv]
              omega
        exact pos _ (fun v hv => ht v (by simp only [List.mem_cons] at hv ⊢; exact .inr (.inr hv))) (fun w hw => hm w (by rw [List.getLast?_cons_cons, List.getLast?_cons_cons]; exact hw)) (by simp)
      rw [wv, wv] at hU
      omega
  unfold q14z
  dsimp only
  rw [hu, Option.bind_some]
  dsimp only
  unfold bv at hg' ⊢
  cases s with
  | true =>
    rw [cond_true]
    simp only [if_true] at hg' ⊢
    rw [IntKind.wrap_i64, IntKind.wrap_i64]
    congr 2
    omega
  | false =>
    rw [cond_false]
    simp only [Bool.false_eq_true, if_false] at hg' ⊢
    rw [IntKind.wrap_i64]
    congr 2
    omega
/-! ## a product -/
theorem mulR_ok (n : Nat) (hn : 100 ≤ n) (x y : Int) (hx : -9223372036854775808 ≤ x ∧ x ≤ 9223372036854775807) (hy : -9223372036854775808 ≤ y ∧ y ≤ 9223372036854775807) (s1 s2 : ByteArray) (l1 l2 : List Val) :
    q20z n (⟨#[42]⟩, .mk 2 x s1 l1, .mk 2 y s2 l2, ()) = bif inG (x * y) then some (.mk 2 (x * y) ⟨#[]⟩ [], 0, ()) else some (.mk 0 0 ⟨#[]⟩ [], 4, ()) := by
  obtain ⟨a, a1, a2, a3, a4, a5⟩ := newInt_ok n (by omega) x hx.1 hx.2
  obtain ⟨b, b1, b2, b3, b4, b5⟩ := newInt_ok n (by omega) y hy.1 hy.2
  obtain ⟨t, t1, t2, t3, t4, t5⟩ := bigmul_ok n (by omega) a b a3 b3 a5 b5
  unfold q20z
  dsimp +instances only [kind_mk, n_mk, s_mk, l_mk]
  have q1 : seq (⟨#[42]⟩ : ByteArray) (⟨#[43]⟩ : ByteArray) = false := by decide +kernel
  have q2 : seq (⟨#[42]⟩ : ByteArray) (⟨#[45]⟩ : ByteArray) = false := by decide +kernel
  have q3 : seq (⟨#[42]⟩ : ByteArray) (⟨#[42]⟩ : ByteArray) = true := by decide +kernel
  rw [q1, q2, q3]
  simp only [Bool.not_true, Bool.not_false, Bool.and_false, cond_false, show ((2 : Int) == 0) = false from rfl, Bool.or_self, show ((2 : Int) == 2) = true from rfl, Bool.and_self, cond_true]
  rw [a1, Option.bind_some, b1, Option.bind_some]
  unfold q22z
  dsimp only
  rw [t1, Option.bind_some]
  unfold q18z
  dsimp only
  rw [Option.bind_some, Option.bind_some]
  dsimp only
  generalize hs : (!(decide (x < 0) == decide (y < 0)) && decide ((t.length : Int) > 0)) = s
  have hv : bv s t = x * y := by
    rw [← a2, ← b2, ← hs]
    unfold bv
    cases t with
    | nil =>
      simp [wv] at t2
      have : wv a = 0 ∨ wv b = 0 := Int.mul_eq_zero.1 t2.symm
      rcases this with h | h <;> simp [h, wv]
    | cons w r =>
      rw [show decide ((((w :: r).length : Nat) : Int) > 0) = true by simp, Bool.and_true, t2]
      cases decide (x < 0) <;> cases decide (y < 0) <;> simp [Int.neg_mul, Int.mul_neg]
  rw [isInt_ok n hn s t t3 t4 t5, hv, Option.bind_some]
  dsimp only
  cases hg : inG (x * y) with
  | false => rfl
  | true =>
    rw [show (!true) = false from rfl, cond_false, cond_true, int64_ok s t t3 t4 (by rw [hv]; exact hg), Option.bind_some, hv]
end Pure
/- Sums of whole numbers of any size. No program. -/
namespace Pure
open Esp Ev Go
set_option linter.unusedSimpArgs false
set_option linter.unusedVariables false
/-! ## which is greater -/
theorem cmp00 (m : Nat) : q49z (m + 9) ([], [], ()) = some (0, ()) := by kernel_rfl
theorem cmp11 (m : Nat) (a0 b0 : Int) : q49z (m + 9) ([a0], [b0], ()) = (bif (a0 : Int) != b0 then (bif decide ((a0 : Int) < b0) then some (-1, ()) else some (1, ())) else some (0, ())) := by kernel_rfl
theorem cmp22 (m : Nat) (a0 a1 b0 b1 : Int) : q49z (m + 9) ([a0, a1], [b0, b1], ()) = (bif (a1 : Int) != b1 then (bif decide ((a1 : Int) < b1) then some (-1, ()) else some (1, ())) else (bif (a0 : Int) != b0 then (bif decide ((a0 : Int) < b0) then some (-1, ()) else some (1, ())) else some (0, ()))) := by kernel_rfl
theorem Nm.last {r : List Int} {w : Int} (h : Nm (r ++ [w])) : w ≠ 0 := h w (by simp)
theorem bigcmp_ok (n : Nat) (hn : 20 ≤ n) (a b : List Int) (ha : Wd a) (hb : Wd b) (na : Nm a) (nb : Nm b) (la : a.length ≤ 2) (lb : b.length ≤ 2) :
    ∃ c : Int, q49z n (a, b, ()) = some (c, ()) ∧ (decide (c ≥ 0) = true → wv b ≤ wv a ∧ b.length ≤ a.length) ∧ (decide (c ≥ 0) = false → wv a ≤ wv b ∧ a.length ≤ b.length) := by
  obtain ⟨m, rfl⟩ : ∃ m, n = m + 9 := ⟨n - 9, by omega⟩
  match a, b, la, lb with
  | [], [], _, _ => exact ⟨0, cmp00 m, by simp, by simp⟩
  | [], b0 :: r, _, _ => exact ⟨-1, (by
      unfold q49z
      dsimp only
      rw [show ((([] : List Int).length : Int) != ((b0 :: r).length : Int)) = true by rw [bne_iff_ne]; simp; omega, cond_true, decide_eq_true (show (([] : List Int).length : Int) < ((b0 :: r).length : Int) by simp <;> omega), cond_true]), by simp, fun _ => ⟨by rw [wv]; exact wv_nonneg hb, by simp⟩⟩
  | a0 :: r, [], _, _ => exact ⟨1, (by
      unfold q49z
      dsimp only
      rw [show (((a0 :: r).length : Int) != (([] : List Int).length : Int)) = true by rw [bne_iff_ne]; simp; omega, cond_true, decide_eq_false (show ¬ (((a0 :: r).length : Int) < (([] : List Int).length : Int)) by simp; omega), cond_false]), fun _ => ⟨by rw [show wv [] = 0 from rfl]; exact wv_nonneg ha, by simp⟩, by simp⟩
  | [a0], [b0], _, _ =>
    rw [cmp11]
    cases h1 : a0 != b0 with
    | false =>
      have : a0 = b0 := by simpa using h1
      subst this
      exact ⟨0, rfl, by simp, by simp⟩
    | true =>
      rw [cond_true]
      cases h2 : decide (a0 < b0) with
      | true => exact ⟨-1, rfl, by simp, fun _ => ⟨by have := of_decide_eq_true h2; simp [wv]; omega, by simp⟩⟩
      | false => exact ⟨1, rfl, fun _ => ⟨by have := of_decide_eq_false h2; simp [wv]; omega, by simp⟩, by simp⟩
  | [a0], [b0, b1], _, _ =>
    have h0 := ha a0 (by simp)
    have g0 := hb b0 (by simp)
    have g1 := hb b1 (by simp)
    have g2 : b1 ≠ 0 := Nm.last (r := [b0]) nb
    exact ⟨-1, by unfold q49z; simp, by simp, fun _ => ⟨by simp [wv]; omega, by simp⟩⟩
  | [a0, a1], [b0], _, _ =>
    have h0 := ha a0 (by simp)
    have h1 := ha a1 (by simp)
    have g0 := hb b0 (by simp)
    have g2 : a1 ≠ 0 := Nm.last (r := [a0]) na
    exact ⟨1, by unfold q49z; simp, fun _ => ⟨by simp [wv]; omega, by simp⟩, by simp⟩
  | [a0, a1], [b0, b1], _, _ =>
    have h0 := ha a0 (by simp)
    have h1 := ha a1 (by simp)
    have g0 := hb b0 (by simp)
    have g1 := hb b1 (by simp)
    rw [cmp22]
    cases e1 : a1 != b1 with
    | true =>
      have e1' : a1 ≠ b1 := by simpa using e1
      rw [cond_true]
      cases h2 : decide (a1 < b1) with
      | true => exact ⟨-1, rfl, by simp, fun _ => ⟨by have := of_decide_eq_true h2; simp [wv]; omega, by simp⟩⟩
      | false => exact ⟨1, rfl, fun _ => ⟨by have := of_decide_eq_false h2; simp [wv]; omega, by simp⟩, by simp⟩
    | false =>
      have e1' : a1 = b1 := by simpa using e1
      rw [cond_false]
      cases e0 : a0 != b0 with
      | false =>
        have : a0 = b0 := by simpa using e0
        subst this
        subst e1'
        exact ⟨0, rfl, by simp, by simp⟩
      | true =>
        rw [cond_true]
        cases h2 : decide (a0 < b0) with
        | true => exact ⟨-1, rfl, by simp, fun _ => ⟨by have := of_decide_eq_true h2; simp [wv]; omega, by simp⟩⟩
        | false => exact ⟨1, rfl, fun _ => ⟨by have := of_decide_eq_false h2; simp [wv]; omega, by simp⟩, by simp⟩
  | _ :: _ :: _ :: _, _, h, _ => simp at h
  | _, _ :: _ :: _ :: _, _, h => simp at h
/-! ## sums -/
def a1S (c x : Int) : Int := IntKind.wrap .u64 (c + (IntKind.wrap .u64 x))
def a2S (c x y : Int) : Int := IntKind.wrap .u64 ((IntKind.wrap .u64 (c + (IntKind.wrap .u64 x))) + (IntKind.wrap .u64 y))
noncomputable abbrev trimB (m : Nat) (l : List Int) : Option (List Int × Unit) := (q43z (m + 9) (l, ())).bind fun (y29, _) => some (y29, ())
theorem add00 (m : Nat) : q47z (m + 9) ([], [], ()) = trimB m [lo 0] := by kernel_rfl
theorem add10 (m : Nat) (a0 : Int) : q47z (m + 9) ([a0], [], ()) = trimB m [lo (a1S 0 a0), lo (hi (a1S 0 a0))] := by kernel_rfl
theorem add01 (m : Nat) (a0 : Int) : q47z (m + 9) ([], [a0], ()) = trimB m [lo (a1S 0 a0), lo (hi (a1S 0 a0))] := by kernel_rfl
theorem add11 (m : Nat) (a0 b0 : Int) : q47z (m + 9) ([a0], [b0], ()) = trimB m [lo (a2S 0 a0 b0), lo (hi (a2S 0 a0 b0))] := by kernel_rfl
theorem add20 (m : Nat) (a0 a1 : Int) : q47z (m + 9) ([a0, a1], [], ()) = trimB m [lo (a1S 0 a0), lo (a1S (hi (a1S 0 a0)) a1), lo (hi (a1S (hi (a1S 0 a0)) a1))] := by kernel_rfl
theorem add02 (m : Nat) (a0 a1 : Int) : q47z (m + 9) ([], [a0, a1], ()) = trimB m [lo (a1S 0 a0), lo (a1S (hi (a1S 0 a0)) a1), lo (hi (a1S (hi (a1S 0 a0)) a1))] := by kernel_rfl
theorem add21 (m : Nat) (a0 a1 b0 : Int) : q47z (m + 9) ([a0, a1], [b0], ()) = trimB m [lo (a2S 0 a0 b0), lo (a1S (hi (a2S 0 a0 b0)) a1), lo (hi (a1S (hi (a2S 0 a0 b0)) a1))] := by kernel_rfl
theorem add12 (m : Nat) (a0 a1 b0 : Int) : q47z (m + 9) ([b0], [a0, a1], ()) = trimB m [lo (a2S 0 a0 b0), lo (a1S (hi (a2S 0 a0 b0)) a1), lo (hi (a1S (hi (a2S 0 a0 b0)) a1))] := by kernel_rfl
theorem add22 (m : Nat) (a0 a1 b0 b1 : Int) : q47z (m + 9) ([a0, a1], [b0, b1], ()) = trimB m [lo (a2S 0 a0 b0), lo (a2S (hi (a2S 0 a0 b0)) a1 b1), lo (hi (a2S (hi (a2S 0 a0 b0)) a1 b1))] := by kernel_rfl
theorem trimB_ok (m : Nat) (l : List Int) (hw : Wd l) (hl : l.length ≤ 3) : ∃ t, trimB m l = some (t, ()) ∧ wv t = wv l ∧ Wd t ∧ Nm t ∧ t.length ≤ l.length := by
  obtain ⟨t, t1, t2, t3, k, t4⟩ := trim_ok (m + 9) l (by omega) (by omega)
  refine ⟨t, by unfold trimB; rw [t1]; rfl, t2, by rw [t4]; exact hw.take k, t3, ?_⟩
  rw [t4, List.length_take]
  omega
theorem bigadd_ok (n : Nat) (hn : 20 ≤ n) (a b : List Int) (ha : Wd a) (hb : Wd b) (la : a.length ≤ 2) (lb : b.length ≤ 2) :
    ∃ t, q47z n (a, b, ()) = some (t, ()) ∧ wv t = wv a + wv b ∧ Wd t ∧ Nm t ∧ t.length ≤ 3 := by
  obtain ⟨m, rfl⟩ : ∃ m, n = m + 9 := ⟨n - 9, by omega⟩
  have fin : ∀ l : List Int, Wd l → l.length ≤ 3 → wv l = wv a + wv b → q47z (m + 9) (a, b, ()) = trimB m l →
      ∃ t, q47z (m + 9) (a, b, ()) = some (t, ()) ∧ wv t = wv a + wv b ∧ Wd t ∧ Nm t ∧ t.length ≤ 3 := by
    intro l h1 h2 h3 h4
    obtain ⟨t, t1, t2, t3, t4, t5⟩ := trimB_ok m l h1 h2
    exact ⟨t, by rw [h4, t1], by rw [t2, h3], t3, t4, by omega⟩
  have wd : ∀ {l : List Int}, (∀ w ∈ l, ∃ x, w = lo x) → Wd l := fun h w hw => by
    obtain ⟨x, rfl⟩ := h w hw
    unfold lo
    rw [wU32]
    omega
  match a, b, la, lb with
  | [], [], _, _ => exact fin _ (wd (fun w hw => by simp only [List.mem_cons, List.not_mem_nil, or_false] at hw; rcases hw with rfl | rfl | rfl <;> exact ⟨_, rfl⟩)) (by simp) (by simp [wv, lo]; rfl) (add00 m)
  | [a0], [], _, _ =>
    have h0 := ha a0 (by simp)
    exact fin _ (wd (fun w hw => by simp only [List.mem_cons, List.not_mem_nil, or_false] at hw; rcases hw with rfl | rfl | rfl <;> exact ⟨_, rfl⟩)) (by simp) (by simp only [wv, lo, hi, a1S, wU32, wU64, shr32]; omega) (add10 m a0)
  | [], [a0], _, _ =>
    have h0 := hb a0 (by simp)
    exact fin _ (wd (fun w hw => by simp only [List.mem_cons, List.not_mem_nil, or_false] at hw; rcases hw with rfl | rfl | rfl <;> exact ⟨_, rfl⟩)) (by simp) (by simp only [wv, lo, hi, a1S, wU32, wU64, shr32]; omega) (add01 m a0)
  | [a0], [b0], _, _ =>
    have h0 := ha a0 (by simp)
    have g0 := hb b0 (by simp)
    exact fin _ (wd (fun w hw => by simp only [List.mem_cons, List.not_mem_nil, or_false] at hw; rcases hw with rfl | rfl | rfl <;> exact ⟨_, rfl⟩)) (by simp) (by simp only [wv, lo, hi, a2S, wU32, wU64, shr32]; omega) (add11 m a0 b0)
  | [a0, a1], [], _, _ =>
    have h0 := ha a0 (by simp)
    have h1 := ha a1 (by simp)
    exact fin _ (wd (fun w hw => by simp only [List.mem_cons, List.not_mem_nil, or_false] at hw; rcases hw with rfl | rfl | rfl <;> exact ⟨_, rfl⟩)) (by simp) (by simp only [wv, lo, hi, a1S, wU32, wU64, shr32]; omega) (add20 m a0 a1)
  | [], [a0, a1], _, _ =>
    have h0 := hb a0 (by simp)
    have h1 := hb a1 (by simp)
    exact fin _ (wd (fun w hw => by simp only [List.mem_cons, List.not_mem_nil, or_false] at hw; rcases hw with rfl | rfl | rfl <;> exact ⟨_, rfl⟩)) (by simp) (by simp only [wv, lo, hi, a1S, wU32, wU64, shr32]; omega) (add02 m a0 a1)
  | [a0, a1], [b0], _, _ =>
    have h0 := ha a0 (by simp)
    have h1 := ha a1 (by simp)
    have g0 := hb b0 (by simp)
    exact fin _ (wd (fun w hw => by simp only [List.mem_cons, List.not_mem_nil, or_false] at hw; rcases hw with rfl | rfl | rfl <;> exact ⟨_, rfl⟩)) (by simp) (by simp only [wv, lo, hi, a1S, a2S, wU32, wU64, shr32]; omega) (add21 m a0 a1 b0)
  | [b0], [a0, a1], _, _ =>
    have h0 := hb a0 (by simp)
    have h1 := hb a1 (by simp)
    have g0 := ha b0 (by simp)
    exact fin _ (wd (fun w hw => by simp only [List.mem_cons, List.not_mem_nil, or_false] at hw; rcases hw with rfl | rfl | rfl <;> exact ⟨_, rfl⟩)) (by simp) (by simp only [wv, lo, hi, a1S, a2S, wU32, wU64, shr32]; omega) (add12 m a0 a1 b0)
  | [a0, a1], [b0, b1], _, _ =>
    have h0 := ha a0 (by simp)
    have h1 := ha a1 (by simp)
    have g0 := hb b0 (by simp)
    have g1 := hb b1 (by simp)
    exact fin _ (wd (fun w hw => by simp only [List.mem_cons, List.not_mem_nil, or_false] at hw; rcases hw with rfl | rfl | rfl <;> exact ⟨_, rfl⟩)) (by simp) (by simp only [wv, lo, hi, a2S, wU32, wU64, shr32]; omega) (add22 m a0 a1 b0 b1)
  | _ :: _ :: _ :: _, _, h, _ => simp at h
  | _, _ :: _ :: _ :: _, _, h => simp at h
/-! ## differences -/
def s1S (c x : Int) : Int := IntKind.wrap .u64 ((IntKind.wrap .u64 x) - c)
def s2S (c x y : Int) : Int := IntKind.wrap .u64 ((IntKind.wrap .u64 ((IntKind.wrap .u64 x) - c)) - (IntKind.wrap .u64 y))
def bo (t : Int) : Int := bshr .u64 t 63
theorem sub00 (m : Nat) : q51z (m + 9) ([], [], ()) = trimB m [] := by kernel_rfl
theorem sub10 (m : Nat) (a0 : Int) : q51z (m + 9) ([a0], [], ()) = trimB m [lo (s1S 0 a0)] := by kernel_rfl
theorem sub11 (m : Nat) (a0 b0 : Int) : q51z (m + 9) ([a0], [b0], ()) = trimB m [lo (s2S 0 a0 b0)] := by kernel_rfl
theorem sub20 (m : Nat) (a0 a1 : Int) : q51z (m + 9) ([a0, a1], [], ()) = trimB m [lo (s1S 0 a0), lo (s1S (bo (s1S 0 a0)) a1)] := by kernel_rfl
theorem sub21 (m : Nat) (a0 a1 b0 : Int) : q51z (m + 9) ([a0, a1], [b0], ()) = trimB m [lo (s2S 0 a0 b0), lo (s1S (bo (s2S 0 a0 b0)) a1)] := by kernel_rfl
theorem sub22 (m : Nat) (a0 a1 b0 b1 : Int) : q51z (m + 9) ([a0, a1], [b0, b1], ()) = trimB m [lo (s2S 0 a0 b0), lo (s2S (bo (s2S 0 a0 b0)) a1 b1)] := by kernel_rfl
theorem s2_ok {c x y : Int} (hc : 0 ≤ c ∧ c ≤ 1) (hx : 0 ≤ x ∧ x < 4294967296) (hy : 0 ≤ y ∧ y < 4294967296) : lo (s2S c x y) = x - c - y + 4294967296 * bo (s2S c x y) ∧ (0 ≤ bo (s2S c x y) ∧ bo (s2S c x y) ≤ 1) ∧ 0 ≤ lo (s2S c x y) ∧ lo (s2S c x y) < 4294967296 := by
  have e : s2S c x y = (x - c - y) % 18446744073709551616 := by
    unfold s2S
    rw [wU64, wU64, wU64, wU64]
    omega
  rw [e]
  unfold lo bo
  rw [wU32, shr63]
  omega
theorem s1_ok {c x : Int} (hc : 0 ≤ c ∧ c ≤ 1) (hx : 0 ≤ x ∧ x < 4294967296) : lo (s1S c x) = x - c + 4294967296 * bo (s1S c x) ∧ (0 ≤ bo (s1S c x) ∧ bo (s1S c x) ≤ 1) ∧ 0 ≤ lo (s1S c x) ∧ lo (s1S c x) < 4294967296 := by
  have e : s1S c x = (x - c) % 18446744073709551616 := by
    unfold s1S
    rw [wU64, wU64]
    omega
  rw [e]
  unfold lo bo
  rw [wU32, shr63]
  omega
theorem bigsub_ok (n : Nat) (hn : 20 ≤ n) (a b : List Int) (ha : Wd a) (hb : Wd b) (la : a.length ≤ 2) (lb : b.length ≤ a.length) (hge : wv b ≤ wv a) :
    ∃ t, q51z n (a, b, ()) = some (t, ()) ∧ wv t = wv a - wv b ∧ Wd t ∧ Nm t ∧ t.length ≤ 3 := by
  obtain ⟨m, rfl⟩ : ∃ m, n = m + 9 := ⟨n - 9, by omega⟩
  have fin : ∀ l : List Int, Wd l → l.length ≤ 3 → wv l = wv a - wv b → q51z (m + 9) (a, b, ()) = trimB m l →
      ∃ t, q51z (m + 9) (a, b, ()) = some (t, ()) ∧ wv t = wv a - wv b ∧ Wd t ∧ Nm t ∧ t.length ≤ 3 := by
    intro l h1 h2 h3 h4
    obtain ⟨t, t1, t2, t3, t4, t5⟩ := trimB_ok m l h1 h2
    exact ⟨t, by rw [h4, t1], by rw [t2, h3], t3, t4, by omega⟩
  have wd : ∀ {l : List Int}, (∀ w ∈ l, ∃ x, w = lo x) → Wd l := fun h w hw => by
    obtain ⟨x, rfl⟩ := h w hw
    unfold lo
    rw [wU32]
    omega
  match a, b, la, lb, hge with
  | [], [], _, _, _ => exact fin _ (fun w h => by cases h) (by simp) (by simp [wv]) (sub00 m)
  | [a0], [], _, _, _ =>
    have h0 := ha a0 (by simp)
    exact fin _ (wd (fun w hw => by simp only [List.mem_cons, List.not_mem_nil, or_false] at hw; rcases hw with rfl | rfl | rfl <;> exact ⟨_, rfl⟩)) (by simp) (by simp only [wv, lo, s1S, wU32, wU64]; omega) (sub10 m a0)
  | [a0], [b0], _, _, hge =>
    have h0 := ha a0 (by simp)
    have g0 := hb b0 (by simp)
    simp only [wv] at hge
    exact fin _ (wd (fun w hw => by simp only [List.mem_cons, List.not_mem_nil, or_false] at hw; rcases hw with rfl | rfl | rfl <;> exact ⟨_, rfl⟩)) (by simp) (by simp only [wv, lo, s2S, wU32, wU64]; omega) (sub11 m a0 b0)
  | [a0, a1], [], _, _, _ =>
    have h0 := ha a0 (by simp)
    have h1 := ha a1 (by simp)
    exact fin _ (wd (fun w hw => by simp only [List.mem_cons, List.not_mem_nil, or_false] at hw; rcases hw with rfl | rfl | rfl <;> exact ⟨_, rfl⟩)) (by simp) (by
      have q0 := s1_ok (c := 0) (by omega) h0
      have q1 := s1_ok q0.2.1 h1
      simp only [wv]
      omega) (sub20 m a0 a1)
  | [a0, a1], [b0], _, _, hge =>
    have h0 := ha a0 (by simp)
    have h1 := ha a1 (by simp)
    have g0 := hb b0 (by simp)
    simp only [wv] at hge
    exact fin _ (wd (fun w hw => by simp only [List.mem_cons, List.not_mem_nil, or_false] at hw; rcases hw with rfl | rfl | rfl <;> exact ⟨_, rfl⟩)) (by simp) (by
      have q0 := s2_ok (c := 0) (by omega) h0 g0
      have q1 := s1_ok q0.2.1 h1
      simp only [wv]
      omega) (sub21 m a0 a1 b0)
  | [a0, a1], [b0, b1], _, _, hge =>
    have h0 := ha a0 (by simp)
    have h1 := ha a1 (by simp)
    have g0 := hb b0 (by simp)
    have g1 := hb b1 (by simp)
    simp only [wv] at hge
    exact fin _ (wd (fun w hw => by simp only [List.mem_cons, List.not_mem_nil, or_false] at hw; rcases hw with rfl | rfl | rfl <;> exact ⟨_, rfl⟩)) (by simp) (by
      have q0 := s2_ok (c := 0) (by omega) h0 g0
      have q1 := s2_ok q0.2.1 h1 g1
      simp only [wv]
      omega) (sub22 m a0 a1 b0 b1)
  | _ :: _ :: _ :: _, _, h, _, _ => simp at h
  | [], _ :: _, _, h, _ => simp at h
  | [_], _ :: _ :: _, _, h, _ => simp at h
  | [_, _], _ :: _ :: _ :: _, _, h, _ => simp at h
theorem bigsum_ok (n : Nat) (hn : 20 ≤ n) (s1 s2 : Bool) (a b : List Int) (ha : Wd a) (hb : Wd b) (na : Nm a) (nb : Nm b) (la : a.length ≤ 2) (lb : b.length ≤ 2) :
    ∃ s t, q52z n (s1, a, s2, b, ()) = some (s, t, ()) ∧ bv s t = bv s1 a + bv s2 b ∧ Wd t ∧ Nm t ∧ t.length ≤ 3 := by
  unfold q52z
  dsimp only
  cases h : s1 == s2 with
  | true =>
    have : s1 = s2 := by simpa using h
    subst this
    obtain ⟨t, t1, t2, t3, t4, t5⟩ := bigadd_ok n hn a b ha hb la lb
    refine ⟨s1, t, by rw [cond_true, t1]; rfl, ?_, t3, t4, t5⟩
    unfold bv
    rw [t2]
    cases s1 <;> simp <;> omega
  | false =>
    have hne : s2 = !s1 := by cases s1 <;> cases s2 <;> simp_all
    subst hne
    obtain ⟨c, c1, c2, c3⟩ := bigcmp_ok n hn a b ha hb na nb la lb
    rw [cond_false, c1, Option.bind_some]
    dsimp only
    cases hc : decide (c ≥ 0) with
    | true =>
      obtain ⟨d1, d2⟩ := c2 hc
      obtain ⟨t, t1, t2, t3, t4, t5⟩ := bigsub_ok n hn a b ha hb la d2 d1
      refine ⟨s1, t, by rw [cond_true, t1]; rfl, ?_, t3, t4, t5⟩
      unfold bv
      rw [t2]
      cases s1 <;> simp <;> omega
    | false =>
      obtain ⟨d1, d2⟩ := c3 hc
      obtain ⟨t, t1, t2, t3, t4, t5⟩ := bigsub_ok n hn b a hb ha lb d2 d1
      refine ⟨!s1, t, by rw [cond_false, t1]; rfl, ?_, t3, t4, t5⟩
      unfold bv
      rw [t2]
      cases s1 <;> simp <;> omega
theorem bv_give (s : Bool) (t : List Int) : bv (s && decide ((t.length : Int) > 0)) t = bv s t := by
  cases t with
  | nil => unfold bv; cases s <;> simp [wv]
  | cons a r => rw [show decide ((((a :: r).length : Nat) : Int) > 0) = true by simp, Bool.and_true]
theorem bv_not (s : Bool) (t : List Int) : bv (!s) t = - bv s t := by unfold bv; cases s <;> simp
def told (z : Int) : Option (Val × Int × Unit) := bif inG z then some (.mk 2 z ⟨#[]⟩ [], 0, ()) else some (.mk 0 0 ⟨#[]⟩ [], 4, ())
theorem addR_ok (n : Nat) (hn : 100 ≤ n) (x y : Int) (hx : -9223372036854775808 ≤ x ∧ x ≤ 9223372036854775807) (hy : -9223372036854775808 ≤ y ∧ y ≤ 9223372036854775807) (s1 s2 : ByteArray) (l1 l2 : List Val) :
    q20z n (⟨#[43]⟩, .mk 2 x s1 l1, .mk 2 y s2 l2, ()) = told (x + y) := by
  obtain ⟨a, a1, a2, a3, a4, a5⟩ := newInt_ok n (by omega) x hx.1 hx.2
  obtain ⟨b, b1, b2, b3, b4, b5⟩ := newInt_ok n (by omega) y hy.1 hy.2
  obtain ⟨s, t, t1, t2, t3, t4, t5⟩ := bigsum_ok n (by omega) (decide (x < 0)) (decide (y < 0)) a b a3 b3 a4 b4 a5 b5
  unfold q20z told
  dsimp +instances only [kind_mk, n_mk, s_mk, l_mk]
  have q1 : seq (⟨#[43]⟩ : ByteArray) (⟨#[43]⟩ : ByteArray) = true := by decide +kernel
  rw [q1]
  simp only [Bool.not_true, Bool.false_and, cond_false, show ((2 : Int) == 0) = false from rfl, Bool.or_self, show ((2 : Int) == 2) = true from rfl, Bool.and_self, cond_true]
  rw [a1, Option.bind_some, b1, Option.bind_some]
  unfold q21z
  dsimp only
  rw [t1, Option.bind_some]
  unfold q18z
  dsimp only
  rw [Option.bind_some, Option.bind_some]
  dsimp only
  have hv : bv (s && decide ((t.length : Int) > 0)) t = x + y := by rw [bv_give, t2, a2, b2]
  generalize (s && decide ((t.length : Int) > 0)) = s at *
  rw [isInt_ok n hn s t t3 t4 (by omega), hv, Option.bind_some]
  dsimp only
  cases hg : inG (x + y) with
  | false => rfl
  | true =>
    rw [show (!true) = false from rfl, cond_false, cond_true, int64_ok s t t3 t4 (by rw [hv]; exact hg), Option.bind_some, hv]
theorem subR_ok (n : Nat) (hn : 100 ≤ n) (x y : Int) (hx : -9223372036854775808 ≤ x ∧ x ≤ 9223372036854775807) (hy : -9223372036854775808 ≤ y ∧ y ≤ 9223372036854775807) (s1 s2 : ByteArray) (l1 l2 : List Val) :
    q20z n (⟨#[45]⟩, .mk 2 x s1 l1, .mk 2 y s2 l2, ()) = told (x - y) := by
  obtain ⟨a, a1, a2, a3, a4, a5⟩ := newInt_ok n (by omega) x hx.1 hx.2
  obtain ⟨b, b1, b2, b3, b4, b5⟩ := newInt_ok n (by omega) y hy.1 hy.2
  obtain ⟨s, t, t1, t2, t3, t4, t5⟩ := bigsum_ok n (by omega) (decide (x < 0)) (!decide (y < 0)) a b a3 b3 a4 b4 a5 b5
  unfold q20z told
  dsimp +instances only [kind_mk, n_mk, s_mk, l_mk]
  have q1 : seq (⟨#[45]⟩ : ByteArray) (⟨#[43]⟩ : ByteArray) = false := by decide +kernel
  have q2 : seq (⟨#[45]⟩ : ByteArray) (⟨#[45]⟩ : ByteArray) = true := by decide +kernel
  rw [q1, q2]
  simp only [Bool.not_true, Bool.not_false, Bool.and_false, Bool.false_and, cond_false, show ((2 : Int) == 0) = false from rfl, Bool.or_self, show ((2 : Int) == 2) = true from rfl, Bool.and_self, cond_true]
  rw [a1, Option.bind_some, b1, Option.bind_some]
  unfold q23z
  dsimp only
  rw [t1, Option.bind_some]
  unfold q18z
  dsimp only
  rw [Option.bind_some, Option.bind_some]
  dsimp only
  have hv : bv (s && decide ((t.length : Int) > 0)) t = x - y := by rw [bv_give, t2, bv_not, a2, b2]; omega
  generalize (s && decide ((t.length : Int) > 0)) = s at *
  rw [isInt_ok n hn s t t3 t4 (by omega), hv, Option.bind_some]
  dsimp only
  cases hg : inG (x - y) with
  | false => rfl
  | true =>
    rw [show (!true) = false from rfl, cond_false, cond_true, int64_ok s t t3 t4 (by rw [hv]; exact hg), Option.bind_some, hv]
end Pure

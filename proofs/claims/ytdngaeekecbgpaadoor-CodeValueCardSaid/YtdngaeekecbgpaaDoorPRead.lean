/- Bytes of values that are right are read back as these; a value is the same as itself. No program. -/
import Derived.Test.YtdngaeekecbgpaaDoorPPut
namespace Pure
open Esp Ev Go
set_option linter.unusedSimpArgs false
set_option linter.unusedVariables false
set_option linter.unusedSimpArgs false
set_option linter.unusedVariables false

theorem take_ok (a t : List UInt8) (k : Int) (hk : k = (a.length : Int)) : pcode_reader_take (k, (bi (a ++ t), false, ()), ()) = some (bi a, (bi t, false, ()), ()) := by
  subst hk
  simp only [pcode_reader_take, Bool.false_or]
  rw [show decide ((a.length : Int) > ((bi (a ++ t)).length : Int)) = false by rw [decide_eq_false_iff_not, bi_length, List.length_append]; omega]
  rw [cond_false]
  have h1 : lsl3 (bi (a ++ t)) 0 (a.length : Int) (a.length : Int) = some (bi a) := by
    unfold lsl3
    rw [if_pos ⟨by omega, by omega, by omega, by rw [bi_length, List.length_append]; omega⟩]
    simp [bi]
  have h2 : lsl (bi (a ++ t)) (a.length : Int) ((bi (a ++ t)).length : Int) = some (bi t) := by
    unfold lsl
    rw [if_pos ⟨by omega, by rw [bi_length, List.length_append]; omega, by omega⟩]
    have e : (bi (a ++ t)).drop (a.length : Int).toNat = bi t := by simp [bi]
    rw [e, List.take_of_length_le (by rw [bi_length, bi_length, List.length_append]; omega)]
  simp only [h1, h2, Option.bind_some]

theorem read_loop {ρ : Type} (self : Int × (List Int × Bool × Unit) × Unit → Option (Val × (List Int × Bool × Unit) × Unit)) (n : Nat) (d : Int) (hd : d ≤ 6) (hd1 : 1 ≤ d) (o : Val) (o23 : Int × Int × ByteArray × Unit) (l : List Val) (hl : l.length ≤ 30)
    (kx : (Val × Unit) × (Int × Int × ByteArray × Unit) × List Val × (List Int × Bool × Unit) × Unit → Option ρ) (kr : Unit → Option ρ)
    (hs : ∀ x ∈ l, ∀ t : List UInt8, self (d + 1, (bi (putL x ++ t), false, ()), ()) = some (x, (bi t, false, ()), ())) (t : List UInt8) :
    ∀ (r p : List Val), l = p ++ r → ∀ (fuel : Nat), r.length < fuel →
      iterN (fun rc => pcode_reader_value_s1 self n rc kx kr) fuel (d, (l.length : Int), (p.length : Int), (o, ()), o23, p, (bi (putLs r ++ t), false, ()), ()) = kx ((o, ()), o23, l, (bi t, false, ()), ()) := by
  intro r
  induction r with
  | nil =>
    intro p hp fuel hf
    obtain ⟨m, rfl⟩ : ∃ m, fuel = m + 1 := ⟨fuel - 1, by omega⟩
    have e : decide ((p.length : Int) < (l.length : Int)) = false := by rw [decide_eq_false_iff_not]; subst hp; simp
    obtain rfl : l = p := by simpa using hp
    rw [iterN]
    simp only [pcode_reader_value_s1, Val.eta, e, cond_false, putLs, List.nil_append]
  | cons y r ih =>
    intro p hp fuel hf
    obtain ⟨m, rfl⟩ : ∃ m, fuel = m + 1 := ⟨fuel - 1, by omega⟩
    have hlen : l.length = p.length + (r.length + 1) := by rw [hp]; simp
    have e : decide ((p.length : Int) < (l.length : Int)) = true := by rw [decide_eq_true_iff]; omega
    have e3 : IntKind.wrap .i64 ((p.length : Int) + 1) = ((p ++ [y]).length : Int) := by rw [wrap64 (by omega) (by omega)]; simp
    have e4 : IntKind.wrap .i64 (d + 1) = d + 1 := wrap64 (by omega) (by omega)
    have e6 : decide (d > 6) = false := by rw [decide_eq_false_iff_not]; omega
    have e7 := hs y (by rw [hp]; simp) (putLs r ++ t)
    have e5 := ih (p ++ [y]) (by simp [hp]) m (by simp at hf; omega)
    rw [iterN]
    simp only [pcode_reader_value_s1, Val.eta, e, e3, e4, e6, cond_true, cond_false, Bool.or_false, putLs, List.append_assoc, e7, Option.bind_some]
    rw [ck_ok (room56 (by simp; omega))]
    exact e5

theorem ix0 (c : UInt8) : ix (bi [c]) 0 = some (c.toNat : Int) := rfl

theorem read_ok {v : Val} {d : Int} (h : Right v d) : ∀ (n : Nat) (t : List UInt8), 1 ≤ d → d ≤ 7 → 50 ≤ n + d.toNat → pcode_reader_value n (d, (bi (putL v ++ t), false, ()), ()) = some (v, (bi t, false, ()), ()) := by
  induction h with
  | null d =>
    intro n t h1 h2 hn
    obtain ⟨m, rfl⟩ : ∃ m, n = m + 1 := ⟨n - 1, by omega⟩
    have e : bi (putL (.mk 0 0 ⟨#[]⟩ []) ++ t) = bi ([0] ++ t) := rfl
    have e2 := take_ok [0] t 1 rfl
    rw [pcode_reader_value]
    unfold pcode_reader_value_b
    simp only [e, e2, Option.bind_some, ix0]
    rfl
  | truth a d h =>
    intro n t h1 h2 hn
    obtain ⟨m, rfl⟩ : ∃ m, n = m + 1 := ⟨n - 1, by omega⟩
    have e : bi (putL (.mk 1 a ⟨#[]⟩ []) ++ t) = bi ([1] ++ (numB (a + 9223372036854775808) 8 ++ t)) := rfl
    have e2 := take_ok [1] (numB (a + 9223372036854775808) 8 ++ t) 1 rfl
    have e3 := take_ok (numB (a + 9223372036854775808) 8) t 8 (by rw [numB_length]; rfl)
    have e4 := numberOf_ok m (numB (a + 9223372036854775808) 8) (by omega) (by rw [numB_length]; omega)
    obtain ⟨x, hx⟩ : ∃ x : Nat, a + 9223372036854775808 = x := ⟨(a + 9223372036854775808).toNat, by omega⟩
    have e5 : ((numN (numB (a + 9223372036854775808) 8) 0 : Nat) : Int) = a + 9223372036854775808 := by
      rw [hx, numN_back x 8 (by omega) (by omega)]
    rw [e5] at e4
    have e6 := top_back a (by omega) (by omega)
    rw [pcode_reader_value]
    unfold pcode_reader_value_b
    simp only [e, e2, Option.bind_some, ix0]
    rw [show IntKind.wrap .i64 (((1 : UInt8).toNat : Nat) : Int) = 1 from by decide]
    rw [show ((1 : Int) == 1) = true from rfl]
    simp only [cond_true, e3, e4, Option.bind_some, e6]
  | int a d h =>
    intro n t h1 h2 hn
    obtain ⟨m, rfl⟩ : ∃ m, n = m + 1 := ⟨n - 1, by omega⟩
    have hr : -9223372036854775808 ≤ a ∧ a ≤ 9223372036854775807 := by
      unfold wfI Lit.wf at h
      simp [IntKind.bits, IntKind.signed, IntKind.min, IntKind.max] at h
      omega
    have e : bi (putL (.mk 2 a ⟨#[]⟩ []) ++ t) = bi ([2] ++ (numB (a + 9223372036854775808) 8 ++ t)) := rfl
    have e2 := take_ok [2] (numB (a + 9223372036854775808) 8 ++ t) 1 rfl
    have e3 := take_ok (numB (a + 9223372036854775808) 8) t 8 (by rw [numB_length]; rfl)
    have e4 := numberOf_ok m (numB (a + 9223372036854775808) 8) (by omega) (by rw [numB_length]; omega)
    obtain ⟨x, hx⟩ : ∃ x : Nat, a + 9223372036854775808 = x := ⟨(a + 9223372036854775808).toNat, by omega⟩
    have e5 : ((numN (numB (a + 9223372036854775808) 8) 0 : Nat) : Int) = a + 9223372036854775808 := by
      rw [hx, numN_back x 8 (by omega) (by omega)]
    rw [e5] at e4
    have e6 := top_back a (by omega) (by omega)
    rw [pcode_reader_value]
    unfold pcode_reader_value_b
    simp only [e, e2, Option.bind_some, ix0]
    rw [show IntKind.wrap .i64 (((2 : UInt8).toNat : Nat) : Int) = 2 from by decide]
    rw [show ((2 : Int) == 1) = false from rfl, show ((2 : Int) == 2) = true from rfl]
    simp only [cond_true, cond_false, e3, e4, Option.bind_some, e6]
  | text s d h3 h4 =>
    intro n t h1 h2 hn
    obtain ⟨m, rfl⟩ : ∃ m, n = m + 1 := ⟨n - 1, by omega⟩
    have e : bi (putL (.mk 3 0 s []) ++ t) = bi ([3] ++ (numB (s.size : Int) 2 ++ (s.data.toList ++ t))) := by
      simp [putL]
    have e2 := take_ok [3] (numB (s.size : Int) 2 ++ (s.data.toList ++ t)) 1 rfl
    have e3 := take_ok (numB (s.size : Int) 2) (s.data.toList ++ t) 2 (by rw [numB_length]; rfl)
    have e4 := numberOf_ok m (numB (s.size : Int) 2) (by omega) (by rw [numB_length]; omega)
    rw [numN_back s.size 2 (by omega) (by omega)] at e4
    have e5 := take_ok s.data.toList t (s.size : Int) (by rw [Array.length_toList]; rfl)
    have e6 : IntKind.wrap .i64 (s.size : Int) = (s.size : Int) := wrap64 (by omega) (by omega)
    have e7 : str? (bi s.data.toList) = some s := by rw [str_ok]
    have e8 := validN_some (s := s) (by omega)
    rw [pcode_reader_value]
    unfold pcode_reader_value_b
    simp only [e, e2, Option.bind_some, ix0]
    rw [show IntKind.wrap .i64 (((3 : UInt8).toNat : Nat) : Int) = 3 from by decide]
    rw [show ((3 : Int) == 1) = false from rfl, show ((3 : Int) == 2) = false from rfl, show ((3 : Int) == 3) = true from rfl]
    simp only [cond_true, cond_false, e3, e4, e5, e6, e7, e8, h4, Option.bind_some, Bool.not_true]
  | list l d h3 h4 h5 ih =>
    intro n t h1 h2 hn
    obtain ⟨m, rfl⟩ : ∃ m, n = m + 1 := ⟨n - 1, by omega⟩
    have e : bi (putL (.mk 4 0 ⟨#[]⟩ l) ++ t) = bi ([4] ++ ([UInt8.ofNat l.length] ++ (putLs l ++ t))) := by
      simp [putL]
    have e2 := take_ok [4] ([UInt8.ofNat l.length] ++ (putLs l ++ t)) 1 rfl
    have e3 := take_ok [UInt8.ofNat l.length] (putLs l ++ t) 1 rfl
    have e4 : IntKind.wrap .i64 (((UInt8.ofNat l.length).toNat : Nat) : Int) = (l.length : Int) := by
      rw [UInt8.toNat_ofNat_of_lt' (by show _ < 256; omega), wrap64 (by omega) (by omega)]
    rw [pcode_reader_value]
    unfold pcode_reader_value_b
    simp only [e, e2, Option.bind_some, ix0]
    rw [show IntKind.wrap .i64 (((4 : UInt8).toNat : Nat) : Int) = 4 from by decide]
    rw [show ((4 : Int) == 1) = false from rfl, show ((4 : Int) == 2) = false from rfl, show ((4 : Int) == 3) = false from rfl, show ((4 : Int) == 4) = true from rfl]
    simp only [cond_true, cond_false, e3, e4, Option.bind_some, ix0]
    exact read_loop (pcode_reader_value m) m d h4 h1 _ _ l h3 _ _ (fun x hx t => ih x hx m t (by omega) (by omega) (by omega)) t l [] rfl m (by omega)

theorem order_loop {ρ : Type} (self : Val × Val × Unit → Option (Int × Unit)) (n : Nat) (v : Val) (hl : v.l.length ≤ 30)
    (kx : (Val × Unit) × (Val × Unit) × Unit → Option ρ) (kr : Int × Unit → Option ρ) (hs : ∀ x ∈ v.l, self (x, x, ()) = some (0, ())) :
    ∀ (r p : List Val), v.l = p ++ r → ∀ (fuel : Nat), r.length < fuel →
      iterN (fun rc => espalierref_OrderOf_s1 self n rc kx kr) fuel ((p.length : Int), (v, ()), (v, ()), ()) = kx ((v, ()), (v, ()), ()) := by
  intro r
  induction r with
  | nil =>
    intro p hp fuel hf
    obtain ⟨m, rfl⟩ : ∃ m, fuel = m + 1 := ⟨fuel - 1, by omega⟩
    have e : decide ((p.length : Int) < (v.l.length : Int)) = false := by rw [decide_eq_false_iff_not, hp]; simp
    rw [iterN]
    simp only [espalierref_OrderOf_s1, Val.eta, e, cond_false, Bool.and_self]
  | cons y r ih =>
    intro p hp fuel hf
    obtain ⟨m, rfl⟩ : ∃ m, fuel = m + 1 := ⟨fuel - 1, by omega⟩
    have hlen : v.l.length = p.length + (r.length + 1) := by rw [hp]; simp
    have e : decide ((p.length : Int) < (v.l.length : Int)) = true := by rw [decide_eq_true_iff]; omega
    have e2 : ix v.l (p.length : Int) = some y := ix_ok (by rw [hp]; simp)
    have e3 : IntKind.wrap .i64 ((p.length : Int) + 1) = ((p ++ [y]).length : Int) := by rw [wrap64 (by omega) (by omega)]; simp
    have e4 := hs y (by rw [hp]; simp)
    have e5 := ih (p ++ [y]) (by simp [hp]) m (by simp at hf; omega)
    rw [iterN]
    simp only [espalierref_OrderOf_s1, Val.eta, e, e2, e3, e4, cond_true, Bool.and_self, Option.bind_some]
    rw [show ((0 : Int) != 0) = false from rfl, cond_false]
    exact e5
theorem lt_irr (x : Int) : decide (x < x) = false := by simp
theorem gt_irr (x : Int) : decide (x > x) = false := by simp
theorem order_ok {v : Val} {d : Int} (h : Right v d) : ∀ (n : Nat), d ≤ 7 → 40 ≤ n + d.toNat → 1 ≤ d → espalierref_OrderOf n (v, v, ()) = some (0, ()) := by
  have base : ∀ (k a : Int) (s : ByteArray) (l : List Val) (n : Nat), l.length ≤ 30 → 32 ≤ n → (∀ m, n = m + 1 → ∀ x ∈ l, espalierref_OrderOf m (x, x, ()) = some (0, ())) → espalierref_OrderOf n (.mk k a s l, .mk k a s l, ()) = some (0, ()) := by
    intro k a s l n hl hn hs
    obtain ⟨m, rfl⟩ : ∃ m, n = m + 1 := ⟨n - 1, by omega⟩
    rw [espalierref_OrderOf]
    simp only [espalierref_OrderOf_b, Val.eta, lt_irr, gt_irr, cond_false, seq_refl, Bool.not_true]
    exact (order_loop (ρ := Int × Unit) (espalierref_OrderOf m) m (.mk k a s l) hl _ _ (hs m rfl) l [] rfl m (by omega)).trans (by simp only [lt_irr, gt_irr, cond_false])
  induction h with
  | null d => intro n h1 h2 h3; exact base _ _ _ _ n (by simp) (by omega) (fun _ _ x hx => by cases hx)
  | truth a d h => intro n h1 h2 h3; exact base _ _ _ _ n (by simp) (by omega) (fun _ _ x hx => by cases hx)
  | int a d h => intro n h1 h2 h3; exact base _ _ _ _ n (by simp) (by omega) (fun _ _ x hx => by cases hx)
  | text s d _ _ => intro n h1 h2 h3; exact base _ _ _ _ n (by simp) (by omega) (fun _ _ x hx => by cases hx)
  | list l d h4 h5 h6 ih => intro n h1 h2 h3; exact base _ _ _ _ n h4 (by omega) (fun m hm x hx => ih x hx m (by omega) (by omega) (by omega))
theorem same_ok {v : Val} (h : Right v 1) (n : Nat) (hn : 40 ≤ n) : espalierref_SameValue n (v, v, ()) = some (true, ()) := by
  simp only [espalierref_SameValue, Val.eta, order_ok h n (by omega) (by omega) (by omega), Option.bind_some]
  rfl
end Pure

/- The document's reading of bytes as a value. No program. -/
import Derived.Test.YtdngaeekecbgpaaDoorPAny
namespace Pure
open Esp Ev Go
set_option linter.unusedSimpArgs false
set_option linter.unusedVariables false
set_option linter.unusedSimpArgs false
set_option linter.unusedVariables false

def S (l : List UInt8) : ByteArray := ⟨l.toArray⟩
theorem S_size (l : List UInt8) : (S l).size = l.length := size_mk l
theorem S_list (l : List UInt8) : (S l).data.toList = l := by simp [S]
theorem S_of (s : ByteArray) : S s.data.toList = s := rfl
theorem S_nil : S [] = ⟨#[]⟩ := rfl
theorem sat_S {l : List UInt8} {i : Nat} {c : UInt8} (h : l[i]? = some c) : sat (S l) (i : Int) = some (c.toNat : Int) := by
  unfold sat
  rw [if_pos (by omega), S_list]
  show (l[i]?).map _ = _
  rw [h]
  rfl
theorem ssl_S (l : List UInt8) (p q : Int) (i j : Nat) (hp : p = (i : Int)) (hq : q = (j : Int)) (h1 : i ≤ j) (h2 : j ≤ l.length) : ssl (S l) p q = some (S ((l.drop i).take (j - i))) := by
  subst hp hq
  unfold ssl
  rw [if_pos ⟨by omega, by omega, by rw [S_size]; omega⟩]
  congr 1
  apply ByteArray.ext
  rw [ByteArray.data_extract]
  apply Array.toList_inj.1
  rw [Array.toList_extract, List.extract_eq_take_drop]
  simp [S]
theorem seq_S (l : List UInt8) : seq (S l) ⟨#[]⟩ = l.isEmpty := by
  cases l with
  | nil => exact seq_refl _
  | cons c r =>
    rw [List.isEmpty_cons, Bool.eq_false_iff]
    intro h
    have := (seq_iff _ _).1 h
    have h2 := congrArg ByteArray.size this
    rw [S_size] at h2
    simp [ByteArray.size] at h2
theorem high_loop {ρ : Type} (n : Nat) (l : List UInt8) (hl : l.length ≤ 8) (kx : Int × Unit → Option ρ) (kr : Unit → Option ρ) :
    ∀ (r p : List UInt8), l = p ++ r → ∀ (fuel x : Nat), r.length < fuel → x < 256 ^ p.length →
      iterN (fun rc => espalierref_ofHigh_s0 n rc kx kr) fuel (S l, (x : Int), (l.length : Int), (p.length : Int), ()) = kx (((numN r x : Nat) : Int), ()) := by
  intro r
  induction r with
  | nil =>
    intro p hp fuel x hf hx
    obtain ⟨m, rfl⟩ : ∃ m, fuel = m + 1 := ⟨fuel - 1, by omega⟩
    have e : decide ((p.length : Int) < (l.length : Int)) = false := by rw [decide_eq_false_iff_not]; subst hp; simp
    rw [iterN]
    simp only [espalierref_ofHigh_s0, e, cond_false, numN]
  | cons c r ih =>
    intro p hp fuel x hf hx
    obtain ⟨m, rfl⟩ : ∃ m, fuel = m + 1 := ⟨fuel - 1, by omega⟩
    have hlen : l.length = p.length + (r.length + 1) := by rw [hp]; simp
    have e : decide ((p.length : Int) < (l.length : Int)) = true := by rw [decide_eq_true_iff]; omega
    have e2 : sat (S l) (p.length : Int) = some (c.toNat : Int) := sat_S (by rw [hp]; simp)
    have e3 : IntKind.wrap .i64 ((p.length : Int) + 1) = ((p ++ [c]).length : Int) := by rw [wrap64 (by omega) (by omega)]; simp
    have hc := c.toNat_lt
    have h56 : x < 2 ^ 56 := by
      have : (256 : Nat) ^ p.length ≤ 256 ^ 7 := Nat.pow_le_pow_right (by decide) (by omega)
      omega
    have e4 : IntKind.wrap .u64 (256 * (x : Int)) = 256 * (x : Int) := wrapU64 (by omega) (by omega)
    have e5 : IntKind.wrap .u64 (c.toNat : Int) = (c.toNat : Int) := wrapU64 (by omega) (by omega)
    have e6 : IntKind.wrap .u64 (256 * (x : Int) + (c.toNat : Int)) = ((x * 256 + c.toNat : Nat) : Int) := by rw [wrapU64 (by omega) (by omega)]; omega
    have e7 := ih (p ++ [c]) (by simp [hp]) m (x * 256 + c.toNat) (by simp at hf; omega) (by rw [List.length_append, List.length_singleton, Nat.pow_succ]; omega)
    rw [iterN]
    simp only [espalierref_ofHigh_s0, e, e2, e3, e4, e5, e6, cond_true, Option.bind_some]
    exact e7
theorem high_ok (n : Nat) (l : List UInt8) (hn : 10 ≤ n) (hl : l.length ≤ 8) : espalierref_ofHigh n (S l, ()) = some (((numN l 0 : Nat) : Int), ()) := by
  simp only [espalierref_ofHigh, S_size]
  exact high_loop n l hl _ _ l [] rfl n 0 (by omega) (by simp)

/-! ## is it right -/
theorem rcheck_loop {ρ : Type} (self : Val × Int × Unit → Option (Int × Unit)) (n : Nat) (l : List Val) (d : Int) (hd : IntKind.wrap .i64 (d + 1) = d + 1) (hs : ∀ x ∈ l, self (x, d + 1, ()) = some (chk x (d + 1), ())) (hl : l.length ≤ 30) (a b : Bool)
    (kx : Bool × Bool × Unit → Option ρ) (kr : Int × Unit → Option ρ) :
    ∀ (r p : List Val), l = p ++ r → ∀ fuel, r.length < fuel → iterN (fun rc => espalierref_CheckValue_s1 self n rc kx kr) fuel (d, a, b, l, (l.length : Int), (p.length : Int), ()) = bif chks r (d + 1) != 0 then kr (chks r (d + 1), ()) else kx (a, b, ()) := by
  intro r
  induction r with
  | nil =>
    intro p hp fuel hf
    obtain ⟨m, rfl⟩ : ∃ m, fuel = m + 1 := ⟨fuel - 1, by omega⟩
    have e : decide ((p.length : Int) < (l.length : Int)) = false := by rw [decide_eq_false_iff_not]; subst hp; simp
    simp only [iterN, espalierref_CheckValue_s1, Val.eta, e, cond_false, chks]
    rfl
  | cons x r ih =>
    intro p hp fuel hf
    obtain ⟨m, rfl⟩ : ∃ m, fuel = m + 1 := ⟨fuel - 1, by omega⟩
    have hlen : l.length = p.length + (r.length + 1) := by rw [hp]; simp
    have e : decide ((p.length : Int) < (l.length : Int)) = true := by rw [decide_eq_true_iff]; omega
    have e2 : ix l (p.length : Int) = some x := ix_ok (by rw [hp]; simp)
    have e3 : IntKind.wrap .i64 ((p.length : Int) + 1) = ((p ++ [x]).length : Int) := by rw [wrap64 (by omega) (by omega)]; simp
    have e4 := hs x (by rw [hp]; simp)
    have e5 := ih (p ++ [x]) (by simp [hp]) m (by simp at hf; omega)
    rw [iterN]
    simp only [espalierref_CheckValue_s1, Val.eta, e, e2, e3, hd, e4, cond_true, Option.bind_some, e5]
    rw [chks]
    cases hc : chk x (d + 1) != 0 <;> simp [hc]
theorem rcheck_ok (v : Val) : ∀ (d : Int) (n : Nat), 1 ≤ d → d ≤ 7 → 40 ≤ n + d.toNat → espalierref_CheckValue n (v, d, ()) = some (chk v d, ()) := by
  induction v using val_ind with
  | _ k a s l ih =>
    intro d n h1 h2 h3
    obtain ⟨m, rfl⟩ : ∃ m, n = m + 1 := ⟨n - 1, by omega⟩
    simp only [espalierref_CheckValue, espalierref_CheckValue_b, chk, Val.eta]
    dsimp +instances only [kind_mk, n_mk, s_mk, l_mk]
    by_cases k4 : k = 4
    · subst k4
      rw [show ((4 : Int) == 0) = false from rfl, show ((4 : Int) == 1) = false from rfl, show ((4 : Int) == 2) = false from rfl, show ((4 : Int) == 3) = false from rfl, show ((4 : Int) == 4) = true from rfl]
      simp only [cond_false, cond_true]
      cases hb : decide ((l.length : Int) > 30) || decide (d > 6)
      · have hb2 := Bool.or_eq_false_iff.1 hb
        have h30 := of_decide_eq_false hb2.1
        have h6 := of_decide_eq_false hb2.2
        have hw : IntKind.wrap .i64 (d + 1) = d + 1 := wrap64 (by omega) (by omega)
        simp only [cond_false]
        refine (rcheck_loop (ρ := Int × Unit) (espalierref_CheckValue m) m l d hw (fun x hx => ih x hx (d + 1) m (by omega) (by omega) (by omega)) (by omega) (a == 0) (seq s ⟨#[]⟩) _ _ l [] rfl m (by omega)).trans ?_
        cases chks l (d + 1) != 0
        · simp only [cond_false]
          cases (a == 0) && seq s ⟨#[]⟩ <;> rfl
        · rfl
      · rfl
    · have e4 : (k == 4) = false := by simpa using k4
      rw [e4]
      simp only [cond_false]
      by_cases k3 : k = 3
      · subst k3
        rw [show ((3 : Int) == 0) = false from rfl, show ((3 : Int) == 1) = false from rfl, show ((3 : Int) == 2) = false from rfl, show ((3 : Int) == 3) = true from rfl]
        simp only [cond_false, cond_true]
        cases hb : decide ((s.size : Int) > 4000)
        · have := of_decide_eq_false hb
          simp only [cond_false, validN_some (s := s) (by omega), Option.bind_some]
          cases a == 0 <;> cases (l.length : Int) == 0 <;> cases validS s <;> rfl
        · rfl
      · have e3 : (k == 3) = false := by simpa using k3
        rw [e3]
        simp only [cond_false]
        cases k == 0
        · cases k == 1
          · cases k == 2
            · rfl
            · simp only [cond_false, cond_true]
              cases seq s ⟨#[]⟩ && ((l.length : Int) == 0) <;> rfl
          · simp only [cond_false, cond_true]
            cases ((a == 0) || (a == 1)) && seq s ⟨#[]⟩ && ((l.length : Int) == 0) <;> rfl
        · simp only [cond_true]
          cases (a == 0) && seq s ⟨#[]⟩ && ((l.length : Int) == 0) <;> rfl
theorem rRight_ok (v : Val) (n : Nat) (h : 40 ≤ n) : espalierref_Right n (v, ()) = some (chk v 1 == 0, ()) := by
  simp only [espalierref_Right, Val.eta, rcheck_ok v 1 n (by omega) (by omega) (by omega), Option.bind_some]

/-! ## reading -/
theorem un_loop {ρ : Type} (self : ByteArray × Int × Unit → Option (Val × ByteArray × Bool × Unit)) (n : Nat) (d : Int) (hd : d ≤ 6) (hd1 : 1 ≤ d) (o : Int × Int × ByteArray × Unit) (l : List Val) (hl : l.length ≤ 30)
    (kx : ByteArray × (Int × Int × ByteArray × Unit) × List Val × Unit → Option ρ) (kr : ByteArray × Bool × (Int × Int × ByteArray × Unit) × List Val × Unit → Option ρ)
    (hs : ∀ x ∈ l, ∀ t : List UInt8, self (S (putL x ++ t), d + 1, ()) = some (x, S t, true, ())) (t : List UInt8) :
    ∀ (r p : List Val), l = p ++ r → ∀ (fuel : Nat), r.length < fuel →
      iterN (fun rc => espalierref_unbyte_s1 self n rc kx kr) fuel (S (putLs r ++ t), d, (l.length : Int), (p.length : Int), o, p, ()) = kx (S t, o, l, ()) := by
  intro r
  induction r with
  | nil =>
    intro p hp fuel hf
    obtain ⟨m, rfl⟩ : ∃ m, fuel = m + 1 := ⟨fuel - 1, by omega⟩
    have e : decide ((p.length : Int) < (l.length : Int)) = false := by rw [decide_eq_false_iff_not]; subst hp; simp
    obtain rfl : l = p := by simpa using hp
    rw [iterN]
    simp only [espalierref_unbyte_s1, Val.eta, e, cond_false, putLs, List.nil_append]
  | cons y r ih =>
    intro p hp fuel hf
    obtain ⟨m, rfl⟩ : ∃ m, fuel = m + 1 := ⟨fuel - 1, by omega⟩
    have hlen : l.length = p.length + (r.length + 1) := by rw [hp]; simp
    have e : decide ((p.length : Int) < (l.length : Int)) = true := by rw [decide_eq_true_iff]; omega
    have e3 : IntKind.wrap .i64 ((p.length : Int) + 1) = ((p ++ [y]).length : Int) := by rw [wrap64 (by omega) (by omega)]; simp
    have e4 : IntKind.wrap .i64 (d + 1) = d + 1 := wrap64 (by omega) (by omega)
    have e7 := hs y (by rw [hp]; simp) (putLs r ++ t)
    have e5 := ih (p ++ [y]) (by simp [hp]) m (by simp at hf; omega)
    rw [iterN]
    simp only [espalierref_unbyte_s1, Val.eta, e, e3, e4, cond_true, cond_false, putLs, List.append_assoc, e7, Option.bind_some, Bool.not_true]
    rw [ck_ok (room56 (by simp; omega))]
    exact e5
/-- the head of what is read -/
theorem un_head (self : ByteArray × Int × Unit → Option (Val × ByteArray × Bool × Unit)) (n : Nat) (c : UInt8) (t : List UInt8) (d : Int) (hd : d ≤ 8) :
    (seq (S (c :: t)) ⟨#[]⟩ || decide (d > 8)) = false ∧ sat (S (c :: t)) 0 = some (c.toNat : Int) ∧ ssl (S (c :: t)) 1 ((S (c :: t)).size : Int) = some (S t) ∧ IntKind.wrap .i64 ((c.toNat : Nat) : Int) = (c.toNat : Int) := by
  refine ⟨by rw [seq_S, decide_eq_false (by omega)]; rfl, sat_S (i := 0) rfl, ?_, ?_⟩
  · rw [ssl_S (c :: t) 1 _ 1 (c :: t).length rfl (by rw [S_size]) (by simp) (by omega)]
    congr 1
    simp
  · have := c.toNat_lt
    exact wrap64 (by omega) (by omega)
/-- a number of eight bytes -/
theorem un_num (m : Nat) (hm : 10 ≤ m) (a t : List UInt8) (ha : a.length = 8) : decide (((S (a ++ t)).size : Int) < 8) = false ∧ ssl (S (a ++ t)) 0 8 = some (S a) ∧ espalierref_ofHigh m (S a, ()) = some (((numN a 0 : Nat) : Int), ()) ∧ ssl (S (a ++ t)) 8 ((S (a ++ t)).size : Int) = some (S t) := by
  refine ⟨by rw [decide_eq_false_iff_not, S_size, List.length_append]; omega, ?_, high_ok m a hm (by omega), ?_⟩
  · rw [ssl_S (a ++ t) 0 8 0 8 rfl rfl (by omega) (by rw [List.length_append]; omega)]
    congr 1
    simp [← ha]
  · rw [ssl_S (a ++ t) 8 _ 8 (a ++ t).length rfl (by rw [S_size]) (by rw [List.length_append]; omega) (by omega)]
    congr 1
    rw [← ha, List.drop_left, List.take_of_length_le (by rw [List.length_append]; omega)]
end Pure

/- The law CodeValue of the plain functions. No program. -/
import Derived.Test.YtdngaeekecbgpaaDoorPUn
namespace Pure
open Esp Ev Go
set_option linter.unusedSimpArgs false
set_option linter.unusedVariables false
set_option linter.unusedSimpArgs false
set_option linter.unusedVariables false

theorem unbyte_ok {v : Val} {d : Int} (h : Right v d) : ∀ (n : Nat) (t : List UInt8), 1 ≤ d → d ≤ 7 → 50 ≤ n + d.toNat → espalierref_unbyte n (S (putL v ++ t), d, ()) = some (v, S t, true, ()) := by
  induction h with
  | null d =>
    intro n t h1 h2 hn
    obtain ⟨m, rfl⟩ : ∃ m, n = m + 1 := ⟨n - 1, by omega⟩
    obtain ⟨a1, a2, a3, a4⟩ := un_head (espalierref_unbyte m) m 0 t d (by omega)
    rw [espalierref_unbyte]
    unfold espalierref_unbyte_b
    rw [show S (putL (.mk 0 0 ⟨#[]⟩ []) ++ t) = S (0 :: t) from rfl]
    simp only [a1, a2, a3, a4, cond_false, Option.bind_some]
    rfl
  | truth a d h =>
    intro n t h1 h2 hn
    obtain ⟨m, rfl⟩ : ∃ m, n = m + 1 := ⟨n - 1, by omega⟩
    obtain ⟨a1, a2, a3, a4⟩ := un_head (espalierref_unbyte m) m 1 (numB (a + 9223372036854775808) 8 ++ t) d (by omega)
    obtain ⟨b1, b2, b3, b4⟩ := un_num m (by omega) (numB (a + 9223372036854775808) 8) t (numB_length _ _)
    obtain ⟨x, hx⟩ : ∃ x : Nat, a + 9223372036854775808 = x := ⟨(a + 9223372036854775808).toNat, by omega⟩
    have e5 : ((numN (numB (a + 9223372036854775808) 8) 0 : Nat) : Int) = a + 9223372036854775808 := by
      rw [hx, numN_back x 8 (by omega) (by omega)]
    rw [e5] at b3
    have e6 := top_back a (by omega) (by omega)
    rw [espalierref_unbyte]
    unfold espalierref_unbyte_b
    rw [show S (putL (.mk 1 a ⟨#[]⟩ []) ++ t) = S (1 :: (numB (a + 9223372036854775808) 8 ++ t)) from rfl]
    simp only [a1, a2, a3, a4, cond_false, Option.bind_some]
    rw [show ((((1 : UInt8).toNat : Nat) : Int)) = 1 from rfl, show ((1 : Int) == 0) = false from rfl, show ((1 : Int) == 1) = true from rfl]
    simp only [cond_false, cond_true, b1, b2, b3, b4, e6, Option.bind_some]
  | int a d h =>
    intro n t h1 h2 hn
    obtain ⟨m, rfl⟩ : ∃ m, n = m + 1 := ⟨n - 1, by omega⟩
    have hr : -9223372036854775808 ≤ a ∧ a ≤ 9223372036854775807 := by
      unfold wfI Lit.wf at h
      simp [IntKind.bits, IntKind.signed, IntKind.min, IntKind.max] at h
      omega
    obtain ⟨a1, a2, a3, a4⟩ := un_head (espalierref_unbyte m) m 2 (numB (a + 9223372036854775808) 8 ++ t) d (by omega)
    obtain ⟨b1, b2, b3, b4⟩ := un_num m (by omega) (numB (a + 9223372036854775808) 8) t (numB_length _ _)
    obtain ⟨x, hx⟩ : ∃ x : Nat, a + 9223372036854775808 = x := ⟨(a + 9223372036854775808).toNat, by omega⟩
    have e5 : ((numN (numB (a + 9223372036854775808) 8) 0 : Nat) : Int) = a + 9223372036854775808 := by
      rw [hx, numN_back x 8 (by omega) (by omega)]
    rw [e5] at b3
    have e6 := top_back a (by omega) (by omega)
    rw [espalierref_unbyte]
    unfold espalierref_unbyte_b
    rw [show S (putL (.mk 2 a ⟨#[]⟩ []) ++ t) = S (2 :: (numB (a + 9223372036854775808) 8 ++ t)) from rfl]
    simp only [a1, a2, a3, a4, cond_false, Option.bind_some]
    rw [show ((((2 : UInt8).toNat : Nat) : Int)) = 2 from rfl, show ((2 : Int) == 0) = false from rfl, show ((2 : Int) == 1) = false from rfl, show ((2 : Int) == 2) = true from rfl]
    simp only [cond_false, cond_true, b1, b2, b3, b4, e6, Option.bind_some]
  | text s d h3 h4 =>
    intro n t h1 h2 hn
    obtain ⟨m, rfl⟩ : ∃ m, n = m + 1 := ⟨n - 1, by omega⟩
    obtain ⟨x, y, hxy⟩ : ∃ x y, numB (s.size : Int) 2 = [x, y] := ⟨_, _, rfl⟩
    have hl : s.data.toList.length = s.size := by rw [Array.length_toList]; rfl
    have hnum := numN_back s.size 2 (by omega) (by omega)
    rw [hxy] at hnum
    have hnum2 : x.toNat * 256 + y.toNat = s.size := by simpa [numN] using hnum
    obtain ⟨a1, a2, a3, a4⟩ := un_head (espalierref_unbyte m) m 3 (x :: y :: (s.data.toList ++ t)) d (by omega)
    have hx := x.toNat_lt
    have hy := y.toNat_lt
    have b1 : sat (S (x :: y :: (s.data.toList ++ t))) 0 = some (x.toNat : Int) := sat_S (i := 0) rfl
    have b2 : sat (S (x :: y :: (s.data.toList ++ t))) 1 = some (y.toNat : Int) := sat_S (i := 1) rfl
    have w1 : IntKind.wrap .i64 (x.toNat : Int) = (x.toNat : Int) := wrap64 (by omega) (by omega)
    have w2 : IntKind.wrap .i64 (y.toNat : Int) = (y.toNat : Int) := wrap64 (by omega) (by omega)
    have w3 : IntKind.wrap .i64 ((x.toNat : Int) * 256) = (x.toNat : Int) * 256 := wrap64 (by omega) (by omega)
    have w4 : IntKind.wrap .i64 ((x.toNat : Int) * 256 + (y.toNat : Int)) = (s.size : Int) := by rw [wrap64 (by omega) (by omega)]; omega
    have w5 : IntKind.wrap .i64 (2 + (s.size : Int)) = 2 + (s.size : Int) := wrap64 (by omega) (by omega)
    have b3 : decide (((S (x :: y :: (s.data.toList ++ t))).size : Int) < 2) = false := by rw [decide_eq_false_iff_not, S_size]; simp; omega
    have b4 : decide (((S (x :: y :: (s.data.toList ++ t))).size : Int) < 2 + (s.size : Int)) = false := by rw [decide_eq_false_iff_not, S_size]; simp [hl]; omega
    have b5 : ssl (S (x :: y :: (s.data.toList ++ t))) 2 (2 + (s.size : Int)) = some s := by
      rw [ssl_S _ 2 _ 2 (2 + s.size) rfl (by omega) (by omega) (by simp [hl]; omega)]
      congr 1
      rw [show (2 + s.size - 2) = s.data.toList.length by rw [hl]; omega]
      simp only [List.drop_succ_cons, List.drop_zero, List.take_left]
      exact S_of s
    have b6 : ssl (S (x :: y :: (s.data.toList ++ t))) (2 + (s.size : Int)) ((S (x :: y :: (s.data.toList ++ t))).size : Int) = some (S t) := by
      rw [ssl_S _ _ _ (2 + s.size) (x :: y :: (s.data.toList ++ t)).length (by omega) (by rw [S_size]) (by simp [hl]; omega) (by omega)]
      congr 1
      rw [show (x :: y :: (s.data.toList ++ t)).drop (2 + s.size) = t by
        rw [show 2 + s.size = s.data.toList.length + 1 + 1 by omega]
        simp only [List.drop_succ_cons, List.drop_left]]
      rw [List.take_of_length_le (by simp [hl]; omega)]
    rw [espalierref_unbyte]
    unfold espalierref_unbyte_b
    rw [show S (putL (.mk 3 0 s []) ++ t) = S (3 :: x :: y :: (s.data.toList ++ t)) by
      rw [putL, if_neg (by decide), if_pos rfl, hxy]
      rfl]
    simp only [a1, a2, a3, a4, cond_false, Option.bind_some]
    rw [show ((((3 : UInt8).toNat : Nat) : Int)) = 3 from rfl, show ((3 : Int) == 0) = false from rfl, show ((3 : Int) == 1) = false from rfl, show ((3 : Int) == 2) = false from rfl, show ((3 : Int) == 3) = true from rfl]
    simp only [cond_false, cond_true, b1, b2, b3, w1, w2, w3, w4, w5, b4, b5, b6, Option.bind_some]
  | list l d h3 h4 h5 ih =>
    intro n t h1 h2 hn
    obtain ⟨m, rfl⟩ : ∃ m, n = m + 1 := ⟨n - 1, by omega⟩
    obtain ⟨a1, a2, a3, a4⟩ := un_head (espalierref_unbyte m) m 4 (UInt8.ofNat l.length :: (putLs l ++ t)) d (by omega)
    obtain ⟨b1, b2, b3, b4⟩ := un_head (espalierref_unbyte m) m (UInt8.ofNat l.length) (putLs l ++ t) d (by omega)
    have b0 : seq (S (UInt8.ofNat l.length :: (putLs l ++ t))) ⟨#[]⟩ = false := seq_S _
    have e4 : (((UInt8.ofNat l.length).toNat : Nat) : Int) = (l.length : Int) := by
      rw [UInt8.toNat_ofNat_of_lt' (by show _ < 256; omega)]
    rw [espalierref_unbyte]
    unfold espalierref_unbyte_b
    rw [show S (putL (.mk 4 0 ⟨#[]⟩ l) ++ t) = S (4 :: UInt8.ofNat l.length :: (putLs l ++ t)) by simp [putL]]
    simp only [a1, a2, a3, a4, cond_false, Option.bind_some]
    rw [show ((((4 : UInt8).toNat : Nat) : Int)) = 4 from rfl, show ((4 : Int) == 0) = false from rfl, show ((4 : Int) == 1) = false from rfl, show ((4 : Int) == 2) = false from rfl, show ((4 : Int) == 3) = false from rfl, show ((4 : Int) == 4) = true from rfl]
    simp only [cond_false, cond_true, b0, b2, b3, b4, Option.bind_some]
    rw [e4]
    exact un_loop (ρ := Val × ByteArray × Bool × Unit) (espalierref_unbyte m) m d h4 h1 _ l h3 _ _ (fun x hx t => ih x hx m t (by omega) (by omega) (by omega)) t l [] rfl m (by omega)

def Un (n : Nat) (d : Int) (b : List UInt8) : Prop := ∃ v t ok, espalierref_unbyte n (S b, d, ()) = some (v, S t, ok, ()) ∧ (ok = true → Gave b d v t)
theorem unany_loop {ρ : Type} (m : Nat) (d : Int) (hd : d ≤ 8) (hd1 : 1 ≤ d) (o : Int × Int × ByteArray × Unit) (c : Nat) (hc : c ≤ 255)
    (kx : ByteArray × (Int × Int × ByteArray × Unit) × List Val × Unit → Option ρ) (kr : ByteArray × Bool × (Int × Int × ByteArray × Unit) × List Val × Unit → Option ρ)
    (hs : ∀ b, Un m (d + 1) b) :
    ∀ (k : Nat) (l : List Val) (b : List UInt8) (fuel : Nat), l.length + k = c → k < fuel →
      (∃ r t, iterN (fun rc => espalierref_unbyte_s1 (espalierref_unbyte m) m rc kx kr) fuel (S b, d, (c : Int), (l.length : Int), o, l, ()) = kx (S t, o, l ++ r, ()) ∧ r.length = k ∧ (∀ x ∈ r, vOk x) ∧ (chks r (d + 1) = 0 → b = putLs r ++ t)) ∨
      (∃ l2, iterN (fun rc => espalierref_unbyte_s1 (espalierref_unbyte m) m rc kx kr) fuel (S b, d, (c : Int), (l.length : Int), o, l, ()) = kr (S [], false, o, l2, ())) := by
  intro k
  induction k with
  | zero =>
    intro l b fuel hl hf
    obtain ⟨f, rfl⟩ : ∃ f, fuel = f + 1 := ⟨fuel - 1, by omega⟩
    have e : decide ((l.length : Int) < (c : Int)) = false := by rw [decide_eq_false_iff_not]; omega
    refine .inl ⟨[], b, ?_, rfl, fun _ h => (List.not_mem_nil h).elim, fun _ => rfl⟩
    rw [iterN]
    simp only [espalierref_unbyte_s1, Val.eta, e, cond_false, List.append_nil]
  | succ k ih =>
    intro l b fuel hl hf
    obtain ⟨f, rfl⟩ : ∃ f, fuel = f + 1 := ⟨fuel - 1, by omega⟩
    have e : decide ((l.length : Int) < (c : Int)) = true := by rw [decide_eq_true_iff]; omega
    have e4 : IntKind.wrap .i64 (d + 1) = d + 1 := wrap64 (by omega) (by omega)
    obtain ⟨v, t, ok, e5, h5⟩ := hs b
    have e3 : IntKind.wrap .i64 ((l.length : Int) + 1) = ((l ++ [v]).length : Int) := by rw [wrap64 (by omega) (by omega)]; simp
    simp only [iterN]
    cases ok with
    | false =>
      refine .inr ⟨l, ?_⟩
      simp only [espalierref_unbyte_s1, Val.eta, e, e4, e5, cond_true, Option.bind_some, Bool.not_false]
      rfl
    | true =>
      obtain ⟨g1, g2⟩ := h5 rfl
      have hstep : espalierref_unbyte_s1 (espalierref_unbyte m) m (iterN (fun rc => espalierref_unbyte_s1 (espalierref_unbyte m) m rc kx kr) f) kx kr (S b, d, (c : Int), (l.length : Int), o, l, ()) =
          iterN (fun rc => espalierref_unbyte_s1 (espalierref_unbyte m) m rc kx kr) f (S t, d, (c : Int), ((l ++ [v]).length : Int), o, l ++ [v], ()) := by
        simp only [espalierref_unbyte_s1, Val.eta, e, e3, e4, e5, cond_true, cond_false, Option.bind_some, Bool.not_true]
        rw [ck_ok (room56 (by simp; omega))]
      rw [hstep]
      rcases ih (l ++ [v]) t f (by simp; omega) (by omega) with ⟨r, t2, e6, h8, h9, h10⟩ | ⟨l2, e6⟩
      · refine .inl ⟨v :: r, t2, by rw [e6]; simp, by simp [h8], fun x hx => ?_, fun hch => ?_⟩
        · rcases List.mem_cons.1 hx with rfl | hx
          · exact g1
          · exact h9 x hx
        · have h0 : ∀ x ∈ v :: r, chk x (d + 1) = 0 := chks_0 hch
          have h1 := g2 (h0 v (by simp))
          have h2 : chks r (d + 1) = 0 := by
            rw [chks, h0 v (by simp)] at hch
            exact hch
          rw [putLs, List.append_assoc, ← h10 h2, ← h1]
      · exact .inr ⟨l2, e6⟩
theorem unbyte_any : ∀ (n : Nat) (d : Int) (b : List UInt8), 1 ≤ d → d ≤ 9 → 310 ≤ n + d.toNat → Un n d b := by
  intro n
  induction n with
  | zero => intro d b h1 h2 h3; omega
  | succ m ih =>
    intro d b h1 h2 h3
    unfold Un
    rw [espalierref_unbyte]
    unfold espalierref_unbyte_b
    have hfail : ∀ (v : Val), ∃ v2 t ok, (some (v, (⟨#[]⟩ : ByteArray), false, ()) : Option (Val × ByteArray × Bool × Unit)) = some (v2, S t, ok, ()) ∧ (ok = true → Gave b d v2 t) := fun v => ⟨v, [], false, rfl, fun h => by cases h⟩
    cases b with
    | nil =>
      have e : (seq (S []) ⟨#[]⟩ || decide (d > 8)) = true := by rw [seq_S]; rfl
      simp only [e, cond_true]
      exact ⟨_, [], false, rfl, fun h => by cases h⟩
    | cons c t =>
      by_cases h8 : d > 8
      · have e : (seq (S (c :: t)) ⟨#[]⟩ || decide (d > 8)) = true := by rw [decide_eq_true h8, Bool.or_true]
        simp only [e, cond_true]
        exact ⟨_, [], false, rfl, fun h => by cases h⟩
      · obtain ⟨a1, a2, a3, a4⟩ := un_head (espalierref_unbyte m) m c t d (by omega)
        have hc := c.toNat_lt
        simp only [a1, a2, a3, a4, cond_false, Option.bind_some]
        by_cases c0 : c.toNat = 0
        · have e9 : c = 0 := UInt8.toNat_inj.1 c0
          subst e9
          exact ⟨.mk 0 0 ⟨#[]⟩ [], t, true, rfl, fun _ => ⟨vOk_mk _ _ _ _ (by omega) (by omega) (by simp [ByteArray.size]) (by simp) (fun _ h => (List.not_mem_nil h).elim), fun _ => rfl⟩⟩
        · have e0 : (((c.toNat : Nat) : Int) == 0) = false := by simp; omega
          simp only [e0, cond_false]
          by_cases c12 : c.toNat = 1 ∨ c.toNat = 2
          · have goal : ∃ v t2 ok, (bif decide (((S t).size : Int) < 8) then some ((Ev.Val.mk (c.toNat : Int) 0 (⟨#[]⟩ : ByteArray) ([] : List Ev.Val)), (⟨#[]⟩ : ByteArray), false, ())
                else (ssl (S t) 0 8).bind fun s7 => (espalierref_ofHigh m (s7, ())).bind fun (y8, _) => (ssl (S t) 8 ((S t).size : Int)).bind fun s10 => some ((Ev.Val.mk (c.toNat : Int) (IntKind.wrap .i64 (bxor .u64 y8 9223372036854775808)) (⟨#[]⟩ : ByteArray) ([] : List Ev.Val)), s10, true, ())) = some (v, S t2, ok, ()) ∧ (ok = true → Gave (c :: t) d v t2) := by
              by_cases hl : t.length < 8
              · rw [show decide (((S t).size : Int) < 8) = true by rw [decide_eq_true_iff, S_size]; omega]
                exact ⟨_, [], false, rfl, fun h => by cases h⟩
              · obtain ⟨a, t2, rfl, ha⟩ : ∃ a t2, t = a ++ t2 ∧ a.length = 8 := ⟨t.take 8, t.drop 8, (List.take_append_drop 8 t).symm, by rw [List.length_take]; omega⟩
                obtain ⟨b1, b2, b3, b4⟩ := un_num m (by omega) a t2 ha
                have hx : numN a 0 < 2 ^ 64 := by have := numN_lt a 0; rw [ha] at this; omega
                have e4 := flip_back (numN a 0) hx
                refine ⟨.mk (c.toNat : Int) ((numN a 0 : Nat) - 9223372036854775808) ⟨#[]⟩ [], t2, true, by simp only [b1, b2, b3, b4, e4, cond_false, Option.bind_some], fun _ => ⟨vOk_mk _ _ _ _ (by omega) (by omega) (by simp [ByteArray.size]) (by simp) (fun _ h => (List.not_mem_nil h).elim), fun _ => ?_⟩⟩
                have e5 : ((numN a 0 : Nat) : Int) - 9223372036854775808 + 9223372036854775808 = ((numN a 0 : Nat) : Int) := by omega
                have e6 := numB_numN a 8 ha (by omega)
                have e7 : UInt8.ofNat ((c.toNat : Int)).toNat = c := by simp
                rw [putL, if_pos (by omega), e5, e6, e7]
                simp
            rcases c12 with h | h
            · have e1 : (((c.toNat : Nat) : Int) == 1) = true := by rw [h]; rfl
              simp only [e1, cond_true]
              exact goal
            · have e1 : (((c.toNat : Nat) : Int) == 1) = false := by rw [h]; rfl
              have e2 : (((c.toNat : Nat) : Int) == 2) = true := by rw [h]; rfl
              simp only [e1, e2, cond_true, cond_false]
              exact goal
          · have e1 : (((c.toNat : Nat) : Int) == 1) = false := by simp; omega
            have e2 : (((c.toNat : Nat) : Int) == 2) = false := by simp; omega
            simp only [e1, e2, cond_false]
            by_cases c3 : c.toNat = 3
            · have e3 : (((c.toNat : Nat) : Int) == 3) = true := by rw [c3]; rfl
              simp only [e3, cond_true]
              match t with
              | [] =>
                rw [show decide (((S []).size : Int) < 2) = true by rw [decide_eq_true_iff, S_size]; decide]
                exact ⟨_, [], false, rfl, fun h => by cases h⟩
              | [x] =>
                rw [show decide (((S [x]).size : Int) < 2) = true by rw [decide_eq_true_iff, S_size]; simp]
                exact ⟨_, [], false, rfl, fun h => by cases h⟩
              | x :: y :: t =>
                have hx := x.toNat_lt
                have hy := y.toNat_lt
                obtain ⟨z, hz⟩ : ∃ z, z = x.toNat * 256 + y.toNat := ⟨_, rfl⟩
                have b1 : sat (S (x :: y :: t)) 0 = some (x.toNat : Int) := sat_S (i := 0) rfl
                have b2 : sat (S (x :: y :: t)) 1 = some (y.toNat : Int) := sat_S (i := 1) rfl
                have w1 : IntKind.wrap .i64 (x.toNat : Int) = (x.toNat : Int) := wrap64 (by omega) (by omega)
                have w2 : IntKind.wrap .i64 (y.toNat : Int) = (y.toNat : Int) := wrap64 (by omega) (by omega)
                have w3 : IntKind.wrap .i64 ((x.toNat : Int) * 256) = (x.toNat : Int) * 256 := wrap64 (by omega) (by omega)
                have w4 : IntKind.wrap .i64 ((x.toNat : Int) * 256 + (y.toNat : Int)) = (z : Int) := by rw [wrap64 (by omega) (by omega)]; omega
                have w5 : IntKind.wrap .i64 (2 + (z : Int)) = 2 + (z : Int) := wrap64 (by omega) (by omega)
                have b3 : decide (((S (x :: y :: t)).size : Int) < 2) = false := by rw [decide_eq_false_iff_not, S_size]; simp; omega
                simp only [b1, b2, b3, w1, w2, w3, w4, w5, cond_false, Option.bind_some]
                by_cases hl : t.length < z
                · rw [show decide (((S (x :: y :: t)).size : Int) < 2 + (z : Int)) = true by rw [decide_eq_true_iff, S_size]; simp; omega]
                  exact ⟨_, [], false, rfl, fun h => by cases h⟩
                · obtain ⟨a, t2, rfl, ha⟩ : ∃ a t2, t = a ++ t2 ∧ a.length = z := ⟨t.take z, t.drop z, (List.take_append_drop z t).symm, by rw [List.length_take]; omega⟩
                  have b4 : decide (((S (x :: y :: (a ++ t2))).size : Int) < 2 + (z : Int)) = false := by rw [decide_eq_false_iff_not, S_size]; simp [ha]; omega
                  have b5 : ssl (S (x :: y :: (a ++ t2))) 2 (2 + (z : Int)) = some (S a) := by
                    rw [ssl_S _ 2 _ 2 (2 + z) rfl (by omega) (by omega) (by simp [ha]; omega)]
                    congr 1
                    rw [show (2 + z - 2) = a.length by rw [ha]; omega]
                    simp only [List.drop_succ_cons, List.drop_zero, List.take_left]
                  have b6 : ssl (S (x :: y :: (a ++ t2))) (2 + (z : Int)) ((S (x :: y :: (a ++ t2))).size : Int) = some (S t2) := by
                    rw [ssl_S _ _ _ (2 + z) (x :: y :: (a ++ t2)).length (by omega) (by rw [S_size]) (by simp [ha]; omega) (by omega)]
                    congr 1
                    rw [show (x :: y :: (a ++ t2)).drop (2 + z) = t2 by
                      rw [show 2 + z = a.length + 1 + 1 by omega]
                      simp only [List.drop_succ_cons, List.drop_left]]
                    rw [List.take_of_length_le (by simp [ha]; omega)]
                  refine ⟨.mk (c.toNat : Int) 0 (S a) [], t2, true, by simp only [b4, b5, b6, cond_false, Option.bind_some], fun _ => ⟨vOk_mk _ _ _ _ (by omega) (by omega) (by rw [S_size]; omega) (by simp) (fun _ h => (List.not_mem_nil h).elim), fun _ => ?_⟩⟩
                  have e8 := numB_numN [x, y] 2 rfl (by omega)
                  have e9 : c = 3 := UInt8.toNat_inj.1 c3
                  have e10 : ((S a).size : Int) = ((numN [x, y] 0 : Nat) : Int) := by rw [S_size, ha, hz]; simp [numN]
                  rw [putL, if_neg (by omega), if_pos (by omega), e10, e8, e9, S_list]
                  simp
            · have e3 : (((c.toNat : Nat) : Int) == 3) = false := by simp; omega
              simp only [e3, cond_false]
              by_cases c4 : c.toNat = 4
              · have e4 : (((c.toNat : Nat) : Int) == 4) = true := by rw [c4]; rfl
                simp only [e4, cond_true]
                match t with
                | [] =>
                  rw [show seq (S []) ⟨#[]⟩ = true from seq_S []]
                  exact ⟨_, [], false, rfl, fun h => by cases h⟩
                | k :: t =>
                  obtain ⟨b1, b2, b3, b4⟩ := un_head (espalierref_unbyte m) m k t d (by omega)
                  have b0 : seq (S (k :: t)) ⟨#[]⟩ = false := seq_S _
                  have hk := k.toNat_lt
                  simp only [b0, b2, b3, b4, cond_false, Option.bind_some]
                  rcases unany_loop (ρ := Val × ByteArray × Bool × Unit) m d (by omega) h1 ((c.toNat : Int), 0, (⟨#[]⟩ : ByteArray), ()) k.toNat (by omega)
                    (fun (v29, o30, o31, _) => some ((Ev.Val.mk o30.1 o30.2.1 o30.2.2.1 o31), v29, true, ())) (fun (v32, v33, o34, o35, _) => some ((Ev.Val.mk o34.1 o34.2.1 o34.2.2.1 o35), v32, v33, ()))
                    (fun b => ih (d + 1) b (by omega) (by omega) (by omega)) k.toNat [] t m (by simp) (by omega) with ⟨r, t3, e5, h8, h9, h10⟩ | ⟨l2, e5⟩
                  · refine ⟨_, t3, true, e5, fun _ => ⟨vOk_mk _ _ _ _ (by show 0 ≤ (c.toNat : Int) ∧ (c.toNat : Int) ≤ 255; omega) (by show -9223372036854775808 ≤ (0 : Int) ∧ (0 : Int) ≤ 9223372036854775807; omega) (by simp [ByteArray.size]) (by simp; omega) (by simpa using h9), fun hch => ?_⟩⟩
                    have e9 : c = 4 := UInt8.toNat_inj.1 c4
                    simp only [List.nil_append] at hch ⊢
                    have hch2 : chks r (d + 1) = 0 := by
                      rw [chk, c4] at hch
                      rw [show ((((4 : Nat)) : Int) == 0) = false from rfl, show ((((4 : Nat)) : Int) == 1) = false from rfl, show ((((4 : Nat)) : Int) == 2) = false from rfl, show ((((4 : Nat)) : Int) == 3) = false from rfl, show ((((4 : Nat)) : Int) == 4) = true from rfl] at hch
                      simp only [cond_false, cond_true] at hch
                      cases hq : decide ((r.length : Int) > 30) || decide (d > 6)
                      · rw [hq] at hch
                        simp only [cond_false] at hch
                        cases hq2 : chks r (d + 1) != 0
                        · simpa using hq2
                        · rw [hq2] at hch; exact hch
                      · rw [hq] at hch; cases hch
                    rw [putL, if_neg (by omega), if_neg (by omega), if_pos (by omega), h8, h10 hch2, e9]
                    simp
                  · exact ⟨_, [], false, e5, fun h => by cases h⟩
              · have e4 : (((c.toNat : Nat) : Int) == 4) = false := by simp; omega
                simp only [e4, cond_false]
                exact ⟨_, [], false, rfl, fun h => by cases h⟩

/-! ## the law -/
/-- these bytes begin with those of a right value -/
def Begins (b : List UInt8) (v : Val) (t : List UInt8) : Prop := Right v 1 ∧ b = putL v ++ t
theorem Long_any (s : ByteArray) (hz : s.size ≤ 9223372036854775807) (n : Nat) (hn : 400 ≤ n) : (∃ v t, Begins s.data.toList v t ∧ code_Long n (s, ()) = some (((putL v).length : Int), true, ())) ∨ ((∀ v t, ¬ Begins s.data.toList v t) ∧ code_Long n (s, ()) = some (0, false, ())) := by
  by_cases h : ∃ v t, Begins s.data.toList v t
  · obtain ⟨v, t, hv, hb⟩ := h
    exact .inl ⟨v, t, ⟨hv, hb⟩, Long_ok hv s t hb hz n (by omega)⟩
  · refine .inr ⟨fun v t hvt => h ⟨v, t, hvt⟩, ?_⟩
    obtain ⟨v, t, bad, e, hg⟩ := read_any n 1 s.data.toList (by omega) (by omega) (by omega)
    simp only [code_Long, Val.eta]
    rw [bytesI_eq, e]
    simp only [Option.bind_some]
    cases bad with
    | true => rfl
    | false =>
      obtain ⟨g1, g2⟩ := hg rfl
      simp only [cond_false, Check_ok v n (by omega), Option.bind_some]
      have : chk v 1 ≠ 0 := fun h0 => h ⟨v, t, right_of v 1 g1 h0, g2 h0⟩
      rw [show (chk v 1 != 0) = true by simpa using this]
      rfl
theorem LongOf_any (s : ByteArray) (hz : s.size ≤ 9223372036854775807) (n : Nat) (hn : 400 ≤ n) : (∃ v t, Begins s.data.toList v t ∧ espalierref_LongOf n (s, ()) = some (v, ((putL v).length : Int), true, ())) ∨ ((∀ v t, ¬ Begins s.data.toList v t) ∧ espalierref_LongOf n (s, ()) = some (.mk 0 0 ⟨#[]⟩ [], 0, false, ())) := by
  have hS : s = S s.data.toList := rfl
  by_cases h : ∃ v t, Begins s.data.toList v t
  · obtain ⟨v, t, hv, hb⟩ := h
    refine .inl ⟨v, t, ⟨hv, hb⟩, ?_⟩
    have e := unbyte_ok hv n t (by omega) (by omega) (by omega)
    rw [← hb, ← hS] at e
    have e2 : s.size = (putL v).length + t.length := by
      rw [← List.length_append, ← hb, Array.length_toList]
      rfl
    simp only [espalierref_LongOf, Val.eta, e, rRight_ok v n (by omega), chk_right hv, Option.bind_some, Bool.not_true, cond_false, S_size]
    rw [show (!((0 : Int) == 0)) = false from rfl, cond_false, wrap64 (by omega) (by omega), show (s.size : Int) - (t.length : Int) = ((putL v).length : Int) by omega]
  · refine .inr ⟨fun v t hvt => h ⟨v, t, hvt⟩, ?_⟩
    obtain ⟨v, t, ok, e, hg⟩ := unbyte_any n 1 s.data.toList (by omega) (by omega) (by omega)
    rw [← hS] at e
    simp only [espalierref_LongOf, Val.eta, e, Option.bind_some]
    cases ok with
    | false => rfl
    | true =>
      obtain ⟨g1, g2⟩ := hg rfl
      simp only [Bool.not_true, cond_false, rRight_ok v n (by omega), Option.bind_some]
      have : chk v 1 ≠ 0 := fun h0 => h ⟨v, t, right_of v 1 g1 h0, g2 h0⟩
      rw [show (!(chk v 1 == 0)) = true by simpa using this]
      rfl
theorem begins_one {b : List UInt8} {v v2 : Val} {t t2 : List UInt8} (h : Begins b v t) (h2 : Begins b v2 t2) : v = v2 ∧ t = t2 := by
  have e1 := unbyte_ok h.1 100 t (by omega) (by omega) (by omega)
  have e2 := unbyte_ok h2.1 100 t2 (by omega) (by omega) (by omega)
  rw [← h.2] at e1
  rw [← h2.2] at e2
  have := e1.symm.trans e2
  simp only [Option.some.injEq, Prod.mk.injEq] at this
  refine ⟨this.1, ?_⟩
  have h3 := congrArg (fun x : ByteArray => x.data.toList) this.2.1
  simpa [S_list] using h3
/-- what code.Value answers of any bytes -/
theorem Value_any (s : ByteArray) (n : Nat) (hn : 400 ≤ n) : (8000 < s.size ∧ code_Value n (s, ()) = some (.mk 0 0 ⟨#[]⟩ [], 2, ())) ∨ (s.size ≤ 8000 ∧ (∃ v, Begins s.data.toList v [] ∧ code_Value n (s, ()) = some (v, 0, ()))) ∨ (s.size ≤ 8000 ∧ (∀ v, ¬ Begins s.data.toList v []) ∧ code_Value n (s, ()) = some (.mk 0 0 ⟨#[]⟩ [], 11, ())) := by
  by_cases hz : 8000 < s.size
  · refine .inl ⟨hz, ?_⟩
    simp only [code_Value]
    rw [show decide ((s.size : Int) > 8000) = true by rw [decide_eq_true_iff]; omega]
    rfl
  · refine .inr ?_
    by_cases h : ∃ v, Begins s.data.toList v []
    · obtain ⟨v, hv⟩ := h
      refine .inl ⟨by omega, v, hv, ?_⟩
      have hb := hv.2
      rw [List.append_nil] at hb
      have hl : (putL v).length = s.size := by rw [← hb, Array.length_toList]; rfl
      have := Value_ok hv.1 (by omega) n (by omega)
      rw [← hb] at this
      exact this
    · refine .inr ⟨by omega, fun v hv => h ⟨v, hv⟩, ?_⟩
      obtain ⟨v, t, bad, e, hg⟩ := read_any n 1 s.data.toList (by omega) (by omega) (by omega)
      simp only [code_Value, Val.eta]
      rw [show decide ((s.size : Int) > 8000) = false by rw [decide_eq_false_iff_not]; omega, cond_false, bytesI_eq, e]
      simp only [Option.bind_some, bi_length]
      cases bad with
      | true => rfl
      | false =>
        obtain ⟨g1, g2⟩ := hg rfl
        cases t with
        | cons c t => rw [show decide ((((c :: t).length : Nat) : Int) > 0) = true by rw [decide_eq_true_iff]; simp]; rfl
        | nil =>
          simp only [Check_ok v n (by omega), Option.bind_some]
          have : chk v 1 ≠ 0 := fun h0 => h ⟨v, right_of v 1 g1 h0, g2 h0⟩
          rw [show (chk v 1 != 0) = true by simpa using this]
          rfl
theorem none_ok (n : Nat) (hn : 100 ≤ n) : espalierlaw_none n (.mk 0 0 ⟨#[]⟩ [], ()) = some (true, ()) := by
  simp only [espalierlaw_none, Val.eta, same_ok (Right.null 1) n (by omega), Option.bind_some]
theorem CodeValue_ok (s : ByteArray) (hz : s.size ≤ 9223372036854775807) (n : Nat) (hn : 400 ≤ n) : espalierlaw_CodeValue n (s, ()) = some (true, ()) := by
  have hlen : s.data.toList.length = s.size := by rw [Array.length_toList]; rfl
  simp only [espalierlaw_CodeValue, Val.eta, coded_ok n (by omega)]
  rcases Long_any s hz n hn with ⟨v, t, hb, e1⟩ | ⟨hb, e1⟩
  · rcases LongOf_any s hz n hn with ⟨v2, t2, hb2, e2⟩ | ⟨hb2, e2⟩
    · obtain ⟨rfl, rfl⟩ := begins_one hb hb2
      have hl2 : s.size = (putL v).length + t.length := by rw [← hlen, hb.2, List.length_append]
      rcases Value_any s n hn with ⟨h8, e3⟩ | ⟨h8, v3, hb3, e3⟩ | ⟨h8, hb3, e3⟩
      · simp only [e1, e2, e3, Option.bind_some, none_ok n (by omega)]
        rw [show decide ((s.size : Int) > 8000) = true by rw [decide_eq_true_iff]; omega]
        simp
      · obtain ⟨rfl, rfl⟩ := begins_one hb hb3
        simp only [e1, e2, e3, Option.bind_some, same_ok hb.1 n (by omega)]
        rw [show decide ((s.size : Int) > 8000) = false by rw [decide_eq_false_iff_not]; omega]
        rw [show (((putL v).length : Int) != (s.size : Int)) = false by simp [hl2]]
        simp
      · have ht : t ≠ [] := fun h => hb3 v (h ▸ hb)
        have hp : 0 < t.length := List.length_pos_iff.2 ht
        simp only [e1, e2, e3, Option.bind_some, none_ok n (by omega)]
        rw [show decide ((s.size : Int) > 8000) = false by rw [decide_eq_false_iff_not]; omega]
        rw [show (((putL v).length : Int) != (s.size : Int)) = true by simp; omega]
        simp
    · exact absurd hb (hb2 v t)
  · rcases LongOf_any s hz n hn with ⟨v2, t2, hb2, e2⟩ | ⟨hb2, e2⟩
    · exact absurd hb2 (hb v2 t2)
    · rcases Value_any s n hn with ⟨h8, e3⟩ | ⟨h8, v3, hb3, e3⟩ | ⟨h8, hb3, e3⟩
      · simp only [e1, e2, e3, Option.bind_some, none_ok n (by omega)]
        rw [show decide ((s.size : Int) > 8000) = true by rw [decide_eq_true_iff]; omega]
        simp
      · exact absurd hb3 (hb v3 [])
      · simp only [e1, e2, e3, Option.bind_some, none_ok n (by omega)]
        rw [show decide ((s.size : Int) > 8000) = false by rw [decide_eq_false_iff_not]; omega]
        simp
end Pure

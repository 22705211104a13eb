/- Any bytes, read as a value. No program. -/
import Derived.Test.YtdngaeekecbgpaaDoorPBack
namespace Pure
open Esp Ev Go
set_option linter.unusedSimpArgs false
set_option linter.unusedVariables false
set_option linter.unusedSimpArgs false
set_option linter.unusedVariables false

theorem numB_numN (a : List UInt8) : ∀ s, a.length = s → s ≤ 8 → numB ((numN a 0 : Nat) : Int) s = a := by
  have key : ∀ (s : Nat) (x y : List UInt8), x.length = s → y.length = s → ∀ n m, numN x n = numN y m → n = m ∧ x = y := by
    intro s
    induction s with
    | zero =>
      intro x y hx hy n m h
      obtain rfl := List.eq_nil_of_length_eq_zero hx
      obtain rfl := List.eq_nil_of_length_eq_zero hy
      exact ⟨h, rfl⟩
    | succ s ih =>
      intro x y hx hy n m h
      match x, y, hx, hy with
      | c :: x, e :: y, hx, hy =>
        obtain ⟨h1, rfl⟩ := ih x y (by simpa using hx) (by simpa using hy) _ _ h
        have hc := c.toNat_lt
        have he := e.toNat_lt
        have : c.toNat = e.toNat := by omega
        exact ⟨by omega, by rw [UInt8.toNat_inj.1 this]⟩
  intro s hs h8
  have hlt : numN a 0 < 256 ^ s := by have := numN_lt a 0; rw [hs] at this; omega
  exact (key s _ _ (numB_length _ _) hs 0 0 (numN_back (numN a 0) s h8 hlt)).2
theorem flip_back (x : Nat) (h : x < 2 ^ 64) : IntKind.wrap .i64 (bxor .u64 (x : Int) 9223372036854775808) = (x : Int) - 9223372036854775808 := by
  have := top_back ((x : Int) - 9223372036854775808) (by omega) (by omega)
  rwa [show (x : Int) - 9223372036854775808 + 9223372036854775808 = (x : Int) by omega] at this
theorem wfi {x : Int} (h0 : -9223372036854775808 ≤ x) (h1 : x ≤ 9223372036854775807) : wfI .i64 x := by
  simp [wfI, Lit.wf, IntKind.min, IntKind.max, IntKind.signed, IntKind.bits]
  omega
theorem bi_zeros (k : Nat) : List.replicate k (0 : Int) = bi (List.replicate k 0) := by simp [bi]

theorem take_bad (b : List UInt8) (k : Nat) (hk : k ≤ 100000) : pcode_reader_take ((k : Int), (bi b, true, ()), ()) = some (bi (List.replicate k 0), (bi b, true, ()), ()) := by
  simp only [pcode_reader_take, Bool.true_or, cond_true]
  have h1 : cnt? (k : Int) = some k := by unfold cnt?; rw [if_pos (by omega)]; rfl
  simp only [h1, Option.bind_some, bi_zeros]
  rw [ck_ok (room1 (by omega))]
theorem take_any (b : List UInt8) (k : Nat) (hk : k ≤ 100000) : (∃ a t, b = a ++ t ∧ a.length = k ∧ pcode_reader_take ((k : Int), (bi b, false, ()), ()) = some (bi a, (bi t, false, ()), ())) ∨ pcode_reader_take ((k : Int), (bi b, false, ()), ()) = some (bi (List.replicate k 0), (bi b, true, ()), ()) := by
  by_cases h : k ≤ b.length
  · refine .inl ⟨b.take k, b.drop k, (List.take_append_drop k b).symm, by rw [List.length_take]; omega, ?_⟩
    have := take_ok (b.take k) (b.drop k) k (by rw [List.length_take]; omega)
    rwa [List.take_append_drop] at this
  · refine .inr ?_
    simp only [pcode_reader_take, Bool.false_or]
    rw [show decide ((k : Int) > ((bi b).length : Int)) = true by rw [decide_eq_true_iff, bi_length]; omega]
    have h1 : cnt? (k : Int) = some k := by unfold cnt?; rw [if_pos (by omega)]; rfl
    simp only [h1, Option.bind_some, cond_true, bi_zeros]
    rw [ck_ok (room1 (by omega))]

/-- what reading gives: if nothing was bad, numbers in range; and if it is right, these were its bytes -/
def Gave (b : List UInt8) (d : Int) (v : Val) (t : List UInt8) : Prop := vOk v ∧ (chk v d = 0 → b = putL v ++ t)
def Read (n : Nat) (d : Int) (b : List UInt8) : Prop := ∃ v t bad, pcode_reader_value n (d, (bi b, false, ()), ()) = some (v, (bi t, bad, ()), ()) ∧ (bad = false → Gave b d v t)

theorem any_loop {ρ : Type} (m : Nat) (d : Int) (hd : d ≤ 7) (hd1 : 1 ≤ d) (o : Val) (o23 : Int × Int × ByteArray × Unit) (c : Nat) (hc : c ≤ 255)
    (kx : (Val × Unit) × (Int × Int × ByteArray × Unit) × List Val × (List Int × Bool × Unit) × Unit → Option ρ) (kr : Unit → Option ρ)
    (hs : d ≤ 6 → ∀ b, Read m (d + 1) b) :
    ∀ (k : Nat) (l : List Val) (b : List UInt8) (bad : Bool) (fuel : Nat), l.length + k = c → k < fuel →
      ∃ r t bad2, iterN (fun rc => pcode_reader_value_s1 (pcode_reader_value m) m rc kx kr) fuel (d, (c : Int), (l.length : Int), (o, ()), o23, l, (bi b, bad, ()), ()) = kx ((o, ()), o23, l ++ r, (bi t, bad2, ()), ()) ∧
        (bad2 = false → bad = false ∧ r.length = k ∧ (∀ x ∈ r, vOk x) ∧ (chks r (d + 1) = 0 → b = putLs r ++ t)) := by
  intro k
  induction k with
  | zero =>
    intro l b bad fuel hl hf
    obtain ⟨f, rfl⟩ : ∃ f, fuel = f + 1 := ⟨fuel - 1, by omega⟩
    have e : decide ((l.length : Int) < (c : Int)) = false := by rw [decide_eq_false_iff_not]; omega
    refine ⟨[], b, bad, ?_, fun h => ⟨h, rfl, fun _ h => (List.not_mem_nil h).elim, fun _ => rfl⟩⟩
    rw [iterN]
    simp only [pcode_reader_value_s1, Val.eta, e, cond_false, List.append_nil]
  | succ k ih =>
    intro l b bad fuel hl hf
    obtain ⟨f, rfl⟩ : ∃ f, fuel = f + 1 := ⟨fuel - 1, by omega⟩
    have e : decide ((l.length : Int) < (c : Int)) = true := by rw [decide_eq_true_iff]; omega
    simp only [iterN]
    by_cases hb : bad = true ∨ 6 < d
    · have e2 : (bad || decide (d > 6)) = true := by
        rcases hb with rfl | h
        · rfl
        · rw [decide_eq_true h, Bool.or_true]
      refine ⟨[], b, true, ?_, fun h => by cases h⟩
      simp only [pcode_reader_value_s1, Val.eta, e, e2, cond_true, List.append_nil]
    · have hb1 : bad = false := by cases bad <;> simp_all
      subst hb1
      have hd6 : d ≤ 6 := by omega
      have e2 : (false || decide (d > 6)) = false := by rw [decide_eq_false (by omega)]; rfl
      have e4 : IntKind.wrap .i64 (d + 1) = d + 1 := wrap64 (by omega) (by omega)
      obtain ⟨v, t, bad2, e5, h5⟩ := hs hd6 b
      have e3 : IntKind.wrap .i64 ((l.length : Int) + 1) = ((l ++ [v]).length : Int) := by rw [wrap64 (by omega) (by omega)]; simp
      obtain ⟨r, t2, bad3, e6, h6⟩ := ih (l ++ [v]) t bad2 f (by simp; omega) (by omega)
      refine ⟨v :: r, t2, bad3, ?_, fun h => ?_⟩
      · simp only [pcode_reader_value_s1, Val.eta, e, e2, e3, e4, e5, cond_true, cond_false, Option.bind_some]
        rw [ck_ok (room56 (by simp; omega)), e6]
        simp
      · obtain ⟨h7, h8, h9, h10⟩ := h6 h
        obtain ⟨g1, g2⟩ := h5 h7
        refine ⟨rfl, by simp [h8], fun x hx => ?_, fun hch => ?_⟩
        · rcases List.mem_cons.1 hx with rfl | hx
          · exact g1
          · exact h9 x hx
        · have h0 : ∀ x ∈ v :: r, chk x (d + 1) = 0 := chks_0 hch
          have h1 := g2 (h0 v (by simp))
          have h2 : chks r (d + 1) = 0 := by
            rw [chks, h0 v (by simp)] at hch
            exact hch
          rw [putLs, List.append_assoc, ← h10 h2, ← h1]

theorem vOk_mk (k n : Int) (s : ByteArray) (l : List Val) (hk : 0 ≤ k ∧ k ≤ 255) (hn : -9223372036854775808 ≤ n ∧ n ≤ 9223372036854775807) (hs : s.size ≤ 100000) (hl : l.length ≤ 100000) (h : ∀ x ∈ l, vOk x) : vOk (.mk k n s l) := by
  rw [vOk, vOks_iff]
  exact ⟨wfi (by omega) (by omega), wfi hn.1 hn.2, by unfold maxLen; omega, by unfold maxLen; omega, h⟩

theorem read_any : ∀ (n : Nat) (d : Int) (b : List UInt8), 1 ≤ d → d ≤ 7 → 310 ≤ n + d.toNat → Read n d b := by
  intro n
  induction n with
  | zero => intro d b h1 h2 h3; omega
  | succ m ih =>
    intro d b h1 h2 h3
    unfold Read
    rw [pcode_reader_value]
    unfold pcode_reader_value_b
    rcases take_any b 1 (by omega) with ⟨a, t, rfl, ha, e1⟩ | e1
    · match a, ha with
      | [c], _ =>
      rw [show ((1 : Nat) : Int) = 1 from rfl] at e1
      have hc := c.toNat_lt
      have ew : IntKind.wrap .i64 ((c.toNat : Nat) : Int) = (c.toNat : Int) := wrap64 (by omega) (by omega)
      simp only [e1, Option.bind_some, ix0, ew]
      by_cases c12 : c.toNat = 1 ∨ c.toNat = 2
      · -- numbers
        have e0 : ∃ r, r = (pcode_reader_take (8, (bi t, false, ()), ())).bind fun (y6, o7, _) => (code_numberOf m (y6, ())).bind fun (y8, _) => some ((Ev.Val.mk (c.toNat : Int) (IntKind.wrap .i64 (bxor .u64 y8 9223372036854775808)) (⟨#[]⟩ : ByteArray) ([] : List Ev.Val)), (o7.1, o7.2.1, ()), ()) := ⟨_, rfl⟩
        obtain ⟨r, hr⟩ := e0
        have goal : ∃ v t2 bad, r = some (v, (bi t2, bad, ()), ()) ∧ (bad = false → Gave ([c] ++ t) d v t2) := by
          rcases take_any t 8 (by omega) with ⟨a2, t2, rfl, ha2, e2⟩ | e2
          · rw [show ((8 : Nat) : Int) = 8 from rfl] at e2
            have e3 := numberOf_ok m a2 (by omega) (by omega)
            have hx : numN a2 0 < 2 ^ 64 := by have := numN_lt a2 0; rw [ha2] at this; omega
            have e4 := flip_back (numN a2 0) hx
            refine ⟨.mk (c.toNat : Int) ((numN a2 0 : Nat) - 9223372036854775808) ⟨#[]⟩ [], t2, false, ?_, fun _ => ⟨vOk_mk _ _ _ _ (by omega) (by omega) (by simp [ByteArray.size]) (by simp) (fun _ h => (List.not_mem_nil h).elim), fun _ => ?_⟩⟩
            · rw [hr]
              simp only [e2, e3, e4, Option.bind_some]
            · have e5 : ((numN a2 0 : Nat) : Int) - 9223372036854775808 + 9223372036854775808 = ((numN a2 0 : Nat) : Int) := by omega
              have e6 := numB_numN a2 8 ha2 (by omega)
              have e7 : UInt8.ofNat ((c.toNat : Int)).toNat = c := by simp
              rw [putL, if_pos (by omega), e5, e6, e7]
              simp
          · rw [show ((8 : Nat) : Int) = 8 from rfl] at e2
            have e3 := numberOf_ok m (List.replicate 8 0) (by omega) (by simp)
            exact ⟨.mk (c.toNat : Int) (IntKind.wrap .i64 (bxor .u64 ((numN (List.replicate 8 0) 0 : Nat) : Int) 9223372036854775808)) ⟨#[]⟩ [], t, true, by rw [hr]; simp only [e2, e3, Option.bind_some], fun h => by cases h⟩
        rcases c12 with h | h
        · rw [h] at hr ⊢
          rw [show ((((1 : Nat) : Int)) == 1) = true from rfl]
          simp only [cond_true]
          rw [h] at *
          exact hr ▸ goal
        · rw [h] at hr ⊢
          rw [show ((((2 : Nat) : Int)) == 1) = false from rfl, show ((((2 : Nat) : Int)) == 2) = true from rfl]
          simp only [cond_true, cond_false]
          exact hr ▸ goal
      · have hn1 : (((c.toNat : Nat) : Int) == 1) = false := by simp; omega
        have hn2 : (((c.toNat : Nat) : Int) == 2) = false := by simp; omega
        simp only [hn1, hn2, cond_false]
        by_cases c3 : c.toNat = 3
        · have e3 : (((c.toNat : Nat) : Int) == 3) = true := by rw [c3]; rfl
          simp only [e3, cond_true]
          rcases take_any t 2 (by omega) with ⟨a2, t2, rfl, ha2, e2⟩ | e2
          · rw [show ((2 : Nat) : Int) = 2 from rfl] at e2
            have e4 := numberOf_ok m a2 (by omega) (by omega)
            have hx : numN a2 0 < 65536 := by have := numN_lt a2 0; rw [ha2] at this; omega
            have e5 : IntKind.wrap .i64 ((numN a2 0 : Nat) : Int) = ((numN a2 0 : Nat) : Int) := wrap64 (by omega) (by omega)
            rcases take_any t2 (numN a2 0) (by omega) with ⟨s, t3, rfl, hs, e6⟩ | e6
            · simp only [e2, e4, e5, e6, Option.bind_some, str_ok, cond_false]
              have e7 : validN (⟨s.toArray⟩, ()) = some (validS ⟨s.toArray⟩, ()) := by
                unfold validN
                show (bif Nat.ble (⟨s.toArray⟩ : ByteArray).size 9223372036854775807 then some (validS ⟨s.toArray⟩, ()) else none) = _
                rw [Nat.ble_eq_true_of_le (by rw [size_mk]; omega)]
                rfl
              simp only [e7, Option.bind_some]
              refine ⟨_, t3, !validS ⟨s.toArray⟩, rfl, fun _ => ⟨vOk_mk _ _ _ _ (by omega) (by omega) (by rw [size_mk]; omega) (by simp) (fun _ h => (List.not_mem_nil h).elim), fun _ => ?_⟩⟩
              have e8 := numB_numN a2 2 ha2 (by omega)
              have e9 : c = 3 := UInt8.toNat_inj.1 c3
              rw [putL, if_neg (by omega), if_pos (by omega), size_mk, hs, e8, e9]
              simp
            · simp only [e2, e4, e5, e6, Option.bind_some, str_ok, cond_true]
              exact ⟨_, t2, true, rfl, fun h => by cases h⟩
          · rw [show ((2 : Nat) : Int) = 2 from rfl] at e2
            have e4 := numberOf_ok m (List.replicate 2 0) (by omega) (by simp)
            have e5 : IntKind.wrap .i64 ((numN (List.replicate 2 0) 0 : Nat) : Int) = ((0 : Nat) : Int) := by decide
            have e6 := take_bad t 0 (by omega)
            simp only [e2, e4, e5, e6, Option.bind_some, str_ok, cond_true]
            exact ⟨_, t, true, rfl, fun h => by cases h⟩
        · have e3 : (((c.toNat : Nat) : Int) == 3) = false := by simp; omega
          simp only [e3, cond_false]
          by_cases c4 : c.toNat = 4
          · have e4 : (((c.toNat : Nat) : Int) == 4) = true := by rw [c4]; rfl
            simp only [e4, cond_true]
            have hz : (310 : Nat) ≤ m + (d + 1).toNat := by omega
            rcases take_any t 1 (by omega) with ⟨a2, t2, rfl, ha2, e2⟩ | e2
            · match a2, ha2 with
              | [k], _ =>
              rw [show ((1 : Nat) : Int) = 1 from rfl] at e2
              have hk := k.toNat_lt
              have ek : IntKind.wrap .i64 ((k.toNat : Nat) : Int) = (k.toNat : Int) := wrap64 (by omega) (by omega)
              simp only [e2, Option.bind_some, ix0, ek]
              obtain ⟨r, t3, bad2, e5, h5⟩ := any_loop (ρ := Ev.Val × ((List Int) × Bool × Unit) × Unit) m d h2 h1 (.mk 0 0 ⟨#[]⟩ []) ((c.toNat : Int), 0, (⟨#[]⟩ : ByteArray), ()) k.toNat (by omega)
                (fun (o28, o29, o30, o31, _) => some ((Ev.Val.mk o29.1 o29.2.1 o29.2.2.1 o30), (o31.1, o31.2.1, ()), ())) (fun (_) => none) (fun h6 b => ih (d + 1) b (by omega) (by omega) hz) k.toNat [] t2 false m (by simp) (by omega)
              refine ⟨_, t3, bad2, e5, fun h => ?_⟩
              obtain ⟨_, h8, h9, h10⟩ := h5 h
              refine ⟨vOk_mk _ _ _ _ (by show 0 ≤ (c.toNat : Int) ∧ (c.toNat : Int) ≤ 255; omega) (by show -9223372036854775808 ≤ (0 : Int) ∧ (0 : Int) ≤ 9223372036854775807; omega) (by simp [ByteArray.size]) (by simp; omega) (by simpa using h9), fun hch => ?_⟩
              have e9 : c = 4 := UInt8.toNat_inj.1 c4
              simp only [List.nil_append] at hch ⊢
              have hch2 : chks r (d + 1) = 0 := by
                rw [chk, c4] at hch
                rw [show ((((4 : Nat)) : Int) == 0) = false from rfl, show ((((4 : Nat)) : Int) == 1) = false from rfl, show ((((4 : Nat)) : Int) == 2) = false from rfl, show ((((4 : Nat)) : Int) == 3) = false from rfl, show ((((4 : Nat)) : Int) == 4) = true from rfl] at hch
                simp only [cond_false, cond_true] at hch
                cases hq : decide ((r.length : Int) > 30) || decide (d > 6)
                · rw [hq] at hch
                  simp only [cond_false] at hch
                  cases hq2 : chks r (d + 1) != 0
                  · simpa using hq2
                  · rw [hq2] at hch; exact hch
                · rw [hq] at hch; cases hch
              rw [putL, if_neg (by omega), if_neg (by omega), if_pos (by omega), h8, h10 hch2, e9]
              simp
            · rw [show ((1 : Nat) : Int) = 1 from rfl] at e2
              simp only [e2, Option.bind_some]
              have ez : ix (bi (List.replicate 1 (0 : UInt8))) 0 = some ((((0 : UInt8)).toNat : Nat) : Int) := rfl
              simp only [ez, Option.bind_some]
              have ek : IntKind.wrap .i64 ((((0 : UInt8)).toNat : Nat) : Int) = (((0 : Nat)) : Int) := by decide
              simp only [ek]
              obtain ⟨r, t3, bad2, e5, h5⟩ := any_loop (ρ := Ev.Val × ((List Int) × Bool × Unit) × Unit) m d h2 h1 (.mk 0 0 ⟨#[]⟩ []) ((c.toNat : Int), 0, (⟨#[]⟩ : ByteArray), ()) 0 (by omega)
                (fun (o28, o29, o30, o31, _) => some ((Ev.Val.mk o29.1 o29.2.1 o29.2.2.1 o30), (o31.1, o31.2.1, ()), ())) (fun (_) => none) (fun h6 b => ih (d + 1) b (by omega) (by omega) hz) 0 [] t true m (by simp) (by omega)
              exact ⟨_, t3, bad2, e5, fun h => by have := (h5 h).1; cases this⟩
          · have e4 : (((c.toNat : Nat) : Int) == 4) = false := by simp; omega
            simp only [e4, cond_false]
            refine ⟨_, t, false, rfl, fun _ => ⟨vOk_mk _ _ _ _ (by omega) (by omega) (by simp [ByteArray.size]) (by simp) (fun _ h => (List.not_mem_nil h).elim), fun hch => ?_⟩⟩
            have h0 : c.toNat = 0 := by
              rw [chk, hn1, hn2, e3, e4] at hch
              cases hq : (((c.toNat : Nat) : Int) == 0)
              · rw [hq] at hch; cases hch
              · have : ((c.toNat : Nat) : Int) = 0 := by simpa using hq
                omega
            have e9 : c = 0 := UInt8.toNat_inj.1 h0
            rw [putL, if_neg (by omega), if_neg (by omega), if_neg (by omega), e9]
            rfl
    · rw [show ((1 : Nat) : Int) = 1 from rfl] at e1
      simp only [e1, Option.bind_some]
      have ez : ix (bi (List.replicate 1 (0 : UInt8))) 0 = some ((((0 : UInt8)).toNat : Nat) : Int) := rfl
      simp only [ez, Option.bind_some]
      exact ⟨_, b, true, rfl, fun h => by cases h⟩
end Pure

/- Several texts in one (merge.py). -/
import Derived.Test.YtohlmpgbpkeboaaDoorPLib
import Derived.Test.YtohlmpgbpkeboaaDoorEvBuild3
import Derived.Lib.MapLaws
import Derived.Lib.ValidLaws
import Derived.Test.YtohlmpgbpkeboaaDoorPA
import Derived.Test.YtohlmpgbpkeboaaDoorPS
/- Runes and numerals, written and read. No program. -/
namespace Pure
open Esp Ev Go
set_option linter.unusedSimpArgs false
set_option linter.unusedVariables false
set_option linter.unusedSimpArgs false
set_option linter.unusedVariables false

/-! ## numerals -/
theorem digits_ok (u : Nat) : ∀ c ∈ Lib.decDigits u, 48 ≤ c.toNat ∧ c.toNat ≤ 57 := by
  induction u using Nat.strongRecOn with
  | _ u ih =>
    intro c hc
    rw [Lib.decDigits] at hc
    split at hc
    · rename_i h
      have : c = UInt8.ofNat (48 + u) := by simpa using hc
      subst this
      rw [UInt8.toNat_ofNat']
      omega
    · rename_i h
      rcases List.mem_append.1 hc with hc | hc
      · exact ih (u / 10) (by omega) c hc
      · have : c = UInt8.ofNat (48 + u % 10) := by simpa using hc
        subst this
        rw [UInt8.toNat_ofNat']
        omega
theorem digits_ne (u : Nat) : Lib.decDigits u ≠ [] := by
  rw [Lib.decDigits]
  split
  · simp
  · simp
theorem digits_parse (u : Nat) : ∀ t, u < 18446744073709551616 → Lib.parseUint10 0 (Lib.decDigits u ++ t) = Lib.parseUint10 u t := by
  induction u using Nat.strongRecOn with
  | _ u ih =>
    intro t hu
    rw [Lib.decDigits]
    split
    · rename_i h
      rw [List.singleton_append, Lib.parseUint10]
      have e : (UInt8.ofNat (48 + u)).toNat = 48 + u := by rw [UInt8.toNat_ofNat']; omega
      rw [e, if_pos (by omega), if_neg (by omega), if_neg (by omega)]
      congr 1
      omega
    · rename_i h
      rw [List.append_assoc, ih (u / 10) (by omega) _ (by omega), List.singleton_append, Lib.parseUint10]
      have e : (UInt8.ofNat (48 + u % 10)).toNat = 48 + u % 10 := by rw [UInt8.toNat_ofNat']; omega
      rw [e, if_pos (by omega), if_neg (by omega), if_neg (by omega)]
      congr 1
      omega
theorem digits_mag (u : Nat) (hu : u < 18446744073709551616) : Lib.parseMag (Lib.decDigits u) = .ok u := by
  unfold Lib.parseMag
  rw [if_neg (digits_ne u)]
  have := digits_parse u [] hu
  rw [List.append_nil] at this
  rw [this, Lib.parseUint10]
theorem atoi_itoa (n : Int) (h0 : -9223372036854775808 ≤ n) (h1 : n ≤ 9223372036854775807) : Lib.atoiAll (Lib.itoa n) = .ok n := by
  unfold Lib.itoa
  split
  · rename_i h
    unfold Lib.atoiAll
    simp only
    rw [if_pos (.inr (by rfl)), digits_mag _ (by omega)]
    simp only
    rw [if_neg (by simp), if_neg (by simp; omega), if_pos (by rfl)]
    congr 1
    omega
  · rename_i h
    have hd := digits_ok n.toNat
    have hm := digits_mag n.toNat (by omega)
    unfold Lib.atoiAll
    cases hl : Lib.decDigits n.toNat with
    | nil => exact absurd hl (digits_ne _)
    | cons c r =>
      rw [hl] at hd hm
      have hc := hd c (by simp)
      simp only
      rw [if_neg (by omega), hm]
      simp only
      rw [if_neg (by omega), if_neg (by omega), if_neg (by omega)]
      congr 1
      omega
/-- of what a numeral is made: a sign, or none; then digits -/
theorem itoa_shape (n : Int) : ∃ (sg ds : List UInt8), Lib.itoa n = sg ++ ds ∧ (sg = [] ∨ sg = [45]) ∧ ds ≠ [] ∧ ∀ c ∈ ds, 48 ≤ c.toNat ∧ c.toNat ≤ 57 := by
  unfold Lib.itoa
  split
  · exact ⟨[45], _, rfl, .inr rfl, digits_ne _, digits_ok _⟩
  · exact ⟨[], _, rfl, .inl rfl, digits_ne _, digits_ok _⟩

/-! ## runes -/
theorem decN_any (n n' b0 b1 b2 b3 c1 c2 c3 r w : Nat) (h : Lib.decodeN n b0 b1 b2 b3 = (r, w)) (hv : ¬ (r = 65533 ∧ w = 1)) (hn : w ≤ n') (h1 : 2 ≤ w → c1 = b1) (h2 : 3 ≤ w → c2 = b2) (h3 : 4 ≤ w → c3 = b3) :
    Lib.decodeN n' b0 c1 c2 c3 = (r, w) := by
  unfold Lib.decodeN at h ⊢
  split at h
  · rename_i g; rw [if_pos g]; exact h
  · rename_i g
    rw [if_neg g]
    split at h
    · rename_i g2
      split at h
      · rename_i g3
        injection h with e1 e2
        have := h1 (by omega)
        subst this
        rw [if_pos ⟨g2.1, by omega, g2.2.2⟩, if_pos g3, e1, e2]
      · injection h with e1 e2; exact absurd ⟨e1.symm, e2.symm⟩ hv
    · rename_i g2
      split at h
      · rename_i g3
        split at h
        · rename_i g4
          injection h with e1 e2
          have := h1 (by omega)
          subst this
          have := h2 (by omega)
          subst this
          rw [if_neg (by omega), if_pos ⟨g3.1, ⟨by omega, g3.2.1.2⟩, by omega, g3.2.2.2⟩, if_pos g4, e1, e2]
        · injection h with e1 e2; exact absurd ⟨e1.symm, e2.symm⟩ hv
      · rename_i g3
        split at h
        · rename_i g4
          split at h
          · rename_i g5
            injection h with e1 e2
            have := h1 (by omega)
            subst this
            have := h2 (by omega)
            subst this
            have := h3 (by omega)
            subst this
            rw [if_neg (by omega), if_neg (by omega), if_pos ⟨g4.1, ⟨by omega, g4.2.1.2⟩, ⟨by omega, g4.2.2.1.2⟩, by omega, g4.2.2.2.2⟩, if_pos g5, e1, e2]
          · injection h with e1 e2; exact absurd ⟨e1.symm, e2.symm⟩ hv
        · injection h with e1 e2; exact absurd ⟨e1.symm, e2.symm⟩ hv
theorem decodeL_app (l t : List UInt8) (hne : l ≠ []) (hv : ¬ ((Lib.decodeL l).1 = 65533 ∧ (Lib.decodeL l).2 = 1)) : Lib.decodeL (l.take (Lib.decodeL l).2 ++ t) = Lib.decodeL l := by
  have hle := Lib.decodeL_le l hne
  generalize hw : Lib.decodeL l = d at *
  obtain ⟨r, w⟩ := d
  dsimp only at *
  rw [Lib.decodeL_N] at hw ⊢
  have hg : ∀ k, k < w → (l.take w ++ t).getD k 0 = l.getD k 0 := fun k hk => by
    simp only [List.getD]
    rw [List.getElem?_append_left (by rw [List.length_take]; omega), List.getElem?_take, if_pos hk]
  have hw1 : 1 ≤ w := by
    have := Lib.decodeN_ge1 l.length (l.getD 0 0).toNat (l.getD 1 0).toNat (l.getD 2 0).toNat (l.getD 3 0).toNat
    rw [hw] at this
    exact this
  rw [hg 0 (by omega)]
  exact decN_any _ _ _ _ _ _ _ _ _ r w hw hv (by rw [List.length_append, List.length_take]; omega) (fun h => by rw [hg 1 (by omega)]) (fun h => by rw [hg 2 (by omega)]) (fun h => by rw [hg 3 (by omega)])
/-- a text that is valid begins with a rune, and goes on valid -/
theorem valid_step {l : List UInt8} (h : Lib.validD l = true) (hne : l ≠ []) : ¬ ((Lib.decodeL l).1 = 65533 ∧ (Lib.decodeL l).2 = 1) ∧ Lib.validD (l.drop (Lib.decodeL l).2) = true := by
  rw [Lib.validD_step l hne] at h
  split at h
  · cases h
  · rename_i g; exact ⟨g, h⟩
theorem width1 (l : List UInt8) : 1 ≤ (Lib.decodeL l).2 := by rw [Lib.decodeL_N]; exact Lib.decodeN_ge1 _ _ _ _ _
/-- a rune below 128 is a byte; the byte of another is none below 128 -/
theorem rune_head (b : UInt8) (t : List UInt8) (hv : ¬ ((Lib.decodeL (b :: t)).1 = 65533 ∧ (Lib.decodeL (b :: t)).2 = 1)) : (b.toNat < 128 ∧ Lib.decodeL (b :: t) = (b.toNat, 1)) ∨ (128 ≤ b.toNat ∧ 128 ≤ (Lib.decodeL (b :: t)).1) := by
  by_cases h : b.toNat < 128
  · exact .inl ⟨h, Lib.decodeL_ascii b t h⟩
  · refine .inr ⟨by omega, ?_⟩
    rw [Lib.decodeL_N] at hv ⊢
    simp only [List.getD, List.getElem?_cons_zero, Option.getD_some] at hv ⊢
    unfold Lib.decodeN at hv ⊢
    rw [if_neg h] at hv ⊢
    split
    · split
      · simp only; omega
      · simp
    · split
      · split
        · simp only; omega
        · simp
      · split
        · split
          · simp only; omega
          · simp
        · simp
end Pure

/- How values are written, as bytes. No program. -/
namespace Pure
open Esp Ev Go
set_option linter.unusedSimpArgs false
set_option linter.unusedVariables false

/-- a byte between quotes -/
def eb (b : UInt8) : List UInt8 := bif (b == 39) || (b == 92) then [92, b] else bif b == 10 then [92, 110] else [b]
def esc : List UInt8 → List UInt8
  | [] => []
  | b :: l => eb b ++ esc l
theorem esc_app (l m : List UInt8) : esc (l ++ m) = esc l ++ esc m := by
  induction l with
  | nil => rfl
  | cons b l ih => rw [List.cons_append, esc, esc, ih, List.append_assoc]
theorem eb_len (b : UInt8) : 1 ≤ (eb b).length ∧ (eb b).length ≤ 2 := by
  unfold eb
  cases (b == 39) || (b == 92)
  · cases b == 10 <;> simp
  · simp
theorem esc_len (l : List UInt8) : (esc l).length ≤ 2 * l.length := by
  induction l with
  | nil => simp [esc]
  | cons b l ih => have := eb_len b; rw [esc, List.length_append, List.length_cons]; omega
theorem ne_of_nat {b c : UInt8} (h : b.toNat ≠ c.toNat) : (b == c) = false := by
  rw [beq_eq_false_iff_ne]; rintro rfl; exact h rfl
theorem eb_high {b : UInt8} (h : 128 ≤ b.toNat) : eb b = [b] := by
  unfold eb
  rw [ne_of_nat (show b.toNat ≠ (39 : UInt8).toNat by show _ ≠ 39; omega), ne_of_nat (show b.toNat ≠ (92 : UInt8).toNat by show _ ≠ 92; omega), ne_of_nat (show b.toNat ≠ (10 : UInt8).toNat by show _ ≠ 10; omega)]
  rfl
theorem esc_high {l : List UInt8} (h : ∀ b ∈ l, 128 ≤ b.toNat) : esc l = l := by
  induction l with
  | nil => rfl
  | cons b l ih => rw [esc, eb_high (h b (by simp)), ih fun c hc => h c (by simp [hc])]; rfl
/-- a rune that is no byte: all its bytes are none below 128 -/
theorem rune_bytes (l : List UInt8) (hne : l ≠ []) (hv : ¬ ((Lib.decodeL l).1 = 65533 ∧ (Lib.decodeL l).2 = 1)) (h : 128 ≤ (Lib.decodeL l).1) : ∀ c ∈ l.take (Lib.decodeL l).2, 128 ≤ c.toNat := by
  have key : ∀ k, k < (Lib.decodeL l).2 → 128 ≤ (l.getD k 0).toNat := by
    rw [Lib.decodeL_N] at hv h ⊢
    unfold Lib.decodeN at hv h ⊢
    intro k hk
    by_cases g0 : (l.getD 0 0).toNat < 128
    · rw [if_pos g0] at h; simp only at h; omega
    rw [if_neg g0] at hv h hk
    split at hk
    · rename_i g; rw [if_pos g] at hv h
      split at hk
      · rename_i g2
        simp only at hk
        have : k = 0 ∨ k = 1 := by omega
        rcases this with rfl | rfl <;> omega
      · rename_i g2; rw [if_neg g2] at hv; exact absurd ⟨rfl, rfl⟩ hv
    · rename_i g; rw [if_neg g] at hv h
      split at hk
      · rename_i g; rw [if_pos g] at hv h
        split at hk
        · rename_i g2
          simp only at hk
          have : k = 0 ∨ k = 1 ∨ k = 2 := by omega
          rcases this with rfl | rfl | rfl <;> omega
        · rename_i g2; rw [if_neg g2] at hv; exact absurd ⟨rfl, rfl⟩ hv
      · rename_i g; rw [if_neg g] at hv h
        split at hk
        · rename_i g; rw [if_pos g] at hv h
          split at hk
          · rename_i g2
            simp only at hk
            have : k = 0 ∨ k = 1 ∨ k = 2 ∨ k = 3 := by omega
            rcases this with rfl | rfl | rfl | rfl <;> omega
          · rename_i g2; rw [if_neg g2] at hv; exact absurd ⟨rfl, rfl⟩ hv
        · rename_i g; rw [if_neg g] at hv; exact absurd ⟨rfl, rfl⟩ hv
  intro c hc
  obtain ⟨k, hk, rfl⟩ := List.getElem_of_mem hc
  rw [List.length_take] at hk
  have := key k (by omega)
  rw [List.getElem_take]
  rw [List.getD_eq_getElem?_getD, List.getElem?_eq_getElem (by omega)] at this
  exact this
/-- the first rune of what is valid, as it is written -/
theorem esc_rune (l : List UInt8) (hne : l ≠ []) (hv : ¬ ((Lib.decodeL l).1 = 65533 ∧ (Lib.decodeL l).2 = 1)) (h : 128 ≤ (Lib.decodeL l).1) : esc l = l.take (Lib.decodeL l).2 ++ esc (l.drop (Lib.decodeL l).2) := by
  conv => lhs; rw [← List.take_append_drop (Lib.decodeL l).2 l, esc_app, esc_high (rune_bytes l hne hv h)]
mutual
/-- a value as it is written -/
def prV : Val → List UInt8
  | .mk k n s l => bif k == 0 then [110, 117, 108, 108] else bif k == 1 then (bif n == 1 then [116, 114, 117, 101] else [102, 97, 108, 115, 101]) else bif k == 2 then Lib.itoa n else bif k == 3 then 39 :: (esc s.data.toList ++ [39]) else bif k == 4 then 91 :: (prL l ++ [93]) else []
def prL : List Val → List UInt8
  | [] => []
  | x :: r => prV x ++ prT r
def prT : List Val → List UInt8
  | [] => []
  | x :: r => 44 :: (prV x ++ prT r)
end
end Pure

/- Values are written: the plain part. No program. -/
namespace Pure
open Esp Ev Go
set_option linter.unusedSimpArgs false
set_option linter.unusedVariables false

theorem or192 (x : Int) (h0 : 0 ≤ x) (h1 : x < 32) : bor .u8 192 x = 192 + x := by
  have : ∀ i : Fin 32, bor .u8 192 (i.val : Int) = 192 + (i.val : Int) := by decide +kernel
  have := this ⟨x.toNat, by omega⟩
  rw [show ((⟨x.toNat, by omega⟩ : Fin 32).val : Int) = x by show ((x.toNat : Nat) : Int) = x; omega] at this
  exact this
theorem or224 (x : Int) (h0 : 0 ≤ x) (h1 : x < 16) : bor .u8 224 x = 224 + x := by
  have : ∀ i : Fin 16, bor .u8 224 (i.val : Int) = 224 + (i.val : Int) := by decide +kernel
  have := this ⟨x.toNat, by omega⟩
  rw [show ((⟨x.toNat, by omega⟩ : Fin 16).val : Int) = x by show ((x.toNat : Nat) : Int) = x; omega] at this
  exact this
theorem or240 (x : Int) (h0 : 0 ≤ x) (h1 : x < 8) : bor .u8 240 x = 240 + x := by
  have : ∀ i : Fin 8, bor .u8 240 (i.val : Int) = 240 + (i.val : Int) := by decide +kernel
  have := this ⟨x.toNat, by omega⟩
  rw [show ((⟨x.toNat, by omega⟩ : Fin 8).val : Int) = x by show ((x.toNat : Nat) : Int) = x; omega] at this
  exact this
theorem or128 (x : Int) (h0 : 0 ≤ x) (h1 : x < 64) : bor .u8 128 x = 128 + x := by
  have : ∀ i : Fin 64, bor .u8 128 (i.val : Int) = 128 + (i.val : Int) := by decide +kernel
  have := this ⟨x.toNat, by omega⟩
  rw [show ((⟨x.toNat, by omega⟩ : Fin 64).val : Int) = x by show ((x.toNat : Nat) : Int) = x; omega] at this
  exact this
theorem and63 (x : Int) (h0 : 0 ≤ x) (h1 : x < 256) : band .u8 x 63 = x % 64 := by
  have : ∀ i : Fin 256, band .u8 (i.val : Int) 63 = (i.val : Int) % 64 := by decide +kernel
  have := this ⟨x.toNat, by omega⟩
  rw [show ((⟨x.toNat, by omega⟩ : Fin 256).val : Int) = x by show ((x.toNat : Nat) : Int) = x; omega] at this
  exact this
theorem wu8 (x : Int) : IntKind.wrap .u8 x = x % 256 := by
  simp only [IntKind.wrap, IntKind.bits, IntKind.signed]
  simp
theorem wu32 {x : Int} (h0 : 0 ≤ x) (h1 : x ≤ 1114111) : IntKind.wrap .u32 x = x := by
  simp only [IntKind.wrap, IntKind.bits, IntKind.signed]
  simp
  omega
theorem shr6 (r : Int) (h : 0 ≤ r) : bshr .i32 r 6 = r / 64 := by
  show r.fdiv (2 ^ 6) = _
  rw [Int.fdiv_eq_ediv_of_nonneg _ (by decide)]; rfl
theorem shr12 (r : Int) (h : 0 ≤ r) : bshr .i32 r 12 = r / 4096 := by
  show r.fdiv (2 ^ 12) = _
  rw [Int.fdiv_eq_ediv_of_nonneg _ (by decide)]; rfl
theorem shr18 (r : Int) (h : 0 ≤ r) : bshr .i32 r 18 = r / 262144 := by
  show r.fdiv (2 ^ 18) = _
  rw [Int.fdiv_eq_ediv_of_nonneg _ (by decide)]; rfl
theorem tailB (x : Int) (h : 0 ≤ x) : bor .u8 128 (band .u8 (IntKind.wrap .u8 x) 63) = 128 + x % 64 := by
  rw [wu8, and63 _ (by omega) (by omega), or128 _ (by omega) (by omega)]
  omega
/-- a rune's bytes, as numbers -/
theorem enc_bi (r : Int) : bi (Lib.encodeRune r) = Lib.encodeRuneZ r := by
  have h := Lib.encodeRuneZ_byte r
  unfold Lib.encodeRune bi
  rw [List.map_map]
  conv => rhs; rw [← List.map_id (Lib.encodeRuneZ r)]
  apply List.map_congr_left
  intro x hx
  have := h x hx
  show ((x.toNat.toUInt8).toNat : Int) = x
  rw [show x.toNat.toUInt8 = UInt8.ofNat x.toNat from rfl, UInt8.toNat_ofNat']
  omega
theorem appRune_ok (r : Int) (o : List Int) (h0 : 0 ≤ r) (h1 : r ≤ 1114111) (ho : o.length ≤ 100000000000000) : unicode_utf8_AppendRune (r, o, ()) = some (o ++ Lib.encodeRuneZ r, ()) := by
  have hroom : ∀ l : List Int, l.length ≤ 4 → room (o ++ l).length 1 = true := fun l hl => room1 (by rw [List.length_append]; omega)
  unfold unicode_utf8_AppendRune unicode_utf8_appendRuneNonASCII
  simp only [wu32 h0 h1, shr6 r h0, shr12 r h0, shr18 r h0, tailB r h0, tailB (r / 64) (by omega), tailB (r / 4096) (by omega)]
  by_cases c0 : r ≤ 127
  · rw [decide_eq_true c0, cond_true, ck_ok (hroom _ (by simp)), Lib.encodeRuneZ_one h0 c0, wrapU8 h0 (by omega)]
  rw [decide_eq_false c0, cond_false]
  by_cases c1 : r ≤ 2047
  · rw [decide_eq_true c1, cond_true, ck_ok (hroom _ (by simp)), Lib.encodeRuneZ_two (by omega) c1, wrapU8 (by omega) (by omega), or192 _ (by omega) (by omega)]
    rfl
  rw [decide_eq_false c1, cond_false]
  by_cases c2 : r < 55296
  · rw [decide_eq_true c2, cond_true, cond_true, ck_ok (hroom _ (by simp)), Lib.encodeRuneZ_three (.inl ⟨by omega, c2⟩), wrapU8 (by omega) (by omega), or224 _ (by omega) (by omega)]
    rfl
  rw [decide_eq_false c2, cond_false]
  by_cases c3 : r ≤ 57343
  · rw [decide_eq_false (show ¬ (57343 : Int) < r by omega), Bool.false_and, cond_false, decide_eq_false (show ¬ r > 65535 by omega), Bool.false_and, cond_false, ck_ok (hroom _ (by simp)), Lib.encodeRuneZ_bad (.inr (.inl ⟨by omega, c3⟩))]
    rfl
  rw [decide_eq_true (show (57343 : Int) < r by omega), Bool.true_and]
  by_cases c4 : r ≤ 65535
  · rw [decide_eq_true c4, cond_true, ck_ok (hroom _ (by simp)), Lib.encodeRuneZ_three (.inr ⟨by omega, c4⟩), wrapU8 (by omega) (by omega), or224 _ (by omega) (by omega)]
    rfl
  rw [decide_eq_false c4, cond_false, decide_eq_true (show r > 65535 by omega), decide_eq_true h1, Bool.true_and, cond_true, ck_ok (hroom _ (by simp)), Lib.encodeRuneZ_four (by omega) h1, wrapU8 (by omega) (by omega), or240 _ (by omega) (by omega)]
  rfl
/-! ## what is written -/
theorem wByte (m : List UInt8) (c : UInt8) (i : Int) (hi : i = (c.toNat : Int)) (hm : m.length ≤ 100000000000000) : pstrings_Builder_WriteByte (i, (), bi m, ()) = some ((), bi (m ++ [c]), ()) := by
  subst hi
  unfold pstrings_Builder_WriteByte copyCheckN
  have e : bi m ++ ([(c.toNat : Int)] : List Int) = bi (m ++ [c]) := by rw [bi_app]; rfl
  simp only [Option.bind_some, e]
  rw [ck_ok (room1 (by rw [bi_length, List.length_append, List.length_singleton]; omega))]
theorem wStr (m : List UInt8) (s : ByteArray) (hm : m.length ≤ 100000000000000) (hs : s.size ≤ 10000) : pstrings_Builder_WriteString (s, (), bi m, ()) = some ((s.size : Int), (), bi (m ++ s.data.toList), ()) := by
  unfold pstrings_Builder_WriteString copyCheckN
  have e : bi m ++ bytesI s = bi (m ++ s.data.toList) := by rw [bi_app]; rfl
  simp only [Option.bind_some, e]
  rw [ck_ok (room1 (by rw [bi_length, List.length_append]; have : s.data.toList.length = s.size := rfl; omega))]
theorem wRune (m : List UInt8) (r : Int) (h0 : 0 ≤ r) (h1 : r ≤ 1114111) (hm : m.length ≤ 100000000000000) : ∃ y, pstrings_Builder_WriteRune (r, (), bi m, ()) = some (y, (), bi (m ++ Lib.encodeRune r), ()) := by
  unfold pstrings_Builder_WriteRune copyCheckN
  have e := appRune_ok r (bi m) h0 h1 (by rw [bi_length]; exact hm)
  rw [← enc_bi, ← bi_app] at e
  simp only [Option.bind_some, e]
  exact ⟨_, rfl⟩
theorem decodeL_lt (l : List UInt8) : (Lib.decodeL l).1 ≤ 1114111 := by
  rw [Lib.decodeL_N]
  have k0 := (l.getD 0 0).toNat_lt
  unfold Lib.decodeN
  repeat' split
  all_goals simp only
  all_goals omega
end Pure

/- Values are written: what it gives. No program. -/
namespace Pure
open Esp Ev Go
set_option linter.unusedSimpArgs false
set_option linter.unusedVariables false

theorem bif_eq_of {α : Type} {b c : Bool} (h : b = c) (x y : α) : (bif b then x else y) = bif c then x else y := by rw [h]
/-- one rune of a text -/
theorem tell_round {ρ : Type} (self : Val × Unit × (List Int) × Unit → Option (Unit × (List Int) × Unit)) (n : Nat) (rec : (ByteArray × Nat) × Unit × (List Int) × Unit → Option ρ) (kx : Unit × (List Int) × Unit → Option ρ) (kr : Unit → Option ρ)
    (s : ByteArray) (pos : Nat) (b : UInt8) (t m : List UInt8) (ht : s.data.toList.drop pos = b :: t) (hv : ¬ ((Lib.decodeL (b :: t)).1 = 65533 ∧ (Lib.decodeL (b :: t)).2 = 1)) (hm : m.length ≤ 100000000000000 - 10) :
    ∃ e, esc (b :: t) = e ++ esc ((b :: t).drop (Lib.decodeL (b :: t)).2) ∧ value_tell_s1 self n rec kx kr ((s, pos), (), bi m, ()) = rec ((s, pos + (Lib.decodeL (b :: t)).2), (), bi (m ++ e), ()) := by
  have hd : Utf8.decode s pos = Lib.decodeL (b :: t) := by rw [← ht, Lib.decodeL_drop]
  have hlt : Nat.blt pos s.size = true := by
    rw [Nat.blt_eq]
    have h1 := congrArg List.length ht
    rw [List.length_drop, List.length_cons] at h1
    have h2 : s.data.toList.length = s.size := rfl
    omega
  have hr := rune_head b t hv
  have hle := decodeL_lt (b :: t)
  have hen := Lib.encode_decode (b :: t) (by simp) hv
  obtain ⟨⟨r, w⟩, hdr⟩ : ∃ d, Lib.decodeL (b :: t) = d := ⟨_, rfl⟩
  rw [hdr] at hr hv hle hen
  dsimp only at hr hle hen ⊢
  have hR : ∀ (m : List UInt8), m.length ≤ 100000000000000 → ∃ y, pstrings_Builder_WriteRune ((r : Int), (), bi m, ()) = some (y, (), bi (m ++ (b :: t).take w), ()) := fun m hm => by
    have := wRune m (r : Int) (by omega) (by omega) hm
    rwa [hen] at this
  unfold value_tell_s1
  simp only [hlt, hd, hdr, cond_true]
  rcases hr with ⟨hb, he⟩ | ⟨hb, he⟩
  · obtain ⟨rfl, rfl⟩ : r = b.toNat ∧ w = 1 := by injection he with h1 h2; exact ⟨h1, h2⟩
    by_cases c39 : b = 39
    · subst c39
      refine ⟨[92, 39], rfl, ?_⟩
      obtain ⟨y, hy⟩ := hR (m ++ [92]) (by rw [List.length_append, List.length_singleton]; omega)
      have e0 : (((39 : UInt8).toNat : Int) == 39) = true := by decide
      simp only [e0, cond_true, wByte m 92 92 rfl (by omega), Option.bind_some, hy]
      rw [List.append_assoc]; rfl
    · have e0 : ((b.toNat : Int) == 39) = false := by rw [beq_eq_false_iff_ne]; intro h; apply c39; apply UInt8.toNat_inj.1; show b.toNat = 39; omega
      by_cases c92 : b = 92
      · subst c92
        refine ⟨[92, 92], rfl, ?_⟩
        obtain ⟨y, hy⟩ := hR (m ++ [92]) (by rw [List.length_append, List.length_singleton]; omega)
        have e1 : (((92 : UInt8).toNat : Int) == 92) = true := by decide
        simp only [e0, e1, cond_true, cond_false, wByte m 92 92 rfl (by omega), Option.bind_some, hy]
        rw [List.append_assoc]; rfl
      · have e1 : ((b.toNat : Int) == 92) = false := by rw [beq_eq_false_iff_ne]; intro h; apply c92; apply UInt8.toNat_inj.1; show b.toNat = 92; omega
        by_cases c10 : b = 10
        · subst c10
          refine ⟨[92, 110], rfl, ?_⟩
          obtain ⟨y, hy⟩ := wRune (m ++ [92]) 110 (by omega) (by omega) (by rw [List.length_append, List.length_singleton]; omega)
          have e2 : (((10 : UInt8).toNat : Int) == 10) = true := by decide
          simp only [e0, e1, e2, cond_true, cond_false, wByte m 92 92 rfl (by omega), Option.bind_some, hy]
          rw [List.append_assoc]; rfl
        · have e2 : ((b.toNat : Int) == 10) = false := by rw [beq_eq_false_iff_ne]; intro h; apply c10; apply UInt8.toNat_inj.1; show b.toNat = 10; omega
          refine ⟨[b], ?_, ?_⟩
          · rw [esc]
            have : eb b = [b] := by
              unfold eb
              rw [beq_eq_false_iff_ne.2 c39, beq_eq_false_iff_ne.2 c92, beq_eq_false_iff_ne.2 c10]
              rfl
            rw [this]
            rfl
          · obtain ⟨y, hy⟩ := hR m (by omega)
            simp only [e0, e1, e2, cond_false, Option.bind_some, hy]
            rfl
  · have e0 : ((r : Int) == 39) = false := by rw [beq_eq_false_iff_ne]; omega
    have e1 : ((r : Int) == 92) = false := by rw [beq_eq_false_iff_ne]; omega
    have e2 : ((r : Int) == 10) = false := by rw [beq_eq_false_iff_ne]; omega
    have hesc := esc_rune (b :: t) (by simp) (by rw [hdr]; exact hv) (by rw [hdr]; exact he)
    rw [hdr] at hesc
    refine ⟨(b :: t).take w, hesc, ?_⟩
    obtain ⟨y, hy⟩ := hR m (by omega)
    simp only [e0, e1, e2, cond_false, Option.bind_some, hy]
theorem tell_text {ρ : Type} (self : Val × Unit × (List Int) × Unit → Option (Unit × (List Int) × Unit)) (n : Nat) (kx : Unit × (List Int) × Unit → Option ρ) (kr : Unit → Option ρ) (s : ByteArray) :
    ∀ (k : Nat) (t m : List UInt8) (pos fuel : Nat), t.length ≤ k → s.data.toList.drop pos = t → Lib.validD t = true → k < fuel → m.length + (esc t).length ≤ 100000000000000 - 10 →
      iterN (fun rc => value_tell_s1 self n rc kx kr) fuel ((s, pos), (), bi m, ()) = kx ((), bi (m ++ esc t), ()) := by
  intro k
  induction k with
  | zero =>
    intro t m pos fuel hk ht hv hf hm
    obtain ⟨f, rfl⟩ : ∃ f, fuel = f + 1 := ⟨fuel - 1, by omega⟩
    obtain rfl : t = [] := List.length_eq_zero_iff.1 (by omega)
    exact last n s pos f m ht
  | succ k ih =>
    intro t m pos fuel hk ht hv hf hm
    obtain ⟨f, rfl⟩ : ∃ f, fuel = f + 1 := ⟨fuel - 1, by omega⟩
    cases t with
    | nil => exact last n s pos f m ht
    | cons b t =>
      obtain ⟨h1, h2⟩ := valid_step hv (by simp)
      have hw := width1 (b :: t)
      obtain ⟨e, he, hr⟩ := tell_round self n (iterN (fun rc => value_tell_s1 self n rc kx kr) f) kx kr s pos b t m ht h1 (by omega)
      rw [iterN, hr]
      have hl := congrArg List.length he
      rw [List.length_append] at hl
      rw [ih ((b :: t).drop (Lib.decodeL (b :: t)).2) (m ++ e) _ f (by rw [List.length_drop]; omega) (by rw [← ht, List.drop_drop]) h2 (by omega) (by rw [List.length_append]; omega), he, List.append_assoc]
where
  last (n : Nat) (s : ByteArray) (pos f : Nat) (m : List UInt8) (ht : s.data.toList.drop pos = []) : iterN (fun rc => value_tell_s1 self n rc kx kr) (f + 1) ((s, pos), (), bi m, ()) = kx ((), bi (m ++ esc []), ()) := by
    have hlt : Nat.blt pos s.size = false := by
      rw [Bool.eq_false_iff, ne_eq, Nat.blt_eq]
      have h1 := congrArg List.length ht
      rw [List.length_drop, List.length_nil] at h1
      have h2 : s.data.toList.length = s.size := rfl
      omega
    rw [iterN]
    unfold value_tell_s1
    simp only [hlt, cond_false, esc, List.append_nil]
theorem tell_fold {ρ : Type} (self : Val × Unit × (List Int) × Unit → Option (Unit × (List Int) × Unit)) (n : Nat) (kr : Unit → Option ρ) (k : Unit × (List Int) × Unit → Option ρ) (C : Nat) :
    ∀ (r : List Val) (i : Int) (m : List UInt8), 0 < i → (∀ x ∈ r, (prV x).length ≤ C ∧ ∀ m : List UInt8, m.length + C ≤ 100000000000000 - 100 → self (x, (), bi m, ()) = some ((), bi (m ++ prV x), ())) → m.length + r.length * (C + 1) ≤ 100000000000000 - 100 →
      foldK (F_value_tell_s4 self n kr) k i r ((), bi m, ()) = k ((), bi (m ++ prT r), ()) := by
  intro r
  induction r with
  | nil => intro i m _ _ _; rw [foldK, prT, List.append_nil]
  | cons x r ih =>
    intro i m hi hs hm
    obtain ⟨h1, h2⟩ := hs x (by simp)
    rw [List.length_cons, Nat.succ_mul] at hm
    have := ih (i + 1) (m ++ [44] ++ prV x) (by omega) (fun y hy => hs y (by simp [hy])) (by simp only [List.length_append, List.length_singleton]; omega)
    rw [foldK]
    generalize foldK (F_value_tell_s4 self n kr) k (i + 1) r = K at this ⊢
    unfold F_value_tell_s4
    simp only [decide_eq_true (show i > 0 from hi), cond_true, wByte m 44 44 rfl (by omega), Option.bind_some, Val.eta]
    rw [h2 (m ++ [44]) (by rw [List.length_append, List.length_singleton]; omega)]
    simp only [Option.bind_some]
    refine this.trans ?_
    rw [prT]
    simp
theorem tell_fold0 {ρ : Type} (self : Val × Unit × (List Int) × Unit → Option (Unit × (List Int) × Unit)) (n : Nat) (kr : Unit → Option ρ) (k : Unit × (List Int) × Unit → Option ρ) (C : Nat)
    (r : List Val) (m : List UInt8) (hs : ∀ x ∈ r, (prV x).length ≤ C ∧ ∀ m : List UInt8, m.length + C ≤ 100000000000000 - 100 → self (x, (), bi m, ()) = some ((), bi (m ++ prV x), ())) (hm : m.length + r.length * (C + 1) ≤ 100000000000000 - 100) :
      foldK (F_value_tell_s4 self n kr) k 0 r ((), bi m, ()) = k ((), bi (m ++ prL r), ()) := by
  cases r with
  | nil => rw [foldK, prL, List.append_nil]
  | cons x r =>
    obtain ⟨h1, h2⟩ := hs x (by simp)
    rw [List.length_cons, Nat.succ_mul] at hm
    have := tell_fold self n kr k C r (0 + 1) (m ++ prV x) (by omega) (fun y hy => hs y (by simp [hy])) (by simp only [List.length_append]; omega)
    rw [foldK]
    have e0 : decide ((0 : Int) > 0) = false := by decide
    generalize foldK (F_value_tell_s4 self n kr) k (0 + 1) r = K at this ⊢
    unfold F_value_tell_s4
    simp only [e0, cond_false, Val.eta]
    rw [h2 m (by omega)]
    simp only [Option.bind_some]
    refine this.trans ?_
    rw [prL, List.append_assoc]
theorem prT_len {C : Nat} : ∀ {l : List Val}, (∀ x ∈ l, (prV x).length ≤ C) → (prT l).length ≤ l.length * (C + 1)
  | [], _ => by simp [prT]
  | x :: r, h => by
    have h1 := h x (by simp)
    have h2 := prT_len (C := C) (l := r) fun y hy => h y (by simp [hy])
    rw [prT, List.length_cons, List.length_append, List.length_cons, Nat.succ_mul]
    omega
theorem prL_len {C : Nat} {l : List Val} (h : ∀ x ∈ l, (prV x).length ≤ C) : (prL l).length ≤ l.length * (C + 1) := by
  cases l with
  | nil => simp [prL]
  | cons x r =>
    have h1 := h x (by simp)
    have h2 := prT_len (C := C) (l := r) fun y hy => h y (by simp [hy])
    rw [prL, List.length_append, List.length_cons, Nat.succ_mul]
    omega
/-- room for a value so deep -/
def capV (d : Int) : Nat := 8002 * 32 ^ (7 - d).toNat
theorem capV_le {d : Int} (h : 1 ≤ d) : 8002 ≤ capV d ∧ capV d ≤ 8600000000000 := by
  unfold capV
  have h1 : 1 ≤ 32 ^ (7 - d).toNat := Nat.one_le_pow _ _ (by decide)
  have h2 : 32 ^ (7 - d).toNat ≤ 32 ^ 6 := Nat.pow_le_pow_right (by decide) (by omega)
  omega
theorem capV_step {d : Int} (h : d ≤ 6) : capV d = 32 * capV (d + 1) := by
  unfold capV
  rw [show (7 - d).toNat = (7 - (d + 1)).toNat + 1 by omega, Nat.pow_succ]
  omega
theorem digits_len : ∀ (k u : Nat), u < 10 ^ (k + 1) → (Lib.decDigits u).length ≤ k + 1
  | k, u, h => by
    rw [Lib.decDigits]
    split
    · simp
    · rename_i g
      cases k with
      | zero => simp at h; omega
      | succ k =>
        have := digits_len k (u / 10) (by rw [Nat.pow_succ] at h; omega)
        rw [List.length_append, List.length_singleton]
        omega
theorem itoa_len (n : Int) (h : wfI .i64 n) : (Lib.itoa n).length ≤ 8000 := by
  have h0 := i64_range h
  unfold Lib.itoa
  split
  · have := digits_len 20 n.natAbs (by omega)
    rw [List.length_cons]
    omega
  · have := digits_len 20 n.toNat (by omega)
    omega
theorem prV_len (v : Val) : ∀ d, Right v d → 1 ≤ d → d ≤ 7 → (prV v).length ≤ capV d := by
  induction v using val_ind with
  | _ k a s l ih =>
    intro d hr h1 h7
    have hc := capV_le h1
    cases hr with
    | null d => rw [prV]; simp; omega
    | truth n d h => rw [prV]; rcases h with rfl | rfl <;> (simp; omega)
    | int n d h =>
      rw [prV]
      show (Lib.itoa a).length ≤ _
      have := itoa_len a h
      omega
    | text s d h hv =>
      rw [prV]
      show (39 :: (esc s.data.toList ++ [39])).length ≤ _
      have := esc_len s.data.toList
      have h2 : s.data.toList.length = s.size := rfl
      rw [List.length_cons, List.length_append, List.length_singleton]
      omega
    | list l d h30 h6 h =>
      rw [prV]
      show (91 :: (prL l ++ [93])).length ≤ _
      have h2 := prL_len (C := capV (d + 1)) fun x hx => ih x hx (d + 1) (h x hx) (by omega) (by omega)
      have h3 := capV_step h6
      have h4 := capV_le (d := d + 1) (by omega)
      have h5 : l.length * (capV (d + 1) + 1) ≤ 30 * (capV (d + 1) + 1) := Nat.mul_le_mul_right _ h30
      rw [List.length_cons, List.length_append, List.length_singleton]
      omega
theorem itoaN_eq {n : Int} (h : wfI .i64 n) : itoaN (n, ()) = some (⟨(Lib.itoa n).toArray⟩, ()) := by
  have := i64_range h
  unfold itoaN
  show (bif decide (-9223372036854775808 ≤ n) && decide (n ≤ 9223372036854775807) then _ else _) = _
  rw [decide_eq_true this.1, decide_eq_true this.2]
  rfl
theorem tell_ok (v : Val) : ∀ (d : Int) (n : Nat) (m : List UInt8), Right v d → 1 ≤ d → d ≤ 7 → 5010 ≤ n + d.toNat → m.length + capV d ≤ 100000000000000 - 100 → value_tell n (v, (), bi m, ()) = some ((), bi (m ++ prV v), ()) := by
  induction v using val_ind with
  | _ k a s l ih =>
    intro d n m hr h1 h7 hn hm
    obtain ⟨f, rfl⟩ : ∃ f, n = f + 1 := ⟨n - 1, by omega⟩
    have hc := capV_le h1
    rw [value_tell]
    have e0 : ((0 : Int) == 0) = true := rfl
    have e10 : ((1 : Int) == 0) = false := rfl
    have e11 : ((1 : Int) == 1) = true := rfl
    have e20 : ((2 : Int) == 0) = false := rfl
    have e21 : ((2 : Int) == 1) = false := rfl
    have e22 : ((2 : Int) == 2) = true := rfl
    have e30 : ((3 : Int) == 0) = false := rfl
    have e31 : ((3 : Int) == 1) = false := rfl
    have e32 : ((3 : Int) == 2) = false := rfl
    have e33 : ((3 : Int) == 3) = true := rfl
    have e40 : ((4 : Int) == 0) = false := rfl
    have e41 : ((4 : Int) == 1) = false := rfl
    have e42 : ((4 : Int) == 2) = false := rfl
    have e43 : ((4 : Int) == 3) = false := rfl
    have e44 : ((4 : Int) == 4) = true := rfl
    simp only [value_tell_b]
    cases hr with
    | null d =>
      rw [prV]
      dsimp +instances only [kind_mk, n_mk, s_mk, l_mk]
      rw [e0, cond_true]
      rw [wStr m _ (by omega) (by decide)]
      rfl
    | truth n d h =>
      rcases h with rfl | rfl
      · have eF : strconv_FormatBool ((0 : Int) == 1, ()) = some (⟨#[102, 97, 108, 115, 101]⟩, ()) := rfl
        dsimp +instances only [kind_mk, n_mk, s_mk, l_mk]
        rw [e10, cond_false, e11, cond_true, eF, Option.bind_some]
        dsimp only
        rw [wStr m _ (by omega) (by decide)]
        rw [prV]
        rfl
      · have eF : strconv_FormatBool ((1 : Int) == 1, ()) = some (⟨#[116, 114, 117, 101]⟩, ()) := rfl
        dsimp +instances only [kind_mk, n_mk, s_mk, l_mk]
        rw [eF, e10, cond_false, e11, cond_true, Option.bind_some]
        dsimp only
        rw [wStr m _ (by omega) (by decide)]
        rw [prV]
        rfl
    | int n d h =>
      dsimp +instances only [kind_mk, n_mk, s_mk, l_mk]
      rw [e20, cond_false, e21, cond_false, e22, cond_true, itoaN_eq h, Option.bind_some]
      dsimp only
      have hl := itoa_len a h
      rw [wStr m _ (by omega) (by show (Lib.itoa a).toArray.size ≤ _; simp; omega)]
      rw [prV]
      show some ((), bi (m ++ (Lib.itoa a).toArray.toList), ()) = _
      simp only [List.toList_toArray]
      rfl
    | text s d h hv =>
      have h2 : s.data.toList.length = s.size := rfl
      have he := esc_len s.data.toList
      dsimp +instances only [kind_mk, n_mk, s_mk, l_mk]
      rw [e30, cond_false, e31, cond_false, e32, cond_false, e33, cond_true]
      rw [wByte m 39 39 rfl (by omega)]
      simp only [Option.bind_some]
      have := tell_text (ρ := Unit × List Int × Unit) (value_tell f) f (fun (o46, o47, _) => (pstrings_Builder_WriteByte (39, (), o47, ())).bind fun (o48, o49, _) => some ((), o49, ())) (fun _ => none) s 4000 s.data.toList (m ++ [39]) 0 f (by omega) rfl hv (by omega) (by rw [List.length_append, List.length_singleton]; omega)
      refine this.trans ?_
      simp only
      rw [wByte _ 39 39 rfl (by simp only [List.length_append, List.length_singleton]; omega)]
      simp only [Option.bind_some]
      rw [prV]
      simp
    | list l d h30 h6 h =>
      have h3 := capV_step h6
      have h4 := capV_le (d := d + 1) (by omega)
      have h5 : l.length * (capV (d + 1) + 1) ≤ 30 * (capV (d + 1) + 1) := Nat.mul_le_mul_right _ h30
      have hp : (prL l).length ≤ l.length * (capV (d + 1) + 1) := prL_len fun x hx => prV_len x (d + 1) (h x hx) (by omega) (by omega)
      dsimp +instances only [kind_mk, n_mk, s_mk, l_mk]
      rw [e40, cond_false, e41, cond_false, e42, cond_false, e43, cond_false, e44, cond_true]
      rw [wByte m 91 91 rfl (by omega)]
      simp only [Option.bind_some]
      refine (R_value_tell_s4 (ρ := Unit × List Int × Unit) (value_tell f) f _ _ l f () (bi (m ++ [91])) (by omega) (by omega)).trans ?_
      refine (tell_fold0 (value_tell f) f _ _ (capV (d + 1)) l (m ++ [91]) (fun x hx => ⟨prV_len x (d + 1) (h x hx) (by omega) (by omega), fun m hm => ih x hx (d + 1) f m (h x hx) (by omega) (by omega) (by omega) (by omega)⟩) (by rw [List.length_append, List.length_singleton]; omega)).trans ?_
      simp only
      rw [wByte _ 93 93 rfl (by simp only [List.length_append, List.length_singleton]; omega)]
      simp only [Option.bind_some]
      rw [prV]
      simp
end Pure

/- Values that are written are read back. No program. -/
namespace Pure
open Esp Ev Go
set_option linter.unusedSimpArgs false
set_option linter.unusedVariables false

/-- so far was read, that follows -/
def At (s : ByteArray) (a : Int) (t : List UInt8) : Prop := ∃ p : List UInt8, s.data.toList = p ++ t ∧ a = (p.length : Int)
theorem At.len {s : ByteArray} {a : Int} {t : List UInt8} (h : At s a t) : 0 ≤ a ∧ a + (t.length : Int) = (s.size : Int) := by
  obtain ⟨p, h1, rfl⟩ := h
  have h2 := congrArg List.length h1
  rw [List.length_append] at h2
  have h3 : s.data.toList.length = s.size := rfl
  omega
theorem At.go {s : ByteArray} {a : Int} {w t : List UInt8} (h : At s a (w ++ t)) : At s (a + (w.length : Int)) t := by
  obtain ⟨p, h1, rfl⟩ := h
  exact ⟨p ++ w, by rw [h1, List.append_assoc], by rw [List.length_append]; omega⟩
theorem ba_ext {s t : ByteArray} (h : s.data.toList = t.data.toList) : s = t := by
  cases s; cases t
  congr 1
  exact Array.toList_inj.1 h
theorem At.cut {s : ByteArray} {a : Int} {w t : List UInt8} (h : At s a (w ++ t)) : ssl s a (a + (w.length : Int)) = some ⟨w.toArray⟩ := by
  have hl := h.len
  rw [List.length_append] at hl
  obtain ⟨p, h1, rfl⟩ := h
  unfold ssl
  rw [if_pos ⟨by omega, by omega, by omega⟩]
  congr 1
  apply ba_ext
  rw [ByteArray.data_extract, Array.toList_extract, List.extract_eq_take_drop, h1]
  simp
  rw [show ((p.length : Int) + (w.length : Int)).toNat - p.length = w.length by omega]
  simp
theorem At.rest {s : ByteArray} {a : Int} {t : List UInt8} (h : At s a t) : ssl s a (s.size : Int) = some ⟨t.toArray⟩ := by
  have hl := h.len
  have := At.cut (w := t) (t := []) (by rw [List.append_nil]; exact h)
  rwa [hl.2] at this
theorem At.byte {s : ByteArray} {a : Int} {c : UInt8} {t : List UInt8} (h : At s a (c :: t)) : sat s a = some (c.toNat : Int) := by
  obtain ⟨p, h1, rfl⟩ := h
  unfold sat
  rw [if_pos (by omega), h1]
  simp
theorem hasPrefix_eq (t w : List UInt8) : internal_stringslite_HasPrefix ((⟨t.toArray⟩ : ByteArray), (⟨w.toArray⟩ : ByteArray), ()) = some (w.isPrefixOf t, ()) := by
  unfold internal_stringslite_HasPrefix
  have st : ((⟨t.toArray⟩ : ByteArray).size : Int) = (t.length : Int) := by show ((t.toArray.size : Nat) : Int) = _; simp
  have sw : ((⟨w.toArray⟩ : ByteArray).size : Int) = (w.length : Int) := by show ((w.toArray.size : Nat) : Int) = _; simp
  have sw' : (⟨w.toArray⟩ : ByteArray).size = w.length := by show w.toArray.size = _; simp
  simp only [st, sw, sw']
  by_cases h : (t.length : Int) ≥ (w.length : Int)
  · rw [decide_eq_true h, cond_true]
    have ha : At (⟨t.toArray⟩ : ByteArray) 0 (t.take w.length ++ t.drop w.length) := ⟨[], by rw [List.take_append_drop]; simp, rfl⟩
    have hc := ha.cut
    rw [List.length_take, Nat.min_eq_left (by omega), Int.zero_add] at hc
    rw [hc]
    simp only [Option.bind_some]
    congr 1
    congr 1
    rw [Bool.eq_iff_iff, seq_iff, List.isPrefixOf_iff_prefix]
    constructor
    · intro e
      have := congrArg (fun b : ByteArray => b.data.toList) e
      simp only [List.toList_toArray] at this
      rw [← this]
      exact List.take_prefix _ _
    · intro e
      rw [List.prefix_iff_eq_take] at e
      rw [← e]
  · rw [decide_eq_false h, cond_false]
    congr 1
    congr 1
    symm
    rw [Bool.eq_false_iff, ne_eq, List.isPrefixOf_iff_prefix]
    intro e
    have := e.length_le
    omega
theorem eat_eq {s : ByteArray} {a : Int} {t : List UInt8} (h : At s a t) (w : List UInt8) (hw : w.length ≤ 1000) (hs : s.size ≤ 4000) : pvalue_reader_eat ((⟨w.toArray⟩ : ByteArray), (s, a, ()), ()) = some (w.isPrefixOf t, (s, (bif w.isPrefixOf t then a + (w.length : Int) else a), ()), ()) := by
  have hl := h.len
  unfold pvalue_reader_eat strings_HasPrefix
  have sw : (⟨w.toArray⟩ : ByteArray).size = w.length := by show w.toArray.size = _; simp
  simp only [h.rest, hasPrefix_eq, Option.bind_some, sw]
  cases w.isPrefixOf t
  · rfl
  · simp only [Bool.not_true, cond_false, cond_true]
    rw [wrap64 (by omega) (by omega)]
theorem eat_yes {s : ByteArray} {a : Int} {w t : List UInt8} (h : At s a (w ++ t)) (hw : w.length ≤ 1000) (hs : s.size ≤ 4000) : pvalue_reader_eat ((⟨w.toArray⟩ : ByteArray), (s, a, ()), ()) = some (true, (s, a + (w.length : Int), ()), ()) := by
  have : w.isPrefixOf (w ++ t) = true := by rw [List.isPrefixOf_iff_prefix]; exact List.prefix_append _ _
  rw [eat_eq h w hw hs, this]
  rfl
theorem eat_no {s : ByteArray} {a : Int} {w t : List UInt8} (h : At s a t) (hw : w.length ≤ 1000) (hs : s.size ≤ 4000) (hn : w.isPrefixOf t = false) : pvalue_reader_eat ((⟨w.toArray⟩ : ByteArray), (s, a, ()), ()) = some (false, (s, a, ()), ()) := by
  rw [eat_eq h w hw hs, hn]
  rfl
theorem pre_no {c d : UInt8} {w t : List UInt8} (h : (c == d) = false) : (c :: w).isPrefixOf (d :: t) = false := by
  rw [List.isPrefixOf, h, Bool.false_and]
theorem bytesOf_bi (m : List UInt8) : Lib.bytesOf (bi m) = m := by
  unfold Lib.bytesOf bi
  rw [List.map_map]
  conv => rhs; rw [← List.map_id m]
  apply List.map_congr_left
  intro x _
  simp
theorem stringN_bi (m : List UInt8) : stringN ((), bi m, ()) = some (⟨m.toArray⟩, ()) := by
  unfold stringN bytesZ
  dsimp only
  rw [bytesOf_bi]
theorem decodeN_eq {t : List UInt8} (h : t ≠ []) : decodeN ((⟨t.toArray⟩ : ByteArray), ()) = some (((Lib.decodeL t).1 : Int), ((Lib.decodeL t).2 : Int), ()) := by
  unfold decodeN
  have : Lib.decodeGo (⟨t.toArray⟩ : ByteArray) = Lib.decodeL t := by
    unfold Lib.decodeGo Lib.decodeL
    rw [if_neg]
    show ¬ t.toArray.size = 0
    simpa using h
  simp only [this]
theorem read_tail {ρ : Type} (n : Nat) (rec : Unit × (List Int) × (ByteArray × Int × Unit) × Unit → Option ρ) (kx : Unit → Option ρ) (kr : ByteArray × (ByteArray × Int × Unit) × Unit → Option ρ)
  (s : ByteArray) (a : Int) (b : UInt8) (t m : List UInt8) (d : Nat × Nat) (e : List UInt8) (h : At s a (b :: t)) (hd : Lib.decodeL (b :: t) = d) (c39 : b ≠ 39) (c92 : b ≠ 92)
  (hv : ¬ (d.1 = 65533 ∧ d.2 = 1)) (n92 : d.1 ≠ 92) (n10 : d.1 ≠ 10) (h0 : d.2 ≠ 0) (hs : s.size ≤ 4000) (hm : m.length ≤ 100000) (hw : (d.2 : Int) ≤ 4000) (hle : d.1 ≤ 1114111) (hen : Lib.encodeRune (d.1 : Int) = e) :
    pvalue_reader_text_s0 n rec kx kr ((), bi m, (s, a, ()), ()) = rec ((), bi (m ++ e), (s, a + (d.2 : Int), ()), ()) := by
  have hl := h.len
  have n39 : ((39 : UInt8) == b) = false := beq_eq_false_iff_ne.2 (Ne.symm c39)
  have n92' : ((92 : UInt8) == b) = false := beq_eq_false_iff_ne.2 (Ne.symm c92)
  unfold pvalue_reader_text_s0
  dsimp only
  rw [eat_no h (w := [39]) (by decide) hs (pre_no n39)]
  simp only [Option.bind_some, cond_false]
  rw [eat_no h (w := [92, 110]) (by decide) hs (pre_no n92')]
  simp only [Option.bind_some, cond_false]
  rw [eat_no h (w := [92, 39]) (by decide) hs (pre_no n92')]
  simp only [Option.bind_some, cond_false]
  rw [eat_no h (w := [92, 92]) (by decide) hs (pre_no n92')]
  simp only [Option.bind_some, cond_false, h.rest]
  rw [decodeN_eq (by simp), hd]
  have q0 : ((d.2 : Int) == 0) = false := by rw [beq_eq_false_iff_ne]; omega
  have q1 : (((d.1 : Int) == 65533) && ((d.2 : Int) == 1)) = false := by
    rw [Bool.eq_false_iff, ne_eq, Bool.and_eq_true, beq_iff_eq, beq_iff_eq]
    omega
  have q2 : ((d.1 : Int) == 92) = false := by rw [beq_eq_false_iff_ne]; omega
  have q3 : ((d.1 : Int) == 10) = false := by rw [beq_eq_false_iff_ne]; omega
  simp only [Option.bind_some, q0, q1, q2, q3, Bool.or_self, cond_false]
  obtain ⟨y, hy⟩ := wRune m (d.1 : Int) (by omega) (by omega) (by omega)
  rw [hy, hen]
  simp only [Option.bind_some]
  rw [wrap64 (by omega) (by omega)]
/-- one rune of a text, read -/
theorem read_round {ρ : Type} (n : Nat) (rec : Unit × (List Int) × (ByteArray × Int × Unit) × Unit → Option ρ) (kx : Unit → Option ρ) (kr : ByteArray × (ByteArray × Int × Unit) × Unit → Option ρ)
    (s : ByteArray) (a : Int) (b : UInt8) (t m u : List UInt8) (h : At s a (esc (b :: t) ++ u)) (hs : s.size ≤ 4000) (hm : m.length ≤ 100000) (hv : ¬ ((Lib.decodeL (b :: t)).1 = 65533 ∧ (Lib.decodeL (b :: t)).2 = 1)) :
    ∃ e, esc (b :: t) = e ++ esc ((b :: t).drop (Lib.decodeL (b :: t)).2) ∧ pvalue_reader_text_s0 n rec kx kr ((), bi m, (s, a, ()), ()) = rec ((), bi (m ++ (b :: t).take (Lib.decodeL (b :: t)).2), (s, a + (e.length : Int), ()), ()) := by
  have hr := rune_head b t hv
  have hle := decodeL_lt (b :: t)
  have hlw := Lib.decodeL_le (b :: t) (by simp)
  have hen := Lib.encode_decode (b :: t) (by simp) hv
  have happ := decodeL_app (b :: t)
  have hesc := esc_rune (b :: t) (by simp) hv
  have hl := h.len
  unfold pvalue_reader_text_s0
  dsimp only
  rcases hr with ⟨hb, he⟩ | ⟨hb, he⟩
  · rw [he]
    have esp : ∀ c : UInt8, (c = 39 ∨ c = 92) → eb c = [92, c] := fun c hc => by rcases hc with rfl | rfl <;> rfl
    by_cases c39 : b = 39
    · subst c39
      have h : At s a (92 :: 39 :: (esc t ++ u)) := h
      refine ⟨[92, 39], rfl, ?_⟩
      rw [eat_no h (w := [39]) (by decide) hs (pre_no (by decide))]
      simp only [Option.bind_some, cond_false]
      rw [eat_no h (w := [92, 110]) (by decide) hs rfl]
      simp only [Option.bind_some, cond_false]
      rw [eat_yes (w := [92, 39]) h (by decide) hs]
      simp only [Option.bind_some, cond_true]
      rw [wByte m 39 39 rfl (by omega)]
      rfl
    · by_cases c92 : b = 92
      · subst c92
        have h : At s a (92 :: 92 :: (esc t ++ u)) := h
        refine ⟨[92, 92], rfl, ?_⟩
        rw [eat_no h (w := [39]) (by decide) hs (pre_no (by decide))]
        simp only [Option.bind_some, cond_false]
        rw [eat_no h (w := [92, 110]) (by decide) hs rfl]
        simp only [Option.bind_some, cond_false]
        rw [eat_no h (w := [92, 39]) (by decide) hs rfl]
        simp only [Option.bind_some, cond_false]
        rw [eat_yes (w := [92, 92]) h (by decide) hs]
        simp only [Option.bind_some, cond_true]
        rw [wByte m 92 92 rfl (by omega)]
        rfl
      · by_cases c10 : b = 10
        · subst c10
          have h : At s a (92 :: 110 :: (esc t ++ u)) := h
          refine ⟨[92, 110], rfl, ?_⟩
          rw [eat_no h (w := [39]) (by decide) hs (pre_no (by decide))]
          simp only [Option.bind_some, cond_false]
          rw [eat_yes (w := [92, 110]) h (by decide) hs]
          simp only [Option.bind_some, cond_true]
          rw [wByte m 10 10 rfl (by omega)]
          rfl
        · have hbe : eb b = [b] := by
            unfold eb
            rw [beq_eq_false_iff_ne.2 c39, beq_eq_false_iff_ne.2 c92, beq_eq_false_iff_ne.2 c10]
            rfl
          have h : At s a (b :: (esc t ++ u)) := by rw [esc, hbe] at h; exact h
          refine ⟨[b], by rw [esc, hbe]; rfl, ?_⟩
          exact read_tail n rec kx kr s a b (esc t ++ u) m (b.toNat, 1) [b] h (by rw [Lib.decodeL_ascii b _ hb]) c39 c92 (by dsimp only; omega) (by dsimp only; intro hh; exact c92 (UInt8.toNat_inj.1 hh)) (by dsimp only; intro hh; exact c10 (UInt8.toNat_inj.1 hh)) (by dsimp only; omega) hs hm (by dsimp only; omega) (by dsimp only; omega) (by rw [he] at hen; exact hen)
  · have c39 : b ≠ 39 := by rintro rfl; revert hb; decide
    have c92 : b ≠ 92 := by rintro rfl; revert hb; decide
    have e := hesc he
    have hw := width1 (b :: t)
    refine ⟨(b :: t).take (Lib.decodeL (b :: t)).2, e, ?_⟩
    rw [e, List.append_assoc] at h
    have hap := happ (esc ((b :: t).drop (Lib.decodeL (b :: t)).2) ++ u) (by simp) hv
    have hlen : ((b :: t).take (Lib.decodeL (b :: t)).2).length = (Lib.decodeL (b :: t)).2 := by rw [List.length_take]; omega
    obtain ⟨w, hw2⟩ : ∃ w, (Lib.decodeL (b :: t)).2 = w + 1 := ⟨(Lib.decodeL (b :: t)).2 - 1, by omega⟩
    have hcons : (b :: t).take (Lib.decodeL (b :: t)).2 = b :: t.take w := by rw [hw2, List.take_succ_cons]
    have h2 := h.len
    rw [List.length_append] at h2
    rw [hcons, List.cons_append] at h hap
    rw [hlen]
    exact read_tail n rec kx kr s a b _ m (Lib.decodeL (b :: t)) _ h hap c39 c92 hv (by omega) (by omega) (by omega) hs hm (by omega) hle hen
theorem read_text {ρ : Type} (n : Nat) (kx : Unit → Option ρ) (kr : ByteArray × (ByteArray × Int × Unit) × Unit → Option ρ) (s : ByteArray) (hs : s.size ≤ 4000) (u : List UInt8) :
    ∀ (k : Nat) (t m : List UInt8) (a : Int) (fuel : Nat), t.length ≤ k → At s a (esc t ++ 39 :: u) → Lib.validD t = true → k < fuel → m.length + t.length ≤ 100000 →
      iterN (fun rc => pvalue_reader_text_s0 n rc kx kr) fuel ((), bi m, (s, a, ()), ()) = kr (⟨(m ++ t).toArray⟩, (s, a + ((esc t).length : Int) + 1, ()), ()) := by
  intro k
  have last : ∀ (m : List UInt8) (a : Int) (f : Nat), At s a (39 :: u) → iterN (fun rc => pvalue_reader_text_s0 n rc kx kr) (f + 1) ((), bi m, (s, a, ()), ()) = kr (⟨(m ++ []).toArray⟩, (s, a + ((esc []).length : Int) + 1, ()), ()) := fun m a f h => by
    rw [iterN]
    unfold pvalue_reader_text_s0
    dsimp only
    rw [eat_yes (w := [39]) h (by decide) hs]
    simp only [Option.bind_some, cond_true]
    rw [stringN_bi]
    simp only [Option.bind_some, List.append_nil]
    rw [show a + (([39] : List UInt8).length : Int) = a + ((esc []).length : Int) + 1 by simp [esc]]
  induction k with
  | zero =>
    intro t m a fuel hk ht hv hf hm
    obtain ⟨f, rfl⟩ : ∃ f, fuel = f + 1 := ⟨fuel - 1, by omega⟩
    obtain rfl : t = [] := List.length_eq_zero_iff.1 (by omega)
    exact last m a f ht
  | succ k ih =>
    intro t m a fuel hk ht hv hf hm
    obtain ⟨f, rfl⟩ : ∃ f, fuel = f + 1 := ⟨fuel - 1, by omega⟩
    cases t with
    | nil => exact last m a f ht
    | cons b t =>
      obtain ⟨h1, h2⟩ := valid_step hv (by simp)
      have hw := width1 (b :: t)
      have hlw := Lib.decodeL_le (b :: t) (by simp)
      obtain ⟨e, he, hr⟩ := read_round n (iterN (fun rc => pvalue_reader_text_s0 n rc kx kr) f) kx kr s a b t m (39 :: u) ht hs (by omega) h1
      rw [iterN, hr]
      have hl := congrArg List.length he
      rw [List.length_append] at hl
      rw [he, List.append_assoc] at ht
      have := ih ((b :: t).drop (Lib.decodeL (b :: t)).2) (m ++ (b :: t).take (Lib.decodeL (b :: t)).2) _ f (by rw [List.length_drop]; omega) ht.go h2 (by omega) (by rw [List.length_append, List.length_take, List.length_drop]; omega)
      rw [this, List.append_assoc, List.take_append_drop, show a + (e.length : Int) + ((esc ((b :: t).drop (Lib.decodeL (b :: t)).2)).length : Int) + 1 = a + ((esc (b :: t)).length : Int) + 1 by omega]
end Pure

/- Values that are written are read back, whole. No program. -/
namespace Pure
open Esp Ev Go
set_option linter.unusedSimpArgs false
set_option linter.unusedVariables false

/-- what follows a numeral: no digit -/
def noDig (u : List UInt8) : Prop := ∀ c r, u = c :: r → ¬ (48 ≤ c.toNat ∧ c.toNat ≤ 57)
theorem read_digits {ρ : Type} (self : Int × (ByteArray × Int × Unit) × Unit → Option (Val × (ByteArray × Int × Unit) × Unit)) (n : Nat) (kx : Int × (Val × Unit) × (ByteArray × Int × Unit) × Unit → Option ρ) (kr : Unit → Option ρ) (from_ : Int) (v0 : Val) (s : ByteArray) (hs : s.size ≤ 4000) (u : List UInt8) (hu : noDig u) :
    ∀ (ds : List UInt8) (a : Int) (fuel : Nat), At s a (ds ++ u) → (∀ c ∈ ds, 48 ≤ c.toNat ∧ c.toNat ≤ 57) → ds.length < fuel →
      iterN (fun rc => pvalue_reader_value_s3 self n rc kx kr) fuel (from_, (v0, ()), (s, a, ()), ()) = kx (from_, (v0, ()), (s, a + (ds.length : Int), ()), ()) := by
  intro ds
  induction ds with
  | nil =>
    intro a fuel h _ hf
    obtain ⟨f, rfl⟩ : ∃ f, fuel = f + 1 := ⟨fuel - 1, by omega⟩
    have hl := h.len
    rw [iterN]
    unfold pvalue_reader_value_s3
    simp only [Val.eta, List.length_nil]
    rw [show a + ((0 : Nat) : Int) = a by omega]
    cases u with
    | nil =>
      rw [decide_eq_false (show ¬ a < (s.size : Int) by simp at hl; omega)]
      rfl
    | cons c r =>
      have h : At s a (c :: r) := h
      have := hu c r rfl
      rw [decide_eq_true (show a < (s.size : Int) by simp at hl; omega), cond_true, h.byte]
      simp only [Option.bind_some]
      by_cases h1 : (c.toNat : Int) ≥ 48
      · rw [decide_eq_true h1, cond_true, decide_eq_false (show ¬ (c.toNat : Int) ≤ 57 by omega)]
        rfl
      · rw [decide_eq_false h1]
        rfl
  | cons c ds ih =>
    intro a fuel h hd hf
    obtain ⟨f, rfl⟩ : ∃ f, fuel = f + 1 := ⟨fuel - 1, by omega⟩
    have hl := h.len
    have hc := hd c (by simp)
    have h' : At s a (c :: (ds ++ u)) := h
    have hg : At s (a + 1) (ds ++ u) := At.go (w := [c]) h'
    have ih2 := ih (a + 1) f hg (fun x hx => hd x (by simp [hx])) (by simp at hf; omega)
    rw [iterN]
    generalize iterN (fun rc => pvalue_reader_value_s3 self n rc kx kr) f = K at ih2 ⊢
    unfold pvalue_reader_value_s3
    simp only [Val.eta]
    rw [decide_eq_true (show a < (s.size : Int) by simp at hl; omega), cond_true, h'.byte]
    simp only [Option.bind_some]
    rw [decide_eq_true (show (c.toNat : Int) ≥ 48 by omega), cond_true, decide_eq_true (show (c.toNat : Int) ≤ 57 by omega), cond_true, wrap64 (by omega) (by simp at hl; omega)]
    rw [ih2]
    rw [List.length_cons, show a + 1 + (ds.length : Int) = a + ((ds.length + 1 : Nat) : Int) by omega]
theorem atoiN_itoa {n : Int} (h : wfI .i64 n) : atoiN ((⟨(Lib.itoa n).toArray⟩ : ByteArray), ()) = some (n, ()) := by
  have h0 := i64_range h
  have hl := itoa_len n h
  unfold atoiN
  dsimp only
  have : Nat.ble (⟨(Lib.itoa n).toArray⟩ : ByteArray).size 9223372036854775806 = true := by
    rw [Nat.ble_eq]
    show (Lib.itoa n).toArray.size ≤ _
    simp
    omega
  rw [this, cond_true]
  simp only [List.toList_toArray, atoi_itoa n h0.1 h0.2]
theorem itoa_noq (n : Int) : ∃ c r, Lib.itoa n = c :: r ∧ (c = 45 ∨ (48 ≤ c.toNat ∧ c.toNat ≤ 57)) := by
  obtain ⟨sg, ds, he, hsg, hne, hd⟩ := itoa_shape n
  rcases hsg with rfl | rfl
  · cases ds with
    | nil => exact absurd rfl hne
    | cons c r => exact ⟨c, r, he, .inr (hd c (by simp))⟩
  · exact ⟨45, ds, he, .inl rfl⟩
/-- a first byte that is none of a word's -/
theorem nob {b : UInt8} (h : b = 45 ∨ (48 ≤ b.toNat ∧ b.toNat ≤ 57)) (c : UInt8) (hc : ¬ (c = 45 ∨ (48 ≤ c.toNat ∧ c.toNat ≤ 57))) : (c == b) = false := by
  rw [beq_eq_false_iff_ne]; rintro rfl; exact hc h
theorem read_int (self : Int × (ByteArray × Int × Unit) × Unit → Option (Val × (ByteArray × Int × Unit) × Unit)) (n : Nat) (hn : 5000 ≤ n) (x : Int) (hx : wfI .i64 x) (s : ByteArray) (hs : s.size ≤ 4000) (a d : Int) (u : List UInt8) (hu : noDig u) (h : At s a (Lib.itoa x ++ u)) :
    pvalue_reader_value_b self n (d, (s, a, ()), ()) = some (.mk 2 x ⟨#[]⟩ [], (s, a + ((Lib.itoa x).length : Int), ()), ()) := by
  obtain ⟨b, r, hb, hbb⟩ := itoa_noq x
  obtain ⟨sg, ds, he, hsg, hne, hd⟩ := itoa_shape x
  have hl := h.len
  have hcut := h.cut
  have hb' : Lib.itoa x ++ u = b :: (r ++ u) := by rw [hb]; rfl
  have h1 := h
  rw [hb'] at h1
  unfold pvalue_reader_value_b
  dsimp only
  rw [eat_no h1 (w := [110, 117, 108, 108]) (by decide) hs (pre_no (nob hbb _ (by decide)))]
  simp only [Option.bind_some, cond_false]
  rw [eat_no h1 (w := [116, 114, 117, 101]) (by decide) hs (pre_no (nob hbb _ (by decide)))]
  simp only [Option.bind_some, cond_false]
  rw [eat_no h1 (w := [102, 97, 108, 115, 101]) (by decide) hs (pre_no (nob hbb _ (by decide)))]
  simp only [Option.bind_some, cond_false]
  rw [eat_no h1 (w := [39]) (by decide) hs (pre_no (nob hbb _ (by decide)))]
  simp only [Option.bind_some, cond_false]
  rw [eat_no h1 (w := [91]) (by decide) hs (pre_no (nob hbb _ (by decide)))]
  simp only [Option.bind_some, cond_false]
  have key : ∃ y, pvalue_reader_eat ((⟨#[45]⟩ : ByteArray), (s, a, ()), ()) = some (y, (s, a + (sg.length : Int), ()), ()) ∧ At s (a + (sg.length : Int)) (ds ++ u) := by
    rcases hsg with rfl | rfl
    · refine ⟨false, ?_, by simpa [he] using h⟩
      rw [he] at h
      cases ds with
      | nil => exact absurd rfl hne
      | cons c q =>
        have hc := hd c (by simp)
        rw [eat_no (w := [45]) (t := c :: (q ++ u)) h (by decide) hs (pre_no (by rw [beq_eq_false_iff_ne]; rintro rfl; revert hc; decide))]
        simp
    · rw [he, List.append_assoc] at h
      exact ⟨true, eat_yes (w := [45]) h (by decide) hs, h.go⟩
  obtain ⟨y, hy, ha⟩ := key
  rw [hy]
  simp only [Option.bind_some]
  have hlen := congrArg List.length he
  rw [List.length_append] at hlen
  have hil := itoa_len x hx
  rw [List.length_append] at hl
  rw [read_digits self n _ _ a _ s hs u hu ds _ n ha hd (by omega)]
  simp only
  rw [show a + (sg.length : Int) + (ds.length : Int) = a + ((Lib.itoa x).length : Int) by omega, hcut]
  simp only [Option.bind_some]
  rw [atoiN_itoa hx]
  simp only [Option.bind_some]
  rw [itoaN_eq hx]
  simp only [Option.bind_some, seq_refl, Bool.not_true, cond_false]
theorem prV_head (v : Val) {d : Int} (h : Right v d) : ∃ c r, prV v = c :: r ∧ c ≠ 93 := by
  cases h with
  | null d => rw [prV]; exact ⟨_, _, rfl, by decide⟩
  | truth n d h => rw [prV]; rcases h with rfl | rfl <;> exact ⟨_, _, rfl, by decide⟩
  | int n d h =>
    obtain ⟨c, r, he, hc⟩ := itoa_noq n
    rw [prV]
    exact ⟨c, r, he, by rintro rfl; revert hc; decide⟩
  | text s d h hv => rw [prV]; exact ⟨39, _, rfl, by decide⟩
  | list l d h30 h6 h => rw [prV]; exact ⟨91, _, rfl, by decide⟩
theorem read_list {ρ : Type} (self : Int × (ByteArray × Int × Unit) × Unit → Option (Val × (ByteArray × Int × Unit) × Unit)) (n : Nat) (kx : Unit → Option ρ) (kr : (Int × Int × ByteArray × Unit) × (List Val) × (ByteArray × Int × Unit) × Unit → Option ρ) (d : Int) (hd : 1 ≤ d ∧ d ≤ 6) (v0 : Val) (q : Int × Int × ByteArray × Unit) (s : ByteArray) (hs : s.size ≤ 4000) (u : List UInt8) :
    ∀ (r : List Val) (x : Val) (acc : List Val) (a : Int) (fuel : Nat), (∀ y ∈ x :: r, ∀ a u, noDig u → At s a (prV y ++ u) → self (d + 1, (s, a, ()), ()) = some (y, (s, a + ((prV y).length : Int), ()), ())) → acc.length + r.length ≤ 1000 → At s a (prV x ++ (prT r ++ 93 :: u)) → r.length < fuel →
      iterN (fun rc => pvalue_reader_value_s1 self n rc kx kr) fuel (d, (v0, ()), q, acc, (s, a, ()), ()) = kr (q, acc ++ x :: r, (s, a + ((prV x).length : Int) + ((prT r).length : Int) + 1, ()), ()) := by
  intro r
  induction r with
  | nil =>
    intro x acc a fuel hy hac h hf
    obtain ⟨f, rfl⟩ : ∃ f, fuel = f + 1 := ⟨fuel - 1, by omega⟩
    have hx := hy x (by simp) a (prT [] ++ 93 :: u) (fun c r e => by rw [prT] at e; injection e with e1 e2; subst e1; decide) h
    have hg := h.go
    rw [prT] at hg
    have hg : At s (a + ((prV x).length : Int)) ([93] ++ u) := hg
    rw [iterN]
    unfold pvalue_reader_value_s1
    dsimp only
    rw [wrap64 (by omega) (by omega), hx]
    simp only [Option.bind_some, Val.eta]
    rw [ck_ok (room56 (by rw [List.length_append, List.length_singleton]; omega)), eat_yes hg (by decide) hs]
    simp only [Option.bind_some, cond_true, prT, List.length_nil, List.length_singleton]
    rw [show a + ((prV x).length : Int) + ((1 : Nat) : Int) = a + ((prV x).length : Int) + ((0 : Nat) : Int) + 1 by omega]
  | cons z r ih =>
    intro x acc a fuel hy hac h hf
    obtain ⟨f, rfl⟩ : ∃ f, fuel = f + 1 := ⟨fuel - 1, by omega⟩
    have hx := hy x (by simp) a (prT (z :: r) ++ 93 :: u) (fun c r e => by rw [prT] at e; injection e with e1 e2; subst e1; decide) h
    have hg := h.go
    rw [prT] at hg
    have hg : At s (a + ((prV x).length : Int)) (44 :: (prV z ++ prT r ++ 93 :: u)) := hg
    have hg2 : At s (a + ((prV x).length : Int) + 1) (prV z ++ (prT r ++ 93 :: u)) := by
      have := At.go (w := [44]) (t := prV z ++ prT r ++ 93 :: u) hg
      rw [List.append_assoc] at this
      exact this
    rw [List.length_cons] at hac hf
    have := ih z (acc ++ [x]) (a + ((prV x).length : Int) + 1) f (fun y hy' => hy y (by simp at hy' ⊢; right; exact hy')) (by rw [List.length_append, List.length_singleton]; omega) hg2 (by omega)
    rw [iterN]
    generalize iterN (fun rc => pvalue_reader_value_s1 self n rc kx kr) f = K at this ⊢
    unfold pvalue_reader_value_s1
    dsimp only
    rw [wrap64 (by omega) (by omega), hx]
    simp only [Option.bind_some, Val.eta]
    rw [ck_ok (room56 (by rw [List.length_append, List.length_singleton]; omega)), eat_no hg (w := [93]) (by decide) hs (pre_no (by decide))]
    simp only [Option.bind_some, cond_false]
    rw [eat_yes (w := [44]) hg (by decide) hs]
    simp only [Option.bind_some, Bool.not_true, cond_false]
    refine this.trans ?_
    rw [List.append_assoc, prT, List.length_cons, List.length_append]
    rw [show a + ((prV x).length : Int) + 1 + ((prV z).length : Int) + ((prT r).length : Int) + 1 = a + ((prV x).length : Int) + (((prV z).length + (prT r).length + 1 : Nat) : Int) + 1 by omega]
    rfl
theorem read_ok (v : Val) : ∀ (d : Int) (n : Nat), Right v d → 1 ≤ d → d ≤ 7 → 5010 ≤ n + d.toNat → ∀ (s : ByteArray) (a : Int) (u : List UInt8), s.size ≤ 4000 → noDig u → At s a (prV v ++ u) → pvalue_reader_value n (d, (s, a, ()), ()) = some (v, (s, a + ((prV v).length : Int), ()), ()) := by
  induction v using val_ind with
  | _ k x t l ih =>
    intro d n hr h1 h7 hn s a u hs hu h
    obtain ⟨f, rfl⟩ : ∃ f, n = f + 1 := ⟨n - 1, by omega⟩
    rw [pvalue_reader_value]
    cases hr with
    | null d =>
      rw [prV] at h ⊢
      have h : At s a ([110, 117, 108, 108] ++ u) := h
      unfold pvalue_reader_value_b
      dsimp only
      rw [eat_yes h (by decide) hs]
      rfl
    | truth n d hb =>
      rw [prV] at h ⊢
      rcases hb with rfl | rfl
      · have h : At s a ([102, 97, 108, 115, 101] ++ u) := h
        unfold pvalue_reader_value_b
        dsimp only
        rw [eat_no h (w := [110, 117, 108, 108]) (by decide) hs (pre_no (by decide))]
        simp only [Option.bind_some, cond_false]
        rw [eat_no h (w := [116, 114, 117, 101]) (by decide) hs (pre_no (by decide))]
        simp only [Option.bind_some, cond_false]
        rw [eat_yes (w := [102, 97, 108, 115, 101]) h (by decide) hs]
        rfl
      · have h : At s a ([116, 114, 117, 101] ++ u) := h
        unfold pvalue_reader_value_b
        dsimp only
        rw [eat_no h (w := [110, 117, 108, 108]) (by decide) hs (pre_no (by decide))]
        simp only [Option.bind_some, cond_false]
        rw [eat_yes (w := [116, 114, 117, 101]) h (by decide) hs]
        rfl
    | int n d hx =>
      rw [prV] at h ⊢
      exact read_int _ f (by omega) x hx s hs a d u hu h
    | text t d ht hv =>
      rw [prV] at h ⊢
      have h : At s a (39 :: ((esc t.data.toList ++ [39]) ++ u)) := h
      have hl := h.len
      have h2 := At.go (w := [39]) (t := (esc t.data.toList ++ [39]) ++ u) h
      rw [List.append_assoc] at h2
      have ht2 : t.data.toList.length = t.size := rfl
      unfold pvalue_reader_value_b
      dsimp only
      rw [eat_no h (w := [110, 117, 108, 108]) (by decide) hs (pre_no (by decide))]
      simp only [Option.bind_some, cond_false]
      rw [eat_no h (w := [116, 114, 117, 101]) (by decide) hs (pre_no (by decide))]
      simp only [Option.bind_some, cond_false]
      rw [eat_no h (w := [102, 97, 108, 115, 101]) (by decide) hs (pre_no (by decide))]
      simp only [Option.bind_some, cond_false]
      rw [eat_yes (w := [39]) h (by decide) hs]
      simp only [Option.bind_some, cond_true]
      unfold pvalue_reader_text
      dsimp only
      have := read_text f (fun _ => none) (fun (v27, o28, _) => some ((v27 : ByteArray), ((o28.1, o28.2.1, ()) : ByteArray × Int × Unit), ())) s hs u 4000 t.data.toList [] (a + 1) f (by omega) h2 hv (by omega) (by simp; omega)
      have hb : bi [] = ([] : List Int) := rfl
      rw [hb] at this
      have e1 : a + (([39] : List UInt8).length : Int) = a + 1 := by simp
      rw [e1, this]
      simp only [Option.bind_some, List.nil_append]
      show some (Val.mk 3 0 (⟨t.data.toList.toArray⟩ : ByteArray) [], (s, a + 1 + ((esc t.data.toList).length : Int) + 1, ()), ()) = some (_, (s, a + ((39 :: (esc t.data.toList ++ [39])).length : Int), ()), ())
      rw [List.length_cons, List.length_append, List.length_singleton]
      rw [show a + 1 + ((esc t.data.toList).length : Int) + 1 = a + (((esc t.data.toList).length + 1 + 1 : Nat) : Int) by omega]
    | list l d h30 h6 hr =>
      rw [prV] at h ⊢
      have h : At s a (91 :: ((prL l ++ [93]) ++ u)) := h
      have h2 := At.go (w := [91]) (t := (prL l ++ [93]) ++ u) h
      have e1 : a + (([91] : List UInt8).length : Int) = a + 1 := by simp
      rw [List.append_assoc, e1] at h2
      unfold pvalue_reader_value_b
      dsimp only
      rw [eat_no h (w := [110, 117, 108, 108]) (by decide) hs (pre_no (by decide))]
      simp only [Option.bind_some, cond_false]
      rw [eat_no h (w := [116, 114, 117, 101]) (by decide) hs (pre_no (by decide))]
      simp only [Option.bind_some, cond_false]
      rw [eat_no h (w := [102, 97, 108, 115, 101]) (by decide) hs (pre_no (by decide))]
      simp only [Option.bind_some, cond_false]
      rw [eat_no h (w := [39]) (by decide) hs (pre_no (by decide))]
      simp only [Option.bind_some, cond_false]
      rw [eat_yes (w := [91]) h (by decide) hs, e1]
      simp only [Option.bind_some, cond_true]
      rw [decide_eq_false (show ¬ d > 40 by omega), cond_false]
      cases l with
      | nil =>
        rw [prL] at h2 ⊢
        have h2 : At s (a + 1) ([93] ++ u) := h2
        rw [eat_yes h2 (by decide) hs]
        simp only [Option.bind_some, cond_true]
        show some (Val.mk 4 0 (⟨#[]⟩ : ByteArray) [], (s, a + 1 + ((1 : Nat) : Int), ()), ()) = some (_, (s, a + ((2 : Nat) : Int), ()), ())
        rw [show a + 1 + ((1 : Nat) : Int) = a + ((2 : Nat) : Int) by omega]
      | cons y r =>
        rw [prL, List.append_assoc] at h2
        obtain ⟨c, w, hc, hc93⟩ := prV_head y (hr y (by simp))
        have h3 := h2
        rw [hc] at h3
        rw [eat_no h3 (w := [93]) (by decide) hs (pre_no (beq_eq_false_iff_ne.2 (Ne.symm hc93)))]
        simp only [Option.bind_some, cond_false]
        have h2 : At s (a + 1) (prV y ++ (prT r ++ 93 :: u)) := h2
        rw [List.length_cons] at h30
        refine (read_list (pvalue_reader_value f) f _ _ d ⟨h1, h6⟩ _ _ s hs u r y [] (a + 1) f (fun z hz a u hu h => ih z hz (d + 1) f (hr z hz) (by omega) (by omega) (by omega) s a u hs hu h) (by simp; omega) h2 (by omega)).trans ?_
        show some (Val.mk 4 0 (⟨#[]⟩ : ByteArray) (y :: r), (s, a + 1 + ((prV y).length : Int) + ((prT r).length : Int) + 1, ()), ()) = some (_, (s, a + ((91 :: (prL (y :: r) ++ [93])).length : Int), ()), ())
        rw [prL, List.length_cons, List.length_append, List.length_append, List.length_singleton]
        rw [show a + 1 + ((prV y).length : Int) + ((prT r).length : Int) + 1 = a + (((prV y).length + (prT r).length + 1 + 1 : Nat) : Int) by omega]
end Pure

/- What is printed of a value is read as it: the plain law. No program. -/
namespace Pure
open Esp Ev Go
set_option linter.unusedSimpArgs false
set_option linter.unusedVariables false

theorem Print_bad (v : Val) (n : Nat) (hn : 40 ≤ n) (h : (chk v 1 != 0) = true) : value_Print n (v, ()) = some (⟨#[]⟩, chk v 1, ()) := by
  unfold value_Print
  simp only [Val.eta, Check_ok v n hn, Option.bind_some, h, cond_true]
theorem Print_ok (v : Val) (n : Nat) (hn : 5010 ≤ n) (h : chk v 1 = 0) (hr : Right v 1) : value_Print n (v, ()) = bif decide (((prV v).length : Int) > 4000) then some (⟨#[]⟩, 2, ()) else some (⟨(prV v).toArray⟩, 0, ()) := by
  have hc := capV_le (d := 1) (by omega)
  have ht := tell_ok v 1 n [] hr (by omega) (by omega) (by omega) (by simp; omega)
  rw [List.nil_append] at ht
  have hb : bi [] = ([] : List Int) := rfl
  rw [hb] at ht
  unfold value_Print
  have e0 : ((0 : Int) != 0) = false := by decide
  simp only [Val.eta, Check_ok v n (by omega), Option.bind_some, h, e0, cond_false, ht, pstrings_Builder_Len, bi_length, stringN_bi]
theorem Parse_ok (v : Val) (n : Nat) (hn : 5010 ≤ n) (h : chk v 1 = 0) (hr : Right v 1) (hl : (prV v).length ≤ 4000) : value_Parse n ((⟨(prV v).toArray⟩ : ByteArray), ()) = some (v, 0, 0, ()) := by
  have hs : (⟨(prV v).toArray⟩ : ByteArray).size = (prV v).length := by show (prV v).toArray.size = _; simp
  have := read_ok v 1 n hr (by omega) (by omega) (by omega) ⟨(prV v).toArray⟩ 0 [] (by omega) (fun c r e => by cases e) ⟨[], by simp, rfl⟩
  have e0 : ((0 : Int) != 0) = false := by decide
  unfold value_Parse
  simp only [hs]
  rw [decide_eq_false (show ¬ ((prV v).length : Int) > 4000 by omega), cond_false, this]
  simp only [Option.bind_some]
  rw [decide_eq_false (show ¬ (0 : Int) + ((prV v).length : Int) < ((prV v).length : Int) by omega), cond_false]
  simp only [Val.eta, Check_ok v n (by omega), Option.bind_some, h, e0, cond_false]
theorem ValueBack_ok (v : Val) (hv : vOk v) (n : Nat) (hn : 10000 ≤ n) : espalierlaw_ValueBack n (v, ()) = some (true, ()) := by
  have hval : espalierlaw_valued n () = some (true, ()) := by
    have := valued_ok (n - 40)
    rwa [show n - 40 + 40 = n by omega] at this
  unfold espalierlaw_ValueBack
  cases hc : chk v 1 != 0
  · have h0 : chk v 1 = 0 := by simpa using hc
    have hr := right_of v 1 hv h0
    simp only [Val.eta, Print_ok v n (by omega) h0 hr]
    by_cases hl : ((prV v).length : Int) > 4000
    · rw [decide_eq_true hl]
      simp only [cond_true, Option.bind_some, hval]
      rfl
    · rw [decide_eq_false hl]
      simp only [cond_false, Option.bind_some, hval, Parse_ok v n (by omega) h0 hr (by omega), same_ok hr n (by omega)]
      rfl
  · simp only [Val.eta, Print_bad v n (by omega) hc, Option.bind_some, hval, hc, Bool.or_true, cond_true]
end Pure

/- Several texts in one (merge.py). -/
import Derived.Test.YtbimcdakgbdiiaaGreatDoorPA
import Derived.KernelRfl
import Derived.Test.YtbimcdakgbdiiaaGreatDoorPLib
import Derived.Test.YtbimcdakgbdiiaaGreatDoorEvBuild3
import Derived.Lib.MapLaws
import Derived.Lib.ValidLaws
import Derived.Test.YtbimcdakgbdiiaaGreatDoorPCode

/- Values: sameness and what is ahead, the plain part. No program. -/
namespace Pure
open Esp Ev Go
set_option linter.unusedSimpArgs false
set_option linter.unusedVariables false
set_option linter.unusedSimpArgs false
set_option linter.unusedVariables false

end Pure


/- Values: sameness and what is ahead, as the code has them; the laws of order. No program. -/
namespace Pure
open Esp Ev Go
set_option linter.unusedSimpArgs false
set_option linter.unusedVariables false
set_option linter.unusedSimpArgs false
set_option linter.unusedVariables false

end Pure


/- Runes and numerals, written and read. No program. -/
namespace Pure
open Esp Ev Go
set_option linter.unusedSimpArgs false
set_option linter.unusedVariables false
set_option linter.unusedSimpArgs false
set_option linter.unusedVariables false

/-! ## numerals -/
theorem digits_ok (u : Nat) : ∀ c ∈ Lib.decDigits u, 48 ≤ c.toNat ∧ c.toNat ≤ 57 := by
  induction u using Nat.strongRecOn with
  | _ u ih =>
    intro c hc
    rw [Lib.decDigits] at hc
    split at hc
    · rename_i h
      have : c = UInt8.ofNat (48 + u) := by simpa using hc
      subst this
      rw [UInt8.toNat_ofNat']
      omega
    · rename_i h
      rcases List.mem_append.1 hc with hc | hc
      · exact ih (u / 10) (by omega) c hc
      · have : c = UInt8.ofNat (48 + u % 10) := by simpa using hc
        subst this
        rw [UInt8.toNat_ofNat']
        omega
theorem digits_ne (u : Nat) : Lib.decDigits u ≠ [] := by
  rw [Lib.decDigits]
  split
  · simp
  · simp
theorem digits_parse (u : Nat) : ∀ t, u < 18446744073709551616 → Lib.parseUint10 0 (Lib.decDigits u ++ t) = Lib.parseUint10 u t := by
  induction u using Nat.strongRecOn with
  | _ u ih =>
    intro t hu
    rw [Lib.decDigits]
    split
    · rename_i h
      rw [List.singleton_append, Lib.parseUint10]
      have e : (UInt8.ofNat (48 + u)).toNat = 48 + u := by rw [UInt8.toNat_ofNat']; omega
      rw [e, if_pos (by omega), if_neg (by omega), if_neg (by omega)]
      congr 1
      omega
    · rename_i h
      rw [List.append_assoc, ih (u / 10) (by omega) _ (by omega), List.singleton_append, Lib.parseUint10]
      have e : (UInt8.ofNat (48 + u % 10)).toNat = 48 + u % 10 := by rw [UInt8.toNat_ofNat']; omega
      rw [e, if_pos (by omega), if_neg (by omega), if_neg (by omega)]
      congr 1
      omega
theorem digits_mag (u : Nat) (hu : u < 18446744073709551616) : Lib.parseMag (Lib.decDigits u) = .ok u := by
  unfold Lib.parseMag
  rw [if_neg (digits_ne u)]
  have := digits_parse u [] hu
  rw [List.append_nil] at this
  rw [this, Lib.parseUint10]
theorem atoi_itoa (n : Int) (h0 : -9223372036854775808 ≤ n) (h1 : n ≤ 9223372036854775807) : Lib.atoiAll (Lib.itoa n) = .ok n := by
  unfold Lib.itoa
  split
  · rename_i h
    unfold Lib.atoiAll
    simp only
    rw [if_pos (.inr (by rfl)), digits_mag _ (by omega)]
    simp only
    rw [if_neg (by simp), if_neg (by simp; omega), if_pos (by rfl)]
    congr 1
    omega
  · rename_i h
    have hd := digits_ok n.toNat
    have hm := digits_mag n.toNat (by omega)
    unfold Lib.atoiAll
    cases hl : Lib.decDigits n.toNat with
    | nil => exact absurd hl (digits_ne _)
    | cons c r =>
      rw [hl] at hd hm
      have hc := hd c (by simp)
      simp only
      rw [if_neg (by omega), hm]
      simp only
      rw [if_neg (by omega), if_neg (by omega), if_neg (by omega)]
      congr 1
      omega
theorem itoa_shape (n : Int) : ∃ (sg ds : List UInt8), Lib.itoa n = sg ++ ds ∧ (sg = [] ∨ sg = [45]) ∧ ds ≠ [] ∧ ∀ c ∈ ds, 48 ≤ c.toNat ∧ c.toNat ≤ 57 := by
  unfold Lib.itoa
  split
  · exact ⟨[45], _, rfl, .inr rfl, digits_ne _, digits_ok _⟩
  · exact ⟨[], _, rfl, .inl rfl, digits_ne _, digits_ok _⟩

/-! ## runes -/
theorem decN_any (n n' b0 b1 b2 b3 c1 c2 c3 r w : Nat) (h : Lib.decodeN n b0 b1 b2 b3 = (r, w)) (hv : ¬ (r = 65533 ∧ w = 1)) (hn : w ≤ n') (h1 : 2 ≤ w → c1 = b1) (h2 : 3 ≤ w → c2 = b2) (h3 : 4 ≤ w → c3 = b3) :
    Lib.decodeN n' b0 c1 c2 c3 = (r, w) := by
  unfold Lib.decodeN at h ⊢
  split at h
  · rename_i g; rw [if_pos g]; exact h
  · rename_i g
    rw [if_neg g]
    split at h
    · rename_i g2
      split at h
      · rename_i g3
        injection h with e1 e2
        have := h1 (by omega)
        subst this
        rw [if_pos ⟨g2.1, by omega, g2.2.2⟩, if_pos g3, e1, e2]
      · injection h with e1 e2; exact absurd ⟨e1.symm, e2.symm⟩ hv
    · rename_i g2
      split at h
      · rename_i g3
        split at h
        · rename_i g4
          injection h with e1 e2
          have := h1 (by omega)
          subst this
          have := h2 (by omega)
          subst this
          rw [if_neg (by omega), if_pos ⟨g3.1, ⟨by omega, g3.2.1.2⟩, by omega, g3.2.2.2⟩, if_pos g4, e1, e2]
        · injection h with e1 e2; exact absurd ⟨e1.symm, e2.symm⟩ hv
      · rename_i g3
        split at h
        · rename_i g4
          split at h
          · rename_i g5
            injection h with e1 e2
            have := h1 (by omega)
            subst this
            have := h2 (by omega)
            subst this
            have := h3 (by omega)
            subst this
            rw [if_neg (by omega), if_neg (by omega), if_pos ⟨g4.1, ⟨by omega, g4.2.1.2⟩, ⟨by omega, g4.2.2.1.2⟩, by omega, g4.2.2.2.2⟩, if_pos g5, e1, e2]
          · injection h with e1 e2; exact absurd ⟨e1.symm, e2.symm⟩ hv
        · injection h with e1 e2; exact absurd ⟨e1.symm, e2.symm⟩ hv
theorem decodeL_app (l t : List UInt8) (hne : l ≠ []) (hv : ¬ ((Lib.decodeL l).1 = 65533 ∧ (Lib.decodeL l).2 = 1)) : Lib.decodeL (l.take (Lib.decodeL l).2 ++ t) = Lib.decodeL l := by
  have hle := Lib.decodeL_le l hne
  generalize hw : Lib.decodeL l = d at *
  obtain ⟨r, w⟩ := d
  dsimp only at *
  rw [Lib.decodeL_N] at hw ⊢
  have hg : ∀ k, k < w → (l.take w ++ t).getD k 0 = l.getD k 0 := fun k hk => by
    simp only [List.getD]
    rw [List.getElem?_append_left (by rw [List.length_take]; omega), List.getElem?_take, if_pos hk]
  have hw1 : 1 ≤ w := by
    have := Lib.decodeN_ge1 l.length (l.getD 0 0).toNat (l.getD 1 0).toNat (l.getD 2 0).toNat (l.getD 3 0).toNat
    rw [hw] at this
    exact this
  rw [hg 0 (by omega)]
  exact decN_any _ _ _ _ _ _ _ _ _ r w hw hv (by rw [List.length_append, List.length_take]; omega) (fun h => by rw [hg 1 (by omega)]) (fun h => by rw [hg 2 (by omega)]) (fun h => by rw [hg 3 (by omega)])
theorem valid_step {l : List UInt8} (h : Lib.validD l = true) (hne : l ≠ []) : ¬ ((Lib.decodeL l).1 = 65533 ∧ (Lib.decodeL l).2 = 1) ∧ Lib.validD (l.drop (Lib.decodeL l).2) = true := by
  rw [Lib.validD_step l hne] at h
  split at h
  · cases h
  · rename_i g; exact ⟨g, h⟩
theorem width1 (l : List UInt8) : 1 ≤ (Lib.decodeL l).2 := by rw [Lib.decodeL_N]; exact Lib.decodeN_ge1 _ _ _ _ _
theorem rune_head (b : UInt8) (t : List UInt8) (hv : ¬ ((Lib.decodeL (b :: t)).1 = 65533 ∧ (Lib.decodeL (b :: t)).2 = 1)) : (b.toNat < 128 ∧ Lib.decodeL (b :: t) = (b.toNat, 1)) ∨ (128 ≤ b.toNat ∧ 128 ≤ (Lib.decodeL (b :: t)).1) := by
  by_cases h : b.toNat < 128
  · exact .inl ⟨h, Lib.decodeL_ascii b t h⟩
  · refine .inr ⟨by omega, ?_⟩
    rw [Lib.decodeL_N] at hv ⊢
    simp only [List.getD, List.getElem?_cons_zero, Option.getD_some] at hv ⊢
    unfold Lib.decodeN at hv ⊢
    rw [if_neg h] at hv ⊢
    split
    · split
      · simp only; omega
      · simp
    · split
      · split
        · simp only; omega
        · simp
      · split
        · split
          · simp only; omega
          · simp
        · simp
end Pure


/- How values are written, as bytes. No program. -/
namespace Pure
open Esp Ev Go
set_option linter.unusedSimpArgs false
set_option linter.unusedVariables false
set_option linter.unusedSimpArgs false
set_option linter.unusedVariables false

def eb (b : UInt8) : List UInt8 := bif (b == 39) || (b == 92) then [92, b] else bif b == 10 then [92, 110] else [b]
def esc : List UInt8 → List UInt8
  | [] => []
  | b :: l => eb b ++ esc l
theorem esc_app (l m : List UInt8) : esc (l ++ m) = esc l ++ esc m := by
  induction l with
  | nil => rfl
  | cons b l ih => rw [List.cons_append, esc, esc, ih, List.append_assoc]
theorem eb_len (b : UInt8) : 1 ≤ (eb b).length ∧ (eb b).length ≤ 2 := by
  unfold eb
  cases (b == 39) || (b == 92)
  · cases b == 10 <;> simp
  · simp
theorem esc_len (l : List UInt8) : (esc l).length ≤ 2 * l.length := by
  induction l with
  | nil => simp [esc]
  | cons b l ih => have := eb_len b; rw [esc, List.length_append, List.length_cons]; omega
theorem ne_of_nat {b c : UInt8} (h : b.toNat ≠ c.toNat) : (b == c) = false := by
  rw [beq_eq_false_iff_ne]; rintro rfl; exact h rfl
theorem eb_high {b : UInt8} (h : 128 ≤ b.toNat) : eb b = [b] := by
  unfold eb
  rw [ne_of_nat (show b.toNat ≠ (39 : UInt8).toNat by show _ ≠ 39; omega), ne_of_nat (show b.toNat ≠ (92 : UInt8).toNat by show _ ≠ 92; omega), ne_of_nat (show b.toNat ≠ (10 : UInt8).toNat by show _ ≠ 10; omega)]
  rfl
theorem esc_high {l : List UInt8} (h : ∀ b ∈ l, 128 ≤ b.toNat) : esc l = l := by
  induction l with
  | nil => rfl
  | cons b l ih => rw [esc, eb_high (h b (by simp)), ih fun c hc => h c (by simp [hc])]; rfl
theorem rune_bytes (l : List UInt8) (hne : l ≠ []) (hv : ¬ ((Lib.decodeL l).1 = 65533 ∧ (Lib.decodeL l).2 = 1)) (h : 128 ≤ (Lib.decodeL l).1) : ∀ c ∈ l.take (Lib.decodeL l).2, 128 ≤ c.toNat := by
  have key : ∀ k, k < (Lib.decodeL l).2 → 128 ≤ (l.getD k 0).toNat := by
    rw [Lib.decodeL_N] at hv h ⊢
    unfold Lib.decodeN at hv h ⊢
    intro k hk
    by_cases g0 : (l.getD 0 0).toNat < 128
    · rw [if_pos g0] at h; simp only at h; omega
    rw [if_neg g0] at hv h hk
    split at hk
    · rename_i g; rw [if_pos g] at hv h
      split at hk
      · rename_i g2
        simp only at hk
        have : k = 0 ∨ k = 1 := by omega
        rcases this with rfl | rfl <;> omega
      · rename_i g2; rw [if_neg g2] at hv; exact absurd ⟨rfl, rfl⟩ hv
    · rename_i g; rw [if_neg g] at hv h
      split at hk
      · rename_i g; rw [if_pos g] at hv h
        split at hk
        · rename_i g2
          simp only at hk
          have : k = 0 ∨ k = 1 ∨ k = 2 := by omega
          rcases this with rfl | rfl | rfl <;> omega
        · rename_i g2; rw [if_neg g2] at hv; exact absurd ⟨rfl, rfl⟩ hv
      · rename_i g; rw [if_neg g] at hv h
        split at hk
        · rename_i g; rw [if_pos g] at hv h
          split at hk
          · rename_i g2
            simp only at hk
            have : k = 0 ∨ k = 1 ∨ k = 2 ∨ k = 3 := by omega
            rcases this with rfl | rfl | rfl | rfl <;> omega
          · rename_i g2; rw [if_neg g2] at hv; exact absurd ⟨rfl, rfl⟩ hv
        · rename_i g; rw [if_neg g] at hv; exact absurd ⟨rfl, rfl⟩ hv
  intro c hc
  obtain ⟨k, hk, rfl⟩ := List.getElem_of_mem hc
  rw [List.length_take] at hk
  have := key k (by omega)
  rw [List.getElem_take]
  rw [List.getD_eq_getElem?_getD, List.getElem?_eq_getElem (by omega)] at this
  exact this
theorem esc_rune (l : List UInt8) (hne : l ≠ []) (hv : ¬ ((Lib.decodeL l).1 = 65533 ∧ (Lib.decodeL l).2 = 1)) (h : 128 ≤ (Lib.decodeL l).1) : esc l = l.take (Lib.decodeL l).2 ++ esc (l.drop (Lib.decodeL l).2) := by
  conv => lhs; rw [← List.take_append_drop (Lib.decodeL l).2 l, esc_app, esc_high (rune_bytes l hne hv h)]
mutual
def prV : Val → List UInt8
  | .mk k n s l => bif k == 0 then [110, 117, 108, 108] else bif k == 1 then (bif n == 1 then [116, 114, 117, 101] else [102, 97, 108, 115, 101]) else bif k == 2 then Lib.itoa n else bif k == 3 then 39 :: (esc s.data.toList ++ [39]) else bif k == 4 then 91 :: (prL l ++ [93]) else []
def prL : List Val → List UInt8
  | [] => []
  | x :: r => prV x ++ prT r
def prT : List Val → List UInt8
  | [] => []
  | x :: r => 44 :: (prV x ++ prT r)
end
end Pure


/- Values are written: the plain part. No program. -/
namespace Pure
open Esp Ev Go
set_option linter.unusedSimpArgs false
set_option linter.unusedVariables false
set_option linter.unusedSimpArgs false
set_option linter.unusedVariables false

theorem or192 (x : Int) (h0 : 0 ≤ x) (h1 : x < 32) : bor .u8 192 x = 192 + x := by
  have : ∀ i : Fin 32, bor .u8 192 (i.val : Int) = 192 + (i.val : Int) := by decide +kernel
  have := this ⟨x.toNat, by omega⟩
  rw [show ((⟨x.toNat, by omega⟩ : Fin 32).val : Int) = x by show ((x.toNat : Nat) : Int) = x; omega] at this
  exact this
theorem or224 (x : Int) (h0 : 0 ≤ x) (h1 : x < 16) : bor .u8 224 x = 224 + x := by
  have : ∀ i : Fin 16, bor .u8 224 (i.val : Int) = 224 + (i.val : Int) := by decide +kernel
  have := this ⟨x.toNat, by omega⟩
  rw [show ((⟨x.toNat, by omega⟩ : Fin 16).val : Int) = x by show ((x.toNat : Nat) : Int) = x; omega] at this
  exact this
theorem or240 (x : Int) (h0 : 0 ≤ x) (h1 : x < 8) : bor .u8 240 x = 240 + x := by
  have : ∀ i : Fin 8, bor .u8 240 (i.val : Int) = 240 + (i.val : Int) := by decide +kernel
  have := this ⟨x.toNat, by omega⟩
  rw [show ((⟨x.toNat, by omega⟩ : Fin 8).val : Int) = x by show ((x.toNat : Nat) : Int) = x; omega] at this
  exact this
theorem or128 (x : Int) (h0 : 0 ≤ x) (h1 : x < 64) : bor .u8 128 x = 128 + x := by
  have : ∀ i : Fin 64, bor .u8 128 (i.val : Int) = 128 + (i.val : Int) := by decide +kernel
  have := this ⟨x.toNat, by omega⟩
  rw [show ((⟨x.toNat, by omega⟩ : Fin 64).val : Int) = x by show ((x.toNat : Nat) : Int) = x; omega] at this
  exact this
theorem and63 (x : Int) (h0 : 0 ≤ x) (h1 : x < 256) : band .u8 x 63 = x % 64 := by
  have : ∀ i : Fin 256, band .u8 (i.val : Int) 63 = (i.val : Int) % 64 := by decide +kernel
  have := this ⟨x.toNat, by omega⟩
  rw [show ((⟨x.toNat, by omega⟩ : Fin 256).val : Int) = x by show ((x.toNat : Nat) : Int) = x; omega] at this
  exact this
theorem wu8 (x : Int) : IntKind.wrap .u8 x = x % 256 := by
  simp only [IntKind.wrap, IntKind.bits, IntKind.signed]
  simp
theorem wu32 {x : Int} (h0 : 0 ≤ x) (h1 : x ≤ 1114111) : IntKind.wrap .u32 x = x := by
  simp only [IntKind.wrap, IntKind.bits, IntKind.signed]
  simp
  omega
theorem shr6 (r : Int) (h : 0 ≤ r) : bshr .i32 r 6 = r / 64 := by
  show r.fdiv (2 ^ 6) = _
  rw [Int.fdiv_eq_ediv_of_nonneg _ (by decide)]; rfl
theorem shr12 (r : Int) (h : 0 ≤ r) : bshr .i32 r 12 = r / 4096 := by
  show r.fdiv (2 ^ 12) = _
  rw [Int.fdiv_eq_ediv_of_nonneg _ (by decide)]; rfl
theorem shr18 (r : Int) (h : 0 ≤ r) : bshr .i32 r 18 = r / 262144 := by
  show r.fdiv (2 ^ 18) = _
  rw [Int.fdiv_eq_ediv_of_nonneg _ (by decide)]; rfl
theorem tailB (x : Int) (h : 0 ≤ x) : bor .u8 128 (band .u8 (IntKind.wrap .u8 x) 63) = 128 + x % 64 := by
  rw [wu8, and63 _ (by omega) (by omega), or128 _ (by omega) (by omega)]
  omega
theorem enc_bi (r : Int) : bi (Lib.encodeRune r) = Lib.encodeRuneZ r := by
  have h := Lib.encodeRuneZ_byte r
  unfold Lib.encodeRune bi
  rw [List.map_map]
  conv => rhs; rw [← List.map_id (Lib.encodeRuneZ r)]
  apply List.map_congr_left
  intro x hx
  have := h x hx
  show ((x.toNat.toUInt8).toNat : Int) = x
  rw [show x.toNat.toUInt8 = UInt8.ofNat x.toNat from rfl, UInt8.toNat_ofNat']
  omega
theorem appRune_ok (r : Int) (o : List Int) (h0 : 0 ≤ r) (h1 : r ≤ 1114111) (ho : o.length ≤ 100000000000000) : q12z (r, o, ()) = some (o ++ Lib.encodeRuneZ r, ()) := by
  have hroom : ∀ l : List Int, l.length ≤ 4 → room (o ++ l).length 1 = true := fun l hl => room1 (by rw [List.length_append]; omega)
  unfold q12z q4z
  simp only [wu32 h0 h1, shr6 r h0, shr12 r h0, shr18 r h0, tailB r h0, tailB (r / 64) (by omega), tailB (r / 4096) (by omega)]
  by_cases c0 : r ≤ 127
  · rw [decide_eq_true c0, cond_true, ck_ok (hroom _ (by simp)), Lib.encodeRuneZ_one h0 c0, wrapU8 h0 (by omega)]
  rw [decide_eq_false c0, cond_false]
  by_cases c1 : r ≤ 2047
  · rw [decide_eq_true c1, cond_true, ck_ok (hroom _ (by simp)), Lib.encodeRuneZ_two (by omega) c1, wrapU8 (by omega) (by omega), or192 _ (by omega) (by omega)]
    rfl
  rw [decide_eq_false c1, cond_false]
  by_cases c2 : r < 55296
  · rw [decide_eq_true c2, cond_true, cond_true, ck_ok (hroom _ (by simp)), Lib.encodeRuneZ_three (.inl ⟨by omega, c2⟩), wrapU8 (by omega) (by omega), or224 _ (by omega) (by omega)]
    rfl
  rw [decide_eq_false c2, cond_false]
  by_cases c3 : r ≤ 57343
  · rw [decide_eq_false (show ¬ (57343 : Int) < r by omega), Bool.false_and, cond_false, decide_eq_false (show ¬ r > 65535 by omega), Bool.false_and, cond_false, ck_ok (hroom _ (by simp)), Lib.encodeRuneZ_bad (.inr (.inl ⟨by omega, c3⟩))]
    rfl
  rw [decide_eq_true (show (57343 : Int) < r by omega), Bool.true_and]
  by_cases c4 : r ≤ 65535
  · rw [decide_eq_true c4, cond_true, ck_ok (hroom _ (by simp)), Lib.encodeRuneZ_three (.inr ⟨by omega, c4⟩), wrapU8 (by omega) (by omega), or224 _ (by omega) (by omega)]
    rfl
  rw [decide_eq_false c4, cond_false, decide_eq_true (show r > 65535 by omega), decide_eq_true h1, Bool.true_and, cond_true, ck_ok (hroom _ (by simp)), Lib.encodeRuneZ_four (by omega) h1, wrapU8 (by omega) (by omega), or240 _ (by omega) (by omega)]
  rfl
/-! ## what is written -/
theorem wByte (m : List UInt8) (c : UInt8) (i : Int) (hi : i = (c.toNat : Int)) (hm : m.length ≤ 100000000000000) : q8z (i, (), bi m, ()) = some ((), bi (m ++ [c]), ()) := by
  subst hi
  unfold q8z copyCheckN
  have e : bi m ++ ([(c.toNat : Int)] : List Int) = bi (m ++ [c]) := by rw [bi_app]; rfl
  simp only [Option.bind_some, e]
  rw [ck_ok (room1 (by rw [bi_length, List.length_append, List.length_singleton]; omega))]
theorem wStr (m : List UInt8) (s : ByteArray) (hm : m.length ≤ 100000000000000) (hs : s.size ≤ 10000) : q6z (s, (), bi m, ()) = some ((s.size : Int), (), bi (m ++ s.data.toList), ()) := by
  unfold q6z copyCheckN
  have e : bi m ++ bytesI s = bi (m ++ s.data.toList) := by rw [bi_app]; rfl
  simp only [Option.bind_some, e]
  rw [ck_ok (room1 (by rw [bi_length, List.length_append]; have : s.data.toList.length = s.size := rfl; omega))]
theorem wRune (m : List UInt8) (r : Int) (h0 : 0 ≤ r) (h1 : r ≤ 1114111) (hm : m.length ≤ 100000000000000) : ∃ y, q9z (r, (), bi m, ()) = some (y, (), bi (m ++ Lib.encodeRune r), ()) := by
  unfold q9z copyCheckN
  have e := appRune_ok r (bi m) h0 h1 (by rw [bi_length]; exact hm)
  rw [← enc_bi, ← bi_app] at e
  simp only [Option.bind_some, e]
  exact ⟨_, rfl⟩
theorem decodeL_lt (l : List UInt8) : (Lib.decodeL l).1 ≤ 1114111 := by
  rw [Lib.decodeL_N]
  have k0 := (l.getD 0 0).toNat_lt
  unfold Lib.decodeN
  repeat' split
  all_goals simp only
  all_goals omega
end Pure


/- Values are written: what it gives. No program. -/
namespace Pure
open Esp Ev Go
set_option linter.unusedSimpArgs false
set_option linter.unusedVariables false
set_option linter.unusedSimpArgs false
set_option linter.unusedVariables false

theorem tell_round {ρ : Type} (self : Val × Unit × (List Int) × Unit → Option (Unit × (List Int) × Unit)) (n : Nat) (rec : (ByteArray × Nat) × Unit × (List Int) × Unit → Option ρ) (kx : Unit × (List Int) × Unit → Option ρ) (kr : Unit → Option ρ)
    (s : ByteArray) (pos : Nat) (b : UInt8) (t m : List UInt8) (ht : s.data.toList.drop pos = b :: t) (hv : ¬ ((Lib.decodeL (b :: t)).1 = 65533 ∧ (Lib.decodeL (b :: t)).2 = 1)) (hm : m.length ≤ 100000000000000 - 10) :
    ∃ e, esc (b :: t) = e ++ esc ((b :: t).drop (Lib.decodeL (b :: t)).2) ∧ q52z_s1 self n rec kx kr ((s, pos), (), bi m, ()) = rec ((s, pos + (Lib.decodeL (b :: t)).2), (), bi (m ++ e), ()) := by
  have hd : Utf8.decode s pos = Lib.decodeL (b :: t) := by rw [← ht, Lib.decodeL_drop]
  have hlt : Nat.blt pos s.size = true := by
    rw [Nat.blt_eq]
    have h1 := congrArg List.length ht
    rw [List.length_drop, List.length_cons] at h1
    have h2 : s.data.toList.length = s.size := rfl
    omega
  have hr := rune_head b t hv
  have hle := decodeL_lt (b :: t)
  have hen := Lib.encode_decode (b :: t) (by simp) hv
  obtain ⟨⟨r, w⟩, hdr⟩ : ∃ d, Lib.decodeL (b :: t) = d := ⟨_, rfl⟩
  rw [hdr] at hr hv hle hen
  dsimp only at hr hle hen ⊢
  have hR : ∀ (m : List UInt8), m.length ≤ 100000000000000 → ∃ y, q9z ((r : Int), (), bi m, ()) = some (y, (), bi (m ++ (b :: t).take w), ()) := fun m hm => by
    have := wRune m (r : Int) (by omega) (by omega) hm
    rwa [hen] at this
  unfold q52z_s1
  simp only [hlt, hd, hdr, cond_true]
  rcases hr with ⟨hb, he⟩ | ⟨hb, he⟩
  · obtain ⟨rfl, rfl⟩ : r = b.toNat ∧ w = 1 := by injection he with h1 h2; exact ⟨h1, h2⟩
    by_cases c39 : b = 39
    · subst c39
      refine ⟨[92, 39], rfl, ?_⟩
      obtain ⟨y, hy⟩ := hR (m ++ [92]) (by rw [List.length_append, List.length_singleton]; omega)
      have e0 : (((39 : UInt8).toNat : Int) == 39) = true := by decide
      simp only [e0, cond_true, wByte m 92 92 rfl (by omega), Option.bind_some, hy]
      rw [List.append_assoc]; rfl
    · have e0 : ((b.toNat : Int) == 39) = false := by rw [beq_eq_false_iff_ne]; intro h; apply c39; apply UInt8.toNat_inj.1; show b.toNat = 39; omega
      by_cases c92 : b = 92
      · subst c92
        refine ⟨[92, 92], rfl, ?_⟩
        obtain ⟨y, hy⟩ := hR (m ++ [92]) (by rw [List.length_append, List.length_singleton]; omega)
        have e1 : (((92 : UInt8).toNat : Int) == 92) = true := by decide
        simp only [e0, e1, cond_true, cond_false, wByte m 92 92 rfl (by omega), Option.bind_some, hy]
        rw [List.append_assoc]; rfl
      · have e1 : ((b.toNat : Int) == 92) = false := by rw [beq_eq_false_iff_ne]; intro h; apply c92; apply UInt8.toNat_inj.1; show b.toNat = 92; omega
        by_cases c10 : b = 10
        · subst c10
          refine ⟨[92, 110], rfl, ?_⟩
          obtain ⟨y, hy⟩ := wRune (m ++ [92]) 110 (by omega) (by omega) (by rw [List.length_append, List.length_singleton]; omega)
          have e2 : (((10 : UInt8).toNat : Int) == 10) = true := by decide
          simp only [e0, e1, e2, cond_true, cond_false, wByte m 92 92 rfl (by omega), Option.bind_some, hy]
          rw [List.append_assoc]; rfl
        · have e2 : ((b.toNat : Int) == 10) = false := by rw [beq_eq_false_iff_ne]; intro h; apply c10; apply UInt8.toNat_inj.1; show b.toNat = 10; omega
          refine ⟨[b], ?_, ?_⟩
          · rw [esc]
            have : eb b = [b] := by
              unfold eb
              rw [beq_eq_false_iff_ne.2 c39, beq_eq_false_iff_ne.2 c92, beq_eq_false_iff_ne.2 c10]
              rfl
            rw [this]
            rfl
          · obtain ⟨y, hy⟩ := hR m (by omega)
            simp only [e0, e1, e2, cond_false, Option.bind_some, hy]
            rfl
  · have e0 : ((r : Int) == 39) = false := by rw [beq_eq_false_iff_ne]; omega
    have e1 : ((r : Int) == 92) = false := by rw [beq_eq_false_iff_ne]; omega
    have e2 : ((r : Int) == 10) = false := by rw [beq_eq_false_iff_ne]; omega
    have hesc := esc_rune (b :: t) (by simp) (by rw [hdr]; exact hv) (by rw [hdr]; exact he)
    rw [hdr] at hesc
    refine ⟨(b :: t).take w, hesc, ?_⟩
    obtain ⟨y, hy⟩ := hR m (by omega)
    simp only [e0, e1, e2, cond_false, Option.bind_some, hy]
theorem tell_text {ρ : Type} (self : Val × Unit × (List Int) × Unit → Option (Unit × (List Int) × Unit)) (n : Nat) (kx : Unit × (List Int) × Unit → Option ρ) (kr : Unit → Option ρ) (s : ByteArray) :
    ∀ (k : Nat) (t m : List UInt8) (pos fuel : Nat), t.length ≤ k → s.data.toList.drop pos = t → Lib.validD t = true → k < fuel → m.length + (esc t).length ≤ 100000000000000 - 10 →
      iterN (fun rc => q52z_s1 self n rc kx kr) fuel ((s, pos), (), bi m, ()) = kx ((), bi (m ++ esc t), ()) := by
  intro k
  induction k with
  | zero =>
    intro t m pos fuel hk ht hv hf hm
    obtain ⟨f, rfl⟩ : ∃ f, fuel = f + 1 := ⟨fuel - 1, by omega⟩
    obtain rfl : t = [] := List.length_eq_zero_iff.1 (by omega)
    exact last n s pos f m ht
  | succ k ih =>
    intro t m pos fuel hk ht hv hf hm
    obtain ⟨f, rfl⟩ : ∃ f, fuel = f + 1 := ⟨fuel - 1, by omega⟩
    cases t with
    | nil => exact last n s pos f m ht
    | cons b t =>
      obtain ⟨h1, h2⟩ := valid_step hv (by simp)
      have hw := width1 (b :: t)
      obtain ⟨e, he, hr⟩ := tell_round self n (iterN (fun rc => q52z_s1 self n rc kx kr) f) kx kr s pos b t m ht h1 (by omega)
      rw [iterN, hr]
      have hl := congrArg List.length he
      rw [List.length_append] at hl
      rw [ih ((b :: t).drop (Lib.decodeL (b :: t)).2) (m ++ e) _ f (by rw [List.length_drop]; omega) (by rw [← ht, List.drop_drop]) h2 (by omega) (by rw [List.length_append]; omega), he, List.append_assoc]
where
  last (n : Nat) (s : ByteArray) (pos f : Nat) (m : List UInt8) (ht : s.data.toList.drop pos = []) : iterN (fun rc => q52z_s1 self n rc kx kr) (f + 1) ((s, pos), (), bi m, ()) = kx ((), bi (m ++ esc []), ()) := by
    have hlt : Nat.blt pos s.size = false := by
      rw [Bool.eq_false_iff, ne_eq, Nat.blt_eq]
      have h1 := congrArg List.length ht
      rw [List.length_drop, List.length_nil] at h1
      have h2 : s.data.toList.length = s.size := rfl
      omega
    rw [iterN]
    unfold q52z_s1
    simp only [hlt, cond_false, esc, List.append_nil]
theorem tell_fold {ρ : Type} (self : Val × Unit × (List Int) × Unit → Option (Unit × (List Int) × Unit)) (n : Nat) (kr : Unit → Option ρ) (k : Unit × (List Int) × Unit → Option ρ) (C : Nat) :
    ∀ (r : List Val) (i : Int) (m : List UInt8), 0 < i → (∀ x ∈ r, (prV x).length ≤ C ∧ ∀ m : List UInt8, m.length + C ≤ 100000000000000 - 100 → self (x, (), bi m, ()) = some ((), bi (m ++ prV x), ())) → m.length + r.length * (C + 1) ≤ 100000000000000 - 100 →
      foldK (F_q52z_s4 self n kr) k i r ((), bi m, ()) = k ((), bi (m ++ prT r), ()) := by
  intro r
  induction r with
  | nil => intro i m _ _ _; rw [foldK, prT, List.append_nil]
  | cons x r ih =>
    intro i m hi hs hm
    obtain ⟨h1, h2⟩ := hs x (by simp)
    rw [List.length_cons, Nat.succ_mul] at hm
    have := ih (i + 1) (m ++ [44] ++ prV x) (by omega) (fun y hy => hs y (by simp [hy])) (by simp only [List.length_append, List.length_singleton]; omega)
    rw [foldK]
    generalize foldK (F_q52z_s4 self n kr) k (i + 1) r = K at this ⊢
    unfold F_q52z_s4
    simp only [decide_eq_true (show i > 0 from hi), cond_true, wByte m 44 44 rfl (by omega), Option.bind_some, Val.eta]
    rw [h2 (m ++ [44]) (by rw [List.length_append, List.length_singleton]; omega)]
    simp only [Option.bind_some]
    refine this.trans ?_
    rw [prT]
    simp
theorem tell_fold0 {ρ : Type} (self : Val × Unit × (List Int) × Unit → Option (Unit × (List Int) × Unit)) (n : Nat) (kr : Unit → Option ρ) (k : Unit × (List Int) × Unit → Option ρ) (C : Nat)
    (r : List Val) (m : List UInt8) (hs : ∀ x ∈ r, (prV x).length ≤ C ∧ ∀ m : List UInt8, m.length + C ≤ 100000000000000 - 100 → self (x, (), bi m, ()) = some ((), bi (m ++ prV x), ())) (hm : m.length + r.length * (C + 1) ≤ 100000000000000 - 100) :
      foldK (F_q52z_s4 self n kr) k 0 r ((), bi m, ()) = k ((), bi (m ++ prL r), ()) := by
  cases r with
  | nil => rw [foldK, prL, List.append_nil]
  | cons x r =>
    obtain ⟨h1, h2⟩ := hs x (by simp)
    rw [List.length_cons, Nat.succ_mul] at hm
    have := tell_fold self n kr k C r (0 + 1) (m ++ prV x) (by omega) (fun y hy => hs y (by simp [hy])) (by simp only [List.length_append]; omega)
    rw [foldK]
    have e0 : decide ((0 : Int) > 0) = false := by decide
    generalize foldK (F_q52z_s4 self n kr) k (0 + 1) r = K at this ⊢
    unfold F_q52z_s4
    simp only [e0, cond_false, Val.eta]
    rw [h2 m (by omega)]
    simp only [Option.bind_some]
    refine this.trans ?_
    rw [prL, List.append_assoc]
theorem prT_len {C : Nat} : ∀ {l : List Val}, (∀ x ∈ l, (prV x).length ≤ C) → (prT l).length ≤ l.length * (C + 1)
  | [], _ => by simp [prT]
  | x :: r, h => by
    have h1 := h x (by simp)
    have h2 := prT_len (C := C) (l := r) fun y hy => h y (by simp [hy])
    rw [prT, List.length_cons, List.length_append, List.length_cons, Nat.succ_mul]
    omega
theorem prL_len {C : Nat} {l : List Val} (h : ∀ x ∈ l, (prV x).length ≤ C) : (prL l).length ≤ l.length * (C + 1) := by
  cases l with
  | nil => simp [prL]
  | cons x r =>
    have h1 := h x (by simp)
    have h2 := prT_len (C := C) (l := r) fun y hy => h y (by simp [hy])
    rw [prL, List.length_append, List.length_cons, Nat.succ_mul]
    omega
def capV (d : Int) : Nat := 8002 * 32 ^ (7 - d).toNat
theorem capV_le {d : Int} (h : 1 ≤ d) : 8002 ≤ capV d ∧ capV d ≤ 8600000000000 := by
  unfold capV
  have h1 : 1 ≤ 32 ^ (7 - d).toNat := Nat.one_le_pow _ _ (by decide)
  have h2 : 32 ^ (7 - d).toNat ≤ 32 ^ 6 := Nat.pow_le_pow_right (by decide) (by omega)
  omega
theorem capV_step {d : Int} (h : d ≤ 6) : capV d = 32 * capV (d + 1) := by
  unfold capV
  rw [show (7 - d).toNat = (7 - (d + 1)).toNat + 1 by omega, Nat.pow_succ]
  omega
theorem digits_len : ∀ (k u : Nat), u < 10 ^ (k + 1) → (Lib.decDigits u).length ≤ k + 1
  | k, u, h => by
    rw [Lib.decDigits]
    split
    · simp
    · rename_i g
      cases k with
      | zero => simp at h; omega
      | succ k =>
        have := digits_len k (u / 10) (by rw [Nat.pow_succ] at h; omega)
        rw [List.length_append, List.length_singleton]
        omega
theorem itoa_len (n : Int) (h : wfI .i64 n) : (Lib.itoa n).length ≤ 8000 := by
  have h0 := i64_range h
  unfold Lib.itoa
  split
  · have := digits_len 20 n.natAbs (by omega)
    rw [List.length_cons]
    omega
  · have := digits_len 20 n.toNat (by omega)
    omega
theorem prV_len (v : Val) : ∀ d, Right v d → 1 ≤ d → d ≤ 7 → (prV v).length ≤ capV d := by
  induction v using val_ind with
  | _ k a s l ih =>
    intro d hr h1 h7
    have hc := capV_le h1
    cases hr with
    | null d => rw [prV]; simp; omega
    | truth n d h => rw [prV]; rcases h with rfl | rfl <;> (simp; omega)
    | int n d h =>
      rw [prV]
      show (Lib.itoa a).length ≤ _
      have := itoa_len a h
      omega
    | text s d h hv =>
      rw [prV]
      show (39 :: (esc s.data.toList ++ [39])).length ≤ _
      have := esc_len s.data.toList
      have h2 : s.data.toList.length = s.size := rfl
      rw [List.length_cons, List.length_append, List.length_singleton]
      omega
    | list l d h30 h6 h =>
      rw [prV]
      show (91 :: (prL l ++ [93])).length ≤ _
      have h2 := prL_len (C := capV (d + 1)) fun x hx => ih x hx (d + 1) (h x hx) (by omega) (by omega)
      have h3 := capV_step h6
      have h4 := capV_le (d := d + 1) (by omega)
      have h5 : l.length * (capV (d + 1) + 1) ≤ 30 * (capV (d + 1) + 1) := Nat.mul_le_mul_right _ h30
      rw [List.length_cons, List.length_append, List.length_singleton]
      omega
theorem itoaN_eq {n : Int} (h : wfI .i64 n) : itoaN (n, ()) = some (⟨(Lib.itoa n).toArray⟩, ()) := by
  have := i64_range h
  unfold itoaN
  show (bif decide (-9223372036854775808 ≤ n) && decide (n ≤ 9223372036854775807) then _ else _) = _
  rw [decide_eq_true this.1, decide_eq_true this.2]
  rfl
theorem tell_ok (v : Val) : ∀ (d : Int) (n : Nat) (m : List UInt8), Right v d → 1 ≤ d → d ≤ 7 → 5010 ≤ n + d.toNat → m.length + capV d ≤ 100000000000000 - 100 → q52z n (v, (), bi m, ()) = some ((), bi (m ++ prV v), ()) := by
  induction v using val_ind with
  | _ k a s l ih =>
    intro d n m hr h1 h7 hn hm
    obtain ⟨f, rfl⟩ : ∃ f, n = f + 1 := ⟨n - 1, by omega⟩
    have hc := capV_le h1
    rw [q52z]
    have e0 : ((0 : Int) == 0) = true := rfl
    have e10 : ((1 : Int) == 0) = false := rfl
    have e11 : ((1 : Int) == 1) = true := rfl
    have e20 : ((2 : Int) == 0) = false := rfl
    have e21 : ((2 : Int) == 1) = false := rfl
    have e22 : ((2 : Int) == 2) = true := rfl
    have e30 : ((3 : Int) == 0) = false := rfl
    have e31 : ((3 : Int) == 1) = false := rfl
    have e32 : ((3 : Int) == 2) = false := rfl
    have e33 : ((3 : Int) == 3) = true := rfl
    have e40 : ((4 : Int) == 0) = false := rfl
    have e41 : ((4 : Int) == 1) = false := rfl
    have e42 : ((4 : Int) == 2) = false := rfl
    have e43 : ((4 : Int) == 3) = false := rfl
    have e44 : ((4 : Int) == 4) = true := rfl
    simp only [q52z_b]
    cases hr with
    | null d =>
      rw [prV]
      dsimp +instances only [kind_mk, n_mk, s_mk, l_mk]
      rw [e0, cond_true]
      rw [wStr m _ (by omega) (by decide)]
      rfl
    | truth n d h =>
      rcases h with rfl | rfl
      · have eF : q25z ((0 : Int) == 1, ()) = some (⟨#[102, 97, 108, 115, 101]⟩, ()) := rfl
        dsimp +instances only [kind_mk, n_mk, s_mk, l_mk]
        rw [e10, cond_false, e11, cond_true, eF, Option.bind_some]
        dsimp only
        rw [wStr m _ (by omega) (by decide)]
        rw [prV]
        rfl
      · have eF : q25z ((1 : Int) == 1, ()) = some (⟨#[116, 114, 117, 101]⟩, ()) := rfl
        dsimp +instances only [kind_mk, n_mk, s_mk, l_mk]
        rw [eF, e10, cond_false, e11, cond_true, Option.bind_some]
        dsimp only
        rw [wStr m _ (by omega) (by decide)]
        rw [prV]
        rfl
    | int n d h =>
      dsimp +instances only [kind_mk, n_mk, s_mk, l_mk]
      rw [e20, cond_false, e21, cond_false, e22, cond_true, itoaN_eq h, Option.bind_some]
      dsimp only
      have hl := itoa_len a h
      rw [wStr m _ (by omega) (by show (Lib.itoa a).toArray.size ≤ _; simp; omega)]
      rw [prV]
      show some ((), bi (m ++ (Lib.itoa a).toArray.toList), ()) = _
      simp only [List.toList_toArray]
      rfl
    | text s d h hv =>
      have h2 : s.data.toList.length = s.size := rfl
      have he := esc_len s.data.toList
      dsimp +instances only [kind_mk, n_mk, s_mk, l_mk]
      rw [e30, cond_false, e31, cond_false, e32, cond_false, e33, cond_true]
      rw [wByte m 39 39 rfl (by omega)]
      simp only [Option.bind_some]
      have := tell_text (ρ := Unit × List Int × Unit) (q52z f) f (fun (o46, o47, _) => (q8z (39, (), o47, ())).bind fun (o48, o49, _) => some ((), o49, ())) (fun _ => none) s 4000 s.data.toList (m ++ [39]) 0 f (by omega) rfl hv (by omega) (by rw [List.length_append, List.length_singleton]; omega)
      refine this.trans ?_
      simp only
      rw [wByte _ 39 39 rfl (by simp only [List.length_append, List.length_singleton]; omega)]
      simp only [Option.bind_some]
      rw [prV]
      simp
    | list l d h30 h6 h =>
      have h3 := capV_step h6
      have h4 := capV_le (d := d + 1) (by omega)
      have h5 : l.length * (capV (d + 1) + 1) ≤ 30 * (capV (d + 1) + 1) := Nat.mul_le_mul_right _ h30
      have hp : (prL l).length ≤ l.length * (capV (d + 1) + 1) := prL_len fun x hx => prV_len x (d + 1) (h x hx) (by omega) (by omega)
      dsimp +instances only [kind_mk, n_mk, s_mk, l_mk]
      rw [e40, cond_false, e41, cond_false, e42, cond_false, e43, cond_false, e44, cond_true]
      rw [wByte m 91 91 rfl (by omega)]
      simp only [Option.bind_some]
      refine (R_q52z_s4 (ρ := Unit × List Int × Unit) (q52z f) f _ _ l f () (bi (m ++ [91])) (by omega) (by omega)).trans ?_
      refine (tell_fold0 (q52z f) f _ _ (capV (d + 1)) l (m ++ [91]) (fun x hx => ⟨prV_len x (d + 1) (h x hx) (by omega) (by omega), fun m hm => ih x hx (d + 1) f m (h x hx) (by omega) (by omega) (by omega) (by omega)⟩) (by rw [List.length_append, List.length_singleton]; omega)).trans ?_
      simp only
      rw [wByte _ 93 93 rfl (by simp only [List.length_append, List.length_singleton]; omega)]
      simp only [Option.bind_some]
      rw [prV]
      simp
end Pure


/- Values that are written are read back. No program. -/
namespace Pure
open Esp Ev Go
set_option linter.unusedSimpArgs false
set_option linter.unusedVariables false
set_option linter.unusedSimpArgs false
set_option linter.unusedVariables false

def At (s : ByteArray) (a : Int) (t : List UInt8) : Prop := ∃ p : List UInt8, s.data.toList = p ++ t ∧ a = (p.length : Int)
theorem At.len {s : ByteArray} {a : Int} {t : List UInt8} (h : At s a t) : 0 ≤ a ∧ a + (t.length : Int) = (s.size : Int) := by
  obtain ⟨p, h1, rfl⟩ := h
  have h2 := congrArg List.length h1
  rw [List.length_append] at h2
  have h3 : s.data.toList.length = s.size := rfl
  omega
theorem At.go {s : ByteArray} {a : Int} {w t : List UInt8} (h : At s a (w ++ t)) : At s (a + (w.length : Int)) t := by
  obtain ⟨p, h1, rfl⟩ := h
  exact ⟨p ++ w, by rw [h1, List.append_assoc], by rw [List.length_append]; omega⟩
theorem ba_ext {s t : ByteArray} (h : s.data.toList = t.data.toList) : s = t := by
  cases s; cases t
  congr 1
  exact Array.toList_inj.1 h
theorem At.cut {s : ByteArray} {a : Int} {w t : List UInt8} (h : At s a (w ++ t)) : ssl s a (a + (w.length : Int)) = some ⟨w.toArray⟩ := by
  have hl := h.len
  rw [List.length_append] at hl
  obtain ⟨p, h1, rfl⟩ := h
  unfold ssl
  rw [if_pos ⟨by omega, by omega, by omega⟩]
  congr 1
  apply ba_ext
  rw [ByteArray.data_extract, Array.toList_extract, List.extract_eq_take_drop, h1]
  simp
  rw [show ((p.length : Int) + (w.length : Int)).toNat - p.length = w.length by omega]
  simp
theorem At.rest {s : ByteArray} {a : Int} {t : List UInt8} (h : At s a t) : ssl s a (s.size : Int) = some ⟨t.toArray⟩ := by
  have hl := h.len
  have := At.cut (w := t) (t := []) (by rw [List.append_nil]; exact h)
  rwa [hl.2] at this
theorem At.byte {s : ByteArray} {a : Int} {c : UInt8} {t : List UInt8} (h : At s a (c :: t)) : sat s a = some (c.toNat : Int) := by
  obtain ⟨p, h1, rfl⟩ := h
  unfold sat
  rw [if_pos (by omega), h1]
  simp
theorem hasPrefix_eq (t w : List UInt8) : q5z ((⟨t.toArray⟩ : ByteArray), (⟨w.toArray⟩ : ByteArray), ()) = some (w.isPrefixOf t, ()) := by
  unfold q5z
  have st : ((⟨t.toArray⟩ : ByteArray).size : Int) = (t.length : Int) := by show ((t.toArray.size : Nat) : Int) = _; simp
  have sw : ((⟨w.toArray⟩ : ByteArray).size : Int) = (w.length : Int) := by show ((w.toArray.size : Nat) : Int) = _; simp
  have sw' : (⟨w.toArray⟩ : ByteArray).size = w.length := by show w.toArray.size = _; simp
  simp only [st, sw, sw']
  by_cases h : (t.length : Int) ≥ (w.length : Int)
  · rw [decide_eq_true h, cond_true]
    have ha : At (⟨t.toArray⟩ : ByteArray) 0 (t.take w.length ++ t.drop w.length) := ⟨[], by rw [List.take_append_drop]; simp, rfl⟩
    have hc := ha.cut
    rw [List.length_take, Nat.min_eq_left (by omega), Int.zero_add] at hc
    rw [hc]
    simp only [Option.bind_some]
    congr 1
    congr 1
    rw [Bool.eq_iff_iff, seq_iff, List.isPrefixOf_iff_prefix]
    constructor
    · intro e
      have := congrArg (fun b : ByteArray => b.data.toList) e
      simp only [List.toList_toArray] at this
      rw [← this]
      exact List.take_prefix _ _
    · intro e
      rw [List.prefix_iff_eq_take] at e
      rw [← e]
  · rw [decide_eq_false h, cond_false]
    congr 1
    congr 1
    symm
    rw [Bool.eq_false_iff, ne_eq, List.isPrefixOf_iff_prefix]
    intro e
    have := e.length_le
    omega
theorem eat_eq {s : ByteArray} {a : Int} {t : List UInt8} (h : At s a t) (w : List UInt8) (hw : w.length ≤ 1000) (hs : s.size ≤ 4000) : q27z ((⟨w.toArray⟩ : ByteArray), (s, a, ()), ()) = some (w.isPrefixOf t, (s, (bif w.isPrefixOf t then a + (w.length : Int) else a), ()), ()) := by
  have hl := h.len
  unfold q27z q28z
  have sw : (⟨w.toArray⟩ : ByteArray).size = w.length := by show w.toArray.size = _; simp
  simp only [h.rest, hasPrefix_eq, Option.bind_some, sw]
  cases w.isPrefixOf t
  · rfl
  · simp only [Bool.not_true, cond_false, cond_true]
    rw [wrap64 (by omega) (by omega)]
theorem eat_yes {s : ByteArray} {a : Int} {w t : List UInt8} (h : At s a (w ++ t)) (hw : w.length ≤ 1000) (hs : s.size ≤ 4000) : q27z ((⟨w.toArray⟩ : ByteArray), (s, a, ()), ()) = some (true, (s, a + (w.length : Int), ()), ()) := by
  have : w.isPrefixOf (w ++ t) = true := by rw [List.isPrefixOf_iff_prefix]; exact List.prefix_append _ _
  rw [eat_eq h w hw hs, this]
  rfl
theorem eat_no {s : ByteArray} {a : Int} {w t : List UInt8} (h : At s a t) (hw : w.length ≤ 1000) (hs : s.size ≤ 4000) (hn : w.isPrefixOf t = false) : q27z ((⟨w.toArray⟩ : ByteArray), (s, a, ()), ()) = some (false, (s, a, ()), ()) := by
  rw [eat_eq h w hw hs, hn]
  rfl
theorem pre_no {c d : UInt8} {w t : List UInt8} (h : (c == d) = false) : (c :: w).isPrefixOf (d :: t) = false := by
  rw [List.isPrefixOf, h, Bool.false_and]
theorem bytesOf_bi (m : List UInt8) : Lib.bytesOf (bi m) = m := by
  unfold Lib.bytesOf bi
  rw [List.map_map]
  conv => rhs; rw [← List.map_id m]
  apply List.map_congr_left
  intro x _
  simp
theorem stringN_bi (m : List UInt8) : stringN ((), bi m, ()) = some (⟨m.toArray⟩, ()) := by
  unfold stringN bytesZ
  dsimp only
  rw [bytesOf_bi]
theorem decodeN_eq {t : List UInt8} (h : t ≠ []) : decodeN ((⟨t.toArray⟩ : ByteArray), ()) = some (((Lib.decodeL t).1 : Int), ((Lib.decodeL t).2 : Int), ()) := by
  unfold decodeN
  have : Lib.decodeGo (⟨t.toArray⟩ : ByteArray) = Lib.decodeL t := by
    unfold Lib.decodeGo Lib.decodeL
    rw [if_neg]
    show ¬ t.toArray.size = 0
    simpa using h
  simp only [this]
theorem read_tail {ρ : Type} (n : Nat) (rec : Unit × (List Int) × (ByteArray × Int × Unit) × Unit → Option ρ) (kx : Unit → Option ρ) (kr : ByteArray × (ByteArray × Int × Unit) × Unit → Option ρ)
  (s : ByteArray) (a : Int) (b : UInt8) (t m : List UInt8) (d : Nat × Nat) (e : List UInt8) (h : At s a (b :: t)) (hd : Lib.decodeL (b :: t) = d) (c39 : b ≠ 39) (c92 : b ≠ 92)
  (hv : ¬ (d.1 = 65533 ∧ d.2 = 1)) (n92 : d.1 ≠ 92) (n10 : d.1 ≠ 10) (h0 : d.2 ≠ 0) (hs : s.size ≤ 4000) (hm : m.length ≤ 100000) (hw : (d.2 : Int) ≤ 4000) (hle : d.1 ≤ 1114111) (hen : Lib.encodeRune (d.1 : Int) = e) :
    q24z_s0 n rec kx kr ((), bi m, (s, a, ()), ()) = rec ((), bi (m ++ e), (s, a + (d.2 : Int), ()), ()) := by
  have hl := h.len
  have n39 : ((39 : UInt8) == b) = false := beq_eq_false_iff_ne.2 (Ne.symm c39)
  have n92' : ((92 : UInt8) == b) = false := beq_eq_false_iff_ne.2 (Ne.symm c92)
  unfold q24z_s0
  dsimp only
  rw [eat_no h (w := [39]) (by decide) hs (pre_no n39)]
  simp only [Option.bind_some, cond_false]
  rw [eat_no h (w := [92, 110]) (by decide) hs (pre_no n92')]
  simp only [Option.bind_some, cond_false]
  rw [eat_no h (w := [92, 39]) (by decide) hs (pre_no n92')]
  simp only [Option.bind_some, cond_false]
  rw [eat_no h (w := [92, 92]) (by decide) hs (pre_no n92')]
  simp only [Option.bind_some, cond_false, h.rest]
  rw [decodeN_eq (by simp), hd]
  have q0 : ((d.2 : Int) == 0) = false := by rw [beq_eq_false_iff_ne]; omega
  have q1 : (((d.1 : Int) == 65533) && ((d.2 : Int) == 1)) = false := by
    rw [Bool.eq_false_iff, ne_eq, Bool.and_eq_true, beq_iff_eq, beq_iff_eq]
    omega
  have q2 : ((d.1 : Int) == 92) = false := by rw [beq_eq_false_iff_ne]; omega
  have q3 : ((d.1 : Int) == 10) = false := by rw [beq_eq_false_iff_ne]; omega
  simp only [Option.bind_some, q0, q1, q2, q3, Bool.or_self, cond_false]
  obtain ⟨y, hy⟩ := wRune m (d.1 : Int) (by omega) (by omega) (by omega)
  rw [hy, hen]
  simp only [Option.bind_some]
  rw [wrap64 (by omega) (by omega)]
theorem read_round {ρ : Type} (n : Nat) (rec : Unit × (List Int) × (ByteArray × Int × Unit) × Unit → Option ρ) (kx : Unit → Option ρ) (kr : ByteArray × (ByteArray × Int × Unit) × Unit → Option ρ)
    (s : ByteArray) (a : Int) (b : UInt8) (t m u : List UInt8) (h : At s a (esc (b :: t) ++ u)) (hs : s.size ≤ 4000) (hm : m.length ≤ 100000) (hv : ¬ ((Lib.decodeL (b :: t)).1 = 65533 ∧ (Lib.decodeL (b :: t)).2 = 1)) :
    ∃ e, esc (b :: t) = e ++ esc ((b :: t).drop (Lib.decodeL (b :: t)).2) ∧ q24z_s0 n rec kx kr ((), bi m, (s, a, ()), ()) = rec ((), bi (m ++ (b :: t).take (Lib.decodeL (b :: t)).2), (s, a + (e.length : Int), ()), ()) := by
  have hr := rune_head b t hv
  have hle := decodeL_lt (b :: t)
  have hlw := Lib.decodeL_le (b :: t) (by simp)
  have hen := Lib.encode_decode (b :: t) (by simp) hv
  have happ := decodeL_app (b :: t)
  have hesc := esc_rune (b :: t) (by simp) hv
  have hl := h.len
  unfold q24z_s0
  dsimp only
  rcases hr with ⟨hb, he⟩ | ⟨hb, he⟩
  · rw [he]
    have esp : ∀ c : UInt8, (c = 39 ∨ c = 92) → eb c = [92, c] := fun c hc => by rcases hc with rfl | rfl <;> rfl
    by_cases c39 : b = 39
    · subst c39
      have h : At s a (92 :: 39 :: (esc t ++ u)) := h
      refine ⟨[92, 39], rfl, ?_⟩
      rw [eat_no h (w := [39]) (by decide) hs (pre_no (by decide))]
      simp only [Option.bind_some, cond_false]
      rw [eat_no h (w := [92, 110]) (by decide) hs rfl]
      simp only [Option.bind_some, cond_false]
      rw [eat_yes (w := [92, 39]) h (by decide) hs]
      simp only [Option.bind_some, cond_true]
      rw [wByte m 39 39 rfl (by omega)]
      rfl
    · by_cases c92 : b = 92
      · subst c92
        have h : At s a (92 :: 92 :: (esc t ++ u)) := h
        refine ⟨[92, 92], rfl, ?_⟩
        rw [eat_no h (w := [39]) (by decide) hs (pre_no (by decide))]
        simp only [Option.bind_some, cond_false]
        rw [eat_no h (w := [92, 110]) (by decide) hs rfl]
        simp only [Option.bind_some, cond_false]
        rw [eat_no h (w := [92, 39]) (by decide) hs rfl]
        simp only [Option.bind_some, cond_false]
        rw [eat_yes (w := [92, 92]) h (by decide) hs]
        simp only [Option.bind_some, cond_true]
        rw [wByte m 92 92 rfl (by omega)]
        rfl
      · by_cases c10 : b = 10
        · subst c10
          have h : At s a (92 :: 110 :: (esc t ++ u)) := h
          refine ⟨[92, 110], rfl, ?_⟩
          rw [eat_no h (w := [39]) (by decide) hs (pre_no (by decide))]
          simp only [Option.bind_some, cond_false]
          rw [eat_yes (w := [92, 110]) h (by decide) hs]
          simp only [Option.bind_some, cond_true]
          rw [wByte m 10 10 rfl (by omega)]
          rfl
        · have hbe : eb b = [b] := by
            unfold eb
            rw [beq_eq_false_iff_ne.2 c39, beq_eq_false_iff_ne.2 c92, beq_eq_false_iff_ne.2 c10]
            rfl
          have h : At s a (b :: (esc t ++ u)) := by rw [esc, hbe] at h; exact h
          refine ⟨[b], by rw [esc, hbe]; rfl, ?_⟩
          exact read_tail n rec kx kr s a b (esc t ++ u) m (b.toNat, 1) [b] h (by rw [Lib.decodeL_ascii b _ hb]) c39 c92 (by dsimp only; omega) (by dsimp only; intro hh; exact c92 (UInt8.toNat_inj.1 hh)) (by dsimp only; intro hh; exact c10 (UInt8.toNat_inj.1 hh)) (by dsimp only; omega) hs hm (by dsimp only; omega) (by dsimp only; omega) (by rw [he] at hen; exact hen)
  · have c39 : b ≠ 39 := by rintro rfl; revert hb; decide
    have c92 : b ≠ 92 := by rintro rfl; revert hb; decide
    have e := hesc he
    have hw := width1 (b :: t)
    refine ⟨(b :: t).take (Lib.decodeL (b :: t)).2, e, ?_⟩
    rw [e, List.append_assoc] at h
    have hap := happ (esc ((b :: t).drop (Lib.decodeL (b :: t)).2) ++ u) (by simp) hv
    have hlen : ((b :: t).take (Lib.decodeL (b :: t)).2).length = (Lib.decodeL (b :: t)).2 := by rw [List.length_take]; omega
    obtain ⟨w, hw2⟩ : ∃ w, (Lib.decodeL (b :: t)).2 = w + 1 := ⟨(Lib.decodeL (b :: t)).2 - 1, by omega⟩
    have hcons : (b :: t).take (Lib.decodeL (b :: t)).2 = b :: t.take w := by rw [hw2, List.take_succ_cons]
    have h2 := h.len
    rw [List.length_append] at h2
    rw [hcons, List.cons_append] at h hap
    rw [hlen]
    exact read_tail n rec kx kr s a b _ m (Lib.decodeL (b :: t)) _ h hap c39 c92 hv (by omega) (by omega) (by omega) hs hm (by omega) hle hen
theorem read_text {ρ : Type} (n : Nat) (kx : Unit → Option ρ) (kr : ByteArray × (ByteArray × Int × Unit) × Unit → Option ρ) (s : ByteArray) (hs : s.size ≤ 4000) (u : List UInt8) :
    ∀ (k : Nat) (t m : List UInt8) (a : Int) (fuel : Nat), t.length ≤ k → At s a (esc t ++ 39 :: u) → Lib.validD t = true → k < fuel → m.length + t.length ≤ 100000 →
      iterN (fun rc => q24z_s0 n rc kx kr) fuel ((), bi m, (s, a, ()), ()) = kr (⟨(m ++ t).toArray⟩, (s, a + ((esc t).length : Int) + 1, ()), ()) := by
  intro k
  have last : ∀ (m : List UInt8) (a : Int) (f : Nat), At s a (39 :: u) → iterN (fun rc => q24z_s0 n rc kx kr) (f + 1) ((), bi m, (s, a, ()), ()) = kr (⟨(m ++ []).toArray⟩, (s, a + ((esc []).length : Int) + 1, ()), ()) := fun m a f h => by
    rw [iterN]
    unfold q24z_s0
    dsimp only
    rw [eat_yes (w := [39]) h (by decide) hs]
    simp only [Option.bind_some, cond_true]
    rw [stringN_bi]
    simp only [Option.bind_some, List.append_nil]
    rw [show a + (([39] : List UInt8).length : Int) = a + ((esc []).length : Int) + 1 by simp [esc]]
  induction k with
  | zero =>
    intro t m a fuel hk ht hv hf hm
    obtain ⟨f, rfl⟩ : ∃ f, fuel = f + 1 := ⟨fuel - 1, by omega⟩
    obtain rfl : t = [] := List.length_eq_zero_iff.1 (by omega)
    exact last m a f ht
  | succ k ih =>
    intro t m a fuel hk ht hv hf hm
    obtain ⟨f, rfl⟩ : ∃ f, fuel = f + 1 := ⟨fuel - 1, by omega⟩
    cases t with
    | nil => exact last m a f ht
    | cons b t =>
      obtain ⟨h1, h2⟩ := valid_step hv (by simp)
      have hw := width1 (b :: t)
      have hlw := Lib.decodeL_le (b :: t) (by simp)
      obtain ⟨e, he, hr⟩ := read_round n (iterN (fun rc => q24z_s0 n rc kx kr) f) kx kr s a b t m (39 :: u) ht hs (by omega) h1
      rw [iterN, hr]
      have hl := congrArg List.length he
      rw [List.length_append] at hl
      rw [he, List.append_assoc] at ht
      have := ih ((b :: t).drop (Lib.decodeL (b :: t)).2) (m ++ (b :: t).take (Lib.decodeL (b :: t)).2) _ f (by rw [List.length_drop]; omega) ht.go h2 (by omega) (by rw [List.length_append, List.length_take, List.length_drop]; omega)
      rw [this, List.append_assoc, List.take_append_drop, show a + (e.length : Int) + ((esc ((b :: t).drop (Lib.decodeL (b :: t)).2)).length : Int) + 1 = a + ((esc (b :: t)).length : Int) + 1 by omega]
end Pure


/- Values that are written are read back, whole. No program. -/
namespace Pure
open Esp Ev Go
set_option linter.unusedSimpArgs false
set_option linter.unusedVariables false
set_option linter.unusedSimpArgs false
set_option linter.unusedVariables false

def noDig (u : List UInt8) : Prop := ∀ c r, u = c :: r → ¬ (48 ≤ c.toNat ∧ c.toNat ≤ 57)
theorem read_digits {ρ : Type} (self : Int × (ByteArray × Int × Unit) × Unit → Option (Val × (ByteArray × Int × Unit) × Unit)) (n : Nat) (kx : Int × (Val × Unit) × (ByteArray × Int × Unit) × Unit → Option ρ) (kr : Unit → Option ρ) (from_ : Int) (v0 : Val) (s : ByteArray) (hs : s.size ≤ 4000) (u : List UInt8) (hu : noDig u) :
    ∀ (ds : List UInt8) (a : Int) (fuel : Nat), At s a (ds ++ u) → (∀ c ∈ ds, 48 ≤ c.toNat ∧ c.toNat ≤ 57) → ds.length < fuel →
      iterN (fun rc => q22z_s3 self n rc kx kr) fuel (from_, (v0, ()), (s, a, ()), ()) = kx (from_, (v0, ()), (s, a + (ds.length : Int), ()), ()) := by
  intro ds
  induction ds with
  | nil =>
    intro a fuel h _ hf
    obtain ⟨f, rfl⟩ : ∃ f, fuel = f + 1 := ⟨fuel - 1, by omega⟩
    have hl := h.len
    rw [iterN]
    unfold q22z_s3
    simp only [Val.eta, List.length_nil]
    rw [show a + ((0 : Nat) : Int) = a by omega]
    cases u with
    | nil =>
      rw [decide_eq_false (show ¬ a < (s.size : Int) by simp at hl; omega)]
      rfl
    | cons c r =>
      have h : At s a (c :: r) := h
      have := hu c r rfl
      rw [decide_eq_true (show a < (s.size : Int) by simp at hl; omega), cond_true, h.byte]
      simp only [Option.bind_some]
      by_cases h1 : (c.toNat : Int) ≥ 48
      · rw [decide_eq_true h1, cond_true, decide_eq_false (show ¬ (c.toNat : Int) ≤ 57 by omega)]
        rfl
      · rw [decide_eq_false h1]
        rfl
  | cons c ds ih =>
    intro a fuel h hd hf
    obtain ⟨f, rfl⟩ : ∃ f, fuel = f + 1 := ⟨fuel - 1, by omega⟩
    have hl := h.len
    have hc := hd c (by simp)
    have h' : At s a (c :: (ds ++ u)) := h
    have hg : At s (a + 1) (ds ++ u) := At.go (w := [c]) h'
    have ih2 := ih (a + 1) f hg (fun x hx => hd x (by simp [hx])) (by simp at hf; omega)
    rw [iterN]
    generalize iterN (fun rc => q22z_s3 self n rc kx kr) f = K at ih2 ⊢
    unfold q22z_s3
    simp only [Val.eta]
    rw [decide_eq_true (show a < (s.size : Int) by simp at hl; omega), cond_true, h'.byte]
    simp only [Option.bind_some]
    rw [decide_eq_true (show (c.toNat : Int) ≥ 48 by omega), cond_true, decide_eq_true (show (c.toNat : Int) ≤ 57 by omega), cond_true, wrap64 (by omega) (by simp at hl; omega)]
    rw [ih2]
    rw [List.length_cons, show a + 1 + (ds.length : Int) = a + ((ds.length + 1 : Nat) : Int) by omega]
theorem atoiN_itoa {n : Int} (h : wfI .i64 n) : atoiN ((⟨(Lib.itoa n).toArray⟩ : ByteArray), ()) = some (n, ()) := by
  have h0 := i64_range h
  have hl := itoa_len n h
  unfold atoiN
  dsimp only
  have : Nat.ble (⟨(Lib.itoa n).toArray⟩ : ByteArray).size 9223372036854775806 = true := by
    rw [Nat.ble_eq]
    show (Lib.itoa n).toArray.size ≤ _
    simp
    omega
  rw [this, cond_true]
  simp only [List.toList_toArray, atoi_itoa n h0.1 h0.2]
theorem itoa_noq (n : Int) : ∃ c r, Lib.itoa n = c :: r ∧ (c = 45 ∨ (48 ≤ c.toNat ∧ c.toNat ≤ 57)) := by
  obtain ⟨sg, ds, he, hsg, hne, hd⟩ := itoa_shape n
  rcases hsg with rfl | rfl
  · cases ds with
    | nil => exact absurd rfl hne
    | cons c r => exact ⟨c, r, he, .inr (hd c (by simp))⟩
  · exact ⟨45, ds, he, .inl rfl⟩
theorem nob {b : UInt8} (h : b = 45 ∨ (48 ≤ b.toNat ∧ b.toNat ≤ 57)) (c : UInt8) (hc : ¬ (c = 45 ∨ (48 ≤ c.toNat ∧ c.toNat ≤ 57))) : (c == b) = false := by
  rw [beq_eq_false_iff_ne]; rintro rfl; exact hc h
theorem read_int (self : Int × (ByteArray × Int × Unit) × Unit → Option (Val × (ByteArray × Int × Unit) × Unit)) (n : Nat) (hn : 5000 ≤ n) (x : Int) (hx : wfI .i64 x) (s : ByteArray) (hs : s.size ≤ 4000) (a d : Int) (u : List UInt8) (hu : noDig u) (h : At s a (Lib.itoa x ++ u)) :
    q22z_b self n (d, (s, a, ()), ()) = some (.mk 2 x ⟨#[]⟩ [], (s, a + ((Lib.itoa x).length : Int), ()), ()) := by
  obtain ⟨b, r, hb, hbb⟩ := itoa_noq x
  obtain ⟨sg, ds, he, hsg, hne, hd⟩ := itoa_shape x
  have hl := h.len
  have hcut := h.cut
  have hb' : Lib.itoa x ++ u = b :: (r ++ u) := by rw [hb]; rfl
  have h1 := h
  rw [hb'] at h1
  unfold q22z_b
  dsimp only
  rw [eat_no h1 (w := [110, 117, 108, 108]) (by decide) hs (pre_no (nob hbb _ (by decide)))]
  simp only [Option.bind_some, cond_false]
  rw [eat_no h1 (w := [116, 114, 117, 101]) (by decide) hs (pre_no (nob hbb _ (by decide)))]
  simp only [Option.bind_some, cond_false]
  rw [eat_no h1 (w := [102, 97, 108, 115, 101]) (by decide) hs (pre_no (nob hbb _ (by decide)))]
  simp only [Option.bind_some, cond_false]
  rw [eat_no h1 (w := [39]) (by decide) hs (pre_no (nob hbb _ (by decide)))]
  simp only [Option.bind_some, cond_false]
  rw [eat_no h1 (w := [91]) (by decide) hs (pre_no (nob hbb _ (by decide)))]
  simp only [Option.bind_some, cond_false]
  have key : ∃ y, q27z ((⟨#[45]⟩ : ByteArray), (s, a, ()), ()) = some (y, (s, a + (sg.length : Int), ()), ()) ∧ At s (a + (sg.length : Int)) (ds ++ u) := by
    rcases hsg with rfl | rfl
    · refine ⟨false, ?_, by simpa [he] using h⟩
      rw [he] at h
      cases ds with
      | nil => exact absurd rfl hne
      | cons c q =>
        have hc := hd c (by simp)
        rw [eat_no (w := [45]) (t := c :: (q ++ u)) h (by decide) hs (pre_no (by rw [beq_eq_false_iff_ne]; rintro rfl; revert hc; decide))]
        simp
    · rw [he, List.append_assoc] at h
      exact ⟨true, eat_yes (w := [45]) h (by decide) hs, h.go⟩
  obtain ⟨y, hy, ha⟩ := key
  rw [hy]
  simp only [Option.bind_some]
  have hlen := congrArg List.length he
  rw [List.length_append] at hlen
  have hil := itoa_len x hx
  rw [List.length_append] at hl
  rw [read_digits self n _ _ a _ s hs u hu ds _ n ha hd (by omega)]
  simp only
  rw [show a + (sg.length : Int) + (ds.length : Int) = a + ((Lib.itoa x).length : Int) by omega, hcut]
  simp only [Option.bind_some]
  rw [atoiN_itoa hx]
  simp only [Option.bind_some]
  rw [itoaN_eq hx]
  simp only [Option.bind_some, seq_refl, Bool.not_true, cond_false]
theorem prV_head (v : Val) {d : Int} (h : Right v d) : ∃ c r, prV v = c :: r ∧ c ≠ 93 := by
  cases h with
  | null d => rw [prV]; exact ⟨_, _, rfl, by decide⟩
  | truth n d h => rw [prV]; rcases h with rfl | rfl <;> exact ⟨_, _, rfl, by decide⟩
  | int n d h =>
    obtain ⟨c, r, he, hc⟩ := itoa_noq n
    rw [prV]
    exact ⟨c, r, he, by rintro rfl; revert hc; decide⟩
  | text s d h hv => rw [prV]; exact ⟨39, _, rfl, by decide⟩
  | list l d h30 h6 h => rw [prV]; exact ⟨91, _, rfl, by decide⟩
theorem read_list {ρ : Type} (self : Int × (ByteArray × Int × Unit) × Unit → Option (Val × (ByteArray × Int × Unit) × Unit)) (n : Nat) (kx : Unit → Option ρ) (kr : (Int × Int × ByteArray × Unit) × (List Val) × (ByteArray × Int × Unit) × Unit → Option ρ) (d : Int) (hd : 1 ≤ d ∧ d ≤ 6) (v0 : Val) (q : Int × Int × ByteArray × Unit) (s : ByteArray) (hs : s.size ≤ 4000) (u : List UInt8) :
    ∀ (r : List Val) (x : Val) (acc : List Val) (a : Int) (fuel : Nat), (∀ y ∈ x :: r, ∀ a u, noDig u → At s a (prV y ++ u) → self (d + 1, (s, a, ()), ()) = some (y, (s, a + ((prV y).length : Int), ()), ())) → acc.length + r.length ≤ 1000 → At s a (prV x ++ (prT r ++ 93 :: u)) → r.length < fuel →
      iterN (fun rc => q22z_s1 self n rc kx kr) fuel (d, (v0, ()), q, acc, (s, a, ()), ()) = kr (q, acc ++ x :: r, (s, a + ((prV x).length : Int) + ((prT r).length : Int) + 1, ()), ()) := by
  intro r
  induction r with
  | nil =>
    intro x acc a fuel hy hac h hf
    obtain ⟨f, rfl⟩ : ∃ f, fuel = f + 1 := ⟨fuel - 1, by omega⟩
    have hx := hy x (by simp) a (prT [] ++ 93 :: u) (fun c r e => by rw [prT] at e; injection e with e1 e2; subst e1; decide) h
    have hg := h.go
    rw [prT] at hg
    have hg : At s (a + ((prV x).length : Int)) ([93] ++ u) := hg
    rw [iterN]
    unfold q22z_s1
    dsimp only
    rw [wrap64 (by omega) (by omega), hx]
    simp only [Option.bind_some, Val.eta]
    rw [ck_ok (room56 (by rw [List.length_append, List.length_singleton]; omega)), eat_yes hg (by decide) hs]
    simp only [Option.bind_some, cond_true, prT, List.length_nil, List.length_singleton]
    rw [show a + ((prV x).length : Int) + ((1 : Nat) : Int) = a + ((prV x).length : Int) + ((0 : Nat) : Int) + 1 by omega]
  | cons z r ih =>
    intro x acc a fuel hy hac h hf
    obtain ⟨f, rfl⟩ : ∃ f, fuel = f + 1 := ⟨fuel - 1, by omega⟩
    have hx := hy x (by simp) a (prT (z :: r) ++ 93 :: u) (fun c r e => by rw [prT] at e; injection e with e1 e2; subst e1; decide) h
    have hg := h.go
    rw [prT] at hg
    have hg : At s (a + ((prV x).length : Int)) (44 :: (prV z ++ prT r ++ 93 :: u)) := hg
    have hg2 : At s (a + ((prV x).length : Int) + 1) (prV z ++ (prT r ++ 93 :: u)) := by
      have := At.go (w := [44]) (t := prV z ++ prT r ++ 93 :: u) hg
      rw [List.append_assoc] at this
      exact this
    rw [List.length_cons] at hac hf
    have := ih z (acc ++ [x]) (a + ((prV x).length : Int) + 1) f (fun y hy' => hy y (by simp at hy' ⊢; right; exact hy')) (by rw [List.length_append, List.length_singleton]; omega) hg2 (by omega)
    rw [iterN]
    generalize iterN (fun rc => q22z_s1 self n rc kx kr) f = K at this ⊢
    unfold q22z_s1
    dsimp only
    rw [wrap64 (by omega) (by omega), hx]
    simp only [Option.bind_some, Val.eta]
    rw [ck_ok (room56 (by rw [List.length_append, List.length_singleton]; omega)), eat_no hg (w := [93]) (by decide) hs (pre_no (by decide))]
    simp only [Option.bind_some, cond_false]
    rw [eat_yes (w := [44]) hg (by decide) hs]
    simp only [Option.bind_some, Bool.not_true, cond_false]
    refine this.trans ?_
    rw [List.append_assoc, prT, List.length_cons, List.length_append]
    rw [show a + ((prV x).length : Int) + 1 + ((prV z).length : Int) + ((prT r).length : Int) + 1 = a + ((prV x).length : Int) + (((prV z).length + (prT r).length + 1 : Nat) : Int) + 1 by omega]
    rfl
theorem read_ok (v : Val) : ∀ (d : Int) (n : Nat), Right v d → 1 ≤ d → d ≤ 7 → 5010 ≤ n + d.toNat → ∀ (s : ByteArray) (a : Int) (u : List UInt8), s.size ≤ 4000 → noDig u → At s a (prV v ++ u) → q22z n (d, (s, a, ()), ()) = some (v, (s, a + ((prV v).length : Int), ()), ()) := by
  induction v using val_ind with
  | _ k x t l ih =>
    intro d n hr h1 h7 hn s a u hs hu h
    obtain ⟨f, rfl⟩ : ∃ f, n = f + 1 := ⟨n - 1, by omega⟩
    rw [q22z]
    cases hr with
    | null d =>
      rw [prV] at h ⊢
      have h : At s a ([110, 117, 108, 108] ++ u) := h
      unfold q22z_b
      dsimp only
      rw [eat_yes h (by decide) hs]
      rfl
    | truth n d hb =>
      rw [prV] at h ⊢
      rcases hb with rfl | rfl
      · have h : At s a ([102, 97, 108, 115, 101] ++ u) := h
        unfold q22z_b
        dsimp only
        rw [eat_no h (w := [110, 117, 108, 108]) (by decide) hs (pre_no (by decide))]
        simp only [Option.bind_some, cond_false]
        rw [eat_no h (w := [116, 114, 117, 101]) (by decide) hs (pre_no (by decide))]
        simp only [Option.bind_some, cond_false]
        rw [eat_yes (w := [102, 97, 108, 115, 101]) h (by decide) hs]
        rfl
      · have h : At s a ([116, 114, 117, 101] ++ u) := h
        unfold q22z_b
        dsimp only
        rw [eat_no h (w := [110, 117, 108, 108]) (by decide) hs (pre_no (by decide))]
        simp only [Option.bind_some, cond_false]
        rw [eat_yes (w := [116, 114, 117, 101]) h (by decide) hs]
        rfl
    | int n d hx =>
      rw [prV] at h ⊢
      exact read_int _ f (by omega) x hx s hs a d u hu h
    | text t d ht hv =>
      rw [prV] at h ⊢
      have h : At s a (39 :: ((esc t.data.toList ++ [39]) ++ u)) := h
      have hl := h.len
      have h2 := At.go (w := [39]) (t := (esc t.data.toList ++ [39]) ++ u) h
      rw [List.append_assoc] at h2
      have ht2 : t.data.toList.length = t.size := rfl
      unfold q22z_b
      dsimp only
      rw [eat_no h (w := [110, 117, 108, 108]) (by decide) hs (pre_no (by decide))]
      simp only [Option.bind_some, cond_false]
      rw [eat_no h (w := [116, 114, 117, 101]) (by decide) hs (pre_no (by decide))]
      simp only [Option.bind_some, cond_false]
      rw [eat_no h (w := [102, 97, 108, 115, 101]) (by decide) hs (pre_no (by decide))]
      simp only [Option.bind_some, cond_false]
      rw [eat_yes (w := [39]) h (by decide) hs]
      simp only [Option.bind_some, cond_true]
      unfold q24z
      dsimp only
      have := read_text f (fun _ => none) (fun (v27, o28, _) => some ((v27 : ByteArray), ((o28.1, o28.2.1, ()) : ByteArray × Int × Unit), ())) s hs u 4000 t.data.toList [] (a + 1) f (by omega) h2 hv (by omega) (by simp; omega)
      have hb : bi [] = ([] : List Int) := rfl
      rw [hb] at this
      have e1 : a + (([39] : List UInt8).length : Int) = a + 1 := by simp
      rw [e1, this]
      simp only [Option.bind_some, List.nil_append]
      show some (Val.mk 3 0 (⟨t.data.toList.toArray⟩ : ByteArray) [], (s, a + 1 + ((esc t.data.toList).length : Int) + 1, ()), ()) = some (_, (s, a + ((39 :: (esc t.data.toList ++ [39])).length : Int), ()), ())
      rw [List.length_cons, List.length_append, List.length_singleton]
      rw [show a + 1 + ((esc t.data.toList).length : Int) + 1 = a + (((esc t.data.toList).length + 1 + 1 : Nat) : Int) by omega]
    | list l d h30 h6 hr =>
      rw [prV] at h ⊢
      have h : At s a (91 :: ((prL l ++ [93]) ++ u)) := h
      have h2 := At.go (w := [91]) (t := (prL l ++ [93]) ++ u) h
      have e1 : a + (([91] : List UInt8).length : Int) = a + 1 := by simp
      rw [List.append_assoc, e1] at h2
      unfold q22z_b
      dsimp only
      rw [eat_no h (w := [110, 117, 108, 108]) (by decide) hs (pre_no (by decide))]
      simp only [Option.bind_some, cond_false]
      rw [eat_no h (w := [116, 114, 117, 101]) (by decide) hs (pre_no (by decide))]
      simp only [Option.bind_some, cond_false]
      rw [eat_no h (w := [102, 97, 108, 115, 101]) (by decide) hs (pre_no (by decide))]
      simp only [Option.bind_some, cond_false]
      rw [eat_no h (w := [39]) (by decide) hs (pre_no (by decide))]
      simp only [Option.bind_some, cond_false]
      rw [eat_yes (w := [91]) h (by decide) hs, e1]
      simp only [Option.bind_some, cond_true]
      rw [decide_eq_false (show ¬ d > 40 by omega), cond_false]
      cases l with
      | nil =>
        rw [prL] at h2 ⊢
        have h2 : At s (a + 1) ([93] ++ u) := h2
        rw [eat_yes h2 (by decide) hs]
        simp only [Option.bind_some, cond_true]
        show some (Val.mk 4 0 (⟨#[]⟩ : ByteArray) [], (s, a + 1 + ((1 : Nat) : Int), ()), ()) = some (_, (s, a + ((2 : Nat) : Int), ()), ())
        rw [show a + 1 + ((1 : Nat) : Int) = a + ((2 : Nat) : Int) by omega]
      | cons y r =>
        rw [prL, List.append_assoc] at h2
        obtain ⟨c, w, hc, hc93⟩ := prV_head y (hr y (by simp))
        have h3 := h2
        rw [hc] at h3
        rw [eat_no h3 (w := [93]) (by decide) hs (pre_no (beq_eq_false_iff_ne.2 (Ne.symm hc93)))]
        simp only [Option.bind_some, cond_false]
        have h2 : At s (a + 1) (prV y ++ (prT r ++ 93 :: u)) := h2
        rw [List.length_cons] at h30
        refine (read_list (q22z f) f _ _ d ⟨h1, h6⟩ _ _ s hs u r y [] (a + 1) f (fun z hz a u hu h => ih z hz (d + 1) f (hr z hz) (by omega) (by omega) (by omega) s a u hs hu h) (by simp; omega) h2 (by omega)).trans ?_
        show some (Val.mk 4 0 (⟨#[]⟩ : ByteArray) (y :: r), (s, a + 1 + ((prV y).length : Int) + ((prT r).length : Int) + 1, ()), ()) = some (_, (s, a + ((91 :: (prL (y :: r) ++ [93])).length : Int), ()), ())
        rw [prL, List.length_cons, List.length_append, List.length_append, List.length_singleton]
        rw [show a + 1 + ((prV y).length : Int) + ((prT r).length : Int) + 1 = a + (((prV y).length + (prT r).length + 1 + 1 : Nat) : Int) by omega]
end Pure


/- What is printed of a value is read as it: the plain law. No program. -/
namespace Pure
open Esp Ev Go
set_option linter.unusedSimpArgs false
set_option linter.unusedVariables false
set_option linter.unusedSimpArgs false
set_option linter.unusedVariables false

theorem Print_ok (v : Val) (n : Nat) (hn : 5010 ≤ n) (h : chk v 1 = 0) (hr : Right v 1) : q43z n (v, ()) = bif decide (((prV v).length : Int) > 4000) then some (⟨#[]⟩, 2, ()) else some (⟨(prV v).toArray⟩, 0, ()) := by
  have hc := capV_le (d := 1) (by omega)
  have ht := tell_ok v 1 n [] hr (by omega) (by omega) (by omega) (by simp; omega)
  rw [List.nil_append] at ht
  have hb : bi [] = ([] : List Int) := rfl
  rw [hb] at ht
  unfold q43z
  have e0 : ((0 : Int) != 0) = false := by decide
  simp only [Val.eta, Check_ok v n (by omega), Option.bind_some, h, e0, cond_false, ht, q20z, bi_length, stringN_bi]
theorem Parse_ok (v : Val) (n : Nat) (hn : 5010 ≤ n) (h : chk v 1 = 0) (hr : Right v 1) (hl : (prV v).length ≤ 4000) : q42z n ((⟨(prV v).toArray⟩ : ByteArray), ()) = some (v, 0, 0, ()) := by
  have hs : (⟨(prV v).toArray⟩ : ByteArray).size = (prV v).length := by show (prV v).toArray.size = _; simp
  have := read_ok v 1 n hr (by omega) (by omega) (by omega) ⟨(prV v).toArray⟩ 0 [] (by omega) (fun c r e => by cases e) ⟨[], by simp, rfl⟩
  have e0 : ((0 : Int) != 0) = false := by decide
  unfold q42z
  simp only [hs]
  rw [decide_eq_false (show ¬ ((prV v).length : Int) > 4000 by omega), cond_false, this]
  simp only [Option.bind_some]
  rw [decide_eq_false (show ¬ (0 : Int) + ((prV v).length : Int) < ((prV v).length : Int) by omega), cond_false]
  simp only [Val.eta, Check_ok v n (by omega), Option.bind_some, h, e0, cond_false]
end Pure


/- Who may see what. No program. -/
namespace Pure
open Esp Ev Go
set_option linter.unusedSimpArgs false
set_option linter.unusedVariables false
set_option linter.unusedSimpArgs false
set_option linter.unusedVariables false

end Pure


/- Who sees what. No program. -/
namespace Pure
open Esp Ev Go
set_option linter.unusedSimpArgs false
set_option linter.unusedVariables false
set_option linter.unusedSimpArgs false
set_option linter.unusedVariables false

theorem Grant.eta (g : Grant) : Grant.mk g.who g.labels = g := rfl

/-! ## what is in order -/
structure nodeS (x : Ev.Node) : Prop where
  lab : x.labels.length ≤ 4
  prp : prpE x.props = 0
structure graphS (g : Graph) : Prop where
  nl : g.nodes.length ≤ 40
  el : g.edges.length ≤ 60
  nd : ∀ x ∈ g.nodes, nodeS x
  ed : ∀ x ∈ g.edges, prpE x.props = 0
theorem graphS_of {g : Graph} (h : chkG g = 0) : graphS g := by
  obtain ⟨h1, h2, h3, h4⟩ := chkG_0 h
  exact ⟨h1, h2, fun x hx => ⟨labE_0 (nodF_0 h3 x hx).1, (nodF_0 h3 x hx).2⟩, fun x hx => (edgF_0 h4 x hx).1⟩

def both (l : List Ev.Node) (e : Edg) : Bool := (nodeIn l e.src).isSome && (nodeIn l e.dst).isSome
def g0 : Graph := ⟨[], [], 0⟩
end Pure


/- Differences of rising lists: what is taken out and put in makes the one of the other. Plain Lean. -/
namespace Pure
section
variable {α : Type} (id : α → Int) (same : α → α → Bool)
abbrev Up (l : List α) : Prop := l.Pairwise fun a b => id a < id b
variable {id same}
theorem Up.inj {l : List α} (h : Up id l) {x y : α} (hx : x ∈ l) (hy : y ∈ l) (e : id x = id y) : x = y := by
  induction l with
  | nil => cases hx
  | cons z r ih =>
    have h2 := List.pairwise_cons.1 h
    rcases List.mem_cons.1 hx with e1 | hx2
    · rcases List.mem_cons.1 hy with e2 | hy2
      · exact e1.trans e2.symm
      · have := h2.1 y hy2; rw [← e1] at this; omega
    · rcases List.mem_cons.1 hy with e2 | hy2
      · have := h2.1 x hx2; rw [← e2] at this; omega
      · exact ih h2.2 hx2 hy2
end
end Pure


/- Nodes and edges that are alike, by the program and by the document. No program. -/
namespace Pure
open Esp Ev Go
set_option linter.unusedSimpArgs false
set_option linter.unusedVariables false
set_option linter.unusedSimpArgs false
set_option linter.unusedVariables false

def eqL {α β : Type} (eq : α → β → Bool) : List α → List β → Bool
  | [], [] => true
  | x :: r, y :: t => eq x y && eqL eq r t
  | _, _ => false
theorem eqL_iff {α : Type} {eq : α → α → Bool} : ∀ {l m : List α}, (∀ x ∈ l, ∀ y ∈ m, eq x y = true ↔ x = y) → (eqL eq l m = true ↔ l = m)
  | [], [], _ => by simp [eqL]
  | [], _ :: _, _ => by simp [eqL]
  | _ :: _, [], _ => by simp [eqL]
  | x :: r, y :: t, h => by
    rw [eqL, Bool.and_eq_true, h x (by simp) y (by simp), eqL_iff fun a ha b hb => h a (by simp [ha]) b (by simp [hb]), List.cons.injEq]
theorem eqL_len {α β : Type} {eq : α → β → Bool} : ∀ {l : List α} {m : List β}, l.length ≠ m.length → eqL eq l m = false
  | [], [], h => absurd rfl h
  | [], _ :: _, _ => rfl
  | _ :: _, [], _ => rfl
  | x :: r, y :: t, h => by
    rw [eqL, eqL_len (by simpa using h), Bool.and_false]
theorem eqK {α β ρ : Type} {F : Int → α → (List β × Unit) → ((List β × Unit) → Option ρ) → Option ρ} {eq : α → β → Bool} {m : List β} {kr : Bool × Unit → Option ρ} {k : (List β × Unit) → Option ρ} :
    ∀ (l : List α) (q r : List β), (∀ x ∈ l, ∀ i rec, F i x (m, ()) rec = (ix m i).bind fun y => bif !(eq x y) then kr (false, ()) else rec (m, ())) → m = q ++ r → l.length = r.length →
      foldK F k (q.length : Int) l (m, ()) = bif eqL eq l r then k (m, ()) else kr (false, ())
  | [], q, [], _, _, _ => rfl
  | [], _, _ :: _, _, _, h => by simp at h
  | _ :: _, _, [], _, _, h => by simp at h
  | x :: l, q, y :: r, hF, hm, h => by
    have ih := eqK (k := k) l (q ++ [y]) r (fun z hz => hF z (by simp [hz])) (by rw [hm]; simp) (by simpa using h)
    rw [show ((q ++ [y]).length : Int) = (q.length : Int) + 1 by simp] at ih
    rw [foldK, hF x (by simp), show ix m (q.length : Int) = some y from ix_ok (by rw [hm]; simp), Option.bind_some, eqL]
    cases eq x y with
    | true => rw [Bool.not_true, cond_false, Bool.true_and]; exact ih
    | false => rfl
def eqP (p q : Prp) : Bool := seq p.name q.name && (ordV p.val q.val == 0)
theorem eqP_iff (p q : Prp) : eqP p q = true ↔ p = q := by
  unfold eqP
  rw [Bool.and_eq_true, seq_iff, beq_iff_eq, ordV_zero]
  constructor
  · rintro ⟨h1, h2⟩; cases p; cases q; simp_all
  · rintro rfl; exact ⟨rfl, rfl⟩
def pSz' : List Prp → Nat
  | [] => 0
  | p :: r => vSz p.val + pSz' r
theorem pSz_mem : ∀ {l : List Prp} {p : Prp}, p ∈ l → vSz p.val ≤ pSz' l
  | q :: r, p, h => by
    rw [pSz']
    rcases List.mem_cons.1 h with rfl | h
    · omega
    · have := pSz_mem h; omega
theorem Prp.eta (p : Prp) : Prp.mk p.name (Val.mk p.val.kind p.val.n p.val.s p.val.l) = p := by rw [Val.eta]
theorem equalS_any (l m : List ByteArray) (n : Nat) (hl : l.length ≤ 9223372036854775807) (hn : l.length < n) : q10z n (l, m, ()) = some (eqL seq l m, ()) := by
  unfold q10z
  dsimp only
  cases hc : ((l.length : Int) != (m.length : Int)) with
  | true =>
    rw [eqL_len (by rw [bne_iff_ne] at hc; omega)]
    rfl
  | false =>
    have hlen : l.length = m.length := by simp at hc; omega
    simp only [cond_false]
    rw [R_q10z_s0 n _ _ l n _ hl (by omega)]
    have key := eqK (F := F_q10z_s0 n (fun (v10, _) => some (v10, ()))) (eq := seq) (m := m) (kr := fun (v10, _) => some (v10, ())) (k := fun _ => some (true, ())) l [] m (fun x hx i rec => by
      unfold F_q10z_s0
      dsimp only) rfl hlen
    refine key.trans ?_
    cases eqL seq l m <;> rfl
theorem rsameV_any (v w : Val) (n : Nat) (h : vOk v) (hn : vSz v + 2 ≤ n) : q16z n (v, w, ()) = some (ordV v w == 0, ()) := by
  unfold q16z
  dsimp only
  rw [Val.eta, Val.eta, orderOf_ok v w n h hn, Option.bind_some]
theorem rsameProps1_ok (p q : Prp) (n : Nat) (h : vOk p.val) (hn : vSz p.val + 6 ≤ n) : q11z n (p, q, ()) = some (eqP p q, ()) := by
  unfold q11z eqP
  dsimp only
  cases seq p.name q.name with
  | false => rfl
  | true =>
    simp only [cond_true]
    rw [Val.eta, Val.eta, rsameV_any _ _ n h (by omega), Option.bind_some, Bool.true_and]
theorem rsameProps_ok (l m : List Prp) (n : Nat) (h : ∀ p ∈ l, vOk p.val) (hl : l.length ≤ 9223372036854775807) (hn : pSz' l + l.length + 7 ≤ n) : q15z n (l, m, ()) = some (eqL eqP l m, ()) := by
  unfold q15z q0z
  dsimp only
  cases hc : ((l.length : Int) != (m.length : Int)) with
  | true =>
    rw [eqL_len (by rw [bne_iff_ne] at hc; omega)]
    rfl
  | false =>
    have hlen : l.length = m.length := by simp at hc; omega
    simp only [cond_false]
    rw [R_q0z_s0 n _ _ l n _ hl (by omega)]
    have key := eqK (F := F_q0z_s0 n (fun (v10, _) => some (v10, ()))) (eq := eqP) (m := m) (kr := fun (v10, _) => some (v10, ())) (k := fun _ => some (true, ())) l [] m (fun x hx i rec => by
      unfold F_q0z_s0
      dsimp only
      cases ix m i with
      | none => rfl
      | some y =>
        rw [Option.bind_some, Option.bind_some, Prp.eta, Prp.eta, rsameProps1_ok x y n (h x hx) (by have := pSz_mem hx; omega), Option.bind_some]) rfl hlen
    refine (congrArg (fun z => Option.bind z (fun x : Bool × Unit => some (x.1, ()))) key).trans ?_
    cases eqL eqP l m <;> rfl
/-! ## nodes, edges -/
def eqN (x y : Ev.Node) : Bool := (x.id == y.id) && (eqL seq x.labels y.labels && eqL eqP x.props y.props)
def eqE (x y : Edg) : Bool := ((((x.id == y.id) && (x.src == y.src)) && (x.dst == y.dst)) && seq x.type y.type) && eqL eqP x.props y.props
theorem eqN_iff (x y : Ev.Node) : eqN x y = true ↔ x = y := by
  unfold eqN
  rw [Bool.and_eq_true, Bool.and_eq_true, beq_iff_eq, eqL_iff fun a _ b _ => seq_iff a b, eqL_iff fun a _ b _ => eqP_iff a b]
  constructor
  · rintro ⟨h1, h2, h3⟩; cases x; cases y; simp_all
  · rintro rfl; exact ⟨rfl, rfl, rfl⟩
theorem eqE_iff (x y : Edg) : eqE x y = true ↔ x = y := by
  unfold eqE
  rw [Bool.and_eq_true, Bool.and_eq_true, Bool.and_eq_true, Bool.and_eq_true, beq_iff_eq, beq_iff_eq, beq_iff_eq, seq_iff, eqL_iff fun a _ b _ => eqP_iff a b]
  constructor
  · rintro ⟨⟨⟨⟨h1, h2⟩, h3⟩, h4⟩, h5⟩; cases x; cases y; simp_all
  · rintro rfl; exact ⟨⟨⟨⟨rfl, rfl⟩, rfl⟩, rfl⟩, rfl⟩
def nSz (x : Ev.Node) : Nat := x.labels.length + pSz' x.props + x.props.length + 8
def eSz (x : Edg) : Nat := pSz' x.props + x.props.length + 8
theorem rsameN_ok (x y : Ev.Node) (n : Nat) (h : ∀ p ∈ x.props, vOk p.val) (h1 : x.labels.length ≤ 9223372036854775807) (h2 : x.props.length ≤ 9223372036854775807) (hn : nSz x ≤ n) : q19z n (x, y, ()) = some (eqN x y, ()) := by
  unfold nSz at hn
  unfold q19z eqN
  dsimp only
  cases x.id == y.id with
  | false => rfl
  | true =>
    simp only [cond_true]
    rw [equalS_any _ _ n h1 (by omega), Option.bind_some]
    dsimp only
    cases eqL seq x.labels y.labels with
    | false => rfl
    | true =>
      simp only [cond_true]
      rw [rsameProps_ok _ _ n h h2 (by omega), Option.bind_some, Bool.true_and, Bool.true_and]
theorem rsameE_ok (x y : Edg) (n : Nat) (h : ∀ p ∈ x.props, vOk p.val) (h2 : x.props.length ≤ 9223372036854775807) (hn : eSz x ≤ n) : q18z n (x, y, ()) = some (eqE x y, ()) := by
  unfold eSz at hn
  unfold q18z eqE
  dsimp only
  cases (((x.id == y.id) && (x.src == y.src)) && (x.dst == y.dst)) && seq x.type y.type with
  | false => rfl
  | true =>
    simp only [cond_true]
    rw [rsameProps_ok _ _ n h h2 (by omega), Option.bind_some, Bool.true_and]
end Pure


/- What differs between two graphs, by the program. No program. -/
namespace Pure
open Esp Ev Go
set_option linter.unusedSimpArgs false
set_option linter.unusedVariables false
set_option linter.unusedSimpArgs false
set_option linter.unusedVariables false

theorem Node.eta (x : Ev.Node) : Ev.Node.mk x.id x.labels x.props = x := rfl
structure NL' (x : Ev.Node) : Prop where
  v : ∀ p ∈ x.props, vOk p.val
  l : x.labels.length ≤ 9223372036854775807
  p : x.props.length ≤ 9223372036854775807
end Pure


/- What differs between two graphs, told. No program. -/
namespace Pure
open Esp Ev Go
set_option linter.unusedSimpArgs false
set_option linter.unusedVariables false
set_option linter.unusedSimpArgs false
set_option linter.unusedVariables false

end Pure


/- What differs between two graphs: edges (made of PTxn2, PTxn3 by substitution). No program. -/
namespace Pure
open Esp Ev Go
set_option linter.unusedSimpArgs false
set_option linter.unusedVariables false
set_option linter.unusedSimpArgs false
set_option linter.unusedVariables false

theorem Edg.eta3 (x : Edg) : Ev.Edg.mk x.id x.src x.dst x.type x.props = x := rfl
structure EL' (x : Edg) : Prop where
  v : ∀ p ∈ x.props, vOk p.val
  p : x.props.length ≤ 9223372036854775807
end Pure


/- Between, told. No program. -/
namespace Pure
open Esp Ev Go
set_option linter.unusedSimpArgs false
set_option linter.unusedVariables false
set_option linter.unusedSimpArgs false
set_option linter.unusedVariables false

def gSz (g : Graph) : Nat := (g.nodes.map nSz).sum + (g.edges.map eSz).sum
theorem sum_mem {α : Type} (f : α → Nat) : ∀ {l : List α} {x : α}, x ∈ l → f x ≤ (l.map f).sum
  | y :: r, x, h => by
    rw [List.map_cons, List.sum_cons]
    rcases List.mem_cons.1 h with rfl | h
    · omega
    · have := sum_mem f h; omega
theorem gN {g : Graph} (hw : gOk g) (hc : chkG g = 0) : ∀ x ∈ g.nodes, NL' x ∧ nodeS x := fun x hx =>
  have h := (graphS_of hc).nd x hx
  have hp := prpE_0 h.prp
  ⟨⟨fun p hp' => ((hw.1.2 x hx).2.2.2 p hp').2, by have := h.lab; omega, by have := hp.1; omega⟩, h⟩
theorem gE {g : Graph} (hw : gOk g) (hc : chkG g = 0) : ∀ x ∈ g.edges, EL' x ∧ prpE x.props = 0 := fun x hx =>
  have h := (graphS_of hc).ed x hx
  have hp := prpE_0 h
  ⟨⟨fun p hp' => ((hw.2.1.2 x hx).2.2.2.2.2 p hp').2, by have := hp.1; omega⟩, h⟩
end Pure

/- Names in graphs that are right; are two graphs the same. No program. -/
namespace Pure
open Esp Ev Go
set_option linter.unusedSimpArgs false
set_option linter.unusedVariables false
set_option linter.unusedSimpArgs false
set_option linter.unusedVariables false

theorem eqN_list (l m : List Ev.Node) (n : Nat) (h : ∀ x ∈ l, NL' x ∧ nSz x ≤ n) (hl : l.length ≤ 9223372036854775807) (hn : l.length < n) :
    q2z n (l, m, ()) = some (eqL eqN l m, ()) := by
  unfold q2z
  dsimp only
  cases hlen : ((l.length : Int) != (m.length : Int)) with
  | true =>
    rw [cond_true, eqL_len (by intro e; rw [e] at hlen; simp at hlen)]
  | false =>
    have hl2 : l.length = m.length := by
      have : (l.length : Int) = (m.length : Int) := by simpa using hlen
      omega
    rw [cond_false, R_q2z_s0 n _ _ l n _ hl hn]
    refine (eqK (F := F_q2z_s0 n _) (eq := eqN) (m := m) (kr := fun x => some (x.1, ())) l [] m (fun x hx i rec => ?_) rfl hl2).trans ?_
    · unfold F_q2z_s0
      dsimp only
      refine congrArg _ (funext fun y => ?_)
      rw [Node.eta, Node.eta, rsameN_ok x y n (h x hx).1.v (h x hx).1.l (h x hx).1.p (h x hx).2, Option.bind_some]
    · cases eqL eqN l m with
      | true => rfl
      | false => rfl
theorem eqE_list (l m : List Edg) (n : Nat) (h : ∀ x ∈ l, EL' x ∧ eSz x ≤ n) (hl : l.length ≤ 9223372036854775807) (hn : l.length < n) :
    q1z n (l, m, ()) = some (eqL eqE l m, ()) := by
  unfold q1z
  dsimp only
  cases hlen : ((l.length : Int) != (m.length : Int)) with
  | true =>
    rw [cond_true, eqL_len (by intro e; rw [e] at hlen; simp at hlen)]
  | false =>
    have hl2 : l.length = m.length := by
      have : (l.length : Int) = (m.length : Int) := by simpa using hlen
      omega
    rw [cond_false, R_q1z_s0 n _ _ l n _ hl hn]
    refine (eqK (F := F_q1z_s0 n _) (eq := eqE) (m := m) (kr := fun x => some (x.1, ())) l [] m (fun x hx i rec => ?_) rfl hl2).trans ?_
    · unfold F_q1z_s0
      dsimp only
      refine congrArg _ (funext fun y => ?_)
      rw [Edg.eta3, Edg.eta3, rsameE_ok x y n (h x hx).1.v (h x hx).1.p (h x hx).2, Option.bind_some]
    · cases eqL eqE l m with
      | true => rfl
      | false => rfl
theorem eqN_refl (l : List Ev.Node) : eqL eqN l l = true := (eqL_iff fun x _ y _ => eqN_iff x y).2 rfl
theorem eqE_refl (l : List Edg) : eqL eqE l l = true := (eqL_iff fun x _ y _ => eqE_iff x y).2 rfl
theorem nm_size {s : ByteArray} (h : nmB s = true) : s.size ≤ 12 := by
  unfold nmB at h
  cases h1 : (seq s ⟨#[]⟩) || (decide ((s.size : Int) > 12)) with
  | true => rw [h1] at h; cases h
  | false =>
    have := of_decide_eq_false (Bool.or_eq_false_iff.1 h1).2
    omega
theorem prpF_nm : ∀ {l : List Prp} {prev : ByteArray}, prpF prev l = 0 → ∀ x ∈ l, nmB x.name = true
  | [], _, _ => fun x hx => (by cases hx)
  | y :: r, prev, h => by
    rw [prpF] at h
    cases h1 : ((!(nmB y.name)) || (sless y.name prev || seq y.name prev)) || (y.val.kind == 0) with
    | true => rw [h1] at h; cases h
    | false =>
      rw [h1, cond_false] at h
      cases h2 : chk y.val 1 != 0 with
      | true => rw [h2, cond_true] at h; rw [h] at h2; cases h2
      | false =>
        rw [h2] at h
        intro x hx
        rcases List.mem_cons.1 hx with rfl | hx
        · have := (Bool.or_eq_false_iff.1 (Bool.or_eq_false_iff.1 h1).1).1
          simpa using this
        · exact prpF_nm h x hx
theorem prpE_nm {l : List Prp} (h : prpE l = 0) : ∀ x ∈ l, nmB x.name = true := by
  unfold prpE at h
  cases h1 : decide ((l.length : Int) > 6) with
  | true => rw [h1] at h; cases h
  | false => rw [h1] at h; exact prpF_nm h
theorem labF_nm : ∀ {l : List ByteArray} {prev : ByteArray}, labF prev l = 0 → ∀ x ∈ l, nmB x = true
  | [], _, _ => fun x hx => (by cases hx)
  | y :: r, prev, h => by
    rw [labF] at h
    cases h1 : (!(nmB y)) || (sless y prev || seq y prev) with
    | true => rw [h1] at h; cases h
    | false =>
      rw [h1] at h
      intro x hx
      rcases List.mem_cons.1 hx with rfl | hx
      · have := (Bool.or_eq_false_iff.1 h1).1
        simpa using this
      · exact labF_nm h x hx
theorem labE_nm {l : List ByteArray} (h : labE l = 0) : ∀ x ∈ l, nmB x = true := by
  unfold labE at h
  cases h1 : decide ((l.length : Int) > 4) with
  | true => rw [h1] at h; cases h
  | false => rw [h1] at h; exact labF_nm h
theorem edgF_nm {nodes : List Ev.Node} : ∀ {l : List Edg} {last : Int}, edgF nodes last l = 0 → ∀ x ∈ l, nmB x.type = true
  | [], _, _ => fun x hx => (by cases hx)
  | y :: r, last, h => by
    rw [edgF] at h
    cases h1 : decide (y.id ≤ last) with
    | true => rw [h1] at h; cases h
    | false =>
      cases h2 : (nodeIn nodes y.id).isSome with
      | true => rw [h1, h2] at h; cases h
      | false =>
        cases h3 : !(nmB y.type) with
        | true => rw [h1, h2, h3] at h; cases h
        | false =>
          cases h4 : (nodeIn nodes y.src).isNone with
          | true => rw [h1, h2, h3, h4] at h; cases h
          | false =>
            cases h5 : (nodeIn nodes y.dst).isNone with
            | true => rw [h1, h2, h3, h4, h5] at h; cases h
            | false =>
              rw [h1, h2, h3, h4, h5] at h
              simp only [cond_false] at h
              cases h6 : prpE y.props != 0 with
              | true => rw [h6, cond_true] at h; rw [h] at h6; cases h6
              | false =>
                rw [h6] at h
                intro x hx
                rcases List.mem_cons.1 hx with rfl | hx
                · simpa using h3
                · exact edgF_nm h x hx
theorem sameG_ok (g h : Graph) (n : Nat) (hw : gOk g) (hc : chkG g = 0) (hn : gSz g + 100 ≤ n) : ∃ b, q14z n (g, h, ()) = some (b, ()) ∧ (b = true ↔ g = h) := by
  have h1 := (graphS_of hc).nl
  have h2 := (graphS_of hc).el
  unfold gSz at hn
  unfold q14z
  dsimp only
  cases he : ((g.next : Int) == h.next) with
  | false =>
    refine ⟨false, rfl, ⟨fun h => (by cases h), fun e => ?_⟩⟩
    rw [e, beq_self_eq_true] at he
    cases he
  | true =>
    have e1 : g.next = h.next := by simpa using he
    rw [cond_true, eqN_list g.nodes h.nodes n (fun x hx => ⟨(gN hw hc x hx).1, by have := sum_mem nSz hx; omega⟩) (by omega) (by omega), Option.bind_some]
    dsimp only
    cases e2 : eqL eqN g.nodes h.nodes with
    | false =>
      refine ⟨false, rfl, ⟨fun h => (by cases h), fun e => ?_⟩⟩
      rw [e, eqN_refl] at e2
      cases e2
    | true =>
      have e3 : g.nodes = h.nodes := (eqL_iff fun x _ y _ => eqN_iff x y).1 e2
      rw [cond_true, eqE_list g.edges h.edges n (fun x hx => ⟨(gE hw hc x hx).1, by have := sum_mem eSz hx; omega⟩) (by omega) (by omega), Option.bind_some]
      dsimp only
      refine ⟨_, rfl, ⟨fun hb => ?_, fun e => ?_⟩⟩
      · have e4 : g.edges = h.edges := (eqL_iff fun x _ y _ => eqE_iff x y).1 hb
        cases g
        cases h
        dsimp only at e1 e3 e4
        rw [e1, e3, e4]
      · rw [e]; exact eqE_refl _
end Pure

namespace Pure
open Esp Ev Go
set_option linter.unusedSimpArgs false
set_option linter.unusedVariables false
theorem ported_ok (n : Nat) : q23z (n + 80) () = some (true, ()) := by kernel_rfl
end Pure

/- A graph as a text: what Print writes. No program. -/
namespace Pure
open Esp Ev Go
set_option linter.unusedSimpArgs false
set_option linter.unusedVariables false
set_option linter.unusedSimpArgs false
set_option linter.unusedVariables false

def bigP (p : Prp) : Bool := decide (((prV p.val).length : Int) > 4000)
def prpT (p : Prp) : List UInt8 := 32 :: (p.name.data.toList ++ 61 :: (bif bigP p then [] else prV p.val))
def prpsT (l : List Prp) : List UInt8 := l.flatMap prpT ++ [10]
def labT (s : ByteArray) : List UInt8 := 32 :: 58 :: s.data.toList
def nodT (x : Ev.Node) : List UInt8 := [110, 111, 100, 101, 32] ++ Lib.itoa x.id ++ x.labels.flatMap labT ++ prpsT x.props
def edgT (x : Edg) : List UInt8 := [101, 100, 103, 101, 32] ++ Lib.itoa x.id ++ [32] ++ Lib.itoa x.src ++ [32] ++ Lib.itoa x.dst ++ [32, 58] ++ x.type.data.toList ++ prpsT x.props
def grT (g : Graph) : List UInt8 := [110, 101, 120, 116, 32] ++ Lib.itoa g.next ++ [10] ++ g.nodes.flatMap nodT ++ g.edges.flatMap edgT
def bigG (g : Graph) : Bool := g.nodes.any (fun x => x.props.any bigP) || g.edges.any (fun x => x.props.any bigP)
structure prpG (p : Prp) : Prop where
  nm : nmB p.name = true
  ok : chk p.val 1 = 0
  r : Right p.val 1
structure prpsG (l : List Prp) : Prop where
  n : l.length ≤ 6
  ps : ∀ p ∈ l, prpG p
structure nodG (x : Ev.Node) : Prop where
  i : wfI .i64 x.id
  n : x.labels.length ≤ 4
  ls : ∀ s ∈ x.labels, nmB s = true
  ps : prpsG x.props
structure edgG (x : Edg) : Prop where
  i : wfI .i64 x.id
  s : wfI .i64 x.src
  d : wfI .i64 x.dst
  t : nmB x.type = true
  ps : prpsG x.props
structure grG (g : Graph) : Prop where
  i : wfI .i64 g.next
  nn : g.nodes.length ≤ 40
  en : g.edges.length ≤ 60
  ns : ∀ x ∈ g.nodes, nodG x
  es : ∀ x ∈ g.edges, edgG x
theorem prpsG_of {l : List Prp} (hc : prpE l = 0) (hw : ∀ x ∈ l, pOk x) : prpsG l :=
  ⟨(prpE_0 hc).1, fun x hx => ⟨prpE_nm hc x hx, (prpE_0 hc).2 x hx, right_of x.val 1 (hw x hx).2 ((prpE_0 hc).2 x hx)⟩⟩
theorem grG_of {g : Graph} (hw : gOk g) (hc : chkG g = 0) : grG g := by
  obtain ⟨k1, k2, k3, k4⟩ := chkG_0 hc
  refine ⟨hw.2.2, k1, k2, fun x hx => ?_, fun x hx => ?_⟩
  · have hx2 := nodF_0 k3 x hx
    exact ⟨(hw.1.2 x hx).1, labE_0 hx2.1, labE_nm hx2.1, prpsG_of hx2.2 (hw.1.2 x hx).2.2.2⟩
  · have hx2 := edgF_0 k4 x hx
    exact ⟨(hw.2.1.2 x hx).1, (hw.2.1.2 x hx).2.1, (hw.2.1.2 x hx).2.2.1, edgF_nm k4 x hx, prpsG_of hx2.1 (hw.2.1.2 x hx).2.2.2.2.2⟩
theorem nm_len {s : ByteArray} (h : nmB s = true) : s.data.toList.length ≤ 12 := nm_size h

/-! ## how long -/
theorem prpT_len {p : Prp} (h : prpG p) : (prpT p).length ≤ 4020 := by
  have h1 := nm_len h.nm
  unfold prpT
  cases hb : bigP p with
  | true => simp only [cond_true, List.length_cons, List.length_append, List.length_nil]; omega
  | false =>
    have := of_decide_eq_false hb
    simp only [cond_false, List.length_cons, List.length_append]
    omega
theorem flat_le {α : Type} {e : α → List UInt8} {c : Nat} : ∀ {l : List α}, (∀ x ∈ l, (e x).length ≤ c) → (l.flatMap e).length ≤ c * l.length
  | [], _ => by simp
  | x :: r, h => by
    have h1 := h x (by simp)
    have h2 := flat_le (l := r) fun y hy => h y (by simp [hy])
    rw [List.flatMap_cons, List.length_append, List.length_cons, Nat.mul_add]
    omega
theorem prpsT_len {l : List Prp} (h : prpsG l) : (prpsT l).length ≤ 24121 := by
  have h1 := h.n
  have h2 := flat_le (e := prpT) (c := 4020) (l := l) fun x hx => prpT_len (h.ps x hx)
  have h3 : 4020 * l.length ≤ 4020 * 6 := Nat.mul_le_mul_left _ h1
  unfold prpsT
  simp only [List.length_append, List.length_cons, List.length_nil]
  omega
theorem nodT_len {x : Ev.Node} (h : nodG x) : (nodT x).length ≤ 33000 := by
  have h1 := itoa_len x.id h.i
  have h2 := flat_le (e := labT) (c := 14) (l := x.labels) fun s hs => by have := nm_len (h.ls s hs); unfold labT; simp only [List.length_cons]; omega
  have h3 := prpsT_len h.ps
  have h4 : 14 * x.labels.length ≤ 14 * 4 := Nat.mul_le_mul_left _ h.n
  unfold nodT
  simp only [List.length_append, List.length_cons, List.length_nil]
  omega
theorem edgT_len {x : Edg} (h : edgG x) : (edgT x).length ≤ 49000 := by
  have h1 := itoa_len x.id h.i
  have h2 := itoa_len x.src h.s
  have h3 := itoa_len x.dst h.d
  have h4 := prpsT_len h.ps
  have h5 := nm_len h.t
  unfold edgT
  simp only [List.length_append, List.length_cons, List.length_nil]
  omega

/-! ## what is written -/
theorem sz10 (s : ByteArray) (h : s.size ≤ 10) : s.size ≤ 10000 := by omega
theorem say_ok (n : Nat) (l : List ByteArray) (m : List UInt8) (hl : l.length ≤ 100) (hn : 200 ≤ n) (hs : ∀ s ∈ l, s.size ≤ 10000) (hm : m.length ≤ 90000000000000) :
    q37z n (l, (), bi m, ()) = some ((), bi (m ++ l.flatMap fun s => s.data.toList), ()) := by
  unfold q37z
  dsimp only
  rw [R_q37z_s0 n _ _ l n () (bi m) (by omega) (by omega)]
  have key : ∀ (l : List ByteArray) (i : Int) (m : List UInt8), (∀ s ∈ l, s.size ≤ 10000) → m.length + 10000 * l.length ≤ 99000000000000 →
      foldK (F_q37z_s0 n (fun _ => none)) (fun s => some ((), s.2.1, ())) i l ((), bi m, ()) = some ((), bi (m ++ l.flatMap fun s => s.data.toList), ()) := by
    intro l
    induction l with
    | nil => intro i m _ _; simp [foldK]
    | cons x r ih =>
      intro i m hs hm
      rw [foldK]
      unfold F_q37z_s0
      dsimp only
      have hx := hs x (by simp)
      have hz : x.data.toList.length = x.size := rfl
      rw [List.length_cons] at hm
      rw [wStr m x (by omega) hx, Option.bind_some]
      dsimp only
      refine (ih (i + 1) (m ++ x.data.toList) (fun s h => hs s (by simp [h])) (by rw [List.length_append]; omega)).trans ?_
      simp [List.append_assoc]
  exact key l 0 m hs (by have : 10000 * l.length ≤ 10000 * 100 := Nat.mul_le_mul_left _ hl; omega)
theorem S_sz {l : List UInt8} : (⟨l.toArray⟩ : ByteArray).size = l.length := by show l.toArray.size = _; simp
theorem end_ok (n : Nat) (hn : 6000 ≤ n) (l : List Prp) (b : Bool) (m : List UInt8) (h : prpsG l) (hm : m.length ≤ 80000000000000) :
    q38z n (l, (b, ()), (), (), bi m, ()) = some ((b || l.any bigP, ()), (), (), bi (m ++ prpsT l), ()) := by
  have hn5 : 5010 ≤ n := by omega
  unfold q38z
  dsimp only
  rw [R_q38z_s0 n _ _ l n (b, ()) () () (bi m) (by have := h.n; omega) (by have := h.n; omega)]
  have key : ∀ (l : List Prp) (i : Int) (b : Bool) (m : List UInt8), (∀ p ∈ l, prpG p) → m.length + 10000 * l.length ≤ 85000000000000 →
      foldK (F_q38z_s0 n (fun _ => none)) (fun (o9, o10, o11, o12, _) => (q37z n (([(⟨#[10]⟩ : ByteArray)] : List ByteArray), (()), o12, ())).bind fun (o24, o25, _) => some ((o9.1, ()), (()), (()), o25, ())) i l ((b, ()), (), (), bi m, ()) =
        some ((b || l.any bigP, ()), (), (), bi (m ++ prpsT l), ()) := by
    intro l
    induction l with
    | nil =>
      intro i b m _ hm
      rw [foldK]
      dsimp only
      rw [say_ok n [⟨#[10]⟩] m (by simp) (by omega) (fun s hs => by simp at hs; subst hs; exact sz10 _ (by decide)) (by simp at hm; omega), Option.bind_some]
      simp [prpsT]
    | cons x r ih =>
      intro i b m hp hm
      have hx := hp x (by simp)
      rw [List.length_cons] at hm
      rw [foldK]
      unfold F_q38z_s0
      dsimp only
      rw [Val.eta, Print_ok x.val n hn5 hx.ok hx.r]
      have hnl := nm_size hx.nm
      cases hb : decide (((prV x.val).length : Int) > 4000) with
      | true =>
        rw [cond_true, Option.bind_some]
        dsimp only
        rw [show ((2 : Int) != 0) = true from rfl, cond_true, say_ok n [⟨#[32]⟩, x.name, ⟨#[61]⟩, ⟨#[]⟩] m (by simp) (by omega) (fun s hs => by
          simp only [List.mem_cons, List.not_mem_nil, or_false] at hs
          rcases hs with rfl | rfl | rfl | rfl
          · exact sz10 _ (by decide)
          · omega
          · exact sz10 _ (by decide)
          · exact sz10 _ (by decide)) (by omega), Option.bind_some]
        dsimp only
        have hb' : bigP x = true := hb
        have ht := prpT_len hx
        refine (ih (i + 1) true _ (fun p h => hp p (by simp [h])) (by simp only [List.length_append, List.flatMap_cons, List.flatMap_nil, List.length_cons, List.length_nil]; have : x.name.data.toList.length = x.name.size := rfl; omega)).trans ?_
        simp [prpsT, prpT, hb', List.append_assoc]
      | false =>
        have hl := of_decide_eq_false hb
        rw [cond_false, Option.bind_some]
        dsimp only
        rw [show ((0 : Int) != 0) = false from rfl, cond_false, say_ok n [⟨#[32]⟩, x.name, ⟨#[61]⟩, ⟨(prV x.val).toArray⟩] m (by simp) (by omega) (fun s hs => by
          simp only [List.mem_cons, List.not_mem_nil, or_false] at hs
          rcases hs with rfl | rfl | rfl | rfl
          · exact sz10 _ (by decide)
          · omega
          · exact sz10 _ (by decide)
          · rw [S_sz]; omega) (by omega), Option.bind_some]
        dsimp only
        have hb' : bigP x = false := hb
        refine (ih (i + 1) b _ (fun p h => hp p (by simp [h])) (by simp only [List.length_append, List.flatMap_cons, List.flatMap_nil, List.length_cons, List.length_nil]; have : x.name.data.toList.length = x.name.size := rfl; simp; omega)).trans ?_
        simp [prpsT, prpT, hb', List.append_assoc]
  exact key l 0 b m h.ps (by have := h.n; have : 10000 * l.length ≤ 10000 * 6 := Nat.mul_le_mul_left _ this; omega)
end Pure

/- A graph as a text: Print; the count of lines. No program. -/
namespace Pure
open Esp Ev Go
set_option linter.unusedSimpArgs false
set_option linter.unusedVariables false
set_option linter.unusedSimpArgs false
set_option linter.unusedVariables false

theorem S_ls (l : List UInt8) : (⟨l.toArray⟩ : ByteArray).data.toList = l := by simp
theorem itoa_sz {k : Int} (h : wfI .i64 k) : (⟨(Lib.itoa k).toArray⟩ : ByteArray).size ≤ 10000 := by have := itoa_len k h; rw [S_sz]; omega
theorem labs_ok {ρ : Type} (n : Nat) (hn : 6000 ≤ n) (l : List ByteArray) (hl : l.length ≤ 4) (hs : ∀ s ∈ l, nmB s = true) (m : List UInt8) (hm : m.length ≤ 70000000000000)
    (kx : (List Ev.Node) × Int × Int × (Ev.Graph × Unit) × Unit × (Bool × Unit) × Unit × (Ev.Node × Unit) × (List Int) × Unit → Option ρ) (kr : Unit → Option ρ) (v6 : List Ev.Node) (v7 v8 : Int) (g : Graph) (b : Bool) (x : Ev.Node) :
    iterN (fun rc => q49z_s2 n rc kx kr) n (v6, v7, v8, l, (l.length : Int), 0, (g, ()), (), (b, ()), (), (x, ()), bi m, ()) = kx (v6, v7, v8, (g, ()), (), (b, ()), (), (x, ()), bi (m ++ l.flatMap labT), ()) := by
  rw [R_q49z_s2 n kx kr l n v6 v7 v8 (g, ()) () (b, ()) () (x, ()) (bi m) (by omega) (by omega)]
  have key : ∀ (l : List ByteArray) (i : Int) (m : List UInt8), (∀ s ∈ l, nmB s = true) → m.length + 14 * l.length ≤ 80000000000000 →
      foldK (F_q49z_s2 n kr) (fun (v18, v19, v20, o24, o25, o26, o27, o28, o29, _) => kx (v18, v19, v20, ((Ev.Graph.mk o24.1.nodes o24.1.edges o24.1.next), ()), (()), (o26.1, ()), (()), ((Ev.Node.mk o28.1.id o28.1.labels o28.1.props), ()), o29, ())) i l (v6, v7, v8, (g, ()), (), (b, ()), (), (x, ()), bi m, ()) =
        kx (v6, v7, v8, (g, ()), (), (b, ()), (), (x, ()), bi (m ++ l.flatMap labT), ()) := by
    intro l
    induction l with
    | nil => intro i m _ _; rw [foldK]; simp
    | cons s r ih =>
      intro i m hs hm
      rw [List.length_cons] at hm
      have hx := nm_size (hs s (by simp))
      rw [foldK]
      unfold F_q49z_s2
      dsimp only
      rw [say_ok n [⟨#[32, 58]⟩, s] m (by simp) (by omega) (fun t ht => by
        simp only [List.mem_cons, List.not_mem_nil, or_false] at ht
        rcases ht with rfl | rfl
        · exact sz10 _ (by decide)
        · omega) (by omega), Option.bind_some]
      dsimp only
      refine (ih (i + 1) _ (fun t h => hs t (by simp [h])) (by simp only [List.length_append, List.flatMap_cons, List.flatMap_nil, List.length_nil]; have : s.data.toList.length = s.size := rfl; simp; omega)).trans ?_
      simp [labT, List.append_assoc]
  exact key l 0 m hs (by omega)
theorem nods_ok {ρ : Type} (n : Nat) (hn : 6000 ≤ n) (kx : (Ev.Graph × Unit) × Unit × (Bool × Unit) × Unit × (List Int) × Unit → Option ρ) (kr : Unit → Option ρ) (g : Graph) (l : List Ev.Node) (hl : l.length ≤ 40) (hg : ∀ x ∈ l, nodG x) :
    ∀ (r p : List Ev.Node) (fuel : Nat) (b : Bool) (m : List UInt8), l = p ++ r → r.length < fuel → m.length + 33000 * r.length ≤ 60000000000000 →
      iterN (fun rc77 => q49z_s0 n rc77 kx kr) fuel (l, (l.length : Int), (p.length : Int), (g, ()), (), (b, ()), (), bi m, ()) = kx ((g, ()), (), (b || r.any (fun x => x.props.any bigP), ()), (), bi (m ++ r.flatMap nodT), ()) := by
  intro r
  induction r with
  | nil =>
    intro p fuel b m hp hf _
    obtain ⟨f, rfl⟩ : ∃ f, fuel = f + 1 := ⟨fuel - 1, by simp at hf; omega⟩
    rw [iterN]
    unfold q49z_s0
    dsimp only
    have e : decide ((p.length : Int) < (l.length : Int)) = false := by rw [hp]; simp
    rw [e, cond_false]
    simp
  | cons x r ih =>
    intro p fuel b m hp hf hm
    obtain ⟨f, rfl⟩ : ∃ f, fuel = f + 1 := ⟨fuel - 1, by simp at hf; omega⟩
    have hx := hg x (by rw [hp]; simp)
    rw [List.length_cons] at hm hf
    rw [iterN]
    unfold q49z_s0
    dsimp only
    have e : decide ((p.length : Int) < (l.length : Int)) = true := by rw [hp, decide_eq_true_eq]; simp; omega
    have hix : ix l (p.length : Int) = some x := ix_ok (by rw [hp]; simp)
    rw [e, cond_true, hix, Option.bind_some, itoaN_eq hx.i, Option.bind_some]
    dsimp only
    rw [say_ok n [⟨#[110, 111, 100, 101, 32]⟩, ⟨(Lib.itoa x.id).toArray⟩] m (by simp) (by omega) (fun t ht => by
        simp only [List.mem_cons, List.not_mem_nil, or_false] at ht
        rcases ht with rfl | rfl
        · exact sz10 _ (by decide)
        · exact itoa_sz hx.i) (by omega), Option.bind_some]
    dsimp only
    have hi := itoa_len x.id hx.i
    rw [Graph.eta, show Ev.Node.mk x.id x.labels x.props = x from rfl]
    rw [labs_ok n hn x.labels hx.n hx.ls _ (by simp only [List.length_append, List.flatMap_cons, List.flatMap_nil, List.length_nil, S_ls]; simp; omega) _ _ l (l.length : Int) (p.length : Int) g b x]
    dsimp only
    have hlb := flat_le (e := labT) (c := 14) (l := x.labels) fun s hs => by have := nm_len (hx.ls s hs); unfold labT; simp only [List.length_cons]; omega
    have h4 : 14 * x.labels.length ≤ 14 * 4 := Nat.mul_le_mul_left _ hx.n
    rw [end_ok n hn x.props b _ hx.ps (by simp only [List.length_append, List.flatMap_cons, List.flatMap_nil, List.length_nil, S_ls]; simp; simp at hlb h4; omega), Option.bind_some]
    dsimp only
    have hw : IntKind.wrap .i64 ((p.length : Int) + 1) = ((p ++ [x]).length : Int) := by
      have : p.length ≤ 40 := by have := congrArg List.length hp; simp at this; omega
      rw [wrap64 (by omega) (by omega)]
      simp
    have hnl := nodT_len hx
    have he : m ++ ([⟨#[110, 111, 100, 101, 32]⟩, ⟨(Lib.itoa x.id).toArray⟩] : List ByteArray).flatMap (fun s => s.data.toList) ++ x.labels.flatMap labT ++ prpsT x.props = m ++ nodT x := by
      simp [nodT, List.append_assoc]
    rw [hw, he]
    refine (ih (p ++ [x]) f _ (m ++ nodT x) (by rw [hp]; simp) (by omega) (by rw [List.length_append]; omega)).trans ?_
    simp [Bool.or_assoc, List.append_assoc]
theorem nods0 {ρ : Type} (n : Nat) (hn : 6000 ≤ n) (kx : (Ev.Graph × Unit) × Unit × (Bool × Unit) × Unit × (List Int) × Unit → Option ρ) (kr : Unit → Option ρ) (g : Graph) (l : List Ev.Node) (hl : l.length ≤ 40) (hg : ∀ x ∈ l, nodG x)
    (fuel : Nat) (b : Bool) (m : List UInt8) (hf : l.length < fuel) (hm : m.length + 33000 * l.length ≤ 60000000000000) :
    iterN (fun rc77 => q49z_s0 n rc77 kx kr) fuel (l, (l.length : Int), 0, (g, ()), (), (b, ()), (), bi m, ()) = kx ((g, ()), (), (b || l.any (fun x => x.props.any bigP), ()), (), bi (m ++ l.flatMap nodT), ()) :=
  nods_ok n hn kx kr g l hl hg l [] fuel b m rfl hf hm
theorem edgs_ok {ρ : Type} (n : Nat) (hn : 6000 ≤ n) (kx : Unit × (Bool × Unit) × (List Int) × Unit → Option ρ) (kr : Unit → Option ρ) (l : List Edg) (hl : l.length ≤ 60) (hg : ∀ x ∈ l, edgG x) (b : Bool) (m : List UInt8) (hm : m.length ≤ 50000000000000) :
    iterN (fun rc76 => q49z_s4 n rc76 kx kr) n (l, (l.length : Int), 0, (), (b, ()), (), bi m, ()) = kx ((), (b || l.any (fun x => x.props.any bigP), ()), bi (m ++ l.flatMap edgT), ()) := by
  rw [R_q49z_s4 n kx kr l n () (b, ()) () (bi m) (by omega) (by omega)]
  have key : ∀ (l : List Edg) (i : Int) (b : Bool) (m : List UInt8), (∀ x ∈ l, edgG x) → m.length + 49000 * l.length ≤ 60000000000000 →
      foldK (F_q49z_s4 n kr) (fun (o55, o56, o57, o58, _) => kx ((()), (o56.1, ()), o58, ())) i l ((), (b, ()), (), bi m, ()) = kx ((), (b || l.any (fun x => x.props.any bigP), ()), bi (m ++ l.flatMap edgT), ()) := by
    intro l
    induction l with
    | nil => intro i b m _ _; rw [foldK]; simp
    | cons x r ih =>
      intro i b m hg hm
      rw [List.length_cons] at hm
      have hx := hg x (by simp)
      have ht := nm_size hx.t
      rw [foldK]
      unfold F_q49z_s4
      dsimp only
      rw [itoaN_eq hx.i, Option.bind_some]
      dsimp only
      rw [itoaN_eq hx.s, Option.bind_some]
      dsimp only
      rw [itoaN_eq hx.d, Option.bind_some]
      dsimp only
      rw [say_ok n [⟨#[101, 100, 103, 101, 32]⟩, ⟨(Lib.itoa x.id).toArray⟩, ⟨#[32]⟩, ⟨(Lib.itoa x.src).toArray⟩, ⟨#[32]⟩, ⟨(Lib.itoa x.dst).toArray⟩, ⟨#[32, 58]⟩, x.type] m (by simp) (by omega) (fun t ht' => by
        simp only [List.mem_cons, List.not_mem_nil, or_false] at ht'
        rcases ht' with rfl | rfl | rfl | rfl | rfl | rfl | rfl | rfl
        · exact sz10 _ (by decide)
        · exact itoa_sz hx.i
        · exact sz10 _ (by decide)
        · exact itoa_sz hx.s
        · exact sz10 _ (by decide)
        · exact itoa_sz hx.d
        · exact sz10 _ (by decide)
        · omega) (by omega), Option.bind_some]
      dsimp only
      have i1 := itoa_len x.id hx.i
      have i2 := itoa_len x.src hx.s
      have i3 := itoa_len x.dst hx.d
      have i4 := nm_len hx.t
      rw [end_ok n hn x.props b _ hx.ps (by simp only [List.length_append, List.flatMap_cons, List.flatMap_nil, List.length_nil, S_ls]; simp; simp at i4; omega), Option.bind_some]
      dsimp only
      have hel := edgT_len hx
      have he : m ++ ([⟨#[101, 100, 103, 101, 32]⟩, ⟨(Lib.itoa x.id).toArray⟩, ⟨#[32]⟩, ⟨(Lib.itoa x.src).toArray⟩, ⟨#[32]⟩, ⟨(Lib.itoa x.dst).toArray⟩, ⟨#[32, 58]⟩, x.type] : List ByteArray).flatMap (fun s => s.data.toList) ++ prpsT x.props = m ++ edgT x := by
        simp [edgT, List.append_assoc]
      rw [he]
      refine (ih (i + 1) _ (m ++ edgT x) (fun y h => hg y (by simp [h])) (by rw [List.length_append]; omega)).trans ?_
      simp [Bool.or_assoc, List.append_assoc]
  exact key l 0 b m hg (by have : 49000 * l.length ≤ 49000 * 60 := Nat.mul_le_mul_left _ hl; omega)
def portR (g : Graph) : ByteArray × Int := bif chkG g != 0 then (⟨#[]⟩, chkG g) else bif bigG g then (⟨#[]⟩, 2) else bif decide (((grT g).length : Int) > 40000) then (⟨#[]⟩, 2) else (⟨(grT g).toArray⟩, 0)
theorem print_ok (g : Graph) (hw : gOk g) (n : Nat) (hn : 6000 ≤ n) : q49z n (g, ()) = some ((portR g).1, (portR g).2, ()) := by
  unfold q49z portR
  dsimp only
  rw [Graph.eta, gcheck_ok g n (by omega), Option.bind_some]
  dsimp only
  cases hc : chkG g != 0 with
  | true => rfl
  | false =>
    have hc0 : chkG g = 0 := by simpa using hc
    have hg := grG_of hw hc0
    simp only [cond_false]
    rw [itoaN_eq hg.i, Option.bind_some]
    dsimp only
    have e0 : ([] : List Int) = bi [] := rfl
    rw [e0, say_ok n [⟨#[110, 101, 120, 116, 32]⟩, ⟨(Lib.itoa g.next).toArray⟩, ⟨#[10]⟩] [] (by simp) (by omega) (fun t ht => by
        simp only [List.mem_cons, List.not_mem_nil, or_false] at ht
        rcases ht with rfl | rfl | rfl
        · exact sz10 _ (by decide)
        · exact itoa_sz hg.i
        · exact sz10 _ (by decide)) (by simp), Option.bind_some]
    dsimp only
    have i0 := itoa_len g.next hg.i
    have hnl := flat_le (e := nodT) (c := 33000) (l := g.nodes) fun x hx => nodT_len (hg.ns x hx)
    have h4 : 33000 * g.nodes.length ≤ 33000 * 40 := Nat.mul_le_mul_left _ hg.nn
    have h5 := hg.nn
    rw [nods0 n hn _ _ g g.nodes h5 hg.ns n false _ (by omega) (by simp; omega)]
    dsimp only
    rw [edgs_ok n hn _ _ g.edges hg.en hg.es _ _ (by simp; simp at hnl; omega)]
    dsimp only
    have he : [] ++ ([⟨#[110, 101, 120, 116, 32]⟩, ⟨(Lib.itoa g.next).toArray⟩, ⟨#[10]⟩] : List ByteArray).flatMap (fun s => s.data.toList) ++ g.nodes.flatMap nodT ++ g.edges.flatMap edgT = grT g := by
      simp [grT, List.append_assoc]
    rw [he, Bool.false_or]
    show (bif bigG g then _ else _) = _
    cases hb : bigG g with
    | true => rfl
    | false =>
      unfold q20z
      simp only [cond_false, Option.bind_some, bi_length]
      cases hl : decide (((grT g).length : Int) > 40000) with
      | true => rfl
      | false => simp only [cond_false, stringN_bi, Option.bind_some]
end Pure

/- A graph has a line for each node and each edge, and one ahead. No program. -/
namespace Pure
open Esp Ev Go
set_option linter.unusedSimpArgs false
set_option linter.unusedVariables false
set_option linter.unusedSimpArgs false
set_option linter.unusedVariables false

theorem esc_no10 : ∀ (l : List UInt8), ∀ c ∈ esc l, c ≠ 10
  | [], c, h => by cases h
  | b :: r, c, h => by
    have e : esc (b :: r) = eb b ++ esc r := rfl
    rw [e, List.mem_append] at h
    rcases h with h | h
    · unfold eb at h
      cases h1 : (b == 39) || (b == 92) with
      | true =>
        rw [h1, cond_true] at h
        simp only [List.mem_cons, List.not_mem_nil, or_false] at h
        rcases h with rfl | rfl
        · decide
        · intro e2; subst e2; simp at h1
      | false =>
        rw [h1, cond_false] at h
        cases h2 : b == 10 with
        | true =>
          rw [h2, cond_true] at h
          simp only [List.mem_cons, List.not_mem_nil, or_false] at h
          rcases h with rfl | rfl <;> decide
        | false =>
          rw [h2, cond_false] at h
          simp only [List.mem_cons, List.not_mem_nil, or_false] at h
          subst h
          intro e2; subst e2; simp at h2
    · exact esc_no10 r c h
theorem itoa_no (n : Int) (k : UInt8) (hk : k ≠ 45) (hk2 : ¬ (48 ≤ k.toNat ∧ k.toNat ≤ 57)) : ∀ c ∈ Lib.itoa n, c ≠ k := by
  obtain ⟨sg, ds, h1, h2, _, h3⟩ := itoa_shape n
  intro c hc e
  subst e
  rw [h1, List.mem_append] at hc
  rcases hc with hc | hc
  · rcases h2 with rfl | rfl
    · cases hc
    · simp at hc; exact hk hc
  · exact hk2 (h3 c hc)
theorem no10_dec {l : List UInt8} (h : l.all (fun c => c != 10) = true) : ∀ c ∈ l, c ≠ 10 := fun c hc => by
  have := List.all_eq_true.1 h c hc
  simpa using this
mutual
theorem prV_no10 : ∀ (v : Val), ∀ c ∈ prV v, c ≠ 10
  | .mk k n s l => by
    rw [prV]
    cases k == 0 with
    | true => exact no10_dec (l := [110, 117, 108, 108]) rfl
    | false =>
      cases k == 1 with
      | true => cases n == 1 with
        | true => exact no10_dec (l := [116, 114, 117, 101]) rfl
        | false => exact no10_dec (l := [102, 97, 108, 115, 101]) rfl
      | false =>
        cases k == 2 with
        | true => exact itoa_no n 10 (by decide) (by decide)
        | false =>
          cases k == 3 with
          | true =>
            intro c hc
            simp only [cond_true, cond_false, List.mem_cons, List.mem_append, List.not_mem_nil, or_false] at hc
            rcases hc with rfl | hc | rfl
            · decide
            · exact esc_no10 _ c hc
            · decide
          | false =>
            cases k == 4 with
            | true =>
              intro c hc
              simp only [cond_true, cond_false, List.mem_cons, List.mem_append, List.not_mem_nil, or_false] at hc
              rcases hc with rfl | hc | rfl
              · decide
              · exact prL_no10 l c hc
              · decide
            | false => intro c hc; cases hc
theorem prL_no10 : ∀ (l : List Val), ∀ c ∈ prL l, c ≠ 10
  | [], c, hc => by rw [prL] at hc; cases hc
  | x :: r, c, hc => by
    rw [prL, List.mem_append] at hc
    rcases hc with hc | hc
    · exact prV_no10 x c hc
    · exact prT_no10 r c hc
theorem prT_no10 : ∀ (l : List Val), ∀ c ∈ prT l, c ≠ 10
  | [], c, hc => by rw [prT] at hc; cases hc
  | x :: r, c, hc => by
    rw [prT, List.mem_cons, List.mem_append] at hc
    rcases hc with rfl | hc | hc
    · decide
    · exact prV_no10 x c hc
    · exact prT_no10 r c hc
end
def nmC (c : UInt8) : Prop := (97 ≤ c.toNat ∧ c.toNat ≤ 122) ∨ (65 ≤ c.toNat ∧ c.toNat ≤ 90) ∨ c.toNat = 95 ∨ (48 ≤ c.toNat ∧ c.toNat ≤ 57)
theorem nmC_of {c : UInt8} (h : (lttI (c.toNat : Int) || digI (c.toNat : Int)) = true) : nmC c := by
  unfold lttI digI at h
  unfold nmC
  simp only [Bool.or_eq_true, Bool.and_eq_true, decide_eq_true_eq, beq_iff_eq] at h
  omega
theorem nmF_C : ∀ (l : List UInt8) (i : Int), nmF i (bi l) = true → ∀ c ∈ l, nmC c
  | [], _, _, c, hc => by cases hc
  | b :: r, i, h, c, hc => by
    rw [bi_cons, nmF] at h
    cases h1 : !(lttI (b.toNat : Int)) && (((i == 0) || (decide ((b.toNat : Int) < 48))) || (decide ((b.toNat : Int) > 57))) with
    | true => rw [h1] at h; cases h
    | false =>
      rw [h1, cond_false] at h
      rcases List.mem_cons.1 hc with rfl | hc
      · apply nmC_of
        cases h2 : lttI (c.toNat : Int) with
        | true => rfl
        | false =>
          rw [h2, Bool.not_false, Bool.true_and] at h1
          have h3 := (Bool.or_eq_false_iff.1 h1)
          have h4 := of_decide_eq_false (Bool.or_eq_false_iff.1 h3.1).2
          have h5 := of_decide_eq_false h3.2
          unfold digI
          simp only [Bool.false_or, Bool.and_eq_true, decide_eq_true_eq]
          omega
      · exact nmF_C r (i + 1) h c hc
theorem nm_C {s : ByteArray} (h : nmB s = true) : ∀ c ∈ s.data.toList, nmC c := by
  unfold nmB at h
  cases h1 : (seq s ⟨#[]⟩) || (decide ((s.size : Int) > 12)) with
  | true => rw [h1] at h; cases h
  | false => rw [h1] at h; exact nmF_C _ _ h
theorem nmC_ne {c : UInt8} (h : nmC c) (k : UInt8) (hk : k = 10 ∨ k = 32 ∨ k = 39 ∨ k = 61 ∨ k = 92 ∨ k = 58) : c ≠ k := by
  rintro rfl
  unfold nmC at h
  rcases hk with rfl | rfl | rfl | rfl | rfl | rfl <;> simp at h

/-! ## how many ends of lines -/
theorem cnt0 {l : List UInt8} (h : ∀ c ∈ l, c ≠ 10) : l.count 10 = 0 := List.count_eq_zero.2 fun hm => h 10 hm rfl
theorem cnt_flat {α : Type} {e : α → List UInt8} {k : Nat} : ∀ {l : List α}, (∀ x ∈ l, (e x).count 10 = k) → (l.flatMap e).count 10 = k * l.length
  | [], _ => by simp
  | x :: r, h => by
    rw [List.flatMap_cons, List.count_append, h x (by simp), cnt_flat (l := r) fun y hy => h y (by simp [hy]), List.length_cons, Nat.mul_add]
    omega
theorem itoa_cnt (n : Int) : (Lib.itoa n).count 10 = 0 := cnt0 (itoa_no n 10 (by decide) (by decide))
theorem nm_cnt {s : ByteArray} (h : nmB s = true) : s.data.toList.count 10 = 0 := cnt0 fun c hc => nmC_ne (nm_C h c hc) 10 (.inl rfl)
theorem prpT_cnt {p : Prp} (h : prpG p) : (prpT p).count 10 = 0 := by
  have h1 := nm_cnt h.nm
  have h2 := cnt0 (prV_no10 p.val)
  unfold prpT
  rw [List.count_cons, List.count_append, List.count_cons, h1]
  cases bigP p <;> simp [h2]
theorem prpsT_cnt {l : List Prp} (h : prpsG l) : (prpsT l).count 10 = 1 := by
  unfold prpsT
  rw [List.count_append, cnt_flat (k := 0) fun x hx => prpT_cnt (h.ps x hx)]
  simp
theorem nodT_cnt {x : Ev.Node} (h : nodG x) : (nodT x).count 10 = 1 := by
  unfold nodT
  rw [List.count_append, List.count_append, List.count_append, prpsT_cnt h.ps, itoa_cnt, cnt_flat (k := 0) fun s hs => by
    have := nm_cnt (h.ls s hs)
    unfold labT
    simp [List.count_cons, this]]
  simp
theorem edgT_cnt {x : Edg} (h : edgG x) : (edgT x).count 10 = 1 := by
  unfold edgT
  simp only [List.count_append, prpsT_cnt h.ps, itoa_cnt, nm_cnt h.t]
  simp
theorem grT_cnt {g : Graph} (h : grG g) : (grT g).count 10 = 1 + g.nodes.length + g.edges.length := by
  unfold grT
  rw [List.count_append, List.count_append, cnt_flat (k := 1) fun x hx => nodT_cnt (h.ns x hx), cnt_flat (k := 1) fun x hx => edgT_cnt (h.es x hx), List.count_append, List.count_append, itoa_cnt]
  simp
theorem lines_fold (n : Nat) (g : Graph) (kr : Unit → Option (Bool × Unit)) (k : Int × (Graph × Unit) × Unit → Option (Bool × Unit)) : ∀ (l : List UInt8) (i : Int) (a : Nat), a + l.length ≤ 1000000 →
    foldK (F_q13z_s0 n kr) k i (bi l) ((a : Int), (g, ()), ()) = k (((a + l.count 10 : Nat) : Int), (g, ()), ())
  | [], _, _, _ => rfl
  | c :: r, i, a, h => by
    rw [List.length_cons] at h
    rw [bi_cons, foldK]
    unfold F_q13z_s0
    dsimp only
    rw [Graph.eta, List.count_cons]
    cases hc : c == 10 with
    | true =>
      have e : c = 10 := by simpa using hc
      rw [e, show (((10 : UInt8).toNat : Int) == 10) = true from rfl, cond_true, wrap64 (by omega) (by omega)]
      have := lines_fold n g kr k r (i + 1) (a + 1) (by omega)
      rw [show (((a + 1 : Nat)) : Int) = (a : Int) + 1 by omega] at this
      refine this.trans ?_
      rw [if_pos rfl, show a + 1 + r.count 10 = a + (r.count 10 + 1) by omega]
    | false =>
      have e : ((c.toNat : Int) == 10) = false := by
        rw [beq_eq_false_iff_ne]
        intro h2
        have : c = 10 := by apply UInt8.toNat_inj.1; show c.toNat = 10; omega
        rw [this] at hc
        cases hc
      rw [e, cond_false]
      refine (lines_fold n g kr k r (i + 1) a (by omega)).trans ?_
      simp
theorem portR_0 {g : Graph} (h : ((portR g).2 != 0) = false) : chkG g = 0 ∧ bigG g = false ∧ (grT g).length ≤ 40000 ∧ portR g = (⟨(grT g).toArray⟩, 0) := by
  unfold portR at h ⊢
  cases h1 : chkG g != 0 with
  | true => rw [h1, cond_true] at h; rw [h] at h1; cases h1
  | false =>
    rw [h1] at h
    cases h2 : bigG g with
    | true => rw [h2] at h; cases h
    | false =>
      rw [h2] at h
      cases h3 : decide (((grT g).length : Int) > 40000) with
      | true => rw [h3] at h; cases h
      | false => exact ⟨by simpa using h1, rfl, by have := of_decide_eq_false h3; omega, rfl⟩
theorem PortLines_ok (g : Graph) (hw : gOk g) (n : Nat) (hn : 50000 ≤ n) : q13z n (g, ()) = some (true, ()) := by
  obtain ⟨m, rfl⟩ : ∃ m, n = m + 80 := ⟨n - 80, by omega⟩
  unfold q13z
  dsimp only
  rw [Graph.eta, print_ok g hw _ (by omega), Option.bind_some]
  dsimp only
  rw [ported_ok, Option.bind_some]
  dsimp only
  rw [Bool.not_true, Bool.false_or]
  cases h : (portR g).2 != 0 with
  | true => rfl
  | false =>
    obtain ⟨h1, h2, h3, h4⟩ := portR_0 h
    have hg := grG_of hw h1
    rw [cond_false, h4]
    dsimp only
    have hz : (⟨(grT g).toArray⟩ : ByteArray).size = (grT g).length := S_sz
    rw [R_q13z_s0 (m + 80) _ _ (⟨(grT g).toArray⟩) (m + 80) 0 (g, ()) (by omega) (by omega)]
    have hl := lines_fold (m + 80) g (fun _ => none) (fun (o12, o13, _) => some ((o12 : Int) == (IntKind.wrap .i64 ((IntKind.wrap .i64 (1 + (o13.1.nodes.length : Int))) + (o13.1.edges.length : Int))), ())) (grT g) 0 0 (by omega)
    have e1 : (⟨(grT g).toArray⟩ : ByteArray).data.toList = grT g := S_ls _
    rw [e1]
    refine hl.trans ?_
    dsimp only
    have hnn := hg.nn
    have hne := hg.en
    rw [grT_cnt hg, wrap64 (x := 1 + (g.nodes.length : Int)) (by omega) (by omega), wrap64 (by omega) (by omega)]
    have : (((0 + (1 + g.nodes.length + g.edges.length) : Nat) : Int) == 1 + (g.nodes.length : Int) + (g.edges.length : Int)) = true := by rw [beq_iff_eq]; omega
    rw [this]
end Pure

/- Lines apart, words apart. No program. -/
namespace Pure
open Esp Ev Go
set_option linter.unusedSimpArgs false
set_option linter.unusedVariables false
set_option linter.unusedSimpArgs false
set_option linter.unusedVariables false

def B (l : List UInt8) : ByteArray := ⟨l.toArray⟩
theorem B_data (l : List UInt8) : (B l).data.toList = l := by simp [B]
theorem B_size (l : List UInt8) : (B l).size = l.length := S_sz
theorem B_of (s : ByteArray) : B s.data.toList = s := rfl
theorem B_app (a b : List UInt8) : B a ++ B b = B (a ++ b) := by
  apply ba_ext
  rw [ByteArray.data_append, Array.toList_append, B_data, B_data, B_data]
theorem cat_B (a b : List UInt8) (h : a.length + b.length ≤ 1000000) : cat? (B a) (B b) = some (B (a ++ b)) := by
  unfold cat?
  rw [B_size, B_size, if_pos (by omega), B_app]

/-! ## a byte's first place -/
theorem ix_at (c : UInt8) (t : List UInt8) : ∀ a : List UInt8, (∀ x ∈ a, x ≠ c) → Lib.index (a ++ c :: t) [c] = (a.length : Int)
  | [], _ => by
    rw [List.nil_append, Lib.index, if_pos (by simp [List.isPrefixOf])]
    rfl
  | b :: r, h => by
    have hb := h b (by simp)
    have ih := ix_at c t r fun x hx => h x (by simp [hx])
    rw [List.cons_append, Lib.index, if_neg (by simp [List.isPrefixOf]; exact fun e => hb e.symm), ih]
    have : ¬ (((r.length : Int)) == -1) = true := by rw [beq_iff_eq]; omega
    rw [if_neg this, List.length_cons]
    omega
theorem splitK_lines : ∀ ls : List (List UInt8), (∀ l ∈ ls, ∀ c ∈ l, c ≠ 10) → Lib.splitK [10] 0 ls.length (ls.flatMap (· ++ [10])) = ls ++ [[]]
  | [], _ => rfl
  | x :: r, h => by
    have hi := ix_at 10 (r.flatMap (· ++ [10])) x (h x (by simp))
    have e : (x :: r).flatMap (· ++ [10]) = x ++ 10 :: r.flatMap (· ++ [10]) := by simp
    rw [e, List.length_cons, Lib.splitK, hi, if_neg (by rw [beq_iff_eq]; omega)]
    have e1 : (((x.length : Int)).toNat + 0) = x.length := by omega
    have e2 : (((x.length : Int)).toNat + ([10] : List UInt8).length) = x.length + 1 := by simp
    rw [e1, e2, List.take_left' rfl, List.drop_append, List.drop_eq_nil_of_le (by omega), List.nil_append, show x.length + 1 - x.length = 1 by omega, List.drop_one, List.tail_cons, splitK_lines r fun l hl => h l (by simp [hl])]
    rfl
theorem map_data {l : List ByteArray} {m : List (List UInt8)} (h : l.map (fun s => s.data.toList) = m) : l = m.map B := by
  rw [← h, List.map_map]
  have : (B ∘ fun s : ByteArray => s.data.toList) = id := funext fun s => B_of s
  rw [this, List.map_id]
theorem split_lines (ls : List (List UInt8)) (h : ∀ l ∈ ls, ∀ c ∈ l, c ≠ 10) (hz : (ls.flatMap (· ++ [10])).length ≤ 100000) :
    splitN (B (ls.flatMap (· ++ [10])), (⟨#[10]⟩ : ByteArray), ()) = some ((ls ++ [[]]).map B, ()) := by
  unfold splitN
  dsimp only
  have h1 : (Nat.blt (B (ls.flatMap (· ++ [10]))).size 4294967281 && Nat.ble 1 (⟨#[10]⟩ : ByteArray).size) = true := by
    rw [B_size, Bool.and_eq_true]
    exact ⟨Nat.ble_eq_true_of_le (by omega), rfl⟩
  rw [h1, cond_true]
  have hc : Lib.countB (B (ls.flatMap (· ++ [10]))) ⟨#[10]⟩ = ls.length := by
    show Lib.count _ _ = _
    rw [B_data, show (⟨#[10]⟩ : ByteArray).data.toList = [10] from rfl, Lib.count_one, cnt_flat (k := 1) fun x hx => by rw [List.count_append, cnt0 (h x hx)]; rfl]
    omega
  rw [hc]
  have hd := Lib.splitB_data (⟨#[10]⟩ : ByteArray) 0 ls.length (B (ls.flatMap (· ++ [10])))
  rw [B_data, show (⟨#[10]⟩ : ByteArray).data.toList = [10] from rfl, splitK_lines ls h] at hd
  rw [map_data hd]
theorem cut_ok' (a t : List UInt8) (h : ∀ c ∈ a, c ≠ 61) (hz : a.length + t.length ≤ 100000) : cutN (B (a ++ 61 :: t), (⟨#[61]⟩ : ByteArray), ()) = some (B a, B t, true, ()) := by
  unfold cutN
  dsimp only
  have h1 : Nat.blt (B (a ++ 61 :: t)).size 4294967281 = true := by
    rw [B_size, List.length_append, List.length_cons]
    exact Nat.ble_eq_true_of_le (by omega)
  rw [h1, cond_true, B_data]
  have hi := ix_at 61 t a h
  unfold Lib.cut
  rw [hi, if_pos (by omega)]
  have e1 : ((a.length : Int)).toNat = a.length := by omega
  have e2 : (((a.length : Int)).toNat + ([61] : List UInt8).length) = a.length + 1 := by simp
  rw [e2, e1, List.take_left' rfl, List.drop_append, List.drop_eq_nil_of_le (by omega), List.nil_append, show a.length + 1 - a.length = 1 by omega, List.drop_one, List.tail_cons]
  rfl

/-! ## words -/
inductive Run : Bool → List UInt8 → Bool → Nat → Prop
  | nil (q : Bool) : Run q [] q 0
  | chr (q : Bool) (c : UInt8) (a : List UInt8) (p : Bool) (k : Nat) (h1 : (c == 92 && q) = false) (h2 : c ≠ 39) (h3 : (c == 32 && !q) = false) (h : Run q a p k) : Run q (c :: a) p (k + 1)
  | quo (q : Bool) (a : List UInt8) (p : Bool) (k : Nat) (h : Run (!q) a p k) : Run q (39 :: a) p (k + 1)
  | esc (d : UInt8) (a : List UInt8) (p : Bool) (k : Nat) (h : Run true a p k) : Run true (92 :: d :: a) p (k + 1)
theorem Run.app {q p r : Bool} {a b : List UInt8} {k j : Nat} (h : Run q a p k) (h2 : Run p b r j) : Run q (a ++ b) r (k + j) := by
  induction h with
  | nil q => rw [Nat.zero_add]; exact h2
  | chr q c a p k h1 h2' h3 h ih => rw [show k + 1 + j = (k + j) + 1 by omega]; exact .chr q c _ _ _ h1 h2' h3 (ih h2)
  | quo q a p k h ih => rw [show k + 1 + j = (k + j) + 1 by omega]; exact .quo q _ _ _ (ih h2)
  | esc d a p k h ih => rw [show k + 1 + j = (k + j) + 1 by omega]; exact .esc d _ _ _ (ih h2)
theorem Run.le {q p : Bool} {a : List UInt8} {k : Nat} (h : Run q a p k) : k ≤ a.length := by
  induction h with
  | nil q => exact Nat.le_refl _
  | chr q c a p k h1 h2' h3 h ih => simp; omega
  | quo q a p k h ih => simp; omega
  | esc d a p k h ih => simp; omega
theorem Run.plain : ∀ (a : List UInt8), (∀ c ∈ a, c ≠ 39 ∧ c ≠ 32) → Run false a false a.length
  | [], _ => .nil _
  | c :: r, h => .chr _ _ _ _ _ (by simp) (h c (by simp)).1 (by simp; exact (h c (by simp)).2) (Run.plain r fun x hx => h x (by simp [hx]))
theorem Run.escs : ∀ (l : List UInt8), ∃ k, Run true (Pure.esc l) true k
  | [] => ⟨0, .nil _⟩
  | b :: r => by
    obtain ⟨k, hk⟩ := Run.escs r
    have e : Pure.esc (b :: r) = eb b ++ Pure.esc r := rfl
    rw [e]
    unfold eb
    cases h1 : (b == 39) || (b == 92) with
    | true => exact ⟨_, .esc b _ _ _ hk⟩
    | false =>
      rw [cond_false]
      cases h2 : b == 10 with
      | true => exact ⟨_, .esc 110 _ _ _ hk⟩
      | false =>
        have h3 := Bool.or_eq_false_iff.1 h1
        exact ⟨_, .chr _ _ _ _ _ (by rw [h3.2]; rfl) (by simpa using h3.1) (by simp) hk⟩
theorem Run.itoa (n : Int) : Run false (Lib.itoa n) false (Lib.itoa n).length :=
  .plain _ fun c hc => ⟨itoa_no n 39 (by decide) (by decide) c hc, itoa_no n 32 (by decide) (by decide) c hc⟩
theorem Run.lit {l : List UInt8} (h : l.all (fun c => c != 39 && c != 32) = true) : ∃ k, Run false l false k :=
  ⟨_, .plain l fun c hc => by
    have := List.all_eq_true.1 h c hc
    simpa using this⟩
mutual
theorem Run.prV : ∀ (v : Val), ∃ k, Run false (Pure.prV v) false k
  | .mk k n s l => by
    rw [Pure.prV]
    cases k == 0 with
    | true => exact Run.lit (l := [110, 117, 108, 108]) rfl
    | false =>
      cases k == 1 with
      | true => cases n == 1 with
        | true => exact Run.lit (l := [116, 114, 117, 101]) rfl
        | false => exact Run.lit (l := [102, 97, 108, 115, 101]) rfl
      | false =>
        cases k == 2 with
        | true => exact ⟨_, .itoa n⟩
        | false =>
          cases k == 3 with
          | true =>
            obtain ⟨j, hj⟩ := Run.escs s.data.toList
            exact ⟨_, .quo _ _ _ _ (hj.app (.quo _ _ _ _ (.nil _)))⟩
          | false =>
            cases k == 4 with
            | true =>
              obtain ⟨j, hj⟩ := Run.prL l
              exact ⟨_, .chr _ _ _ _ _ (by simp) (by decide) (by decide) (hj.app (.chr _ _ _ _ _ (by simp) (by decide) (by decide) (.nil _)))⟩
            | false => exact ⟨_, .nil _⟩
theorem Run.prL : ∀ (l : List Val), ∃ k, Run false (Pure.prL l) false k
  | [] => by rw [Pure.prL]; exact ⟨_, .nil _⟩
  | x :: r => by
    rw [Pure.prL]
    obtain ⟨a, ha⟩ := Run.prV x
    obtain ⟨b, hb⟩ := Run.prT r
    exact ⟨_, ha.app hb⟩
theorem Run.prT : ∀ (l : List Val), ∃ k, Run false (Pure.prT l) false k
  | [] => by rw [Pure.prT]; exact ⟨_, .nil _⟩
  | x :: r => by
    rw [Pure.prT]
    obtain ⟨a, ha⟩ := Run.prV x
    obtain ⟨b, hb⟩ := Run.prT r
    exact ⟨_, .chr _ _ _ _ _ (by simp) (by decide) (by decide) (ha.app hb)⟩
end
theorem Run.name {s : ByteArray} (h : nmB s = true) : Run false s.data.toList false s.data.toList.length :=
  .plain _ fun c hc => ⟨nmC_ne (nm_C h c hc) 39 (.inr (.inr (.inl rfl))), nmC_ne (nm_C h c hc) 32 (.inr (.inl rfl))⟩
theorem b92 {c : UInt8} {q : Bool} (h : (c == 92 && q) = false) (x : Bool) : (((c.toNat : Int) == 92) && q && x) = false := by
  have e : ((c.toNat : Int) == 92) = (c == 92) := by
    cases h1 : c == 92 with
    | true => have : c = 92 := by simpa using h1
              rw [this]; rfl
    | false =>
      rw [beq_eq_false_iff_ne]
      intro h2
      have : c = 92 := by apply UInt8.toNat_inj.1; show c.toNat = 92; omega
      rw [this] at h1; cases h1
  rw [e, h, Bool.false_and]
theorem b32 (c : UInt8) : ((c.toNat : Int) == 32) = (c == 32) := by
  cases h1 : c == 32 with
  | true => have : c = 32 := by simpa using h1
            rw [this]; rfl
  | false =>
    rw [beq_eq_false_iff_ne]
    intro h2
    have : c = 32 := by apply UInt8.toNat_inj.1; show c.toNat = 32; omega
    rw [this] at h1; cases h1
theorem b39 {c : UInt8} (h : c ≠ 39) : ((c.toNat : Int) == 39) = false := by
  rw [beq_eq_false_iff_ne]
  intro h2
  exact h (by apply UInt8.toNat_inj.1; show c.toNat = 39; omega)
theorem words_run {ρ : Type} (n : Nat) (kx : ByteArray × (List ByteArray) × Unit → Option ρ) (kr : Unit → Option ρ) (T : ByteArray) (hT : T.size ≤ 50000) {q p : Bool} {a : List UInt8} {k : Nat} (h : Run q a p k) :
    ∀ (u w : List UInt8) (i : Int) (out : List ByteArray) (fuel : Nat), At T i (a ++ u) → w.length ≤ i →
      iterN (fun rc => q51z_s0 n rc kx kr) (fuel + k) (T, B w, q, i, out, ()) = iterN (fun rc => q51z_s0 n rc kx kr) fuel (T, B (w ++ a), p, i + (a.length : Int), out, ()) := by
  induction h with
  | nil q => intro u w i out fuel _ _; simp
  | chr q c a p k h1 h2 h3 h ih =>
    intro u w i out fuel hA hw
    have hl := hA.len
    rw [List.cons_append, List.length_cons] at hl
    rw [show fuel + (k + 1) = (fuel + k) + 1 by omega, iterN]
    conv => lhs; unfold q51z_s0
    dsimp only
    have hA1 : At T i ([c] ++ (a ++ u)) := hA
    have hcut := hA1.cut
    have e1 : ((([c] : List UInt8).length : Nat) : Int) = 1 := rfl
    rw [e1] at hcut
    rw [show decide (i < (T.size : Int)) = true from decide_eq_true (by omega), cond_true, At.byte (c := c) (t := a ++ u) hA, Option.bind_some]
    rw [b92 h1, cond_false, b39 h2, cond_false, b32 c, h3, cond_false, wrap64 (by omega) (by omega), hcut, Option.bind_some, show (⟨([c] : List UInt8).toArray⟩ : ByteArray) = B [c] from rfl, cat_B w [c] (by simp; omega), Option.bind_some]
    have hg := hA1.go
    rw [e1] at hg
    refine (ih u (w ++ [c]) (i + 1) out fuel hg (by simp; omega)).trans ?_
    rw [List.append_assoc, List.singleton_append, List.length_cons, show i + 1 + (a.length : Int) = i + ((a.length + 1 : Nat) : Int) by omega]
  | quo q a p k h ih =>
    intro u w i out fuel hA hw
    have hl := hA.len
    rw [List.cons_append, List.length_cons] at hl
    rw [show fuel + (k + 1) = (fuel + k) + 1 by omega, iterN]
    conv => lhs; unfold q51z_s0
    dsimp only
    have hA1 : At T i ([39] ++ (a ++ u)) := hA
    have hcut := hA1.cut
    have e1 : ((([39] : List UInt8).length : Nat) : Int) = 1 := rfl
    rw [e1] at hcut
    rw [show decide (i < (T.size : Int)) = true from decide_eq_true (by omega), cond_true, At.byte (c := 39) (t := a ++ u) hA, Option.bind_some]
    rw [show (((39 : UInt8).toNat : Int) == 92) = false from rfl, Bool.false_and, Bool.false_and, cond_false, show (((39 : UInt8).toNat : Int) == 39) = true from rfl, cond_true, wrap64 (by omega) (by omega), hcut, Option.bind_some, show (⟨([39] : List UInt8).toArray⟩ : ByteArray) = B [39] from rfl, cat_B w [39] (by simp; omega), Option.bind_some]
    have hg := hA1.go
    rw [e1] at hg
    refine (ih u (w ++ [39]) (i + 1) out fuel hg (by simp; omega)).trans ?_
    rw [List.append_assoc, List.singleton_append, List.length_cons, show i + 1 + (a.length : Int) = i + ((a.length + 1 : Nat) : Int) by omega]
  | esc d a p k h ih =>
    intro u w i out fuel hA hw
    have hl := hA.len
    rw [List.cons_append, List.cons_append, List.length_cons, List.length_cons] at hl
    rw [show fuel + (k + 1) = (fuel + k) + 1 by omega, iterN]
    conv => lhs; unfold q51z_s0
    dsimp only
    have hA1 : At T i ([92, d] ++ (a ++ u)) := hA
    have hcut := hA1.cut
    have e1 : ((([92, d] : List UInt8).length : Nat) : Int) = 2 := rfl
    rw [e1] at hcut
    have w1 : IntKind.wrap .i64 (i + 1) = i + 1 := wrap64 (by omega) (by omega)
    rw [show decide (i < (T.size : Int)) = true from decide_eq_true (by omega), cond_true, At.byte (c := 92) (t := d :: (a ++ u)) hA, Option.bind_some]
    rw [w1, show decide (i + 1 < (T.size : Int)) = true from decide_eq_true (by omega), show (((92 : UInt8).toNat : Int) == 92) = true from rfl, Bool.true_and, Bool.true_and, cond_true, wrap64 (x := i + 2) (by omega) (by omega), hcut, Option.bind_some, show (⟨([92, d] : List UInt8).toArray⟩ : ByteArray) = B [92, d] from rfl, cat_B w [92, d] (by simp; omega), Option.bind_some, wrap64 (x := i + 1 + 1) (by omega) (by omega)]
    have hg := hA1.go
    rw [e1] at hg
    rw [show i + 1 + 1 = i + 2 by omega]
    refine (ih u (w ++ [92, d]) (i + 2) out fuel hg (by simp; omega)).trans ?_
    rw [List.append_assoc, List.length_cons, List.length_cons, show i + 2 + (a.length : Int) = i + ((a.length + 1 + 1 : Nat) : Int) by omega]
    rfl
end Pure

/- Words of a line; a line read back. No program. -/
namespace Pure
open Esp Ev Go
set_option linter.unusedSimpArgs false
set_option linter.unusedVariables false
set_option linter.unusedSimpArgs false
set_option linter.unusedVariables false

theorem room16 {n : Nat} (h : n ≤ 100000) : room n 16 = true := by
  unfold room
  rw [Bool.and_eq_true]
  exact ⟨Nat.ble_eq_true_of_le (by omega), Nat.ble_eq_true_of_le (by omega)⟩
def sepW (r : List (List UInt8)) : List UInt8 := r.flatMap fun x => 32 :: x
theorem words_loop (n : Nat) (kr : Unit → Option (List ByteArray × Unit)) (T : ByteArray) (hT : T.size ≤ 50000) :
    ∀ (r : List (List UInt8)) (w : List UInt8) (i : Int) (out : List (List UInt8)) (fuel : Nat), (∀ x ∈ r, ∃ k, Run false x false k) → At T i (sepW r) → (w.length : Int) ≤ i → (out.length : Int) ≤ i → (sepW r).length < fuel →
      iterN (fun rc => q51z_s0 n rc (fun (v14, o15, _) => ck (room (o15 ++ ([v14] : List ByteArray)).length 16) (some (o15 ++ ([v14] : List ByteArray), ()))) kr) fuel (T, B w, false, i, out.map B, ()) = some ((out ++ w :: r).map B, ())
  | [], w, i, out, fuel, _, hA, hw, ho, hf => by
    obtain ⟨f, rfl⟩ : ∃ f, fuel = f + 1 := ⟨fuel - 1, by omega⟩
    have hl := hA.len
    rw [iterN]
    unfold q51z_s0
    dsimp only
    have hz : i = (T.size : Int) := by have := hl.2; simp [sepW] at this; omega
    rw [show decide (i < (T.size : Int)) = false from decide_eq_false (by omega), cond_false, ck_ok (room16 (by simp; omega))]
    simp
  | x :: r, w, i, out, fuel, hr, hA, hw, ho, hf => by
    obtain ⟨f, rfl⟩ : ∃ f, fuel = f + 1 := ⟨fuel - 1, by omega⟩
    obtain ⟨k, hk⟩ := hr x (by simp)
    have e : sepW (x :: r) = 32 :: (x ++ sepW r) := by simp [sepW]
    rw [e] at hA hf
    have hl := hA.len
    rw [List.length_cons, List.length_append] at hl hf
    have hkl := hk.le
    rw [iterN]
    conv => lhs; unfold q51z_s0
    dsimp only
    have hA1 : At T i ([32] ++ (x ++ sepW r)) := hA
    have hg := hA1.go
    have e1 : ((([32] : List UInt8).length : Nat) : Int) = 1 := rfl
    rw [e1] at hg
    rw [show decide (i < (T.size : Int)) = true from decide_eq_true (by omega), cond_true, At.byte (c := 32) (t := x ++ sepW r) hA, Option.bind_some]
    rw [show (((32 : UInt8).toNat : Int) == 92) = false from rfl, Bool.false_and, Bool.false_and, cond_false, show (((32 : UInt8).toNat : Int) == 39) = false from rfl, cond_false, show (((32 : UInt8).toNat : Int) == 32) = true from rfl, Bool.not_false, Bool.and_true, cond_true, ck_ok (room16 (by simp; omega)), wrap64 (by omega) (by omega)]
    obtain ⟨f2, rfl⟩ : ∃ f2, f = f2 + k := ⟨f - k, by omega⟩
    have hrun := words_run n (fun (v14, o15, _) => ck (room (o15 ++ ([v14] : List ByteArray)).length 16) (some (o15 ++ ([v14] : List ByteArray), ()))) kr T hT hk (sepW r) [] (i + 1) (out.map B ++ [B w]) f2 hg (by simp; omega)
    refine hrun.trans ?_
    have hg2 := hg.go
    have ih := words_loop n kr T hT r ([] ++ x) (i + 1 + (x.length : Int)) (out ++ [w]) f2 (fun y hy => hr y (by simp [hy])) hg2 (by simp; omega) (by simp; omega) (by omega)
    rw [List.map_append, List.map_cons, List.map_nil] at ih
    refine ih.trans ?_
    simp
theorem words_ok (n : Nat) (x : List UInt8) (r : List (List UInt8)) (h : ∃ k, Run false x false k) (hr : ∀ y ∈ r, ∃ k, Run false y false k) (hl : (x ++ sepW r).length ≤ 50000) (hn : (x ++ sepW r).length < n) :
    q51z n (B (x ++ sepW r), ()) = some ((x :: r).map B, ()) := by
  obtain ⟨k, hk⟩ := h
  have hkl := hk.le
  rw [List.length_append] at hl hn
  unfold q51z
  dsimp only
  have hA : At (B (x ++ sepW r)) 0 (x ++ sepW r) := ⟨[], by rw [B_data]; rfl, rfl⟩
  obtain ⟨f, rfl⟩ : ∃ f, n = f + k := ⟨n - k, by omega⟩
  have hz : (B (x ++ sepW r)).size ≤ 50000 := by rw [B_size, List.length_append]; exact hl
  have hrun := words_run (f + k) (fun (v14, o15, _) => ck (room (o15 ++ ([v14] : List ByteArray)).length 16) (some (o15 ++ ([v14] : List ByteArray), ()))) (fun _ => none) (B (x ++ sepW r)) hz hk (sepW r) [] 0 [] f hA (by simp)
  refine hrun.trans ?_
  have ih := words_loop (f + k) (fun _ => none) (B (x ++ sepW r)) hz r ([] ++ x) (0 + (x.length : Int)) [] f hr hA.go (by simp) (by simp) (by omega)
  refine ih.trans ?_
  simp

/-! ## what stands behind -/
def prpW (p : Prp) : List UInt8 := p.name.data.toList ++ 61 :: prV p.val
def labW (s : ByteArray) : List UInt8 := 58 :: s.data.toList
theorem prpW_run {p : Prp} (h : prpG p) : ∃ k, Run false (prpW p) false k := by
  obtain ⟨k, hk⟩ := Run.prV p.val
  exact ⟨_, (Run.name h.nm).app (.chr _ _ _ _ _ (by simp) (by decide) (by decide) hk)⟩
theorem labW_run {s : ByteArray} (h : nmB s = true) : ∃ k, Run false (labW s) false k :=
  ⟨_, .chr _ _ _ _ _ (by simp) (by decide) (by decide) (Run.name h)⟩
theorem pf_of {c : UInt8} (hc : c ≠ 58) (l : List UInt8) : ([58] : List UInt8).isPrefixOf (c :: l) = false := by
  simp [List.isPrefixOf]
  exact fun e => hc e.symm
theorem hasP (t : List UInt8) : q28z (B t, (⟨#[58]⟩ : ByteArray), ()) = some (([58] : List UInt8).isPrefixOf t, ()) := by
  unfold q28z
  have := hasPrefix_eq t [58]
  dsimp only
  rw [show (B t) = (⟨t.toArray⟩ : ByteArray) from rfl, show (⟨#[58]⟩ : ByteArray) = ⟨([58] : List UInt8).toArray⟩ from rfl, this]
  rfl
theorem attrs_ok (n : Nat) (hn : 5100 ≤ n) (l : List Prp) (h : prpsG l) (hb : l.any bigP = false) : q32z n (l.map fun p => B (prpW p), ()) = some (l, true, ()) := by
  have hn5 : 5010 ≤ n := by omega
  unfold q32z
  dsimp only
  have h6 := h.n
  rw [R_q32z_s0 n _ _ (l.map fun p => B (prpW p)) n [] (by rw [List.length_map]; omega) (by rw [List.length_map]; omega)]
  have key : ∀ (r p : List Prp) (i : Int), (∀ x ∈ r, prpG x ∧ bigP x = false) → p.length + r.length ≤ 6 →
      foldK (F_q32z_s0 n (fun (v14, v15, _) => some (v14, v15, ()))) (fun (o5, _) => some (o5, true, ())) i (r.map fun p => B (prpW p)) (p, ()) = some (p ++ r, true, ()) := by
    intro r
    induction r with
    | nil => intro p i _ _; simp [foldK]
    | cons x r ih =>
      intro p i hx hl
      rw [List.length_cons] at hl
      obtain ⟨hg, hbx⟩ := hx x (by simp)
      have hz := of_decide_eq_false hbx
      have hnm := nm_len hg.nm
      rw [List.map_cons, foldK]
      unfold F_q32z_s0
      dsimp only
      rw [show prpW x = x.name.data.toList ++ 61 :: prV x.val from rfl, cut_ok' _ _ (fun c hc => nmC_ne (nm_C hg.nm c hc) 61 (.inr (.inr (.inr (.inl rfl))))) (by omega), Option.bind_some]
      dsimp only
      have hp := Parse_ok x.val n hn5 hg.ok hg.r (by omega)
      rw [show B (prV x.val) = (⟨(prV x.val).toArray⟩ : ByteArray) from rfl, hp, Option.bind_some]
      dsimp only
      rw [show ((0 : Int) != 0) = false from rfl, Bool.not_true, Bool.or_false, cond_false, ck_ok (room_ok (by simp; omega) (by omega))]
      have e : Ev.Prp.mk (B x.name.data.toList) (Ev.Val.mk x.val.kind x.val.n x.val.s x.val.l) = x := by rw [B_of, Val.eta]
      rw [e]
      refine (ih (p ++ [x]) (i + 1) (fun y hy => hx y (by simp [hy])) (by simp; omega)).trans ?_
      simp
  have hall : ∀ x ∈ l, prpG x ∧ bigP x = false := fun x hx => ⟨h.ps x hx, by
    have := List.any_eq_false.1 hb x hx
    simpa using this⟩
  exact key l [] 0 hall (by simp; omega)
theorem labs_read {ρ : Type} (n : Nat) (kx : (List ByteArray) × Bool × (Int × Unit) × (List ByteArray) × (Int × Unit) × (List Ev.Node) × (List Ev.Edg) × Unit → Option ρ) (kr : Unit → Option ρ) (id nx : Int) (ns : List Ev.Node) (es : List Edg) (ps : List Prp) (hp : prpsG ps) :
    ∀ (r done : List ByteArray) (fuel : Nat), done.length + r.length ≤ 4 → r.length < fuel →
      iterN (fun rc => port_line_s1 n rc kx kr) fuel (r.map (fun s => B (labW s)) ++ ps.map (fun p => B (prpW p)), true, (id, ()), done, (nx, ()), ns, es, ()) =
        kx (ps.map (fun p => B (prpW p)), true, (id, ()), done ++ r, (nx, ()), ns, es, ())
  | [], done, fuel, hl, hf => by
    obtain ⟨f, rfl⟩ : ∃ f, fuel = f + 1 := ⟨fuel - 1, by omega⟩
    rw [iterN]
    unfold port_line_s1
    dsimp only
    rw [List.map_nil, List.nil_append, List.append_nil, Bool.true_and]
    cases ps with
    | nil => rfl
    | cons p r =>
      rw [List.map_cons, show decide (((B (prpW p) :: r.map fun p => B (prpW p)).length : Int) > 0) = true from decide_eq_true (by simp), cond_true, show ix (B (prpW p) :: r.map fun p => B (prpW p)) 0 = some (B (prpW p)) from rfl, Option.bind_some, hasP, Option.bind_some]
      have hg := hp.ps p (by simp)
      have hne : ∃ c q, prpW p = c :: q ∧ c ≠ 58 := by
        unfold prpW
        cases hnm : p.name.data.toList with
        | nil => exact ⟨61, _, rfl, by decide⟩
        | cons c q => exact ⟨c, _, rfl, nmC_ne (nm_C hg.nm c (by rw [hnm]; simp)) 58 (.inr (.inr (.inr (.inr (.inr rfl)))))⟩
      obtain ⟨c, q, h1, h2⟩ := hne
      dsimp only
      rw [h1, pf_of h2, cond_false]
  | s :: r, done, fuel, hl, hf => by
    obtain ⟨f, rfl⟩ : ∃ f, fuel = f + 1 := ⟨fuel - 1, by omega⟩
    rw [List.length_cons] at hl hf
    rw [iterN]
    conv => lhs; unfold port_line_s1
    dsimp only
    rw [List.map_cons, List.cons_append, Bool.true_and]
    generalize hR : (r.map (fun s => B (labW s)) ++ ps.map (fun p => B (prpW p))) = R
    have h6 := hp.n
    have hRl : R.length ≤ 10 := by rw [← hR]; simp; omega
    rw [show decide (((B (labW s) :: R).length : Int) > 0) = true from decide_eq_true (by simp), cond_true, show ix (B (labW s) :: R) 0 = some (B (labW s)) from rfl, Option.bind_some, hasP, Option.bind_some]
    dsimp only
    have hA : At (B (labW s)) 1 s.data.toList := ⟨[58], by rw [B_data]; rfl, rfl⟩
    rw [show ([58] : List UInt8).isPrefixOf (labW s) = true from by simp [labW, List.isPrefixOf], cond_true, Option.bind_some, hA.rest, Option.bind_some, ck_ok (room_ok (by simp; omega) (by omega))]
    have hls : lsl (B (labW s) :: R) 1 ((B (labW s) :: R).length : Int) = some R := by
      unfold lsl
      rw [if_pos ⟨by omega, by simp; omega, by omega⟩]
      simp
    rw [hls, Option.bind_some]
    have ih := labs_read n kx kr id nx ns es ps hp r (done ++ [s]) f (by simp; omega) (by omega)
    rw [hR] at ih
    refine ih.trans ?_
    simp
theorem count_ok {k : Int} (h : wfI .i64 k) : q50z (B (Lib.itoa k), ()) = some (k, true, ()) := by
  unfold q50z
  dsimp only
  rw [show B (Lib.itoa k) = (⟨(Lib.itoa k).toArray⟩ : ByteArray) from rfl, atoiN_itoa h, Option.bind_some]
  dsimp only
  rw [itoaN_eq h, Option.bind_some, seq_refl]
def wordsN (x : Ev.Node) : List (List UInt8) := Lib.itoa x.id :: (x.labels.map labW ++ x.props.map prpW)
def wordsE (x : Edg) : List (List UInt8) := Lib.itoa x.id :: Lib.itoa x.src :: Lib.itoa x.dst :: labW x.type :: x.props.map prpW
theorem lineN_ok (n : Nat) (hn : 5100 ≤ n) (x : Ev.Node) (hx : nodG x) (hb : x.props.any bigP = false) (nx : Int) (ns : List Ev.Node) (hl : ns.length ≤ 100) :
    port_line n (([110, 111, 100, 101] :: wordsN x).map B, (nx, ()), ns, [], ()) = some (true, (nx, ()), ns ++ [x], [], ()) := by
  unfold port_line wordsN
  dsimp only
  rw [List.map_cons, List.map_cons, List.map_append, List.map_map, List.map_map]
  have h4 := hx.n
  have h6 := hx.ps.n
  generalize hR : x.labels.map (B ∘ labW) ++ x.props.map (B ∘ prpW) = R
  have hRl : R.length ≤ 10 := by rw [← hR]; simp; omega
  rw [show ix (B [110, 111, 100, 101] :: B (Lib.itoa x.id) :: R) 0 = some (B [110, 111, 100, 101]) from rfl, Option.bind_some, show seq (B [110, 111, 100, 101]) (⟨#[110, 111, 100, 101]⟩ : ByteArray) = true from seq_refl _, Bool.true_and,
    show decide (((B [110, 111, 100, 101] :: B (Lib.itoa x.id) :: R).length : Int) > 1) = true from decide_eq_true (by simp; omega), Bool.true_and, show ((((([] : List Edg).length : Nat) : Int)) == 0) = true from rfl, cond_true,
    show ix (B [110, 111, 100, 101] :: B (Lib.itoa x.id) :: R) 1 = some (B (Lib.itoa x.id)) from rfl, Option.bind_some, count_ok hx.i, Option.bind_some]
  dsimp only
  have hls : lsl (B [110, 111, 100, 101] :: B (Lib.itoa x.id) :: R) 2 ((B [110, 111, 100, 101] :: B (Lib.itoa x.id) :: R).length : Int) = some R := by
    unfold lsl
    rw [if_pos ⟨by omega, by simp; omega, by omega⟩]
    simp
    rw [List.take_of_length_le (by omega)]
  rw [hls, Option.bind_some, ← hR]
  refine (labs_read n _ _ x.id nx ns [] x.props hx.ps x.labels [] n (by simp; omega) (by omega)).trans ?_
  dsimp only
  rw [attrs_ok n hn x.props hx.ps hb, Option.bind_some]
  dsimp only
  rw [ck_ok (room_ok (by simp; omega) (by omega)), List.nil_append]
  rfl
theorem lineE_ok (n : Nat) (hn : 5100 ≤ n) (x : Edg) (hx : edgG x) (hb : x.props.any bigP = false) (nx : Int) (ns : List Ev.Node) (es : List Edg) (hl : es.length ≤ 100) :
    port_line n (([101, 100, 103, 101] :: wordsE x).map B, (nx, ()), ns, es, ()) = some (true, (nx, ()), ns, es ++ [x], ()) := by
  unfold port_line wordsE
  dsimp only
  simp only [List.map_cons, List.map_map]
  have h6 := hx.ps.n
  generalize hR : x.props.map (B ∘ prpW) = R
  have hRl : R.length ≤ 6 := by rw [← hR]; simp; omega
  generalize hW : (B [101, 100, 103, 101] :: B (Lib.itoa x.id) :: B (Lib.itoa x.src) :: B (Lib.itoa x.dst) :: B (labW x.type) :: R) = W
  have hWl : W.length = R.length + 5 := by rw [← hW]; rfl
  have i0 : ix W 0 = some (B [101, 100, 103, 101]) := by rw [← hW]; rfl
  have i1 : ix W 1 = some (B (Lib.itoa x.id)) := by rw [← hW]; rfl
  have i2 : ix W 2 = some (B (Lib.itoa x.src)) := by rw [← hW]; rfl
  have i3 : ix W 3 = some (B (Lib.itoa x.dst)) := by rw [← hW]; rfl
  have i4 : ix W 4 = some (B (labW x.type)) := by rw [← hW]; rfl
  have s0 : seq (B [101, 100, 103, 101]) (⟨#[110, 111, 100, 101]⟩ : ByteArray) = false := by kernel_rfl
  have s1 : seq (B [101, 100, 103, 101]) (⟨#[101, 100, 103, 101]⟩ : ByteArray) = true := seq_refl _
  rw [i0, Option.bind_some, s0, Bool.false_and, Bool.false_and, cond_false, Option.bind_some, s1, Bool.true_and, show decide ((W.length : Int) > 4) = true from decide_eq_true (by omega), cond_true, i4, Option.bind_some, hasP, Option.bind_some]
  dsimp only
  have hA : At (B (labW x.type)) 1 x.type.data.toList := ⟨[58], by rw [B_data]; rfl, rfl⟩
  have hls : lsl W 5 (W.length : Int) = some R := by
    unfold lsl
    rw [if_pos ⟨by omega, by omega, by omega⟩, ← hW]
    simp
    rw [List.take_of_length_le (by omega)]
  rw [show ([58] : List UInt8).isPrefixOf (labW x.type) = true from by simp [labW, List.isPrefixOf], cond_true, i1, Option.bind_some, count_ok hx.i, Option.bind_some]
  dsimp only
  rw [i2, Option.bind_some, count_ok hx.s, Option.bind_some]
  dsimp only
  rw [i3, Option.bind_some, count_ok hx.d, Option.bind_some]
  dsimp only
  have ha := attrs_ok n hn x.props hx.ps hb
  rw [show (x.props.map fun p => B (prpW p)) = R from hR] at ha
  rw [hls, Option.bind_some, ha, Option.bind_some]
  dsimp only
  rw [Option.bind_some, hA.rest, Option.bind_some, ck_ok (room_ok (by simp; omega) (by omega))]
  rfl
end Pure

/- What is printed of a graph is read as it. No program. -/
namespace Pure
open Esp Ev Go
set_option linter.unusedSimpArgs false
set_option linter.unusedVariables false
set_option linter.unusedSimpArgs false
set_option linter.unusedVariables false

def lineH (g : Graph) : List UInt8 := [110, 101, 120, 116] ++ sepW [Lib.itoa g.next]
def lineN (x : Ev.Node) : List UInt8 := [110, 111, 100, 101] ++ sepW (wordsN x)
def lineE (x : Edg) : List UInt8 := [101, 100, 103, 101] ++ sepW (wordsE x)
theorem props_text : ∀ {l : List Prp}, l.any bigP = false → l.flatMap prpT = sepW (l.map prpW)
  | [], _ => rfl
  | p :: r, h => by
    rw [List.any_cons, Bool.or_eq_false_iff] at h
    have ih := props_text h.2
    rw [List.flatMap_cons, ih]
    simp [sepW, prpT, prpW, h.1]
theorem labs_text (l : List ByteArray) : l.flatMap labT = sepW (l.map labW) := by
  induction l with
  | nil => rfl
  | cons s r ih => rw [List.flatMap_cons, ih]; simp [sepW, labT, labW]
theorem sepW_app (a b : List (List UInt8)) : sepW (a ++ b) = sepW a ++ sepW b := by simp [sepW]
theorem sepW_cons (a : List UInt8) (b : List (List UInt8)) : sepW (a :: b) = 32 :: (a ++ sepW b) := by simp [sepW]
theorem nod_line {x : Ev.Node} (h : x.props.any bigP = false) : nodT x = lineN x ++ [10] := by
  unfold nodT lineN wordsN prpsT
  rw [labs_text, props_text h, sepW_cons, sepW_app]
  simp [List.append_assoc]
theorem edg_line {x : Edg} (h : x.props.any bigP = false) : edgT x = lineE x ++ [10] := by
  unfold edgT lineE wordsE prpsT
  rw [props_text h]
  simp only [sepW_cons]
  simp [labW, List.append_assoc]
def linesG (g : Graph) : List (List UInt8) := lineH g :: (g.nodes.map lineN ++ g.edges.map lineE)
theorem flatMap_map' {α : Type} (f : α → List UInt8) (l : List α) : (l.map f).flatMap (· ++ [10]) = l.flatMap fun x => f x ++ [10] := by
  induction l with
  | nil => rfl
  | cons a r ih => rw [List.map_cons, List.flatMap_cons, List.flatMap_cons, ih]
theorem flatMap_eq' {α : Type} {f g : α → List UInt8} {l : List α} (h : ∀ x ∈ l, f x = g x) : l.flatMap f = l.flatMap g := by
  induction l with
  | nil => rfl
  | cons a r ih => rw [List.flatMap_cons, List.flatMap_cons, h a (by simp), ih fun x hx => h x (by simp [hx])]
theorem bigG_not {g : Graph} (h : bigG g = false) : (∀ x ∈ g.nodes, x.props.any bigP = false) ∧ ∀ x ∈ g.edges, x.props.any bigP = false := by
  unfold bigG at h
  rw [Bool.or_eq_false_iff] at h
  exact ⟨fun x hx => by have := List.any_eq_false.1 h.1 x hx; simpa using this, fun x hx => by have := List.any_eq_false.1 h.2 x hx; simpa using this⟩
theorem gr_lines {g : Graph} (h : bigG g = false) : grT g = (linesG g).flatMap (· ++ [10]) := by
  obtain ⟨h1, h2⟩ := bigG_not h
  unfold grT linesG lineH
  rw [flatMap_eq' (g := fun x => lineN x ++ [10]) fun x hx => nod_line (h1 x hx), flatMap_eq' (g := fun x => lineE x ++ [10]) fun x hx => edg_line (h2 x hx), List.flatMap_cons, List.flatMap_append, flatMap_map', flatMap_map']
  simp [sepW, List.append_assoc]
theorem line_no10 {l : List UInt8} (h : (l ++ [10]).count 10 = 1) : ∀ c ∈ l, c ≠ 10 := fun c hc e => by
  subst e
  rw [List.count_append] at h
  have : 0 < l.count 10 := List.count_pos_iff.2 hc
  simp at h
  omega
theorem lines_no10 {g : Graph} (hg : grG g) (h : bigG g = false) : ∀ l ∈ linesG g, ∀ c ∈ l, c ≠ 10 := by
  obtain ⟨h1, h2⟩ := bigG_not h
  intro l hl
  unfold linesG at hl
  rcases List.mem_cons.1 hl with rfl | hl
  · refine line_no10 ?_
    unfold lineH
    rw [sepW_cons]
    simp only [List.count_append, List.count_cons, itoa_cnt]
    rfl
  · rcases List.mem_append.1 hl with hl | hl
    · obtain ⟨x, hx, rfl⟩ := List.mem_map.1 hl
      exact line_no10 (by rw [← nod_line (h1 x hx)]; exact nodT_cnt (hg.ns x hx))
    · obtain ⟨x, hx, rfl⟩ := List.mem_map.1 hl
      exact line_no10 (by rw [← edg_line (h2 x hx)]; exact edgT_cnt (hg.es x hx))
theorem mem_len {α : Type} {f : α → List UInt8} : ∀ {l : List α} {x : α}, x ∈ l → (f x).length ≤ (l.flatMap f).length
  | y :: r, x, h => by
    rw [List.flatMap_cons, List.length_append]
    rcases List.mem_cons.1 h with rfl | h
    · omega
    · have := mem_len (f := f) h; omega
theorem wordsN_run {x : Ev.Node} (h : nodG x) : ∀ y ∈ wordsN x, ∃ k, Run false y false k := fun y hy => by
  unfold wordsN at hy
  rcases List.mem_cons.1 hy with rfl | hy
  · exact ⟨_, .itoa _⟩
  · rcases List.mem_append.1 hy with hy | hy
    · obtain ⟨s, hs, rfl⟩ := List.mem_map.1 hy
      exact labW_run (h.ls s hs)
    · obtain ⟨p, hp, rfl⟩ := List.mem_map.1 hy
      exact prpW_run (h.ps.ps p hp)
theorem wordsE_run {x : Edg} (h : edgG x) : ∀ y ∈ wordsE x, ∃ k, Run false y false k := fun y hy => by
  unfold wordsE at hy
  simp only [List.mem_cons] at hy
  rcases hy with rfl | rfl | rfl | rfl | hy
  · exact ⟨_, .itoa _⟩
  · exact ⟨_, .itoa _⟩
  · exact ⟨_, .itoa _⟩
  · exact labW_run h.t
  · obtain ⟨p, hp, rfl⟩ := List.mem_map.1 hy
    exact prpW_run (h.ps.ps p hp)

/-! ## all lines -/
theorem parse_fold (n : Nat) (hn : 60000 ≤ n) (g : Graph) (hg : grG g) (hb : bigG g = false) (hl : (grT g).length ≤ 40000)
    (kr : Int × Int × (Ev.Graph × Unit) × Unit → Option (Graph × Int × Int × Unit)) (k : (List ByteArray) × (Int × Unit) × (List Ev.Node) × (List Ev.Edg) × Unit → Option (Graph × Int × Int × Unit)) (v3 : List ByteArray) (hv : v3.length = (linesG g).length + 1) :
    foldK (F_q48z_s0 n kr) k 0 ((linesG g ++ [[]]).map B) (v3, (0, ()), [], [], ()) = k (v3, (g.next, ()), g.nodes, g.edges, ()) := by
  obtain ⟨h1, h2⟩ := bigG_not hb
  have hnn := hg.nn
  have hne := hg.en
  have hlen : (linesG g).length = 1 + g.nodes.length + g.edges.length := by unfold linesG; simp; omega
  have hv2 : IntKind.wrap .i64 ((v3.length : Int) - 1) = (1 + g.nodes.length + g.edges.length : Nat) := by
    rw [wrap64 (by omega) (by omega)]
    omega
  have hlin : ∀ l ∈ linesG g, l.length ≤ 40000 := fun l hl' => by
    have := mem_len (f := (· ++ [10])) hl'
    rw [← gr_lines hb] at this
    simp at this
    omega
  -- the last one
  have last : ∀ ns es, foldK (F_q48z_s0 n kr) k ((1 + g.nodes.length + g.edges.length : Nat) : Int) [B []] (v3, (g.next, ()), ns, es, ()) = k (v3, (g.next, ()), ns, es, ()) := by
    intro ns es
    rw [foldK]
    unfold F_q48z_s0
    dsimp only
    have hw := words_ok n [] [] ⟨0, .nil _⟩ (fun y hy => by cases hy) (by simp [sepW]) (by simp [sepW]; omega)
    rw [show B ([] ++ sepW []) = B [] from rfl] at hw
    rw [hw, Option.bind_some]
    dsimp only
    rw [hv2, beq_self_eq_true, cond_true, show seq (B []) (⟨#[]⟩ : ByteArray) = true from seq_refl _, Bool.true_and, show decide (((1 + g.nodes.length + g.edges.length : Nat) : Int) > 0) = true from decide_eq_true (by omega), Bool.not_true, cond_false, foldK]
  -- edges
  have edges : ∀ (r p : List Edg), g.edges = p ++ r → foldK (F_q48z_s0 n kr) k ((1 + g.nodes.length + p.length : Nat) : Int) ((r.map lineE ++ [[]]).map B) (v3, (g.next, ()), g.nodes, p, ()) = k (v3, (g.next, ()), g.nodes, g.edges, ()) := by
    intro r
    induction r with
    | nil =>
      intro p hp
      rw [List.append_nil] at hp
      subst hp
      exact last g.nodes g.edges
    | cons x r ih =>
      intro p hp
      have hx : x ∈ g.edges := by rw [hp]; simp
      have hpl : p.length < g.edges.length := by rw [hp]; simp
      rw [List.map_cons, List.cons_append, List.map_cons, foldK]
      unfold F_q48z_s0
      dsimp only
      have hll := hlin (lineE x) (by unfold linesG; simp; exact .inr (.inr ⟨x, hx, rfl⟩))
      have hw := words_ok n [101, 100, 103, 101] (wordsE x) (Run.lit rfl) (wordsE_run (hg.es x hx)) (by unfold lineE at hll; omega) (by unfold lineE at hll; omega)
      rw [show B (lineE x) = B ([101, 100, 103, 101] ++ sepW (wordsE x)) from rfl, hw, Option.bind_some]
      dsimp only
      rw [hv2, show (((1 + g.nodes.length + p.length : Nat) : Int) == ((1 + g.nodes.length + g.edges.length : Nat) : Int)) = false from by rw [beq_eq_false_iff_ne]; omega, cond_false,
        show (((1 + g.nodes.length + p.length : Nat) : Int) == 0) = false from by rw [beq_eq_false_iff_ne]; omega, cond_false, lineE_ok n (by omega) x (hg.es x hx) (h2 x hx) _ _ _ (by omega), Option.bind_some]
      dsimp only
      rw [Bool.not_true, cond_false]
      have := ih (p ++ [x]) (by rw [hp]; simp)
      rw [show ((1 + g.nodes.length + (p ++ [x]).length : Nat) : Int) = ((1 + g.nodes.length + p.length : Nat) : Int) + 1 by simp; omega] at this
      exact this
  have nodes : ∀ (r p : List Ev.Node), g.nodes = p ++ r → foldK (F_q48z_s0 n kr) k ((1 + p.length : Nat) : Int) (((r.map lineN ++ g.edges.map lineE) ++ [[]]).map B) (v3, (g.next, ()), p, [], ()) = k (v3, (g.next, ()), g.nodes, g.edges, ()) := by
    intro r
    induction r with
    | nil =>
      intro p hp
      rw [List.append_nil] at hp
      subst hp
      exact edges g.edges [] rfl
    | cons x r ih =>
      intro p hp
      have hx : x ∈ g.nodes := by rw [hp]; simp
      have hpl : p.length < g.nodes.length := by rw [hp]; simp
      rw [List.map_cons, List.cons_append, List.cons_append, List.map_cons, foldK]
      unfold F_q48z_s0
      dsimp only
      have hll := hlin (lineN x) (by unfold linesG; simp; exact .inr (.inl ⟨x, hx, rfl⟩))
      have hw := words_ok n [110, 111, 100, 101] (wordsN x) (Run.lit rfl) (wordsN_run (hg.ns x hx)) (by unfold lineN at hll; omega) (by unfold lineN at hll; omega)
      rw [show B (lineN x) = B ([110, 111, 100, 101] ++ sepW (wordsN x)) from rfl, hw, Option.bind_some]
      dsimp only
      rw [hv2, show (((1 + p.length : Nat) : Int) == ((1 + g.nodes.length + g.edges.length : Nat) : Int)) = false from by rw [beq_eq_false_iff_ne]; omega, cond_false,
        show (((1 + p.length : Nat) : Int) == 0) = false from by rw [beq_eq_false_iff_ne]; omega, cond_false, lineN_ok n (by omega) x (hg.ns x hx) (h1 x hx) _ _ (by omega), Option.bind_some]
      dsimp only
      rw [Bool.not_true, cond_false]
      have := ih (p ++ [x]) (by rw [hp]; simp)
      rw [show ((1 + (p ++ [x]).length : Nat) : Int) = ((1 + p.length : Nat) : Int) + 1 by simp; omega] at this
      exact this
  -- the first one
  unfold linesG
  rw [List.cons_append, List.map_cons, foldK]
  unfold F_q48z_s0
  dsimp only
  have hll := hlin (lineH g) (by unfold linesG; simp)
  have hw := words_ok n [110, 101, 120, 116] [Lib.itoa g.next] (Run.lit rfl) (fun y hy => by simp at hy; subst hy; exact ⟨_, .itoa _⟩) (by unfold lineH at hll; omega) (by unfold lineH at hll; omega)
  rw [show B (lineH g) = B ([110, 101, 120, 116] ++ sepW [Lib.itoa g.next]) from rfl, hw, Option.bind_some]
  dsimp only
  rw [hv2, show ((0 : Int) == ((1 + g.nodes.length + g.edges.length : Nat) : Int)) = false from by rw [beq_eq_false_iff_ne]; omega, cond_false, show ((0 : Int) == 0) = true from rfl, cond_true]
  rw [show (((([[110, 101, 120, 116], Lib.itoa g.next] : List (List UInt8)).map B).length : Int) == 2) = true from rfl, cond_true, show ix (([[110, 101, 120, 116], Lib.itoa g.next] : List (List UInt8)).map B) 0 = some (B [110, 101, 120, 116]) from rfl, Option.bind_some,
    show seq (B [110, 101, 120, 116]) (⟨#[110, 101, 120, 116]⟩ : ByteArray) = true from seq_refl _, cond_true, show ix (([[110, 101, 120, 116], Lib.itoa g.next] : List (List UInt8)).map B) 1 = some (B (Lib.itoa g.next)) from rfl, Option.bind_some, count_ok hg.i, Option.bind_some]
  dsimp only
  rw [Bool.not_true, cond_false]
  exact nodes g.nodes [] rfl
theorem parse_ok (n : Nat) (hn : 60000 ≤ n) (g : Graph) (hw : gOk g) (hc : chkG g = 0) (hb : bigG g = false) (hl : (grT g).length ≤ 40000) : q48z n (B (grT g), ()) = some (g, 0, 0, ()) := by
  have hg := grG_of hw hc
  have hnn := hg.nn
  have hne := hg.en
  have hlen : (linesG g).length = 1 + g.nodes.length + g.edges.length := by unfold linesG; simp; omega
  unfold q48z
  dsimp only
  have hs := split_lines (linesG g) (lines_no10 hg hb) (by rw [← gr_lines hb]; omega)
  rw [← gr_lines hb] at hs
  rw [B_size, show decide (((grT g).length : Int) > 40000) = false from decide_eq_false (by omega), cond_false, hs, Option.bind_some]
  dsimp only
  refine (R_q48z_s0 n _ _ ((linesG g ++ [[]]).map B) n ((linesG g ++ [[]]).map B) (0, ()) [] [] (by simp; omega) (by simp; omega)).trans ?_
  rw [parse_fold n hn g hg hb hl _ _ _ (by simp)]
  dsimp only
  rw [show Ev.Graph.mk g.nodes g.edges g.next = g from rfl, gcheck_ok g n (by omega), Option.bind_some]
  dsimp only
  rw [hc, show ((0 : Int) != 0) = false from rfl, cond_false]
theorem PortBack_ok (g : Graph) (hw : gOk g) (n : Nat) (hn : gSz g + 100000 ≤ n) : q17z n (g, ()) = some (true, ()) := by
  obtain ⟨m, rfl⟩ : ∃ m, n = m + 80 := ⟨n - 80, by omega⟩
  unfold q17z
  dsimp only
  rw [Graph.eta, print_ok g hw _ (by omega), Option.bind_some]
  dsimp only
  rw [ported_ok, Option.bind_some]
  dsimp only
  rw [Bool.not_true, Bool.false_or]
  cases h : (portR g).2 != 0 with
  | true => rfl
  | false =>
    obtain ⟨h1, h2, h3, h4⟩ := portR_0 h
    rw [cond_false, h4]
    dsimp only
    have hp := parse_ok (m + 80) (by omega) g hw h1 h2 h3
    rw [show (⟨(grT g).toArray⟩ : ByteArray) = B (grT g) from rfl, hp, Option.bind_some]
    dsimp only
    obtain ⟨b, e1, e2⟩ := sameG_ok g g (m + 80) hw h1 (by omega)
    rw [show ((0 : Int) == 0) = true from rfl, Bool.true_and, cond_true, show Ev.Graph.mk g.nodes g.edges g.next = g from rfl, e1, e2.2 rfl]
    rfl
end Pure

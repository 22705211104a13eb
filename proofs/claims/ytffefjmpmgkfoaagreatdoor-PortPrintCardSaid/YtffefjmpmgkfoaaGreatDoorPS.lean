/- Several texts in one (merge.py). -/
import Derived.Test.YtffefjmpmgkfoaaGreatDoorPA
import Derived.KernelRfl
import Derived.Test.YtffefjmpmgkfoaaGreatDoorPE

/- Values: sameness and what is ahead, the plain part. No program. -/
namespace Pure
open Esp Ev Go
set_option linter.unusedSimpArgs false
set_option linter.unusedVariables false
set_option linter.unusedSimpArgs false
set_option linter.unusedVariables false

end Pure


/- Values: sameness and what is ahead, as the code has them; the laws of order. No program. -/
namespace Pure
open Esp Ev Go
set_option linter.unusedSimpArgs false
set_option linter.unusedVariables false
set_option linter.unusedSimpArgs false
set_option linter.unusedVariables false

end Pure


/- Values are written: the plain part. No program. -/
namespace Pure
open Esp Ev Go
set_option linter.unusedSimpArgs false
set_option linter.unusedVariables false
set_option linter.unusedSimpArgs false
set_option linter.unusedVariables false

theorem or192 (x : Int) (h0 : 0 ≤ x) (h1 : x < 32) : bor .u8 192 x = 192 + x := by
  have : ∀ i : Fin 32, bor .u8 192 (i.val : Int) = 192 + (i.val : Int) := by decide +kernel
  have := this ⟨x.toNat, by omega⟩
  rw [show ((⟨x.toNat, by omega⟩ : Fin 32).val : Int) = x by show ((x.toNat : Nat) : Int) = x; omega] at this
  exact this
theorem or224 (x : Int) (h0 : 0 ≤ x) (h1 : x < 16) : bor .u8 224 x = 224 + x := by
  have : ∀ i : Fin 16, bor .u8 224 (i.val : Int) = 224 + (i.val : Int) := by decide +kernel
  have := this ⟨x.toNat, by omega⟩
  rw [show ((⟨x.toNat, by omega⟩ : Fin 16).val : Int) = x by show ((x.toNat : Nat) : Int) = x; omega] at this
  exact this
theorem or240 (x : Int) (h0 : 0 ≤ x) (h1 : x < 8) : bor .u8 240 x = 240 + x := by
  have : ∀ i : Fin 8, bor .u8 240 (i.val : Int) = 240 + (i.val : Int) := by decide +kernel
  have := this ⟨x.toNat, by omega⟩
  rw [show ((⟨x.toNat, by omega⟩ : Fin 8).val : Int) = x by show ((x.toNat : Nat) : Int) = x; omega] at this
  exact this
theorem or128 (x : Int) (h0 : 0 ≤ x) (h1 : x < 64) : bor .u8 128 x = 128 + x := by
  have : ∀ i : Fin 64, bor .u8 128 (i.val : Int) = 128 + (i.val : Int) := by decide +kernel
  have := this ⟨x.toNat, by omega⟩
  rw [show ((⟨x.toNat, by omega⟩ : Fin 64).val : Int) = x by show ((x.toNat : Nat) : Int) = x; omega] at this
  exact this
theorem and63 (x : Int) (h0 : 0 ≤ x) (h1 : x < 256) : band .u8 x 63 = x % 64 := by
  have : ∀ i : Fin 256, band .u8 (i.val : Int) 63 = (i.val : Int) % 64 := by decide +kernel
  have := this ⟨x.toNat, by omega⟩
  rw [show ((⟨x.toNat, by omega⟩ : Fin 256).val : Int) = x by show ((x.toNat : Nat) : Int) = x; omega] at this
  exact this
theorem wu8 (x : Int) : IntKind.wrap .u8 x = x % 256 := by
  simp only [IntKind.wrap, IntKind.bits, IntKind.signed]
  simp
theorem wu32 {x : Int} (h0 : 0 ≤ x) (h1 : x ≤ 1114111) : IntKind.wrap .u32 x = x := by
  simp only [IntKind.wrap, IntKind.bits, IntKind.signed]
  simp
  omega
theorem shr6 (r : Int) (h : 0 ≤ r) : bshr .i32 r 6 = r / 64 := by
  show r.fdiv (2 ^ 6) = _
  rw [Int.fdiv_eq_ediv_of_nonneg _ (by decide)]; rfl
theorem shr12 (r : Int) (h : 0 ≤ r) : bshr .i32 r 12 = r / 4096 := by
  show r.fdiv (2 ^ 12) = _
  rw [Int.fdiv_eq_ediv_of_nonneg _ (by decide)]; rfl
theorem shr18 (r : Int) (h : 0 ≤ r) : bshr .i32 r 18 = r / 262144 := by
  show r.fdiv (2 ^ 18) = _
  rw [Int.fdiv_eq_ediv_of_nonneg _ (by decide)]; rfl
theorem tailB (x : Int) (h : 0 ≤ x) : bor .u8 128 (band .u8 (IntKind.wrap .u8 x) 63) = 128 + x % 64 := by
  rw [wu8, and63 _ (by omega) (by omega), or128 _ (by omega) (by omega)]
  omega
theorem enc_bi (r : Int) : bi (Lib.encodeRune r) = Lib.encodeRuneZ r := by
  have h := Lib.encodeRuneZ_byte r
  unfold Lib.encodeRune bi
  rw [List.map_map]
  conv => rhs; rw [← List.map_id (Lib.encodeRuneZ r)]
  apply List.map_congr_left
  intro x hx
  have := h x hx
  show ((x.toNat.toUInt8).toNat : Int) = x
  rw [show x.toNat.toUInt8 = UInt8.ofNat x.toNat from rfl, UInt8.toNat_ofNat']
  omega
theorem appRune_ok (r : Int) (o : List Int) (h0 : 0 ≤ r) (h1 : r ≤ 1114111) (ho : o.length ≤ 100000000000000) : q14z (r, o, ()) = some (o ++ Lib.encodeRuneZ r, ()) := by
  have hroom : ∀ l : List Int, l.length ≤ 4 → room (o ++ l).length 1 = true := fun l hl => room1 (by rw [List.length_append]; omega)
  unfold q14z q4z
  simp only [wu32 h0 h1, shr6 r h0, shr12 r h0, shr18 r h0, tailB r h0, tailB (r / 64) (by omega), tailB (r / 4096) (by omega)]
  by_cases c0 : r ≤ 127
  · rw [decide_eq_true c0, cond_true, ck_ok (hroom _ (by simp)), Lib.encodeRuneZ_one h0 c0, wrapU8 h0 (by omega)]
  rw [decide_eq_false c0, cond_false]
  by_cases c1 : r ≤ 2047
  · rw [decide_eq_true c1, cond_true, ck_ok (hroom _ (by simp)), Lib.encodeRuneZ_two (by omega) c1, wrapU8 (by omega) (by omega), or192 _ (by omega) (by omega)]
    rfl
  rw [decide_eq_false c1, cond_false]
  by_cases c2 : r < 55296
  · rw [decide_eq_true c2, cond_true, cond_true, ck_ok (hroom _ (by simp)), Lib.encodeRuneZ_three (.inl ⟨by omega, c2⟩), wrapU8 (by omega) (by omega), or224 _ (by omega) (by omega)]
    rfl
  rw [decide_eq_false c2, cond_false]
  by_cases c3 : r ≤ 57343
  · rw [decide_eq_false (show ¬ (57343 : Int) < r by omega), Bool.false_and, cond_false, decide_eq_false (show ¬ r > 65535 by omega), Bool.false_and, cond_false, ck_ok (hroom _ (by simp)), Lib.encodeRuneZ_bad (.inr (.inl ⟨by omega, c3⟩))]
    rfl
  rw [decide_eq_true (show (57343 : Int) < r by omega), Bool.true_and]
  by_cases c4 : r ≤ 65535
  · rw [decide_eq_true c4, cond_true, ck_ok (hroom _ (by simp)), Lib.encodeRuneZ_three (.inr ⟨by omega, c4⟩), wrapU8 (by omega) (by omega), or224 _ (by omega) (by omega)]
    rfl
  rw [decide_eq_false c4, cond_false, decide_eq_true (show r > 65535 by omega), decide_eq_true h1, Bool.true_and, cond_true, ck_ok (hroom _ (by simp)), Lib.encodeRuneZ_four (by omega) h1, wrapU8 (by omega) (by omega), or240 _ (by omega) (by omega)]
  rfl
/-! ## what is written -/
theorem wByte (m : List UInt8) (c : UInt8) (i : Int) (hi : i = (c.toNat : Int)) (hm : m.length ≤ 100000000000000) : q8z (i, (), bi m, ()) = some ((), bi (m ++ [c]), ()) := by
  subst hi
  unfold q8z copyCheckN
  have e : bi m ++ ([(c.toNat : Int)] : List Int) = bi (m ++ [c]) := by rw [bi_app]; rfl
  simp only [Option.bind_some, e]
  rw [ck_ok (room1 (by rw [bi_length, List.length_append, List.length_singleton]; omega))]
theorem wStr (m : List UInt8) (s : ByteArray) (hm : m.length ≤ 100000000000000) (hs : s.size ≤ 10000) : q6z (s, (), bi m, ()) = some ((s.size : Int), (), bi (m ++ s.data.toList), ()) := by
  unfold q6z copyCheckN
  have e : bi m ++ bytesI s = bi (m ++ s.data.toList) := by rw [bi_app]; rfl
  simp only [Option.bind_some, e]
  rw [ck_ok (room1 (by rw [bi_length, List.length_append]; have : s.data.toList.length = s.size := rfl; omega))]
theorem wRune (m : List UInt8) (r : Int) (h0 : 0 ≤ r) (h1 : r ≤ 1114111) (hm : m.length ≤ 100000000000000) : ∃ y, q9z (r, (), bi m, ()) = some (y, (), bi (m ++ Lib.encodeRune r), ()) := by
  unfold q9z copyCheckN
  have e := appRune_ok r (bi m) h0 h1 (by rw [bi_length]; exact hm)
  rw [← enc_bi, ← bi_app] at e
  simp only [Option.bind_some, e]
  exact ⟨_, rfl⟩
theorem decodeL_lt (l : List UInt8) : (Lib.decodeL l).1 ≤ 1114111 := by
  rw [Lib.decodeL_N]
  have k0 := (l.getD 0 0).toNat_lt
  unfold Lib.decodeN
  repeat' split
  all_goals simp only
  all_goals omega
end Pure


/- Values are written: what it gives. No program. -/
namespace Pure
open Esp Ev Go
set_option linter.unusedSimpArgs false
set_option linter.unusedVariables false
set_option linter.unusedSimpArgs false
set_option linter.unusedVariables false

theorem tell_round {ρ : Type} (self : Val × Unit × (List Int) × Unit → Option (Unit × (List Int) × Unit)) (n : Nat) (rec : (ByteArray × Nat) × Unit × (List Int) × Unit → Option ρ) (kx : Unit × (List Int) × Unit → Option ρ) (kr : Unit → Option ρ)
    (s : ByteArray) (pos : Nat) (b : UInt8) (t m : List UInt8) (ht : s.data.toList.drop pos = b :: t) (hv : ¬ ((Lib.decodeL (b :: t)).1 = 65533 ∧ (Lib.decodeL (b :: t)).2 = 1)) (hm : m.length ≤ 100000000000000 - 10) :
    ∃ e, esc (b :: t) = e ++ esc ((b :: t).drop (Lib.decodeL (b :: t)).2) ∧ q59z_s1 self n rec kx kr ((s, pos), (), bi m, ()) = rec ((s, pos + (Lib.decodeL (b :: t)).2), (), bi (m ++ e), ()) := by
  have hd : Utf8.decode s pos = Lib.decodeL (b :: t) := by rw [← ht, Lib.decodeL_drop]
  have hlt : Nat.blt pos s.size = true := by
    rw [Nat.blt_eq]
    have h1 := congrArg List.length ht
    rw [List.length_drop, List.length_cons] at h1
    have h2 : s.data.toList.length = s.size := rfl
    omega
  have hr := rune_head b t hv
  have hle := decodeL_lt (b :: t)
  have hen := Lib.encode_decode (b :: t) (by simp) hv
  obtain ⟨⟨r, w⟩, hdr⟩ : ∃ d, Lib.decodeL (b :: t) = d := ⟨_, rfl⟩
  rw [hdr] at hr hv hle hen
  dsimp only at hr hle hen ⊢
  have hR : ∀ (m : List UInt8), m.length ≤ 100000000000000 → ∃ y, q9z ((r : Int), (), bi m, ()) = some (y, (), bi (m ++ (b :: t).take w), ()) := fun m hm => by
    have := wRune m (r : Int) (by omega) (by omega) hm
    rwa [hen] at this
  unfold q59z_s1
  simp only [hlt, hd, hdr, cond_true]
  rcases hr with ⟨hb, he⟩ | ⟨hb, he⟩
  · obtain ⟨rfl, rfl⟩ : r = b.toNat ∧ w = 1 := by injection he with h1 h2; exact ⟨h1, h2⟩
    by_cases c39 : b = 39
    · subst c39
      refine ⟨[92, 39], rfl, ?_⟩
      obtain ⟨y, hy⟩ := hR (m ++ [92]) (by rw [List.length_append, List.length_singleton]; omega)
      have e0 : (((39 : UInt8).toNat : Int) == 39) = true := by decide
      simp only [e0, cond_true, wByte m 92 92 rfl (by omega), Option.bind_some, hy]
      rw [List.append_assoc]; rfl
    · have e0 : ((b.toNat : Int) == 39) = false := by rw [beq_eq_false_iff_ne]; intro h; apply c39; apply UInt8.toNat_inj.1; show b.toNat = 39; omega
      by_cases c92 : b = 92
      · subst c92
        refine ⟨[92, 92], rfl, ?_⟩
        obtain ⟨y, hy⟩ := hR (m ++ [92]) (by rw [List.length_append, List.length_singleton]; omega)
        have e1 : (((92 : UInt8).toNat : Int) == 92) = true := by decide
        simp only [e0, e1, cond_true, cond_false, wByte m 92 92 rfl (by omega), Option.bind_some, hy]
        rw [List.append_assoc]; rfl
      · have e1 : ((b.toNat : Int) == 92) = false := by rw [beq_eq_false_iff_ne]; intro h; apply c92; apply UInt8.toNat_inj.1; show b.toNat = 92; omega
        by_cases c10 : b = 10
        · subst c10
          refine ⟨[92, 110], rfl, ?_⟩
          obtain ⟨y, hy⟩ := wRune (m ++ [92]) 110 (by omega) (by omega) (by rw [List.length_append, List.length_singleton]; omega)
          have e2 : (((10 : UInt8).toNat : Int) == 10) = true := by decide
          simp only [e0, e1, e2, cond_true, cond_false, wByte m 92 92 rfl (by omega), Option.bind_some, hy]
          rw [List.append_assoc]; rfl
        · have e2 : ((b.toNat : Int) == 10) = false := by rw [beq_eq_false_iff_ne]; intro h; apply c10; apply UInt8.toNat_inj.1; show b.toNat = 10; omega
          refine ⟨[b], ?_, ?_⟩
          · rw [esc]
            have : eb b = [b] := by
              unfold eb
              rw [beq_eq_false_iff_ne.2 c39, beq_eq_false_iff_ne.2 c92, beq_eq_false_iff_ne.2 c10]
              rfl
            rw [this]
            rfl
          · obtain ⟨y, hy⟩ := hR m (by omega)
            simp only [e0, e1, e2, cond_false, Option.bind_some, hy]
            rfl
  · have e0 : ((r : Int) == 39) = false := by rw [beq_eq_false_iff_ne]; omega
    have e1 : ((r : Int) == 92) = false := by rw [beq_eq_false_iff_ne]; omega
    have e2 : ((r : Int) == 10) = false := by rw [beq_eq_false_iff_ne]; omega
    have hesc := esc_rune (b :: t) (by simp) (by rw [hdr]; exact hv) (by rw [hdr]; exact he)
    rw [hdr] at hesc
    refine ⟨(b :: t).take w, hesc, ?_⟩
    obtain ⟨y, hy⟩ := hR m (by omega)
    simp only [e0, e1, e2, cond_false, Option.bind_some, hy]
theorem tell_text {ρ : Type} (self : Val × Unit × (List Int) × Unit → Option (Unit × (List Int) × Unit)) (n : Nat) (kx : Unit × (List Int) × Unit → Option ρ) (kr : Unit → Option ρ) (s : ByteArray) :
    ∀ (k : Nat) (t m : List UInt8) (pos fuel : Nat), t.length ≤ k → s.data.toList.drop pos = t → Lib.validD t = true → k < fuel → m.length + (esc t).length ≤ 100000000000000 - 10 →
      iterN (fun rc => q59z_s1 self n rc kx kr) fuel ((s, pos), (), bi m, ()) = kx ((), bi (m ++ esc t), ()) := by
  intro k
  induction k with
  | zero =>
    intro t m pos fuel hk ht hv hf hm
    obtain ⟨f, rfl⟩ : ∃ f, fuel = f + 1 := ⟨fuel - 1, by omega⟩
    obtain rfl : t = [] := List.length_eq_zero_iff.1 (by omega)
    exact last n s pos f m ht
  | succ k ih =>
    intro t m pos fuel hk ht hv hf hm
    obtain ⟨f, rfl⟩ : ∃ f, fuel = f + 1 := ⟨fuel - 1, by omega⟩
    cases t with
    | nil => exact last n s pos f m ht
    | cons b t =>
      obtain ⟨h1, h2⟩ := valid_step hv (by simp)
      have hw := width1 (b :: t)
      obtain ⟨e, he, hr⟩ := tell_round self n (iterN (fun rc => q59z_s1 self n rc kx kr) f) kx kr s pos b t m ht h1 (by omega)
      rw [iterN, hr]
      have hl := congrArg List.length he
      rw [List.length_append] at hl
      rw [ih ((b :: t).drop (Lib.decodeL (b :: t)).2) (m ++ e) _ f (by rw [List.length_drop]; omega) (by rw [← ht, List.drop_drop]) h2 (by omega) (by rw [List.length_append]; omega), he, List.append_assoc]
where
  last (n : Nat) (s : ByteArray) (pos f : Nat) (m : List UInt8) (ht : s.data.toList.drop pos = []) : iterN (fun rc => q59z_s1 self n rc kx kr) (f + 1) ((s, pos), (), bi m, ()) = kx ((), bi (m ++ esc []), ()) := by
    have hlt : Nat.blt pos s.size = false := by
      rw [Bool.eq_false_iff, ne_eq, Nat.blt_eq]
      have h1 := congrArg List.length ht
      rw [List.length_drop, List.length_nil] at h1
      have h2 : s.data.toList.length = s.size := rfl
      omega
    rw [iterN]
    unfold q59z_s1
    simp only [hlt, cond_false, esc, List.append_nil]
theorem tell_fold {ρ : Type} (self : Val × Unit × (List Int) × Unit → Option (Unit × (List Int) × Unit)) (n : Nat) (kr : Unit → Option ρ) (k : Unit × (List Int) × Unit → Option ρ) (C : Nat) :
    ∀ (r : List Val) (i : Int) (m : List UInt8), 0 < i → (∀ x ∈ r, (prV x).length ≤ C ∧ ∀ m : List UInt8, m.length + C ≤ 100000000000000 - 100 → self (x, (), bi m, ()) = some ((), bi (m ++ prV x), ())) → m.length + r.length * (C + 1) ≤ 100000000000000 - 100 →
      foldK (F_q59z_s4 self n kr) k i r ((), bi m, ()) = k ((), bi (m ++ prT r), ()) := by
  intro r
  induction r with
  | nil => intro i m _ _ _; rw [foldK, prT, List.append_nil]
  | cons x r ih =>
    intro i m hi hs hm
    obtain ⟨h1, h2⟩ := hs x (by simp)
    rw [List.length_cons, Nat.succ_mul] at hm
    have := ih (i + 1) (m ++ [44] ++ prV x) (by omega) (fun y hy => hs y (by simp [hy])) (by simp only [List.length_append, List.length_singleton]; omega)
    rw [foldK]
    generalize foldK (F_q59z_s4 self n kr) k (i + 1) r = K at this ⊢
    unfold F_q59z_s4
    simp only [decide_eq_true (show i > 0 from hi), cond_true, wByte m 44 44 rfl (by omega), Option.bind_some, Val.eta]
    rw [h2 (m ++ [44]) (by rw [List.length_append, List.length_singleton]; omega)]
    simp only [Option.bind_some]
    refine this.trans ?_
    rw [prT]
    simp
theorem tell_fold0 {ρ : Type} (self : Val × Unit × (List Int) × Unit → Option (Unit × (List Int) × Unit)) (n : Nat) (kr : Unit → Option ρ) (k : Unit × (List Int) × Unit → Option ρ) (C : Nat)
    (r : List Val) (m : List UInt8) (hs : ∀ x ∈ r, (prV x).length ≤ C ∧ ∀ m : List UInt8, m.length + C ≤ 100000000000000 - 100 → self (x, (), bi m, ()) = some ((), bi (m ++ prV x), ())) (hm : m.length + r.length * (C + 1) ≤ 100000000000000 - 100) :
      foldK (F_q59z_s4 self n kr) k 0 r ((), bi m, ()) = k ((), bi (m ++ prL r), ()) := by
  cases r with
  | nil => rw [foldK, prL, List.append_nil]
  | cons x r =>
    obtain ⟨h1, h2⟩ := hs x (by simp)
    rw [List.length_cons, Nat.succ_mul] at hm
    have := tell_fold self n kr k C r (0 + 1) (m ++ prV x) (by omega) (fun y hy => hs y (by simp [hy])) (by simp only [List.length_append]; omega)
    rw [foldK]
    have e0 : decide ((0 : Int) > 0) = false := by decide
    generalize foldK (F_q59z_s4 self n kr) k (0 + 1) r = K at this ⊢
    unfold F_q59z_s4
    simp only [e0, cond_false, Val.eta]
    rw [h2 m (by omega)]
    simp only [Option.bind_some]
    refine this.trans ?_
    rw [prL, List.append_assoc]
theorem prT_len {C : Nat} : ∀ {l : List Val}, (∀ x ∈ l, (prV x).length ≤ C) → (prT l).length ≤ l.length * (C + 1)
  | [], _ => by simp [prT]
  | x :: r, h => by
    have h1 := h x (by simp)
    have h2 := prT_len (C := C) (l := r) fun y hy => h y (by simp [hy])
    rw [prT, List.length_cons, List.length_append, List.length_cons, Nat.succ_mul]
    omega
theorem prL_len {C : Nat} {l : List Val} (h : ∀ x ∈ l, (prV x).length ≤ C) : (prL l).length ≤ l.length * (C + 1) := by
  cases l with
  | nil => simp [prL]
  | cons x r =>
    have h1 := h x (by simp)
    have h2 := prT_len (C := C) (l := r) fun y hy => h y (by simp [hy])
    rw [prL, List.length_append, List.length_cons, Nat.succ_mul]
    omega
def capV (d : Int) : Nat := 8002 * 32 ^ (7 - d).toNat
theorem capV_le {d : Int} (h : 1 ≤ d) : 8002 ≤ capV d ∧ capV d ≤ 8600000000000 := by
  unfold capV
  have h1 : 1 ≤ 32 ^ (7 - d).toNat := Nat.one_le_pow _ _ (by decide)
  have h2 : 32 ^ (7 - d).toNat ≤ 32 ^ 6 := Nat.pow_le_pow_right (by decide) (by omega)
  omega
theorem capV_step {d : Int} (h : d ≤ 6) : capV d = 32 * capV (d + 1) := by
  unfold capV
  rw [show (7 - d).toNat = (7 - (d + 1)).toNat + 1 by omega, Nat.pow_succ]
  omega
theorem digits_len : ∀ (k u : Nat), u < 10 ^ (k + 1) → (Lib.decDigits u).length ≤ k + 1
  | k, u, h => by
    rw [Lib.decDigits]
    split
    · simp
    · rename_i g
      cases k with
      | zero => simp at h; omega
      | succ k =>
        have := digits_len k (u / 10) (by rw [Nat.pow_succ] at h; omega)
        rw [List.length_append, List.length_singleton]
        omega
theorem itoa_len (n : Int) (h : wfI .i64 n) : (Lib.itoa n).length ≤ 8000 := by
  have h0 := i64_range h
  unfold Lib.itoa
  split
  · have := digits_len 20 n.natAbs (by omega)
    rw [List.length_cons]
    omega
  · have := digits_len 20 n.toNat (by omega)
    omega
theorem prV_len (v : Val) : ∀ d, Right v d → 1 ≤ d → d ≤ 7 → (prV v).length ≤ capV d := by
  induction v using val_ind with
  | _ k a s l ih =>
    intro d hr h1 h7
    have hc := capV_le h1
    cases hr with
    | null d => rw [prV]; simp; omega
    | truth n d h => rw [prV]; rcases h with rfl | rfl <;> (simp; omega)
    | int n d h =>
      rw [prV]
      show (Lib.itoa a).length ≤ _
      have := itoa_len a h
      omega
    | text s d h hv =>
      rw [prV]
      show (39 :: (esc s.data.toList ++ [39])).length ≤ _
      have := esc_len s.data.toList
      have h2 : s.data.toList.length = s.size := rfl
      rw [List.length_cons, List.length_append, List.length_singleton]
      omega
    | list l d h30 h6 h =>
      rw [prV]
      show (91 :: (prL l ++ [93])).length ≤ _
      have h2 := prL_len (C := capV (d + 1)) fun x hx => ih x hx (d + 1) (h x hx) (by omega) (by omega)
      have h3 := capV_step h6
      have h4 := capV_le (d := d + 1) (by omega)
      have h5 : l.length * (capV (d + 1) + 1) ≤ 30 * (capV (d + 1) + 1) := Nat.mul_le_mul_right _ h30
      rw [List.length_cons, List.length_append, List.length_singleton]
      omega
theorem itoaN_eq {n : Int} (h : wfI .i64 n) : itoaN (n, ()) = some (⟨(Lib.itoa n).toArray⟩, ()) := by
  have := i64_range h
  unfold itoaN
  show (bif decide (-9223372036854775808 ≤ n) && decide (n ≤ 9223372036854775807) then _ else _) = _
  rw [decide_eq_true this.1, decide_eq_true this.2]
  rfl
theorem tell_ok (v : Val) : ∀ (d : Int) (n : Nat) (m : List UInt8), Right v d → 1 ≤ d → d ≤ 7 → 5010 ≤ n + d.toNat → m.length + capV d ≤ 100000000000000 - 100 → q59z n (v, (), bi m, ()) = some ((), bi (m ++ prV v), ()) := by
  induction v using val_ind with
  | _ k a s l ih =>
    intro d n m hr h1 h7 hn hm
    obtain ⟨f, rfl⟩ : ∃ f, n = f + 1 := ⟨n - 1, by omega⟩
    have hc := capV_le h1
    rw [q59z]
    have e0 : ((0 : Int) == 0) = true := rfl
    have e10 : ((1 : Int) == 0) = false := rfl
    have e11 : ((1 : Int) == 1) = true := rfl
    have e20 : ((2 : Int) == 0) = false := rfl
    have e21 : ((2 : Int) == 1) = false := rfl
    have e22 : ((2 : Int) == 2) = true := rfl
    have e30 : ((3 : Int) == 0) = false := rfl
    have e31 : ((3 : Int) == 1) = false := rfl
    have e32 : ((3 : Int) == 2) = false := rfl
    have e33 : ((3 : Int) == 3) = true := rfl
    have e40 : ((4 : Int) == 0) = false := rfl
    have e41 : ((4 : Int) == 1) = false := rfl
    have e42 : ((4 : Int) == 2) = false := rfl
    have e43 : ((4 : Int) == 3) = false := rfl
    have e44 : ((4 : Int) == 4) = true := rfl
    simp only [q59z_b]
    cases hr with
    | null d =>
      rw [prV]
      dsimp +instances only [kind_mk, n_mk, s_mk, l_mk]
      rw [e0, cond_true]
      rw [wStr m _ (by omega) (by decide)]
      rfl
    | truth n d h =>
      rcases h with rfl | rfl
      · have eF : q32z ((0 : Int) == 1, ()) = some (⟨#[102, 97, 108, 115, 101]⟩, ()) := rfl
        dsimp +instances only [kind_mk, n_mk, s_mk, l_mk]
        rw [e10, cond_false, e11, cond_true, eF, Option.bind_some]
        dsimp only
        rw [wStr m _ (by omega) (by decide)]
        rw [prV]
        rfl
      · have eF : q32z ((1 : Int) == 1, ()) = some (⟨#[116, 114, 117, 101]⟩, ()) := rfl
        dsimp +instances only [kind_mk, n_mk, s_mk, l_mk]
        rw [eF, e10, cond_false, e11, cond_true, Option.bind_some]
        dsimp only
        rw [wStr m _ (by omega) (by decide)]
        rw [prV]
        rfl
    | int n d h =>
      dsimp +instances only [kind_mk, n_mk, s_mk, l_mk]
      rw [e20, cond_false, e21, cond_false, e22, cond_true, itoaN_eq h, Option.bind_some]
      dsimp only
      have hl := itoa_len a h
      rw [wStr m _ (by omega) (by show (Lib.itoa a).toArray.size ≤ _; simp; omega)]
      rw [prV]
      show some ((), bi (m ++ (Lib.itoa a).toArray.toList), ()) = _
      simp only [List.toList_toArray]
      rfl
    | text s d h hv =>
      have h2 : s.data.toList.length = s.size := rfl
      have he := esc_len s.data.toList
      dsimp +instances only [kind_mk, n_mk, s_mk, l_mk]
      rw [e30, cond_false, e31, cond_false, e32, cond_false, e33, cond_true]
      rw [wByte m 39 39 rfl (by omega)]
      simp only [Option.bind_some]
      have := tell_text (ρ := Unit × List Int × Unit) (q59z f) f (fun (o46, o47, _) => (q8z (39, (), o47, ())).bind fun (o48, o49, _) => some ((), o49, ())) (fun _ => none) s 4000 s.data.toList (m ++ [39]) 0 f (by omega) rfl hv (by omega) (by rw [List.length_append, List.length_singleton]; omega)
      refine this.trans ?_
      simp only
      rw [wByte _ 39 39 rfl (by simp only [List.length_append, List.length_singleton]; omega)]
      simp only [Option.bind_some]
      rw [prV]
      simp
    | list l d h30 h6 h =>
      have h3 := capV_step h6
      have h4 := capV_le (d := d + 1) (by omega)
      have h5 : l.length * (capV (d + 1) + 1) ≤ 30 * (capV (d + 1) + 1) := Nat.mul_le_mul_right _ h30
      have hp : (prL l).length ≤ l.length * (capV (d + 1) + 1) := prL_len fun x hx => prV_len x (d + 1) (h x hx) (by omega) (by omega)
      dsimp +instances only [kind_mk, n_mk, s_mk, l_mk]
      rw [e40, cond_false, e41, cond_false, e42, cond_false, e43, cond_false, e44, cond_true]
      rw [wByte m 91 91 rfl (by omega)]
      simp only [Option.bind_some]
      refine (R_q59z_s4 (ρ := Unit × List Int × Unit) (q59z f) f _ _ l f () (bi (m ++ [91])) (by omega) (by omega)).trans ?_
      refine (tell_fold0 (q59z f) f _ _ (capV (d + 1)) l (m ++ [91]) (fun x hx => ⟨prV_len x (d + 1) (h x hx) (by omega) (by omega), fun m hm => ih x hx (d + 1) f m (h x hx) (by omega) (by omega) (by omega) (by omega)⟩) (by rw [List.length_append, List.length_singleton]; omega)).trans ?_
      simp only
      rw [wByte _ 93 93 rfl (by simp only [List.length_append, List.length_singleton]; omega)]
      simp only [Option.bind_some]
      rw [prV]
      simp
end Pure


/- Values that are written are read back. No program. -/
namespace Pure
open Esp Ev Go
set_option linter.unusedSimpArgs false
set_option linter.unusedVariables false
set_option linter.unusedSimpArgs false
set_option linter.unusedVariables false

def At (s : ByteArray) (a : Int) (t : List UInt8) : Prop := ∃ p : List UInt8, s.data.toList = p ++ t ∧ a = (p.length : Int)
theorem At.len {s : ByteArray} {a : Int} {t : List UInt8} (h : At s a t) : 0 ≤ a ∧ a + (t.length : Int) = (s.size : Int) := by
  obtain ⟨p, h1, rfl⟩ := h
  have h2 := congrArg List.length h1
  rw [List.length_append] at h2
  have h3 : s.data.toList.length = s.size := rfl
  omega
theorem At.go {s : ByteArray} {a : Int} {w t : List UInt8} (h : At s a (w ++ t)) : At s (a + (w.length : Int)) t := by
  obtain ⟨p, h1, rfl⟩ := h
  exact ⟨p ++ w, by rw [h1, List.append_assoc], by rw [List.length_append]; omega⟩
theorem ba_ext {s t : ByteArray} (h : s.data.toList = t.data.toList) : s = t := by
  cases s; cases t
  congr 1
  exact Array.toList_inj.1 h
theorem At.cut {s : ByteArray} {a : Int} {w t : List UInt8} (h : At s a (w ++ t)) : ssl s a (a + (w.length : Int)) = some ⟨w.toArray⟩ := by
  have hl := h.len
  rw [List.length_append] at hl
  obtain ⟨p, h1, rfl⟩ := h
  unfold ssl
  rw [if_pos ⟨by omega, by omega, by omega⟩]
  congr 1
  apply ba_ext
  rw [ByteArray.data_extract, Array.toList_extract, List.extract_eq_take_drop, h1]
  simp
  rw [show ((p.length : Int) + (w.length : Int)).toNat - p.length = w.length by omega]
  simp
theorem At.rest {s : ByteArray} {a : Int} {t : List UInt8} (h : At s a t) : ssl s a (s.size : Int) = some ⟨t.toArray⟩ := by
  have hl := h.len
  have := At.cut (w := t) (t := []) (by rw [List.append_nil]; exact h)
  rwa [hl.2] at this
theorem At.byte {s : ByteArray} {a : Int} {c : UInt8} {t : List UInt8} (h : At s a (c :: t)) : sat s a = some (c.toNat : Int) := by
  obtain ⟨p, h1, rfl⟩ := h
  unfold sat
  rw [if_pos (by omega), h1]
  simp
theorem bytesOf_bi (m : List UInt8) : Lib.bytesOf (bi m) = m := by
  unfold Lib.bytesOf bi
  rw [List.map_map]
  conv => rhs; rw [← List.map_id m]
  apply List.map_congr_left
  intro x _
  simp
theorem stringN_bi (m : List UInt8) : stringN ((), bi m, ()) = some (⟨m.toArray⟩, ()) := by
  unfold stringN bytesZ
  dsimp only
  rw [bytesOf_bi]
end Pure


/- Values that are written are read back, whole. No program. -/
namespace Pure
open Esp Ev Go
set_option linter.unusedSimpArgs false
set_option linter.unusedVariables false
set_option linter.unusedSimpArgs false
set_option linter.unusedVariables false

theorem nob {b : UInt8} (h : b = 45 ∨ (48 ≤ b.toNat ∧ b.toNat ≤ 57)) (c : UInt8) (hc : ¬ (c = 45 ∨ (48 ≤ c.toNat ∧ c.toNat ≤ 57))) : (c == b) = false := by
  rw [beq_eq_false_iff_ne]; rintro rfl; exact hc h
end Pure


/- What is printed of a value is read as it: the plain law. No program. -/
namespace Pure
open Esp Ev Go
set_option linter.unusedSimpArgs false
set_option linter.unusedVariables false
set_option linter.unusedSimpArgs false
set_option linter.unusedVariables false

theorem Print_ok (v : Val) (n : Nat) (hn : 5010 ≤ n) (h : chk v 1 = 0) (hr : Right v 1) : q50z n (v, ()) = bif decide (((prV v).length : Int) > 4000) then some (⟨#[]⟩, 2, ()) else some (⟨(prV v).toArray⟩, 0, ()) := by
  have hc := capV_le (d := 1) (by omega)
  have ht := tell_ok v 1 n [] hr (by omega) (by omega) (by omega) (by simp; omega)
  rw [List.nil_append] at ht
  have hb : bi [] = ([] : List Int) := rfl
  rw [hb] at ht
  unfold q50z
  have e0 : ((0 : Int) != 0) = false := by decide
  simp only [Val.eta, Check_ok v n (by omega), Option.bind_some, h, e0, cond_false, ht, q25z, bi_length, stringN_bi]
end Pure

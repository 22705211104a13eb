
/- What a guest is told. No program. -/
import Derived.Test.YtnfoajgolcenlaaDoorPGuest
namespace Pure
open Esp Ev Go
set_option linter.unusedSimpArgs false
set_option linter.unusedVariables false
set_option linter.unusedSimpArgs false
set_option linter.unusedVariables false

theorem waits_ok (n : Nat) (hn : 300 ≤ n) : espalierlaw_waits n () = some (true, ()) := by
  obtain ⟨m, rfl⟩ : ∃ m, n = m + 300 := ⟨n - 300, by omega⟩
  kernel_rfl
theorem tell1_ok (x : List Cnt) (s : Int) (acc : List (List Cnt)) (n : Nat) (hn : 2200 ≤ n) (h : bgE x = 0) (ha : acc.length ≤ 1000000) (h0 : 0 ≤ s) (h1 : s ≤ 1000000) : guest_Tell_1 n (x, (s, ()), (), acc, ()) = some ((s + (x.length : Int), ()), (), acc ++ [x], ()) := by
  have h2 := (bgE_0 h).1
  unfold guest_Tell_1
  dsimp only
  rw [own_ok x n (by omega) h, Option.bind_some]
  dsimp only
  rw [ck_ok (roomB (by simp; omega) (by omega)), wrap64 (by omega) (by omega)]
def g00 : Guest := ⟨0, [], false, 0⟩
/-- what becomes of a guest -/
def tellG (u : Guest) (b : List Cnt) : Guest :=
  bif u.fresh || ((b.length : Int) == 0) then u else bif decide ((b.length : Int) + (qLen u.queue : Int) > 40) then ⟨u.view, [], true, u.at_⟩ else ⟨u.view, u.queue ++ [b], u.fresh, u.at_⟩
theorem tell_ok (u : Guest) (b : List Cnt) (n : Nat) (hw : ∀ x ∈ u.queue, ∀ c ∈ x, cOk c) (hwb : ∀ c ∈ b, cOk c) (hq : u.queue.length ≤ 2000000) (hn : qSz u.queue + u.queue.length + bSz b + 2200 ≤ n) :
    guest_Tell n (u, b, ()) = some (bif guE u != 0 then (g00, guE u, ()) else bif bgE b != 0 then (g00, bgE b, ()) else (tellG u b, 0, ())) := by
  unfold guest_Tell
  dsimp only
  rw [show guest_Check n (⟨u.view, u.queue, u.fresh, u.at_⟩, ()) = some (guE u, ()) from gcheck_ok u n hw hq (by omega), Option.bind_some]
  dsimp only
  cases h1 : guE u != 0
  · obtain ⟨a1, a2, a3⟩ := guE_0 hq (show guE u = 0 by simpa using h1)
    have hql := qLen_le fun x hx => (a1 x hx).2
    rw [cond_false, cond_false, bcheck_ok b n hwb (by omega), Option.bind_some]
    dsimp only
    cases h2 : bgE b != 0
    · have hb0 : bgE b = 0 := by simpa using h2
      have hb20 := (bgE_0 hb0).1
      rw [cond_false, cond_false]
      have key : ∀ (K : Int × List (List Cnt) → Option (Guest × Int × Unit)) (r : List (List Cnt)) (i : Int) (s : Int) (acc : List (List Cnt)), (∀ x ∈ r, bgE x = 0 ∧ 0 < x.length) → 0 ≤ s → s + (qLen r : Int) ≤ 40 → acc.length ≤ s.toNat →
          foldK (fun (i : Int) (x : List Cnt) (z : Int × List (List Cnt)) (rec : Int × List (List Cnt) → Option (Guest × Int × Unit)) => (guest_Tell_1 n (x, (z.1, ()), (), z.2, ())).bind fun y => rec (y.1.1, y.2.2.1)) K i r (s, acc) = K (s + (qLen r : Int), acc ++ r) := by
        intro K r
        induction r with
        | nil => intro i s acc _ _ _ _; rw [foldK, show qLen [] = 0 from rfl]; simp
        | cons x r ih =>
          intro i s acc hx h0 h40 hacc
          rw [qLen] at h40
          rw [foldK, tell1_ok x s acc n (by omega) (hx x (by simp)).1 (by omega) h0 (by omega), Option.bind_some]
          dsimp only
          rw [ih (i + 1) _ _ (fun y hy => hx y (by simp [hy])) (by omega) (by omega) (by have := (hx x (by simp)).2; simp; omega), qLen]
          congr 1
          rw [Prod.mk.injEq]
          exact ⟨by omega, by simp⟩
      refine (range_list u.queue (fun i (z : Int × List (List Cnt)) => (b, u.queue, (u.queue.length : Int), i, (u, ()), (g00, ()), (z.1, ()), (), z.2, ())) _ (fun (i : Int) (x : List Cnt) (z : Int × List (List Cnt)) (rec : Int × List (List Cnt) → Option (Guest × Int × Unit)) => (guest_Tell_1 n (x, (z.1, ()), (), z.2, ())).bind fun y => rec (y.1.1, y.2.2.1)) _ (fun rec i z => rfl) (by omega) n (0, []) (by omega)).trans ?_
      rw [key _ u.queue 0 0 [] a1 (by omega) (by omega) (by simp)]
      dsimp only
      rw [List.nil_append, Int.zero_add]
      unfold tellG
      cases hf : u.fresh
      · cases hbl : (b.length : Int) == 0
        · have hb1 : (b.length : Int) ≠ 0 := by simpa using hbl
          rw [decide_eq_true (show ((b.length : Int) > 0) by omega), tell1_ok b _ _ n (by omega) hb0 (by omega) (by omega) (by omega)]
          simp only [Bool.not_false, Bool.and_self, cond_true, Option.bind_some, Bool.or_self, cond_false]
          rw [show (qLen u.queue : Int) + (b.length : Int) = (b.length : Int) + (qLen u.queue : Int) by omega]
          cases decide ((b.length : Int) + (qLen u.queue : Int) > 40) <;> rfl
        · have hb1 : (b.length : Int) = 0 := by simpa using hbl
          rw [decide_eq_false (show ¬ ((b.length : Int) > 0) by omega), decide_eq_false (show ¬ ((qLen u.queue : Int) > 40) by omega)]
          simp only [Bool.and_false, cond_false, Bool.or_true, cond_true]
          rw [← hf]
      · rw [decide_eq_false (show ¬ ((qLen u.queue : Int) > 40) by omega)]
        simp only [Bool.not_true, Bool.false_and, cond_false, Bool.true_or, cond_true]
        rw [← hf]
    · rfl
  · rfl
theorem law_loop {ρ : Type} (n : Nat) (b : List Cnt) (e : Int) (u v w : Guest) (h : qLen u.queue ≤ 40) (hq : u.queue.length ≤ 40) (hn : 60 ≤ n) (hb : b.length ≤ 2000) (K : List Cnt × Int × Int × (Guest × Unit) × (Guest × Unit) × (Guest × Unit) × Unit → Option ρ) (kr : Unit → Option ρ) :
    iterN (fun rc => espalierlaw_GuestTell_s0 n rc K kr) n (b, e, (b.length : Int), u.queue, (u.queue.length : Int), 0, (u, ()), (v, ()), (w, ()), ()) = K (b, e, (b.length : Int) + (qLen u.queue : Int), (u, ()), (v, ()), (w, ()), ()) := by
  rw [R_espalierlaw_GuestTell_s0 n K kr u.queue n b e _ (u, ()) (v, ()) (w, ()) (by omega) (by omega)]
  have key : ∀ (r : List (List Cnt)) (i s : Int), 0 ≤ s → s + (qLen r : Int) ≤ 10000 → foldK (F_espalierlaw_GuestTell_s0 n kr) (fun (z : List Cnt × Int × Int × (Guest × Unit) × (Guest × Unit) × (Guest × Unit) × Unit) => K (z.1, z.2.1, z.2.2.1, ((Ev.Guest.mk z.2.2.2.1.1.view z.2.2.2.1.1.queue z.2.2.2.1.1.fresh z.2.2.2.1.1.at_), ()), ((Ev.Guest.mk z.2.2.2.2.1.1.view z.2.2.2.2.1.1.queue z.2.2.2.2.1.1.fresh z.2.2.2.2.1.1.at_), ()), ((Ev.Guest.mk z.2.2.2.2.2.1.1.view z.2.2.2.2.2.1.1.queue z.2.2.2.2.2.1.1.fresh z.2.2.2.2.2.1.1.at_), ()), ())) i r (b, e, s, (u, ()), (v, ()), (w, ()), ()) = K (b, e, s + (qLen r : Int), (u, ()), (v, ()), (w, ()), ()) := by
    intro r
    induction r with
    | nil => intro i s _ _; rw [foldK, show qLen [] = 0 from rfl]; simp
    | cons x r ih =>
      intro i s h0 h1
      rw [qLen] at h1
      rw [foldK]
      unfold F_espalierlaw_GuestTell_s0
      dsimp only
      rw [wrap64 (by omega) (by omega)]
      refine (ih (i + 1) _ (by omega) (by omega)).trans ?_
      rw [qLen, show s + (x.length : Int) + (qLen r : Int) = s + ((x.length + qLen r : Nat) : Int) by omega]
  exact key u.queue 0 (b.length : Int) (by omega) (by omega)
theorem cloneQ_ok (l : List (List Cnt)) (h : l.length ≤ 1000) : slices_Clone_api_Bag_api_Bag_own (l, ()) = some (l, ()) := by
  unfold slices_Clone_api_Bag_api_Bag_own nilq
  dsimp only
  rw [List.nil_append, ck_ok (roomB (by omega) (by omega))]
  cases l with
  | nil => exact dem2_same _
  | cons a r => rfl
theorem sameU0 (n : Nat) (hn : 3000 ≤ n) : espalierlaw_sameGuest n (g00, g00, ()) = some (true, ()) :=
  sameU_ok g00 n (fun x hx => by cases hx) (fun x hx => by cases hx) (by simp [g00]) (by simp [g00, qSz]; omega)
theorem qSz_app (l : List (List Cnt)) (b : List Cnt) : qSz (l ++ [b]) = qSz l + bSz b := by
  induction l with
  | nil => simp [qSz]
  | cons x r ih => rw [List.cons_append, qSz, qSz, ih]; omega
theorem GuestTell_ok (u : Guest) (b : List Cnt) (hw : ∀ x ∈ u.queue, ∀ c ∈ x, cOk c) (hwb : ∀ c ∈ b, cOk c) (hq : u.queue.length ≤ 2000000) (n : Nat) (hn : qSz u.queue + u.queue.length + bSz b + 5000 ≤ n) : espalierlaw_GuestTell n (u, b, ()) = some (true, ()) := by
  unfold espalierlaw_GuestTell
  dsimp only
  rw [show guest_Tell n (⟨u.view, u.queue, u.fresh, u.at_⟩, b, ()) = _ from tell_ok u b n hw hwb hq (by omega), Option.bind_some,
    show espalierlaw_checkGuest n (⟨u.view, u.queue, u.fresh, u.at_⟩, ()) = _ from rgcheck_ok u n hw hq (by omega), Option.bind_some, waits_ok n (by omega), Option.bind_some,
    show guest_Check n (⟨u.view, u.queue, u.fresh, u.at_⟩, ()) = _ from gcheck_ok u n hw hq (by omega), Option.bind_some]
  dsimp only
  rw [show (!true) = false from rfl, cond_false, show (guE u != guE u) = false by simp, cond_false]
  cases h1 : guE u != 0
  · have hu0 : guE u = 0 := by simpa using h1
    obtain ⟨a1, a2, a3⟩ := guE_0 hq hu0
    have hql := qLen_le fun x hx => (a1 x hx).2
    rw [hu0, show ((0 : Int) == 0) = true from rfl, cond_true, cond_false, rbcheck_ok b n hwb (by omega), Option.bind_some]
    dsimp only
    cases h2 : bgE b != 0
    · have hb0 : bgE b = 0 := by simpa using h2
      have hb20 := (bgE_0 hb0).1
      rw [cond_false, cond_false]
      dsimp only
      refine (law_loop n b 0 u (tellG u b) u a2 (by omega) (by omega) hb20 _ _).trans ?_
      dsimp only
      have hx20 : ∀ x ∈ u.queue, x.length ≤ 2000 := fun x hx => (bgE_0 (a1 x hx).1).1
      unfold tellG
      cases h3 : u.fresh || ((b.length : Int) == 0)
      · rw [cond_false, cond_false]
        cases h4 : decide ((b.length : Int) + (qLen u.queue : Int) > 40)
        · rw [cond_false, cond_false, cloneQ_ok u.queue (by omega), Option.bind_some]
          dsimp only
          rw [ck_ok (roomB (by simp; omega) (by omega)), show ((0 : Int) == 0) = true from rfl, cond_true,
            sameU_ok ⟨u.view, u.queue ++ [b], u.fresh, u.at_⟩ n (fun x hx => (by
              rcases List.mem_append.1 hx with hx | hx
              · exact hw x hx
              · rw [List.mem_singleton.1 hx]; exact hwb)) (fun x hx => (by
              rcases List.mem_append.1 hx with hx | hx
              · exact hx20 x hx
              · rw [List.mem_singleton.1 hx]; exact hb20)) (by simp; omega) (by rw [qSz_app]; simp; omega)]
          rfl
        · rw [cond_true, cond_true, show ((0 : Int) == 0) = true from rfl, cond_true]
          rw [sameU_ok ⟨u.view, [], true, u.at_⟩ n (fun x hx => by cases hx) (fun x hx => by cases hx) (by simp) (by simp [qSz]; omega)]
          rfl
      · rw [cond_true, cond_true, show ((0 : Int) == 0) = true from rfl, cond_true]
        refine (congrArg (fun z => Option.bind z _) (sameU_ok u n hw hx20 hq (by omega))).trans ?_
        rfl
    · rw [cond_true, cond_true]
      dsimp only
      rw [beq_self_eq_true, cond_true]
      refine (congrArg (fun z => Option.bind z _) (sameU0 n (by omega))).trans ?_
      rfl
  · have h9 : (guE u == 0) = false := by simpa using h1
    rw [h9, cond_false, cond_true, cond_true]
    dsimp only
    rw [beq_self_eq_true, cond_true]
    refine (congrArg (fun z => Option.bind z _) (sameU0 n (by omega))).trans ?_
    rfl
end Pure


/- Guests. No program. -/
import Derived.Test.YtnfoajgolcenlaaDoorPBag3
import Derived.Test.YtnfoajgolcenlaaDoorPCopy
namespace Pure
open Esp Ev Go
set_option linter.unusedSimpArgs false
set_option linter.unusedVariables false
set_option linter.unusedSimpArgs false
set_option linter.unusedVariables false

theorem self_fold {α ρ : Type} (l : List α) (f : Int → α → Unit → (Unit → Option ρ) → Option ρ) (k : Unit → Option ρ) (h : ∀ x ∈ l, ∀ (i : Int) rec, ix l i = some x → f i x () rec = rec ()) : ∀ (r p : List α), l = p ++ r → foldK f k (p.length : Int) r () = k ()
  | [], _, _ => rfl
  | x :: r, p, hp => by
    have e1 : ((p.length : Int) + 1) = ((p ++ [x]).length : Int) := by simp
    rw [foldK, h x (by rw [hp]; simp) _ _ (ix_ok (by rw [hp]; simp)), e1, self_fold l f k h r (p ++ [x]) (by simp [hp])]
theorem roomB {n b : Nat} (h : n ≤ 2000000) (hb : b ≤ 1000) : room n b = true := by
  unfold room
  rw [Bool.and_eq_true]
  exact ⟨Nat.ble_eq_true_of_le (by omega), Nat.ble_eq_true_of_le (by have : n * b ≤ 2000000 * 1000 := Nat.mul_le_mul h hb; omega)⟩

/-! ## what is right in a bag -/
theorem bgF_0 : ∀ {l : List Cnt} {prev : Option (List Val)}, bgF prev l = 0 → ∀ c ∈ l, c.r.length ≤ 30 ∧ chks c.r 1 = 0
  | [], _, _ => fun x hx => (by cases hx)
  | c :: r, prev, h => by
    rw [bgF] at h
    cases h1 : decide ((c.r.length : Int) > 30) with
    | true => rw [h1] at h; cases h
    | false =>
      rw [h1, cond_false] at h
      cases h2 : chks c.r 1 != 0 with
      | true => rw [h2, cond_true] at h; rw [h] at h2; cases h2
      | false =>
        rw [h2, cond_false] at h
        cases h3 : c.n == 0 with
        | true => rw [h3] at h; cases h
        | false =>
          cases h4 : falls prev c.r with
          | true => rw [h3, h4] at h; cases h
          | false =>
            cases h5 : big c.n with
            | true => rw [h3, h4, h5] at h; cases h
            | false =>
              rw [h3, h4, h5] at h
              intro x hx
              rcases List.mem_cons.1 hx with rfl | hx
              · exact ⟨by have := of_decide_eq_false h1; omega, by simpa using h2⟩
              · exact bgF_0 h x hx
theorem bgE_0 {l : List Cnt} (h : bgE l = 0) : l.length ≤ 2000 ∧ ∀ c ∈ l, c.r.length ≤ 30 ∧ chks c.r 1 = 0 := by
  unfold bgE at h
  cases h1 : decide ((l.length : Int) > 2000) with
  | true => rw [h1] at h; cases h
  | false => rw [h1] at h; exact ⟨by have := of_decide_eq_false h1; omega, bgF_0 h⟩
theorem chks_0' {l : List Val} (h : chks l 1 = 0) : ∀ x ∈ l, chk x 1 = 0 := chks_0 h

/-! ## copies -/
theorem copyRow_ok (l : List Val) (n : Nat) (hn : 60 ≤ n) (h30 : l.length ≤ 30) (hc : chks l 1 = 0) : bag_CopyRow n (l, ()) = some (l, ()) := by
  unfold bag_CopyRow
  dsimp only
  rw [R_bag_CopyRow_s0 n _ _ l n [] (by omega) (by omega)]
  have key : ∀ (r p : List Val) (i : Int), (∀ x ∈ r, chk x 1 = 0) → p.length + r.length ≤ 30 → foldK (F_bag_CopyRow_s0 n (fun _ => none)) (fun s => some (s.1, ())) i r (p, ()) = some (p ++ r, ()) := by
    intro r
    induction r with
    | nil => intro p i _ _; simp [foldK]
    | cons x r ih =>
      intro p i hx hl
      rw [foldK]
      unfold F_bag_CopyRow_s0
      dsimp only
      rw [Val.eta, copy_ok x 1 n (by omega) (by omega) (by omega) (hx x (by simp)), Option.bind_some]
      dsimp only
      rw [Val.eta, ck_ok (room_ok (by simp at hl ⊢; omega) (by omega))]
      refine (ih (p ++ [x]) (i + 1) (fun y hy => hx y (by simp [hy])) (by simp at hl ⊢; omega)).trans ?_
      simp
  exact key l [] 0 (chks_0 hc) (by simpa using h30)
theorem own_ok (l : List Cnt) (n : Nat) (hn : 2100 ≤ n) (h : bgE l = 0) : guest_own n (l, ()) = some (l, ()) := by
  obtain ⟨h20, hc⟩ := bgE_0 h
  unfold guest_own
  dsimp only
  rw [R_guest_own_s0 n _ _ l n [] (by omega) (by omega)]
  have key : ∀ (r p : List Cnt) (i : Int), (∀ c ∈ r, c.r.length ≤ 30 ∧ chks c.r 1 = 0) → p.length + r.length ≤ 2000 → foldK (F_guest_own_s0 n (fun _ => none)) (fun s => some (s.1, ())) i r (p, ()) = some (p ++ r, ()) := by
    intro r
    induction r with
    | nil => intro p i _ _; simp [foldK]
    | cons x r ih =>
      intro p i hx hl
      rw [foldK]
      unfold F_guest_own_s0
      dsimp only
      rw [copyRow_ok x.r n (by omega) (hx x (by simp)).1 (hx x (by simp)).2, Option.bind_some]
      dsimp only
      rw [ck_ok (roomB (by simp at hl ⊢; omega) (by omega))]
      refine (ih (p ++ [x]) (i + 1) (fun y hy => hx y (by simp [hy])) (by simp at hl ⊢; omega)).trans ?_
      simp
  exact key l [] 0 hc (by simpa using h20)

/-! ## the same bag -/
theorem sameB_ok (l : List Cnt) (n : Nat) (hw : ∀ c ∈ l, cOk c) (hl : l.length ≤ 2000) (hn : bSz l + 2100 ≤ n) : espalierref_SameBag n (l, l, ()) = some (true, ()) := by
  have e : slices_EqualFunc_api_Bag_api_Bag_api_Count_api_Count_espalierref_SameBag_1 n (l, l, ()) = some (true, ()) := by
    unfold slices_EqualFunc_api_Bag_api_Bag_api_Count_api_Count_espalierref_SameBag_1
    dsimp only
    rw [show ((l.length : Int) != (l.length : Int)) = false by simp, cond_false]
    refine (range_list l (fun i (u : Unit) => (l, l, (l.length : Int), i, ())) _ (fun (i : Int) (x : Cnt) (u : Unit) (rec : Unit → Option (Bool × Unit)) => (ix l i).bind fun y => (espalierref_SameBag_1 n (x, y, ())).bind fun b => bif !b.1 then some (false, ()) else rec ()) (fun _ => some (true, ())) (fun rec i u => rfl) (by omega) n () (by omega)).trans ?_
    refine self_fold l _ _ (fun x hx i rec hi => ?_) l [] rfl
    rw [hi, Option.bind_some]
    have e1 : espalierref_SameBag_1 n (x, x, ()) = some (true, ()) := by
      unfold espalierref_SameBag_1
      dsimp only
      rw [beq_self_eq_true, cond_true, rcompare_ok x.r x.r n (hw x hx).1.1 (hw x hx).1.2 (by have := bSz_mem hx; omega), Option.bind_some]
      dsimp only
      rw [(ordL_zero x.r x.r).2 rfl]
      rfl
    rw [e1]
    rfl
  unfold espalierref_SameBag
  dsimp only
  rw [e]
  rfl
def qSz : List (List Cnt) → Nat
  | [] => 0
  | x :: r => bSz x + qSz r
theorem qSz_mem : ∀ {l : List (List Cnt)} {c : List Cnt}, c ∈ l → bSz c ≤ qSz l
  | y :: r, c, h => by
    rw [qSz]
    rcases List.mem_cons.1 h with rfl | h
    · omega
    · have := qSz_mem h; omega
theorem sameU_ok (u : Guest) (n : Nat) (hw : ∀ x ∈ u.queue, ∀ c ∈ x, cOk c) (hl : ∀ x ∈ u.queue, x.length ≤ 2000) (hq : u.queue.length ≤ 2000000) (hn : qSz u.queue + u.queue.length + 2200 ≤ n) : espalierlaw_sameGuest n (u, u, ()) = some (true, ()) := by
  have e : slices_EqualFunc_api_Bag_api_Bag_api_Bag_api_Bag_espalierref_SameBag n (u.queue, u.queue, ()) = some (true, ()) := by
    unfold slices_EqualFunc_api_Bag_api_Bag_api_Bag_api_Bag_espalierref_SameBag
    dsimp only
    rw [show ((u.queue.length : Int) != (u.queue.length : Int)) = false by simp, cond_false]
    refine (range_list u.queue (fun i (_ : Unit) => (u.queue, u.queue, (u.queue.length : Int), i, ())) _ (fun (i : Int) (x : List Cnt) (_ : Unit) (rec : Unit → Option (Bool × Unit)) => (ix u.queue i).bind fun y => (espalierref_SameBag n (x, y, ())).bind fun b => bif !b.1 then some (false, ()) else rec ()) (fun _ => some (true, ())) (fun rec i u => rfl) (by omega) n () (by omega)).trans ?_
    refine self_fold u.queue _ _ (fun x hx i rec hi => ?_) u.queue [] rfl
    rw [hi, Option.bind_some, sameB_ok x n (hw x hx) (hl x hx) (by have := qSz_mem hx; omega)]
    rfl
  unfold espalierlaw_sameGuest
  dsimp only
  rw [beq_self_eq_true, beq_self_eq_true, beq_self_eq_true, e]
  rfl

/-! ## a guest is checked -/
def quF (u : Guest) : Int → List (List Cnt) → Int
  | s, [] => bif decide (s > 40) then 2 else bif u.fresh && decide (s > 0) then 6 else 0
  | s, x :: r => bif bgE x != 0 then bgE x else bif (x.length : Int) == 0 then 6 else quF u (IntKind.wrap .i64 (s + (x.length : Int))) r
def guE (u : Guest) : Int := bif (decide (u.view < 0)) || (decide (u.at_ < 0)) then 9 else quF u 0 u.queue
noncomputable def quB : Int → List Cnt → Int → (Int → Option (Int × Unit)) → Option (Int × Unit) := fun i x s rec => bif bgE x != 0 then some (bgE x, ()) else bif (x.length : Int) == 0 then some (6, ()) else rec (IntKind.wrap .i64 (s + (x.length : Int)))
theorem qu_fold (u : Guest) : ∀ (r : List (List Cnt)) (i s : Int), foldK quB (fun s => bif decide (s > 40) then some (2, ()) else bif u.fresh && decide (s > 0) then some (6, ()) else some (0, ())) i r s = some (quF u s r, ())
  | [], i, s => by
    rw [foldK, quF]
    cases decide (s > 40)
    · cases u.fresh && decide (s > 0) <;> rfl
    · rfl
  | x :: r, i, s => by
    rw [foldK, quB, qu_fold u r, quF]
    cases bgE x != 0
    · cases (x.length : Int) == 0 <;> rfl
    · rfl
theorem gcheck_ok (u : Guest) (n : Nat) (hw : ∀ x ∈ u.queue, ∀ c ∈ x, cOk c) (hq : u.queue.length ≤ 2000000) (hn : qSz u.queue + u.queue.length + 2200 ≤ n) : guest_Check n (u, ()) = some (guE u, ()) := by
  unfold guest_Check guE
  dsimp only
  cases (decide (u.view < 0)) || (decide (u.at_ < 0))
  · rw [cond_false, cond_false]
    refine (range_list u.queue (fun i (s : Int) => (s, u.queue, (u.queue.length : Int), i, (u, ()), ())) _ quB (fun s => bif decide (s > 40) then some (2, ()) else bif u.fresh && decide (s > 0) then some (6, ()) else some (0, ())) (fun rec i s => ?_) (by omega) n 0 (by omega)).trans (qu_fold u u.queue 0 0)
    unfold guest_Check_s0 quB
    dsimp only
    cases decide (i < (u.queue.length : Int))
    · rfl
    · rw [cond_true, cond_true]
      cases hx : ix u.queue i with
      | none => rfl
      | some x =>
        have hm := ix_mem hx
        rw [Option.bind_some, Option.bind_some, bcheck_ok x n (hw x hm) (by have := qSz_mem hm; omega), Option.bind_some]
  · rfl
theorem rgcheck_ok (u : Guest) (n : Nat) (hw : ∀ x ∈ u.queue, ∀ c ∈ x, cOk c) (hq : u.queue.length ≤ 2000000) (hn : qSz u.queue + u.queue.length + 2200 ≤ n) : espalierlaw_checkGuest n (u, ()) = some (guE u, ()) := by
  unfold espalierlaw_checkGuest guE
  dsimp only
  cases (decide (u.view < 0)) || (decide (u.at_ < 0))
  · rw [cond_false, cond_false]
    refine (range_list u.queue (fun i (s : Int) => (s, u.queue, (u.queue.length : Int), i, (u, ()), ())) _ quB (fun s => bif decide (s > 40) then some (2, ()) else bif u.fresh && decide (s > 0) then some (6, ()) else some (0, ())) (fun rec i s => ?_) (by omega) n 0 (by omega)).trans (qu_fold u u.queue 0 0)
    unfold espalierlaw_checkGuest_s0 quB
    dsimp only
    cases decide (i < (u.queue.length : Int))
    · rfl
    · rw [cond_true, cond_true]
      cases hx : ix u.queue i with
      | none => rfl
      | some x =>
        have hm := ix_mem hx
        rw [Option.bind_some, Option.bind_some, rbcheck_ok x n (hw x hm) (by have := qSz_mem hm; omega), Option.bind_some]
  · rfl
/-- how many rows wait -/
def qLen : List (List Cnt) → Nat
  | [] => 0
  | x :: r => x.length + qLen r
theorem qLen_le : ∀ {l : List (List Cnt)}, (∀ x ∈ l, 0 < x.length) → l.length ≤ qLen l
  | [], _ => Nat.le_refl _
  | x :: r, h => by
    have := qLen_le (l := r) fun y hy => h y (by simp [hy])
    have := h x (by simp)
    rw [qLen, List.length_cons]
    omega
theorem quF_0 (u : Guest) : ∀ {l : List (List Cnt)} {s : Int}, 0 ≤ s → s + 2000 * (l.length : Int) ≤ 9000000000000 → quF u s l = 0 → (∀ x ∈ l, bgE x = 0 ∧ 0 < x.length) ∧ s + (qLen l : Int) ≤ 40 ∧ (u.fresh = true → s + (qLen l : Int) = 0)
  | [], s, h0, _, h => by
    rw [quF] at h
    cases h1 : decide (s > 40) with
    | true => rw [h1] at h; cases h
    | false =>
      cases h2 : u.fresh && decide (s > 0) with
      | true => rw [h1, h2] at h; cases h
      | false =>
        have h3 := of_decide_eq_false h1
        have h8 : qLen [] = 0 := rfl
        refine ⟨fun x hx => (by cases hx), by rw [h8]; omega, fun hf => ?_⟩
        rw [hf, Bool.true_and] at h2
        have := of_decide_eq_false h2
        rw [h8]; omega
  | x :: r, s, h0, hb, h => by
    rw [quF] at h
    cases h1 : bgE x != 0 with
    | true => rw [h1, cond_true] at h; rw [h] at h1; cases h1
    | false =>
      have hx0 : bgE x = 0 := by simpa using h1
      have hx20 := (bgE_0 hx0).1
      cases h2 : (x.length : Int) == 0 with
      | true => rw [h1, h2] at h; cases h
      | false =>
        have hx1 : (x.length : Int) ≠ 0 := by simpa using h2
        rw [List.length_cons] at hb
        rw [h1, h2, cond_false, cond_false, wrap64 (by omega) (by omega)] at h
        obtain ⟨a1, a2, a3⟩ := quF_0 u (by omega) (by omega) h
        refine ⟨fun y hy => ?_, by rw [qLen]; omega, fun hf => by have := a3 hf; rw [qLen]; omega⟩
        rcases List.mem_cons.1 hy with rfl | hy
        · exact ⟨hx0, by omega⟩
        · exact a1 y hy
theorem guE_0 {u : Guest} (hq : u.queue.length ≤ 2000000) (h : guE u = 0) : (∀ x ∈ u.queue, bgE x = 0 ∧ 0 < x.length) ∧ qLen u.queue ≤ 40 ∧ (u.fresh = true → qLen u.queue = 0) := by
  unfold guE at h
  cases h1 : (decide (u.view < 0)) || (decide (u.at_ < 0)) with
  | true => rw [h1] at h; cases h
  | false =>
    rw [h1, cond_false] at h
    obtain ⟨a1, a2, a3⟩ := quF_0 u (by omega) (by omega) h
    exact ⟨a1, by omega, fun hf => by have := a3 hf; omega⟩
end Pure

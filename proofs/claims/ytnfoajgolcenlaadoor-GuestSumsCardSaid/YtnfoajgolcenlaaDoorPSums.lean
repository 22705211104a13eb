/- The law GuestSums. No program. -/
import Derived.Test.YtnfoajgolcenlaaDoorPC
import Derived.Test.YtnfoajgolcenlaaDoorPA
namespace Pure
open Esp Ev Go
set_option linter.unusedSimpArgs false
set_option linter.unusedVariables false
set_option linter.unusedSimpArgs false
set_option linter.unusedVariables false

theorem bgF_09 : ∀ {l : List Cnt} {prev : Option (List Val)}, (∀ c ∈ l, c.r.length ≤ 30 ∧ chks c.r 1 = 0 ∧ c.n ≠ 0) → Strict l → (∀ p, prev = some p → ∀ c ∈ l, ordL p c.r < 0) → bgF prev l = 0 ∨ bgF prev l = 9
  | [], _, _, _, _ => .inl rfl
  | c :: l, prev, h, hs, hp => by
    obtain ⟨h1, h2, h3⟩ := h c (by simp)
    obtain ⟨s1, s2⟩ := List.pairwise_cons.1 hs
    have e1 : decide ((c.r.length : Int) > 30) = false := by rw [decide_eq_false_iff_not]; omega
    have e3 : (c.n == 0) = false := by simpa using h3
    have e4 : falls prev c.r = false := by
      cases prev with
      | none => rfl
      | some p =>
        have := hp p rfl c (by simp)
        unfold falls
        rw [decide_eq_false_iff_not]; omega
    rw [bgF, e1, cond_false, h2, show ((0 : Int) != 0) = false from rfl, cond_false, e3, cond_false, e4, cond_false]
    cases big c.n with
    | true => exact .inr rfl
    | false =>
      rw [cond_false]
      exact bgF_09 (fun d hd => h d (by simp [hd])) s2 fun p hp' d hd => by
        cases hp'
        exact s1 d hd
theorem bgE_09 {l : List Cnt} (hl : l.length ≤ 2000) (h : ∀ c ∈ l, c.r.length ≤ 30 ∧ chks c.r 1 = 0) (hc : CB l) : bgE l = 0 ∨ bgE l = 9 := by
  unfold bgE
  rw [decide_eq_false (show ¬ ((l.length : Int) > 2000) by omega), cond_false]
  exact bgF_09 (fun c hc' => ⟨(h c hc').1, (h c hc').2, hc.2 c hc'⟩) hc.1 (by simp)
theorem quF_mk (u : Guest) : ∀ {l : List (List Cnt)} {s : Int}, 0 ≤ s → (∀ x ∈ l, bgE x = 0 ∧ 0 < x.length) → s + (qLen l : Int) ≤ 40 → (u.fresh = true → s + (qLen l : Int) = 0) → quF u s l = 0
  | [], s, h0, _, h1, h2 => by
    rw [qLen] at h1 h2
    rw [quF, decide_eq_false (show ¬ (s > 40) by omega), cond_false]
    cases hf : u.fresh with
    | false => rfl
    | true =>
      have := h2 hf
      rw [decide_eq_false (show ¬ (s > 0) by omega)]
      rfl
  | x :: l, s, h0, h, h1, h2 => by
    have hx := h x (by simp)
    rw [qLen] at h1 h2
    rw [quF, hx.1, show ((0 : Int) != 0) = false from rfl, cond_false]
    have e : ((x.length : Int) == 0) = false := by rw [beq_eq_false_iff_ne]; omega
    rw [e, cond_false, wrap64 (by omega) (by omega)]
    exact quF_mk u (by omega) (fun y hy => h y (by simp [hy])) (by omega) fun hf => by have := h2 hf; omega
theorem qSz_le {K : Nat} : ∀ {q : List (List Cnt)}, (∀ x ∈ q, RB K x) → qSz q ≤ qLen q * K
  | [], _ => by simp [qSz]
  | x :: q, h => by
    have h1 := bSz_le (h x (by simp))
    have h2 := qSz_le (q := q) fun y hy => h y (by simp [hy])
    rw [qSz, qLen, Nat.add_mul]
    omega
theorem qLen_flat : ∀ q : List (List Cnt), q.flatten.length = qLen q
  | [] => rfl
  | x :: q => by
    have := qLen_flat q
    rw [List.flatten_cons, List.length_append, qLen, this]
theorem qLen_app (b : List Cnt) : ∀ q : List (List Cnt), qLen (q ++ [b]) = qLen q + b.length
  | [] => by simp [qLen]
  | x :: q => by
    have := qLen_app b q
    rw [List.cons_append, qLen, qLen, this]
    omega

/-- how things stand between two takes -/
structure Inv (K : Nat) (i : Nat) (has all : List Cnt) (u : Guest) : Prop where
  q : ∀ x ∈ u.queue, bgE x = 0 ∧ 0 < x.length ∧ WB x ∧ RB K x
  ql : qLen u.queue ≤ 40
  fr : u.fresh = true → u.queue = []
  vw : 0 ≤ u.view
  at0 : 0 ≤ u.at_
  at1 : u.at_ ≤ (i : Int)
  ha : bgE has = 0 ∧ WB has ∧ RB K has
  al : bgE all = 0 ∧ WB all ∧ RB K all
  eq : u.fresh = false → ∀ w, cf all w = cf has w + cf u.queue.flatten w
section
variable {K i : Nat} {has all : List Cnt} {u : Guest}
theorem Inv.guE (h : Inv K i has all u) : guE u = 0 := by
  have hv := h.vw
  have ha := h.at0
  unfold Pure.guE
  have e : ((decide (u.view < 0)) || (decide (u.at_ < 0))) = false := by
    rw [Bool.or_eq_false_iff, decide_eq_false_iff_not, decide_eq_false_iff_not]; omega
  rw [e, cond_false]
  have := h.ql
  refine quF_mk u (by omega) (fun x hx => ⟨(h.q x hx).1, (h.q x hx).2.1⟩) (by omega) fun hf => ?_
  rw [h.fr hf]
  rfl
theorem Inv.qlen (h : Inv K i has all u) : u.queue.length ≤ 40 := by
  have := qLen_le (l := u.queue) fun x hx => (h.q x hx).2.1
  have := h.ql
  omega
theorem Inv.next (h : Inv K i has all u) : Inv K (i + 1) has all u := ⟨h.q, h.ql, h.fr, h.vw, h.at0, by have := h.at1; omega, h.ha, h.al, h.eq⟩
theorem Inv.tell (h : Inv K i has all u) {b x : List Cnt} (hb : bgE b = 0) (wb : WB b) (rb : RB K b) (hx : bgE x = 0 ∧ WB x ∧ RB K x) (hc : ∀ w, cf x w = cf all w + 1 * cf b w) : Inv K i has x (tellG u b) := by
  unfold tellG
  cases hf : u.fresh with
  | true =>
    rw [Bool.true_or, cond_true]
    exact ⟨h.q, h.ql, h.fr, h.vw, h.at0, h.at1, h.ha, hx, fun hff => by rw [hf] at hff; cases hff⟩
  | false =>
    rw [Bool.false_or]
    cases hl : (b.length : Int) == 0 with
    | true =>
      rw [cond_true]
      have : b = [] := List.length_eq_zero_iff.1 (by have := eq_of_beq hl; omega)
      subst this
      exact ⟨h.q, h.ql, h.fr, h.vw, h.at0, h.at1, h.ha, hx, fun hff w => by rw [hc, h.eq hff, cf]; omega⟩
    | false =>
      have hb1 : (b.length : Int) ≠ 0 := by simpa using hl
      rw [cond_false]
      cases hm : decide ((b.length : Int) + (qLen u.queue : Int) > 40) with
      | true =>
        rw [cond_true]
        exact ⟨by intro x hx; simp at hx, by simp [qLen], fun _ => rfl, h.vw, h.at0, h.at1, h.ha, hx, fun hff => by cases hff⟩
      | false =>
        have hm := of_decide_eq_false hm
        rw [cond_false]
        refine ⟨fun y hy => ?_, by dsimp only; rw [qLen_app]; omega, fun hff => (by cases hff), h.vw, h.at0, h.at1, h.ha, hx, fun _ w => ?_⟩
        · rcases List.mem_append.1 hy with hy | hy
          · exact h.q y hy
          · rw [List.mem_singleton.1 hy]; exact ⟨hb, by omega, wb, rb⟩
        · dsimp only
          rw [hc, h.eq hf, List.flatten_append, cf_append]
          simp
          omega
theorem take_fold (n : Nat) (g : Guest) {ρ : Type} (kr : Unit → Option ρ) (K : (Guest × Unit) × List Cnt × Unit → Option ρ) : ∀ (r : List (List Cnt)) (acc : List Cnt) (i : Int), acc.length + qLen r ≤ 1000 →
    foldK (F_guest_Take_s0 n kr) K i r ((g, ()), acc, ()) = K ((g, ()), acc ++ r.flatten, ()) := by
  intro r
  induction r with
  | nil => intro acc i _; simp [foldK]
  | cons x r ih =>
    intro acc i hl
    rw [qLen] at hl
    rw [foldK]
    generalize hR : foldK (F_guest_Take_s0 n kr) K (i + 1) r = R
    unfold F_guest_Take_s0
    dsimp only
    rw [ck_ok (room_ok (by rw [List.length_append]; omega) (by omega))]
    subst hR
    refine (ih (acc ++ x) (i + 1) (by rw [List.length_append]; omega)).trans ?_
    rw [List.append_assoc, List.flatten_cons]
theorem clone3_ok (l : List Cnt) (h : l.length ≤ 100000) : slices_Clone_api_Count_api_Count (l, ()) = some (l, ()) := by
  unfold slices_Clone_api_Count_api_Count
  dsimp only
  rw [List.nil_append]
  cases l with
  | nil => unfold nilq; dsimp only; rw [ck_ok (roomB (by simp) (by omega))]; exact dem2_same _
  | cons x l => unfold nilq; dsimp only; rw [ck_ok (roomB (by omega) (by omega))]
theorem take_ok (h : Inv K i has all u) (n : Nat) (hn : 20000 * K + 100000 ≤ n) :
    (u.fresh = true → guest_Take n (u, all, (i : Int), ()) = some (⟨u.view, [], false, (i : Int)⟩, all, true, 0, ())) ∧
    (u.fresh = false → ∃ o, CB o ∧ (∀ w, cf o w = cf u.queue.flatten w) ∧ WB o ∧ RB K o ∧ (bgE o = 0 ∨ bgE o = 9) ∧
      guest_Take n (u, all, (i : Int), ()) = bif bgE o != 0 then some (g00, [], false, bgE o, ()) else some (⟨u.view, [], false, (i : Int)⟩, o, false, 0, ())) := by
  have hq := h.qlen
  have hql := h.ql
  have hqs := qSz_le (K := K) fun x hx => (h.q x hx).2.2.2
  have hqs2 : qLen u.queue * K ≤ 40 * K := Nat.mul_le_mul_right _ hql
  have hg := gcheck_ok u n (fun x hx => (h.q x hx).2.2.1) (by omega) (by omega)
  have ca := bcheck_ok all n h.al.2.1 (sizes (bgE_0 h.al.1).1 h.al.2.2 (by omega))
  unfold guest_Take
  dsimp only
  have hgu : guest_Check n (⟨u.view, u.queue, u.fresh, u.at_⟩, ()) = some (0, ()) := by rw [← h.guE]; exact hg
  have hat : decide ((i : Int) < u.at_) = false := by rw [decide_eq_false_iff_not]; have := h.at1; omega
  rw [hgu, Option.bind_some]
  dsimp only
  rw [show ((0 : Int) != 0) = false from rfl, cond_false, ca, Option.bind_some]
  dsimp only
  rw [h.al.1, show ((0 : Int) != 0) = false from rfl, cond_false, hat, cond_false]
  refine ⟨fun hf => ?_, fun hf => ?_⟩
  · rw [hf, cond_true, own_ok all n (by omega) h.al.1]
    rfl
  · rw [hf, cond_false, R_guest_Take_s0 n _ _ u.queue n _ _ (by omega) (by omega), take_fold n _ _ _ u.queue [] 0 (by simp; omega), List.nil_append]
    dsimp only
    have lf := qLen_flat u.queue
    rw [clone3_ok _ (by omega), Option.bind_some]
    dsimp only
    obtain ⟨o, o1, o2, o3, o4, o5, o6, o7, o8⟩ := gather2 u.queue.flatten n K 1099511627776 (by omega) (fun c hc => by
      obtain ⟨x, hx, hcx⟩ := List.mem_flatten.1 hc
      obtain ⟨q1, q2, q3, q4⟩ := h.q x hx
      have h2 := (bgE_0 q1).2 c hcx
      exact ⟨by omega, (q3 c hcx).1.2, h2.2, (bgE_cb q1).2 c hcx⟩) (fun c hc => by
      obtain ⟨x, hx, hcx⟩ := List.mem_flatten.1 hc
      exact (h.q x hx).2.2.2 c hcx) (by omega) (by omega) (by omega)
    rw [o1, Option.bind_some]
    dsimp only
    rw [o8, Option.bind_some]
    dsimp only
    refine ⟨o, o2, o3, o6, o7, bgE_09 (by omega) (fun c hc => ?_) o2, ?_⟩
    · obtain ⟨d, hd, e⟩ := o4 c hc
      obtain ⟨x, hx, hcx⟩ := List.mem_flatten.1 hd
      rw [← e]
      exact (bgE_0 (h.q x hx).1).2 d hcx
    · cases bgE o != 0 <;> rfl
end
theorem sums_fold (n K : Nat) (hn : 20000 * K + 100000 ≤ n) (takes : List Bool) : ∀ (r : List (List Cnt)) (i : Nat) (has all : List Cnt) (u : Guest), (∀ b ∈ r, WB b ∧ bSz b + 6 ≤ K) → i + r.length ≤ 100 → Inv K i has all u →
    foldK (F_espalierlaw_GuestSums_s0 n (fun z => some (z.1, ()))) (fun _ => some (true, ())) (i : Int) r (takes, has, all, (u, ()), ()) = some (true, ()) := by
  intro r
  induction r with
  | nil => intro i has all u _ _ _; rfl
  | cons b r ih =>
    intro i has all u hb hl hI
    obtain ⟨wb, sb⟩ := hb b (by simp)
    have rb := RB_self b sb
    have hr : ∀ b ∈ r, WB b ∧ bSz b + 6 ≤ K := fun c hc => hb c (by simp [hc])
    rw [List.length_cons] at hl
    have hii : ((i : Int) + 1) = ((i + 1 : Nat) : Int) := by omega
    have go : ∀ has' all' u', Inv K (i + 1) has' all' u' → foldK (F_espalierlaw_GuestSums_s0 n (fun z => some (z.1, ()))) (fun _ => some (true, ())) ((i : Int) + 1) r (takes, has', all', (u', ()), ()) = some (true, ()) := by
      intro has' all' u' h
      rw [hii]
      exact ih (i + 1) has' all' u' hr (by omega) h
    rw [foldK]
    generalize hR : foldK (F_espalierlaw_GuestSums_s0 n (fun z => some (z.1, ()))) (fun _ => some (true, ())) ((i : Int) + 1) r = R at go ⊢
    unfold F_espalierlaw_GuestSums_s0
    dsimp only
    have sall := sizes (bgE_0 hI.al.1).1 hI.al.2.2 (n := n) (by omega)
    obtain ⟨_, a2, a3⟩ := add_ok all b 1 n K (by omega) hI.al.2.1 wb hI.al.2.2 rb sall (by omega) (by omega)
    rcases Classical.em (bgE b = 0) with hb0 | hb0
    · obtain ⟨x, x1, x2, _, x4, x5, x6⟩ := a3 hI.al.1 hb0
      rcases Classical.em (bgE x = 0) with hx0 | hx0
      · rw [hx0] at x6
        have x6' : bag_Add n (all, b, 1, ()) = some (x, 0, ()) := x6
        have hT := hI.tell hb0 wb rb ⟨hx0, x4, x5⟩ x2
        have hq := hI.qlen
        have hqs := qSz_le (K := K) fun y hy => (hI.q y hy).2.2.2
        have hqs2 : qLen u.queue * K ≤ 40 * K := Nat.mul_le_mul_right _ hI.ql
        have ht := tell_ok u b n (fun y hy => (hI.q y hy).2.2.1) wb (by omega) (by omega)
        rw [hI.guE, hb0] at ht
        have ht' : guest_Tell n (⟨u.view, u.queue, u.fresh, u.at_⟩, b, ()) = some (tellG u b, 0, ()) := ht
        rw [x6', Option.bind_some]
        dsimp only
        rw [show ((0 : Int) != 0) = false from rfl, cond_false, ht', Option.bind_some]
        dsimp only
        rw [show ((0 : Int) != 0) = false from rfl, cond_false]
        cases hd : decide ((i : Int) ≥ (takes.length : Int)) with
        | true => rw [cond_true]; exact go has x _ hT.next
        | false =>
          have hlt : i < takes.length := by have := of_decide_eq_false hd; omega
          have hix : ix takes (i : Int) = some (takes[i]'hlt) := ix_ok (by simp)
          rw [cond_false, hix, Option.bind_some]
          cases takes[i]'hlt with
          | false => exact go has x _ hT.next
          | true =>
            rw [Bool.not_true, cond_false]
            obtain ⟨t1, t2⟩ := take_ok hT n hn
            have eta : (⟨(tellG u b).view, (tellG u b).queue, (tellG u b).fresh, (tellG u b).at_⟩ : Guest) = tellG u b := rfl
            have hI' : ∀ v : Int, 0 ≤ v → Inv K (i + 1) x x ⟨v, [], false, (i : Int)⟩ := fun v hv => ⟨by intro y hy; simp at hy, by simp [qLen], fun _ => rfl, hv, by dsimp only; omega, by dsimp only; omega, ⟨hx0, x4, x5⟩, ⟨hx0, x4, x5⟩, fun _ w => by simp [cf]⟩
            have hsame := same2 x n K x4 x5 (bgE_0 hx0).1 (by omega)
            rw [eta]
            cases hf : (tellG u b).fresh with
            | true =>
              rw [t1 hf, Option.bind_some]
              dsimp only
              rw [show ((0 : Int) != 0) = false from rfl, cond_false, cond_true, add_known [] x x 1 n K (by omega) (by intro c hc; cases hc) x4 (by intro c hc; cases hc) x5 bgE_nil hx0 hx0 (by omega) (fun w => by simp [cf]), Option.bind_some]
              dsimp only
              rw [show ((0 : Int) != 0) = false from rfl, cond_false, hsame, Option.bind_some]
              dsimp only
              rw [Bool.not_true, cond_false]
              exact go x x _ (hI' _ hT.vw)
            | false =>
              obtain ⟨o, o1, o2, o3, o4, o5, o6⟩ := t2 hf
              rcases o5 with o5 | o5
              · rw [o5] at o6
                have o6' : guest_Take n (tellG u b, x, (i : Int), ()) = some (⟨(tellG u b).view, [], false, (i : Int)⟩, o, false, 0, ()) := o6
                rw [o6', Option.bind_some]
                dsimp only
                rw [show ((0 : Int) != 0) = false from rfl, cond_false, cond_false, add_known has o x 1 n K (by omega) hT.ha.2.1 o3 hT.ha.2.2 o4 hT.ha.1 o5 hx0 (by omega) (fun w => by rw [hT.eq hf, o2]; omega), Option.bind_some]
                dsimp only
                rw [show ((0 : Int) != 0) = false from rfl, cond_false, hsame, Option.bind_some]
                dsimp only
                rw [Bool.not_true, cond_false]
                exact go x x _ (hI' _ hT.vw)
              · rw [o5] at o6
                have o6' : guest_Take n (tellG u b, x, (i : Int), ()) = some (g00, [], false, 9, ()) := o6
                rw [o6', Option.bind_some]
                rfl
      · rw [bne_iff_ne.2 hx0] at x6
        have x6' : bag_Add n (all, b, 1, ()) = some ([], bgE x, ()) := x6
        rw [x6', Option.bind_some]
        dsimp only
        rw [bne_iff_ne.2 hx0, cond_true]
        exact go has all _ hI.next
    · rw [a2 hI.al.1 hb0, Option.bind_some]
      dsimp only
      rw [bne_iff_ne.2 hb0, cond_true]
      exact go has all _ hI.next
theorem GuestSums_ok (l : List (List Cnt)) (takes : List Bool) (hw : ∀ b ∈ l, ∀ c ∈ b, cOk c) (n : Nat) (hn : 20000 * (qSz l + 20) + 200000 ≤ n) : espalierlaw_GuestSums n (l, takes, ()) = some (true, ()) := by
  have hwt := waits_ok n (by omega)
  have hI : Inv (qSz l + 6) 0 [] [] ⟨0, [], false, 0⟩ := ⟨by intro y hy; simp at hy, by simp [qLen], fun _ => rfl, by simp, by simp, by simp, ⟨bgE_nil, (by intro c hc; cases hc), (by intro c hc; cases hc)⟩, ⟨bgE_nil, (by intro c hc; cases hc), (by intro c hc; cases hc)⟩, fun _ w => by simp [cf]⟩
  have hb : ∀ b ∈ l, WB b ∧ bSz b + 6 ≤ qSz l + 6 := fun b hb => ⟨hw b hb, by have := qSz_mem hb; omega⟩
  unfold espalierlaw_GuestSums
  dsimp only
  rw [hwt]
  cases h : decide ((l.length : Int) > 12) with
  | true =>
    have h12 := of_decide_eq_true h
    have e : lsl l 0 12 = some (l.take 12) := by
      unfold lsl
      rw [if_pos (by omega)]
      rfl
    rw [cond_true, e, Option.bind_some, R_espalierlaw_GuestSums_s0 n _ _ (l.take 12) n _ _ _ _ (by rw [List.length_take]; omega) (by rw [List.length_take]; omega)]
    exact sums_fold n (qSz l + 6) (by omega) takes (l.take 12) 0 [] [] _ (fun b hb' => hb b (List.mem_of_mem_take hb')) (by rw [List.length_take]; omega) hI
  | false =>
    have h12 := of_decide_eq_false h
    rw [cond_false, R_espalierlaw_GuestSums_s0 n _ _ l n _ _ _ _ (by omega) (by omega)]
    exact sums_fold n (qSz l + 6) (by omega) takes l 0 [] [] _ hb (by omega) hI
end Pure

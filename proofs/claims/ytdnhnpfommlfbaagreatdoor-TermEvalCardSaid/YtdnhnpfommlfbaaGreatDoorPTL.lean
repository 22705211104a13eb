/- Several texts in one (merge.py). -/
import Derived.Test.YtdnhnpfommlfbaaGreatDoorPS
import Derived.Test.YtdnhnpfommlfbaaGreatDoorPA
import Derived.KernelRfl
import Derived.Test.YtdnhnpfommlfbaaGreatDoorEvRead3
import Derived.Laws.RangeAny
/- Values that are right, reckoned with: in closed form. No program. -/
namespace Pure
open Esp Ev Go
set_option linter.unusedSimpArgs false
set_option linter.unusedVariables false
theorem right_chk {v : Val} {d : Int} (h : Right v d) : chk v d = 0 := by
  induction h with
  | null d => rw [chk, seq_refl]; rfl
  | truth a d h => rcases h with rfl | rfl <;> (rw [chk, seq_refl]; rfl)
  | int a d h => rw [chk, seq_refl]; rfl
  | text s d h1 h2 =>
    rw [chk]
    rw [show ((3 : Int) == 0) = false from rfl, show ((3 : Int) == 1) = false from rfl, show ((3 : Int) == 2) = false from rfl, show ((3 : Int) == 3) = true from rfl, h2]
    simp only [cond_false, cond_true]
    rw [show decide ((s.size : Int) > 4000) = false by rw [decide_eq_false_iff_not]; omega]
    rfl
  | list l d h1 h2 h3 ih =>
    have hc : ∀ (r : List Val), (∀ x ∈ r, chk x (d + 1) = 0) → chks r (d + 1) = 0 := by
      intro r
      induction r with
      | nil => intro _; rfl
      | cons x r ih2 =>
        intro hr
        rw [chks, hr x (by simp)]
        exact ih2 fun y hy => hr y (by simp [hy])
    rw [chk, hc l ih]
    rw [show ((4 : Int) == 0) = false from rfl, show ((4 : Int) == 1) = false from rfl, show ((4 : Int) == 2) = false from rfl, show ((4 : Int) == 3) = false from rfl, show ((4 : Int) == 4) = true from rfl]
    simp only [cond_false, cond_true]
    rw [show decide ((l.length : Int) > 30) = false by rw [decide_eq_false_iff_not]; omega, show decide (d > 6) = false by rw [decide_eq_false_iff_not]; omega, seq_refl]
    rfl
theorem right_ok {v : Val} {d : Int} (h : Right v d) : vOk v := by
  induction h with
  | null d => rw [vOk, vOks_iff]; exact ⟨by unfold wfI; decide, by unfold wfI; decide, Nat.zero_le _, Nat.zero_le _, fun x hx => by cases hx⟩
  | truth n d h =>
    rw [vOk, vOks_iff]
    refine ⟨by unfold wfI; decide, ?_, Nat.zero_le _, Nat.zero_le _, fun x hx => by cases hx⟩
    rcases h with rfl | rfl <;> (unfold wfI; decide)
  | int n d h => rw [vOk, vOks_iff]; exact ⟨by unfold wfI; decide, h, Nat.zero_le _, Nat.zero_le _, fun x hx => by cases hx⟩
  | text s d h1 h2 => rw [vOk, vOks_iff]; exact ⟨by unfold wfI; decide, by unfold wfI; decide, by unfold maxLen; omega, Nat.zero_le _, fun x hx => by cases hx⟩
  | list l d h1 h2 h3 ih => rw [vOk, vOks_iff]; exact ⟨by unfold wfI; decide, by unfold wfI; decide, Nat.zero_le _, by unfold maxLen; omega, ih⟩
theorem right_mono {v : Val} {d : Int} (h : Right v d) : ∀ d', d' ≤ d → Right v d' := by
  induction h with
  | null d => exact fun d' _ => .null d'
  | truth n d h => exact fun d' _ => .truth n d' h
  | int n d h => exact fun d' _ => .int n d' h
  | text s d h1 h2 => exact fun d' _ => .text s d' h1 h2
  | list l d h1 h2 h3 ih => exact fun d' hd => .list l d' h1 (by omega) fun x hx => ih x hx (d' + 1) (by omega)
theorem right_len {v : Val} {d : Int} (h : Right v d) : v.l.length ≤ 30 ∧ v.s.size ≤ 4000 := by
  cases h with
  | null => exact ⟨Nat.zero_le _, Nat.zero_le _⟩
  | truth => exact ⟨Nat.zero_le _, Nat.zero_le _⟩
  | int => exact ⟨Nat.zero_le _, Nat.zero_le _⟩
  | text s d h1 h2 => exact ⟨Nat.zero_le _, h1⟩
  | list l d h1 h2 h3 => exact ⟨h1, Nat.zero_le _⟩
theorem right_in {v : Val} {d : Int} (h : Right v d) : v.kind = 2 → inR v.n = true := by
  intro hk
  cases h with
  | int n d h => exact h
  | null => simp [kind_mk] at hk
  | truth => simp [kind_mk] at hk
  | text => simp [kind_mk] at hk
  | list => simp [kind_mk] at hk
theorem right_sub {v : Val} {d : Int} (h : Right v d) : ∀ x ∈ v.l, Right x (d + 1) := by
  cases h with
  | list l d h1 h2 h3 => exact h3
  | null => intro x hx; cases hx
  | truth => intro x hx; cases hx
  | int => intro x hx; cases hx
  | text => intro x hx; cases hx
theorem roomQ {n b : Nat} (h : n ≤ 1000) (hb : b ≤ 1000) : room n b = true := room_ok h hb
theorem copyOwn_right {v : Val} (h : Right v 1) (n : Nat) (hn : 60 ≤ n) : q58z n (v, ()) = some ((v.kind, v.n, v.s, ()), v.l, ()) := by
  have hl := (right_len h).1
  have hs := right_sub h
  obtain ⟨k, a, s, l⟩ := v
  unfold q58z
  dsimp +instances only [kind_mk, n_mk, s_mk, l_mk]
  rw [l_mk] at hl hs
  rw [R_q58z_s0 n _ _ l n _ _ _ (by omega) (by omega)]
  have key : ∀ (r p : List Val) (i : Int), (∀ x ∈ r, Right x 2) → p.length + r.length ≤ 30 →
      foldK (F_q58z_s0 n (fun _ => none)) (fun (z : (Int × Int × ByteArray × Unit) × (Val × Unit) × List Val × Unit) => some ((z.1.1, z.1.2.1, z.1.2.2.1, ()), z.2.2.1, ())) i r ((k, a, s, ()), ((.mk 0 0 ⟨#[]⟩ []), ()), p, ()) = some ((k, a, s, ()), p ++ r, ()) := by
    intro r
    induction r with
    | nil => intro p i _ _; simp [foldK]
    | cons x r ih =>
      intro p i hx hl
      have h1 := right_chk (hx x (by simp))
      rw [foldK]
      generalize hR : foldK (F_q58z_s0 n (fun _ => none)) _ (i + 1) r = R
      unfold F_q58z_s0
      dsimp only
      rw [Val.eta, copy_ok x 2 n (by omega) (by omega) (by simp; omega) h1, Option.bind_some]
      dsimp only
      rw [Val.eta, ck_ok (roomQ (by simp at hl ⊢; omega) (by omega)), ← hR]
      refine (ih (p ++ [x]) (i + 1) (fun y hy => hx y (by simp [hy])) (by simp at hl ⊢; omega)).trans ?_
      simp
  exact (key l [] 0 hs (by simp; omega)).trans (by simp)
def gI (z : Int) : Val × Int := (bif inR z then nV z else zV, bif inR z then 0 else 4)
def reckF (sg : ByteArray) (a b : Val) : Val × Int :=
  bif (seq sg ⟨#[43]⟩ || seq sg ⟨#[45]⟩) || seq sg ⟨#[42]⟩ then
    (bif (a.kind == 0) || (b.kind == 0) then (zV, 0)
    else bif (a.kind == 2) && (b.kind == 2) then gI (bif seq sg ⟨#[43]⟩ then a.n + b.n else bif seq sg ⟨#[45]⟩ then a.n - b.n else a.n * b.n)
    else bif (seq sg ⟨#[43]⟩ && (a.kind == 3)) && (b.kind == 3) then (bif decide (((a.s.size + b.s.size : Nat) : Int) > 4000) then (zV, 2) else (.mk 3 0 (a.s ++ b.s) [], 0))
    else bif (seq sg ⟨#[43]⟩ && (a.kind == 4)) && (b.kind == 4) then (bif decide (((a.l.length + b.l.length : Nat) : Int) > 30) then (zV, 2) else (.mk 4 0 ⟨#[]⟩ (a.l ++ b.l), 0))
    else (zV, 3))
  else (zV, 5)
theorem reckR_ok (sg : ByteArray) {a b : Val} (ha : Right a 1) (hb : Right b 1) (n : Nat) (hn : 100 ≤ n) : q65z n (sg, a, b, ()) = some ((reckF sg a b).1, (reckF sg a b).2, ()) := by
  have la := right_len ha
  have lb := right_len hb
  have ia := right_in ha
  have ib := right_in hb
  have ca := copyOwn_right ha n (by omega)
  have cb := copyOwn_right hb n (by omega)
  have w1 : IntKind.wrap .i64 ((a.s.size : Int) + (b.s.size : Int)) = ((a.s.size + b.s.size : Nat) : Int) := by rw [wrap64 (by omega) (by omega)]; omega
  have w2 : IntKind.wrap .i64 ((a.l.length : Int) + (b.l.length : Int)) = ((a.l.length + b.l.length : Nat) : Int) := by rw [wrap64 (by omega) (by omega)]; omega
  have c1 : cat? a.s b.s = some (a.s ++ b.s) := by unfold cat?; rw [if_pos (by omega)]
  have ints : ∀ sg : ByteArray, (a.kind == 0 || b.kind == 0) = false → (a.kind == 2 && b.kind == 2) = true → q65z n (sg, a, b, ()) = q65z n (sg, nV a.n, nV b.n, ()) := by
    intro sg h0 h2
    unfold q65z nV
    dsimp +instances only [kind_mk, n_mk, s_mk, l_mk]
    rw [h0, h2]
    rfl
  by_cases hint : (a.kind == 2 && b.kind == 2) = true
  · have h2 := hint
    rw [Bool.and_eq_true] at h2
    have ka : a.kind = 2 := by simpa using h2.1
    have kb : b.kind = 2 := by simpa using h2.2
    have h0 : (a.kind == 0 || b.kind == 0) = false := by rw [ka, kb]; rfl
    unfold reckF gI
    rw [h0, hint]
    cases h1 : seq sg ⟨#[43]⟩ with
    | true =>
      rw [(seq_iff _ _).1 h1, ints _ h0 hint, sum_ok a.n b.n (ia ka) (ib kb) n]
      rfl
    | false =>
      cases h3 : seq sg ⟨#[45]⟩ with
      | true =>
        rw [(seq_iff _ _).1 h3, ints _ h0 hint, dif_ok a.n b.n (ia ka) (ib kb) n]
        rfl
      | false =>
        cases h4 : seq sg ⟨#[42]⟩ with
        | true =>
          rw [(seq_iff _ _).1 h4, ints _ h0 hint, prd_ok a.n b.n (ia ka) (ib kb) n]
          rfl
        | false =>
          unfold q65z
          dsimp only
          rw [h1, h3, h4, h0]
          rfl
  · have hi : (a.kind == 2 && b.kind == 2) = false := by simpa using hint
    unfold q65z reckF
    dsimp only
    rw [Val.eta, Val.eta, hi, w1, w2, c1, ca, cb]
    cases h1 : seq sg ⟨#[43]⟩ with
    | true =>
      cases h0 : (a.kind == 0 || b.kind == 0) with
      | true => rfl
      | false =>
        cases h3 : ((true && a.kind == 3) && b.kind == 3) with
        | true =>
          cases decide (((a.s.size + b.s.size : Nat) : Int) > 4000) <;> rfl
        | false =>
          cases h4 : ((true && a.kind == 4) && b.kind == 4) with
          | true =>
            cases decide (((a.l.length + b.l.length : Nat) : Int) > 30) with
            | true => rfl
            | false =>
              simp only [cond_true, cond_false, Option.bind_some]
              rw [ck_ok (roomQ (by rw [List.length_append]; omega) (by omega))]
              rfl
          | false => rfl
    | false =>
      cases h3 : seq sg ⟨#[45]⟩ with
      | true => cases (a.kind == 0 || b.kind == 0) <;> rfl
      | false =>
        cases h4 : seq sg ⟨#[42]⟩ with
        | true => cases (a.kind == 0 || b.kind == 0) <;> rfl
        | false => rfl
end Pure
/- Terms: what they are, and what they come to. No program. -/
namespace Pure
open Esp Ev Go
set_option linter.unusedSimpArgs false
set_option linter.unusedVariables false
theorem Term.eta (t : Term) : Term.mk t.kind t.v t.name t.a = t := by cases t; rfl
theorem Term.eta2 (t : Term) : Term.mk t.kind (Val.mk t.v.kind t.v.n t.v.s t.v.l) t.name t.a = t := by rw [Val.eta, Term.eta]
theorem tk_mk (k : Int) (v : Val) (s : ByteArray) (l : List Term) : (Term.mk k v s l).kind = k := rfl
theorem tv_mk (k : Int) (v : Val) (s : ByteArray) (l : List Term) : (Term.mk k v s l).v = v := rfl
theorem tn_mk (k : Int) (v : Val) (s : ByteArray) (l : List Term) : (Term.mk k v s l).name = s := rfl
theorem ta_mk (k : Int) (v : Val) (s : ByteArray) (l : List Term) : (Term.mk k v s l).a = l := rfl
mutual
theorem term_ind {p : Term → Prop} (h : ∀ k v s l, (∀ x ∈ l, p x) → p (.mk k v s l)) : ∀ t, p t
  | .mk k v s l => h k v s l (terms_ind h l)
theorem terms_ind {p : Term → Prop} (h : ∀ k v s l, (∀ x ∈ l, p x) → p (.mk k v s l)) : ∀ l : List Term, ∀ x ∈ l, p x
  | [] => fun _ hx => by cases hx
  | y :: r => List.forall_mem_cons.2 ⟨term_ind h y, terms_ind h r⟩
end
/-! ## names -/
theorem has_any (l : List ByteArray) (s : ByteArray) (n : Nat) (hl : l.length ≤ 100) (hn : 200 ≤ n) : q4z n (l, s, ()) = some (hasL l s, ()) := by
  obtain ⟨j, h1, h2⟩ := index_fold s (fun _ => some (-1, ())) rfl l 0 (by omega)
  have h3 : q5z n (l, s, ()) = some (j, ()) :=
    (range_list l (fun i (u : Unit) => (l, s, (l.length : Int), i, ())) _ (fun (i : Int) (x : ByteArray) (u : Unit) (rec : Unit → Option (Int × Unit)) => bif seq s x then some (i, ()) else rec u) (fun _ => some (-1, ()))
      (fun rec i u => rfl) (by omega) n () (by omega)).trans h1
  unfold q4z
  dsimp only
  rw [h3, Option.bind_some]
  dsimp only
  rw [h2]
noncomputable def resB (s : ByteArray) : Bool := ((q62z 200 (s, ())).getD (false, ())).1
theorem reserved_ok (s : ByteArray) (n : Nat) (hn : 200 ≤ n) : q62z n (s, ()) = some (resB s, ()) := by
  unfold resB
  unfold q62z
  dsimp only
  rw [has_any _ s n (by decide) hn, has_any _ s 200 (by decide) (by omega)]
  rfl
noncomputable def nameB (s : ByteArray) : Bool := nmB s && !resB s
theorem name_ok (s : ByteArray) (n : Nat) (hn : 200 ≤ n) : term_Name n (s, ()) = some (nameB s, ()) := by
  unfold term_Name nameB
  dsimp only
  rw [q77z_ok s n (by omega), Option.bind_some]
  cases nmB s with
  | false => rfl
  | true => dsimp only; rw [cond_true, reserved_ok s n hn]; rfl
def arN (s : ByteArray) : Int × Bool :=
  bif ((((((((seq s ⟨#[43]⟩) || seq s ⟨#[45]⟩) || seq s ⟨#[42]⟩) || seq s ⟨#[61]⟩) || seq s ⟨#[60]⟩) || seq s ⟨#[60, 61]⟩) || seq s ⟨#[97, 110, 100]⟩) || seq s ⟨#[111, 114]⟩) || seq s ⟨#[105, 110]⟩ then (2, true) else bif (((((seq s ⟨#[110, 111, 116]⟩) || seq s ⟨#[110, 117, 108, 108]⟩) || seq s ⟨#[115, 105, 122, 101]⟩) || seq s ⟨#[104, 101, 97, 100]⟩) || seq s ⟨#[105, 100]⟩) || seq s ⟨#[116, 121, 112, 101]⟩ then (1, true) else bif (seq s ⟨#[99, 111, 97, 108, 101, 115, 99, 101]⟩) || seq s ⟨#[108, 105, 115, 116]⟩ then (-1, true) else (0, false)
theorem arity_ok (s : ByteArray) : q79z (s, ()) = some ((arN s).1, (arN s).2, ()) := by
  unfold q79z arN
  dsimp only
  cases h43 : seq s ⟨#[43]⟩ with
  | true => simp only [cond_true, cond_false, Bool.or_true, Bool.true_or, Bool.or_false, Bool.false_or]
  | false =>
    cases h45 : seq s ⟨#[45]⟩ with
    | true => simp only [cond_true, cond_false, Bool.or_true, Bool.true_or, Bool.or_false, Bool.false_or]
    | false =>
      cases h42 : seq s ⟨#[42]⟩ with
      | true => simp only [cond_true, cond_false, Bool.or_true, Bool.true_or, Bool.or_false, Bool.false_or]
      | false =>
        cases h61 : seq s ⟨#[61]⟩ with
        | true => simp only [cond_true, cond_false, Bool.or_true, Bool.true_or, Bool.or_false, Bool.false_or]
        | false =>
          cases h60 : seq s ⟨#[60]⟩ with
          | true => simp only [cond_true, cond_false, Bool.or_true, Bool.true_or, Bool.or_false, Bool.false_or]
          | false =>
            cases h6061 : seq s ⟨#[60, 61]⟩ with
            | true => simp only [cond_true, cond_false, Bool.or_true, Bool.true_or, Bool.or_false, Bool.false_or]
            | false =>
              cases h97110100 : seq s ⟨#[97, 110, 100]⟩ with
              | true => simp only [cond_true, cond_false, Bool.or_true, Bool.true_or, Bool.or_false, Bool.false_or]
              | false =>
                cases h111114 : seq s ⟨#[111, 114]⟩ with
                | true => simp only [cond_true, cond_false, Bool.or_true, Bool.true_or, Bool.or_false, Bool.false_or]
                | false =>
                  cases h105110 : seq s ⟨#[105, 110]⟩ with
                  | true => simp only [cond_true, cond_false, Bool.or_true, Bool.true_or, Bool.or_false, Bool.false_or]
                  | false =>
                    cases h110111116 : seq s ⟨#[110, 111, 116]⟩ with
                    | true => simp only [cond_true, cond_false, Bool.or_true, Bool.true_or, Bool.or_false, Bool.false_or]
                    | false =>
                      cases h110117108108 : seq s ⟨#[110, 117, 108, 108]⟩ with
                      | true => simp only [cond_true, cond_false, Bool.or_true, Bool.true_or, Bool.or_false, Bool.false_or]
                      | false =>
                        cases h115105122101 : seq s ⟨#[115, 105, 122, 101]⟩ with
                        | true => simp only [cond_true, cond_false, Bool.or_true, Bool.true_or, Bool.or_false, Bool.false_or]
                        | false =>
                          cases h10410197100 : seq s ⟨#[104, 101, 97, 100]⟩ with
                          | true => simp only [cond_true, cond_false, Bool.or_true, Bool.true_or, Bool.or_false, Bool.false_or]
                          | false =>
                            cases h105100 : seq s ⟨#[105, 100]⟩ with
                            | true => simp only [cond_true, cond_false, Bool.or_true, Bool.true_or, Bool.or_false, Bool.false_or]
                            | false =>
                              cases h116121112101 : seq s ⟨#[116, 121, 112, 101]⟩ with
                              | true => simp only [cond_true, cond_false, Bool.or_true, Bool.true_or, Bool.or_false, Bool.false_or]
                              | false =>
                                cases h991119710810 : seq s ⟨#[99, 111, 97, 108, 101, 115, 99, 101]⟩ with
                                | true => simp only [cond_true, cond_false, Bool.or_true, Bool.true_or, Bool.or_false, Bool.false_or]
                                | false =>
                                  cases h108105115116 : seq s ⟨#[108, 105, 115, 116]⟩ with
                                  | true => simp only [cond_true, cond_false, Bool.or_true, Bool.true_or, Bool.or_false, Bool.false_or]
                                  | false =>
                                    rfl
/-! ## is it one? -/
def zrB (v : Val) : Bool := ((((v.kind == 0) && (v.n == 0)) && (seq v.s ⟨#[]⟩)) && ((v.l.length : Int) == 0))
def lstB (b : List (ByteArray × Bool)) (s : ByteArray) (x : Term) : Int :=
  bif seq s ⟨#[105, 100]⟩ then (bif x.kind != 2 then 3 else 0)
  else bif seq s ⟨#[116, 121, 112, 101]⟩ then (bif x.kind != 2 then 3 else bif !(mpGet .str .bool false b x.name) then 3 else 0) else 0
def hdT (l : List Term) : Term := l.headD (.mk 0 (.mk 0 0 ⟨#[]⟩ []) ⟨#[]⟩ [])
mutual
noncomputable def tchk (b : List (ByteArray × Bool)) : Term → Int → Int
  | .mk k v s a, d =>
    bif decide (d > 6) then 2
    else bif k == 1 then (bif (!(seq s ⟨#[]⟩)) || decide ((a.length : Int) > 0) then 6 else bif v.kind == 4 then 6 else chk v 1)
    else bif k == 2 then (bif (!zrB v) || decide ((a.length : Int) > 0) then 6 else bif !nameB s then 6 else bif !mpHas .str .bool b s then 5 else 0)
    else bif k == 3 then (bif (!zrB v) || ((a.length : Int) != 1) then 6 else bif (hdT a).kind != 2 then 6 else bif !nmB s then 6 else tchks b a (d + 1))
    else bif k == 4 then (bif ((!(arN s).2) || !zrB v) || (decide ((arN s).1 ≥ 0) && ((a.length : Int) != (arN s).1)) then 6 else bif decide ((a.length : Int) > 30) then 2
      else bif tchks b a (d + 1) != 0 then tchks b a (d + 1) else lstB b s (hdT a))
    else 6
noncomputable def tchks (b : List (ByteArray × Bool)) : List Term → Int → Int
  | [], _ => 0
  | x :: r, d => bif tchk b x d != 0 then tchk b x d else tchks b r d
end
theorem tcheck_loop {ρ : Type} (self : Term × List (ByteArray × Bool) × Int × Unit → Option (Int × Unit)) (n : Nat) (b : List (ByteArray × Bool)) (d : Int) (hd : IntKind.wrap .i64 (d + 1) = d + 1) (o : Term) (kr : Int × Unit → Option ρ) (k : List (ByteArray × Bool) × Int × (Term × Unit) × Unit → Option ρ) :
    ∀ (l : List Term) (i : Int), (∀ x ∈ l, self (x, b, d + 1, ()) = some (tchk b x (d + 1), ())) → foldK (F_q80z_s1 self n kr) k i l (b, d, (o, ()), ()) = bif tchks b l (d + 1) != 0 then kr (tchks b l (d + 1), ()) else k (b, d, (o, ()), ())
  | [], _, _ => rfl
  | x :: r, i, h => by
    rw [foldK]
    have ih := tcheck_loop self n b d hd o kr k r (i + 1) fun y hy => h y (by simp [hy])
    generalize foldK (F_q80z_s1 self n kr) k (i + 1) r = R at ih
    unfold F_q80z_s1
    dsimp only
    rw [Term.eta2, Term.eta2, hd, h x (by simp), Option.bind_some, tchks]
    dsimp only
    cases hc : tchk b x (d + 1) != 0 with
    | true => rw [cond_true, cond_true, hc]; rfl
    | false => rw [cond_false, cond_false]; exact ih
theorem hd_ix {l : List Term} (h : ((l.length : Int) != 1) = false) : ix l 0 = some (hdT l) ∧ l = [hdT l] := by
  have : l.length = 1 := by simp at h; omega
  match l, this with
  | [x], _ => exact ⟨rfl, rfl⟩
theorem ar1_hd {s : ByteArray} {l : List Term} {b : Bool} (h : (((!(arN s).2) || b) || (decide ((arN s).1 ≥ 0) && ((l.length : Int) != (arN s).1))) = false) (h1 : (arN s).1 = 1) : ix l 0 = some (hdT l) ∧ l = [hdT l] := by
  rw [Bool.or_eq_false_iff, h1] at h
  exact hd_ix h.2
theorem tcheck_ok (b : List (ByteArray × Bool)) (t : Term) : ∀ (d : Int) (n : Nat), 1 ≤ d → d ≤ 7 → 300 ≤ n + d.toNat → q80z n (t, b, d, ()) = some (tchk b t d, ()) := by
  induction t using term_ind with
  | _ k v s a ih =>
    intro d n h1 h7 hn
    obtain ⟨m, rfl⟩ : ∃ m, n = m + 1 := ⟨n - 1, by omega⟩
    rw [q80z, tchk]
    unfold q80z_b
    dsimp +instances only [tk_mk, tv_mk, tn_mk, ta_mk]
    cases hd : decide (d > 6) with
    | true => rfl
    | false =>
      have h6 := of_decide_eq_false hd
      have hw : IntKind.wrap .i64 (d + 1) = d + 1 := wrap64 (by omega) (by omega)
      have hs : ∀ x ∈ a, q80z m (x, b, d + 1, ()) = some (tchk b x (d + 1), ()) := fun x hx => ih x hx (d + 1) m (by omega) (by omega) (by omega)
      rw [show (((((v.kind : Int) == 0) && ((v.n : Int) == 0)) && (seq v.s (⟨#[]⟩ : ByteArray))) && (((v.l.length : Int) : Int) == 0)) = zrB v from rfl]
      cases h1 : k == 1 with
      | true =>
        cases (!(seq s ⟨#[]⟩)) || decide ((a.length : Int) > 0) with
        | true => rfl
        | false =>
          cases v.kind == 4 with
          | true => rfl
          | false =>
            simp only [cond_true, cond_false]
            rw [Val.eta, Check_ok v m (by omega), Option.bind_some]
      | false =>
        cases h2 : k == 2 with
        | true =>
          cases (!zrB v) || decide ((a.length : Int) > 0) with
          | true => rfl
          | false =>
            simp only [cond_true, cond_false]
            rw [name_ok s m (by omega), Option.bind_some]
            cases !nameB s with
            | true => rfl
            | false => cases !mpHas .str .bool b s <;> rfl
        | false =>
          cases h3 : k == 3 with
          | true =>
            cases hz : (!zrB v) || ((a.length : Int) != 1) with
            | true => rfl
            | false =>
              rw [Bool.or_eq_false_iff] at hz
              obtain ⟨e1, e2⟩ := hd_ix hz.2
              simp only [cond_true, cond_false]
              rw [e1, Option.bind_some]
              cases (hdT a).kind != 2 with
              | true => rfl
              | false =>
                simp only [cond_true, cond_false]
                rw [q77z_ok s m (by omega), Option.bind_some]
                cases !nmB s with
                | true => rfl
                | false =>
                  simp only [cond_false]
                  rw [Option.bind_some, Term.eta2, hw, hs (hdT a) (by rw [e2]; simp [hdT]), Option.bind_some]
                  have : tchks b a (d + 1) = tchk b (hdT a) (d + 1) := by
                    conv => lhs; rw [e2]
                    rw [tchks, tchks]
                    cases hc : tchk b (hdT a) (d + 1) != 0 with
                    | true => rfl
                    | false =>
                      have h0 : tchk b (hdT a) (d + 1) = 0 := by simpa using hc
                      exact h0.symm
                  rw [this]
          | false =>
            cases h4 : k == 4 with
            | false => rfl
            | true =>
              simp only [cond_true, cond_false]
              rw [arity_ok, Option.bind_some]
              dsimp only
              cases hz : ((!(arN s).2) || !zrB v) || (decide ((arN s).1 ≥ 0) && ((a.length : Int) != (arN s).1)) with
              | true => rfl
              | false =>
                cases h30 : decide ((a.length : Int) > 30) with
                | true => rfl
                | false =>
                  have hl := of_decide_eq_false h30
                  simp only [cond_false]
                  rw [R_q80z_s1 _ m _ _ a m _ _ _ (by omega) (by omega), tcheck_loop _ m b d hw _ _ _ a 0 hs]
                  cases hc : tchks b a (d + 1) != 0 with
                  | true => rfl
                  | false =>
                    simp only [cond_false]
                    dsimp +instances only [tk_mk, tv_mk, tn_mk, ta_mk]
                    unfold lstB
                    cases hid : seq s ⟨#[105, 100]⟩ with
                    | true =>
                      have har : (arN s).1 = 1 := by rw [(seq_iff _ _).1 hid]; kernel_rfl
                      obtain ⟨e1, e2⟩ := ar1_hd hz har
                      have hty : seq s (⟨#[116, 121, 112, 101]⟩ : ByteArray) = false := by rw [(seq_iff _ _).1 hid]; kernel_rfl
                      simp only [cond_true]
                      rw [e1, Option.bind_some, hty]
                      cases (hdT a).kind != 2 <;> rfl
                    | false =>
                      simp only [cond_false]
                      cases hty : seq s (⟨#[116, 121, 112, 101]⟩ : ByteArray) with
                      | false => rfl
                      | true =>
                        have har : (arN s).1 = 1 := by rw [(seq_iff _ _).1 hty]; kernel_rfl
                        obtain ⟨e1, e2⟩ := ar1_hd hz har
                        simp only [cond_true]
                        rw [e1, Option.bind_some]
                        cases (hdT a).kind != 2 with
                        | true => rfl
                        | false =>
                          simp only [cond_false]
                          rw [Option.bind_some]
                          cases !mpGet .str .bool false b (hdT a).name <;> rfl
theorem tCheck_ok (b : List (ByteArray × Bool)) (t : Term) (n : Nat) (hn : 300 ≤ n) : q78z n (t, b, ()) = some (tchk b t 1, ()) := by
  unfold q78z
  dsimp only
  rw [Term.eta2, tcheck_ok b t 1 n (by omega) (by omega) (by omega)]
  rfl
end Pure
/- Terms: what calls come to. No program. -/
namespace Pure
open Esp Ev Go
set_option linter.unusedSimpArgs false
set_option linter.unusedVariables false
/-! ## names are texts that are right -/
theorem valid_ascii : ∀ (n : Nat) (l : List UInt8), (∀ b ∈ l, b.toNat < 128) → Lib.validGoD n l = true
  | 0, l, _ => rfl
  | n + 1, [], _ => rfl
  | n + 1, b :: r, h => by
    have hb := h b (by simp)
    have hd : Lib.decodeL (b :: r) = (b.toNat, 1) := by
      have h0 : (⟨(b :: r).toArray⟩ : ByteArray).get! 0 = b := rfl
      unfold Lib.decodeL Utf8.decode
      simp only [Nat.zero_add, h0]
      rw [if_pos (by omega)]
    have h3 : ¬ ((b.toNat, 1).1 = 65533 ∧ (b.toNat, 1).2 = 1) := fun h => by
      have := h.1
      dsimp only at this
      omega
    rw [Lib.validGoD, if_neg (List.cons_ne_nil b r), hd, if_neg h3]
    exact valid_ascii n r fun x hx => h x (List.mem_cons_of_mem _ hx)
theorem nmF_ascii : ∀ (l : List UInt8) (i : Int), nmF i (bi l) = true → ∀ b ∈ l, b.toNat < 128
  | [], _, _ => fun b hb => by cases hb
  | c :: r, i, h => by
    rw [bi_cons, nmF] at h
    intro b hb
    cases hc : (!(lttI (c.toNat : Int)) && (((i == 0) || (decide ((c.toNat : Int) < 48))) || (decide ((c.toNat : Int) > 57)))) with
    | true => rw [hc] at h; cases h
    | false =>
      rw [hc] at h
      rcases List.mem_cons.1 hb with rfl | hb
      · unfold lttI at hc
        simp only [Bool.and_eq_false_iff, Bool.not_eq_false', Bool.or_eq_true, Bool.and_eq_true, decide_eq_true_eq, Bool.or_eq_false_iff, decide_eq_false_iff_not, beq_iff_eq] at hc
        omega
      · exact nmF_ascii r (i + 1) h b hb
theorem nm_valid {s : ByteArray} (h : nmB s = true) : validS s = true ∧ s.size ≤ 12 := by
  unfold nmB at h
  cases hc : (seq s ⟨#[]⟩) || (decide ((s.size : Int) > 12)) with
  | true => rw [hc] at h; cases h
  | false =>
    rw [hc] at h
    rw [Bool.or_eq_false_iff] at hc
    have h12 := of_decide_eq_false hc.2
    exact ⟨valid_ascii _ _ (nmF_ascii _ _ h), by omega⟩
/-! ## truths -/
def stV (v : Val) : Int := bif v.kind == 1 then (bif v.n == 1 then 1 else 0) else 2
def ngS (c : Int) : Int := bif c == 2 then 2 else bif c == 1 then 0 else 1
def orS (a b : Int) : Int := bif (a == 1) || (b == 1) then 1 else bif (a == 0) && (b == 0) then 0 else 2
theorem stV_rng (v : Val) : stV v = 0 ∨ stV v = 1 ∨ stV v = 2 := by
  unfold stV
  cases v.kind == 1 <;> cases v.n == 1 <;> simp
theorem ngS_rng {c : Int} : ngS c = 0 ∨ ngS c = 1 ∨ ngS c = 2 := by
  unfold ngS
  cases c == 2 <;> cases c == 1 <;> simp
theorem orS_rng {a b : Int} : orS a b = 0 ∨ orS a b = 1 ∨ orS a b = 2 := by
  unfold orS
  cases (a == 1) || (b == 1) <;> cases (a == 0) && (b == 0) <;> simp
theorem stV_tV {c : Int} (h : c = 0 ∨ c = 1 ∨ c = 2) : stV (tV c) = c := by
  rcases h with rfl | rfl | rfl <;> rfl
theorem truthT_ok (b : Bool) : q82z (b, ()) = some (tV (bif b then 1 else 0), ()) := by cases b <;> rfl
theorem turned_ok (v : Val) : q69z (v, ()) = some (tV (ngS (stV v)), ()) := by
  unfold q69z q81z stV
  dsimp +instances only [kind_mk, n_mk]
  cases v.kind == 1 <;> cases v.n == 1 <;> rfl
theorem either_ok (v w : Val) : q68z (v, w, ()) = some (tV (orS (stV v) (stV w)), ()) := by
  unfold q68z q81z stV
  dsimp +instances only [kind_mk, n_mk]
  cases v.kind == 1 <;> cases v.n == 1 <;> cases w.kind == 1 <;> cases w.n == 1 <;> rfl
theorem tV_r (c : Int) (h : c = 0 ∨ c = 1 ∨ c = 2) : Right (tV c) 1 := tV_right c h 1
def inS (x : Val) : Int → List Val → Int
  | c, [] => c
  | c, y :: r => inS x (orS c (smV x y)) r
theorem inS_rng (x : Val) : ∀ (l : List Val) (c : Int), (c = 0 ∨ c = 1 ∨ c = 2) → inS x c l = 0 ∨ inS x c l = 1 ∨ inS x c l = 2
  | [], c, h => h
  | y :: r, c, _ => inS_rng x r _ orS_rng
def coal : List Val → Val
  | [] => zV
  | x :: r => bif x.kind != 0 then x else coal r
def arg0 (l : List Val) : Val := l.headD zV
def arg1 (l : List Val) : Val := (l.drop 1).headD zV
def callV (g : Graph) (s : ByteArray) (l : List Val) : Val :=
  bif (seq s ⟨#[43]⟩ || seq s ⟨#[45]⟩) || seq s ⟨#[42]⟩ then (bif chk (reckF s (arg0 l) (arg1 l)).1 1 != 0 then zV else (reckF s (arg0 l) (arg1 l)).1)
  else bif seq s ⟨#[61]⟩ then tV (smV (arg0 l) (arg1 l))
  else bif seq s ⟨#[60]⟩ then tV (lsV (arg0 l) (arg1 l))
  else bif seq s ⟨#[60, 61]⟩ then tV (ngS (lsV (arg1 l) (arg0 l)))
  else bif seq s ⟨#[97, 110, 100]⟩ then tV (ngS (orS (ngS (stV (arg0 l))) (ngS (stV (arg1 l)))))
  else bif seq s ⟨#[111, 114]⟩ then tV (orS (stV (arg0 l)) (stV (arg1 l)))
  else bif seq s ⟨#[110, 111, 116]⟩ then tV (ngS (stV (arg0 l)))
  else bif seq s ⟨#[110, 117, 108, 108]⟩ then tV (bif (arg0 l).kind == 0 then 1 else 0)
  else bif seq s ⟨#[105, 110]⟩ then (bif (arg1 l).kind != 4 then zV else tV (inS (arg0 l) 0 (arg1 l).l))
  else bif seq s ⟨#[115, 105, 122, 101]⟩ then (bif (arg0 l).kind == 3 then nV ((runesI (arg0 l).s).length : Int) else bif (arg0 l).kind == 4 then nV ((arg0 l).l.length : Int) else zV)
  else bif seq s ⟨#[104, 101, 97, 100]⟩ then (bif (arg0 l).kind == 4 then (arg0 l).l.headD zV else zV)
  else bif seq s ⟨#[99, 111, 97, 108, 101, 115, 99, 101]⟩ then coal l
  else bif seq s ⟨#[108, 105, 115, 116]⟩ then (bif chk (.mk 4 0 ⟨#[]⟩ l) 1 == 0 then .mk 4 0 ⟨#[]⟩ l else zV)
  else bif seq s ⟨#[105, 100]⟩ then arg0 l
  else bif seq s ⟨#[116, 121, 112, 101]⟩ then (match edgeIn g.edges (arg0 l).n with | some x => .mk 3 0 x.type [] | none => zV)
  else zV
theorem zV_r : Right zV 1 := .null 1
theorem reckF_ok (sg : ByteArray) {a b : Val} (ha : Right a 1) (hb : Right b 1) : vOk (reckF sg a b).1 := by
  have oa := right_ok ha
  have ob := right_ok hb
  have la := right_len ha
  have lb := right_len hb
  have hz : vOk zV := right_ok zV_r
  have hn : ∀ z, vOk (gI z).1 := by
    intro z
    unfold gI
    cases h : inR z with
    | true => exact right_ok (Right.int z 1 h)
    | false => exact hz
  unfold reckF
  cases (seq sg ⟨#[43]⟩ || seq sg ⟨#[45]⟩) || seq sg ⟨#[42]⟩ with
  | false => exact hz
  | true =>
    cases (a.kind == 0) || (b.kind == 0) with
    | true => exact hz
    | false =>
      cases (a.kind == 2) && (b.kind == 2) with
      | true => exact hn _
      | false =>
        cases (seq sg ⟨#[43]⟩ && (a.kind == 3)) && (b.kind == 3) with
        | true =>
          cases decide (((a.s.size + b.s.size : Nat) : Int) > 4000) with
          | true => exact hz
          | false =>
            simp only [cond_true, cond_false]
            rw [vOk, vOks_iff]
            exact ⟨by unfold wfI; decide, by unfold wfI; decide, by rw [ByteArray.size_append]; unfold maxLen; omega, Nat.zero_le _, fun x hx => by cases hx⟩
        | false =>
          cases (seq sg ⟨#[43]⟩ && (a.kind == 4)) && (b.kind == 4) with
          | true =>
            cases decide (((a.l.length + b.l.length : Nat) : Int) > 30) with
            | true => exact hz
            | false =>
              simp only [cond_true, cond_false]
              rw [vOk, vOks_iff]
              refine ⟨by unfold wfI; decide, by unfold wfI; decide, Nat.zero_le _, by rw [List.length_append]; unfold maxLen; omega, fun y hy => ?_⟩
              rcases List.mem_append.1 hy with hy | hy
              · exact right_ok (right_sub ha y hy)
              · exact right_ok (right_sub hb y hy)
          | false => exact hz
theorem runesF_len (s : ByteArray) : ∀ (n i : Nat), (runesF s n i).length ≤ n
  | 0, _ => by simp [runesF]
  | n + 1, i => by
    rw [runesF]
    split
    · simpa using runesF_len s n _
    · simp
theorem callV_right (g : Graph) (s : ByteArray) (l : List Val) (hl : ∀ x ∈ l, Right x 1) (h30 : l.length ≤ 30) (hg : ∀ x ∈ g.edges, nmB x.type = true) : Right (callV g s l) 1 := by
  have h0 : Right (arg0 l) 1 := by
    unfold arg0
    cases l with
    | nil => exact zV_r
    | cons x r => exact hl x (by simp)
  have h1 : Right (arg1 l) 1 := by
    unfold arg1
    match l, hl with
    | [], _ => exact zV_r
    | [_], _ => exact zV_r
    | _ :: y :: _, hl => exact hl y (by simp)
  unfold callV
  cases (seq s ⟨#[43]⟩ || seq s ⟨#[45]⟩) || seq s ⟨#[42]⟩ with
  | true =>
    simp only [cond_true]
    cases hc : chk (reckF s (arg0 l) (arg1 l)).1 1 != 0 with
    | true => exact zV_r
    | false => exact right_of _ 1 (reckF_ok s h0 h1) (by simpa using hc)
  | false =>
  cases seq s ⟨#[61]⟩ with
  | true => exact tV_r _ (smV_rng _ _)
  | false =>
  cases seq s ⟨#[60]⟩ with
  | true => exact tV_r _ (lsV_rng _ _)
  | false =>
  cases seq s ⟨#[60, 61]⟩ with
  | true => exact tV_r _ ngS_rng
  | false =>
  cases seq s ⟨#[97, 110, 100]⟩ with
  | true => exact tV_r _ ngS_rng
  | false =>
  cases seq s ⟨#[111, 114]⟩ with
  | true => exact tV_r _ orS_rng
  | false =>
  cases seq s ⟨#[110, 111, 116]⟩ with
  | true => exact tV_r _ ngS_rng
  | false =>
  cases seq s ⟨#[110, 117, 108, 108]⟩ with
  | true => exact tV_r _ (by cases (arg0 l).kind == 0 <;> simp)
  | false =>
  cases seq s ⟨#[105, 110]⟩ with
  | true =>
    simp only [cond_true, cond_false]
    cases (arg1 l).kind != 4 with
    | true => exact zV_r
    | false => exact tV_r _ (inS_rng _ _ _ (.inl rfl))
  | false =>
  cases seq s ⟨#[115, 105, 122, 101]⟩ with
  | true =>
    have l0 := right_len h0
    have hr : (runesI (arg0 l).s).length ≤ 4000 := Nat.le_trans (runesF_len _ _ _) l0.2
    have hn : ∀ k : Nat, k ≤ 4000 → Right (nV (k : Int)) 1 := fun k hk => .int _ 1 (by
      have h : inR (k : Int) = true := by unfold inR; rw [Bool.and_eq_true, decide_eq_true_eq, decide_eq_true_eq]; omega
      exact h)
    simp only [cond_true, cond_false]
    cases (arg0 l).kind == 3 with
    | true => exact hn _ hr
    | false =>
      cases (arg0 l).kind == 4 with
      | true => exact hn _ (by omega)
      | false => exact zV_r
  | false =>
  cases seq s ⟨#[104, 101, 97, 100]⟩ with
  | true =>
    simp only [cond_true, cond_false]
    cases (arg0 l).kind == 4 with
    | false => exact zV_r
    | true =>
      have hs := right_sub h0
      cases hl0 : (arg0 l).l with
      | nil => exact zV_r
      | cons x r => exact right_mono (hs x (by rw [hl0]; simp)) 1 (by omega)
  | false =>
  cases seq s ⟨#[99, 111, 97, 108, 101, 115, 99, 101]⟩ with
  | true =>
    simp only [cond_true, cond_false]
    clear h0 h1 h30
    induction l with
    | nil => exact zV_r
    | cons x r ih =>
      rw [coal]
      cases x.kind != 0 with
      | true => exact hl x (by simp)
      | false => exact ih fun y hy => hl y (by simp [hy])
  | false =>
  cases seq s ⟨#[108, 105, 115, 116]⟩ with
  | true =>
    simp only [cond_true, cond_false]
    cases hc : chk (.mk 4 0 ⟨#[]⟩ l) 1 == 0 with
    | false => exact zV_r
    | true =>
      simp only [cond_true]
      refine right_of _ 1 ?_ (by simpa using hc)
      rw [vOk, vOks_iff]
      exact ⟨by unfold wfI; decide, by unfold wfI; decide, Nat.zero_le _, by unfold maxLen; omega, fun x hx => right_ok (hl x hx)⟩
  | false =>
  cases seq s ⟨#[105, 100]⟩ with
  | true => exact h0
  | false =>
  cases seq s ⟨#[116, 121, 112, 101]⟩ with
  | true =>
    simp only [cond_true, cond_false]
    cases he : edgeIn g.edges (arg0 l).n with
    | none => exact zV_r
    | some x =>
      have hm := hg x (edgeIn_mem he)
      have := nm_valid hm
      exact .text _ 1 (by omega) this.1
  | false => exact zV_r
end Pure
/- Terms: calls, by the program. No program. -/
namespace Pure
open Esp Ev Go
set_option linter.unusedSimpArgs false
set_option linter.unusedVariables false
theorem ar2 {l : List Val} (h : l.length = 2) : ix l 0 = some (arg0 l) ∧ ix l 1 = some (arg1 l) ∧ arg0 l ∈ l ∧ arg1 l ∈ l := by
  match l, h with
  | [x, y], _ => exact ⟨rfl, rfl, by simp [arg0], by simp [arg1]⟩
theorem ar1 {l : List Val} (h : l.length = 1) : ix l 0 = some (arg0 l) ∧ arg0 l ∈ l := by
  match l, h with
  | [x], _ => exact ⟨rfl, by simp [arg0]⟩
def ArOk (s : ByteArray) (k : Nat) : Prop := (arN s).2 = true ∧ ((arN s).1 ≥ 0 → (k : Int) = (arN s).1)
theorem ArOk.two {s : ByteArray} {k : Nat} (h : ArOk s k) (h2 : arN s = (2, true)) : k = 2 := by
  have := h.2 (by rw [h2]; decide)
  rw [h2] at this
  simp at this
  omega
theorem ArOk.one {s : ByteArray} {k : Nat} (h : ArOk s k) (h2 : arN s = (1, true)) : k = 1 := by
  have := h.2 (by rw [h2]; decide)
  rw [h2] at this
  simp at this
  omega
theorem in_loop {ρ : Type} (n : Nat) (kr : Unit → Option ρ) (k : List Val × (Val × Unit) × (Val × Unit) × Unit → Option ρ) (args : List Val) (x : Val) (h0 : ix args 0 = some x) (hx : vOk x) (hn : vSz x + 7 ≤ n) (o : Val) :
    ∀ (l : List Val) (i : Int) (c : Int), (c = 0 ∨ c = 1 ∨ c = 2) → foldK (F_q61z_s1 n kr) k i l (args, (o, ()), (tV c, ()), ()) = k (args, (o, ()), (tV (inS x c l), ()), ())
  | [], _, _, _ => rfl
  | y :: r, i, c, hc => by
    rw [foldK]
    have ih := in_loop n kr k args x h0 hx hn o r (i + 1) (orS c (smV x y)) orS_rng
    generalize foldK (F_q61z_s1 n kr) k (i + 1) r = R at ih
    unfold F_q61z_s1
    dsimp only
    rw [h0, Option.bind_some]
    rw [Val.eta, Val.eta, Val.eta, Val.eta, sameV_ok x y n hx hn, Option.bind_some]
    dsimp only
    rw [Val.eta, either_ok, Option.bind_some, stV_tV hc, stV_tV (smV_rng x y)]
    dsimp only
    rw [Val.eta]
    exact ih
theorem coal_loop (n : Nat) (k : (Val × Unit) × Unit → Option (Val × Unit)) (o : Val) (hk : k ((o, ()), ()) = some (zV, ())) :
    ∀ (l : List Val) (i : Int), foldK (F_q61z_s4 n (fun (o81, _) => some ((Ev.Val.mk o81.1.kind o81.1.n o81.1.s o81.1.l), ()))) k i l ((o, ()), ()) = some (coal l, ())
  | [], _ => hk
  | y :: r, i => by
    rw [foldK]
    have ih := coal_loop n k o hk r (i + 1)
    generalize foldK (F_q61z_s4 n (fun (o81, _) => some ((Ev.Val.mk o81.1.kind o81.1.n o81.1.s o81.1.l), ()))) k (i + 1) r = R at ih
    unfold F_q61z_s4
    dsimp only
    rw [coal]
    cases y.kind != 0 with
    | true =>
      simp only [cond_true]
      rw [Val.eta, Val.eta]
    | false =>
      simp only [cond_false]
      rw [Val.eta]
      exact ih
theorem call_ok (g : Graph) (at_ : List (ByteArray × Int)) (t : Term) (l : List Val) (n : Nat) (hl : ∀ x ∈ l, Right x 1) (h30 : l.length ≤ 30) (har : ArOk t.name l.length) (hr : Rise Edg.id g.edges) (h60 : g.edges.length ≤ 60)
    (hn : lSz l + 1000 ≤ n) : q61z n (⟨g, at_⟩, t, l, ()) = some (callV g t.name l, ()) := by
  obtain ⟨k0, v0, s, a0⟩ := t
  rw [tn_mk] at har ⊢
  have sz : ∀ x ∈ l, vSz x + 900 ≤ n := fun x hx => by have := lSz_mem hx; omega
  unfold q61z callV
  dsimp +instances only [tn_mk]
  have reck : arN s = (2, true) → ((ix l 0).bind fun x7 => (ix l 1).bind fun x8 => (q65z n (s, (Ev.Val.mk x7.kind x7.n x7.s x7.l), (Ev.Val.mk x8.kind x8.n x8.s x8.l), ())).bind fun (y9, y10, _) => (q70z n ((Ev.Val.mk y9.kind y9.n y9.s y9.l), ())).bind fun (y11, _) =>
      (bif (y11 : Int) != 0 then some ((Ev.Val.mk 0 0 (⟨#[]⟩ : ByteArray) ([] : List Ev.Val)), ()) else some ((Ev.Val.mk y9.kind y9.n y9.s y9.l), ()))) = some (bif chk (reckF s (arg0 l) (arg1 l)).1 1 != 0 then zV else (reckF s (arg0 l) (arg1 l)).1, ()) := by
    intro h2
    obtain ⟨e0, e1, m0, m1⟩ := ar2 (har.two h2)
    rw [e0, Option.bind_some, e1, Option.bind_some, Val.eta, Val.eta, reckR_ok s (hl _ m0) (hl _ m1) n (by omega), Option.bind_some]
    dsimp only
    rw [Val.eta, Check_ok _ n (by omega), Option.bind_some]
    dsimp only
    cases chk (reckF s (arg0 l) (arg1 l)).1 1 != 0 <;> rfl
  cases h1 : seq s ⟨#[43]⟩ with
  | true =>
    simp only [cond_true, Bool.true_or]
    exact reck (by rw [(seq_iff _ _).1 h1]; kernel_rfl)
  | false =>
  cases h2 : seq s ⟨#[45]⟩ with
  | true =>
    simp only [cond_true, cond_false, Bool.true_or, Bool.false_or]
    exact reck (by rw [(seq_iff _ _).1 h2]; kernel_rfl)
  | false =>
  cases h3 : seq s ⟨#[42]⟩ with
  | true =>
    simp only [cond_true, cond_false, Bool.true_or, Bool.false_or]
    exact reck (by rw [(seq_iff _ _).1 h3]; kernel_rfl)
  | false =>
  simp only [cond_false, Bool.false_or]
  cases h4 : seq s ⟨#[61]⟩ with
  | true =>
    simp only [cond_true]
    obtain ⟨e0, e1, m0, m1⟩ := ar2 (har.two (by rw [(seq_iff _ _).1 h4]; kernel_rfl))
    rw [e0, Option.bind_some, e1, Option.bind_some, Val.eta, Val.eta, sameV_ok _ _ n (right_ok (hl _ m0)) (by have := sz _ m0; omega), Option.bind_some]
    dsimp only
    rw [Val.eta]
  | false =>
  cases h5 : seq s ⟨#[60]⟩ with
  | true =>
    simp only [cond_true, cond_false]
    obtain ⟨e0, e1, m0, m1⟩ := ar2 (har.two (by rw [(seq_iff _ _).1 h5]; kernel_rfl))
    rw [e0, Option.bind_some, e1, Option.bind_some, Val.eta, Val.eta, less_ok _ _ n (right_ok (hl _ m0)) (by have := sz _ m0; omega), Option.bind_some]
    dsimp only
    rw [Val.eta]
  | false =>
  cases h6 : seq s ⟨#[60, 61]⟩ with
  | true =>
    simp only [cond_true, cond_false]
    obtain ⟨e0, e1, m0, m1⟩ := ar2 (har.two (by rw [(seq_iff _ _).1 h6]; kernel_rfl))
    rw [e1, Option.bind_some, e0, Option.bind_some, Val.eta, Val.eta, less_ok _ _ n (right_ok (hl _ m1)) (by have := sz _ m1; omega), Option.bind_some]
    dsimp only
    rw [Val.eta, turned_ok, Option.bind_some, stV_tV (lsV_rng _ _)]
    dsimp only
    rw [Val.eta]
  | false =>
  cases h7 : seq s ⟨#[97, 110, 100]⟩ with
  | true =>
    simp only [cond_true, cond_false]
    obtain ⟨e0, e1, m0, m1⟩ := ar2 (har.two (by rw [(seq_iff _ _).1 h7]; kernel_rfl))
    rw [e0, Option.bind_some, Val.eta, turned_ok, Option.bind_some, e1, Option.bind_some, Val.eta, turned_ok, Option.bind_some]
    dsimp only
    rw [Val.eta, Val.eta, either_ok, Option.bind_some, stV_tV ngS_rng, stV_tV ngS_rng]
    dsimp only
    rw [Val.eta, turned_ok, Option.bind_some, stV_tV orS_rng]
    dsimp only
    rw [Val.eta]
  | false =>
  cases h8 : seq s ⟨#[111, 114]⟩ with
  | true =>
    simp only [cond_true, cond_false]
    obtain ⟨e0, e1, m0, m1⟩ := ar2 (har.two (by rw [(seq_iff _ _).1 h8]; kernel_rfl))
    rw [e0, Option.bind_some, e1, Option.bind_some, Val.eta, Val.eta, either_ok, Option.bind_some]
    dsimp only
    rw [Val.eta]
  | false =>
  cases h9 : seq s ⟨#[110, 111, 116]⟩ with
  | true =>
    simp only [cond_true, cond_false]
    obtain ⟨e0, m0⟩ := ar1 (har.one (by rw [(seq_iff _ _).1 h9]; kernel_rfl))
    rw [e0, Option.bind_some, Val.eta, turned_ok, Option.bind_some]
    dsimp only
    rw [Val.eta]
  | false =>
  cases h10 : seq s ⟨#[110, 117, 108, 108]⟩ with
  | true =>
    simp only [cond_true, cond_false]
    obtain ⟨e0, m0⟩ := ar1 (har.one (by rw [(seq_iff _ _).1 h10]; kernel_rfl))
    rw [e0, Option.bind_some, truthT_ok, Option.bind_some]
    dsimp only
    rw [Val.eta]
  | false =>
  cases h11 : seq s ⟨#[105, 110]⟩ with
  | true =>
    simp only [cond_true, cond_false]
    obtain ⟨e0, e1, m0, m1⟩ := ar2 (har.two (by rw [(seq_iff _ _).1 h11]; kernel_rfl))
    have l1 := (right_len (hl _ m1)).1
    rw [e1, Option.bind_some]
    cases (arg1 l).kind != 4 with
    | true => rfl
    | false =>
      simp only [cond_false]
      rw [truthT_ok, Option.bind_some, Option.bind_some]
      dsimp only
      rw [R_q61z_s1 n _ _ _ n _ _ _ (by omega) (by omega)]
      have := in_loop n (fun (_ : Unit) => (none : Option (Val × Unit))) (fun (v53, o57, o58, _) => some ((Ev.Val.mk o58.1.kind o58.1.n o58.1.s o58.1.l), ())) l (arg0 l) e0 (right_ok (hl _ m0)) (by have := sz _ m0; omega) (.mk 0 0 ⟨#[]⟩ []) (arg1 l).l 0 0 (.inl rfl)
      refine this.trans ?_
      dsimp only
      rw [Val.eta]
  | false =>
  cases h12 : seq s ⟨#[115, 105, 122, 101]⟩ with
  | true =>
    simp only [cond_true, cond_false]
    obtain ⟨e0, m0⟩ := ar1 (har.one (by rw [(seq_iff _ _).1 h12]; kernel_rfl))
    rw [e0, Option.bind_some]
    cases (arg0 l).kind == 3 with
    | true => rfl
    | false => cases (arg0 l).kind == 4 <;> rfl
  | false =>
  cases h13 : seq s ⟨#[104, 101, 97, 100]⟩ with
  | true =>
    simp only [cond_true, cond_false]
    obtain ⟨e0, m0⟩ := ar1 (har.one (by rw [(seq_iff _ _).1 h13]; kernel_rfl))
    rw [e0, Option.bind_some]
    cases (arg0 l).kind == 4 with
    | false => rfl
    | true =>
      simp only [cond_true]
      rw [Option.bind_some]
      cases hll : (arg0 l).l with
      | nil => rfl
      | cons x r =>
        have : decide (((x :: r).length : Int) > 0) = true := by simp
        rw [this]
        simp only [cond_true]
        rw [Option.bind_some, hll]
        show some (Val.mk x.kind x.n x.s x.l, ()) = some (x, ())
        rw [Val.eta]
  | false =>
  cases h14 : seq s ⟨#[99, 111, 97, 108, 101, 115, 99, 101]⟩ with
  | true =>
    simp only [cond_true, cond_false]
    rw [R_q61z_s4 n _ _ l n _ (by omega) (by omega)]
    exact coal_loop n _ _ rfl l 0
  | false =>
  cases h15 : seq s ⟨#[108, 105, 115, 116]⟩ with
  | true =>
    simp only [cond_true, cond_false]
    rw [Check_ok _ n (by omega), Option.bind_some]
    dsimp only
    cases chk (.mk 4 0 ⟨#[]⟩ l) 1 == 0 <;> rfl
  | false =>
  cases h16 : seq s ⟨#[105, 100]⟩ with
  | true =>
    simp only [cond_true, cond_false]
    obtain ⟨e0, m0⟩ := ar1 (har.one (by rw [(seq_iff _ _).1 h16]; kernel_rfl))
    rw [e0, Option.bind_some, Val.eta]
  | false =>
  cases h17 : seq s ⟨#[116, 121, 112, 101]⟩ with
  | true =>
    simp only [cond_true, cond_false]
    obtain ⟨e0, m0⟩ := ar1 (har.one (by rw [(seq_iff _ _).1 h17]; kernel_rfl))
    rw [e0, Option.bind_some]
    obtain ⟨k, hk, hf⟩ := findE_ok g (arg0 l).n n hr h60 (by omega)
    rw [show (Graph.mk g.nodes g.edges g.next) = g from rfl, hk, Option.bind_some]
    dsimp only
    rw [hf.ge]
    rcases hf with ⟨_, hnn⟩ | ⟨_, x, hx, hs⟩
    · rw [hnn]; rfl
    · rw [hs, hx]; rfl
  | false => rfl
end Pure
/- Terms: what they come to, by the program. No program. -/
namespace Pure
open Esp Ev Go
set_option linter.unusedSimpArgs false
set_option linter.unusedVariables false
def fldV (g : Graph) (id : Int) (s : ByteArray) : Val :=
  match nodeIn g.nodes id with
  | some x => propIn x.props s
  | none => match edgeIn g.edges id with
    | some x => propIn x.props s
    | none => zV
mutual
noncomputable def tval (g : Graph) (at_ : List (ByteArray × Int)) : Term → Val
  | .mk k v s a => bif k == 1 then v else bif k == 2 then .mk 2 (mpGet .str .i64 0 at_ s) ⟨#[]⟩ [] else bif k == 3 then fldV g (mpGet .str .i64 0 at_ (hdT a).name) s else callV g s (tvals g at_ a)
noncomputable def tvals (g : Graph) (at_ : List (ByteArray × Int)) : List Term → List Val
  | [] => []
  | x :: r => tval g at_ x :: tvals g at_ r
end
theorem tvals_map (g : Graph) (at_ : List (ByteArray × Int)) : ∀ l : List Term, tvals g at_ l = l.map (tval g at_)
  | [] => rfl
  | x :: r => by rw [tvals, tvals_map g at_ r]; rfl
structure GOk (g : Graph) : Prop where
  ok : gOk g
  cg : chkG g = 0
theorem GOk.riseN {g : Graph} (h : GOk g) : Rise Ev.Node.id g.nodes ∧ g.nodes.length ≤ 40 := ⟨(nodF_rise (chkG_0 h.cg).2.2.1).2.1, (chkG_0 h.cg).1⟩
theorem GOk.riseE {g : Graph} (h : GOk g) : Rise Edg.id g.edges ∧ g.edges.length ≤ 60 := ⟨(edgF_rise (chkG_0 h.cg).2.2.2).2.1, (chkG_0 h.cg).2.1⟩
theorem edgF_type {nodes : List Ev.Node} : ∀ {l : List Edg} {last : Int}, edgF nodes last l = 0 → ∀ x ∈ l, nmB x.type = true
  | [], _, _ => fun x hx => (by cases hx)
  | y :: r, last, h => by
    rw [edgF] at h
    cases h1 : decide (y.id ≤ last) with
    | true => rw [h1] at h; cases h
    | false =>
    rw [h1, cond_false] at h
    cases h2 : (nodeIn nodes y.id).isSome with
    | true => rw [h2] at h; cases h
    | false =>
    rw [h2, cond_false] at h
    cases h3 : nmB y.type with
    | false => rw [h3] at h; cases h
    | true =>
    rw [h3, Bool.not_true, cond_false] at h
    cases h4 : (nodeIn nodes y.src).isNone with
    | true => rw [h4] at h; cases h
    | false =>
    rw [h4, cond_false] at h
    cases h5 : (nodeIn nodes y.dst).isNone with
    | true => rw [h5] at h; cases h
    | false =>
    rw [h5, cond_false] at h
    cases h6 : prpE y.props != 0 with
    | true => rw [h6, cond_true] at h; rw [h] at h6; cases h6
    | false =>
    rw [h6, cond_false] at h
    intro x hx
    rcases List.mem_cons.1 hx with rfl | hx
    · exact h3
    · exact edgF_type h x hx
theorem GOk.types {g : Graph} (h : GOk g) : ∀ x ∈ g.edges, nmB x.type = true := edgF_type (chkG_0 h.cg).2.2.2
theorem GOk.propsN {g : Graph} (h : GOk g) {x : Ev.Node} (hx : x ∈ g.nodes) : x.props.length ≤ 6 ∧ (∀ p ∈ x.props, chk p.val 1 = 0) ∧ ∀ p ∈ x.props, vOk p.val :=
  have h1 := prpE_0 (nodF_0 (chkG_0 h.cg).2.2.1 x hx).2
  ⟨h1.1, h1.2, fun p hp => ((h.ok.1.2 x hx).2.2.2 p hp).2⟩
theorem GOk.propsE {g : Graph} (h : GOk g) {x : Edg} (hx : x ∈ g.edges) : x.props.length ≤ 6 ∧ (∀ p ∈ x.props, chk p.val 1 = 0) ∧ ∀ p ∈ x.props, vOk p.val :=
  have h1 := prpE_0 (edgF_0 (chkG_0 h.cg).2.2.2 x hx).1
  ⟨h1.1, h1.2, fun p hp => ((h.ok.2.1.2 x hx).2.2.2.2.2 p hp).2⟩
theorem propIn_right {l : List Prp} (h1 : ∀ p ∈ l, chk p.val 1 = 0) (h2 : ∀ p ∈ l, vOk p.val) (s : ByteArray) : Right (propIn l s) 1 := by
  rcases propIn_mem s l with h | ⟨x, hx, h⟩
  · rw [h]; exact .null 1
  · rw [h]; exact right_of _ 1 (h2 x hx) (h1 x hx)
theorem field_ok {g : Graph} (h : GOk g) (at_ : List (ByteArray × Int)) (i : Int) (s : ByteArray) (n : Nat) (hn : 100 ≤ n) : q57z n (⟨g, at_⟩, i, s, ()) = some (fldV g i s, ()) ∧ Right (fldV g i s) 1 := by
  obtain ⟨k, hk, hf⟩ := find_ok g i n h.riseN.1 h.riseN.2 (by omega)
  obtain ⟨k', hk', hf'⟩ := findE_ok g i n h.riseE.1 h.riseE.2 (by omega)
  unfold q57z fldV
  dsimp only
  rw [show (Graph.mk g.nodes g.edges g.next) = g from rfl, hk, Option.bind_some]
  dsimp only
  rw [hf.ge]
  rcases hf with ⟨_, hnn⟩ | ⟨_, x, hx, hs⟩
  · rw [hnn]
    simp only [Option.isSome_none, cond_false]
    rw [hk', Option.bind_some]
    dsimp only
    rw [hf'.ge]
    rcases hf' with ⟨_, hnn'⟩ | ⟨_, x, hx, hs⟩
    · rw [hnn']; exact ⟨rfl, .null 1⟩
    · have hm := edgeIn_mem hs
      have hp := h.propsE hm
      rw [hs, hx]
      simp only [Option.isSome_some, cond_true, Option.bind_some]
      rw [get_ok x.props s n (by omega) hp.1 hp.2.1, Option.bind_some]
      dsimp only
      rw [Val.eta]
      exact ⟨rfl, propIn_right hp.2.1 hp.2.2 s⟩
  · have hm := nodeIn_mem hs
    have hp := h.propsN hm
    rw [hs, hx]
    simp only [Option.isSome_some, cond_true, Option.bind_some]
    rw [get_ok x.props s n (by omega) hp.1 hp.2.1, Option.bind_some]
    dsimp only
    rw [Val.eta]
    exact ⟨rfl, propIn_right hp.2.1 hp.2.2 s⟩
def atOk (at_ : List (ByteArray × Int)) : Prop := ∀ p ∈ at_, wfI .i64 p.2
theorem mpGet_in (s : ByteArray) : ∀ {at_ : List (ByteArray × Int)}, atOk at_ → wfI .i64 (mpGet .str .i64 0 at_ s)
  | [], _ => by show wfI .i64 0; unfold wfI; decide
  | p :: r, h => by
    rw [mpGet]
    cases keyEq .str s p.1 with
    | true => exact h p (by simp)
    | false => exact mpGet_in s fun q hq => h q (by simp [hq])
theorem tchks_0 {b : List (ByteArray × Bool)} {l : List Term} {d : Int} (h : tchks b l d = 0) : ∀ x ∈ l, tchk b x d = 0 := by
  induction l with
  | nil => intro x hx; cases hx
  | cons y r ih =>
    rw [tchks] at h
    cases hc : tchk b y d != 0
    · rw [hc] at h
      have hc0 : tchk b y d = 0 := by simpa using hc
      intro x hx
      rcases List.mem_cons.1 hx with rfl | hx
      · exact hc0
      · exact ih h x hx
    · rw [hc, cond_true] at h
      rw [h] at hc
      cases hc
inductive TR (b : List (ByteArray × Bool)) : Term → Int → Prop
  | const (v : Val) (s : ByteArray) (a : List Term) (d : Int) : d ≤ 6 → chk v 1 = 0 → TR b (.mk 1 v s a) d
  | var (v : Val) (s : ByteArray) (a : List Term) (d : Int) : d ≤ 6 → mpHas .str .bool b s = true → TR b (.mk 2 v s a) d
  | field (v : Val) (s : ByteArray) (a : List Term) (d : Int) : d ≤ 6 → ix a 0 = some (hdT a) → a = [hdT a] → TR b (.mk 3 v s a) d
  | call (v : Val) (s : ByteArray) (a : List Term) (d : Int) : d ≤ 6 → ArOk s a.length → a.length ≤ 30 → (∀ x ∈ a, tchk b x (d + 1) = 0) → lstB b s (hdT a) = 0 → zrB v = true → TR b (.mk 4 v s a) d
theorem tr_of {b : List (ByteArray × Bool)} {t : Term} {d : Int} (h : tchk b t d = 0) : TR b t d := by
  obtain ⟨k, v, s, a⟩ := t
  rw [tchk] at h
  cases hd : decide (d > 6) with
  | true => rw [hd] at h; cases h
  | false =>
  have h6 : d ≤ 6 := by have := of_decide_eq_false hd; omega
  rw [hd, cond_false] at h
  cases h1 : k == 1 with
  | true =>
    have : k = 1 := by simpa using h1
    subst this
    rw [h1, cond_true] at h
    cases hz : (!(seq s ⟨#[]⟩)) || decide ((a.length : Int) > 0) with
    | true => rw [hz] at h; cases h
    | false =>
      rw [hz, cond_false] at h
      cases h4 : v.kind == 4 with
      | true => rw [h4] at h; cases h
      | false => rw [h4] at h; exact .const v s a d h6 h
  | false =>
  rw [h1, cond_false] at h
  cases h2 : k == 2 with
  | true =>
    have : k = 2 := by simpa using h2
    subst this
    rw [h2, cond_true] at h
    cases hz : (!zrB v) || decide ((a.length : Int) > 0) with
    | true => rw [hz] at h; cases h
    | false =>
      rw [hz, cond_false] at h
      cases hn : !nameB s with
      | true => rw [hn] at h; cases h
      | false =>
        rw [hn, cond_false] at h
        cases hm : mpHas .str .bool b s with
        | false => rw [hm] at h; cases h
        | true => exact .var v s a d h6 hm
  | false =>
  rw [h2, cond_false] at h
  cases h3 : k == 3 with
  | true =>
    have : k = 3 := by simpa using h3
    subst this
    rw [h3, cond_true] at h
    cases hz : (!zrB v) || ((a.length : Int) != 1) with
    | true => rw [hz] at h; cases h
    | false =>
      rw [Bool.or_eq_false_iff] at hz
      obtain ⟨e1, e2⟩ := hd_ix hz.2
      exact .field v s a d h6 e1 e2
  | false =>
  rw [h3, cond_false] at h
  cases h4 : k == 4 with
  | false => rw [h4] at h; cases h
  | true =>
    have : k = 4 := by simpa using h4
    subst this
    rw [h4, cond_true] at h
    cases hz : ((!(arN s).2) || !zrB v) || (decide ((arN s).1 ≥ 0) && ((a.length : Int) != (arN s).1)) with
    | true => rw [hz] at h; cases h
    | false =>
      rw [hz, cond_false] at h
      cases h30 : decide ((a.length : Int) > 30) with
      | true => rw [h30] at h; cases h
      | false =>
        have hl := of_decide_eq_false h30
        rw [h30, cond_false] at h
        cases hc : tchks b a (d + 1) != 0 with
        | true => rw [hc, cond_true] at h; rw [h] at hc; cases hc
        | false =>
          rw [hc, cond_false] at h
          have hc0 : tchks b a (d + 1) = 0 := by simpa using hc
          rw [Bool.or_eq_false_iff, Bool.or_eq_false_iff] at hz
          refine .call v s a d h6 ⟨by simpa using hz.1.1, fun hge => ?_⟩ (by omega) (tchks_0 hc0) h (by simpa using hz.1.2)
          have h2 := hz.2
          rw [decide_eq_true hge, Bool.true_and] at h2
          simpa using h2
theorem all_N {α : Type} {p : Nat → α → Prop} : ∀ (l : List α), (∀ x ∈ l, ∃ N, ∀ n, N ≤ n → p n x) → ∃ N, ∀ n, N ≤ n → ∀ x ∈ l, p n x
  | [], _ => ⟨0, fun _ _ x hx => by cases hx⟩
  | y :: r, h => by
    obtain ⟨N1, h1⟩ := h y (by simp)
    obtain ⟨N2, h2⟩ := all_N r fun x hx => h x (by simp [hx])
    refine ⟨N1 + N2, fun n hn x hx => ?_⟩
    rcases List.mem_cons.1 hx with rfl | hx
    · exact h1 n (by omega)
    · exact h2 n (by omega) x hx
theorem args_loop {ρ : Type} (self : Envr × Term × Unit → Option (Val × Unit)) (n : Nat) (kr : Unit → Option ρ) (k : (Envr × Unit) × (Term × Unit) × (Val × Unit) × List Val × Unit → Option ρ) (e : Envr) (t : Term) (z : Val) :
    ∀ (l : List Term) (i : Int) (acc : List Val), (∀ x ∈ l, self (e, x, ()) = some (tval e.g e.at_ x, ())) → acc.length + l.length ≤ 30 → foldK (F_q56z_s1 self n kr) k i l ((e, ()), (t, ()), (z, ()), acc, ()) = k ((e, ()), (t, ()), (z, ()), acc ++ tvals e.g e.at_ l, ())
  | [], i, acc, _, _ => by rw [tvals, List.append_nil]; rfl
  | x :: r, i, acc, h, hl => by
    rw [foldK]
    have ih := args_loop self n kr k e t z r (i + 1) (acc ++ [tval e.g e.at_ x]) (fun y hy => h y (by simp [hy])) (by simp at hl ⊢; omega)
    generalize foldK (F_q56z_s1 self n kr) k (i + 1) r = R at ih
    unfold F_q56z_s1
    dsimp only
    rw [Term.eta2, Term.eta2, show (Envr.mk (Graph.mk e.g.nodes e.g.edges e.g.next) e.at_) = e from rfl, h x (by simp), Option.bind_some]
    dsimp only
    rw [Val.eta, Val.eta, ck_ok (roomQ (by simp at hl ⊢; omega) (by omega)), ih, tvals]
    simp
theorem value_ok {g : Graph} (hg : GOk g) {at_ : List (ByteArray × Int)} (ha : atOk at_) (b : List (ByteArray × Bool)) (t : Term) : ∀ d, tOk t → tchk b t d = 0 →
    (∃ N, ∀ n, N ≤ n → q56z n (⟨g, at_⟩, t, ()) = some (tval g at_ t, ())) ∧ Right (tval g at_ t) 1 := by
  induction t using term_ind with
  | _ k v s a ih =>
    intro d ht hc
    rw [tOk, tOks_iff] at ht
    have hr := tr_of hc
    cases hr with
    | const v s a d h6 hv =>
      have hR := right_of v 1 ht.2.1 hv
      refine ⟨⟨101, fun n hn => ?_⟩, by rw [tval]; exact hR⟩
      obtain ⟨m, rfl⟩ : ∃ m, n = m + 1 := ⟨n - 1, by omega⟩
      rw [q56z, tval]
      unfold q56z_b
      dsimp +instances only [tk_mk, tv_mk]
      rw [Val.eta, copy_ok v 1 m (by omega) (by omega) (by simp; omega) hv]
      simp only [Option.bind_some, beq_self_eq_true, cond_true]
      rw [Val.eta]
    | var v s a d h6 hm =>
      refine ⟨⟨101, fun n hn => ?_⟩, by rw [tval]; exact .int _ 1 (mpGet_in s ha)⟩
      obtain ⟨m, rfl⟩ : ∃ m, n = m + 1 := ⟨n - 1, by omega⟩
      rw [q56z, tval]
      rfl
    | field v s a d h6 e1 e2 =>
      refine ⟨⟨201, fun n hn => ?_⟩, by rw [tval]; exact (field_ok hg at_ _ s 100 (by omega)).2⟩
      obtain ⟨m, rfl⟩ : ∃ m, n = m + 1 := ⟨n - 1, by omega⟩
      rw [q56z, tval]
      unfold q56z_b
      dsimp +instances only [tk_mk, tv_mk, tn_mk, ta_mk]
      rw [e1, Option.bind_some, show (Graph.mk g.nodes g.edges g.next) = g from rfl, (field_ok hg at_ _ s m (by omega)).1, Option.bind_some]
      rw [show ((3 : Int) == 1) = false from rfl, show ((3 : Int) == 2) = false from rfl, show ((3 : Int) == 3) = true from rfl]
      simp only [cond_false, cond_true]
      rw [Val.eta]
    | call v s a d h6 har h30 hs _ _ =>
      have hall : ∀ x ∈ a, (∃ N, ∀ n, N ≤ n → q56z n (⟨g, at_⟩, x, ()) = some (tval g at_ x, ())) ∧ Right (tval g at_ x) 1 := fun x hx => ih x hx (d + 1) (ht.2.2.2.2 x hx) (hs x hx)
      have hR : ∀ y ∈ tvals g at_ a, Right y 1 := by
        rw [tvals_map]
        intro y hy
        obtain ⟨x, hx, rfl⟩ := List.mem_map.1 hy
        exact (hall x hx).2
      have hlen : (tvals g at_ a).length = a.length := by rw [tvals_map, List.length_map]
      obtain ⟨N, hN⟩ := all_N a fun x hx => (hall x hx).1
      refine ⟨⟨N + lSz (tvals g at_ a) + 1001, fun n hn => ?_⟩, by rw [tval]; exact callV_right g s _ hR (by omega) hg.types⟩
      obtain ⟨m, rfl⟩ : ∃ m, n = m + 1 := ⟨n - 1, by omega⟩
      rw [q56z, tval]
      unfold q56z_b
      dsimp +instances only [tk_mk, tv_mk, tn_mk, ta_mk]
      rw [show ((4 : Int) == 1) = false from rfl, show ((4 : Int) == 2) = false from rfl, show ((4 : Int) == 3) = false from rfl]
      simp only [cond_false]
      rw [R_q56z_s1 _ m _ _ a m _ _ _ _ (by omega) (by omega)]
      have hlp := args_loop (q56z m) m (fun (_ : Unit) => (none : Option (Val × Unit))) (fun (o17, o18, o19, o20, _) => (q61z m ((Ev.Envr.mk (Ev.Graph.mk o17.1.g.nodes o17.1.g.edges o17.1.g.next) o17.1.at_), (Ev.Term.mk o18.1.kind (Ev.Val.mk o18.1.v.kind o18.1.v.n o18.1.v.s o18.1.v.l) o18.1.name o18.1.a), o20, ())).bind fun (y21, _) => some ((Ev.Val.mk y21.kind y21.n y21.s y21.l), ()))
        ⟨g, at_⟩ (.mk 4 v s a) (.mk 0 0 ⟨#[]⟩ []) a 0 [] (fun x hx => hN m (by omega) x hx) (by simpa using h30)
      rw [Val.eta]
      refine hlp.trans ?_
      dsimp only
      rw [Term.eta2, List.nil_append, call_ok g at_ (.mk 4 v s a) _ m hR (by omega) (by rw [hlen]; exact har) hg.riseE.1 hg.riseE.2 (by omega), Option.bind_some]
      dsimp only
      rw [Val.eta]
      rfl
end Pure
/- Terms: Eval in closed form. No program. -/
namespace Pure
open Esp Ev Go
set_option linter.unusedSimpArgs false
set_option linter.unusedVariables false
theorem mp_idx {kt vt : Ev.Ty} (k : kt.den) (y x : vt.den) : ∀ l : List (kt.den × vt.den), keyEq kt k k = true →
    (mpPut kt vt l k y)[mpIdx kt vt l k]? = some (k, y) ∧ (mpPut kt vt l k y).set (mpIdx kt vt l k) (k, x) = mpPut kt vt l k x
  | [], hk => ⟨rfl, rfl⟩
  | p :: r, hk => by
    rw [mpPut, mpPut, mpIdx]
    cases keyEq kt k p.1 with
    | true => exact ⟨rfl, rfl⟩
    | false =>
      obtain ⟨h1, h2⟩ := mp_idx k y x r hk
      exact ⟨h1, congrArg (p :: ·) h2⟩
theorem mp_setAt {kt vt : Ev.Ty} (k : kt.den) (y x : vt.den) (l : List (kt.den × vt.den)) (hk : keyEq kt k k = true) : mpSetAt kt vt (mpPut kt vt l k y) ((mpIdx kt vt l k : Nat) : Int) x = some (mpPut kt vt l k x) := by
  obtain ⟨h1, h2⟩ := mp_idx k y x l hk
  unfold mpSetAt
  rw [if_pos (by omega), Int.toNat_natCast, h1]
  show some _ = _
  rw [h2]
theorem keyS (s : ByteArray) : keyEq .str s s = true := by
  show (s == s) = true
  show (s.data == s.data) = true
  simp
def envF (g : Graph) : List (ByteArray × Int) → List (ByteArray × Bool) → List (ByteArray × Int) → Int × List (ByteArray × Bool) × List (ByteArray × Int)
  | [], b, a => (0, b, a)
  | p :: r, b, a => bif mpHas .str .bool b p.1 then (7, b, a) else bif (nodeIn g.nodes p.2).isNone && (edgeIn g.edges p.2).isNone then (5, b, a)
    else envF g r (mpPut .str .bool b p.1 (edgeIn g.edges p.2).isSome) (mpPut .str .i64 a p.1 p.2)
theorem env_loop {ρ : Type} {g : Graph} (hg : GOk g) (n : Nat) (hn : 100 ≤ n) (kr : Int × (Val × Unit) × Unit → Option ρ) (k : List Int × (Graph × Unit) × (Term × Unit) × (Val × Unit) × List (ByteArray × Bool) × List (ByteArray × Int) × Unit → Option ρ) (ids : List Int) (t : Term) (z : Val) :
    ∀ (names : List ByteArray) (q ids' : List Int) (b : List (ByteArray × Bool)) (a : List (ByteArray × Int)) (j : Int), j = (q.length : Int) → ids = q ++ ids' → names.length = ids'.length →
      foldK (F_term_Eval_s0 n kr) k j names (ids, (g, ()), (t, ()), (z, ()), b, a, ()) =
        bif (envF g (names.zip ids') b a).1 != 0 then kr ((envF g (names.zip ids') b a).1, (zV, ()), ()) else k (ids, (g, ()), (t, ()), (z, ()), (envF g (names.zip ids') b a).2.1, (envF g (names.zip ids') b a).2.2, ())
  | [], q, [], b, a, _, _, _, _ => rfl
  | [], _, _ :: _, _, _, _, _, _, h => by simp at h
  | _ :: _, _, [], _, _, _, _, _, h => by simp at h
  | s :: r, q, i :: ids', b, a, j, hj, hq, h => by
    subst hj
    rw [foldK]
    have ih := env_loop hg n hn kr k ids t z r (q ++ [i]) ids' (mpPut .str .bool b s (edgeIn g.edges i).isSome) (mpPut .str .i64 a s i) ((q.length : Int) + 1) (by simp) (by simp [hq]) (by simpa using h)
    generalize foldK (F_term_Eval_s0 n kr) k ((q.length : Int) + 1) r = R at ih
    unfold F_term_Eval_s0
    dsimp only
    rw [List.zip_cons_cons, envF]
    dsimp only
    obtain ⟨k1, hk1, hf1⟩ := find_ok g i n hg.riseN.1 hg.riseN.2 (by omega)
    obtain ⟨k2, hk2, hf2⟩ := findE_ok g i n hg.riseE.1 hg.riseE.2 (by omega)
    have hix : ix ids (q.length : Int) = some i := ix_ok (by rw [hq]; simp)
    cases mpHas .str .bool b s with
    | true => rfl
    | false =>
      simp only [cond_false]
      rw [hix, Option.bind_some, show (Graph.mk g.nodes g.edges g.next) = g from rfl, hk1, Option.bind_some, Option.bind_some, hk2, Option.bind_some]
      dsimp only
      rw [hf1.lt, hf2.lt]
      cases hc : (nodeIn g.nodes i).isNone && (edgeIn g.edges i).isNone with
      | true => rfl
      | false =>
        simp only [cond_false]
        rw [Option.bind_some, mp_setAt (kt := .str) (vt := .i64) s _ i a (keyS s), Option.bind_some, hf2.ge, Term.eta2, Val.eta]
        exact ih
theorem envF_at (g : Graph) : ∀ (l : List (ByteArray × Int)) (b : List (ByteArray × Bool)) (a : List (ByteArray × Int)), (∀ p ∈ l, wfI .i64 p.2) → atOk a → atOk (envF g l b a).2.2
  | [], b, a, _, h => h
  | p :: r, b, a, hl, h => by
    rw [envF]
    cases mpHas .str .bool b p.1 with
    | true => exact h
    | false =>
      cases (nodeIn g.nodes p.2).isNone && (edgeIn g.edges p.2).isNone with
      | true => exact h
      | false =>
        refine envF_at g r _ _ (fun q hq => hl q (by simp [hq])) ?_
        have : ∀ (a : List (ByteArray × Int)), atOk a → atOk (mpPut .str .i64 a p.1 p.2) := by
          intro a
          induction a with
          | nil =>
            intro _ q hq
            have : q = (p.1, p.2) := by simpa [mpPut] using hq
            subst this
            exact hl p (by simp)
          | cons y a ih =>
            intro ha q hq
            rw [mpPut] at hq
            cases hk : keyEq .str p.1 y.1 with
            | true =>
              rw [hk, cond_true] at hq
              rcases List.mem_cons.1 hq with rfl | hq
              · exact hl p (by simp)
              · exact ha q (by simp [hq])
            | false =>
              rw [hk, cond_false] at hq
              rcases List.mem_cons.1 hq with rfl | hq
              · exact ha _ (by simp)
              · exact ih (fun z hz => ha z (by simp [hz])) q hq
        exact this a h
noncomputable def setR (g : Graph) (names : List ByteArray) (ids : List Int) : Int × List (ByteArray × Bool) × List (ByteArray × Int) :=
  bif chkG g != 0 then (chkG g, [], []) else bif ((names.length : Int) != (ids.length : Int)) || decide ((names.length : Int) > 30) then (2, [], []) else envF g (names.zip ids) [] []
noncomputable def evalR (g : Graph) (names : List ByteArray) (ids : List Int) (t : Term) : Val × Int :=
  bif (setR g names ids).1 != 0 then (zV, (setR g names ids).1) else bif tchk (setR g names ids).2.1 t 1 != 0 then (zV, tchk (setR g names ids).2.1 t 1) else (tval g (setR g names ids).2.2 t, 0)
theorem set_at {g : Graph} {names : List ByteArray} {ids : List Int} (hi : ∀ i ∈ ids, wfI .i64 i) : atOk (setR g names ids).2.2 := by
  unfold setR
  cases chkG g != 0 with
  | true => intro p hp; cases hp
  | false =>
    cases ((names.length : Int) != (ids.length : Int)) || decide ((names.length : Int) > 30) with
    | true => intro p hp; cases hp
    | false => exact envF_at g _ [] [] (fun p hp => hi _ (List.of_mem_zip hp).2) (fun p hp => by cases hp)
theorem eval_ok {g : Graph} (hok : gOk g) (names : List ByteArray) (ids : List Int) (hi : ∀ i ∈ ids, wfI .i64 i) (t : Term) (ht : tOk t) :
    ∃ N, ∀ n, N ≤ n → term_Eval n (g, names, ids, t, ()) = some ((evalR g names ids t).1, (evalR g names ids t).2, ()) := by
  have hat := set_at (g := g) (names := names) hi
  have main : ∀ n, 300 ≤ n → ((chkG g = 0 ∧ tchk (setR g names ids).2.1 t 1 = 0) → q56z n (⟨g, (setR g names ids).2.2⟩, t, ()) = some (tval g (setR g names ids).2.2 t, ())) →
      term_Eval n (g, names, ids, t, ()) = some ((evalR g names ids t).1, (evalR g names ids t).2, ()) := by
    intro n hn hv
    unfold evalR
    unfold term_Eval
    dsimp only
    rw [show (Graph.mk g.nodes g.edges g.next) = g from rfl, gcheck_ok g n (by omega), Option.bind_some]
    dsimp only
    cases hcg : chkG g != 0 with
    | true =>
      have hs : setR g names ids = (chkG g, [], []) := by unfold setR; rw [hcg]; rfl
      rw [hs]
      dsimp only
      rw [hcg]
      rfl
    | false =>
      have hcg0 : chkG g = 0 := by simpa using hcg
      have hg : GOk g := ⟨hok, hcg0⟩
      cases hl : ((names.length : Int) != (ids.length : Int)) || decide ((names.length : Int) > 30) with
      | true =>
        have hs : setR g names ids = (2, [], []) := by unfold setR; rw [hcg, hl]; rfl
        rw [hs]
        rfl
      | false =>
        have hs : setR g names ids = envF g (names.zip ids) [] [] := by unfold setR; rw [hcg, hl]; rfl
        rw [hs] at hv ⊢
        rw [Bool.or_eq_false_iff] at hl
        have h30 := of_decide_eq_false hl.2
        have hle : names.length = ids.length := by have := hl.1; simp at this; omega
        simp only [cond_false]
        rw [R_term_Eval_s0 n _ _ names n _ _ _ _ _ _ (by omega) (by omega), Term.eta2, env_loop hg n (by omega) _ _ ids t _ names [] ids [] [] 0 rfl rfl hle]
        cases he : (envF g (names.zip ids) [] []).1 != 0 with
        | true => rfl
        | false =>
          simp only [cond_false, Term.eta2]
          rw [tCheck_ok _ t n hn, Option.bind_some]
          dsimp only
          cases hc : tchk (envF g (names.zip ids) [] []).2.1 t 1 != 0 with
          | true => rfl
          | false =>
            simp only [cond_false]
            rw [show (Graph.mk g.nodes g.edges g.next) = g from rfl, hv ⟨hcg0, by simpa using hc⟩, Option.bind_some]
            dsimp only
            rw [Val.eta]
  by_cases h : chkG g = 0 ∧ tchk (setR g names ids).2.1 t 1 = 0
  · obtain ⟨⟨N, hN⟩, _⟩ := value_ok ⟨hok, h.1⟩ hat (setR g names ids).2.1 t 1 ht h.2
    exact ⟨N + 300, fun n hn => main n (by omega) fun _ => hN n (by omega)⟩
  · exact ⟨300, fun n hn => main n hn fun h' => absurd h' h⟩
structure EvOk (g : Graph) (names : List ByteArray) (ids : List Int) (t : Term) : Prop where
  gk : GOk g
  at_ : atOk (setR g names ids).2.2
  z : (setR g names ids).1 = 0
  c : tchk (setR g names ids).2.1 t 1 = 0
end Pure
/- Terms, by the document's own answer. No program. -/
namespace Pure
open Esp Ev Go
set_option linter.unusedSimpArgs false
set_option linter.unusedVariables false
/-! ## reckoning -/
theorem rreckR_ok (sg : ByteArray) {a b : Val} (ha : Right a 1) (hb : Right b 1) (n : Nat) (hn : 100 ≤ n) : q20z n (sg, a, b, ()) = some ((reckF sg a b).1, (reckF sg a b).2, ()) := by
  have la := right_len ha
  have lb := right_len hb
  have ia := right_in ha
  have ib := right_in hb
  have w2 : IntKind.wrap .i64 ((a.l.length : Int) + (b.l.length : Int)) = ((a.l.length + b.l.length : Nat) : Int) := by rw [wrap64 (by omega) (by omega)]; omega
  have c1 : cat? a.s b.s = some (a.s ++ b.s) := by unfold cat?; rw [if_pos (by omega)]
  have told_g : ∀ z : Int, told z = some ((gI z).1, (gI z).2, ()) := by
    intro z
    unfold told gI
    rw [show inG z = inR z from rfl]
    cases inR z <;> rfl
  by_cases hint : (a.kind == 2 && b.kind == 2) = true
  · have h2 := hint
    rw [Bool.and_eq_true] at h2
    have ka : a.kind = 2 := by simpa using h2.1
    have kb : b.kind = 2 := by simpa using h2.2
    have h0 : (a.kind == 0 || b.kind == 0) = false := by rw [ka, kb]; rfl
    have ra := ia ka
    have rb := ib kb
    obtain ⟨k, x, s, l⟩ := a
    obtain ⟨k', x', s', l'⟩ := b
    rw [kind_mk] at ka kb
    subst ka
    subst kb
    rw [n_mk] at ra rb
    unfold inR at ra rb
    rw [Bool.and_eq_true, decide_eq_true_eq, decide_eq_true_eq] at ra rb
    unfold reckF
    dsimp +instances only [kind_mk, n_mk, s_mk, l_mk] at h0 hint ⊢
    rw [h0, hint]
    cases h1 : seq sg ⟨#[43]⟩ with
    | true =>
      rw [(seq_iff _ _).1 h1, addR_ok n hn x x' ra rb s s' l l', told_g]
      rfl
    | false =>
      cases h3 : seq sg ⟨#[45]⟩ with
      | true =>
        rw [(seq_iff _ _).1 h3, subR_ok n hn x x' ra rb s s' l l', told_g]
        rfl
      | false =>
        cases h4 : seq sg ⟨#[42]⟩ with
        | true =>
          rw [(seq_iff _ _).1 h4, mulR_ok n hn x x' ra rb s s' l l']
          exact told_g (x * x')
        | false =>
          unfold q20z
          dsimp only
          rw [h1, h3, h4]
          rfl
  · have hi : (a.kind == 2 && b.kind == 2) = false := by simpa using hint
    unfold q20z reckF
    dsimp only
    rw [hi, w2, c1]
    cases h1 : seq sg ⟨#[43]⟩ with
    | false =>
      cases h3 : seq sg ⟨#[45]⟩ with
      | true => cases (a.kind == 0 || b.kind == 0) <;> rfl
      | false =>
        cases h4 : seq sg ⟨#[42]⟩ with
        | true => cases (a.kind == 0 || b.kind == 0) <;> rfl
        | false => rfl
    | true =>
      cases h0 : (a.kind == 0 || b.kind == 0) with
      | true => rfl
      | false =>
        by_cases h3 : a.kind = 3 ∧ b.kind = 3
        · rw [h3.1, h3.2, Option.bind_some, show (((a.s ++ b.s).size : Int)) = ((a.s.size + b.s.size : Nat) : Int) by rw [ByteArray.size_append]]
          cases decide (((a.s.size + b.s.size : Nat) : Int) > 4000) <;> rfl
        · by_cases h4 : a.kind = 4 ∧ b.kind = 4
          · rw [h4.1, h4.2]
            cases hb : decide (((a.l.length + b.l.length : Nat) : Int) > 30) with
            | true => rfl
            | false =>
              simp only [cond_true, cond_false, List.nil_append]
              rw [ck_ok (roomQ (n := a.l.length) (by omega) (by omega)), ck_ok (roomQ (by rw [List.length_append]; omega) (by omega))]
              rfl
          · have n3 : ((true && a.kind == 3) && b.kind == 3) = false := by
              rw [Bool.true_and, Bool.and_eq_false_iff]
              by_cases g1 : a.kind = 3
              · exact .inr (by simpa using fun g2 => h3 ⟨g1, g2⟩)
              · exact .inl (by simpa using g1)
            have n4 : ((true && a.kind == 4) && b.kind == 4) = false := by
              rw [Bool.true_and, Bool.and_eq_false_iff]
              by_cases g1 : a.kind = 4
              · exact .inr (by simpa using fun g2 => h4 ⟨g1, g2⟩)
              · exact .inl (by simpa using g1)
            have nn : (((!true) || (a.kind != b.kind)) || ((a.kind != 3) && (a.kind != 4))) = true := by
              rw [Bool.not_true, Bool.false_or, Bool.or_eq_true, bne_iff_ne, Bool.and_eq_true, bne_iff_ne, bne_iff_ne]
              by_cases g : a.kind = b.kind
              · exact .inr ⟨fun g1 => h3 ⟨g1, g ▸ g1⟩, fun g1 => h4 ⟨g1, g ▸ g1⟩⟩
              · exact .inl g
            rw [n3, n4, nn]
            rfl
/-! ## names -/
theorem rright_ok (v : Val) (n : Nat) (hn : 40 ≤ n) : q38z n (v, ()) = some (chk v 1 == 0, ()) := by
  unfold q38z
  dsimp only
  rw [Val.eta, rcheck_ok v 1 n (by omega) (by omega) (by omega)]
  rfl
theorem keyS_seq (a b : ByteArray) : keyEq .str a b = seq a b := by
  cases h : seq a b with
  | true => rw [(seq_iff a b).1 h]; exact keyS b
  | false =>
    cases h2 : keyEq .str a b with
    | false => rfl
    | true =>
      have := keyEq_eq (kt := .str) rfl h2
      subst this
      rw [seq_refl] at h
      cases h
theorem pre_word : ∀ (l s r : List UInt8), (∀ c ∈ s, c ≠ 32) → l = s ++ 32 :: r → s = l.takeWhile (fun c => c != 32)
  | l, [], r, _, h => by subst h; rfl
  | l, c :: s, r, hs, h => by
    subst h
    have hc : (c != 32) = true := by simpa using hs c (by simp)
    rw [List.cons_append, List.takeWhile_cons, if_pos hc]
    exact congrArg (c :: ·) (pre_word (s ++ 32 :: r) s r (fun x hx => hs x (by simp [hx])) rfl)
theorem index_occ : ∀ (l sub : List UInt8), 0 ≤ Lib.index l sub → ∃ i, sub.isPrefixOf (l.drop i) = true
  | [], sub, h => by
    unfold Lib.index at h
    split at h
    · rename_i h1
      exact ⟨0, by cases sub <;> simp_all⟩
    · omega
  | b :: l, sub, h => by
    unfold Lib.index at h
    split at h
    · rename_i h1
      exact ⟨0, h1⟩
    · split at h
      · omega
      · rename_i h2
        obtain ⟨i, hi⟩ := index_occ l sub (by
          have := Lib.index_ge l sub
          simp at h2
          omega)
        exact ⟨i + 1, hi⟩
def wordsB : ByteArray := ⟨#[32, 109, 97, 116, 99, 104, 32, 119, 104, 101, 114, 101, 32, 114, 101, 116, 117, 114, 110, 32, 100, 105, 115, 116, 105, 110, 99, 116, 32, 97, 115, 32, 97, 110, 100, 32, 111, 114, 32, 110, 111, 116, 32, 105, 110, 32, 105, 115, 32, 110, 117, 108, 108, 32, 116, 114, 117, 101, 32, 102, 97, 108, 115, 101, 32, 99, 111, 117, 110, 116, 32, 115, 117, 109, 32, 109, 105, 110, 32, 109, 97, 120, 32, 115, 105, 122, 101, 32, 104, 101, 97, 100, 32, 99, 111, 97, 108, 101, 115, 99, 101, 32, 105, 100, 32, 116, 121, 112, 101, 32]⟩
theorem words_in : (List.range 111).all (fun i => match wordsB.data.toList.drop i with
    | 32 :: r => (r.takeWhile (fun c => c != 32)).isEmpty || resB ⟨(r.takeWhile (fun c => c != 32)).toArray⟩
    | _ => true) = true := by kernel_rfl
theorem res_words : ([[109, 97, 116, 99, 104], [119, 104, 101, 114, 101], [114, 101, 116, 117, 114, 110], [100, 105, 115, 116, 105, 110, 99, 116], [97, 115], [97, 110, 100], [111, 114], [110, 111, 116], [105, 110], [105, 115], [110, 117, 108, 108], [116, 114, 117, 101], [102, 97, 108, 115, 101], [99, 111, 117, 110, 116], [115, 117, 109], [109, 105, 110], [109, 97, 120], [115, 105, 122, 101], [104, 101, 97, 100], [99, 111, 97, 108, 101, 115, 99, 101], [105, 100], [116, 121, 112, 101]] : List (List UInt8)).all (fun w => contS wordsB ⟨(32 :: (w ++ [32])).toArray⟩) = true := by kernel_rfl
theorem resB_any (s : ByteArray) : resB s = ([[109, 97, 116, 99, 104], [119, 104, 101, 114, 101], [114, 101, 116, 117, 114, 110], [100, 105, 115, 116, 105, 110, 99, 116], [97, 115], [97, 110, 100], [111, 114], [110, 111, 116], [105, 110], [105, 115], [110, 117, 108, 108], [116, 114, 117, 101], [102, 97, 108, 115, 101], [99, 111, 117, 110, 116], [115, 117, 109], [109, 105, 110], [109, 97, 120], [115, 105, 122, 101], [104, 101, 97, 100], [99, 111, 97, 108, 101, 115, 99, 101], [105, 100], [116, 121, 112, 101]] : List (List UInt8)).any (fun w => seq s ⟨w.toArray⟩) := by
  unfold resB
  unfold q62z
  dsimp only
  rw [has_any _ s 200 (by decide) (by omega)]
  rfl
theorem cont_words {s : ByteArray} (hs : ∀ c ∈ s.data.toList, c ≠ 32) (hne : s.data.toList ≠ []) : contS wordsB ⟨(32 :: (s.data.toList ++ [32])).toArray⟩ = resB s := by
  have hself : (⟨s.data.toList.toArray⟩ : ByteArray) = s := by cases s; simp
  cases hc : contS wordsB ⟨(32 :: (s.data.toList ++ [32])).toArray⟩ with
  | true =>
    unfold contS Lib.contains at hc
    simp only [decide_eq_true_eq] at hc
    obtain ⟨i, hi⟩ := index_occ _ _ hc
    have hi2 : (32 :: (s.data.toList ++ [32])).isPrefixOf (wordsB.data.toList.drop i) = true := by simpa using hi
    obtain ⟨r, hr⟩ := List.isPrefixOf_iff_prefix.1 hi2
    have hlt : i < 111 := by
      by_cases h : i < 111
      · exact h
      · have hlen : wordsB.data.toList.length = 110 := by kernel_rfl
        have : wordsB.data.toList.drop i = [] := List.drop_eq_nil_of_le (by rw [hlen]; omega)
        rw [this] at hr
        simp at hr
    have hw := List.all_eq_true.1 words_in i (List.mem_range.2 hlt)
    have hd : wordsB.data.toList.drop i = 32 :: (s.data.toList ++ 32 :: r) := by rw [← hr]; simp
    rw [hd] at hw
    have hw : (((s.data.toList ++ 32 :: r).takeWhile (fun c => c != 32)).isEmpty || resB ⟨((s.data.toList ++ 32 :: r).takeWhile (fun c => c != 32)).toArray⟩) = true := hw
    rw [← pre_word _ s.data.toList r hs rfl, hself, Bool.or_eq_true] at hw
    rcases hw with h | h
    · exact absurd (List.isEmpty_iff.1 h) hne
    · exact h.symm
  | false =>
    cases hr : resB s with
    | false => rfl
    | true =>
      rw [resB_any, List.any_eq_true] at hr
      obtain ⟨w, hw, he⟩ := hr
      have h2 := List.all_eq_true.1 res_words w hw
      have hs2 : s.data.toList = w := by rw [(seq_iff _ _).1 he]
      rw [hs2] at hc
      rw [hc] at h2
      cases h2
theorem nm_blank {s : ByteArray} (h : nmB s = true) : (∀ c ∈ s.data.toList, c ≠ 32) ∧ s.data.toList ≠ [] ∧ s.size ≤ 12 := by
  have hsz := (nm_valid h).2
  unfold nmB at h
  cases hc : (seq s ⟨#[]⟩) || (decide ((s.size : Int) > 12)) with
  | true => rw [hc] at h; cases h
  | false =>
    rw [hc, cond_false] at h
    rw [Bool.or_eq_false_iff] at hc
    refine ⟨?_, fun hn => ?_, hsz⟩
    · have : ∀ (l : List UInt8) (i : Int), nmF i (bi l) = true → ∀ b ∈ l, b ≠ 32 := by
        intro l
        induction l with
        | nil => intro i _ b hb; cases hb
        | cons c r ih =>
          intro i h b hb
          rw [bi_cons, nmF] at h
          cases hk : (!(lttI (c.toNat : Int)) && (((i == 0) || (decide ((c.toNat : Int) < 48))) || (decide ((c.toNat : Int) > 57)))) with
          | true => rw [hk] at h; cases h
          | false =>
            rw [hk, cond_false] at h
            rcases List.mem_cons.1 hb with rfl | hb
            · rintro rfl
              cases hi : (i == 0) <;> (rw [hi] at hk; revert hk; decide)
            · exact ih (i + 1) h b hb
      exact this _ _ h
    · have : s = ⟨#[]⟩ := by cases s with | mk d => simp at hn; subst hn; rfl
      rw [this, seq_refl] at hc
      cases hc.1
theorem isfree_ok (s : ByteArray) : q30z (s, ()) = some (nameB s, ()) := by
  unfold q30z nameB
  dsimp only
  rw [isName_ok, Option.bind_some]
  cases hn : nmB s with
  | false => rfl
  | true =>
    obtain ⟨h1, h2, h3⟩ := nm_blank hn
    have hne : seq s ⟨#[]⟩ = false := by
      cases h : seq s ⟨#[]⟩ with
      | false => rfl
      | true => rw [(seq_iff _ _).1 h] at h2; exact absurd rfl h2
    have hb : contS s ⟨#[32]⟩ = false := by
      cases h : contS s ⟨#[32]⟩ with
      | false => rfl
      | true =>
        unfold contS Lib.contains at h
        simp only [decide_eq_true_eq] at h
        obtain ⟨i, hi⟩ := index_occ _ _ h
        obtain ⟨r, hr⟩ := List.isPrefixOf_iff_prefix.1 hi
        have hm : (32 : UInt8) ∈ s.data.toList := List.mem_of_mem_drop (i := i) (by rw [← hr]; simp)
        exact absurd rfl (h1 32 hm)
    have c0 : containsN (s, (⟨#[32]⟩ : ByteArray), ()) = some (false, ()) := by
      unfold containsN
      dsimp only
      rw [show Nat.blt s.size 4294967281 = true from Nat.ble_eq_true_of_le (by omega), hb]
      rfl
    have k1 : cat? (⟨#[32]⟩ : ByteArray) s = some (⟨#[32]⟩ ++ s) := by
      unfold cat?
      have : (⟨#[32]⟩ : ByteArray).size = 1 := rfl
      rw [if_pos (by omega)]
    have z1 : ((⟨#[32]⟩ : ByteArray) ++ s).size = 1 + s.size := by rw [ByteArray.size_append]; rfl
    have k2 : cat? ((⟨#[32]⟩ : ByteArray) ++ s) ⟨#[32]⟩ = some (((⟨#[32]⟩ : ByteArray) ++ s) ++ ⟨#[32]⟩) := by
      unfold cat?
      have : (⟨#[32]⟩ : ByteArray).size = 1 := rfl
      rw [if_pos (by omega)]
    have e2 : (((⟨#[32]⟩ : ByteArray) ++ s) ++ ⟨#[32]⟩) = ⟨(32 :: (s.data.toList ++ [32])).toArray⟩ := by
      apply ByteArray.ext
      rw [ByteArray.data_append, ByteArray.data_append]
      simp
    have c2 : containsN (wordsB, (((⟨#[32]⟩ : ByteArray) ++ s) ++ ⟨#[32]⟩), ()) = some (resB s, ()) := by
      unfold containsN
      dsimp only
      rw [show Nat.blt wordsB.size 4294967281 = true by kernel_rfl, e2, cont_words h1 h2]
      rfl
    unfold q13z
    dsimp only
    rw [hne, c0]
    simp only [Bool.not_false, cond_true, Option.bind_some]
    rw [k1, Option.bind_some, k2, Option.bind_some, show (⟨#[32, 109, 97, 116, 99, 104, 32, 119, 104, 101, 114, 101, 32, 114, 101, 116, 117, 114, 110, 32, 100, 105, 115, 116, 105, 110, 99, 116, 32, 97, 115, 32, 97, 110, 100, 32, 111, 114, 32, 110, 111, 116, 32, 105, 110, 32, 105, 115, 32, 110, 117, 108, 108, 32, 116, 114, 117, 101, 32, 102, 97, 108, 115, 101, 32, 99, 111, 117, 110, 116, 32, 115, 117, 109, 32, 109, 105, 110, 32, 109, 97, 120, 32, 115, 105, 122, 101, 32, 104, 101, 97, 100, 32, 99, 111, 97, 108, 101, 115, 99, 101, 32, 105, 100, 32, 116, 121, 112, 101, 32]⟩ : ByteArray) = wordsB from rfl, c2]
    rfl
end Pure
/- Terms, by the document's own answer: are they right? No program. -/
namespace Pure
open Esp Ev Go
set_option linter.unusedSimpArgs false
set_option linter.unusedVariables false
theorem mpGet_put {vt : Ev.Ty} (z : vt.den) (k : ByteArray) (v : vt.den) (s : ByteArray) : ∀ l : List (ByteArray × vt.den), mpGet .str vt z (mpPut .str vt l k v) s = bif seq s k then v else mpGet .str vt z l s
  | [] => by
    show (bif keyEq .str s k then v else z) = bif seq s k then v else z
    rw [keyS_seq]
  | p :: r => by
    rw [mpPut]
    cases hk : keyEq .str k p.1 with
    | true =>
      rw [keyS_seq] at hk
      have := (seq_iff _ _).1 hk
      rw [cond_true, mpGet, mpGet, keyS_seq, keyS_seq, ← this]
      cases seq s k <;> rfl
    | false =>
      rw [cond_false, mpGet, mpGet, mpGet_put z k v s r, keyS_seq]
      cases h1 : seq s p.1 with
      | false => rfl
      | true =>
        cases h2 : seq s k with
        | false => rfl
        | true =>
          rw [keyS_seq] at hk
          rw [(seq_iff _ _).1 h1] at h2
          rw [(seq_iff _ _).1 h2, seq_refl] at hk
          cases hk
theorem mpHas_put {vt : Ev.Ty} (k : ByteArray) (v : vt.den) (s : ByteArray) : ∀ l : List (ByteArray × vt.den), mpHas .str vt (mpPut .str vt l k v) s = bif seq s k then true else mpHas .str vt l s
  | [] => by
    show (bif keyEq .str s k then true else false) = bif seq s k then true else false
    rw [keyS_seq]
  | p :: r => by
    rw [mpPut]
    cases hk : keyEq .str k p.1 with
    | true =>
      rw [keyS_seq] at hk
      have := (seq_iff _ _).1 hk
      rw [cond_true, mpHas, mpHas, keyS_seq, keyS_seq, ← this]
      cases seq s k <;> rfl
    | false =>
      rw [cond_false, mpHas, mpHas, mpHas_put k v s r, keyS_seq]
      cases h1 : seq s p.1 <;> cases h2 : seq s k <;> rfl
theorem mpGet_no {vt : Ev.Ty} (z : vt.den) (s : ByteArray) : ∀ l : List (ByteArray × vt.den), mpHas .str vt l s = false → mpGet .str vt z l s = z
  | [], _ => rfl
  | p :: r, h => by
    rw [mpHas] at h
    rw [mpGet]
    cases hk : keyEq .str s p.1 with
    | true => rw [hk] at h; cases h
    | false => rw [hk] at h; exact mpGet_no z s r h
def tkN (s : ByteArray) : Int := bif (arN s).2 then (arN s).1 else 0
theorem takes_ok (s : ByteArray) : mpGet .str .i64 0 (mpPut .str .i64 (mpPut .str .i64 (mpPut .str .i64 (mpPut .str .i64 (mpPut .str .i64 (mpPut .str .i64 (mpPut .str .i64 (mpPut .str .i64 (mpPut .str .i64 (mpPut .str .i64 (mpPut .str .i64 (mpPut .str .i64 (mpPut .str .i64 (mpPut .str .i64 (mpPut .str .i64 (mpPut .str .i64 (mpPut .str .i64 ([] : List (ByteArray × Int)) (⟨#[43]⟩ : ByteArray) 2) (⟨#[45]⟩ : ByteArray) 2) (⟨#[42]⟩ : ByteArray) 2) (⟨#[61]⟩ : ByteArray) 2) (⟨#[60]⟩ : ByteArray) 2) (⟨#[60, 61]⟩ : ByteArray) 2) (⟨#[97, 110, 100]⟩ : ByteArray) 2) (⟨#[111, 114]⟩ : ByteArray) 2) (⟨#[105, 110]⟩ : ByteArray) 2) (⟨#[110, 111, 116]⟩ : ByteArray) 1) (⟨#[110, 117, 108, 108]⟩ : ByteArray) 1) (⟨#[115, 105, 122, 101]⟩ : ByteArray) 1) (⟨#[104, 101, 97, 100]⟩ : ByteArray) 1) (⟨#[105, 100]⟩ : ByteArray) 1) (⟨#[116, 121, 112, 101]⟩ : ByteArray) 1) (⟨#[99, 111, 97, 108, 101, 115, 99, 101]⟩ : ByteArray) (-1)) (⟨#[108, 105, 115, 116]⟩ : ByteArray) (-1)) s = tkN s := by
  cases h0 : seq s ⟨#[43]⟩ with
  | true => rw [(seq_iff _ _).1 h0]; kernel_rfl
  | false =>
  cases h1 : seq s ⟨#[45]⟩ with
  | true => rw [(seq_iff _ _).1 h1]; kernel_rfl
  | false =>
  cases h2 : seq s ⟨#[42]⟩ with
  | true => rw [(seq_iff _ _).1 h2]; kernel_rfl
  | false =>
  cases h3 : seq s ⟨#[61]⟩ with
  | true => rw [(seq_iff _ _).1 h3]; kernel_rfl
  | false =>
  cases h4 : seq s ⟨#[60]⟩ with
  | true => rw [(seq_iff _ _).1 h4]; kernel_rfl
  | false =>
  cases h5 : seq s ⟨#[60, 61]⟩ with
  | true => rw [(seq_iff _ _).1 h5]; kernel_rfl
  | false =>
  cases h6 : seq s ⟨#[97, 110, 100]⟩ with
  | true => rw [(seq_iff _ _).1 h6]; kernel_rfl
  | false =>
  cases h7 : seq s ⟨#[111, 114]⟩ with
  | true => rw [(seq_iff _ _).1 h7]; kernel_rfl
  | false =>
  cases h8 : seq s ⟨#[105, 110]⟩ with
  | true => rw [(seq_iff _ _).1 h8]; kernel_rfl
  | false =>
  cases h9 : seq s ⟨#[110, 111, 116]⟩ with
  | true => rw [(seq_iff _ _).1 h9]; kernel_rfl
  | false =>
  cases h10 : seq s ⟨#[110, 117, 108, 108]⟩ with
  | true => rw [(seq_iff _ _).1 h10]; kernel_rfl
  | false =>
  cases h11 : seq s ⟨#[115, 105, 122, 101]⟩ with
  | true => rw [(seq_iff _ _).1 h11]; kernel_rfl
  | false =>
  cases h12 : seq s ⟨#[104, 101, 97, 100]⟩ with
  | true => rw [(seq_iff _ _).1 h12]; kernel_rfl
  | false =>
  cases h13 : seq s ⟨#[105, 100]⟩ with
  | true => rw [(seq_iff _ _).1 h13]; kernel_rfl
  | false =>
  cases h14 : seq s ⟨#[116, 121, 112, 101]⟩ with
  | true => rw [(seq_iff _ _).1 h14]; kernel_rfl
  | false =>
  cases h15 : seq s ⟨#[99, 111, 97, 108, 101, 115, 99, 101]⟩ with
  | true => rw [(seq_iff _ _).1 h15]; kernel_rfl
  | false =>
  cases h16 : seq s ⟨#[108, 105, 115, 116]⟩ with
  | true => rw [(seq_iff _ _).1 h16]; kernel_rfl
  | false =>
  rw [mpGet_put, mpGet_put, mpGet_put, mpGet_put, mpGet_put, mpGet_put, mpGet_put, mpGet_put, mpGet_put, mpGet_put, mpGet_put, mpGet_put, mpGet_put, mpGet_put, mpGet_put, mpGet_put, mpGet_put]
  unfold tkN arN
  rw [h0, h1, h2, h3, h4, h5, h6, h7, h8, h9, h10, h11, h12, h13, h14, h15, h16]
  rfl
theorem tk_cond (s : ByteArray) (z : Bool) (m : Nat) : (((!z) || (tkN s == 0)) || (decide (tkN s > 0) && ((m : Int) != tkN s))) = (((!(arN s).2) || !z) || (decide ((arN s).1 ≥ 0) && ((m : Int) != (arN s).1))) := by
  have h : arN s = (2, true) ∨ arN s = (1, true) ∨ arN s = (-1, true) ∨ arN s = (0, false) := by
    unfold arN
    generalize (((((((((seq s ⟨#[43]⟩) || seq s ⟨#[45]⟩) || seq s ⟨#[42]⟩) || seq s ⟨#[61]⟩) || seq s ⟨#[60]⟩) || seq s ⟨#[60, 61]⟩) || seq s ⟨#[97, 110, 100]⟩) || seq s ⟨#[111, 114]⟩) || seq s ⟨#[105, 110]⟩) = x
    generalize ((((((seq s ⟨#[110, 111, 116]⟩) || seq s ⟨#[110, 117, 108, 108]⟩) || seq s ⟨#[115, 105, 122, 101]⟩) || seq s ⟨#[104, 101, 97, 100]⟩) || seq s ⟨#[105, 100]⟩) || seq s ⟨#[116, 121, 112, 101]⟩) = y
    generalize ((seq s ⟨#[99, 111, 97, 108, 101, 115, 99, 101]⟩) || seq s ⟨#[108, 105, 115, 116]⟩) = w
    cases x <;> cases y <;> cases w <;> simp
  unfold tkN
  rcases h with h | h | h | h <;> rw [h] <;> cases z <;> simp <;> decide
def RB (B : List (ByteArray × Int)) (b : List (ByteArray × Bool)) : Prop := ∀ s, mpGet .str .i64 0 B s = bif mpHas .str .bool b s then (bif mpGet .str .bool false b s then 2 else 1) else 0
theorem RB.nil : RB [] [] := fun _ => rfl
theorem RB.put {B : List (ByteArray × Int)} {b : List (ByteArray × Bool)} (h : RB B b) (k : ByteArray) (e : Bool) : RB (mpPut .str .i64 B k (bif e then 2 else 1)) (mpPut .str .bool b k e) := by
  intro s
  rw [mpGet_put (vt := .i64), mpGet_put (vt := .bool), mpHas_put (vt := .bool), h s]
  cases seq s k <;> rfl
theorem RB.has {B : List (ByteArray × Int)} {b : List (ByteArray × Bool)} (h : RB B b) (s : ByteArray) : (mpGet .str .i64 0 B s == 0) = !mpHas .str .bool b s := by
  rw [h s]
  cases mpHas .str .bool b s <;> cases mpGet .str .bool false b s <;> rfl
theorem RB.edge {B : List (ByteArray × Int)} {b : List (ByteArray × Bool)} (h : RB B b) (s : ByteArray) : (mpGet .str .i64 0 B s != 2) = !mpGet .str .bool false b s := by
  rw [h s]
  cases h1 : mpHas .str .bool b s with
  | true => cases mpGet .str .bool false b s <;> rfl
  | false => rw [mpGet_no (vt := .bool) false s b h1]; rfl
theorem rzero_ok (v : Val) (n : Nat) (hn : 2 ≤ n) : q16z n (v, .mk 0 0 ⟨#[]⟩ [], ()) = some (zrB v, ()) := by
  obtain ⟨k, a, s, l⟩ := v
  obtain ⟨j, rfl⟩ : ∃ j, n = j + 2 := ⟨n - 2, by omega⟩
  unfold q16z zrB
  dsimp +instances only [kind_mk, n_mk, s_mk, l_mk]
  rw [q24z]
  unfold q24z_b
  dsimp +instances only [kind_mk, n_mk, s_mk, l_mk]
  rw [bytes_cmp]
  by_cases h1 : k < 0
  · rw [decide_eq_true h1, show (k == 0) = false by rw [beq_eq_false_iff_ne]; omega]
    rfl
  · rw [decide_eq_false h1]
    by_cases h2 : k > 0
    · rw [decide_eq_true h2, show (k == 0) = false by rw [beq_eq_false_iff_ne]; omega]
      rfl
    · rw [decide_eq_false h2, show (k == 0) = true by rw [beq_iff_eq]; omega]
      by_cases h3 : a < 0
      · rw [decide_eq_true h3, show (a == 0) = false by rw [beq_eq_false_iff_ne]; omega]
        rfl
      · rw [decide_eq_false h3]
        by_cases h4 : a > 0
        · rw [decide_eq_true h4, show (a == 0) = false by rw [beq_eq_false_iff_ne]; omega]
          rfl
        · rw [decide_eq_false h4, show (a == 0) = true by rw [beq_iff_eq]; omega]
          cases h5 : seq s ⟨#[]⟩ with
          | false =>
            have : cmpS s ⟨#[]⟩ ≠ 0 := fun h => by
              rw [cmpS_zero] at h
              rw [h, seq_refl] at h5
              cases h5
            simp only [cond_false, Bool.not_false, cond_true, Option.bind_some]
            rw [show (cmpS s ⟨#[]⟩ == 0) = false by rw [beq_eq_false_iff_ne]; exact this]
            rfl
          | true =>
            simp only [cond_false, Bool.not_true]
            rw [iterN]
            unfold q24z_s1
            dsimp +instances only [kind_mk, n_mk, s_mk, l_mk]
            have e : decide ((0 : Int) < (([] : List Val).length : Int)) = false := rfl
            have e2 : decide ((l.length : Int) < (([] : List Val).length : Int)) = false := by rw [decide_eq_false_iff_not]; simp
            rw [e, Bool.and_false, e2]
            simp only [cond_false]
            cases l with
            | nil => rfl
            | cons x r =>
              have e3 : decide (((x :: r).length : Int) > (([] : List Val).length : Int)) = true := by rw [decide_eq_true_iff]; simp
              rw [e3]
              have e4 : (((x :: r).length : Int) == 0) = false := by rw [beq_eq_false_iff_ne, List.length_cons]; omega
              rw [e4]
              rfl
theorem len_ne {α : Type} (l : List α) : ((l.length : Int) != 0) = decide ((l.length : Int) > 0) := by
  cases l with
  | nil => rfl
  | cons x r =>
    rw [decide_eq_true (by simp), bne_iff_ne]
    simp
    omega
theorem rtcheck_loop {ρ : Type} (self : Term × List (ByteArray × Int) × Int × Unit → Option (Int × Unit)) (n : Nat) (B : List (ByteArray × Int)) (b : List (ByteArray × Bool)) (d : Int) (hd : IntKind.wrap .i64 (d + 1) = d + 1) (o : Term) (kr : Int × Unit → Option ρ) (k : List (ByteArray × Int) × Int × (Term × Unit) × Unit → Option ρ) :
    ∀ (l : List Term) (i : Int), (∀ x ∈ l, self (x, B, d + 1, ()) = some (tchk b x (d + 1), ())) → foldK (F_q15z_s1 self n kr) k i l (B, d, (o, ()), ()) = bif tchks b l (d + 1) != 0 then kr (tchks b l (d + 1), ()) else k (B, d, (o, ()), ())
  | [], _, _ => rfl
  | x :: r, i, h => by
    rw [foldK]
    have ih := rtcheck_loop self n B b d hd o kr k r (i + 1) fun y hy => h y (by simp [hy])
    generalize foldK (F_q15z_s1 self n kr) k (i + 1) r = R at ih
    unfold F_q15z_s1
    dsimp only
    rw [Term.eta2, Term.eta2, hd, h x (by simp), Option.bind_some, tchks]
    dsimp only
    cases hc : tchk b x (d + 1) != 0 with
    | true => rw [cond_true, cond_true, hc]; rfl
    | false => rw [cond_false, cond_false]; exact ih
theorem rtcheck_ok {B : List (ByteArray × Int)} {b : List (ByteArray × Bool)} (hB : RB B b) (t : Term) : ∀ (d : Int) (n : Nat), 1 ≤ d → d ≤ 7 → 300 ≤ n + d.toNat → q15z n (t, B, d, ()) = some (tchk b t d, ()) := by
  induction t using term_ind with
  | _ k v s a ih =>
    intro d n h1 h7 hn
    obtain ⟨m, rfl⟩ : ∃ m, n = m + 1 := ⟨n - 1, by omega⟩
    rw [q15z, tchk]
    unfold q15z_b
    dsimp +instances only [tk_mk, tv_mk, tn_mk, ta_mk]
    cases hd : decide (d > 6) with
    | true => rfl
    | false =>
      have h6 := of_decide_eq_false hd
      have hw : IntKind.wrap .i64 (d + 1) = d + 1 := wrap64 (by omega) (by omega)
      have hs : ∀ x ∈ a, q15z m (x, B, d + 1, ()) = some (tchk b x (d + 1), ()) := fun x hx => ih x hx (d + 1) m (by omega) (by omega) (by omega)
      simp only [cond_false]
      rw [Val.eta, rzero_ok v m (by omega), Option.bind_some]
      dsimp only
      rw [len_ne]
      cases h1 : k == 1 with
      | true =>
        simp only [cond_true]
        cases (!(seq s ⟨#[]⟩)) || decide ((a.length : Int) > 0) with
        | true => rfl
        | false =>
          cases v.kind == 4 with
          | true => rfl
          | false =>
            simp only [cond_false, Bool.or_false]
            rw [rcheck_ok v 1 m (by omega) (by omega) (by omega), Option.bind_some]
      | false =>
        cases h2 : k == 2 with
        | true =>
          simp only [cond_true, cond_false]
          cases (!zrB v) || decide ((a.length : Int) > 0) with
          | true => rfl
          | false =>
            simp only [cond_true, cond_false]
            rw [isfree_ok s, Option.bind_some, hB.has]
            cases !nameB s with
            | true => rfl
            | false => cases !mpHas .str .bool b s <;> rfl
        | false =>
          cases h3 : k == 3 with
          | true =>
            simp only [cond_true, cond_false]
            cases hz : (!zrB v) || ((a.length : Int) != 1) with
            | true => rfl
            | false =>
              rw [Bool.or_eq_false_iff] at hz
              obtain ⟨e1, e2⟩ := hd_ix hz.2
              simp only [cond_true, cond_false]
              rw [e1, Option.bind_some]
              cases (hdT a).kind != 2 with
              | true => rfl
              | false =>
                simp only [cond_true, cond_false]
                rw [isName_ok, Option.bind_some]
                cases !nmB s with
                | true => rfl
                | false =>
                  simp only [cond_false]
                  rw [Option.bind_some, Term.eta2, hw, hs (hdT a) (by rw [e2]; simp [hdT]), Option.bind_some]
                  have : tchks b a (d + 1) = tchk b (hdT a) (d + 1) := by
                    conv => lhs; rw [e2]
                    rw [tchks, tchks]
                    cases hc : tchk b (hdT a) (d + 1) != 0 with
                    | true => rfl
                    | false =>
                      have h0 : tchk b (hdT a) (d + 1) = 0 := by simpa using hc
                      exact h0.symm
                  rw [this]
          | false =>
            cases h4 : k == 4 with
            | false => rfl
            | true =>
              simp only [cond_true, cond_false]
              rw [takes_ok, tk_cond]
              cases hz : ((!(arN s).2) || !zrB v) || (decide ((arN s).1 ≥ 0) && ((a.length : Int) != (arN s).1)) with
              | true => rfl
              | false =>
                cases h30 : decide ((a.length : Int) > 30) with
                | true => rfl
                | false =>
                  have hl := of_decide_eq_false h30
                  simp only [cond_false]
                  rw [R_q15z_s1 _ m _ _ a m _ _ _ (by omega) (by omega), rtcheck_loop _ m B b d hw _ _ _ a 0 hs]
                  cases hc : tchks b a (d + 1) != 0 with
                  | true => rfl
                  | false =>
                    simp only [cond_false]
                    dsimp +instances only [tk_mk, tv_mk, tn_mk, ta_mk]
                    unfold lstB
                    cases hid : seq s ⟨#[105, 100]⟩ with
                    | true =>
                      have har : (arN s).1 = 1 := by rw [(seq_iff _ _).1 hid]; kernel_rfl
                      obtain ⟨e1, e2⟩ := ar1_hd hz har
                      have hty : seq s (⟨#[116, 121, 112, 101]⟩ : ByteArray) = false := by rw [(seq_iff _ _).1 hid]; kernel_rfl
                      simp only [cond_true]
                      rw [e1, Option.bind_some, hty]
                      cases (hdT a).kind != 2 <;> rfl
                    | false =>
                      simp only [cond_false]
                      cases hty : seq s (⟨#[116, 121, 112, 101]⟩ : ByteArray) with
                      | false => rfl
                      | true =>
                        have har : (arN s).1 = 1 := by rw [(seq_iff _ _).1 hty]; kernel_rfl
                        obtain ⟨e1, e2⟩ := ar1_hd hz har
                        simp only [cond_true]
                        rw [e1, Option.bind_some]
                        cases (hdT a).kind != 2 with
                        | true => rfl
                        | false =>
                          simp only [cond_false]
                          rw [Option.bind_some, hB.edge]
                          cases !mpGet .str .bool false b (hdT a).name <;> rfl
end Pure
/- Terms, by the document's own answer: what they come to. No program. -/
namespace Pure
open Esp Ev Go
set_option linter.unusedSimpArgs false
set_option linter.unusedVariables false
theorem state_ok {v : Val} (h : Right v 1) : q40z (v, ()) = some (stV v, ()) := by
  cases h with
  | null => rfl
  | truth a _ h =>
    unfold q40z stV
    dsimp +instances only [kind_mk, n_mk]
    have : a = 0 ∨ a = 1 := by omega
    rcases this with rfl | rfl <;> rfl
  | int => rfl
  | text => rfl
  | list => rfl
theorem right_l0 {v : Val} (h : Right v 1) (h4 : (v.kind == 4) = false) : v.l = [] := by
  cases h with
  | null => rfl
  | truth a _ h => rfl
  | int => rfl
  | text => rfl
  | list => cases h4
def rkS (c : Int) : Int := bif c == 1 then 2 else bif c == 2 then 1 else 0
theorem rk_ix {c : Int} (h : c = 0 ∨ c = 1 ∨ c = 2) : ix ([0, 2, 1] : List Int) c = some (rkS c) := by
  rcases h with rfl | rfl | rfl <;> rfl
theorem rk_back {c : Int} (h : c = 0 ∨ c = 1 ∨ c = 2) : ix ([0, 2, 1] : List Int) (rkS c) = some c := by
  rcases h with rfl | rfl | rfl <;> rfl
theorem rk_or {a b : Int} (ha : a = 0 ∨ a = 1 ∨ a = 2) (hb : b = 0 ∨ b = 1 ∨ b = 2) : (if rkS b > rkS a then rkS b else rkS a) = rkS (orS a b) := by
  rcases ha with rfl | rfl | rfl <;> rcases hb with rfl | rfl | rfl <;> rfl
theorem rk_and {a b : Int} (ha : a = 0 ∨ a = 1 ∨ a = 2) (hb : b = 0 ∨ b = 1 ∨ b = 2) : (if rkS b < rkS a then rkS b else rkS a) = rkS (ngS (orS (ngS a) (ngS b))) := by
  rcases ha with rfl | rfl | rfl <;> rcases hb with rfl | rfl | rfl <;> rfl
theorem ng_ix {c : Int} (h : c = 0 ∨ c = 1 ∨ c = 2) : ix ([1, 0, 2] : List Int) c = some (ngS c) ∧ ([1, 0, 2] : List Int)[c.toNat]? = some (ngS c) := by
  rcases h with rfl | rfl | rfl <;> exact ⟨rfl, rfl⟩
theorem rargs_loop {ρ : Type} (self : Graph × List (ByteArray × Int) × Term × Unit → Option (Val × Unit)) (n : Nat) (kr : Unit → Option ρ) (k : List (ByteArray × Int) × (Graph × Unit) × (Term × Unit) × (Val × Unit) × List Val × Unit → Option ρ) (g : Graph) (at_ : List (ByteArray × Int)) (t : Term) (z : Val) :
    ∀ (l : List Term) (i : Int) (acc : List Val), (∀ x ∈ l, self (g, at_, x, ()) = some (tval g at_ x, ())) → acc.length + l.length ≤ 30 → foldK (F_q17z_s0 self n kr) k i l (at_, (g, ()), (t, ()), (z, ()), acc, ()) = k (at_, (g, ()), (t, ()), (z, ()), acc ++ tvals g at_ l, ())
  | [], i, acc, _, _ => by rw [tvals, List.append_nil]; rfl
  | x :: r, i, acc, h, hl => by
    rw [foldK]
    have ih := rargs_loop self n kr k g at_ t z r (i + 1) (acc ++ [tval g at_ x]) (fun y hy => h y (by simp [hy])) (by simp at hl ⊢; omega)
    generalize foldK (F_q17z_s0 self n kr) k (i + 1) r = R at ih
    unfold F_q17z_s0
    dsimp only
    rw [Term.eta2, Term.eta2, show (Graph.mk g.nodes g.edges g.next) = g from rfl, h x (by simp), Option.bind_some]
    dsimp only
    rw [Val.eta, Val.eta, ck_ok (roomQ (by simp at hl ⊢; omega) (by omega)), ih, tvals]
    simp
theorem rin_loop {ρ : Type} (self : Graph × List (ByteArray × Int) × Term × Unit → Option (Val × Unit)) (n : Nat) (kr : Unit → Option ρ) (k : List Val × List Int × List Int × Int × (Val × Unit) × Unit → Option ρ) (args : List Val) (x : Val) (h0 : ix args 0 = some x) (hx : vOk x) (hn : vSz x + 7 ≤ n) (o : Val) :
    ∀ (l : List Val) (i : Int) (c : Int), (c = 0 ∨ c = 1 ∨ c = 2) → foldK (F_q17z_s3 self n kr) k i l (args, [0, 2, 1], [0, 2, 1], rkS c, (o, ()), ()) = k (args, [0, 2, 1], [0, 2, 1], rkS (inS x c l), (o, ()), ())
  | [], _, _, _ => rfl
  | y :: r, i, c, hc => by
    rw [foldK]
    have ih := rin_loop self n kr k args x h0 hx hn o r (i + 1) (orS c (smV x y)) orS_rng
    generalize foldK (F_q17z_s3 self n kr) k (i + 1) r = R at ih
    unfold F_q17z_s3
    dsimp only
    rw [h0, Option.bind_some]
    rw [Val.eta, Val.eta, Val.eta, sameOf_ok x y n hx hn, Option.bind_some]
    dsimp only
    rw [Val.eta, state_ok (tV_r _ (smV_rng x y)), Option.bind_some, stV_tV (smV_rng x y)]
    dsimp only
    rw [rk_ix (smV_rng x y), Option.bind_some, rk_or hc (smV_rng x y)]
    exact ih
theorem width_pos (s : ByteArray) (pos : Nat) (h : pos < s.size) : 1 ≤ (Utf8.decode s pos).2 := by
  by_cases ha : (s[pos]'h).toNat < 128
  · rw [Go.decode_ascii s pos h ha]
    exact Nat.le_refl _
  · exact (Go.decode_high s pos h (by omega)).2
theorem blt_f {a b : Nat} (h : ¬ a < b) : Nat.blt a b = false := by
  cases hb : Nat.blt a b with
  | false => rfl
  | true => exact absurd (Nat.le_of_ble_eq_true hb) h
theorem rsize_loop {ρ : Type} (self : Graph × List (ByteArray × Int) × Term × Unit → Option (Val × Unit)) (n : Nat) (kx : Int × (Val × Unit) × Unit → Option ρ) (kr : Unit → Option ρ) (o : Val) (s : ByteArray) :
    ∀ (b pos c fuel : Nat), s.size ≤ pos + b → b < fuel → c + b ≤ 1000000 → iterN (fun rc => q17z_s5 self n rc kx kr) fuel ((c : Int), (o, ()), (s, pos), ()) = kx (((c + (runesF s b pos).length : Nat) : Int), (o, ()), ()) := by
  intro b
  induction b with
  | zero =>
    intro pos c fuel h1 h2 h3
    obtain ⟨m, rfl⟩ : ∃ m, fuel = m + 1 := ⟨fuel - 1, by omega⟩
    rw [iterN]
    unfold q17z_s5
    dsimp only
    rw [show Nat.blt pos s.size = false from blt_f (by omega), runesF, Val.eta]
    rfl
  | succ b ih =>
    intro pos c fuel h1 h2 h3
    obtain ⟨m, rfl⟩ : ∃ m, fuel = m + 1 := ⟨fuel - 1, by omega⟩
    rw [iterN]
    have ih' := fun (h : pos < s.size) => ih (pos + (Utf8.decode s pos).2) (c + 1) m (by have := width_pos s pos h; omega) (by omega) (by omega)
    generalize iterN (fun rc => q17z_s5 self n rc kx kr) m = R at ih'
    unfold q17z_s5
    dsimp only
    rw [runesF]
    by_cases hp : pos < s.size
    · have hw := width_pos s pos hp
      rw [show Nat.blt pos s.size = true from Nat.ble_eq_true_of_le hp, if_pos hp, Val.eta, cond_true, show IntKind.wrap .i64 ((c : Int) + 1) = ((c + 1 : Nat) : Int) by rw [wrap64 (by omega) (by omega)]; omega]
      rw [ih' hp, List.length_cons, show c + 1 + (runesF s b (pos + (Utf8.decode s pos).2)).length = c + ((runesF s b (pos + (Utf8.decode s pos).2)).length + 1) by omega]
    · rw [show Nat.blt pos s.size = false from blt_f (by omega), if_neg hp, Val.eta]
      rfl
theorem rcoal_loop (self : Graph × List (ByteArray × Int) × Term × Unit → Option (Val × Unit)) (n : Nat) (k : (Val × Unit) × Unit → Option (Val × Unit)) (o : Val) (hk : k ((o, ()), ()) = some (zV, ())) :
    ∀ (l : List Val) (i : Int), foldK (F_q17z_s7 self n (fun (o81, _) => some ((Ev.Val.mk o81.1.kind o81.1.n o81.1.s o81.1.l), ()))) k i l ((o, ()), ()) = some (coal l, ())
  | [], _ => hk
  | y :: r, i => by
    rw [foldK]
    have ih := rcoal_loop self n k o hk r (i + 1)
    generalize foldK (F_q17z_s7 self n (fun (o81, _) => some ((Ev.Val.mk o81.1.kind o81.1.n o81.1.s o81.1.l), ()))) k (i + 1) r = R at ih
    unfold F_q17z_s7
    dsimp only
    rw [coal]
    cases y.kind != 0 with
    | true =>
      simp only [cond_true]
      rw [Val.eta, Val.eta]
    | false =>
      simp only [cond_false]
      rw [Val.eta]
      exact ih
theorem gI_z {z : Int} (h : (gI z).2 ≠ 0) : (gI z).1 = zV := by
  unfold gI at h ⊢
  cases hi : inR z with
  | true => rw [hi] at h; exact absurd rfl h
  | false => rfl
theorem reckF_z {s : ByteArray} {a b : Val} (h : (reckF s a b).2 ≠ 0) : (reckF s a b).1 = zV := by
  unfold reckF at h ⊢
  cases h1 : (seq s ⟨#[43]⟩ || seq s ⟨#[45]⟩) || seq s ⟨#[42]⟩ with
  | false => rfl
  | true =>
    rw [h1, cond_true] at h
    simp only [cond_true]
    cases h2 : (a.kind == 0) || (b.kind == 0) with
    | true => rfl
    | false =>
      rw [h2, cond_false] at h
      simp only [cond_false]
      cases h3 : (a.kind == 2) && (b.kind == 2) with
      | true => rw [h3, cond_true] at h; simp only [cond_true]; exact gI_z h
      | false =>
        rw [h3, cond_false] at h
        simp only [cond_false]
        cases h4 : (seq s ⟨#[43]⟩ && (a.kind == 3)) && (b.kind == 3) with
        | true =>
          rw [h4, cond_true] at h
          cases h5 : decide (((a.s.size + b.s.size : Nat) : Int) > 4000) with
          | true => rfl
          | false => rw [h5] at h; exact absurd rfl h
        | false =>
          rw [h4, cond_false] at h
          simp only [cond_false]
          cases h6 : (seq s ⟨#[43]⟩ && (a.kind == 4)) && (b.kind == 4) with
          | true =>
            rw [h6, cond_true] at h
            cases h5 : decide (((a.l.length + b.l.length : Nat) : Int) > 30) with
            | true => rfl
            | false => rw [h5] at h; exact absurd rfl h
          | false => rfl
end Pure
/- Terms, by the document's own answer: what they come to, told. No program. -/
namespace Pure
open Esp Ev Go
set_option linter.unusedSimpArgs false
set_option linter.unusedVariables false
def EB (g : Graph) (b : List (ByteArray × Bool)) (at_ : List (ByteArray × Int)) : Prop := ∀ s, mpGet .str .bool false b s = true → (edgeIn g.edges (mpGet .str .i64 0 at_ s)).isSome = true
set_option maxHeartbeats 2000000 in
theorem rcall_ok {g : Graph} (hg : GOk g) (at_ : List (ByteArray × Int)) (v0 : Val) (s : ByteArray) (a : List Term) (m : Nat) (h30 : a.length ≤ 30) (hs : ∀ x ∈ a, q17z m (g, at_, x, ()) = some (tval g at_ x, ()))
    (hl : ∀ x ∈ tvals g at_ a, Right x 1) (har : ArOk s (tvals g at_ a).length) (hn : lSz (tvals g at_ a) + 5000 ≤ m) (hty : seq s ⟨#[116, 121, 112, 101]⟩ = true → (edgeIn g.edges (arg0 (tvals g at_ a)).n).isSome = true) :
    q17z (m + 1) (g, at_, .mk 4 v0 s a, ()) = some (callV g s (tvals g at_ a), ()) := by
  have sz : ∀ x ∈ tvals g at_ a, vSz x + 900 ≤ m := fun x hx => by have := lSz_mem hx; omega
  have hlen : (tvals g at_ a).length ≤ 30 := by rw [tvals_map, List.length_map]; exact h30
  rw [q17z]
  unfold q17z_b
  dsimp +instances only [tk_mk, tv_mk, tn_mk, ta_mk]
  rw [show ((4 : Int) == 1) = false from rfl, show ((4 : Int) == 2) = false from rfl, show ((4 : Int) == 3) = false from rfl]
  simp only [cond_false]
  rw [R_q17z_s0 _ m _ _ a m _ _ _ _ _ (by omega) (by omega), Val.eta]
  refine (rargs_loop (q17z m) m _ _ g at_ (.mk 4 v0 s a) (.mk 0 0 ⟨#[]⟩ []) a 0 [] hs (by simpa using h30)).trans ?_
  rw [List.nil_append]
  generalize tvals g at_ a = l at hl har hn hty sz hlen
  dsimp +instances only [tk_mk, tv_mk, tn_mk, ta_mk]
  unfold callV
  have reck : arN s = (2, true) → ((ix l 0).bind fun x7 => (ix l 1).bind fun x8 => (q20z m (s, (Ev.Val.mk x7.kind x7.n x7.s x7.l), (Ev.Val.mk x8.kind x8.n x8.s x8.l), ())).bind fun (y9, y10, _) => (bif (y10 : Int) != 0 then some ((Ev.Val.mk 0 0 (⟨#[]⟩ : ByteArray) ([] : List Ev.Val)), ()) else (q38z m ((Ev.Val.mk y9.kind y9.n y9.s y9.l), ())).bind fun (y11, _) =>
      (bif !y11 then some ((Ev.Val.mk 0 0 (⟨#[]⟩ : ByteArray) ([] : List Ev.Val)), ()) else some ((Ev.Val.mk y9.kind y9.n y9.s y9.l), ())))) = some (bif chk (reckF s (arg0 l) (arg1 l)).1 1 != 0 then zV else (reckF s (arg0 l) (arg1 l)).1, ()) := by
    intro h2
    obtain ⟨e0, e1, m0, m1⟩ := ar2 (har.two h2)
    rw [e0, Option.bind_some, e1, Option.bind_some, Val.eta, Val.eta, rreckR_ok s (hl _ m0) (hl _ m1) m (by omega), Option.bind_some]
    dsimp only
    cases hc : (reckF s (arg0 l) (arg1 l)).2 != 0 with
    | true =>
      rw [reckF_z (by simpa using hc)]
      cases chk zV 1 != 0 <;> rfl
    | false =>
      simp only [cond_false]
      rw [Val.eta, rright_ok _ m (by omega), Option.bind_some]
      dsimp only
      show (bif !(chk (reckF s (arg0 l) (arg1 l)).1 1 == 0) then some ((Ev.Val.mk 0 0 (⟨#[]⟩ : ByteArray) ([] : List Ev.Val)), ()) else some ((reckF s (arg0 l) (arg1 l)).1, ())) = _
      show (bif chk (reckF s (arg0 l) (arg1 l)).1 1 != 0 then some ((Ev.Val.mk 0 0 (⟨#[]⟩ : ByteArray) ([] : List Ev.Val)), ()) else some ((reckF s (arg0 l) (arg1 l)).1, ())) = _
      cases chk (reckF s (arg0 l) (arg1 l)).1 1 != 0 <;> rfl
  cases h1 : seq s ⟨#[43]⟩ with
  | true =>
    simp only [cond_true, Bool.true_or]
    exact reck (by rw [(seq_iff _ _).1 h1]; kernel_rfl)
  | false =>
  cases h2 : seq s ⟨#[45]⟩ with
  | true =>
    simp only [cond_true, cond_false, Bool.true_or, Bool.false_or]
    exact reck (by rw [(seq_iff _ _).1 h2]; kernel_rfl)
  | false =>
  cases h3 : seq s ⟨#[42]⟩ with
  | true =>
    simp only [cond_true, cond_false, Bool.true_or, Bool.false_or]
    exact reck (by rw [(seq_iff _ _).1 h3]; kernel_rfl)
  | false =>
  simp only [cond_false, Bool.false_or]
  cases h4 : seq s ⟨#[61]⟩ with
  | true =>
    simp only [cond_true]
    obtain ⟨e0, e1, m0, m1⟩ := ar2 (har.two (by rw [(seq_iff _ _).1 h4]; kernel_rfl))
    rw [e0, Option.bind_some, e1, Option.bind_some, Val.eta, Val.eta, sameOf_ok _ _ m (right_ok (hl _ m0)) (by have := sz _ m0; omega), Option.bind_some]
    dsimp only
    rw [Val.eta]
  | false =>
  cases h5 : seq s ⟨#[60]⟩ with
  | true =>
    simp only [cond_true, cond_false]
    obtain ⟨e0, e1, m0, m1⟩ := ar2 (har.two (by rw [(seq_iff _ _).1 h5]; kernel_rfl))
    rw [e0, Option.bind_some, e1, Option.bind_some, Val.eta, Val.eta, lessOf_ok _ _ m (right_ok (hl _ m0)) (by have := sz _ m0; omega), Option.bind_some]
    dsimp only
    rw [Val.eta]
  | false =>
  cases h6 : seq s ⟨#[60, 61]⟩ with
  | true =>
    simp only [cond_true, cond_false]
    obtain ⟨e0, e1, m0, m1⟩ := ar2 (har.two (by rw [(seq_iff _ _).1 h6]; kernel_rfl))
    have hr := lsV_rng (arg1 l) (arg0 l)
    rw [e1, Option.bind_some, e0, Option.bind_some, Val.eta, Val.eta, lessOf_ok _ _ m (right_ok (hl _ m1)) (by have := sz _ m1; omega), Option.bind_some]
    dsimp only
    rw [Val.eta, state_ok (tV_r _ hr), Option.bind_some, stV_tV hr]
    dsimp only
    rw [(ng_ix hr).1, Option.bind_some, (ng_ix hr).2, Option.bind_some, Truth_ok, Option.bind_some]
    dsimp only
    rw [Val.eta]
  | false =>
  cases h9 : seq s ⟨#[110, 111, 116]⟩ with
  | true =>
    have k7 : seq s ⟨#[97, 110, 100]⟩ = false := by rw [(seq_iff _ _).1 h9]; kernel_rfl
    have k8 : seq s ⟨#[111, 114]⟩ = false := by rw [(seq_iff _ _).1 h9]; kernel_rfl
    rw [k7, k8]
    simp only [cond_true, cond_false]
    obtain ⟨e0, m0⟩ := ar1 (har.one (by rw [(seq_iff _ _).1 h9]; kernel_rfl))
    rw [e0, Option.bind_some, Val.eta, state_ok (hl _ m0), Option.bind_some]
    dsimp only
    rw [(ng_ix (stV_rng _)).1, Option.bind_some, Truth_ok, Option.bind_some]
    dsimp only
    rw [Val.eta]
  | false =>
  cases h8 : seq s ⟨#[111, 114]⟩ with
  | true =>
    have k7 : seq s ⟨#[97, 110, 100]⟩ = false := by rw [(seq_iff _ _).1 h8]; kernel_rfl
    rw [k7]
    simp only [cond_true, cond_false]
    obtain ⟨e0, e1, m0, m1⟩ := ar2 (har.two (by rw [(seq_iff _ _).1 h8]; kernel_rfl))
    rw [e0, Option.bind_some, Val.eta, state_ok (hl _ m0), Option.bind_some]
    dsimp only
    rw [rk_ix (stV_rng _), Option.bind_some, e1, Option.bind_some, Val.eta, state_ok (hl _ m1), Option.bind_some]
    dsimp only
    rw [rk_ix (stV_rng _), Option.bind_some, rk_or (stV_rng _) (stV_rng _), rk_back orS_rng, Option.bind_some, Truth_ok, Option.bind_some]
    dsimp only
    rw [Val.eta]
  | false =>
  cases h7 : seq s ⟨#[97, 110, 100]⟩ with
  | true =>
    simp only [cond_true, cond_false]
    obtain ⟨e0, e1, m0, m1⟩ := ar2 (har.two (by rw [(seq_iff _ _).1 h7]; kernel_rfl))
    rw [e0, Option.bind_some, Val.eta, state_ok (hl _ m0), Option.bind_some]
    dsimp only
    rw [rk_ix (stV_rng _), Option.bind_some, e1, Option.bind_some, Val.eta, state_ok (hl _ m1), Option.bind_some]
    dsimp only
    rw [rk_ix (stV_rng _), Option.bind_some, rk_and (stV_rng _) (stV_rng _), rk_back ngS_rng, Option.bind_some, Truth_ok, Option.bind_some]
    dsimp only
    rw [Val.eta]
  | false =>
  simp only [cond_false]
  cases h10 : seq s ⟨#[110, 117, 108, 108]⟩ with
  | true =>
    simp only [cond_true, cond_false]
    obtain ⟨e0, m0⟩ := ar1 (har.one (by rw [(seq_iff _ _).1 h10]; kernel_rfl))
    rw [e0, Option.bind_some]
    cases (arg0 l).kind == 0 <;> rfl
  | false =>
  cases h11 : seq s ⟨#[105, 110]⟩ with
  | true =>
    simp only [cond_true, cond_false]
    obtain ⟨e0, e1, m0, m1⟩ := ar2 (har.two (by rw [(seq_iff _ _).1 h11]; kernel_rfl))
    have l1 := (right_len (hl _ m1)).1
    rw [e1, Option.bind_some]
    cases (arg1 l).kind != 4 with
    | true => rfl
    | false =>
      simp only [cond_false]
      rw [Option.bind_some, R_q17z_s3 _ m _ _ _ m _ _ _ _ _ (by omega) (by omega)]
      refine (rin_loop (q17z m) m _ _ l (arg0 l) e0 (right_ok (hl _ m0)) (by have := sz _ m0; omega) _ (arg1 l).l 0 0 (.inl rfl)).trans ?_
      dsimp only
      rw [rk_back (inS_rng _ _ _ (.inl rfl)), Option.bind_some, Truth_ok, Option.bind_some]
      dsimp only
      rw [Val.eta]
  | false =>
  cases h12 : seq s ⟨#[115, 105, 122, 101]⟩ with
  | true =>
    simp only [cond_true, cond_false]
    obtain ⟨e0, m0⟩ := ar1 (har.one (by rw [(seq_iff _ _).1 h12]; kernel_rfl))
    have ls := (right_len (hl _ m0)).2
    rw [e0, Option.bind_some]
    cases (arg0 l).kind == 3 with
    | true =>
      simp only [cond_true]
      rw [Option.bind_some, Val.eta]
      refine (rsize_loop (q17z m) m _ _ _ (arg0 l).s (arg0 l).s.size 0 0 m (by omega) (by omega) (by omega)).trans ?_
      rw [Nat.zero_add]
      rfl
    | false =>
      simp only [cond_false]
      rw [Option.bind_some]
      cases (arg0 l).kind == 4 <;> rfl
  | false =>
  cases h13 : seq s ⟨#[104, 101, 97, 100]⟩ with
  | true =>
    simp only [cond_true, cond_false]
    obtain ⟨e0, m0⟩ := ar1 (har.one (by rw [(seq_iff _ _).1 h13]; kernel_rfl))
    rw [e0, Option.bind_some]
    cases h4k : (arg0 l).kind == 4 with
    | false =>
      rw [right_l0 (hl _ m0) h4k]
      rfl
    | true =>
      simp only [cond_true]
      cases hll : (arg0 l).l with
      | nil => rfl
      | cons x r =>
        have : decide (((x :: r).length : Int) > 0) = true := by simp
        rw [this]
        simp only [cond_true]
        rw [Option.bind_some, hll]
        show some (Val.mk x.kind x.n x.s x.l, ()) = some (x, ())
        rw [Val.eta]
  | false =>
  cases h14 : seq s ⟨#[99, 111, 97, 108, 101, 115, 99, 101]⟩ with
  | true =>
    simp only [cond_true, cond_false]
    rw [R_q17z_s7 _ m _ _ l m _ (by omega) (by omega)]
    exact rcoal_loop _ m _ _ rfl l 0
  | false =>
  cases h15 : seq s ⟨#[108, 105, 115, 116]⟩ with
  | true =>
    simp only [cond_true, cond_false]
    rw [rright_ok _ m (by omega), Option.bind_some]
    dsimp only
    cases chk (.mk 4 0 ⟨#[]⟩ l) 1 == 0 <;> rfl
  | false =>
  cases h16 : seq s ⟨#[105, 100]⟩ with
  | true =>
    simp only [cond_true, cond_false]
    obtain ⟨e0, m0⟩ := ar1 (har.one (by rw [(seq_iff _ _).1 h16]; kernel_rfl))
    rw [e0, Option.bind_some, Val.eta]
  | false =>
  cases h17 : seq s ⟨#[116, 121, 112, 101]⟩ with
  | true =>
    simp only [cond_true, cond_false]
    obtain ⟨e0, m0⟩ := ar1 (har.one (by rw [(seq_iff _ _).1 h17]; kernel_rfl))
    have he := hty h17
    rw [e0, Option.bind_some, edgeAt_ok _ _ m hg.riseE.2 (by omega), Option.bind_some]
    dsimp only
    cases hx : edgeIn g.edges (arg0 l).n with
    | none => rw [hx] at he; cases he
    | some x => rfl
  | false => rfl
theorem rvalue_ok {g : Graph} (hg : GOk g) {at_ : List (ByteArray × Int)} (ha : atOk at_) {b : List (ByteArray × Bool)} (hb : EB g b at_) (t : Term) : ∀ d, tOk t → tchk b t d = 0 →
    ∃ N, ∀ n, N ≤ n → q17z n (g, at_, t, ()) = some (tval g at_ t, ()) := by
  induction t using term_ind with
  | _ k v s a ih =>
    intro d ht hc
    have ht0 := ht
    rw [tOk, tOks_iff] at ht
    have hr := tr_of hc
    cases hr with
    | const v s a d h6 hv =>
      refine ⟨1, fun n hn => ?_⟩
      obtain ⟨m, rfl⟩ : ∃ m, n = m + 1 := ⟨n - 1, by omega⟩
      rw [q17z, tval]
      unfold q17z_b
      dsimp +instances only [tk_mk, tv_mk]
      rw [Val.eta]
      rfl
    | var v s a d h6 hm =>
      refine ⟨1, fun n hn => ?_⟩
      obtain ⟨m, rfl⟩ : ∃ m, n = m + 1 := ⟨n - 1, by omega⟩
      rw [q17z, tval]
      rfl
    | field v s a d h6 e1 e2 =>
      refine ⟨201, fun n hn => ?_⟩
      obtain ⟨m, rfl⟩ : ∃ m, n = m + 1 := ⟨n - 1, by omega⟩
      rw [q17z, tval]
      unfold q17z_b
      dsimp +instances only [tk_mk, tv_mk, tn_mk, ta_mk]
      rw [show ((3 : Int) == 1) = false from rfl, show ((3 : Int) == 2) = false from rfl, show ((3 : Int) == 3) = true from rfl]
      simp only [cond_false, cond_true]
      rw [e1, Option.bind_some, show (Graph.mk g.nodes g.edges g.next) = g from rfl, nodeAt_ok _ _ m hg.riseN.2 (by omega), Option.bind_some, edgeAt_ok _ _ m hg.riseE.2 (by omega), Option.bind_some]
      dsimp only
      unfold fldV
      cases h1 : nodeIn g.nodes (mpGet .str .i64 0 at_ (hdT a).name) with
      | some x =>
        have hp := hg.propsN (nodeIn_mem h1)
        show ((q34z m (x.props, s, ())).bind _) = _
        rw [propOf_ok _ _ m (by omega) hp.1, Option.bind_some]
        dsimp only
        rw [Val.eta]
      | none =>
        cases h2 : edgeIn g.edges (mpGet .str .i64 0 at_ (hdT a).name) with
        | none => rfl
        | some x =>
          have hp := hg.propsE (edgeIn_mem h2)
          show ((q34z m (x.props, s, ())).bind _) = _
          rw [propOf_ok _ _ m (by omega) hp.1, Option.bind_some]
          dsimp only
          rw [Val.eta]
    | call v s a d h6 har h30 hs hlst hz =>
      have hall : ∀ x ∈ a, ∃ N, ∀ n, N ≤ n → q17z n (g, at_, x, ()) = some (tval g at_ x, ()) := fun x hx => ih x hx (d + 1) (ht.2.2.2.2 x hx) (hs x hx)
      have hR : ∀ y ∈ tvals g at_ a, Right y 1 := by
        rw [tvals_map]
        intro y hy
        obtain ⟨x, hx, rfl⟩ := List.mem_map.1 hy
        exact (value_ok hg ha b x (d + 1) (ht.2.2.2.2 x hx) (hs x hx)).2
      have hlen : (tvals g at_ a).length = a.length := by rw [tvals_map, List.length_map]
      obtain ⟨N, hN⟩ := all_N a hall
      refine ⟨N + lSz (tvals g at_ a) + 5001, fun n hn => ?_⟩
      obtain ⟨m, rfl⟩ : ∃ m, n = m + 1 := ⟨n - 1, by omega⟩
      rw [tval]
      refine rcall_ok hg at_ v s a m h30 (fun x hx => hN m (by omega) x hx) hR (by rw [hlen]; exact har) (by omega) fun hty => ?_
      have ha1 : a.length = 1 := har.one (by rw [(seq_iff _ _).1 hty]; kernel_rfl)
      obtain ⟨x, rfl⟩ : ∃ x, a = [x] := by
        match a, ha1 with
        | [x], _ => exact ⟨x, rfl⟩
      unfold lstB at hlst
      rw [show seq s ⟨#[105, 100]⟩ = false by rw [(seq_iff _ _).1 hty]; kernel_rfl, hty] at hlst
      simp only [cond_true, cond_false] at hlst
      have hx : hdT [x] = x := rfl
      rw [hx] at hlst
      cases hk : x.kind != 2 with
      | true => rw [hk] at hlst; cases hlst
      | false =>
        rw [hk, cond_false] at hlst
        cases hge : mpGet .str .bool false b x.name with
        | false => rw [hge] at hlst; cases hlst
        | true =>
          have := hb _ hge
          obtain ⟨k', v', s', a'⟩ := x
          rw [tk_mk] at hk
          have hk2 : k' = 2 := by simpa using hk
          subst hk2
          exact this
end Pure
/- TermEval. No program. -/
namespace Pure
open Esp Ev Go
set_option linter.unusedSimpArgs false
set_option linter.unusedVariables false
theorem termed_ok2 (n : Nat) : q28z (n + 60) () = some (true, ()) := by kernel_rfl
theorem edgF_node {nodes : List Ev.Node} : ∀ {l : List Edg} {last : Int}, edgF nodes last l = 0 → ∀ x ∈ l, (nodeIn nodes x.id).isSome = false
  | [], _, _ => fun x hx => (by cases hx)
  | y :: r, last, h => by
    rw [edgF] at h
    cases h1 : decide (y.id ≤ last) with
    | true => rw [h1] at h; cases h
    | false =>
    rw [h1, cond_false] at h
    cases h2 : (nodeIn nodes y.id).isSome with
    | true => rw [h2] at h; cases h
    | false =>
    rw [h2, cond_false] at h
    cases h3 : nmB y.type with
    | false => rw [h3] at h; cases h
    | true =>
    rw [h3, Bool.not_true, cond_false] at h
    cases h4 : (nodeIn nodes y.src).isNone with
    | true => rw [h4] at h; cases h
    | false =>
    rw [h4, cond_false] at h
    cases h5 : (nodeIn nodes y.dst).isNone with
    | true => rw [h5] at h; cases h
    | false =>
    rw [h5, cond_false] at h
    cases h6 : prpE y.props != 0 with
    | true => rw [h6, cond_true] at h; rw [h] at h6; cases h6
    | false =>
    rw [h6, cond_false] at h
    intro x hx
    rcases List.mem_cons.1 hx with rfl | hx
    · exact h2
    · exact edgF_node h x hx
theorem GOk.either {g : Graph} (h : GOk g) {i : Int} {x : Ev.Node} (hx : nodeIn g.nodes i = some x) : edgeIn g.edges i = none := by
  cases he : edgeIn g.edges i with
  | none => rfl
  | some y =>
    have h1 := edgF_node (chkG_0 h.cg).2.2.2 y (edgeIn_mem he)
    have h2 : y.id = i := by
      have := List.find?_some he
      simpa using this
    rw [h2, hx] at h1
    cases h1
theorem envF_EB (g : Graph) : ∀ (l : List (ByteArray × Int)) (b : List (ByteArray × Bool)) (a : List (ByteArray × Int)), EB g b a → EB g (envF g l b a).2.1 (envF g l b a).2.2
  | [], b, a, h => h
  | p :: r, b, a, h => by
    rw [envF]
    cases mpHas .str .bool b p.1 with
    | true => exact h
    | false =>
      cases (nodeIn g.nodes p.2).isNone && (edgeIn g.edges p.2).isNone with
      | true => exact h
      | false =>
        refine envF_EB g r _ _ fun s hs => ?_
        rw [mpGet_put (vt := .bool)] at hs
        rw [mpGet_put (vt := .i64)]
        cases hk : seq s p.1 with
        | true => rw [hk] at hs; exact hs
        | false => rw [hk] at hs; exact h s hs
theorem law_exit {ρ : Type} {n : Nat} {kx : Int × Int × (Graph × Unit) × (Term × Unit) × (Val × Unit) × List (ByteArray × Int) × List (ByteArray × Int) × Unit → Option ρ} {kr : Unit → Option ρ} {all : List ByteArray} {ids : List Int} {e bad i : Int} {g : Graph} {t : Term} {v : Val} {B A : List (ByteArray × Int)} {fuel : Nat}
    (h : bad ≠ 0 ∨ ¬ i < (all.length : Int)) (hf : 0 < fuel) : iterN (fun rc => q19z_s0 n rc kx kr) fuel (all, ids, e, bad, i, (g, ()), (t, ()), (v, ()), B, A, ()) = kx (e, bad, (g, ()), (t, ()), (v, ()), B, A, ()) := by
  obtain ⟨m, rfl⟩ : ∃ m, fuel = m + 1 := ⟨fuel - 1, by omega⟩
  rw [iterN]
  generalize iterN (fun rc => q19z_s0 n rc kx kr) m = R
  unfold q19z_s0
  dsimp only
  have : ((bad == 0) && decide (i < (all.length : Int))) = false := by
    rw [Bool.and_eq_false_iff]
    rcases h with h | h
    · exact .inl (by simpa using h)
    · exact .inr (by simpa using h)
  rw [this, cond_false, Term.eta2, Val.eta]
theorem law_loop {g : Graph} (hg : GOk g) (n : Nat) (hn : 100 ≤ n) (ids : List Int) (e : Int) (t : Term) (v : Val) (all : List ByteArray) (h30 : all.length ≤ 30) :
    ∀ (r q : List ByteArray) (ri qi : List Int) (B : List (ByteArray × Int)) (b : List (ByteArray × Bool)) (A : List (ByteArray × Int)), all = q ++ r → ids = qi ++ ri → q.length = qi.length → r.length = ri.length → RB B b →
      ∃ B' A', ((envF g (r.zip ri) b A).1 = 0 → RB B' (envF g (r.zip ri) b A).2.1 ∧ A' = (envF g (r.zip ri) b A).2.2) ∧
        ∀ {ρ : Type} (kx : Int × Int × (Graph × Unit) × (Term × Unit) × (Val × Unit) × List (ByteArray × Int) × List (ByteArray × Int) × Unit → Option ρ) (kr : Unit → Option ρ) (fuel : Nat), r.length < fuel →
          iterN (fun rc => q19z_s0 n rc kx kr) fuel (all, ids, e, 0, (q.length : Int), (g, ()), (t, ()), (v, ()), B, A, ()) = kx (e, (envF g (r.zip ri) b A).1, (g, ()), (t, ()), (v, ()), B', A', ()) := by
  intro r
  induction r with
  | nil =>
    intro q ri qi B b A h1 h2 h3 h4 hB
    refine ⟨B, A, fun _ => ⟨hB, rfl⟩, fun kx kr fuel hf => ?_⟩
    exact law_exit (.inr (by rw [h1]; simp)) hf
  | cons s r ih =>
    intro q ri qi B b A h1 h2 h3 h4 hB
    match ri, h4 with
    | i :: ri, h4 =>
    have e1 : ix all (q.length : Int) = some s := ix_ok (by rw [h1]; simp)
    have e2 : ix ids (q.length : Int) = some i := by rw [h3]; exact ix_ok (by rw [h2]; simp)
    have hlen : all.length = q.length + (r.length + 1) := by rw [h1]; simp
    have hw : IntKind.wrap .i64 ((q.length : Int) + 1) = ((q ++ [s]).length : Int) := by rw [wrap64 (by omega) (by omega)]; simp
    have hlt : decide ((q.length : Int) < (all.length : Int)) = true := by rw [decide_eq_true_iff]; omega
    have hset : ∀ (M : List (ByteArray × Int)) (y x : Int), mpSetAt .str .i64 (mpPut .str .i64 M s y) ((mpIdx .str .i64 M s : Nat) : Int) x = some (mpPut .str .i64 M s x) := fun M y x => mp_setAt (kt := .str) (vt := .i64) s y x M (keyS s)
    have hbad : (mpGet .str .i64 0 B s != 0) = mpHas .str .bool b s := by
      have := hB.has s
      rw [bne, this, Bool.not_not]
    rw [List.zip_cons_cons, envF]
    dsimp only
    cases hh : mpHas .str .bool b s with
    | true =>
      rw [cond_true]
      cases hnd : nodeIn g.nodes i with
      | some x =>
        refine ⟨mpPut .str .i64 B s 1, mpPut .str .i64 A s i, (fun h => absurd h (show ¬ (7 : Int) = 0 by decide)), fun kx kr fuel hf => ?_⟩
        obtain ⟨m, rfl⟩ : ∃ m, fuel = m + 1 := ⟨fuel - 1, by omega⟩
        rw [iterN]
        have ex := fun B A => law_exit (kx := kx) (kr := kr) (n := n) (all := all) (ids := ids) (e := e) (bad := 7) (i := ((q ++ [s]).length : Int)) (g := g) (t := t) (v := v) (B := B) (A := A) (fuel := m) (.inl (by decide)) (by simp at hf; omega)
        generalize iterN (fun rc => q19z_s0 n rc kx kr) m = R at ex
        unfold q19z_s0
        dsimp only
        rw [hlt, e1, e2]
        simp only [Bool.and_true, beq_self_eq_true, cond_true, cond_false, Option.bind_some, hbad, hh, hset]
        rw [nodeAt_ok _ _ n hg.riseN.2 (by omega), Option.bind_some]
        dsimp only
        rw [hnd]
        rw [optC]
        rw [hw, Term.eta2, Val.eta]
        exact ex _ _
      | none =>
        cases hed : edgeIn g.edges i with
        | some x =>
          refine ⟨mpPut .str .i64 B s 2, mpPut .str .i64 A s i, (fun h => absurd h (show ¬ (7 : Int) = 0 by decide)), fun kx kr fuel hf => ?_⟩
          obtain ⟨m, rfl⟩ : ∃ m, fuel = m + 1 := ⟨fuel - 1, by omega⟩
          rw [iterN]
          have ex := fun B A => law_exit (kx := kx) (kr := kr) (n := n) (all := all) (ids := ids) (e := e) (bad := 7) (i := ((q ++ [s]).length : Int)) (g := g) (t := t) (v := v) (B := B) (A := A) (fuel := m) (.inl (by decide)) (by simp at hf; omega)
          generalize iterN (fun rc => q19z_s0 n rc kx kr) m = R at ex
          unfold q19z_s0
          dsimp only
          rw [hlt, e1, e2]
          simp only [Bool.and_true, beq_self_eq_true, cond_true, cond_false, Option.bind_some, hbad, hh, hset]
          rw [nodeAt_ok _ _ n hg.riseN.2 (by omega), Option.bind_some, edgeAt_ok _ _ n hg.riseE.2 (by omega), Option.bind_some]
          dsimp only
          rw [hnd, hed, optC, optC]
          rw [hw, Term.eta2, Val.eta]
          exact ex _ _
        | none =>
          refine ⟨mpPut .str .i64 B s 0, mpPut .str .i64 A s i, (fun h => absurd h (show ¬ (7 : Int) = 0 by decide)), fun kx kr fuel hf => ?_⟩
          obtain ⟨m, rfl⟩ : ∃ m, fuel = m + 1 := ⟨fuel - 1, by omega⟩
          rw [iterN]
          have ex := fun B A => law_exit (kx := kx) (kr := kr) (n := n) (all := all) (ids := ids) (e := e) (bad := 7) (i := ((q ++ [s]).length : Int)) (g := g) (t := t) (v := v) (B := B) (A := A) (fuel := m) (.inl (by decide)) (by simp at hf; omega)
          generalize iterN (fun rc => q19z_s0 n rc kx kr) m = R at ex
          unfold q19z_s0
          dsimp only
          rw [hlt, e1, e2]
          simp only [Bool.and_true, beq_self_eq_true, cond_true, cond_false, Option.bind_some, hbad, hh, hset]
          rw [nodeAt_ok _ _ n hg.riseN.2 (by omega), Option.bind_some, edgeAt_ok _ _ n hg.riseE.2 (by omega), Option.bind_some]
          dsimp only
          rw [hnd, hed, optC, optC]
          rw [hw, Term.eta2, Val.eta]
          exact ex _ _
    | false =>
      rw [cond_false]
      cases hnd : nodeIn g.nodes i with
      | some x =>
        have hed := hg.either hnd
        rw [hed]
        simp only [Option.isNone_some, Option.isSome_none, Bool.false_and, cond_false]
        obtain ⟨B', A', h5, h6⟩ := ih (q ++ [s]) ri (qi ++ [i]) (mpPut .str .i64 B s 1) (mpPut .str .bool b s false) (mpPut .str .i64 A s i) (by rw [h1]; simp) (by rw [h2]; simp) (by simp [h3]) (by simpa using h4) (hB.put s false)
        refine ⟨B', A', h5, fun kx kr fuel hf => ?_⟩
        obtain ⟨m, rfl⟩ : ∃ m, fuel = m + 1 := ⟨fuel - 1, by omega⟩
        rw [iterN]
        have ex := h6 kx kr m (by simp at hf; omega)
        generalize iterN (fun rc => q19z_s0 n rc kx kr) m = R at ex
        unfold q19z_s0
        dsimp only
        rw [hlt, e1, e2]
        simp only [Bool.and_true, beq_self_eq_true, cond_true, cond_false, Option.bind_some, hbad, hh, hset]
        rw [nodeAt_ok _ _ n hg.riseN.2 (by omega), Option.bind_some]
        dsimp only
        rw [hnd, optC]
        rw [hw, Term.eta2, Val.eta]
        exact ex
      | none =>
        cases hed : edgeIn g.edges i with
        | some x =>
          simp only [Option.isNone_none, Option.isNone_some, Option.isSome_some, Bool.and_false, cond_false]
          obtain ⟨B', A', h5, h6⟩ := ih (q ++ [s]) ri (qi ++ [i]) (mpPut .str .i64 B s 2) (mpPut .str .bool b s true) (mpPut .str .i64 A s i) (by rw [h1]; simp) (by rw [h2]; simp) (by simp [h3]) (by simpa using h4) (hB.put s true)
          refine ⟨B', A', h5, fun kx kr fuel hf => ?_⟩
          obtain ⟨m, rfl⟩ : ∃ m, fuel = m + 1 := ⟨fuel - 1, by omega⟩
          rw [iterN]
          have ex := h6 kx kr m (by simp at hf; omega)
          generalize iterN (fun rc => q19z_s0 n rc kx kr) m = R at ex
          unfold q19z_s0
          dsimp only
          rw [hlt, e1, e2]
          simp only [Bool.and_true, beq_self_eq_true, cond_true, cond_false, Option.bind_some, hbad, hh, hset]
          rw [nodeAt_ok _ _ n hg.riseN.2 (by omega), Option.bind_some, edgeAt_ok _ _ n hg.riseE.2 (by omega), Option.bind_some]
          dsimp only
          rw [hnd, hed, optC, optC]
          rw [hw, Term.eta2, Val.eta]
          exact ex
        | none =>
          simp only [Option.isNone_none, Bool.and_true, cond_true]
          refine ⟨mpPut .str .i64 B s 0, mpPut .str .i64 A s i, (fun h => absurd h (show ¬ (5 : Int) = 0 by decide)), fun kx kr fuel hf => ?_⟩
          obtain ⟨m, rfl⟩ : ∃ m, fuel = m + 1 := ⟨fuel - 1, by omega⟩
          rw [iterN]
          have ex := fun B A => law_exit (kx := kx) (kr := kr) (n := n) (all := all) (ids := ids) (e := e) (bad := 5) (i := ((q ++ [s]).length : Int)) (g := g) (t := t) (v := v) (B := B) (A := A) (fuel := m) (.inl (by decide)) (by simp at hf; omega)
          generalize iterN (fun rc => q19z_s0 n rc kx kr) m = R at ex
          unfold q19z_s0
          dsimp only
          rw [hlt, e1, e2]
          simp only [Bool.and_true, beq_self_eq_true, cond_true, cond_false, Option.bind_some, hbad, hh, hset]
          rw [nodeAt_ok _ _ n hg.riseN.2 (by omega), Option.bind_some, edgeAt_ok _ _ n hg.riseE.2 (by omega), Option.bind_some]
          dsimp only
          rw [hnd, hed, optC, optC]
          rw [hw, Term.eta2, Val.eta]
          exact ex _ _
theorem termEval_ok {g : Graph} (hok : gOk g) (names : List ByteArray) (ids : List Int) (hi : ∀ i ∈ ids, wfI .i64 i) (t : Term) (ht : tOk t) : ∃ N, ∀ n, N ≤ n → q19z n (g, names, ids, t, ()) = some (true, ()) := by
  obtain ⟨N1, h1⟩ := eval_ok hok names ids hi t ht
  have hat := set_at (g := g) (names := names) hi
  have main : ∀ n, N1 + 400 ≤ n → ((chkG g = 0 ∧ (setR g names ids).1 = 0 ∧ tchk (setR g names ids).2.1 t 1 = 0 ∧ (((names.length : Int) != (ids.length : Int)) || decide ((names.length : Int) > 30)) = false) → q17z n (g, (setR g names ids).2.2, t, ()) = some (tval g (setR g names ids).2.2 t, ()) ∧ Right (tval g (setR g names ids).2.2 t) 1) →
      q19z n (g, names, ids, t, ()) = some (true, ()) := by
    intro n hn hv
    have td : q28z n () = some (true, ()) := by
      obtain ⟨m, rfl⟩ : ∃ m, n = m + 60 := ⟨n - 60, by omega⟩
      exact termed_ok2 m
    have nn : q44z n (zV, ()) = some (true, ()) := none_ok n (by omega)
    unfold q19z
    dsimp only
    rw [show (Graph.mk g.nodes g.edges g.next) = g from rfl, Term.eta2, h1 n (by omega), Option.bind_some]
    dsimp only
    rw [rgcheck_ok g n (by omega), Option.bind_some]
    dsimp only
    rw [Val.eta]
    cases hc : (chkG g == 0) && (((names.length : Int) != (ids.length : Int)) || decide ((names.length : Int) > 30)) with
    | true =>
      rw [Bool.and_eq_true] at hc
      have hs : setR g names ids = (2, [], []) := by
        unfold setR
        rw [show (chkG g != 0) = false by rw [bne, hc.1]; rfl, hc.2]
        rfl
      have he : evalR g names ids t = (zV, 2) := by
        unfold evalR
        rw [hs]
        rfl
      rw [he]
      simp only [cond_true]
      rw [law_exit (.inl (by decide)) (by omega)]
      dsimp only
      rw [show ((2 : Int) == 0) = false from rfl]
      simp only [cond_false]
      rw [td, Option.bind_some]
      dsimp only
      rw [show ((!true) || ((2 : Int) != 0)) = true from rfl]
      simp only [cond_true]
      rw [Option.bind_some]
      dsimp only
      rw [show (true && ((2 : Int) == 2)) = true from rfl]
      simp only [cond_true]
      rw [Val.eta, nn]
      rfl
    | false =>
      simp only [cond_false]
      by_cases hg0 : chkG g = 0
      · have hl : (((names.length : Int) != (ids.length : Int)) || decide ((names.length : Int) > 30)) = false := by
          rw [hg0] at hc
          exact hc
        have hl0 := hl
        rw [Bool.or_eq_false_iff] at hl
        have h30 := of_decide_eq_false hl.2
        have hle : names.length = ids.length := by have := hl.1; simp at this; omega
        have hg : GOk g := ⟨hok, hg0⟩
        have hs : setR g names ids = envF g (names.zip ids) [] [] := by
          unfold setR
          rw [show (chkG g != 0) = false by rw [hg0]; rfl, hl0]
          rfl
        obtain ⟨B, A, h2, h3⟩ := law_loop hg n (by omega) ids (evalR g names ids t).2 t (evalR g names ids t).1 names (by omega) names [] ids [] [] [] [] rfl rfl rfl hle RB.nil
        rw [hg0]
        have h3' := fun {ρ : Type} kx kr => h3 (ρ := ρ) kx kr n (by omega)
        rw [show (([] : List ByteArray).length : Int) = 0 from rfl] at h3'
        rw [h3']
        dsimp only
        rw [hs] at hv hat
        have hevr : evalR g names ids t = bif (envF g (names.zip ids) [] []).1 != 0 then (zV, (envF g (names.zip ids) [] []).1) else bif tchk (envF g (names.zip ids) [] []).2.1 t 1 != 0 then (zV, tchk (envF g (names.zip ids) [] []).2.1 t 1) else (tval g (envF g (names.zip ids) [] []).2.2 t, 0) := by
          unfold evalR
          rw [hs]
        generalize envF g (names.zip ids) [] [] = E at h2 hv hat hevr
        rw [hevr]
        cases hE : E.1 != 0 with
        | true =>
          rw [show (E.1 == 0) = false by rw [bne] at hE; simpa using hE]
          simp only [cond_true, cond_false]
          rw [td, Option.bind_some]
          dsimp only
          rw [Bool.or_true, cond_true, Option.bind_some]
          dsimp only
          rw [beq_self_eq_true, Bool.and_true, cond_true, Val.eta, nn]
          rfl
        | false =>
          have hE0 : E.1 = 0 := by simpa using hE
          obtain ⟨hB, hA⟩ := h2 hE0
          rw [hE0]
          simp only [beq_self_eq_true, cond_true, cond_false]
          rw [Term.eta2, rtcheck_ok hB t 1 n (by omega) (by omega) (by omega), Option.bind_some]
          dsimp only
          rw [td, Option.bind_some]
          dsimp only
          cases hk : tchk E.2.1 t 1 != 0 with
          | true =>
            simp only [cond_true, Bool.or_true]
            rw [Option.bind_some]
            dsimp only
            rw [beq_self_eq_true, Bool.and_true, cond_true, Val.eta, nn]
            rfl
          | false =>
            have hk0 : tchk E.2.1 t 1 = 0 := by simpa using hk
            obtain ⟨v1, v2⟩ := hv ⟨hg0, hE0, hk0, hl0⟩
            rw [Bool.not_true, Bool.or_false]
            simp only [cond_false, beq_self_eq_true, cond_true]
            rw [hA, show (Graph.mk g.nodes g.edges g.next) = g from rfl, v1, Option.bind_some]
            dsimp only
            rw [Val.eta, same_ok v2 n (by omega)]
            rfl
      · have hne : (chkG g != 0) = true := by simpa using hg0
        have hs : setR g names ids = (chkG g, [], []) := by
          unfold setR
          rw [hne]
          rfl
        have he : evalR g names ids t = (zV, chkG g) := by
          unfold evalR
          rw [hs]
          dsimp only
          rw [hne]
          rfl
        rw [he, law_exit (.inl hg0) (by omega)]
        dsimp only
        rw [show (chkG g == 0) = false by rw [bne] at hne; simpa using hne]
        simp only [cond_false]
        rw [td, Option.bind_some]
        dsimp only
        rw [hne, Bool.or_true, cond_true, Option.bind_some]
        dsimp only
        rw [beq_self_eq_true, Bool.and_true, cond_true, Val.eta, nn]
        rfl
  by_cases h : chkG g = 0 ∧ (setR g names ids).1 = 0 ∧ tchk (setR g names ids).2.1 t 1 = 0 ∧ (((names.length : Int) != (ids.length : Int)) || decide ((names.length : Int) > 30)) = false
  · have hg : GOk g := ⟨hok, h.1⟩
    have hEB : EB g (setR g names ids).2.1 (setR g names ids).2.2 := by
      have h0 : EB g [] [] := fun s hs => by cases hs
      unfold setR
      rw [show (chkG g != 0) = false by rw [h.1]; rfl, h.2.2.2]
      exact envF_EB g _ [] [] h0
    obtain ⟨N, hN⟩ := rvalue_ok hg hat hEB t 1 ht h.2.2.1
    have hR := (value_ok hg hat _ t 1 ht h.2.2.1).2
    exact ⟨N + N1 + 400, fun n hn => main n (by omega) fun _ => ⟨hN n (by omega), hR⟩⟩
  · exact ⟨N1 + 400, fun n hn => main n hn fun h' => absurd h' h⟩
end Pure

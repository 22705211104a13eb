/- Several texts in one (merge.py). -/
import Derived.Test.YtdnhnpfommlfbaaDoorPS
import Derived.Test.YtdnhnpfommlfbaaDoorPA
import Derived.KernelRfl
import Derived.Test.YtdnhnpfommlfbaaDoorEvRead3
/- Values that are right, reckoned with: in closed form. No program. -/
namespace Pure
open Esp Ev Go
set_option linter.unusedSimpArgs false
set_option linter.unusedVariables false

theorem right_chk {v : Val} {d : Int} (h : Right v d) : chk v d = 0 := by
  induction h with
  | null d => rw [chk, seq_refl]; rfl
  | truth a d h => rcases h with rfl | rfl <;> (rw [chk, seq_refl]; rfl)
  | int a d h => rw [chk, seq_refl]; rfl
  | text s d h1 h2 =>
    rw [chk]
    rw [show ((3 : Int) == 0) = false from rfl, show ((3 : Int) == 1) = false from rfl, show ((3 : Int) == 2) = false from rfl, show ((3 : Int) == 3) = true from rfl, h2]
    simp only [cond_false, cond_true]
    rw [show decide ((s.size : Int) > 4000) = false by rw [decide_eq_false_iff_not]; omega]
    rfl
  | list l d h1 h2 h3 ih =>
    have hc : ∀ (r : List Val), (∀ x ∈ r, chk x (d + 1) = 0) → chks r (d + 1) = 0 := by
      intro r
      induction r with
      | nil => intro _; rfl
      | cons x r ih2 =>
        intro hr
        rw [chks, hr x (by simp)]
        exact ih2 fun y hy => hr y (by simp [hy])
    rw [chk, hc l ih]
    rw [show ((4 : Int) == 0) = false from rfl, show ((4 : Int) == 1) = false from rfl, show ((4 : Int) == 2) = false from rfl, show ((4 : Int) == 3) = false from rfl, show ((4 : Int) == 4) = true from rfl]
    simp only [cond_false, cond_true]
    rw [show decide ((l.length : Int) > 30) = false by rw [decide_eq_false_iff_not]; omega, show decide (d > 6) = false by rw [decide_eq_false_iff_not]; omega, seq_refl]
    rfl
theorem right_ok {v : Val} {d : Int} (h : Right v d) : vOk v := by
  induction h with
  | null d => rw [vOk, vOks_iff]; exact ⟨by unfold wfI; decide, by unfold wfI; decide, Nat.zero_le _, Nat.zero_le _, fun x hx => by cases hx⟩
  | truth n d h =>
    rw [vOk, vOks_iff]
    refine ⟨by unfold wfI; decide, ?_, Nat.zero_le _, Nat.zero_le _, fun x hx => by cases hx⟩
    rcases h with rfl | rfl <;> (unfold wfI; decide)
  | int n d h => rw [vOk, vOks_iff]; exact ⟨by unfold wfI; decide, h, Nat.zero_le _, Nat.zero_le _, fun x hx => by cases hx⟩
  | text s d h1 h2 => rw [vOk, vOks_iff]; exact ⟨by unfold wfI; decide, by unfold wfI; decide, by unfold maxLen; omega, Nat.zero_le _, fun x hx => by cases hx⟩
  | list l d h1 h2 h3 ih => rw [vOk, vOks_iff]; exact ⟨by unfold wfI; decide, by unfold wfI; decide, Nat.zero_le _, by unfold maxLen; omega, ih⟩
theorem right_mono {v : Val} {d : Int} (h : Right v d) : ∀ d', d' ≤ d → Right v d' := by
  induction h with
  | null d => exact fun d' _ => .null d'
  | truth n d h => exact fun d' _ => .truth n d' h
  | int n d h => exact fun d' _ => .int n d' h
  | text s d h1 h2 => exact fun d' _ => .text s d' h1 h2
  | list l d h1 h2 h3 ih => exact fun d' hd => .list l d' h1 (by omega) fun x hx => ih x hx (d' + 1) (by omega)
theorem right_len {v : Val} {d : Int} (h : Right v d) : v.l.length ≤ 30 ∧ v.s.size ≤ 4000 := by
  cases h with
  | null => exact ⟨Nat.zero_le _, Nat.zero_le _⟩
  | truth => exact ⟨Nat.zero_le _, Nat.zero_le _⟩
  | int => exact ⟨Nat.zero_le _, Nat.zero_le _⟩
  | text s d h1 h2 => exact ⟨Nat.zero_le _, h1⟩
  | list l d h1 h2 h3 => exact ⟨h1, Nat.zero_le _⟩
theorem right_in {v : Val} {d : Int} (h : Right v d) : v.kind = 2 → inR v.n = true := by
  intro hk
  cases h with
  | int n d h => exact h
  | null => simp [kind_mk] at hk
  | truth => simp [kind_mk] at hk
  | text => simp [kind_mk] at hk
  | list => simp [kind_mk] at hk
theorem right_sub {v : Val} {d : Int} (h : Right v d) : ∀ x ∈ v.l, Right x (d + 1) := by
  cases h with
  | list l d h1 h2 h3 => exact h3
  | null => intro x hx; cases hx
  | truth => intro x hx; cases hx
  | int => intro x hx; cases hx
  | text => intro x hx; cases hx
theorem roomQ {n b : Nat} (h : n ≤ 1000) (hb : b ≤ 1000) : room n b = true := room_ok h hb
theorem copyOwn_right {v : Val} (h : Right v 1) (n : Nat) (hn : 60 ≤ n) : value_Copy_own n (v, ()) = some ((v.kind, v.n, v.s, ()), v.l, ()) := by
  have hl := (right_len h).1
  have hs := right_sub h
  obtain ⟨k, a, s, l⟩ := v
  unfold value_Copy_own
  dsimp +instances only [kind_mk, n_mk, s_mk, l_mk]
  rw [l_mk] at hl hs
  rw [R_value_Copy_own_s0 n _ _ l n _ _ _ (by omega) (by omega)]
  have key : ∀ (r p : List Val) (i : Int), (∀ x ∈ r, Right x 2) → p.length + r.length ≤ 30 →
      foldK (F_value_Copy_own_s0 n (fun _ => none)) (fun (z : (Int × Int × ByteArray × Unit) × (Val × Unit) × List Val × Unit) => some ((z.1.1, z.1.2.1, z.1.2.2.1, ()), z.2.2.1, ())) i r ((k, a, s, ()), ((.mk 0 0 ⟨#[]⟩ []), ()), p, ()) = some ((k, a, s, ()), p ++ r, ()) := by
    intro r
    induction r with
    | nil => intro p i _ _; simp [foldK]
    | cons x r ih =>
      intro p i hx hl
      have h1 := right_chk (hx x (by simp))
      rw [foldK]
      generalize hR : foldK (F_value_Copy_own_s0 n (fun _ => none)) _ (i + 1) r = R
      unfold F_value_Copy_own_s0
      dsimp only
      rw [Val.eta, copy_ok x 2 n (by omega) (by omega) (by simp; omega) h1, Option.bind_some]
      dsimp only
      rw [Val.eta, ck_ok (roomQ (by simp at hl ⊢; omega) (by omega)), ← hR]
      refine (ih (p ++ [x]) (i + 1) (fun y hy => hx y (by simp [hy])) (by simp at hl ⊢; omega)).trans ?_
      simp
  exact (key l [] 0 hs (by simp; omega)).trans (by simp)
/-- what a whole number comes to -/
def gI (z : Int) : Val × Int := (bif inR z then nV z else zV, bif inR z then 0 else 4)
/-- what two right values come to -/
def reckF (sg : ByteArray) (a b : Val) : Val × Int :=
  bif (seq sg ⟨#[43]⟩ || seq sg ⟨#[45]⟩) || seq sg ⟨#[42]⟩ then
    (bif (a.kind == 0) || (b.kind == 0) then (zV, 0)
    else bif (a.kind == 2) && (b.kind == 2) then gI (bif seq sg ⟨#[43]⟩ then a.n + b.n else bif seq sg ⟨#[45]⟩ then a.n - b.n else a.n * b.n)
    else bif (seq sg ⟨#[43]⟩ && (a.kind == 3)) && (b.kind == 3) then (bif decide (((a.s.size + b.s.size : Nat) : Int) > 4000) then (zV, 2) else (.mk 3 0 (a.s ++ b.s) [], 0))
    else bif (seq sg ⟨#[43]⟩ && (a.kind == 4)) && (b.kind == 4) then (bif decide (((a.l.length + b.l.length : Nat) : Int) > 30) then (zV, 2) else (.mk 4 0 ⟨#[]⟩ (a.l ++ b.l), 0))
    else (zV, 3))
  else (zV, 5)
theorem reckR_ok (sg : ByteArray) {a b : Val} (ha : Right a 1) (hb : Right b 1) (n : Nat) (hn : 100 ≤ n) : value_Reckon n (sg, a, b, ()) = some ((reckF sg a b).1, (reckF sg a b).2, ()) := by
  have la := right_len ha
  have lb := right_len hb
  have ia := right_in ha
  have ib := right_in hb
  have ca := copyOwn_right ha n (by omega)
  have cb := copyOwn_right hb n (by omega)
  have w1 : IntKind.wrap .i64 ((a.s.size : Int) + (b.s.size : Int)) = ((a.s.size + b.s.size : Nat) : Int) := by rw [wrap64 (by omega) (by omega)]; omega
  have w2 : IntKind.wrap .i64 ((a.l.length : Int) + (b.l.length : Int)) = ((a.l.length + b.l.length : Nat) : Int) := by rw [wrap64 (by omega) (by omega)]; omega
  have c1 : cat? a.s b.s = some (a.s ++ b.s) := by unfold cat?; rw [if_pos (by omega)]
  have ints : ∀ sg : ByteArray, (a.kind == 0 || b.kind == 0) = false → (a.kind == 2 && b.kind == 2) = true → value_Reckon n (sg, a, b, ()) = value_Reckon n (sg, nV a.n, nV b.n, ()) := by
    intro sg h0 h2
    unfold value_Reckon nV
    dsimp +instances only [kind_mk, n_mk, s_mk, l_mk]
    rw [h0, h2]
    rfl
  by_cases hint : (a.kind == 2 && b.kind == 2) = true
  · have h2 := hint
    rw [Bool.and_eq_true] at h2
    have ka : a.kind = 2 := by simpa using h2.1
    have kb : b.kind = 2 := by simpa using h2.2
    have h0 : (a.kind == 0 || b.kind == 0) = false := by rw [ka, kb]; rfl
    unfold reckF gI
    rw [h0, hint]
    cases h1 : seq sg ⟨#[43]⟩ with
    | true =>
      rw [(seq_iff _ _).1 h1, ints _ h0 hint, sum_ok a.n b.n (ia ka) (ib kb) n]
      rfl
    | false =>
      cases h3 : seq sg ⟨#[45]⟩ with
      | true =>
        rw [(seq_iff _ _).1 h3, ints _ h0 hint, dif_ok a.n b.n (ia ka) (ib kb) n]
        rfl
      | false =>
        cases h4 : seq sg ⟨#[42]⟩ with
        | true =>
          rw [(seq_iff _ _).1 h4, ints _ h0 hint, prd_ok a.n b.n (ia ka) (ib kb) n]
          rfl
        | false =>
          unfold value_Reckon
          dsimp only
          rw [h1, h3, h4, h0]
          rfl
  · have hi : (a.kind == 2 && b.kind == 2) = false := by simpa using hint
    unfold value_Reckon reckF
    dsimp only
    rw [Val.eta, Val.eta, hi, w1, w2, c1, ca, cb]
    cases h1 : seq sg ⟨#[43]⟩ with
    | true =>
      cases h0 : (a.kind == 0 || b.kind == 0) with
      | true => rfl
      | false =>
        cases h3 : ((true && a.kind == 3) && b.kind == 3) with
        | true =>
          cases decide (((a.s.size + b.s.size : Nat) : Int) > 4000) <;> rfl
        | false =>
          cases h4 : ((true && a.kind == 4) && b.kind == 4) with
          | true =>
            cases decide (((a.l.length + b.l.length : Nat) : Int) > 30) with
            | true => rfl
            | false =>
              simp only [cond_true, cond_false, Option.bind_some]
              rw [ck_ok (roomQ (by rw [List.length_append]; omega) (by omega))]
              rfl
          | false => rfl
    | false =>
      cases h3 : seq sg ⟨#[45]⟩ with
      | true => cases (a.kind == 0 || b.kind == 0) <;> rfl
      | false =>
        cases h4 : seq sg ⟨#[42]⟩ with
        | true => cases (a.kind == 0 || b.kind == 0) <;> rfl
        | false => rfl
end Pure

/- Terms: what they are, and what they come to. No program. -/
namespace Pure
open Esp Ev Go
set_option linter.unusedSimpArgs false
set_option linter.unusedVariables false

theorem Term.eta (t : Term) : Term.mk t.kind t.v t.name t.a = t := by cases t; rfl
theorem Term.eta2 (t : Term) : Term.mk t.kind (Val.mk t.v.kind t.v.n t.v.s t.v.l) t.name t.a = t := by rw [Val.eta, Term.eta]
theorem tk_mk (k : Int) (v : Val) (s : ByteArray) (l : List Term) : (Term.mk k v s l).kind = k := rfl
theorem tv_mk (k : Int) (v : Val) (s : ByteArray) (l : List Term) : (Term.mk k v s l).v = v := rfl
theorem tn_mk (k : Int) (v : Val) (s : ByteArray) (l : List Term) : (Term.mk k v s l).name = s := rfl
theorem ta_mk (k : Int) (v : Val) (s : ByteArray) (l : List Term) : (Term.mk k v s l).a = l := rfl
mutual
theorem term_ind {p : Term → Prop} (h : ∀ k v s l, (∀ x ∈ l, p x) → p (.mk k v s l)) : ∀ t, p t
  | .mk k v s l => h k v s l (terms_ind h l)
theorem terms_ind {p : Term → Prop} (h : ∀ k v s l, (∀ x ∈ l, p x) → p (.mk k v s l)) : ∀ l : List Term, ∀ x ∈ l, p x
  | [] => fun _ hx => by cases hx
  | y :: r => List.forall_mem_cons.2 ⟨term_ind h y, terms_ind h r⟩
end

/-! ## names -/
theorem has_any (l : List ByteArray) (s : ByteArray) (n : Nat) (hl : l.length ≤ 100) (hn : 200 ≤ n) : slices_Contains_string_string n (l, s, ()) = some (hasL l s, ()) := by
  obtain ⟨j, h1, h2⟩ := index_fold s (fun _ => some (-1, ())) rfl l 0 (by omega)
  have h3 : slices_Index_string_string n (l, s, ()) = some (j, ()) :=
    (range_list l (fun i (u : Unit) => (l, s, (l.length : Int), i, ())) _ (fun (i : Int) (x : ByteArray) (u : Unit) (rec : Unit → Option (Int × Unit)) => bif seq s x then some (i, ()) else rec u) (fun _ => some (-1, ()))
      (fun rec i u => rfl) (by omega) n () (by omega)).trans h1
  unfold slices_Contains_string_string
  dsimp only
  rw [h3, Option.bind_some]
  dsimp only
  rw [h2]
noncomputable def resB (s : ByteArray) : Bool := ((term_Reserved 200 (s, ())).getD (false, ())).1
theorem reserved_ok (s : ByteArray) (n : Nat) (hn : 200 ≤ n) : term_Reserved n (s, ()) = some (resB s, ()) := by
  unfold resB
  unfold term_Reserved
  dsimp only
  rw [has_any _ s n (by decide) hn, has_any _ s 200 (by decide) (by omega)]
  rfl
/-- may it be a name here? -/
noncomputable def nameB (s : ByteArray) : Bool := nmB s && !resB s
theorem name_ok (s : ByteArray) (n : Nat) (hn : 200 ≤ n) : term_Name n (s, ()) = some (nameB s, ()) := by
  unfold term_Name nameB
  dsimp only
  rw [graph_Name_ok s n (by omega), Option.bind_some]
  cases nmB s with
  | false => rfl
  | true => dsimp only; rw [cond_true, reserved_ok s n hn]; rfl
/-- how many are handed; -1: any; false: there is no such call -/
def arN (s : ByteArray) : Int × Bool :=
  bif ((((((((seq s ⟨#[43]⟩) || seq s ⟨#[45]⟩) || seq s ⟨#[42]⟩) || seq s ⟨#[61]⟩) || seq s ⟨#[60]⟩) || seq s ⟨#[60, 61]⟩) || seq s ⟨#[97, 110, 100]⟩) || seq s ⟨#[111, 114]⟩) || seq s ⟨#[105, 110]⟩ then (2, true) else bif (((((seq s ⟨#[110, 111, 116]⟩) || seq s ⟨#[110, 117, 108, 108]⟩) || seq s ⟨#[115, 105, 122, 101]⟩) || seq s ⟨#[104, 101, 97, 100]⟩) || seq s ⟨#[105, 100]⟩) || seq s ⟨#[116, 121, 112, 101]⟩ then (1, true) else bif (seq s ⟨#[99, 111, 97, 108, 101, 115, 99, 101]⟩) || seq s ⟨#[108, 105, 115, 116]⟩ then (-1, true) else (0, false)
theorem arity_ok (s : ByteArray) : term_arity (s, ()) = some ((arN s).1, (arN s).2, ()) := by
  unfold term_arity arN
  dsimp only
  cases h43 : seq s ⟨#[43]⟩ with
  | true => simp only [cond_true, cond_false, Bool.or_true, Bool.true_or, Bool.or_false, Bool.false_or]
  | false =>
    cases h45 : seq s ⟨#[45]⟩ with
    | true => simp only [cond_true, cond_false, Bool.or_true, Bool.true_or, Bool.or_false, Bool.false_or]
    | false =>
      cases h42 : seq s ⟨#[42]⟩ with
      | true => simp only [cond_true, cond_false, Bool.or_true, Bool.true_or, Bool.or_false, Bool.false_or]
      | false =>
        cases h61 : seq s ⟨#[61]⟩ with
        | true => simp only [cond_true, cond_false, Bool.or_true, Bool.true_or, Bool.or_false, Bool.false_or]
        | false =>
          cases h60 : seq s ⟨#[60]⟩ with
          | true => simp only [cond_true, cond_false, Bool.or_true, Bool.true_or, Bool.or_false, Bool.false_or]
          | false =>
            cases h6061 : seq s ⟨#[60, 61]⟩ with
            | true => simp only [cond_true, cond_false, Bool.or_true, Bool.true_or, Bool.or_false, Bool.false_or]
            | false =>
              cases h97110100 : seq s ⟨#[97, 110, 100]⟩ with
              | true => simp only [cond_true, cond_false, Bool.or_true, Bool.true_or, Bool.or_false, Bool.false_or]
              | false =>
                cases h111114 : seq s ⟨#[111, 114]⟩ with
                | true => simp only [cond_true, cond_false, Bool.or_true, Bool.true_or, Bool.or_false, Bool.false_or]
                | false =>
                  cases h105110 : seq s ⟨#[105, 110]⟩ with
                  | true => simp only [cond_true, cond_false, Bool.or_true, Bool.true_or, Bool.or_false, Bool.false_or]
                  | false =>
                    cases h110111116 : seq s ⟨#[110, 111, 116]⟩ with
                    | true => simp only [cond_true, cond_false, Bool.or_true, Bool.true_or, Bool.or_false, Bool.false_or]
                    | false =>
                      cases h110117108108 : seq s ⟨#[110, 117, 108, 108]⟩ with
                      | true => simp only [cond_true, cond_false, Bool.or_true, Bool.true_or, Bool.or_false, Bool.false_or]
                      | false =>
                        cases h115105122101 : seq s ⟨#[115, 105, 122, 101]⟩ with
                        | true => simp only [cond_true, cond_false, Bool.or_true, Bool.true_or, Bool.or_false, Bool.false_or]
                        | false =>
                          cases h10410197100 : seq s ⟨#[104, 101, 97, 100]⟩ with
                          | true => simp only [cond_true, cond_false, Bool.or_true, Bool.true_or, Bool.or_false, Bool.false_or]
                          | false =>
                            cases h105100 : seq s ⟨#[105, 100]⟩ with
                            | true => simp only [cond_true, cond_false, Bool.or_true, Bool.true_or, Bool.or_false, Bool.false_or]
                            | false =>
                              cases h116121112101 : seq s ⟨#[116, 121, 112, 101]⟩ with
                              | true => simp only [cond_true, cond_false, Bool.or_true, Bool.true_or, Bool.or_false, Bool.false_or]
                              | false =>
                                cases h991119710810 : seq s ⟨#[99, 111, 97, 108, 101, 115, 99, 101]⟩ with
                                | true => simp only [cond_true, cond_false, Bool.or_true, Bool.true_or, Bool.or_false, Bool.false_or]
                                | false =>
                                  cases h108105115116 : seq s ⟨#[108, 105, 115, 116]⟩ with
                                  | true => simp only [cond_true, cond_false, Bool.or_true, Bool.true_or, Bool.or_false, Bool.false_or]
                                  | false =>
                                    rfl

/-! ## is it one? -/
def zrB (v : Val) : Bool := ((((v.kind == 0) && (v.n == 0)) && (seq v.s ⟨#[]⟩)) && ((v.l.length : Int) == 0))
/-- the last word on a call -/
def lstB (b : List (ByteArray × Bool)) (s : ByteArray) (x : Term) : Int :=
  bif seq s ⟨#[105, 100]⟩ then (bif x.kind != 2 then 3 else 0)
  else bif seq s ⟨#[116, 121, 112, 101]⟩ then (bif x.kind != 2 then 3 else bif !(mpGet .str .bool false b x.name) then 3 else 0) else 0
def hdT (l : List Term) : Term := l.headD (.mk 0 (.mk 0 0 ⟨#[]⟩ []) ⟨#[]⟩ [])
mutual
/-- the errno of a term, so deep -/
noncomputable def tchk (b : List (ByteArray × Bool)) : Term → Int → Int
  | .mk k v s a, d =>
    bif decide (d > 6) then 2
    else bif k == 1 then (bif (!(seq s ⟨#[]⟩)) || decide ((a.length : Int) > 0) then 6 else bif v.kind == 4 then 6 else chk v 1)
    else bif k == 2 then (bif (!zrB v) || decide ((a.length : Int) > 0) then 6 else bif !nameB s then 6 else bif !mpHas .str .bool b s then 5 else 0)
    else bif k == 3 then (bif (!zrB v) || ((a.length : Int) != 1) then 6 else bif (hdT a).kind != 2 then 6 else bif !nmB s then 6 else tchks b a (d + 1))
    else bif k == 4 then (bif ((!(arN s).2) || !zrB v) || (decide ((arN s).1 ≥ 0) && ((a.length : Int) != (arN s).1)) then 6 else bif decide ((a.length : Int) > 30) then 2
      else bif tchks b a (d + 1) != 0 then tchks b a (d + 1) else lstB b s (hdT a))
    else 6
/-- the first one's that isn't right -/
noncomputable def tchks (b : List (ByteArray × Bool)) : List Term → Int → Int
  | [], _ => 0
  | x :: r, d => bif tchk b x d != 0 then tchk b x d else tchks b r d
end
theorem tcheck_loop {ρ : Type} (self : Term × List (ByteArray × Bool) × Int × Unit → Option (Int × Unit)) (n : Nat) (b : List (ByteArray × Bool)) (d : Int) (hd : IntKind.wrap .i64 (d + 1) = d + 1) (o : Term) (kr : Int × Unit → Option ρ) (k : List (ByteArray × Bool) × Int × (Term × Unit) × Unit → Option ρ) :
    ∀ (l : List Term) (i : Int), (∀ x ∈ l, self (x, b, d + 1, ()) = some (tchk b x (d + 1), ())) → foldK (F_term_check_s1 self n kr) k i l (b, d, (o, ()), ()) = bif tchks b l (d + 1) != 0 then kr (tchks b l (d + 1), ()) else k (b, d, (o, ()), ())
  | [], _, _ => rfl
  | x :: r, i, h => by
    rw [foldK]
    have ih := tcheck_loop self n b d hd o kr k r (i + 1) fun y hy => h y (by simp [hy])
    generalize foldK (F_term_check_s1 self n kr) k (i + 1) r = R at ih
    unfold F_term_check_s1
    dsimp only
    rw [Term.eta2, Term.eta2, hd, h x (by simp), Option.bind_some, tchks]
    dsimp only
    cases hc : tchk b x (d + 1) != 0 with
    | true => rw [cond_true, cond_true, hc]; rfl
    | false => rw [cond_false, cond_false]; exact ih
theorem hd_ix {l : List Term} (h : ((l.length : Int) != 1) = false) : ix l 0 = some (hdT l) ∧ l = [hdT l] := by
  have : l.length = 1 := by simp at h; omega
  match l, this with
  | [x], _ => exact ⟨rfl, rfl⟩
theorem ar1_hd {s : ByteArray} {l : List Term} {b : Bool} (h : (((!(arN s).2) || b) || (decide ((arN s).1 ≥ 0) && ((l.length : Int) != (arN s).1))) = false) (h1 : (arN s).1 = 1) : ix l 0 = some (hdT l) ∧ l = [hdT l] := by
  rw [Bool.or_eq_false_iff, h1] at h
  exact hd_ix h.2
theorem tcheck_ok (b : List (ByteArray × Bool)) (t : Term) : ∀ (d : Int) (n : Nat), 1 ≤ d → d ≤ 7 → 300 ≤ n + d.toNat → term_check n (t, b, d, ()) = some (tchk b t d, ()) := by
  induction t using term_ind with
  | _ k v s a ih =>
    intro d n h1 h7 hn
    obtain ⟨m, rfl⟩ : ∃ m, n = m + 1 := ⟨n - 1, by omega⟩
    rw [term_check, tchk]
    unfold term_check_b
    dsimp +instances only [tk_mk, tv_mk, tn_mk, ta_mk]
    cases hd : decide (d > 6) with
    | true => rfl
    | false =>
      have h6 := of_decide_eq_false hd
      have hw : IntKind.wrap .i64 (d + 1) = d + 1 := wrap64 (by omega) (by omega)
      have hs : ∀ x ∈ a, term_check m (x, b, d + 1, ()) = some (tchk b x (d + 1), ()) := fun x hx => ih x hx (d + 1) m (by omega) (by omega) (by omega)
      rw [show (((((v.kind : Int) == 0) && ((v.n : Int) == 0)) && (seq v.s (⟨#[]⟩ : ByteArray))) && (((v.l.length : Int) : Int) == 0)) = zrB v from rfl]
      cases h1 : k == 1 with
      | true =>
        cases (!(seq s ⟨#[]⟩)) || decide ((a.length : Int) > 0) with
        | true => rfl
        | false =>
          cases v.kind == 4 with
          | true => rfl
          | false =>
            simp only [cond_true, cond_false]
            rw [Val.eta, Check_ok v m (by omega), Option.bind_some]
      | false =>
        cases h2 : k == 2 with
        | true =>
          cases (!zrB v) || decide ((a.length : Int) > 0) with
          | true => rfl
          | false =>
            simp only [cond_true, cond_false]
            rw [name_ok s m (by omega), Option.bind_some]
            cases !nameB s with
            | true => rfl
            | false => cases !mpHas .str .bool b s <;> rfl
        | false =>
          cases h3 : k == 3 with
          | true =>
            cases hz : (!zrB v) || ((a.length : Int) != 1) with
            | true => rfl
            | false =>
              rw [Bool.or_eq_false_iff] at hz
              obtain ⟨e1, e2⟩ := hd_ix hz.2
              simp only [cond_true, cond_false]
              rw [e1, Option.bind_some]
              cases (hdT a).kind != 2 with
              | true => rfl
              | false =>
                simp only [cond_true, cond_false]
                rw [graph_Name_ok s m (by omega), Option.bind_some]
                cases !nmB s with
                | true => rfl
                | false =>
                  simp only [cond_false]
                  rw [Option.bind_some, Term.eta2, hw, hs (hdT a) (by rw [e2]; simp [hdT]), Option.bind_some]
                  have : tchks b a (d + 1) = tchk b (hdT a) (d + 1) := by
                    conv => lhs; rw [e2]
                    rw [tchks, tchks]
                    cases hc : tchk b (hdT a) (d + 1) != 0 with
                    | true => rfl
                    | false =>
                      have h0 : tchk b (hdT a) (d + 1) = 0 := by simpa using hc
                      exact h0.symm
                  rw [this]
          | false =>
            cases h4 : k == 4 with
            | false => rfl
            | true =>
              simp only [cond_true, cond_false]
              rw [arity_ok, Option.bind_some]
              dsimp only
              cases hz : ((!(arN s).2) || !zrB v) || (decide ((arN s).1 ≥ 0) && ((a.length : Int) != (arN s).1)) with
              | true => rfl
              | false =>
                cases h30 : decide ((a.length : Int) > 30) with
                | true => rfl
                | false =>
                  have hl := of_decide_eq_false h30
                  simp only [cond_false]
                  rw [R_term_check_s1 _ m _ _ a m _ _ _ (by omega) (by omega), tcheck_loop _ m b d hw _ _ _ a 0 hs]
                  cases hc : tchks b a (d + 1) != 0 with
                  | true => rfl
                  | false =>
                    simp only [cond_false]
                    dsimp +instances only [tk_mk, tv_mk, tn_mk, ta_mk]
                    unfold lstB
                    cases hid : seq s ⟨#[105, 100]⟩ with
                    | true =>
                      have har : (arN s).1 = 1 := by rw [(seq_iff _ _).1 hid]; kernel_rfl
                      obtain ⟨e1, e2⟩ := ar1_hd hz har
                      have hty : seq s (⟨#[116, 121, 112, 101]⟩ : ByteArray) = false := by rw [(seq_iff _ _).1 hid]; kernel_rfl
                      simp only [cond_true]
                      rw [e1, Option.bind_some, hty]
                      cases (hdT a).kind != 2 <;> rfl
                    | false =>
                      simp only [cond_false]
                      cases hty : seq s (⟨#[116, 121, 112, 101]⟩ : ByteArray) with
                      | false => rfl
                      | true =>
                        have har : (arN s).1 = 1 := by rw [(seq_iff _ _).1 hty]; kernel_rfl
                        obtain ⟨e1, e2⟩ := ar1_hd hz har
                        simp only [cond_true]
                        rw [e1, Option.bind_some]
                        cases (hdT a).kind != 2 with
                        | true => rfl
                        | false =>
                          simp only [cond_false]
                          rw [Option.bind_some]
                          cases !mpGet .str .bool false b (hdT a).name <;> rfl
theorem tCheck_ok (b : List (ByteArray × Bool)) (t : Term) (n : Nat) (hn : 300 ≤ n) : term_Check n (t, b, ()) = some (tchk b t 1, ()) := by
  unfold term_Check
  dsimp only
  rw [Term.eta2, tcheck_ok b t 1 n (by omega) (by omega) (by omega)]
  rfl
end Pure

/- Terms: what calls come to. No program. -/
namespace Pure
open Esp Ev Go
set_option linter.unusedSimpArgs false
set_option linter.unusedVariables false

/-! ## names are texts that are right -/
theorem valid_ascii : ∀ (n : Nat) (l : List UInt8), (∀ b ∈ l, b.toNat < 128) → Lib.validGoD n l = true
  | 0, l, _ => rfl
  | n + 1, [], _ => rfl
  | n + 1, b :: r, h => by
    have hb := h b (by simp)
    have hd : Lib.decodeL (b :: r) = (b.toNat, 1) := by
      have h0 : (⟨(b :: r).toArray⟩ : ByteArray).get! 0 = b := rfl
      unfold Lib.decodeL Utf8.decode
      simp only [Nat.zero_add, h0]
      rw [if_pos (by omega)]
    have h3 : ¬ ((b.toNat, 1).1 = 65533 ∧ (b.toNat, 1).2 = 1) := fun h => by
      have := h.1
      dsimp only at this
      omega
    rw [Lib.validGoD, if_neg (List.cons_ne_nil b r), hd, if_neg h3]
    exact valid_ascii n r fun x hx => h x (List.mem_cons_of_mem _ hx)
theorem nmF_ascii : ∀ (l : List UInt8) (i : Int), nmF i (bi l) = true → ∀ b ∈ l, b.toNat < 128
  | [], _, _ => fun b hb => by cases hb
  | c :: r, i, h => by
    rw [bi_cons, nmF] at h
    intro b hb
    cases hc : (!(lttI (c.toNat : Int)) && (((i == 0) || (decide ((c.toNat : Int) < 48))) || (decide ((c.toNat : Int) > 57)))) with
    | true => rw [hc] at h; cases h
    | false =>
      rw [hc] at h
      rcases List.mem_cons.1 hb with rfl | hb
      · unfold lttI at hc
        simp only [Bool.and_eq_false_iff, Bool.not_eq_false', Bool.or_eq_true, Bool.and_eq_true, decide_eq_true_eq, Bool.or_eq_false_iff, decide_eq_false_iff_not, beq_iff_eq] at hc
        omega
      · exact nmF_ascii r (i + 1) h b hb
theorem nm_valid {s : ByteArray} (h : nmB s = true) : validS s = true ∧ s.size ≤ 12 := by
  unfold nmB at h
  cases hc : (seq s ⟨#[]⟩) || (decide ((s.size : Int) > 12)) with
  | true => rw [hc] at h; cases h
  | false =>
    rw [hc] at h
    rw [Bool.or_eq_false_iff] at hc
    have h12 := of_decide_eq_false hc.2
    exact ⟨valid_ascii _ _ (nmF_ascii _ _ h), by omega⟩

/-! ## truths -/
def stV (v : Val) : Int := bif v.kind == 1 then (bif v.n == 1 then 1 else 0) else 2
def ngS (c : Int) : Int := bif c == 2 then 2 else bif c == 1 then 0 else 1
def orS (a b : Int) : Int := bif (a == 1) || (b == 1) then 1 else bif (a == 0) && (b == 0) then 0 else 2
theorem stV_rng (v : Val) : stV v = 0 ∨ stV v = 1 ∨ stV v = 2 := by
  unfold stV
  cases v.kind == 1 <;> cases v.n == 1 <;> simp
theorem ngS_rng {c : Int} : ngS c = 0 ∨ ngS c = 1 ∨ ngS c = 2 := by
  unfold ngS
  cases c == 2 <;> cases c == 1 <;> simp
theorem orS_rng {a b : Int} : orS a b = 0 ∨ orS a b = 1 ∨ orS a b = 2 := by
  unfold orS
  cases (a == 1) || (b == 1) <;> cases (a == 0) && (b == 0) <;> simp
theorem stV_tV {c : Int} (h : c = 0 ∨ c = 1 ∨ c = 2) : stV (tV c) = c := by
  rcases h with rfl | rfl | rfl <;> rfl
theorem truthT_ok (b : Bool) : term_truth (b, ()) = some (tV (bif b then 1 else 0), ()) := by cases b <;> rfl
theorem turned_ok (v : Val) : term_turned (v, ()) = some (tV (ngS (stV v)), ()) := by
  unfold term_turned term_known stV
  dsimp +instances only [kind_mk, n_mk]
  cases v.kind == 1 <;> cases v.n == 1 <;> rfl
theorem either_ok (v w : Val) : term_either (v, w, ()) = some (tV (orS (stV v) (stV w)), ()) := by
  unfold term_either term_known stV
  dsimp +instances only [kind_mk, n_mk]
  cases v.kind == 1 <;> cases v.n == 1 <;> cases w.kind == 1 <;> cases w.n == 1 <;> rfl
theorem tV_r (c : Int) (h : c = 0 ∨ c = 1 ∨ c = 2) : Right (tV c) 1 := tV_right c h 1
/-- is it in there? so far -/
def inS (x : Val) : Int → List Val → Int
  | c, [] => c
  | c, y :: r => inS x (orS c (smV x y)) r
theorem inS_rng (x : Val) : ∀ (l : List Val) (c : Int), (c = 0 ∨ c = 1 ∨ c = 2) → inS x c l = 0 ∨ inS x c l = 1 ∨ inS x c l = 2
  | [], c, h => h
  | y :: r, c, _ => inS_rng x r _ orS_rng
def coal : List Val → Val
  | [] => zV
  | x :: r => bif x.kind != 0 then x else coal r
def arg0 (l : List Val) : Val := l.headD zV
def arg1 (l : List Val) : Val := (l.drop 1).headD zV
/-- what a call comes to -/
def callV (g : Graph) (s : ByteArray) (l : List Val) : Val :=
  bif (seq s ⟨#[43]⟩ || seq s ⟨#[45]⟩) || seq s ⟨#[42]⟩ then (bif chk (reckF s (arg0 l) (arg1 l)).1 1 != 0 then zV else (reckF s (arg0 l) (arg1 l)).1)
  else bif seq s ⟨#[61]⟩ then tV (smV (arg0 l) (arg1 l))
  else bif seq s ⟨#[60]⟩ then tV (lsV (arg0 l) (arg1 l))
  else bif seq s ⟨#[60, 61]⟩ then tV (ngS (lsV (arg1 l) (arg0 l)))
  else bif seq s ⟨#[97, 110, 100]⟩ then tV (ngS (orS (ngS (stV (arg0 l))) (ngS (stV (arg1 l)))))
  else bif seq s ⟨#[111, 114]⟩ then tV (orS (stV (arg0 l)) (stV (arg1 l)))
  else bif seq s ⟨#[110, 111, 116]⟩ then tV (ngS (stV (arg0 l)))
  else bif seq s ⟨#[110, 117, 108, 108]⟩ then tV (bif (arg0 l).kind == 0 then 1 else 0)
  else bif seq s ⟨#[105, 110]⟩ then (bif (arg1 l).kind != 4 then zV else tV (inS (arg0 l) 0 (arg1 l).l))
  else bif seq s ⟨#[115, 105, 122, 101]⟩ then (bif (arg0 l).kind == 3 then nV ((runesI (arg0 l).s).length : Int) else bif (arg0 l).kind == 4 then nV ((arg0 l).l.length : Int) else zV)
  else bif seq s ⟨#[104, 101, 97, 100]⟩ then (bif (arg0 l).kind == 4 then (arg0 l).l.headD zV else zV)
  else bif seq s ⟨#[99, 111, 97, 108, 101, 115, 99, 101]⟩ then coal l
  else bif seq s ⟨#[108, 105, 115, 116]⟩ then (bif chk (.mk 4 0 ⟨#[]⟩ l) 1 == 0 then .mk 4 0 ⟨#[]⟩ l else zV)
  else bif seq s ⟨#[105, 100]⟩ then arg0 l
  else bif seq s ⟨#[116, 121, 112, 101]⟩ then (match edgeIn g.edges (arg0 l).n with | some x => .mk 3 0 x.type [] | none => zV)
  else zV
theorem zV_r : Right zV 1 := .null 1
theorem reckF_ok (sg : ByteArray) {a b : Val} (ha : Right a 1) (hb : Right b 1) : vOk (reckF sg a b).1 := by
  have oa := right_ok ha
  have ob := right_ok hb
  have la := right_len ha
  have lb := right_len hb
  have hz : vOk zV := right_ok zV_r
  have hn : ∀ z, vOk (gI z).1 := by
    intro z
    unfold gI
    cases h : inR z with
    | true => exact right_ok (Right.int z 1 h)
    | false => exact hz
  unfold reckF
  cases (seq sg ⟨#[43]⟩ || seq sg ⟨#[45]⟩) || seq sg ⟨#[42]⟩ with
  | false => exact hz
  | true =>
    cases (a.kind == 0) || (b.kind == 0) with
    | true => exact hz
    | false =>
      cases (a.kind == 2) && (b.kind == 2) with
      | true => exact hn _
      | false =>
        cases (seq sg ⟨#[43]⟩ && (a.kind == 3)) && (b.kind == 3) with
        | true =>
          cases decide (((a.s.size + b.s.size : Nat) : Int) > 4000) with
          | true => exact hz
          | false =>
            simp only [cond_true, cond_false]
            rw [vOk, vOks_iff]
            exact ⟨by unfold wfI; decide, by unfold wfI; decide, by rw [ByteArray.size_append]; unfold maxLen; omega, Nat.zero_le _, fun x hx => by cases hx⟩
        | false =>
          cases (seq sg ⟨#[43]⟩ && (a.kind == 4)) && (b.kind == 4) with
          | true =>
            cases decide (((a.l.length + b.l.length : Nat) : Int) > 30) with
            | true => exact hz
            | false =>
              simp only [cond_true, cond_false]
              rw [vOk, vOks_iff]
              refine ⟨by unfold wfI; decide, by unfold wfI; decide, Nat.zero_le _, by rw [List.length_append]; unfold maxLen; omega, fun y hy => ?_⟩
              rcases List.mem_append.1 hy with hy | hy
              · exact right_ok (right_sub ha y hy)
              · exact right_ok (right_sub hb y hy)
          | false => exact hz
theorem runesF_len (s : ByteArray) : ∀ (n i : Nat), (runesF s n i).length ≤ n
  | 0, _ => by simp [runesF]
  | n + 1, i => by
    rw [runesF]
    split
    · simpa using runesF_len s n _
    · simp
theorem callV_right (g : Graph) (s : ByteArray) (l : List Val) (hl : ∀ x ∈ l, Right x 1) (h30 : l.length ≤ 30) (hg : ∀ x ∈ g.edges, nmB x.type = true) : Right (callV g s l) 1 := by
  have h0 : Right (arg0 l) 1 := by
    unfold arg0
    cases l with
    | nil => exact zV_r
    | cons x r => exact hl x (by simp)
  have h1 : Right (arg1 l) 1 := by
    unfold arg1
    match l, hl with
    | [], _ => exact zV_r
    | [_], _ => exact zV_r
    | _ :: y :: _, hl => exact hl y (by simp)
  unfold callV
  cases (seq s ⟨#[43]⟩ || seq s ⟨#[45]⟩) || seq s ⟨#[42]⟩ with
  | true =>
    simp only [cond_true]
    cases hc : chk (reckF s (arg0 l) (arg1 l)).1 1 != 0 with
    | true => exact zV_r
    | false => exact right_of _ 1 (reckF_ok s h0 h1) (by simpa using hc)
  | false =>
  cases seq s ⟨#[61]⟩ with
  | true => exact tV_r _ (smV_rng _ _)
  | false =>
  cases seq s ⟨#[60]⟩ with
  | true => exact tV_r _ (lsV_rng _ _)
  | false =>
  cases seq s ⟨#[60, 61]⟩ with
  | true => exact tV_r _ ngS_rng
  | false =>
  cases seq s ⟨#[97, 110, 100]⟩ with
  | true => exact tV_r _ ngS_rng
  | false =>
  cases seq s ⟨#[111, 114]⟩ with
  | true => exact tV_r _ orS_rng
  | false =>
  cases seq s ⟨#[110, 111, 116]⟩ with
  | true => exact tV_r _ ngS_rng
  | false =>
  cases seq s ⟨#[110, 117, 108, 108]⟩ with
  | true => exact tV_r _ (by cases (arg0 l).kind == 0 <;> simp)
  | false =>
  cases seq s ⟨#[105, 110]⟩ with
  | true =>
    simp only [cond_true, cond_false]
    cases (arg1 l).kind != 4 with
    | true => exact zV_r
    | false => exact tV_r _ (inS_rng _ _ _ (.inl rfl))
  | false =>
  cases seq s ⟨#[115, 105, 122, 101]⟩ with
  | true =>
    have l0 := right_len h0
    have hr : (runesI (arg0 l).s).length ≤ 4000 := Nat.le_trans (runesF_len _ _ _) l0.2
    have hn : ∀ k : Nat, k ≤ 4000 → Right (nV (k : Int)) 1 := fun k hk => .int _ 1 (by
      have h : inR (k : Int) = true := by unfold inR; rw [Bool.and_eq_true, decide_eq_true_eq, decide_eq_true_eq]; omega
      exact h)
    simp only [cond_true, cond_false]
    cases (arg0 l).kind == 3 with
    | true => exact hn _ hr
    | false =>
      cases (arg0 l).kind == 4 with
      | true => exact hn _ (by omega)
      | false => exact zV_r
  | false =>
  cases seq s ⟨#[104, 101, 97, 100]⟩ with
  | true =>
    simp only [cond_true, cond_false]
    cases (arg0 l).kind == 4 with
    | false => exact zV_r
    | true =>
      have hs := right_sub h0
      cases hl0 : (arg0 l).l with
      | nil => exact zV_r
      | cons x r => exact right_mono (hs x (by rw [hl0]; simp)) 1 (by omega)
  | false =>
  cases seq s ⟨#[99, 111, 97, 108, 101, 115, 99, 101]⟩ with
  | true =>
    simp only [cond_true, cond_false]
    clear h0 h1 h30
    induction l with
    | nil => exact zV_r
    | cons x r ih =>
      rw [coal]
      cases x.kind != 0 with
      | true => exact hl x (by simp)
      | false => exact ih fun y hy => hl y (by simp [hy])
  | false =>
  cases seq s ⟨#[108, 105, 115, 116]⟩ with
  | true =>
    simp only [cond_true, cond_false]
    cases hc : chk (.mk 4 0 ⟨#[]⟩ l) 1 == 0 with
    | false => exact zV_r
    | true =>
      simp only [cond_true]
      refine right_of _ 1 ?_ (by simpa using hc)
      rw [vOk, vOks_iff]
      exact ⟨by unfold wfI; decide, by unfold wfI; decide, Nat.zero_le _, by unfold maxLen; omega, fun x hx => right_ok (hl x hx)⟩
  | false =>
  cases seq s ⟨#[105, 100]⟩ with
  | true => exact h0
  | false =>
  cases seq s ⟨#[116, 121, 112, 101]⟩ with
  | true =>
    simp only [cond_true, cond_false]
    cases he : edgeIn g.edges (arg0 l).n with
    | none => exact zV_r
    | some x =>
      have hm := hg x (edgeIn_mem he)
      have := nm_valid hm
      exact .text _ 1 (by omega) this.1
  | false => exact zV_r
end Pure

/- Terms: calls, by the program. No program. -/
namespace Pure
open Esp Ev Go
set_option linter.unusedSimpArgs false
set_option linter.unusedVariables false

theorem ar2 {l : List Val} (h : l.length = 2) : ix l 0 = some (arg0 l) ∧ ix l 1 = some (arg1 l) ∧ arg0 l ∈ l ∧ arg1 l ∈ l := by
  match l, h with
  | [x, y], _ => exact ⟨rfl, rfl, by simp [arg0], by simp [arg1]⟩
theorem ar1 {l : List Val} (h : l.length = 1) : ix l 0 = some (arg0 l) ∧ arg0 l ∈ l := by
  match l, h with
  | [x], _ => exact ⟨rfl, by simp [arg0]⟩
/-- are there as many as are wanted? -/
def ArOk (s : ByteArray) (k : Nat) : Prop := (arN s).2 = true ∧ ((arN s).1 ≥ 0 → (k : Int) = (arN s).1)
theorem ArOk.two {s : ByteArray} {k : Nat} (h : ArOk s k) (h2 : arN s = (2, true)) : k = 2 := by
  have := h.2 (by rw [h2]; decide)
  rw [h2] at this
  simp at this
  omega
theorem ArOk.one {s : ByteArray} {k : Nat} (h : ArOk s k) (h2 : arN s = (1, true)) : k = 1 := by
  have := h.2 (by rw [h2]; decide)
  rw [h2] at this
  simp at this
  omega
theorem in_loop {ρ : Type} (n : Nat) (kr : Unit → Option ρ) (k : List Val × (Val × Unit) × (Val × Unit) × Unit → Option ρ) (args : List Val) (x : Val) (h0 : ix args 0 = some x) (hx : vOk x) (hn : vSz x + 7 ≤ n) (o : Val) :
    ∀ (l : List Val) (i : Int) (c : Int), (c = 0 ∨ c = 1 ∨ c = 2) → foldK (F_term_Env_call_s1 n kr) k i l (args, (o, ()), (tV c, ()), ()) = k (args, (o, ()), (tV (inS x c l), ()), ())
  | [], _, _, _ => rfl
  | y :: r, i, c, hc => by
    rw [foldK]
    have ih := in_loop n kr k args x h0 hx hn o r (i + 1) (orS c (smV x y)) orS_rng
    generalize foldK (F_term_Env_call_s1 n kr) k (i + 1) r = R at ih
    unfold F_term_Env_call_s1
    dsimp only
    rw [h0, Option.bind_some]
    rw [Val.eta, Val.eta, Val.eta, Val.eta, sameV_ok x y n hx hn, Option.bind_some]
    dsimp only
    rw [Val.eta, either_ok, Option.bind_some, stV_tV hc, stV_tV (smV_rng x y)]
    dsimp only
    rw [Val.eta]
    exact ih
theorem coal_loop (n : Nat) (k : (Val × Unit) × Unit → Option (Val × Unit)) (o : Val) (hk : k ((o, ()), ()) = some (zV, ())) :
    ∀ (l : List Val) (i : Int), foldK (F_term_Env_call_s4 n (fun (o81, _) => some ((Ev.Val.mk o81.1.kind o81.1.n o81.1.s o81.1.l), ()))) k i l ((o, ()), ()) = some (coal l, ())
  | [], _ => hk
  | y :: r, i => by
    rw [foldK]
    have ih := coal_loop n k o hk r (i + 1)
    generalize foldK (F_term_Env_call_s4 n (fun (o81, _) => some ((Ev.Val.mk o81.1.kind o81.1.n o81.1.s o81.1.l), ()))) k (i + 1) r = R at ih
    unfold F_term_Env_call_s4
    dsimp only
    rw [coal]
    cases y.kind != 0 with
    | true =>
      simp only [cond_true]
      rw [Val.eta, Val.eta]
    | false =>
      simp only [cond_false]
      rw [Val.eta]
      exact ih
theorem call_ok (g : Graph) (at_ : List (ByteArray × Int)) (t : Term) (l : List Val) (n : Nat) (hl : ∀ x ∈ l, Right x 1) (h30 : l.length ≤ 30) (har : ArOk t.name l.length) (hr : Rise Edg.id g.edges) (h60 : g.edges.length ≤ 60)
    (hn : lSz l + 1000 ≤ n) : term_Env_call n (⟨g, at_⟩, t, l, ()) = some (callV g t.name l, ()) := by
  obtain ⟨k0, v0, s, a0⟩ := t
  rw [tn_mk] at har ⊢
  have sz : ∀ x ∈ l, vSz x + 900 ≤ n := fun x hx => by have := lSz_mem hx; omega
  unfold term_Env_call callV
  dsimp +instances only [tn_mk]
  have reck : arN s = (2, true) → ((ix l 0).bind fun x7 => (ix l 1).bind fun x8 => (value_Reckon n (s, (Ev.Val.mk x7.kind x7.n x7.s x7.l), (Ev.Val.mk x8.kind x8.n x8.s x8.l), ())).bind fun (y9, y10, _) => (value_Check n ((Ev.Val.mk y9.kind y9.n y9.s y9.l), ())).bind fun (y11, _) =>
      (bif (y11 : Int) != 0 then some ((Ev.Val.mk 0 0 (⟨#[]⟩ : ByteArray) ([] : List Ev.Val)), ()) else some ((Ev.Val.mk y9.kind y9.n y9.s y9.l), ()))) = some (bif chk (reckF s (arg0 l) (arg1 l)).1 1 != 0 then zV else (reckF s (arg0 l) (arg1 l)).1, ()) := by
    intro h2
    obtain ⟨e0, e1, m0, m1⟩ := ar2 (har.two h2)
    rw [e0, Option.bind_some, e1, Option.bind_some, Val.eta, Val.eta, reckR_ok s (hl _ m0) (hl _ m1) n (by omega), Option.bind_some]
    dsimp only
    rw [Val.eta, Check_ok _ n (by omega), Option.bind_some]
    dsimp only
    cases chk (reckF s (arg0 l) (arg1 l)).1 1 != 0 <;> rfl
  cases h1 : seq s ⟨#[43]⟩ with
  | true =>
    simp only [cond_true, Bool.true_or]
    exact reck (by rw [(seq_iff _ _).1 h1]; kernel_rfl)
  | false =>
  cases h2 : seq s ⟨#[45]⟩ with
  | true =>
    simp only [cond_true, cond_false, Bool.true_or, Bool.false_or]
    exact reck (by rw [(seq_iff _ _).1 h2]; kernel_rfl)
  | false =>
  cases h3 : seq s ⟨#[42]⟩ with
  | true =>
    simp only [cond_true, cond_false, Bool.true_or, Bool.false_or]
    exact reck (by rw [(seq_iff _ _).1 h3]; kernel_rfl)
  | false =>
  simp only [cond_false, Bool.false_or]
  cases h4 : seq s ⟨#[61]⟩ with
  | true =>
    simp only [cond_true]
    obtain ⟨e0, e1, m0, m1⟩ := ar2 (har.two (by rw [(seq_iff _ _).1 h4]; kernel_rfl))
    rw [e0, Option.bind_some, e1, Option.bind_some, Val.eta, Val.eta, sameV_ok _ _ n (right_ok (hl _ m0)) (by have := sz _ m0; omega), Option.bind_some]
    dsimp only
    rw [Val.eta]
  | false =>
  cases h5 : seq s ⟨#[60]⟩ with
  | true =>
    simp only [cond_true, cond_false]
    obtain ⟨e0, e1, m0, m1⟩ := ar2 (har.two (by rw [(seq_iff _ _).1 h5]; kernel_rfl))
    rw [e0, Option.bind_some, e1, Option.bind_some, Val.eta, Val.eta, less_ok _ _ n (right_ok (hl _ m0)) (by have := sz _ m0; omega), Option.bind_some]
    dsimp only
    rw [Val.eta]
  | false =>
  cases h6 : seq s ⟨#[60, 61]⟩ with
  | true =>
    simp only [cond_true, cond_false]
    obtain ⟨e0, e1, m0, m1⟩ := ar2 (har.two (by rw [(seq_iff _ _).1 h6]; kernel_rfl))
    rw [e1, Option.bind_some, e0, Option.bind_some, Val.eta, Val.eta, less_ok _ _ n (right_ok (hl _ m1)) (by have := sz _ m1; omega), Option.bind_some]
    dsimp only
    rw [Val.eta, turned_ok, Option.bind_some, stV_tV (lsV_rng _ _)]
    dsimp only
    rw [Val.eta]
  | false =>
  cases h7 : seq s ⟨#[97, 110, 100]⟩ with
  | true =>
    simp only [cond_true, cond_false]
    obtain ⟨e0, e1, m0, m1⟩ := ar2 (har.two (by rw [(seq_iff _ _).1 h7]; kernel_rfl))
    rw [e0, Option.bind_some, Val.eta, turned_ok, Option.bind_some, e1, Option.bind_some, Val.eta, turned_ok, Option.bind_some]
    dsimp only
    rw [Val.eta, Val.eta, either_ok, Option.bind_some, stV_tV ngS_rng, stV_tV ngS_rng]
    dsimp only
    rw [Val.eta, turned_ok, Option.bind_some, stV_tV orS_rng]
    dsimp only
    rw [Val.eta]
  | false =>
  cases h8 : seq s ⟨#[111, 114]⟩ with
  | true =>
    simp only [cond_true, cond_false]
    obtain ⟨e0, e1, m0, m1⟩ := ar2 (har.two (by rw [(seq_iff _ _).1 h8]; kernel_rfl))
    rw [e0, Option.bind_some, e1, Option.bind_some, Val.eta, Val.eta, either_ok, Option.bind_some]
    dsimp only
    rw [Val.eta]
  | false =>
  cases h9 : seq s ⟨#[110, 111, 116]⟩ with
  | true =>
    simp only [cond_true, cond_false]
    obtain ⟨e0, m0⟩ := ar1 (har.one (by rw [(seq_iff _ _).1 h9]; kernel_rfl))
    rw [e0, Option.bind_some, Val.eta, turned_ok, Option.bind_some]
    dsimp only
    rw [Val.eta]
  | false =>
  cases h10 : seq s ⟨#[110, 117, 108, 108]⟩ with
  | true =>
    simp only [cond_true, cond_false]
    obtain ⟨e0, m0⟩ := ar1 (har.one (by rw [(seq_iff _ _).1 h10]; kernel_rfl))
    rw [e0, Option.bind_some, truthT_ok, Option.bind_some]
    dsimp only
    rw [Val.eta]
  | false =>
  cases h11 : seq s ⟨#[105, 110]⟩ with
  | true =>
    simp only [cond_true, cond_false]
    obtain ⟨e0, e1, m0, m1⟩ := ar2 (har.two (by rw [(seq_iff _ _).1 h11]; kernel_rfl))
    have l1 := (right_len (hl _ m1)).1
    rw [e1, Option.bind_some]
    cases (arg1 l).kind != 4 with
    | true => rfl
    | false =>
      simp only [cond_false]
      rw [truthT_ok, Option.bind_some, Option.bind_some]
      dsimp only
      rw [R_term_Env_call_s1 n _ _ _ n _ _ _ (by omega) (by omega)]
      have := in_loop n (fun (_ : Unit) => (none : Option (Val × Unit))) (fun (v53, o57, o58, _) => some ((Ev.Val.mk o58.1.kind o58.1.n o58.1.s o58.1.l), ())) l (arg0 l) e0 (right_ok (hl _ m0)) (by have := sz _ m0; omega) (.mk 0 0 ⟨#[]⟩ []) (arg1 l).l 0 0 (.inl rfl)
      refine this.trans ?_
      dsimp only
      rw [Val.eta]
  | false =>
  cases h12 : seq s ⟨#[115, 105, 122, 101]⟩ with
  | true =>
    simp only [cond_true, cond_false]
    obtain ⟨e0, m0⟩ := ar1 (har.one (by rw [(seq_iff _ _).1 h12]; kernel_rfl))
    rw [e0, Option.bind_some]
    cases (arg0 l).kind == 3 with
    | true => rfl
    | false => cases (arg0 l).kind == 4 <;> rfl
  | false =>
  cases h13 : seq s ⟨#[104, 101, 97, 100]⟩ with
  | true =>
    simp only [cond_true, cond_false]
    obtain ⟨e0, m0⟩ := ar1 (har.one (by rw [(seq_iff _ _).1 h13]; kernel_rfl))
    rw [e0, Option.bind_some]
    cases (arg0 l).kind == 4 with
    | false => rfl
    | true =>
      simp only [cond_true]
      rw [Option.bind_some]
      cases hll : (arg0 l).l with
      | nil => rfl
      | cons x r =>
        have : decide (((x :: r).length : Int) > 0) = true := by simp
        rw [this]
        simp only [cond_true]
        rw [Option.bind_some, hll]
        show some (Val.mk x.kind x.n x.s x.l, ()) = some (x, ())
        rw [Val.eta]
  | false =>
  cases h14 : seq s ⟨#[99, 111, 97, 108, 101, 115, 99, 101]⟩ with
  | true =>
    simp only [cond_true, cond_false]
    rw [R_term_Env_call_s4 n _ _ l n _ (by omega) (by omega)]
    exact coal_loop n _ _ rfl l 0
  | false =>
  cases h15 : seq s ⟨#[108, 105, 115, 116]⟩ with
  | true =>
    simp only [cond_true, cond_false]
    rw [Check_ok _ n (by omega), Option.bind_some]
    dsimp only
    cases chk (.mk 4 0 ⟨#[]⟩ l) 1 == 0 <;> rfl
  | false =>
  cases h16 : seq s ⟨#[105, 100]⟩ with
  | true =>
    simp only [cond_true, cond_false]
    obtain ⟨e0, m0⟩ := ar1 (har.one (by rw [(seq_iff _ _).1 h16]; kernel_rfl))
    rw [e0, Option.bind_some, Val.eta]
  | false =>
  cases h17 : seq s ⟨#[116, 121, 112, 101]⟩ with
  | true =>
    simp only [cond_true, cond_false]
    obtain ⟨e0, m0⟩ := ar1 (har.one (by rw [(seq_iff _ _).1 h17]; kernel_rfl))
    rw [e0, Option.bind_some]
    obtain ⟨k, hk, hf⟩ := findE_ok g (arg0 l).n n hr h60 (by omega)
    rw [show (Graph.mk g.nodes g.edges g.next) = g from rfl, hk, Option.bind_some]
    dsimp only
    rw [hf.ge]
    rcases hf with ⟨_, hnn⟩ | ⟨_, x, hx, hs⟩
    · rw [hnn]; rfl
    · rw [hs, hx]; rfl
  | false => rfl
end Pure

/- Terms: what they come to, by the program. No program. -/
namespace Pure
open Esp Ev Go
set_option linter.unusedSimpArgs false
set_option linter.unusedVariables false

def fldV (g : Graph) (id : Int) (s : ByteArray) : Val :=
  match nodeIn g.nodes id with
  | some x => propIn x.props s
  | none => match edgeIn g.edges id with
    | some x => propIn x.props s
    | none => zV
mutual
noncomputable def tval (g : Graph) (at_ : List (ByteArray × Int)) : Term → Val
  | .mk k v s a => bif k == 1 then v else bif k == 2 then .mk 2 (mpGet .str .i64 0 at_ s) ⟨#[]⟩ [] else bif k == 3 then fldV g (mpGet .str .i64 0 at_ (hdT a).name) s else callV g s (tvals g at_ a)
noncomputable def tvals (g : Graph) (at_ : List (ByteArray × Int)) : List Term → List Val
  | [] => []
  | x :: r => tval g at_ x :: tvals g at_ r
end
theorem tvals_map (g : Graph) (at_ : List (ByteArray × Int)) : ∀ l : List Term, tvals g at_ l = l.map (tval g at_)
  | [] => rfl
  | x :: r => by rw [tvals, tvals_map g at_ r]; rfl
/-- a graph that is right, and of numbers in range -/
structure GOk (g : Graph) : Prop where
  ok : gOk g
  cg : chkG g = 0
theorem GOk.riseN {g : Graph} (h : GOk g) : Rise Ev.Node.id g.nodes ∧ g.nodes.length ≤ 40 := ⟨(nodF_rise (chkG_0 h.cg).2.2.1).2.1, (chkG_0 h.cg).1⟩
theorem GOk.riseE {g : Graph} (h : GOk g) : Rise Edg.id g.edges ∧ g.edges.length ≤ 60 := ⟨(edgF_rise (chkG_0 h.cg).2.2.2).2.1, (chkG_0 h.cg).2.1⟩
theorem edgF_type {nodes : List Ev.Node} : ∀ {l : List Edg} {last : Int}, edgF nodes last l = 0 → ∀ x ∈ l, nmB x.type = true
  | [], _, _ => fun x hx => (by cases hx)
  | y :: r, last, h => by
    rw [edgF] at h
    cases h1 : decide (y.id ≤ last) with
    | true => rw [h1] at h; cases h
    | false =>
    rw [h1, cond_false] at h
    cases h2 : (nodeIn nodes y.id).isSome with
    | true => rw [h2] at h; cases h
    | false =>
    rw [h2, cond_false] at h
    cases h3 : nmB y.type with
    | false => rw [h3] at h; cases h
    | true =>
    rw [h3, Bool.not_true, cond_false] at h
    cases h4 : (nodeIn nodes y.src).isNone with
    | true => rw [h4] at h; cases h
    | false =>
    rw [h4, cond_false] at h
    cases h5 : (nodeIn nodes y.dst).isNone with
    | true => rw [h5] at h; cases h
    | false =>
    rw [h5, cond_false] at h
    cases h6 : prpE y.props != 0 with
    | true => rw [h6, cond_true] at h; rw [h] at h6; cases h6
    | false =>
    rw [h6, cond_false] at h
    intro x hx
    rcases List.mem_cons.1 hx with rfl | hx
    · exact h3
    · exact edgF_type h x hx
theorem GOk.types {g : Graph} (h : GOk g) : ∀ x ∈ g.edges, nmB x.type = true := edgF_type (chkG_0 h.cg).2.2.2
theorem GOk.propsN {g : Graph} (h : GOk g) {x : Ev.Node} (hx : x ∈ g.nodes) : x.props.length ≤ 6 ∧ (∀ p ∈ x.props, chk p.val 1 = 0) ∧ ∀ p ∈ x.props, vOk p.val :=
  have h1 := prpE_0 (nodF_0 (chkG_0 h.cg).2.2.1 x hx).2
  ⟨h1.1, h1.2, fun p hp => ((h.ok.1.2 x hx).2.2.2 p hp).2⟩
theorem GOk.propsE {g : Graph} (h : GOk g) {x : Edg} (hx : x ∈ g.edges) : x.props.length ≤ 6 ∧ (∀ p ∈ x.props, chk p.val 1 = 0) ∧ ∀ p ∈ x.props, vOk p.val :=
  have h1 := prpE_0 (edgF_0 (chkG_0 h.cg).2.2.2 x hx).1
  ⟨h1.1, h1.2, fun p hp => ((h.ok.2.1.2 x hx).2.2.2.2.2 p hp).2⟩
theorem propIn_right {l : List Prp} (h1 : ∀ p ∈ l, chk p.val 1 = 0) (h2 : ∀ p ∈ l, vOk p.val) (s : ByteArray) : Right (propIn l s) 1 := by
  rcases propIn_mem s l with h | ⟨x, hx, h⟩
  · rw [h]; exact .null 1
  · rw [h]; exact right_of _ 1 (h2 x hx) (h1 x hx)
theorem field_ok {g : Graph} (h : GOk g) (at_ : List (ByteArray × Int)) (i : Int) (s : ByteArray) (n : Nat) (hn : 100 ≤ n) : term_Env_field n (⟨g, at_⟩, i, s, ()) = some (fldV g i s, ()) ∧ Right (fldV g i s) 1 := by
  obtain ⟨k, hk, hf⟩ := find_ok g i n h.riseN.1 h.riseN.2 (by omega)
  obtain ⟨k', hk', hf'⟩ := findE_ok g i n h.riseE.1 h.riseE.2 (by omega)
  unfold term_Env_field fldV
  dsimp only
  rw [show (Graph.mk g.nodes g.edges g.next) = g from rfl, hk, Option.bind_some]
  dsimp only
  rw [hf.ge]
  rcases hf with ⟨_, hnn⟩ | ⟨_, x, hx, hs⟩
  · rw [hnn]
    simp only [Option.isSome_none, cond_false]
    rw [hk', Option.bind_some]
    dsimp only
    rw [hf'.ge]
    rcases hf' with ⟨_, hnn'⟩ | ⟨_, x, hx, hs⟩
    · rw [hnn']; exact ⟨rfl, .null 1⟩
    · have hm := edgeIn_mem hs
      have hp := h.propsE hm
      rw [hs, hx]
      simp only [Option.isSome_some, cond_true, Option.bind_some]
      rw [get_ok x.props s n (by omega) hp.1 hp.2.1, Option.bind_some]
      dsimp only
      rw [Val.eta]
      exact ⟨rfl, propIn_right hp.2.1 hp.2.2 s⟩
  · have hm := nodeIn_mem hs
    have hp := h.propsN hm
    rw [hs, hx]
    simp only [Option.isSome_some, cond_true, Option.bind_some]
    rw [get_ok x.props s n (by omega) hp.1 hp.2.1, Option.bind_some]
    dsimp only
    rw [Val.eta]
    exact ⟨rfl, propIn_right hp.2.1 hp.2.2 s⟩
/-- numbers in range -/
def atOk (at_ : List (ByteArray × Int)) : Prop := ∀ p ∈ at_, wfI .i64 p.2
theorem mpGet_in (s : ByteArray) : ∀ {at_ : List (ByteArray × Int)}, atOk at_ → wfI .i64 (mpGet .str .i64 0 at_ s)
  | [], _ => by show wfI .i64 0; unfold wfI; decide
  | p :: r, h => by
    rw [mpGet]
    cases keyEq .str s p.1 with
    | true => exact h p (by simp)
    | false => exact mpGet_in s fun q hq => h q (by simp [hq])
theorem tchks_0 {b : List (ByteArray × Bool)} {l : List Term} {d : Int} (h : tchks b l d = 0) : ∀ x ∈ l, tchk b x d = 0 := by
  induction l with
  | nil => intro x hx; cases hx
  | cons y r ih =>
    rw [tchks] at h
    cases hc : tchk b y d != 0
    · rw [hc] at h
      have hc0 : tchk b y d = 0 := by simpa using hc
      intro x hx
      rcases List.mem_cons.1 hx with rfl | hx
      · exact hc0
      · exact ih h x hx
    · rw [hc, cond_true] at h
      rw [h] at hc
      cases hc
/-- what a term that is right is like -/
inductive TR (b : List (ByteArray × Bool)) : Term → Int → Prop
  | const (v : Val) (s : ByteArray) (a : List Term) (d : Int) : d ≤ 6 → chk v 1 = 0 → TR b (.mk 1 v s a) d
  | var (v : Val) (s : ByteArray) (a : List Term) (d : Int) : d ≤ 6 → mpHas .str .bool b s = true → TR b (.mk 2 v s a) d
  | field (v : Val) (s : ByteArray) (a : List Term) (d : Int) : d ≤ 6 → ix a 0 = some (hdT a) → a = [hdT a] → TR b (.mk 3 v s a) d
  | call (v : Val) (s : ByteArray) (a : List Term) (d : Int) : d ≤ 6 → ArOk s a.length → a.length ≤ 30 → (∀ x ∈ a, tchk b x (d + 1) = 0) → lstB b s (hdT a) = 0 → zrB v = true → TR b (.mk 4 v s a) d
theorem tr_of {b : List (ByteArray × Bool)} {t : Term} {d : Int} (h : tchk b t d = 0) : TR b t d := by
  obtain ⟨k, v, s, a⟩ := t
  rw [tchk] at h
  cases hd : decide (d > 6) with
  | true => rw [hd] at h; cases h
  | false =>
  have h6 : d ≤ 6 := by have := of_decide_eq_false hd; omega
  rw [hd, cond_false] at h
  cases h1 : k == 1 with
  | true =>
    have : k = 1 := by simpa using h1
    subst this
    rw [h1, cond_true] at h
    cases hz : (!(seq s ⟨#[]⟩)) || decide ((a.length : Int) > 0) with
    | true => rw [hz] at h; cases h
    | false =>
      rw [hz, cond_false] at h
      cases h4 : v.kind == 4 with
      | true => rw [h4] at h; cases h
      | false => rw [h4] at h; exact .const v s a d h6 h
  | false =>
  rw [h1, cond_false] at h
  cases h2 : k == 2 with
  | true =>
    have : k = 2 := by simpa using h2
    subst this
    rw [h2, cond_true] at h
    cases hz : (!zrB v) || decide ((a.length : Int) > 0) with
    | true => rw [hz] at h; cases h
    | false =>
      rw [hz, cond_false] at h
      cases hn : !nameB s with
      | true => rw [hn] at h; cases h
      | false =>
        rw [hn, cond_false] at h
        cases hm : mpHas .str .bool b s with
        | false => rw [hm] at h; cases h
        | true => exact .var v s a d h6 hm
  | false =>
  rw [h2, cond_false] at h
  cases h3 : k == 3 with
  | true =>
    have : k = 3 := by simpa using h3
    subst this
    rw [h3, cond_true] at h
    cases hz : (!zrB v) || ((a.length : Int) != 1) with
    | true => rw [hz] at h; cases h
    | false =>
      rw [Bool.or_eq_false_iff] at hz
      obtain ⟨e1, e2⟩ := hd_ix hz.2
      exact .field v s a d h6 e1 e2
  | false =>
  rw [h3, cond_false] at h
  cases h4 : k == 4 with
  | false => rw [h4] at h; cases h
  | true =>
    have : k = 4 := by simpa using h4
    subst this
    rw [h4, cond_true] at h
    cases hz : ((!(arN s).2) || !zrB v) || (decide ((arN s).1 ≥ 0) && ((a.length : Int) != (arN s).1)) with
    | true => rw [hz] at h; cases h
    | false =>
      rw [hz, cond_false] at h
      cases h30 : decide ((a.length : Int) > 30) with
      | true => rw [h30] at h; cases h
      | false =>
        have hl := of_decide_eq_false h30
        rw [h30, cond_false] at h
        cases hc : tchks b a (d + 1) != 0 with
        | true => rw [hc, cond_true] at h; rw [h] at hc; cases hc
        | false =>
          rw [hc, cond_false] at h
          have hc0 : tchks b a (d + 1) = 0 := by simpa using hc
          rw [Bool.or_eq_false_iff, Bool.or_eq_false_iff] at hz
          refine .call v s a d h6 ⟨by simpa using hz.1.1, fun hge => ?_⟩ (by omega) (tchks_0 hc0) h (by simpa using hz.1.2)
          have h2 := hz.2
          rw [decide_eq_true hge, Bool.true_and] at h2
          simpa using h2
theorem all_N {α : Type} {p : Nat → α → Prop} : ∀ (l : List α), (∀ x ∈ l, ∃ N, ∀ n, N ≤ n → p n x) → ∃ N, ∀ n, N ≤ n → ∀ x ∈ l, p n x
  | [], _ => ⟨0, fun _ _ x hx => by cases hx⟩
  | y :: r, h => by
    obtain ⟨N1, h1⟩ := h y (by simp)
    obtain ⟨N2, h2⟩ := all_N r fun x hx => h x (by simp [hx])
    refine ⟨N1 + N2, fun n hn x hx => ?_⟩
    rcases List.mem_cons.1 hx with rfl | hx
    · exact h1 n (by omega)
    · exact h2 n (by omega) x hx
theorem args_loop {ρ : Type} (self : Envr × Term × Unit → Option (Val × Unit)) (n : Nat) (kr : Unit → Option ρ) (k : (Envr × Unit) × (Term × Unit) × (Val × Unit) × List Val × Unit → Option ρ) (e : Envr) (t : Term) (z : Val) :
    ∀ (l : List Term) (i : Int) (acc : List Val), (∀ x ∈ l, self (e, x, ()) = some (tval e.g e.at_ x, ())) → acc.length + l.length ≤ 30 → foldK (F_term_Env_Value_s1 self n kr) k i l ((e, ()), (t, ()), (z, ()), acc, ()) = k ((e, ()), (t, ()), (z, ()), acc ++ tvals e.g e.at_ l, ())
  | [], i, acc, _, _ => by rw [tvals, List.append_nil]; rfl
  | x :: r, i, acc, h, hl => by
    rw [foldK]
    have ih := args_loop self n kr k e t z r (i + 1) (acc ++ [tval e.g e.at_ x]) (fun y hy => h y (by simp [hy])) (by simp at hl ⊢; omega)
    generalize foldK (F_term_Env_Value_s1 self n kr) k (i + 1) r = R at ih
    unfold F_term_Env_Value_s1
    dsimp only
    rw [Term.eta2, Term.eta2, show (Envr.mk (Graph.mk e.g.nodes e.g.edges e.g.next) e.at_) = e from rfl, h x (by simp), Option.bind_some]
    dsimp only
    rw [Val.eta, Val.eta, ck_ok (roomQ (by simp at hl ⊢; omega) (by omega)), ih, tvals]
    simp
theorem value_ok {g : Graph} (hg : GOk g) {at_ : List (ByteArray × Int)} (ha : atOk at_) (b : List (ByteArray × Bool)) (t : Term) : ∀ d, tOk t → tchk b t d = 0 →
    (∃ N, ∀ n, N ≤ n → term_Env_Value n (⟨g, at_⟩, t, ()) = some (tval g at_ t, ())) ∧ Right (tval g at_ t) 1 := by
  induction t using term_ind with
  | _ k v s a ih =>
    intro d ht hc
    rw [tOk, tOks_iff] at ht
    have hr := tr_of hc
    cases hr with
    | const v s a d h6 hv =>
      have hR := right_of v 1 ht.2.1 hv
      refine ⟨⟨101, fun n hn => ?_⟩, by rw [tval]; exact hR⟩
      obtain ⟨m, rfl⟩ : ∃ m, n = m + 1 := ⟨n - 1, by omega⟩
      rw [term_Env_Value, tval]
      unfold term_Env_Value_b
      dsimp +instances only [tk_mk, tv_mk]
      rw [Val.eta, copy_ok v 1 m (by omega) (by omega) (by simp; omega) hv]
      simp only [Option.bind_some, beq_self_eq_true, cond_true]
      rw [Val.eta]
    | var v s a d h6 hm =>
      refine ⟨⟨101, fun n hn => ?_⟩, by rw [tval]; exact .int _ 1 (mpGet_in s ha)⟩
      obtain ⟨m, rfl⟩ : ∃ m, n = m + 1 := ⟨n - 1, by omega⟩
      rw [term_Env_Value, tval]
      rfl
    | field v s a d h6 e1 e2 =>
      refine ⟨⟨201, fun n hn => ?_⟩, by rw [tval]; exact (field_ok hg at_ _ s 100 (by omega)).2⟩
      obtain ⟨m, rfl⟩ : ∃ m, n = m + 1 := ⟨n - 1, by omega⟩
      rw [term_Env_Value, tval]
      unfold term_Env_Value_b
      dsimp +instances only [tk_mk, tv_mk, tn_mk, ta_mk]
      rw [e1, Option.bind_some, show (Graph.mk g.nodes g.edges g.next) = g from rfl, (field_ok hg at_ _ s m (by omega)).1, Option.bind_some]
      rw [show ((3 : Int) == 1) = false from rfl, show ((3 : Int) == 2) = false from rfl, show ((3 : Int) == 3) = true from rfl]
      simp only [cond_false, cond_true]
      rw [Val.eta]
    | call v s a d h6 har h30 hs _ _ =>
      have hall : ∀ x ∈ a, (∃ N, ∀ n, N ≤ n → term_Env_Value n (⟨g, at_⟩, x, ()) = some (tval g at_ x, ())) ∧ Right (tval g at_ x) 1 := fun x hx => ih x hx (d + 1) (ht.2.2.2.2 x hx) (hs x hx)
      have hR : ∀ y ∈ tvals g at_ a, Right y 1 := by
        rw [tvals_map]
        intro y hy
        obtain ⟨x, hx, rfl⟩ := List.mem_map.1 hy
        exact (hall x hx).2
      have hlen : (tvals g at_ a).length = a.length := by rw [tvals_map, List.length_map]
      obtain ⟨N, hN⟩ := all_N a fun x hx => (hall x hx).1
      refine ⟨⟨N + lSz (tvals g at_ a) + 1001, fun n hn => ?_⟩, by rw [tval]; exact callV_right g s _ hR (by omega) hg.types⟩
      obtain ⟨m, rfl⟩ : ∃ m, n = m + 1 := ⟨n - 1, by omega⟩
      rw [term_Env_Value, tval]
      unfold term_Env_Value_b
      dsimp +instances only [tk_mk, tv_mk, tn_mk, ta_mk]
      rw [show ((4 : Int) == 1) = false from rfl, show ((4 : Int) == 2) = false from rfl, show ((4 : Int) == 3) = false from rfl]
      simp only [cond_false]
      rw [R_term_Env_Value_s1 _ m _ _ a m _ _ _ _ (by omega) (by omega)]
      have hlp := args_loop (term_Env_Value m) m (fun (_ : Unit) => (none : Option (Val × Unit))) (fun (o17, o18, o19, o20, _) => (term_Env_call m ((Ev.Envr.mk (Ev.Graph.mk o17.1.g.nodes o17.1.g.edges o17.1.g.next) o17.1.at_), (Ev.Term.mk o18.1.kind (Ev.Val.mk o18.1.v.kind o18.1.v.n o18.1.v.s o18.1.v.l) o18.1.name o18.1.a), o20, ())).bind fun (y21, _) => some ((Ev.Val.mk y21.kind y21.n y21.s y21.l), ()))
        ⟨g, at_⟩ (.mk 4 v s a) (.mk 0 0 ⟨#[]⟩ []) a 0 [] (fun x hx => hN m (by omega) x hx) (by simpa using h30)
      rw [Val.eta]
      refine hlp.trans ?_
      dsimp only
      rw [Term.eta2, List.nil_append, call_ok g at_ (.mk 4 v s a) _ m hR (by omega) (by rw [hlen]; exact har) hg.riseE.1 hg.riseE.2 (by omega), Option.bind_some]
      dsimp only
      rw [Val.eta]
      rfl
end Pure

/- Terms: Eval in closed form. No program. -/
namespace Pure
open Esp Ev Go
set_option linter.unusedSimpArgs false
set_option linter.unusedVariables false

theorem mp_idx {kt vt : Ev.Ty} (k : kt.den) (y x : vt.den) : ∀ l : List (kt.den × vt.den), keyEq kt k k = true →
    (mpPut kt vt l k y)[mpIdx kt vt l k]? = some (k, y) ∧ (mpPut kt vt l k y).set (mpIdx kt vt l k) (k, x) = mpPut kt vt l k x
  | [], hk => ⟨rfl, rfl⟩
  | p :: r, hk => by
    rw [mpPut, mpPut, mpIdx]
    cases keyEq kt k p.1 with
    | true => exact ⟨rfl, rfl⟩
    | false =>
      obtain ⟨h1, h2⟩ := mp_idx k y x r hk
      exact ⟨h1, congrArg (p :: ·) h2⟩
theorem mp_setAt {kt vt : Ev.Ty} (k : kt.den) (y x : vt.den) (l : List (kt.den × vt.den)) (hk : keyEq kt k k = true) : mpSetAt kt vt (mpPut kt vt l k y) ((mpIdx kt vt l k : Nat) : Int) x = some (mpPut kt vt l k x) := by
  obtain ⟨h1, h2⟩ := mp_idx k y x l hk
  unfold mpSetAt
  rw [if_pos (by omega), Int.toNat_natCast, h1]
  show some _ = _
  rw [h2]
theorem keyS (s : ByteArray) : keyEq .str s s = true := by
  show (s == s) = true
  show (s.data == s.data) = true
  simp
/-- what names stand for: an errno, which are edges, numbers -/
def envF (g : Graph) : List (ByteArray × Int) → List (ByteArray × Bool) → List (ByteArray × Int) → Int × List (ByteArray × Bool) × List (ByteArray × Int)
  | [], b, a => (0, b, a)
  | p :: r, b, a => bif mpHas .str .bool b p.1 then (7, b, a) else bif (nodeIn g.nodes p.2).isNone && (edgeIn g.edges p.2).isNone then (5, b, a)
    else envF g r (mpPut .str .bool b p.1 (edgeIn g.edges p.2).isSome) (mpPut .str .i64 a p.1 p.2)
theorem env_loop {ρ : Type} {g : Graph} (hg : GOk g) (n : Nat) (hn : 100 ≤ n) (kr : Int × (Val × Unit) × Unit → Option ρ) (k : List Int × (Graph × Unit) × (Term × Unit) × (Val × Unit) × List (ByteArray × Bool) × List (ByteArray × Int) × Unit → Option ρ) (ids : List Int) (t : Term) (z : Val) :
    ∀ (names : List ByteArray) (q ids' : List Int) (b : List (ByteArray × Bool)) (a : List (ByteArray × Int)) (j : Int), j = (q.length : Int) → ids = q ++ ids' → names.length = ids'.length →
      foldK (F_term_Eval_s0 n kr) k j names (ids, (g, ()), (t, ()), (z, ()), b, a, ()) =
        bif (envF g (names.zip ids') b a).1 != 0 then kr ((envF g (names.zip ids') b a).1, (zV, ()), ()) else k (ids, (g, ()), (t, ()), (z, ()), (envF g (names.zip ids') b a).2.1, (envF g (names.zip ids') b a).2.2, ())
  | [], q, [], b, a, _, _, _, _ => rfl
  | [], _, _ :: _, _, _, _, _, _, h => by simp at h
  | _ :: _, _, [], _, _, _, _, _, h => by simp at h
  | s :: r, q, i :: ids', b, a, j, hj, hq, h => by
    subst hj
    rw [foldK]
    have ih := env_loop hg n hn kr k ids t z r (q ++ [i]) ids' (mpPut .str .bool b s (edgeIn g.edges i).isSome) (mpPut .str .i64 a s i) ((q.length : Int) + 1) (by simp) (by simp [hq]) (by simpa using h)
    generalize foldK (F_term_Eval_s0 n kr) k ((q.length : Int) + 1) r = R at ih
    unfold F_term_Eval_s0
    dsimp only
    rw [List.zip_cons_cons, envF]
    dsimp only
    obtain ⟨k1, hk1, hf1⟩ := find_ok g i n hg.riseN.1 hg.riseN.2 (by omega)
    obtain ⟨k2, hk2, hf2⟩ := findE_ok g i n hg.riseE.1 hg.riseE.2 (by omega)
    have hix : ix ids (q.length : Int) = some i := ix_ok (by rw [hq]; simp)
    cases mpHas .str .bool b s with
    | true => rfl
    | false =>
      simp only [cond_false]
      rw [hix, Option.bind_some, show (Graph.mk g.nodes g.edges g.next) = g from rfl, hk1, Option.bind_some, Option.bind_some, hk2, Option.bind_some]
      dsimp only
      rw [hf1.lt, hf2.lt]
      cases hc : (nodeIn g.nodes i).isNone && (edgeIn g.edges i).isNone with
      | true => rfl
      | false =>
        simp only [cond_false]
        rw [Option.bind_some, mp_setAt (kt := .str) (vt := .i64) s _ i a (keyS s), Option.bind_some, hf2.ge, Term.eta2, Val.eta]
        exact ih
theorem envF_at (g : Graph) : ∀ (l : List (ByteArray × Int)) (b : List (ByteArray × Bool)) (a : List (ByteArray × Int)), (∀ p ∈ l, wfI .i64 p.2) → atOk a → atOk (envF g l b a).2.2
  | [], b, a, _, h => h
  | p :: r, b, a, hl, h => by
    rw [envF]
    cases mpHas .str .bool b p.1 with
    | true => exact h
    | false =>
      cases (nodeIn g.nodes p.2).isNone && (edgeIn g.edges p.2).isNone with
      | true => exact h
      | false =>
        refine envF_at g r _ _ (fun q hq => hl q (by simp [hq])) ?_
        have : ∀ (a : List (ByteArray × Int)), atOk a → atOk (mpPut .str .i64 a p.1 p.2) := by
          intro a
          induction a with
          | nil =>
            intro _ q hq
            have : q = (p.1, p.2) := by simpa [mpPut] using hq
            subst this
            exact hl p (by simp)
          | cons y a ih =>
            intro ha q hq
            rw [mpPut] at hq
            cases hk : keyEq .str p.1 y.1 with
            | true =>
              rw [hk, cond_true] at hq
              rcases List.mem_cons.1 hq with rfl | hq
              · exact hl p (by simp)
              · exact ha q (by simp [hq])
            | false =>
              rw [hk, cond_false] at hq
              rcases List.mem_cons.1 hq with rfl | hq
              · exact ha _ (by simp)
              · exact ih (fun z hz => ha z (by simp [hz])) q hq
        exact this a h
/-- ahead of a term: an errno, and what names stand for -/
noncomputable def setR (g : Graph) (names : List ByteArray) (ids : List Int) : Int × List (ByteArray × Bool) × List (ByteArray × Int) :=
  bif chkG g != 0 then (chkG g, [], []) else bif ((names.length : Int) != (ids.length : Int)) || decide ((names.length : Int) > 30) then (2, [], []) else envF g (names.zip ids) [] []
/-- what Eval answers -/
noncomputable def evalR (g : Graph) (names : List ByteArray) (ids : List Int) (t : Term) : Val × Int :=
  bif (setR g names ids).1 != 0 then (zV, (setR g names ids).1) else bif tchk (setR g names ids).2.1 t 1 != 0 then (zV, tchk (setR g names ids).2.1 t 1) else (tval g (setR g names ids).2.2 t, 0)
theorem set_at {g : Graph} {names : List ByteArray} {ids : List Int} (hi : ∀ i ∈ ids, wfI .i64 i) : atOk (setR g names ids).2.2 := by
  unfold setR
  cases chkG g != 0 with
  | true => intro p hp; cases hp
  | false =>
    cases ((names.length : Int) != (ids.length : Int)) || decide ((names.length : Int) > 30) with
    | true => intro p hp; cases hp
    | false => exact envF_at g _ [] [] (fun p hp => hi _ (List.of_mem_zip hp).2) (fun p hp => by cases hp)
theorem eval_ok {g : Graph} (hok : gOk g) (names : List ByteArray) (ids : List Int) (hi : ∀ i ∈ ids, wfI .i64 i) (t : Term) (ht : tOk t) :
    ∃ N, ∀ n, N ≤ n → term_Eval n (g, names, ids, t, ()) = some ((evalR g names ids t).1, (evalR g names ids t).2, ()) := by
  have hat := set_at (g := g) (names := names) hi
  have main : ∀ n, 300 ≤ n → ((chkG g = 0 ∧ tchk (setR g names ids).2.1 t 1 = 0) → term_Env_Value n (⟨g, (setR g names ids).2.2⟩, t, ()) = some (tval g (setR g names ids).2.2 t, ())) →
      term_Eval n (g, names, ids, t, ()) = some ((evalR g names ids t).1, (evalR g names ids t).2, ()) := by
    intro n hn hv
    unfold evalR
    unfold term_Eval
    dsimp only
    rw [show (Graph.mk g.nodes g.edges g.next) = g from rfl, gcheck_ok g n (by omega), Option.bind_some]
    dsimp only
    cases hcg : chkG g != 0 with
    | true =>
      have hs : setR g names ids = (chkG g, [], []) := by unfold setR; rw [hcg]; rfl
      rw [hs]
      dsimp only
      rw [hcg]
      rfl
    | false =>
      have hcg0 : chkG g = 0 := by simpa using hcg
      have hg : GOk g := ⟨hok, hcg0⟩
      cases hl : ((names.length : Int) != (ids.length : Int)) || decide ((names.length : Int) > 30) with
      | true =>
        have hs : setR g names ids = (2, [], []) := by unfold setR; rw [hcg, hl]; rfl
        rw [hs]
        rfl
      | false =>
        have hs : setR g names ids = envF g (names.zip ids) [] [] := by unfold setR; rw [hcg, hl]; rfl
        rw [hs] at hv ⊢
        rw [Bool.or_eq_false_iff] at hl
        have h30 := of_decide_eq_false hl.2
        have hle : names.length = ids.length := by have := hl.1; simp at this; omega
        simp only [cond_false]
        rw [R_term_Eval_s0 n _ _ names n _ _ _ _ _ _ (by omega) (by omega), Term.eta2, env_loop hg n (by omega) _ _ ids t _ names [] ids [] [] 0 rfl rfl hle]
        cases he : (envF g (names.zip ids) [] []).1 != 0 with
        | true => rfl
        | false =>
          simp only [cond_false, Term.eta2]
          rw [tCheck_ok _ t n hn, Option.bind_some]
          dsimp only
          cases hc : tchk (envF g (names.zip ids) [] []).2.1 t 1 != 0 with
          | true => rfl
          | false =>
            simp only [cond_false]
            rw [show (Graph.mk g.nodes g.edges g.next) = g from rfl, hv ⟨hcg0, by simpa using hc⟩, Option.bind_some]
            dsimp only
            rw [Val.eta]
  by_cases h : chkG g = 0 ∧ tchk (setR g names ids).2.1 t 1 = 0
  · obtain ⟨⟨N, hN⟩, _⟩ := value_ok ⟨hok, h.1⟩ hat (setR g names ids).2.1 t 1 ht h.2
    exact ⟨N + 300, fun n hn => main n (by omega) fun _ => hN n (by omega)⟩
  · exact ⟨300, fun n hn => main n hn fun h' => absurd h' h⟩
/-- where Eval answers without an error -/
structure EvOk (g : Graph) (names : List ByteArray) (ids : List Int) (t : Term) : Prop where
  gk : GOk g
  at_ : atOk (setR g names ids).2.2
  z : (setR g names ids).1 = 0
  c : tchk (setR g names ids).2.1 t 1 = 0
theorem evalR_0 {g : Graph} (hok : gOk g) {names : List ByteArray} {ids : List Int} (hi : ∀ i ∈ ids, wfI .i64 i) {t : Term} (h : (evalR g names ids t).2 = 0) : EvOk g names ids t ∧ (evalR g names ids t).1 = tval g (setR g names ids).2.2 t := by
  unfold evalR at h ⊢
  cases h1 : (setR g names ids).1 != 0 with
  | true => rw [h1, cond_true] at h; dsimp only at h; rw [h] at h1; cases h1
  | false =>
    rw [h1, cond_false] at h
    cases h2 : tchk (setR g names ids).2.1 t 1 != 0 with
    | true => rw [h2, cond_true] at h; dsimp only at h; rw [h] at h2; cases h2
    | false =>
      have hz : (setR g names ids).1 = 0 := by simpa using h1
      refine ⟨⟨⟨hok, ?_⟩, set_at hi, hz, by simpa using h2⟩, rfl⟩
      unfold setR at hz
      cases hc : chkG g != 0 with
      | true => rw [hc, cond_true] at hz; exact hz
      | false => simpa using hc
theorem evalR_of {g : Graph} {names : List ByteArray} {ids : List Int} {t : Term} (hz : (setR g names ids).1 = 0) (hc : tchk (setR g names ids).2.1 t 1 = 0) : evalR g names ids t = (tval g (setR g names ids).2.2 t, 0) := by
  unfold evalR
  rw [hz, hc]
  rfl
end Pure

/- The laws of Kleene's and, or and not; of lists of two; of what is turned twice. No program. -/
namespace Pure
open Esp Ev Go
set_option linter.unusedSimpArgs false
set_option linter.unusedVariables false

def cT (s : ByteArray) (l : List Term) : Term := .mk 4 (.mk 0 0 ⟨#[]⟩ []) s l
theorem lcall_ok (s : ByteArray) (l : List Term) : espalierlaw_call (s, l, ()) = some (cT s l, ()) := rfl
theorem cT_ok {s : ByteArray} {l : List Term} (hs : s.size ≤ maxLen) (hl : l.length ≤ maxLen) (h : ∀ x ∈ l, tOk x) : tOk (cT s l) := by
  unfold cT
  rw [tOk, tOks_iff]
  exact ⟨by unfold wfI; decide, right_ok zV_r, hs, hl, h⟩
theorem cT_inv {b : List (ByteArray × Bool)} {s : ByteArray} {l : List Term} {d : Int} (h : tchk b (cT s l) d = 0) : d ≤ 6 ∧ ∀ x ∈ l, tchk b x (d + 1) = 0 := by
  have := tr_of h
  unfold cT at this
  cases this with
  | call v s a d h6 _ _ hs _ _ => exact ⟨h6, hs⟩
theorem tchks_of {b : List (ByteArray × Bool)} {d : Int} : ∀ {l : List Term}, (∀ x ∈ l, tchk b x d = 0) → tchks b l d = 0
  | [], _ => rfl
  | y :: r, h => by
    rw [tchks, h y (by simp)]
    exact tchks_of fun x hx => h x (by simp [hx])
theorem zr_z : zrB (.mk 0 0 ⟨#[]⟩ []) = true := by
  unfold zrB
  dsimp +instances only [kind_mk, n_mk, s_mk, l_mk]
  rw [seq_refl]
  rfl
theorem tchk_mono {b : List (ByteArray × Bool)} (t : Term) : ∀ d d', d' ≤ d → tchk b t d = 0 → tchk b t d' = 0 := by
  induction t using term_ind with
  | _ k v s a ih =>
    intro d d' hd h
    have hx : tchks b a (d + 1) = 0 → tchks b a (d' + 1) = 0 := fun h0 => tchks_of fun x hx => ih x hx (d + 1) (d' + 1) (by omega) (tchks_0 h0 x hx)
    have h6 : d ≤ 6 := by
      rw [tchk] at h
      cases hd6 : decide (d > 6) with
      | true => rw [hd6] at h; cases h
      | false => have := of_decide_eq_false hd6; omega
    rw [tchk, show decide (d > 6) = false by rw [decide_eq_false_iff_not]; omega] at h
    rw [tchk, show decide (d' > 6) = false by rw [decide_eq_false_iff_not]; omega]
    cases h1 : k == 1 with
    | true => rw [h1] at h; exact h
    | false =>
    cases h2 : k == 2 with
    | true => rw [h1, h2] at h; exact h
    | false =>
    cases h3 : k == 3 with
    | true =>
      rw [h1, h2, h3] at h
      simp only [cond_true, cond_false] at h ⊢
      cases hz : (!zrB v) || ((a.length : Int) != 1) with
      | true => rw [hz] at h; exact h
      | false =>
        cases hk : (hdT a).kind != 2 with
        | true => rw [hz, hk] at h; exact h
        | false =>
          cases hn : !nmB s with
          | true => rw [hz, hk, hn] at h; exact h
          | false => rw [hz, hk, hn] at h; exact hx h
    | false =>
    cases h4 : k == 4 with
    | false => rw [h1, h2, h3, h4] at h; exact h
    | true =>
      rw [h1, h2, h3, h4] at h
      simp only [cond_true, cond_false] at h ⊢
      cases hz : ((!(arN s).2) || !zrB v) || (decide ((arN s).1 ≥ 0) && ((a.length : Int) != (arN s).1)) with
      | true => rw [hz] at h; exact h
      | false =>
        cases h30 : decide ((a.length : Int) > 30) with
        | true => rw [hz, h30] at h; exact h
        | false =>
          rw [hz, h30] at h
          simp only [cond_false] at h ⊢
          cases hc : tchks b a (d + 1) != 0 with
          | true => rw [hc, cond_true] at h; rw [h] at hc; cases hc
          | false =>
            rw [hc] at h
            rw [hx (by simpa using hc)]
            exact h
/-- a call that is right -/
theorem cT_chk {b : List (ByteArray × Bool)} {s : ByteArray} {l : List Term} {d : Int} {k : Int} (h6 : d ≤ 6) (ha : arN s = (k, true)) (hk : k ≥ 0 → (l.length : Int) = k) (h30 : l.length ≤ 30) (h : ∀ x ∈ l, tchk b x (d + 1) = 0)
    (hi : seq s ⟨#[105, 100]⟩ = false) (ht : seq s ⟨#[116, 121, 112, 101]⟩ = false) : tchk b (cT s l) d = 0 := by
  unfold cT
  rw [tchk, show decide (d > 6) = false by rw [decide_eq_false_iff_not]; omega, ha, zr_z, tchks_of h]
  have e1 : (decide (k ≥ 0) && ((l.length : Int) != k)) = false := by
    by_cases hh : k ≥ 0
    · rw [hk hh]; simp
    · rw [decide_eq_false hh]; rfl
  have e2 : decide ((l.length : Int) > 30) = false := by rw [decide_eq_false_iff_not]; omega
  have e3 : lstB b s (hdT l) = 0 := by unfold lstB; rw [hi, ht]; rfl
  rw [show ((4 : Int) == 1) = false from rfl, show ((4 : Int) == 2) = false from rfl, show ((4 : Int) == 3) = false from rfl, show ((4 : Int) == 4) = true from rfl]
  simp only [cond_true, cond_false]
  rw [e1, e2, e3]
  rfl
theorem tval_c (g : Graph) (at_ : List (ByteArray × Int)) (s : ByteArray) (l : List Term) : tval g at_ (cT s l) = callV g s (l.map (tval g at_)) := by
  unfold cT
  rw [tval, tvals_map]
  rfl
section
variable (g : Graph) (x y : Val)
theorem cv_not : callV g ⟨#[110, 111, 116]⟩ [x] = tV (ngS (stV x)) := by kernel_rfl
theorem cv_and : callV g ⟨#[97, 110, 100]⟩ [x, y] = tV (ngS (orS (ngS (stV x)) (ngS (stV y)))) := by kernel_rfl
theorem cv_or : callV g ⟨#[111, 114]⟩ [x, y] = tV (orS (stV x) (stV y)) := by kernel_rfl
theorem cv_null : callV g ⟨#[110, 117, 108, 108]⟩ [x] = tV (bif x.kind == 0 then 1 else 0) := by kernel_rfl
theorem cv_coal : callV g ⟨#[99, 111, 97, 108, 101, 115, 99, 101]⟩ [x, y] = bif x.kind != 0 then x else bif y.kind != 0 then y else zV := by kernel_rfl
theorem cv_list : callV g ⟨#[108, 105, 115, 116]⟩ [x, y] = bif chk (.mk 4 0 ⟨#[]⟩ [x, y]) 1 == 0 then .mk 4 0 ⟨#[]⟩ [x, y] else zV := by kernel_rfl
theorem cv_in : callV g ⟨#[105, 110]⟩ [x, y] = bif y.kind != 4 then zV else tV (inS x 0 y.l) := by kernel_rfl
theorem cv_eq : callV g ⟨#[61]⟩ [x, y] = tV (smV x y) := by kernel_rfl
theorem cv_lt : callV g ⟨#[60]⟩ [x, y] = tV (lsV x y) := by kernel_rfl
theorem cv_le : callV g ⟨#[60, 61]⟩ [x, y] = tV (ngS (lsV y x)) := by kernel_rfl
end
theorem termed_ok (n : Nat) : espalierlaw_termed (n + 60) () = some (true, ()) := by kernel_rfl
theorem sameR {v w : Val} (h : Right v 1) (he : v = w) (n : Nat) (hn : 40 ≤ n) : espalierref_SameValue n (v, w, ()) = some (true, ()) := by
  subst he
  exact same_ok h n hn
theorem three {x y : Val} (hx : Right x 1) (hy : Right y 1) (h : lsV x y ≠ 2) : lsV x y + lsV y x + smV x y = 1 ∧ ngS (lsV y x) = lsV x y + smV x y := by
  unfold lsV at h ⊢
  cases hk : (x.kind != y.kind) || ((x.kind != 2) && (x.kind != 3)) with
  | true => rw [hk] at h; exact absurd rfl h
  | false =>
    rw [Bool.or_eq_false_iff] at hk
    have ek : x.kind = y.kind := by simpa using hk.1
    have hk2 : ((y.kind != x.kind) || ((y.kind != 2) && (y.kind != 3))) = false := by
      rw [← ek, hk.2]; simp
    rw [hk2]
    have k23 : x.kind = 2 ∨ x.kind = 3 := by
      have := hk.2
      rw [Bool.and_eq_false_iff] at this
      rcases this with h | h
      · exact .inl (by simpa using h)
      · exact .inr (by simpa using h)
    have hsm : smV x y = bif ordV x y == 0 then 1 else 0 := by
      obtain ⟨k, a, s, l⟩ := x
      obtain ⟨k', a', s', l'⟩ := y
      rw [kind_mk] at k23 ek
      rw [kind_mk] at ek
      subst ek
      rw [smV]
      have h0 : (k == 0) = false := by rcases k23 with h | h <;> rw [h] <;> rfl
      have h4 : (k == 4) = false := by rcases k23 with h | h <;> rw [h] <;> rfl
      simp only [h0, h4, Bool.or_self, cond_false, Bool.false_and, Bool.not_false, Bool.true_or, cond_true, bne, Bool.or_false]
    rw [hsm]
    have hneg := ordV_neg x y
    have hr := ordV_rng x y
    rw [hneg]
    rcases (show ordV x y = -1 ∨ ordV x y = 0 ∨ ordV x y = 1 by omega) with h | h | h <;> rw [h] <;> decide
section
variable {g : Graph} (hok : gOk g) (names : List ByteArray) {ids : List Int} (hi : ∀ i ∈ ids, wfI .i64 i) {s t u : Term} (hs : tOk s) (ht : tOk t) (hu : tOk u)
include hok hi hs ht
theorem TermKleene_ok : ∃ n, espalierlaw_TermKleene n (g, names, ids, s, t, ()) = some (true, ()) := by
  have o1 : ∀ {f : ByteArray} {a : Term}, f.size ≤ maxLen → tOk a → tOk (cT f [a]) := fun hf ha => cT_ok hf (by unfold maxLen; simp) (by simpa using ha)
  have o2 : ∀ {f : ByteArray} {a c : Term}, f.size ≤ maxLen → tOk a → tOk c → tOk (cT f [a, c]) := fun hf ha hc => cT_ok hf (by unfold maxLen; simp) (by simpa using ⟨ha, hc⟩)
  have zz : ∀ {f : ByteArray}, f.size ≤ 20 → f.size ≤ maxLen := fun h => by unfold maxLen; omega
  obtain ⟨N1, h1⟩ := eval_ok hok names ids hi (cT ⟨#[110, 111, 116]⟩ [cT ⟨#[97, 110, 100]⟩ [s, t]]) (o1 (zz (by decide)) (o2 (zz (by decide)) hs ht))
  obtain ⟨N2, h2⟩ := eval_ok hok names ids hi (cT ⟨#[111, 114]⟩ [cT ⟨#[110, 111, 116]⟩ [s], cT ⟨#[110, 111, 116]⟩ [t]]) (o2 (zz (by decide)) (o1 (zz (by decide)) hs) (o1 (zz (by decide)) ht))
  obtain ⟨N3, h3⟩ := eval_ok hok names ids hi (cT ⟨#[111, 114]⟩ [s, t]) (o2 (zz (by decide)) hs ht)
  obtain ⟨N4, h4⟩ := eval_ok hok names ids hi (cT ⟨#[111, 114]⟩ [t, s]) (o2 (zz (by decide)) ht hs)
  obtain ⟨N5, h5⟩ := eval_ok hok names ids hi (cT ⟨#[110, 117, 108, 108]⟩ [cT ⟨#[99, 111, 97, 108, 101, 115, 99, 101]⟩ [s, t]]) (o1 (zz (by decide)) (o2 (zz (by decide)) hs ht))
  obtain ⟨N6, h6⟩ := eval_ok hok names ids hi (cT ⟨#[97, 110, 100]⟩ [cT ⟨#[110, 117, 108, 108]⟩ [s], cT ⟨#[110, 117, 108, 108]⟩ [t]]) (o2 (zz (by decide)) (o1 (zz (by decide)) hs) (o1 (zz (by decide)) ht))
  refine ⟨N1 + N2 + N3 + N4 + N5 + N6 + 100, ?_⟩
  generalize hn : N1 + N2 + N3 + N4 + N5 + N6 + 100 = n
  have cl : ∀ (t : Term) N, (∀ n, N ≤ n → term_Eval n (g, names, ids, t, ()) = some ((evalR g names ids t).1, (evalR g names ids t).2, ())) → N ≤ n → espalierlaw_TermKleene_1 n (t, g, names, ids, ()) = some ((evalR g names ids t).1, (evalR g names ids t).2, ()) := by
    intro t N h hN
    unfold espalierlaw_TermKleene_1
    dsimp only
    rw [Term.eta2, show (Graph.mk g.nodes g.edges g.next) = g from rfl, h n hN, Option.bind_some]
    dsimp only
    rw [Val.eta]
  have e1 := cl _ N1 h1 (by omega)
  have e2 := cl _ N2 h2 (by omega)
  have e3 := cl _ N3 h3 (by omega)
  have e4 := cl _ N4 h4 (by omega)
  have e5 := cl _ N5 h5 (by omega)
  have e6 := cl _ N6 h6 (by omega)
  have td : espalierlaw_termed n () = some (true, ()) := by
    obtain ⟨m, rfl⟩ : ∃ m, n = m + 60 := ⟨n - 60, by omega⟩
    exact termed_ok m
  unfold espalierlaw_TermKleene
  simp only [Term.eta, Val.eta, lcall_ok, Option.bind_some, show (Graph.mk g.nodes g.edges g.next) = g from rfl, e1, e2, e3, e4, e5, e6, td, Val.eta]
  cases hz : ((!true) || ((evalR g names ids (cT ⟨#[110, 111, 116]⟩ [cT ⟨#[97, 110, 100]⟩ [s, t]])).2 != 0)) || ((evalR g names ids (cT ⟨#[111, 114]⟩ [cT ⟨#[110, 111, 116]⟩ [s], cT ⟨#[110, 111, 116]⟩ [t]])).2 != 0) with
  | true => rfl
  | false =>
    rw [Bool.or_eq_false_iff, Bool.or_eq_false_iff] at hz
    obtain ⟨k1, v1⟩ := evalR_0 hok hi (by simpa using hz.1.2)
    obtain ⟨k2, v2⟩ := evalR_0 hok hi (by simpa using hz.2)
    have hst := (cT_inv ((cT_inv k1.c).2 (cT ⟨#[97, 110, 100]⟩ [s, t]) (by simp))).2
    have hs3 := hst s (by simp)
    have ht3 := hst t (by simp)
    have hs2 := tchk_mono s (1 + 1 + 1) (1 + 1) (by omega) hs3
    have ht2 := tchk_mono t (1 + 1 + 1) (1 + 1) (by omega) ht3
    have c3 := cT_chk (b := (setR g names ids).2.1) (s := ⟨#[111, 114]⟩) (l := [s, t]) (d := 1) (k := 2) (by omega) (by kernel_rfl) (by simp) (by simp) (by simpa using ⟨hs2, ht2⟩) (by kernel_rfl) (by kernel_rfl)
    have c4 := cT_chk (b := (setR g names ids).2.1) (s := ⟨#[111, 114]⟩) (l := [t, s]) (d := 1) (k := 2) (by omega) (by kernel_rfl) (by simp) (by simp) (by simpa using ⟨ht2, hs2⟩) (by kernel_rfl) (by kernel_rfl)
    have c5a := cT_chk (b := (setR g names ids).2.1) (s := ⟨#[99, 111, 97, 108, 101, 115, 99, 101]⟩) (l := [s, t]) (d := 1 + 1) (k := -1) (by omega) (by kernel_rfl) (by simp) (by simp) (by simpa using ⟨hs3, ht3⟩) (by kernel_rfl) (by kernel_rfl)
    have c5 := cT_chk (b := (setR g names ids).2.1) (s := ⟨#[110, 117, 108, 108]⟩) (l := [cT ⟨#[99, 111, 97, 108, 101, 115, 99, 101]⟩ [s, t]]) (d := 1) (k := 1) (by omega) (by kernel_rfl) (by simp) (by simp) (by simpa using c5a) (by kernel_rfl) (by kernel_rfl)
    have c6a := cT_chk (b := (setR g names ids).2.1) (s := ⟨#[110, 117, 108, 108]⟩) (l := [s]) (d := 1 + 1) (k := 1) (by omega) (by kernel_rfl) (by simp) (by simp) (by simpa using hs3) (by kernel_rfl) (by kernel_rfl)
    have c6b := cT_chk (b := (setR g names ids).2.1) (s := ⟨#[110, 117, 108, 108]⟩) (l := [t]) (d := 1 + 1) (k := 1) (by omega) (by kernel_rfl) (by simp) (by simp) (by simpa using ht3) (by kernel_rfl) (by kernel_rfl)
    have c6 := cT_chk (b := (setR g names ids).2.1) (s := ⟨#[97, 110, 100]⟩) (l := [cT ⟨#[110, 117, 108, 108]⟩ [s], cT ⟨#[110, 117, 108, 108]⟩ [t]]) (d := 1) (k := 2) (by omega) (by kernel_rfl) (by simp) (by simp) (by simpa using ⟨c6a, c6b⟩) (by kernel_rfl) (by kernel_rfl)
    rw [v1, v2, evalR_of k1.z c3, evalR_of k1.z c4, evalR_of k1.z c5, evalR_of k1.z c6]
    simp only [cond_false, beq_self_eq_true, Bool.and_self, cond_true, tval_c, List.map_cons, List.map_nil, cv_not, cv_and, cv_or, cv_null, cv_coal]
    generalize tval g (setR g names ids).2.2 s = x
    generalize tval g (setR g names ids).2.2 t = y
    have q1 : tV (ngS (stV (tV (ngS (orS (ngS (stV x)) (ngS (stV y))))))) = tV (orS (stV (tV (ngS (stV x)))) (stV (tV (ngS (stV y))))) := by
      rw [stV_tV ngS_rng, stV_tV ngS_rng, stV_tV ngS_rng]
      rcases stV_rng x with h | h | h <;> rcases stV_rng y with h' | h' | h' <;> rw [h, h'] <;> rfl
    have q2 : tV (orS (stV x) (stV y)) = tV (orS (stV y) (stV x)) := by
      rcases stV_rng x with h | h | h <;> rcases stV_rng y with h' | h' | h' <;> rw [h, h'] <;> rfl
    have q3 : tV (bif (bif x.kind != 0 then x else bif y.kind != 0 then y else zV).kind == 0 then 1 else 0) = tV (ngS (orS (ngS (stV (tV (bif x.kind == 0 then 1 else 0)))) (ngS (stV (tV (bif y.kind == 0 then 1 else 0)))))) := by
      by_cases hx : x.kind = 0
      · by_cases hy : y.kind = 0
        · rw [hx, hy]; rfl
        · have e : (y.kind == 0) = false := by simpa using hy
          have e' : (y.kind != 0) = true := by simpa using hy
          rw [hx, e', e]
          simp only [show ((0 : Int) != 0) = false from rfl, cond_false, cond_true]
          rw [e]; rfl
      · have e : (x.kind == 0) = false := by simpa using hx
        have e' : (x.kind != 0) = true := by simpa using hx
        rw [e', e]
        simp only [cond_true, cond_false]
        rw [e]
        cases y.kind == 0 <;> rfl
    rw [sameR (tV_r _ ngS_rng) q1 n (by omega)]
    simp only [Option.bind_some, cond_true]
    rw [sameR (tV_r _ orS_rng) q2 n (by omega)]
    simp only [Option.bind_some, cond_true]
    rw [sameR (tV_r _ (by cases (bif x.kind != 0 then x else bif y.kind != 0 then y else zV).kind == 0 <;> simp)) q3 n (by omega)]
    rfl
include hu
theorem TermIn_ok : ∃ n, espalierlaw_TermIn n (g, names, ids, s, t, u, ()) = some (true, ()) := by
  have o2 : ∀ {f : ByteArray} {a c : Term}, f.size ≤ maxLen → tOk a → tOk c → tOk (cT f [a, c]) := fun hf ha hc => cT_ok hf (by unfold maxLen; simp) (by simpa using ⟨ha, hc⟩)
  have zz : ∀ {f : ByteArray}, f.size ≤ 20 → f.size ≤ maxLen := fun h => by unfold maxLen; omega
  have e3 := eval_ok hok names ids hi (cT ⟨#[108, 105, 115, 116]⟩ [t, u]) (o2 (zz (by decide)) ht hu)
  obtain ⟨N1, h1⟩ := eval_ok hok names ids hi (cT ⟨#[105, 110]⟩ [s, cT ⟨#[108, 105, 115, 116]⟩ [t, u]]) (o2 (zz (by decide)) hs (o2 (zz (by decide)) ht hu))
  obtain ⟨N2, h2⟩ := eval_ok hok names ids hi (cT ⟨#[111, 114]⟩ [cT ⟨#[61]⟩ [s, t], cT ⟨#[61]⟩ [s, u]]) (o2 (zz (by decide)) (o2 (zz (by decide)) hs ht) (o2 (zz (by decide)) hs hu))
  obtain ⟨N3, h3⟩ := e3
  refine ⟨N1 + N2 + N3 + 100, ?_⟩
  generalize hn : N1 + N2 + N3 + 100 = n
  have td : espalierlaw_termed n () = some (true, ()) := by
    obtain ⟨m, rfl⟩ : ∃ m, n = m + 60 := ⟨n - 60, by omega⟩
    exact termed_ok m
  unfold espalierlaw_TermIn
  simp only [Term.eta, Val.eta, lcall_ok, Option.bind_some, show (Graph.mk g.nodes g.edges g.next) = g from rfl, h1 n (by omega), h2 n (by omega), h3 n (by omega), td]
  cases hz : ((((!true) || ((evalR g names ids (cT ⟨#[105, 110]⟩ [s, cT ⟨#[108, 105, 115, 116]⟩ [t, u]])).2 != 0)) || ((evalR g names ids (cT ⟨#[111, 114]⟩ [cT ⟨#[61]⟩ [s, t], cT ⟨#[61]⟩ [s, u]])).2 != 0)) || ((evalR g names ids (cT ⟨#[108, 105, 115, 116]⟩ [t, u])).2 != 0)) || ((evalR g names ids (cT ⟨#[108, 105, 115, 116]⟩ [t, u])).1.kind == 0) with
  | true => rfl
  | false =>
    rw [Bool.or_eq_false_iff, Bool.or_eq_false_iff, Bool.or_eq_false_iff, Bool.or_eq_false_iff] at hz
    obtain ⟨⟨⟨⟨_, z1⟩, z2⟩, z3⟩, z4⟩ := hz
    obtain ⟨k1, v1⟩ := evalR_0 hok hi (by simpa using z1)
    obtain ⟨k2, v2⟩ := evalR_0 hok hi (by simpa using z2)
    obtain ⟨k3, v3⟩ := evalR_0 hok hi (by simpa using z3)
    rw [v3] at z4
    rw [v1, v2]
    simp only [cond_false, tval_c, List.map_cons, List.map_nil, cv_in, cv_or, cv_eq, cv_list] at z4 ⊢
    generalize tval g (setR g names ids).2.2 s = x at *
    generalize tval g (setR g names ids).2.2 t = y at *
    generalize tval g (setR g names ids).2.2 u = z at *
    cases hc : chk (.mk 4 0 ⟨#[]⟩ [y, z]) 1 == 0 with
    | false => rw [hc] at z4; cases z4
    | true =>
      simp only [cond_true]
      dsimp +instances only [kind_mk, l_mk]
      have q : tV (inS x 0 [y, z]) = tV (orS (stV (tV (smV x y))) (stV (tV (smV x z)))) := by
        rw [stV_tV (smV_rng x y), stV_tV (smV_rng x z)]
        show tV (orS (orS 0 (smV x y)) (smV x z)) = _
        rcases smV_rng x y with h | h | h <;> rcases smV_rng x z with h' | h' | h' <;> rw [h, h'] <;> rfl
      rw [show ((4 : Int) != 4) = false from rfl]
      simp only [cond_false]
      rw [sameR (tV_r _ (inS_rng _ _ _ (.inl rfl))) q n (by omega)]
      rfl
omit hu
theorem TermTwice_ok : ∃ n, espalierlaw_TermTwice n (g, names, ids, s, t, ()) = some (true, ()) := by
  have o1 : ∀ {f : ByteArray} {a : Term}, f.size ≤ maxLen → tOk a → tOk (cT f [a]) := fun hf ha => cT_ok hf (by unfold maxLen; simp) (by simpa using ha)
  have o2 : ∀ {f : ByteArray} {a c : Term}, f.size ≤ maxLen → tOk a → tOk c → tOk (cT f [a, c]) := fun hf ha hc => cT_ok hf (by unfold maxLen; simp) (by simpa using ⟨ha, hc⟩)
  have zz : ∀ {f : ByteArray}, f.size ≤ 20 → f.size ≤ maxLen := fun h => by unfold maxLen; omega
  obtain ⟨N1, h1⟩ := eval_ok hok names ids hi s hs
  obtain ⟨N2, h2⟩ := eval_ok hok names ids hi (cT ⟨#[110, 111, 116]⟩ [cT ⟨#[110, 111, 116]⟩ [s]]) (o1 (zz (by decide)) (o1 (zz (by decide)) hs))
  obtain ⟨N3, h3⟩ := eval_ok hok names ids hi (cT ⟨#[60]⟩ [s, t]) (o2 (zz (by decide)) hs ht)
  obtain ⟨N4, h4⟩ := eval_ok hok names ids hi (cT ⟨#[60]⟩ [t, s]) (o2 (zz (by decide)) ht hs)
  obtain ⟨N5, h5⟩ := eval_ok hok names ids hi (cT ⟨#[61]⟩ [s, t]) (o2 (zz (by decide)) hs ht)
  obtain ⟨N6, h6⟩ := eval_ok hok names ids hi (cT ⟨#[60, 61]⟩ [s, t]) (o2 (zz (by decide)) hs ht)
  refine ⟨N1 + N2 + N3 + N4 + N5 + N6 + 100, ?_⟩
  generalize hn : N1 + N2 + N3 + N4 + N5 + N6 + 100 = n
  have cl : ∀ (t : Term) N, (∀ n, N ≤ n → term_Eval n (g, names, ids, t, ()) = some ((evalR g names ids t).1, (evalR g names ids t).2, ())) → N ≤ n → espalierlaw_TermTwice_1 n (t, g, names, ids, ()) = some ((evalR g names ids t).1, (evalR g names ids t).2, ()) := by
    intro t N h hN
    unfold espalierlaw_TermTwice_1
    dsimp only
    rw [Term.eta2, show (Graph.mk g.nodes g.edges g.next) = g from rfl, h n hN, Option.bind_some]
    dsimp only
    rw [Val.eta]
  have e1 := cl _ N1 h1 (by omega)
  have e2 := cl _ N2 h2 (by omega)
  have e3 := cl _ N3 h3 (by omega)
  have e4 := cl _ N4 h4 (by omega)
  have e5 := cl _ N5 h5 (by omega)
  have e6 := cl _ N6 h6 (by omega)
  have td : espalierlaw_termed n () = some (true, ()) := by
    obtain ⟨m, rfl⟩ : ∃ m, n = m + 60 := ⟨n - 60, by omega⟩
    exact termed_ok m
  unfold espalierlaw_TermTwice
  simp only [Term.eta, Val.eta, lcall_ok, Option.bind_some, show (Graph.mk g.nodes g.edges g.next) = g from rfl, e1, e2, e3, e4, e5, e6, td]
  cases hz : ((!true) || ((evalR g names ids s).2 != 0)) || ((evalR g names ids (cT ⟨#[110, 111, 116]⟩ [cT ⟨#[110, 111, 116]⟩ [s]])).2 != 0) with
  | true => rfl
  | false =>
    rw [Bool.or_eq_false_iff, Bool.or_eq_false_iff] at hz
    obtain ⟨k1, v1⟩ := evalR_0 hok hi (by simpa using hz.1.2)
    obtain ⟨k2, v2⟩ := evalR_0 hok hi (by simpa using hz.2)
    have rx := (value_ok k1.gk k1.at_ _ s 1 hs k1.c).2
    rw [v1, v2]
    -- of two values one of three holds
    have tail : (bif (((((evalR g names ids (cT ⟨#[60]⟩ [s, t])).2 != 0) || ((evalR g names ids (cT ⟨#[60]⟩ [t, s])).2 != 0)) || ((evalR g names ids (cT ⟨#[61]⟩ [s, t])).2 != 0)) || ((evalR g names ids (cT ⟨#[60, 61]⟩ [s, t])).2 != 0)) || ((evalR g names ids (cT ⟨#[60]⟩ [s, t])).1.kind == 0) then some (true, ())
        else some (((IntKind.wrap .i64 ((IntKind.wrap .i64 ((evalR g names ids (cT ⟨#[60]⟩ [s, t])).1.n + (evalR g names ids (cT ⟨#[60]⟩ [t, s])).1.n)) + (evalR g names ids (cT ⟨#[61]⟩ [s, t])).1.n) : Int) == 1) && (((evalR g names ids (cT ⟨#[60, 61]⟩ [s, t])).1.n : Int) == (IntKind.wrap .i64 ((evalR g names ids (cT ⟨#[60]⟩ [s, t])).1.n + (evalR g names ids (cT ⟨#[61]⟩ [s, t])).1.n))), ())) = some (true, ()) := by
      cases hw : (((((evalR g names ids (cT ⟨#[60]⟩ [s, t])).2 != 0) || ((evalR g names ids (cT ⟨#[60]⟩ [t, s])).2 != 0)) || ((evalR g names ids (cT ⟨#[61]⟩ [s, t])).2 != 0)) || ((evalR g names ids (cT ⟨#[60, 61]⟩ [s, t])).2 != 0)) || ((evalR g names ids (cT ⟨#[60]⟩ [s, t])).1.kind == 0) with
      | true => rfl
      | false =>
        rw [Bool.or_eq_false_iff, Bool.or_eq_false_iff, Bool.or_eq_false_iff, Bool.or_eq_false_iff] at hw
        obtain ⟨⟨⟨⟨w1, w2⟩, w3⟩, w4⟩, w5⟩ := hw
        obtain ⟨c3, v3⟩ := evalR_0 hok hi (by simpa using w1)
        obtain ⟨c4, v4⟩ := evalR_0 hok hi (by simpa using w2)
        obtain ⟨c5, v5⟩ := evalR_0 hok hi (by simpa using w3)
        obtain ⟨c6, v6⟩ := evalR_0 hok hi (by simpa using w4)
        have ry := (value_ok k1.gk k1.at_ _ t (1 + 1) ht ((cT_inv c3.c).2 t (by simp))).2
        rw [v3] at w5
        rw [v3, v4, v5, v6]
        simp only [cond_false, tval_c, List.map_cons, List.map_nil, cv_lt, cv_eq, cv_le] at w5 ⊢
        generalize tval g (setR g names ids).2.2 s = x at *
        generalize tval g (setR g names ids).2.2 t = y at *
        have hne : lsV x y ≠ 2 := fun h => by rw [h] at w5; cases w5
        obtain ⟨t1, t2⟩ := three rx ry hne
        have hn1 : ∀ c : Int, (c = 0 ∨ c = 1 ∨ c = 2) → c ≠ 2 → (tV c).n = c := fun c h h2 => tV_n (by simpa using h2)
        have r1 := lsV_rng x y
        have r2 := lsV_rng y x
        have r3 := smV_rng x y
        have r4 : ngS (lsV y x) ≠ 2 := by omega
        rw [hn1 _ r1 hne, hn1 _ r2 (by omega), hn1 _ r3 (by omega), hn1 _ ngS_rng r4, wrap64 (x := lsV x y + lsV y x) (by omega) (by omega), wrap64 (x := lsV x y + lsV y x + smV x y) (by omega) (by omega), wrap64 (x := lsV x y + smV x y) (by omega) (by omega), t1, t2]
        simp
    simp only [cond_false, tval_c, List.map_cons, List.map_nil, cv_not]
    generalize tval g (setR g names ids).2.2 s = x at *
    rw [stV_tV ngS_rng]
    cases hk : x.kind == 1 with
    | true =>
      have hk1 : x.kind = 1 := by simpa using hk
      have q : x = tV (ngS (ngS (stV x))) := by
        cases rx with
        | truth n d h => rcases h with rfl | rfl <;> rfl
        | null => cases hk
        | int => cases hk
        | text => cases hk
        | list => cases hk
      simp only [cond_true]
      rw [sameR rx q n (by omega), Option.bind_some]
      simp only [hk1]
      rw [show ((!true) || (((1 : Int) != 1) && ((tV (ngS (ngS (stV x)))).kind != 0))) = false from rfl]
      exact tail
    | false =>
      have hs2 : stV x = 2 := by unfold stV; rw [hk]; rfl
      simp only [cond_false]
      rw [hs2, show (tV (ngS (ngS 2))).kind = 0 from rfl, show ((0 : Int) != 0) = false from rfl, Bool.and_false]
      exact tail
end
end Pure

/- Several texts in one (merge.py). -/
import Derived.Test.YtffefjmpmgkfoaaGreatDoorPCode
import Derived.Test.YtffefjmpmgkfoaaGreatDoorPLib
import Derived.Test.YtffefjmpmgkfoaaGreatDoorEvRead2
import Derived.Test.YtffefjmpmgkfoaaGreatDoorPRange
import Derived.KernelRfl

/- Values: whether they are right, their bytes, and back. No program. -/
namespace Pure
open Esp Ev Go
set_option linter.unusedSimpArgs false
set_option linter.unusedVariables false
set_option linter.unusedSimpArgs false
set_option linter.unusedVariables false

theorem Val.eta (v : Val) : Val.mk v.kind v.n v.s v.l = v := by cases v; rfl
theorem kind_mk (k n : Int) (s : ByteArray) (l : List Val) : (Val.mk k n s l).kind = k := rfl
theorem n_mk (k n : Int) (s : ByteArray) (l : List Val) : (Val.mk k n s l).n = n := rfl
theorem s_mk (k n : Int) (s : ByteArray) (l : List Val) : (Val.mk k n s l).s = s := rfl
theorem l_mk (k n : Int) (s : ByteArray) (l : List Val) : (Val.mk k n s l).l = l := rfl
mutual
theorem val_ind {p : Val → Prop} (h : ∀ k n s l, (∀ x ∈ l, p x) → p (.mk k n s l)) : ∀ v, p v
  | .mk k n s l => h k n s l (vals_ind h l)
theorem vals_ind {p : Val → Prop} (h : ∀ k n s l, (∀ x ∈ l, p x) → p (.mk k n s l)) : ∀ l : List Val, ∀ x ∈ l, p x
  | [] => fun _ hx => by cases hx
  | y :: r => List.forall_mem_cons.2 ⟨val_ind h y, vals_ind h r⟩
end
theorem seq_iff (a b : ByteArray) : seq a b = true ↔ a = b := by
  unfold seq
  constructor
  · intro h
    have h2 := eq_of_beq h
    rw [ByteArray.toList_eq, ByteArray.toList_eq] at h2
    cases a; cases b
    congr 1
    exact Array.toList_inj.1 h2
  · rintro rfl
    exact beq_self_eq_true _
def fin6 (b : Bool) : Int := bif b then 0 else 6
mutual
def chk : Val → Int → Int
  | .mk k n s l, d =>
    bif k == 0 then fin6 (((n == 0) && seq s ⟨#[]⟩) && ((l.length : Int) == 0))
    else bif k == 1 then fin6 ((((n == 0) || (n == 1)) && seq s ⟨#[]⟩) && ((l.length : Int) == 0))
    else bif k == 2 then fin6 (seq s ⟨#[]⟩ && ((l.length : Int) == 0))
    else bif k == 3 then (bif decide ((s.size : Int) > 4000) then 2 else bif n == 0 then fin6 (validS s && ((l.length : Int) == 0)) else 6)
    else bif k == 4 then (bif decide ((l.length : Int) > 30) || decide (d > 6) then 2 else bif chks l (d + 1) != 0 then chks l (d + 1) else fin6 ((n == 0) && seq s ⟨#[]⟩))
    else 6
def chks : List Val → Int → Int
  | [], _ => 0
  | x :: r, d => bif chk x d != 0 then chk x d else chks r d
end
theorem validN_some {s : ByteArray} (h : (s.size : Int) ≤ 4000) : validN (s, ()) = some (validS s, ()) := by
  unfold validN
  show (bif Nat.ble s.size 9223372036854775807 then some (validS s, ()) else none) = _
  rw [Nat.ble_eq_true_of_le (by omega)]
  rfl

theorem check_loop {ρ : Type} (self : Val × Int × Unit → Option (Int × Unit)) (n : Nat) (l : List Val) (d : Int) (hd : IntKind.wrap .i64 (d + 1) = d + 1) (hs : ∀ x ∈ l, self (x, d + 1, ()) = some (chk x (d + 1), ())) (hl : l.length ≤ 30) (o : Val)
    (kx : (Val × Unit) × Unit → Option ρ) (kr : Int × Unit → Option ρ) :
    ∀ (r p : List Val), l = p ++ r → ∀ fuel, r.length < fuel → iterN (fun rc => q25z_s1 self n rc kx kr) fuel (d, l, (l.length : Int), (p.length : Int), (o, ()), ()) = bif chks r (d + 1) != 0 then kr (chks r (d + 1), ()) else kx ((o, ()), ()) := by
  intro r
  induction r with
  | nil =>
    intro p hp fuel hf
    obtain ⟨m, rfl⟩ : ∃ m, fuel = m + 1 := ⟨fuel - 1, by omega⟩
    have e : decide ((p.length : Int) < (l.length : Int)) = false := by rw [decide_eq_false_iff_not]; subst hp; simp
    simp only [iterN, q25z_s1, Val.eta, e, cond_false, chks]
    rfl
  | cons x r ih =>
    intro p hp fuel hf
    obtain ⟨m, rfl⟩ : ∃ m, fuel = m + 1 := ⟨fuel - 1, by omega⟩
    have hlen : l.length = p.length + (r.length + 1) := by rw [hp]; simp
    have e : decide ((p.length : Int) < (l.length : Int)) = true := by rw [decide_eq_true_iff]; omega
    have e2 : ix l (p.length : Int) = some x := ix_ok (by rw [hp]; simp)
    have e3 : IntKind.wrap .i64 ((p.length : Int) + 1) = ((p ++ [x]).length : Int) := by rw [wrap64 (by omega) (by omega)]; simp
    have e4 := hs x (by rw [hp]; simp)
    have e5 := ih (p ++ [x]) (by simp [hp]) m (by simp at hf; omega)
    rw [iterN]
    simp only [q25z_s1, Val.eta, e, e2, e3, hd, e4, cond_true, Option.bind_some, e5]
    rw [chks]
    cases hc : chk x (d + 1) != 0 <;> simp [hc]

theorem check_ok (v : Val) : ∀ (d : Int) (n : Nat), 1 ≤ d → d ≤ 7 → 40 ≤ n + d.toNat → q25z n (v, d, ()) = some (chk v d, ()) := by
  induction v using val_ind with
  | _ k a s l ih =>
    intro d n h1 h2 h3
    obtain ⟨m, rfl⟩ : ∃ m, n = m + 1 := ⟨n - 1, by omega⟩
    simp only [q25z, q25z_b, chk, Val.eta]
    dsimp +instances only [kind_mk, n_mk, s_mk, l_mk]
    cases k == 0
    · cases k == 1
      · cases k == 2
        · cases k == 3
          · cases k == 4
            · rfl
            · simp only [cond_false, cond_true]
              cases hb : decide ((l.length : Int) > 30) || decide (d > 6)
              · have hb2 := Bool.or_eq_false_iff.1 hb
                have h30 := of_decide_eq_false hb2.1
                have h6 := of_decide_eq_false hb2.2
                have hw : IntKind.wrap .i64 (d + 1) = d + 1 := wrap64 (by omega) (by omega)
                simp only [cond_false, Val.eta]
                have := check_loop (ρ := Int × Unit) (q25z m) m l d hw (fun x hx => ih x hx (d + 1) m (by omega) (by omega) (by omega)) (by omega) (.mk k a s l)
                  (fun (o11, _) => (bif !(((o11.1.n : Int) == 0) && (seq o11.1.s (⟨#[]⟩ : ByteArray))) then some (6, ()) else some (0, ()))) (fun x => some ((x.1 : Int), ())) l [] rfl m (by omega)
                refine this.trans ?_
                cases chks l (d + 1) != 0
                · simp only [cond_false, kind_mk, n_mk, s_mk, l_mk]
                  cases (a == 0) && seq s ⟨#[]⟩ <;> rfl
                · rfl
              · rfl
          · simp only [cond_false, cond_true]
            cases hb : decide ((s.size : Int) > 4000)
            · have := of_decide_eq_false hb
              simp only [cond_false]
              cases a == 0
              · rfl
              · simp only [cond_true, validN_some (s := s) (by omega), Option.bind_some]
                cases validS s && ((l.length : Int) == 0) <;> rfl
            · rfl
        · simp only [cond_false, cond_true]
          cases seq s ⟨#[]⟩ && ((l.length : Int) == 0) <;> rfl
      · simp only [cond_false, cond_true]
        cases ((a == 0) || (a == 1)) && seq s ⟨#[]⟩ && ((l.length : Int) == 0) <;> rfl
    · simp only [cond_true]
      cases (a == 0) && seq s ⟨#[]⟩ && ((l.length : Int) == 0) <;> rfl
theorem Check_ok (v : Val) (n : Nat) (h : 40 ≤ n) : q22z n (v, ()) = some (chk v 1, ()) := by
  simp only [q22z, Val.eta, check_ok v 1 n (by omega) (by omega) (by omega), Option.bind_some]

inductive Right : Val → Int → Prop
  | null (d : Int) : Right (.mk 0 0 ⟨#[]⟩ []) d
  | truth (n : Int) (d : Int) : n = 0 ∨ n = 1 → Right (.mk 1 n ⟨#[]⟩ []) d
  | int (n : Int) (d : Int) : wfI .i64 n → Right (.mk 2 n ⟨#[]⟩ []) d
  | text (s : ByteArray) (d : Int) : s.size ≤ 4000 → validS s = true → Right (.mk 3 0 s []) d
  | list (l : List Val) (d : Int) : l.length ≤ 30 → d ≤ 6 → (∀ x ∈ l, Right x (d + 1)) → Right (.mk 4 0 ⟨#[]⟩ l) d
theorem fin6_0 {b : Bool} (h : fin6 b = 0) : b = true := by cases b <;> first | rfl | (unfold fin6 at h; simp at h)
theorem chks_0 {l : List Val} {d : Int} (h : chks l d = 0) : ∀ x ∈ l, chk x d = 0 := by
  induction l with
  | nil => intro x hx; cases hx
  | cons y r ih =>
    rw [chks] at h
    cases hc : chk y d != 0
    · rw [hc] at h
      have hc0 : chk y d = 0 := by simpa using hc
      intro x hx
      rcases List.mem_cons.1 hx with rfl | hx
      · exact hc0
      · exact ih h x hx
    · rw [hc] at h
      have h0 : chk y d = 0 := h
      simp [h0] at hc
theorem right_of (v : Val) : ∀ d, vOk v → chk v d = 0 → Right v d := by
  induction v using val_ind with
  | _ k a s l ih =>
    intro d hv h
    rw [vOk, vOks_iff] at hv
    have hlen : ∀ {x : Bool}, (x && ((l.length : Int) == 0)) = true → x = true ∧ l = [] := fun h => by
      rw [Bool.and_eq_true] at h
      exact ⟨h.1, by have := h.2; simpa using this⟩
    rw [chk] at h
    cases h0 : k == 0
    · rw [h0] at h
      cases h1 : k == 1
      · rw [h1] at h
        cases h2 : k == 2
        · rw [h2] at h
          cases h3 : k == 3
          · rw [h3] at h
            cases h4 : k == 4
            · rw [h4] at h; cases h
            · rw [h4] at h
              have hk : k = 4 := by simpa using h4
              subst hk
              simp only [cond_false, cond_true] at h
              cases hb : decide ((l.length : Int) > 30) || decide (d > 6)
              · rw [hb] at h
                have hb2 := Bool.or_eq_false_iff.1 hb
                have h30 := of_decide_eq_false hb2.1
                have h6 := of_decide_eq_false hb2.2
                simp only [cond_false] at h
                cases hc : chks l (d + 1) != 0
                · rw [hc] at h
                  have hc0 : chks l (d + 1) = 0 := by simpa using hc
                  have h7 := fin6_0 h
                  rw [Bool.and_eq_true, seq_iff] at h7
                  obtain ⟨h8, rfl⟩ := h7
                  have : a = 0 := by simpa using h8
                  subst this
                  exact .list l d (by omega) (by omega) fun x hx => ih x hx (d + 1) (hv.2.2.2.2 x hx) (chks_0 hc0 x hx)
                · rw [hc] at h
                  have h0 : chks l (d + 1) = 0 := h
                  simp [h0] at hc
              · rw [hb] at h; cases h
          · rw [h3] at h
            have hk : k = 3 := by simpa using h3
            subst hk
            simp only [cond_false, cond_true] at h
            cases hb : decide ((s.size : Int) > 4000)
            · rw [hb] at h
              have h40 := of_decide_eq_false hb
              simp only [cond_false] at h
              cases ha : a == 0
              · rw [ha] at h; cases h
              · rw [ha] at h
                obtain ⟨h5, rfl⟩ := hlen (fin6_0 h)
                have : a = 0 := by simpa using ha
                subst this
                exact .text s d (by omega) h5
            · rw [hb] at h; cases h
        · rw [h2] at h
          have hk : k = 2 := by simpa using h2
          subst hk
          obtain ⟨h5, rfl⟩ := hlen (fin6_0 h)
          obtain rfl := (seq_iff _ _).1 h5
          exact .int a d hv.2.1
      · rw [h1] at h
        have hk : k = 1 := by simpa using h1
        subst hk
        obtain ⟨h5, rfl⟩ := hlen (fin6_0 h)
        rw [Bool.and_eq_true, seq_iff] at h5
        obtain ⟨h6, rfl⟩ := h5
        exact .truth a d (by simpa using h6)
    · rw [h0] at h
      have hk : k = 0 := by simpa using h0
      subst hk
      obtain ⟨h5, rfl⟩ := hlen (fin6_0 h)
      rw [Bool.and_eq_true, seq_iff] at h5
      obtain ⟨h6, rfl⟩ := h5
      have : a = 0 := by simpa using h6
      subst this
      exact .null d
end Pure


/- Values: their order, and the other check. No program. -/
namespace Pure
open Esp Ev Go
set_option linter.unusedSimpArgs false
set_option linter.unusedVariables false
set_option linter.unusedSimpArgs false
set_option linter.unusedVariables false

theorem rcheck_loop {ρ : Type} (self : Val × Int × Unit → Option (Int × Unit)) (n : Nat) (l : List Val) (d : Int) (hd : IntKind.wrap .i64 (d + 1) = d + 1) (hs : ∀ x ∈ l, self (x, d + 1, ()) = some (chk x (d + 1), ())) (hl : l.length ≤ 30) (a b : Bool)
    (kx : Bool × Bool × Unit → Option ρ) (kr : Int × Unit → Option ρ) :
    ∀ (r p : List Val), l = p ++ r → ∀ fuel, r.length < fuel → iterN (fun rc => q8z_s1 self n rc kx kr) fuel (d, a, b, l, (l.length : Int), (p.length : Int), ()) = bif chks r (d + 1) != 0 then kr (chks r (d + 1), ()) else kx (a, b, ()) := by
  intro r
  induction r with
  | nil =>
    intro p hp fuel hf
    obtain ⟨m, rfl⟩ : ∃ m, fuel = m + 1 := ⟨fuel - 1, by omega⟩
    have e : decide ((p.length : Int) < (l.length : Int)) = false := by rw [decide_eq_false_iff_not]; subst hp; simp
    simp only [iterN, q8z_s1, Val.eta, e, cond_false, chks]
    rfl
  | cons x r ih =>
    intro p hp fuel hf
    obtain ⟨m, rfl⟩ : ∃ m, fuel = m + 1 := ⟨fuel - 1, by omega⟩
    have hlen : l.length = p.length + (r.length + 1) := by rw [hp]; simp
    have e : decide ((p.length : Int) < (l.length : Int)) = true := by rw [decide_eq_true_iff]; omega
    have e2 : ix l (p.length : Int) = some x := ix_ok (by rw [hp]; simp)
    have e3 : IntKind.wrap .i64 ((p.length : Int) + 1) = ((p ++ [x]).length : Int) := by rw [wrap64 (by omega) (by omega)]; simp
    have e4 := hs x (by rw [hp]; simp)
    have e5 := ih (p ++ [x]) (by simp [hp]) m (by simp at hf; omega)
    rw [iterN]
    simp only [q8z_s1, Val.eta, e, e2, e3, hd, e4, cond_true, Option.bind_some, e5]
    rw [chks]
    cases hc : chk x (d + 1) != 0 <;> simp [hc]
theorem rcheck_ok (v : Val) : ∀ (d : Int) (n : Nat), 1 ≤ d → d ≤ 7 → 40 ≤ n + d.toNat → q8z n (v, d, ()) = some (chk v d, ()) := by
  induction v using val_ind with
  | _ k a s l ih =>
    intro d n h1 h2 h3
    obtain ⟨m, rfl⟩ : ∃ m, n = m + 1 := ⟨n - 1, by omega⟩
    simp only [q8z, q8z_b, chk, Val.eta]
    dsimp +instances only [kind_mk, n_mk, s_mk, l_mk]
    by_cases k4 : k = 4
    · subst k4
      rw [show ((4 : Int) == 0) = false from rfl, show ((4 : Int) == 1) = false from rfl, show ((4 : Int) == 2) = false from rfl, show ((4 : Int) == 3) = false from rfl, show ((4 : Int) == 4) = true from rfl]
      simp only [cond_false, cond_true]
      cases hb : decide ((l.length : Int) > 30) || decide (d > 6)
      · have hb2 := Bool.or_eq_false_iff.1 hb
        have h30 := of_decide_eq_false hb2.1
        have h6 := of_decide_eq_false hb2.2
        have hw : IntKind.wrap .i64 (d + 1) = d + 1 := wrap64 (by omega) (by omega)
        simp only [cond_false]
        refine (rcheck_loop (ρ := Int × Unit) (q8z m) m l d hw (fun x hx => ih x hx (d + 1) m (by omega) (by omega) (by omega)) (by omega) (a == 0) (seq s ⟨#[]⟩) _ _ l [] rfl m (by omega)).trans ?_
        cases chks l (d + 1) != 0
        · simp only [cond_false]
          cases (a == 0) && seq s ⟨#[]⟩ <;> rfl
        · rfl
      · rfl
    · have e4 : (k == 4) = false := by simpa using k4
      rw [e4]
      simp only [cond_false]
      by_cases k3 : k = 3
      · subst k3
        rw [show ((3 : Int) == 0) = false from rfl, show ((3 : Int) == 1) = false from rfl, show ((3 : Int) == 2) = false from rfl, show ((3 : Int) == 3) = true from rfl]
        simp only [cond_false, cond_true]
        cases hb : decide ((s.size : Int) > 4000)
        · have := of_decide_eq_false hb
          simp only [cond_false, validN_some (s := s) (by omega), Option.bind_some]
          cases a == 0 <;> cases (l.length : Int) == 0 <;> cases validS s <;> rfl
        · rfl
      · have e3 : (k == 3) = false := by simpa using k3
        rw [e3]
        simp only [cond_false]
        cases k == 0
        · cases k == 1
          · cases k == 2
            · rfl
            · simp only [cond_false, cond_true]
              cases seq s ⟨#[]⟩ && ((l.length : Int) == 0) <;> rfl
          · simp only [cond_false, cond_true]
            cases ((a == 0) || (a == 1)) && seq s ⟨#[]⟩ && ((l.length : Int) == 0) <;> rfl
        · simp only [cond_true]
          cases (a == 0) && seq s ⟨#[]⟩ && ((l.length : Int) == 0) <;> rfl
end Pure


/- Names, labels, properties, graphs: one check as the other. No program. -/
namespace Pure
open Esp Ev Go
set_option linter.unusedSimpArgs false
set_option linter.unusedVariables false
set_option linter.unusedSimpArgs false
set_option linter.unusedVariables false

/-! ## GraphNames -/
end Pure


/- Graphs: one check as the other. No program. -/
namespace Pure
open Esp Ev Go
set_option linter.unusedSimpArgs false
set_option linter.unusedVariables false
set_option linter.unusedSimpArgs false
set_option linter.unusedVariables false

def Found {α : Type} (l : List α) (o : Option α) (k : Int) : Prop := (k = -1 ∧ o = none) ∨ (0 ≤ k ∧ ∃ x, ix l k = some x ∧ o = some x)
theorem Found.lt {α : Type} {l : List α} {o : Option α} {k : Int} (h : Found l o k) : decide (k < 0) = o.isNone := by
  rcases h with ⟨rfl, rfl⟩ | ⟨h, x, _, rfl⟩
  · rfl
  · simp; omega
end Pure


/- Graphs: Check one as the other. No program. -/
namespace Pure
open Esp Ev Go
set_option linter.unusedSimpArgs false
set_option linter.unusedVariables false
set_option linter.unusedSimpArgs false
set_option linter.unusedVariables false

theorem Graph.eta (g : Graph) : Graph.mk g.nodes g.edges g.next = g := rfl
end Pure


/- Graphs: properties, and what is around. No program. -/
namespace Pure
open Esp Ev Go
set_option linter.unusedSimpArgs false
set_option linter.unusedVariables false
set_option linter.unusedSimpArgs false
set_option linter.unusedVariables false

end Pure


/- Values stand in one order. No program. -/
namespace Pure
open Esp Ev Go
set_option linter.unusedSimpArgs false
set_option linter.unusedVariables false
set_option linter.unusedSimpArgs false
set_option linter.unusedVariables false

theorem same_eq : ∀ (x y : List UInt8), (∀ j, j < min x.length y.length → x[j]! = y[j]!) → x.length = y.length → x = y
  | [], [], _, _ => rfl
  | [], _ :: _, _, h => by simp at h
  | _ :: _, [], _, h => by simp at h
  | a :: x, b :: y, hj, h => by
    have h0 : a = b := by simpa using hj 0 (by simp)
    rw [h0, same_eq x y (fun j h => by simpa using hj (j + 1) (by simp only [List.length_cons]; omega)) (by simpa using h)]
end Pure


/- The program's order and the document's are the one order. No program. -/
namespace Pure
open Esp Ev Go
set_option linter.unusedSimpArgs false
set_option linter.unusedVariables false
set_option linter.unusedSimpArgs false
set_option linter.unusedVariables false

end Pure


/- Bags: what is one. No program. -/
namespace Pure
open Esp Ev Go
set_option linter.unusedSimpArgs false
set_option linter.unusedVariables false
set_option linter.unusedSimpArgs false
set_option linter.unusedVariables false

end Pure

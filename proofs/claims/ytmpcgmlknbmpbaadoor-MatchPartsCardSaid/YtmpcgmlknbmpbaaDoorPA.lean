import Derived.Test.YtmpcgmlknbmpbaaDoorPCode
import Derived.Test.YtmpcgmlknbmpbaaDoorPLib
import Derived.Test.YtmpcgmlknbmpbaaDoorEvRead6
import Derived.Test.YtmpcgmlknbmpbaaDoorPRange
import Derived.KernelRfl
namespace Pure
open Esp Ev Go
set_option linter.unusedSimpArgs false
set_option linter.unusedVariables false
theorem Val.eta (v : Val) : Val.mk v.kind v.n v.s v.l = v := by cases v; rfl
theorem b0j (k n : Int) (s : ByteArray) (l : List Val) : (Val.mk k n s l).kind = k := rfl
theorem n_mk (k n : Int) (s : ByteArray) (l : List Val) : (Val.mk k n s l).n = n := rfl
theorem s_mk (k n : Int) (s : ByteArray) (l : List Val) : (Val.mk k n s l).s = s := rfl
theorem l_mk (k n : Int) (s : ByteArray) (l : List Val) : (Val.mk k n s l).l = l := rfl
mutual
theorem g0v {p : Val → Prop} (h : ∀ k n s l, (∀ x ∈ l, p x) → p (.mk k n s l)) : ∀ v, p v
 | .mk k n s l => h k n s l (z0r h l)
theorem z0r {p : Val → Prop} (h : ∀ k n s l, (∀ x ∈ l, p x) → p (.mk k n s l)) : ∀ l : List Val, ∀ x ∈ l, p x
 | [] => fun _ hx => by cases hx
 | y :: r => List.forall_mem_cons.2 ⟨g0v h y, z0r h r⟩
end
theorem a0s (a b : ByteArray) : seq a b = true ↔ a = b := by
 unfold seq
 constructor
 ·intro h
  have h2 := eq_of_beq h
  rw [ByteArray.toList_eq, ByteArray.toList_eq] at h2
  cases a; cases b
  congr 1
  exact Array.toList_inj.1 h2
 ·rintro rfl
  exact beq_self_eq_true _
theorem c0k (a : ByteArray) : seq a a = true := (a0s a a).2 rfl
def fin6 (b : Bool) : Int := bif b then 0 else 6
mutual
def chk : Val → Int → Int
 | .mk k n s l, d =>
  bif k == 0 then fin6 (((n == 0) && seq s ⟨#[]⟩) && ((l.length : Int) == 0))
  else bif k == 1 then fin6 ((((n == 0) || (n == 1)) && seq s ⟨#[]⟩) && ((l.length : Int) == 0))
  else bif k == 2 then fin6 (seq s ⟨#[]⟩ && ((l.length : Int) == 0))
  else bif k == 3 then (bif decide ((s.size : Int) > 4000) then 2 else bif n == 0 then fin6 (validS s && ((l.length : Int) == 0)) else 6)
  else bif k == 4 then (bif decide ((l.length : Int) > 30) || decide (d > 6) then 2 else bif chks l (d + 1) != 0 then chks l (d + 1) else fin6 ((n == 0) && seq s ⟨#[]⟩))
  else 6
def chks : List Val → Int → Int
 | [], _ => 0
 | x :: r, d => bif chk x d != 0 then chk x d else chks r d
end
theorem x0x {s : ByteArray} (h : (s.size : Int) ≤ 4000) : validN (s, ()) = some (validS s, ()) := by
 unfold validN
 show (bif Nat.ble s.size 9223372036854775807 then some (validS s, ()) else none) = _
 rw [Nat.ble_eq_true_of_le (by omega)]
 rfl
theorem c1y {ρ : Type} (self : Val × Int × Unit → Option (Int × Unit)) (n : Nat) (l : List Val) (d : Int) (hd : IntKind.wrap .i64 (d + 1) = d + 1) (hs : ∀ x ∈ l, self (x, d + 1, ()) = some (chk x (d + 1), ())) (hl : l.length ≤ 30) (o : Val)
  (kx : (Val × Unit) × Unit → Option ρ) (kr : Int × Unit → Option ρ) :
  ∀ (r p : List Val), l = p ++ r → ∀ fuel, r.length < fuel → iterN (fun rc => g0h self n rc kx kr) fuel (d, l, (l.length : Int), (p.length : Int), (o, ()), ()) = bif chks r (d + 1) != 0 then kr (chks r (d + 1), ()) else kx ((o, ()), ()) := by
 intro r
 induction r with
 | nil =>
  intro p hp fuel hf
  obtain ⟨m, rfl⟩ : ∃ m, fuel = m + 1 := ⟨fuel - 1, by omega⟩
  have e : decide ((p.length : Int) < (l.length : Int)) = false := by rw [decide_eq_false_iff_not]; subst hp; simp
  simp only [iterN, g0h, Val.eta, e, cond_false, chks]
  rfl
 | cons x r ih =>
  intro p hp fuel hf
  obtain ⟨m, rfl⟩ : ∃ m, fuel = m + 1 := ⟨fuel - 1, by omega⟩
  have hlen : l.length = p.length + (r.length + 1) := by rw [hp]; simp
  have e : decide ((p.length : Int) < (l.length : Int)) = true := by rw [decide_eq_true_iff]; omega
  have e2 : ix l (p.length : Int) = some x := ix_ok (by rw [hp]; simp)
  have e3 : IntKind.wrap .i64 ((p.length : Int) + 1) = ((p ++ [x]).length : Int) := by rw [wrap64 (by omega) (by omega)]; simp
  have e4 := hs x (by rw [hp]; simp)
  have e5 := ih (p ++ [x]) (by simp [hp]) m (by simp at hf; omega)
  rw [iterN]
  simp only [g0h, Val.eta, e, e2, e3, hd, e4, cond_true, Option.bind_some, e5]
  rw [chks]
  cases hc : chk x (d + 1) != 0 <;> simp [hc]
theorem m1p (v : Val) : ∀ (d : Int) (n : Nat), 1 ≤ d → d ≤ 7 → 40 ≤ n + d.toNat → q48z n (v, d, ()) = some (chk v d, ()) := by
 induction v using g0v with
 | _ k a s l ih =>
  intro d n h1 h2 h3
  obtain ⟨m, rfl⟩ : ∃ m, n = m + 1 := ⟨n - 1, by omega⟩
  simp only [q48z, q48z_b, chk, Val.eta]
  dsimp +instances only [b0j, n_mk, s_mk, l_mk]
  cases k == 0
  ·cases k == 1
   ·cases k == 2
    ·cases k == 3
     ·cases k == 4
      ·rfl
      ·simp only [cond_false, cond_true]
       cases hb : decide ((l.length : Int) > 30) || decide (d > 6)
       ·have hb2 := Bool.or_eq_false_iff.1 hb
        have h30 := of_decide_eq_false hb2.1
        have h6 := of_decide_eq_false hb2.2
        have hw : IntKind.wrap .i64 (d + 1) = d + 1 := wrap64 (by omega) (by omega)
        simp only [cond_false, Val.eta]
        have := c1y (ρ := Int × Unit) (q48z m) m l d hw (fun x hx => ih x hx (d + 1) m (by omega) (by omega) (by omega)) (by omega) (.mk k a s l)
         (fun (o11, _) => (bif !(((o11.1.n : Int) == 0) && (seq o11.1.s (⟨#[]⟩ : ByteArray))) then some (6, ()) else some (0, ()))) (fun x => some ((x.1 : Int), ())) l [] rfl m (by omega)
        refine this.trans ?_
        cases chks l (d + 1) != 0
        ·simp only [cond_false, b0j, n_mk, s_mk, l_mk]
         cases (a == 0) && seq s ⟨#[]⟩ <;> rfl
        ·rfl
       ·rfl
     ·simp only [cond_false, cond_true]
      cases hb : decide ((s.size : Int) > 4000)
      ·have := of_decide_eq_false hb
       simp only [cond_false]
       cases a == 0
       ·rfl
       ·simp only [cond_true, x0x (s := s) (by omega), Option.bind_some]
        cases validS s && ((l.length : Int) == 0) <;> rfl
      ·rfl
    ·simp only [cond_false, cond_true]
     cases seq s ⟨#[]⟩ && ((l.length : Int) == 0) <;> rfl
   ·simp only [cond_false, cond_true]
    cases ((a == 0) || (a == 1)) && seq s ⟨#[]⟩ && ((l.length : Int) == 0) <;> rfl
  ·simp only [cond_true]
   cases (a == 0) && seq s ⟨#[]⟩ && ((l.length : Int) == 0) <;> rfl
theorem k0r (v : Val) (n : Nat) (h : 40 ≤ n) : q46z n (v, ()) = some (chk v 1, ()) := by
 simp only [q46z, Val.eta, m1p v 1 n (by omega) (by omega) (by omega), Option.bind_some]
inductive Right : Val → Int → Prop
 | null (d : Int) : Right (.mk 0 0 ⟨#[]⟩ []) d
 | truth (n : Int) (d : Int) : n = 0 ∨ n = 1 → Right (.mk 1 n ⟨#[]⟩ []) d
 | int (n : Int) (d : Int) : wfI .i64 n → Right (.mk 2 n ⟨#[]⟩ []) d
 | text (s : ByteArray) (d : Int) : s.size ≤ 4000 → validS s = true → Right (.mk 3 0 s []) d
 | list (l : List Val) (d : Int) : l.length ≤ 30 → d ≤ 6 → (∀ x ∈ l, Right x (d + 1)) → Right (.mk 4 0 ⟨#[]⟩ l) d
theorem fin6_0 {b : Bool} (h : fin6 b = 0) : b = true := by cases b <;> first | rfl | (unfold fin6 at h; simp at h)
theorem chks_0 {l : List Val} {d : Int} (h : chks l d = 0) : ∀ x ∈ l, chk x d = 0 := by
 induction l with
 | nil => intro x hx; cases hx
 | cons y r ih =>
  rw [chks] at h
  cases hc : chk y d != 0
  ·rw [hc] at h
   have hc0 : chk y d = 0 := by simpa using hc
   intro x hx
   rcases List.mem_cons.1 hx with rfl | hx
   ·exact hc0
   ·exact ih h x hx
  ·rw [hc] at h
   have h0 : chk y d = 0 := h
   simp [h0] at hc
theorem k0v (v : Val) : ∀ d, vOk v → chk v d = 0 → Right v d := by
 induction v using g0v with
 | _ k a s l ih =>
  intro d hv h
  rw [vOk, b0q] at hv
  have hlen : ∀ {x : Bool}, (x && ((l.length : Int) == 0)) = true → x = true ∧ l = [] := fun h => by
   rw [Bool.and_eq_true] at h
   exact ⟨h.1, by have := h.2; simpa using this⟩
  rw [chk] at h
  cases h0 : k == 0
  ·rw [h0] at h
   cases h1 : k == 1
   ·rw [h1] at h
    cases h2 : k == 2
    ·rw [h2] at h
     cases h3 : k == 3
     ·rw [h3] at h
      cases h4 : k == 4
      ·rw [h4] at h; cases h
      ·rw [h4] at h
       have hk : k = 4 := by simpa using h4
       subst hk
       simp only [cond_false, cond_true] at h
       cases hb : decide ((l.length : Int) > 30) || decide (d > 6)
       ·rw [hb] at h
        have hb2 := Bool.or_eq_false_iff.1 hb
        have h30 := of_decide_eq_false hb2.1
        have h6 := of_decide_eq_false hb2.2
        simp only [cond_false] at h
        cases hc : chks l (d + 1) != 0
        ·rw [hc] at h
         have hc0 : chks l (d + 1) = 0 := by simpa using hc
         have h7 := fin6_0 h
         rw [Bool.and_eq_true, a0s] at h7
         obtain ⟨h8, rfl⟩ := h7
         have : a = 0 := by simpa using h8
         subst this
         exact .list l d (by omega) (by omega) fun x hx => ih x hx (d + 1) (hv.2.2.2.2 x hx) (chks_0 hc0 x hx)
        ·rw [hc] at h
         have h0 : chks l (d + 1) = 0 := h
         simp [h0] at hc
       ·rw [hb] at h; cases h
     ·rw [h3] at h
      have hk : k = 3 := by simpa using h3
      subst hk
      simp only [cond_false, cond_true] at h
      cases hb : decide ((s.size : Int) > 4000)
      ·rw [hb] at h
       have h40 := of_decide_eq_false hb
       simp only [cond_false] at h
       cases ha : a == 0
       ·rw [ha] at h; cases h
       ·rw [ha] at h
        obtain ⟨h5, rfl⟩ := hlen (fin6_0 h)
        have : a = 0 := by simpa using ha
        subst this
        exact .text s d (by omega) h5
      ·rw [hb] at h; cases h
    ·rw [h2] at h
     have hk : k = 2 := by simpa using h2
     subst hk
     obtain ⟨h5, rfl⟩ := hlen (fin6_0 h)
     obtain rfl := (a0s _ _).1 h5
     exact .int a d hv.2.1
   ·rw [h1] at h
    have hk : k = 1 := by simpa using h1
    subst hk
    obtain ⟨h5, rfl⟩ := hlen (fin6_0 h)
    rw [Bool.and_eq_true, a0s] at h5
    obtain ⟨h6, rfl⟩ := h5
    exact .truth a d (by simpa using h6)
  ·rw [h0] at h
   have hk : k = 0 := by simpa using h0
   subst hk
   obtain ⟨h5, rfl⟩ := hlen (fin6_0 h)
   rw [Bool.and_eq_true, a0s] at h5
   obtain ⟨h6, rfl⟩ := h5
   have : a = 0 := by simpa using h6
   subst this
   exact .null d
end Pure
namespace Pure
open Esp Ev Go
set_option linter.unusedSimpArgs false
set_option linter.unusedVariables false
end Pure
namespace Pure
open Esp Ev Go
set_option linter.unusedSimpArgs false
set_option linter.unusedVariables false
def lttI (c : Int) : Bool := (((decide (c ≥ 97)) && (decide (c ≤ 122))) || ((decide (c ≥ 65)) && (decide (c ≤ 90)))) || (c == 95)
def nmF : Int → List Int → Bool
 | _, [] => true
 | i, c :: r => bif !(lttI c) && (((i == 0) || (decide (c < 48))) || (decide (c > 57))) then false else nmF (i + 1) r
def nmB (s : ByteArray) : Bool := bif (seq s ⟨#[]⟩) || (decide ((s.size : Int) > 12)) then false else nmF 0 (bi s.data.toList)
theorem j1f : ∀ (l : List Int) (i : Int), foldK (fun i c (s : Unit) (rec : Unit → Option (Bool × Unit)) => bif !(lttI c) && (((i == 0) || (decide (c < 48))) || (decide (c > 57))) then some (false, ()) else rec s) (fun _ => some (true, ())) i l () = some (nmF i l, ())
 | [], i => rfl
 | c :: r, i => by
  rw [foldK, nmF]
  cases !(lttI c) && (((i == 0) || (decide (c < 48))) || (decide (c > 57)))
  ·simp only [cond_false]; exact j1f r (i + 1)
  ·rfl
theorem g0t (s : ByteArray) (n : Nat) (hn : 20 ≤ n) : q53z n (s, ()) = some (nmB s, ()) := by
 unfold q53z nmB
 dsimp only
 cases hb : (seq s ⟨#[]⟩) || (decide ((s.size : Int) > 12)) with
 | true => rfl
 | false =>
  have h12 := of_decide_eq_false (Bool.or_eq_false_iff.1 hb).2
  rw [cond_false, cond_false]
  exact (t0e s (fun i (_ : Unit) => (s, (s.size : Int), i, ())) _ (fun i c s rec => bif !(lttI c) && (((i == 0) || (decide (c < 48))) || (decide (c > 57))) then some (false, ()) else rec s) (fun _ => some (true, ()))
   (fun rec i s => rfl) (by omega) n () (by omega)).trans (j1f _ 0)
theorem u8_lt (a b : UInt8) : (decide (a < b)) = decide (a.toNat < b.toNat) := by
 by_cases h : a < b
 ·rw [decide_eq_true h, decide_eq_true (UInt8.lt_iff_toNat_lt.1 h)]
 ·rw [decide_eq_false h, decide_eq_false fun h2 => h (UInt8.lt_iff_toNat_lt.2 h2)]
theorem u8_eq (a b : UInt8) : (a == b) = decide (a.toNat = b.toNat) := by
 by_cases h : a = b
 ·subst h; simp
 ·have : ¬ a.toNat = b.toNat := fun h2 => h (UInt8.toNat_inj.1 h2)
  simp [h, this]
theorem p0b : ∀ x y : List UInt8, (!(Op.bytesLess y x)) = (Op.bytesLess x y || x == y)
 | [], [] => rfl
 | [], b :: y => rfl
 | a :: x, [] => rfl
 | a :: x, b :: y => by
  have ih := p0b x y
  rw [Op.bytesLess, Op.bytesLess, List.cons_beq_cons, u8_lt, u8_lt, u8_eq, u8_eq]
  rcases Nat.lt_trichotomy a.toNat b.toNat with h | h | h
  ·simp [h, show ¬ b.toNat < a.toNat by omega, show ¬ b.toNat = a.toNat by omega]
  ·simp only [h, Nat.lt_irrefl, decide_false, Bool.false_or, decide_true, Bool.true_and]
   exact ih
  ·simp [h, show ¬ a.toNat < b.toNat by omega, show ¬ a.toNat = b.toNat by omega]
theorem g0e (x y : ByteArray) : (!(sless y x)) = (sless x y || seq x y) := p0b _ _
theorem u0w (x : ByteArray) : sless x ⟨#[]⟩ = false := by
 unfold sless
 have : (⟨#[]⟩ : ByteArray).toList = [] := by rw [ByteArray.toList_eq]
 rw [this]
 cases x.toList <;> rfl
theorem nm_ne {x : ByteArray} (h : nmB x = true) : seq x ⟨#[]⟩ = false := by
 cases hs : seq x ⟨#[]⟩ with
 | false => rfl
 | true => unfold nmB at h; rw [hs] at h; cases h
def labF : ByteArray → List ByteArray → Int
 | _, [] => 0
 | prev, x :: r => bif (!(nmB x)) || (sless x prev || seq x prev) then 6 else labF x r
def labE (l : List ByteArray) : Int := bif decide ((l.length : Int) > 4) then 2 else labF ⟨#[]⟩ l
def lastD (p : List ByteArray) : ByteArray := p.getLastD ⟨#[]⟩
theorem j0m (p : List ByteArray) (x : ByteArray) : lastD (p ++ [x]) = x := by unfold lastD; simp
theorem o0t {α : Type} (p : List α) : p = [] ∨ ∃ q y, p = q ++ [y] := by
 rcases List.eq_nil_or_concat p with h | ⟨q, y, h⟩
 ·exact .inl h
 ·exact .inr ⟨q, y, by simpa using h⟩
theorem b1s (l : List ByteArray) (n : Nat) (hn : 20 ≤ n) (hl : l.length ≤ 1000) : ∀ (r p : List ByteArray), l = p ++ r → foldK (fun (i : Int) x (s : Unit) (rec : Unit → Option (Int × Unit)) => (q53z n (x, ())).bind fun y => bif !y.1 then some (6, ()) else
  bif decide (i > 0) then (ix l (IntKind.wrap .i64 (i - 1))).bind fun z => bif !(sless z x) then some (6, ()) else rec s else rec s) (fun _ => some (0, ())) (p.length : Int) r () = some (labF (lastD p) r, ())
 | [], _, _ => rfl
 | x :: r, p, hp => by
  have ih := b1s l n hn hl r (p ++ [x]) (by simp [hp])
  rw [j0m] at ih
  have e1 : ((p.length : Int) + 1) = ((p ++ [x]).length : Int) := by simp
  rw [foldK, labF, g0t x n hn, Option.bind_some, e1, ih]
  dsimp only
  cases hnm : nmB x with
  | false => rfl
  | true =>
   simp only [Bool.not_true, cond_false, Bool.false_or]
   rcases o0t p with rfl | ⟨q, y, rfl⟩
   ·rw [show decide (((([] : List ByteArray).length : Nat) : Int) > 0) = false from rfl, cond_false]
    rw [show lastD [] = ⟨#[]⟩ from rfl, u0w, nm_ne hnm]
    rfl
   ·have hq : l = q ++ y :: (x :: r) := by rw [hp]; simp
    have e2 : decide ((((q ++ [y]).length : Nat) : Int) > 0) = true := by simp
    have e3 : IntKind.wrap .i64 (((q ++ [y]).length : Int) - 1) = (q.length : Int) := by
     have : (q ++ [y]).length = q.length + 1 := by simp
     have h2 : l.length = q.length + (r.length + 2) := by rw [hq]; simp
     rw [wrap64 (by omega) (by omega)]; omega
    have e4 : ix l (q.length : Int) = some y := ix_ok (by rw [hq]; simp)
    rw [e2, e3, e4, cond_true, Option.bind_some, j0m, g0e]
    cases sless x y || seq x y <;> rfl
theorem g1o (l : List ByteArray) (n : Nat) (hn : 20 ≤ n) : q37z n (l, ()) = some (labE l, ()) := by
 unfold q37z labE
 dsimp only
 cases hb : decide ((l.length : Int) > 4) with
 | true => rfl
 | false =>
  have h4 := of_decide_eq_false hb
  rw [cond_false, cond_false]
  exact (b0w l (fun i (s : Unit) => (l, l, (l.length : Int), i, ())) _ (fun (i : Int) x (s : Unit) (rec : Unit → Option (Int × Unit)) => (q53z n (x, ())).bind fun y => bif !y.1 then some (6, ()) else
   bif decide (i > 0) then (ix l (IntKind.wrap .i64 (i - 1))).bind fun z => bif !(sless z x) then some (6, ()) else rec s else rec s) (fun _ => some (0, ()))
   (fun rec i s => rfl) (by omega) n _ (by omega)).trans (b1s l n hn (by omega) l [] rfl)
def prpF : ByteArray → List Prp → Int
 | _, [] => 0
 | prev, x :: r => bif ((!(nmB x.name)) || (sless x.name prev || seq x.name prev)) || (x.val.kind == 0) then 6 else bif chk x.val 1 != 0 then chk x.val 1 else prpF x.name r
def prpE (l : List Prp) : Int := bif decide ((l.length : Int) > 6) then 2 else prpF ⟨#[]⟩ l
def lastN (p : List Prp) : ByteArray := lastD (p.map Prp.name)
theorem o0v (p : List Prp) (x : Prp) : lastN (p ++ [x]) = x.name := by unfold lastN; rw [List.map_append]; exact j0m _ _
noncomputable def prpB (n : Nat) (l : List Prp) : Int → Prp → Unit → (Unit → Option (Int × Unit)) → Option (Int × Unit) := fun i x s rec => (q53z n (x.name, ())).bind fun y => bif !y.1 then some (6, ()) else
  bif decide (i > 0) then (ix l (IntKind.wrap .i64 (i - 1))).bind fun z => bif (!(sless z.name x.name)) || ((x.val.kind : Int) == 0) then some (6, ()) else
   (q46z n ((Ev.Val.mk x.val.kind x.val.n x.val.s x.val.l), ())).bind fun y => bif (y.1 : Int) != 0 then some (y.1, ()) else rec s
  else bif (x.val.kind : Int) == 0 then some (6, ()) else
   (q46z n ((Ev.Val.mk x.val.kind x.val.n x.val.s x.val.l), ())).bind fun y => bif (y.1 : Int) != 0 then some (y.1, ()) else rec s
theorem a1e (l : List Prp) (n : Nat) (hn : 40 ≤ n) (hl : l.length ≤ 1000) : ∀ (r p : List Prp), l = p ++ r → foldK (prpB n l) (fun _ => some (0, ())) (p.length : Int) r () = some (prpF (lastN p) r, ())
 | [], _, _ => rfl
 | x :: r, p, hp => by
  have ih := a1e l n hn hl r (p ++ [x]) (by simp [hp])
  rw [o0v] at ih
  have e1 : ((p.length : Int) + 1) = ((p ++ [x]).length : Int) := by simp
  rw [foldK, prpF, prpB, g0t x.name n (by omega), Option.bind_some, Val.eta, k0r x.val n hn, Option.bind_some, e1, ih]
  dsimp only
  cases hnm : nmB x.name with
  | false => rfl
  | true =>
   simp only [Bool.not_true, cond_false, Bool.false_or]
   rcases o0t p with rfl | ⟨q, y, rfl⟩
   ·rw [show decide (((([] : List Prp).length : Nat) : Int) > 0) = false from rfl, cond_false]
    rw [show lastN [] = ⟨#[]⟩ from rfl, u0w, nm_ne hnm]
    simp only [Bool.false_or]
    cases x.val.kind == 0
    ·simp only [cond_false]; cases chk x.val 1 != 0 <;> rfl
    ·rfl
   ·have hq : l = q ++ y :: (x :: r) := by rw [hp]; simp
    have e2 : decide ((((q ++ [y]).length : Nat) : Int) > 0) = true := by simp
    have e3 : IntKind.wrap .i64 (((q ++ [y]).length : Int) - 1) = (q.length : Int) := by
     have : (q ++ [y]).length = q.length + 1 := by simp
     have h2 : l.length = q.length + (r.length + 2) := by rw [hq]; simp
     rw [wrap64 (by omega) (by omega)]; omega
    have e4 : ix l (q.length : Int) = some y := ix_ok (by rw [hq]; simp)
    rw [e2, e3, e4, cond_true, Option.bind_some, o0v, g0e]
    cases (sless x.name y.name || seq x.name y.name) || (x.val.kind == 0)
    ·simp only [cond_false]; cases chk x.val 1 != 0 <;> rfl
    ·rfl
theorem b1j (l : List Prp) (n : Nat) (hn : 40 ≤ n) : q40z n (l, ()) = some (prpE l, ()) := by
 unfold q40z prpE
 dsimp only
 cases hb : decide ((l.length : Int) > 6) with
 | true => rfl
 | false =>
  have h4 := of_decide_eq_false hb
  rw [cond_false, cond_false]
  exact (b0w l (fun i (s : Unit) => (l, l, (l.length : Int), i, ())) _ (prpB n l) (fun _ => some (0, ())) (fun rec i s => rfl) (by omega) n _ (by omega)).trans (a1e l n hn (by omega) l [] rfl)
end Pure
namespace Pure
open Esp Ev Go
set_option linter.unusedSimpArgs false
set_option linter.unusedVariables false
theorem half {i j : Int} (h0 : 0 ≤ i) (h1 : 0 ≤ j) (h2 : i + j ≤ 4611686018427387904) : IntKind.wrap .i64 (bshr .u64 (IntKind.wrap .u64 (IntKind.wrap .i64 (i + j))) 1) = (i + j) / 2 := by
 rw [wrap64 (x := i + j) (by omega) (by omega), p1c (x := i + j) (by omega) (by omega)]
 have : bshr .u64 (i + j) 1 = (i + j) / 2 := by
  unfold bshr
  rw [show (2 : Int) ^ (min (1 : Int).toNat IntKind.u64.bits) = 2 from rfl, Int.fdiv_eq_ediv_of_nonneg _ (by omega)]
 rw [this, wrap64 (by omega) (by omega)]
def cmpI (a b : Int) : Int := bif decide (a < b) then -1 else bif decide (a > b) then 1 else 0
theorem d0p (a b : Int) : q25z (a, b, ()) = some (cmpI a b, ()) := by
 unfold q25z q33z cmpI
 have : ∀ x : Int, (x != x) = false := fun x => by simp
 simp only [Option.bind_some, this, cond_false]
 cases decide (a < b) <;> cases decide (a > b) <;> rfl
theorem n1k (a b : Int) : decide (cmpI a b < 0) = decide (a < b) := by
 unfold cmpI
 by_cases h : a < b
 ·simp [h]
 ·by_cases h2 : a > b <;> simp [h, h2]
theorem u0x (a b : Int) : (cmpI a b == 0) = decide (a = b) := by
 unfold cmpI
 by_cases h : a < b
 ·simp [h]; omega
 ·by_cases h2 : a > b
  ·simp [h, h2]; omega
  ·simp [h, h2]; omega
def Rise {α : Type} (idf : α → Int) (l : List α) : Prop := l.Pairwise fun x y => idf x < idf y
theorem a1b {α τ ρ : Type} (l : List α) (idf : α → Int) (t : Int) (cmpf : α → Option (Int × Unit)) (hc : ∀ x, cmpf x = some (cmpI (idf x) t, ())) (enc : Int → Int → τ) (step : (τ → Option ρ) → τ → Option ρ) (kx : Int → Option ρ)
  (h : ∀ rec i j, step rec (enc i j) = bif decide (i < j) then (ix l (IntKind.wrap .i64 (bshr .u64 (IntKind.wrap .u64 (IntKind.wrap .i64 (i + j))) 1))).bind fun x => (cmpf x).bind fun y => bif decide (y.1 < 0) then rec (enc (IntKind.wrap .i64 ((IntKind.wrap .i64 (bshr .u64 (IntKind.wrap .u64 (IntKind.wrap .i64 (i + j))) 1)) + 1)) j) else rec (enc i (IntKind.wrap .i64 (bshr .u64 (IntKind.wrap .u64 (IntKind.wrap .i64 (i + j))) 1))) else kx i)
  (hr : Rise idf l) (hl : l.length ≤ 1000000) :
  ∀ (fuel : Nat) (i j : Nat), i ≤ j → j ≤ l.length → j - i < fuel → (∀ (q : Nat) x, l[q]? = some x → q < i → idf x < t) → (∀ (q : Nat) x, l[q]? = some x → j ≤ q → t ≤ idf x) →
    ∃ k : Nat, iterN step fuel (enc i j) = kx k ∧ k ≤ l.length ∧ (∀ (q : Nat) x, l[q]? = some x → q < k → idf x < t) ∧ (∀ (q : Nat) x, l[q]? = some x → k ≤ q → t ≤ idf x) := by
 intro fuel
 induction fuel with
 | zero => intro i j _ _ hf; omega
 | succ m ih =>
  intro i j hij hj hf h1 h2
  rw [iterN, h]
  by_cases hlt : i < j
  ·have e : decide ((i : Int) < (j : Int)) = true := by rw [decide_eq_true_iff]; omega
   have hh : ((i : Int) + (j : Int)) / 2 = (((i + j) / 2 : Nat) : Int) := by omega
   rw [e, cond_true, half (by omega) (by omega) (by omega), hh]
   have hq : (i + j) / 2 < l.length := by omega
   have e2 : ix l (((i + j) / 2 : Nat) : Int) = some l[(i + j) / 2] := ix_ok (List.getElem?_eq_getElem hq)
   rw [e2, Option.bind_some, hc, Option.bind_some]
   dsimp only
   rw [n1k]
   have hp := List.pairwise_iff_getElem.1 hr
   by_cases hx : idf l[(i + j) / 2] < t
   ·rw [decide_eq_true hx, cond_true, wrap64 (by omega) (by omega)]
    refine ih ((i + j) / 2 + 1) j (by omega) hj (by omega) (fun q x hqx hlt2 => ?_) h2
    obtain ⟨hql, rfl⟩ := List.getElem?_eq_some_iff.1 hqx
    by_cases hqe : q = (i + j) / 2
    ·subst hqe; exact hx
    ·have := hp q ((i + j) / 2) hql hq (by omega)
     omega
   ·rw [decide_eq_false hx, cond_false]
    refine ih i ((i + j) / 2) (by omega) (by omega) (by omega) h1 fun q x hqx hle => ?_
    obtain ⟨hql, rfl⟩ := List.getElem?_eq_some_iff.1 hqx
    by_cases hqe : q = (i + j) / 2
    ·subst hqe; omega
    ·have := hp ((i + j) / 2) q hq hql (by omega)
     omega
  ·have hije : i = j := by omega
   subst hije
   rw [decide_eq_false (by omega), cond_false]
   exact ⟨i, rfl, hj, h1, h2⟩
def Found {α : Type} (l : List α) (o : Option α) (k : Int) : Prop := (k = -1 ∧ o = none) ∨ (0 ≤ k ∧ ∃ x, ix l k = some x ∧ o = some x)
theorem Found.ge {α : Type} {l : List α} {o : Option α} {k : Int} (h : Found l o k) : decide (k ≥ 0) = o.isSome := by
 rcases h with ⟨rfl, rfl⟩ | ⟨h, x, _, rfl⟩
 ·rfl
 ·simp; omega
theorem Found.lt {α : Type} {l : List α} {o : Option α} {k : Int} (h : Found l o k) : decide (k < 0) = o.isNone := by
 rcases h with ⟨rfl, rfl⟩ | ⟨h, x, _, rfl⟩
 ·rfl
 ·simp; omega
theorem n0j {α : Type} {idf : α → Int} {l : List α} (hr : Rise idf l) {x : α} {t : Int} (hx : x ∈ l) (he : idf x = t) : l.find? (fun y => idf y == t) = some x := by
 induction l with
 | nil => cases hx
 | cons y r ih =>
  rw [List.find?_cons]
  have hp := List.pairwise_cons.1 hr
  rcases List.mem_cons.1 hx with rfl | hx
  ·simp [he]
  ·have := hp.1 x hx
   have h0 : (idf y == t) = false := by simp; omega
   rw [h0]
   exact ih hp.2 hx
theorem k0x {α : Type} {idf : α → Int} {l : List α} {t : Int} (hr : Rise idf l) {k : Nat} (hk : k ≤ l.length) (h1 : ∀ (q : Nat) x, l[q]? = some x → q < k → idf x < t) (h2 : ∀ (q : Nat) x, l[q]? = some x → k ≤ q → t ≤ idf x) (hx : ∀ x, l[k]? = some x → idf x ≠ t) :
  l.find? (fun y => idf y == t) = none := by
 rw [List.find?_eq_none]
 intro x hm hq
 have hq : idf x = t := by simpa using hq
 obtain ⟨q, hq1, rfl⟩ := List.getElem_of_mem hm
 have hq2 := List.getElem?_eq_getElem hq1
 rcases Nat.lt_trichotomy q k with h | h | h
 ·have := h1 q _ hq2 h; omega
 ·subst h; exact hx _ hq2 hq
 ·have hkl : k < l.length := by omega
  have e1 := h2 k _ (List.getElem?_eq_getElem hkl) (Nat.le_refl _)
  have := List.pairwise_iff_getElem.1 hr k q hkl hq1 h
  omega
def nodeIn (l : List Ev.Node) (t : Int) : Option Ev.Node := l.find? fun y => y.id == t
def edgeIn (l : List Edg) (t : Int) : Option Edg := l.find? fun y => y.id == t
theorem q0q (g : Graph) (t : Int) (n : Nat) (hr : Rise Ev.Node.id g.nodes) (hl : g.nodes.length ≤ 40) (hn : 50 ≤ n) : ∃ k, q52z n (g, t, ()) = some (k, ()) ∧ Found g.nodes (nodeIn g.nodes t) k := by
 have hc : ∀ x : Ev.Node, q36z ((Ev.Node.mk x.id x.labels x.props), t, ()) = some (cmpI x.id t, ()) := fun x => by
  unfold q36z
  simp only [d0p, Option.bind_some]
 obtain ⟨k, h1, h2, h3, h4⟩ := a1b (ρ := Int × Bool × Unit) g.nodes Ev.Node.id t (fun x => q36z ((Ev.Node.mk x.id x.labels x.props), t, ())) hc (fun i j => (g.nodes, t, (g.nodes.length : Int), i, j, ()))
  (fun rec => q2z_s0 n rec (fun (v10, v11, v12, v13, _) =>
 (bif decide ((v13 : Int) < v12) then
 (ix v10 v13).bind fun x14 =>
 (q36z ((Ev.Node.mk x14.id x14.labels x14.props), v11, ())).bind fun (y15, _) => some (v13, (y15 : Int) == 0, ())
 else some (v13, false, ()))) (fun (_) => none)) (fun i => bif decide ((i : Int) < (g.nodes.length : Int)) then
 (ix g.nodes i).bind fun x14 =>
 (q36z ((Ev.Node.mk x14.id x14.labels x14.props), t, ())).bind fun (y15, _) => some (i, (y15 : Int) == 0, ())
 else some (i, false, ())) (fun rec i j => rfl) hr (by omega) n 0 g.nodes.length (by omega) (by omega) (by omega) (fun q x _ h => absurd h (by omega)) (fun q x h h' => by
  obtain ⟨h5, _⟩ := List.getElem?_eq_some_iff.1 h; omega)
 have e0 : q2z n (g.nodes, t, ()) = _ := h1
 unfold q52z
 dsimp only
 rw [e0]
 by_cases hk : k < g.nodes.length
 ·have e2 : ix g.nodes (k : Int) = some g.nodes[k] := ix_ok (List.getElem?_eq_getElem hk)
  rw [decide_eq_true (by omega), cond_true, e2, Option.bind_some, hc, Option.bind_some]
  dsimp only
  rw [Option.bind_some, u0x]
  dsimp only
  by_cases he : g.nodes[k].id = t
  ·rw [decide_eq_true he]
   exact ⟨k, rfl, .inr ⟨by omega, _, e2, n0j hr (List.getElem_mem hk) he⟩⟩
  ·rw [decide_eq_false he]
   refine ⟨-1, rfl, .inl ⟨rfl, k0x hr h2 h3 h4 fun x hx => ?_⟩⟩
   rw [List.getElem?_eq_getElem hk] at hx
   cases hx
   exact he
 ·rw [decide_eq_false (by omega), cond_false, Option.bind_some]
  refine ⟨-1, rfl, .inl ⟨rfl, k0x hr h2 h3 h4 fun x hx => ?_⟩⟩
  obtain ⟨h5, _⟩ := List.getElem?_eq_some_iff.1 hx
  omega
theorem z0w (g : Graph) (t : Int) (n : Nat) (hr : Rise Edg.id g.edges) (hl : g.edges.length ≤ 60) (hn : 70 ≤ n) : ∃ k, q29z n (g, t, ()) = some (k, ()) ∧ Found g.edges (edgeIn g.edges t) k := by
 have hc : ∀ x : Edg, q24z ((Edg.mk x.id x.src x.dst x.type x.props), t, ()) = some (cmpI x.id t, ()) := fun x => by
  unfold q24z
  simp only [d0p, Option.bind_some]
 obtain ⟨k, h1, h2, h3, h4⟩ := a1b (ρ := Int × Bool × Unit) g.edges Edg.id t (fun x => q24z ((Edg.mk x.id x.src x.dst x.type x.props), t, ())) hc (fun i j => (g.edges, t, (g.edges.length : Int), i, j, ()))
  (fun rec => q1z_s0 n rec (fun (v10, v11, v12, v13, _) =>
 (bif decide ((v13 : Int) < v12) then
 (ix v10 v13).bind fun x14 =>
 (q24z ((Ev.Edg.mk x14.id x14.src x14.dst x14.type x14.props), v11, ())).bind fun (y15, _) => some (v13, (y15 : Int) == 0, ())
 else some (v13, false, ()))) (fun (_) => none)) (fun i => bif decide ((i : Int) < (g.edges.length : Int)) then
 (ix g.edges i).bind fun x14 =>
 (q24z ((Ev.Edg.mk x14.id x14.src x14.dst x14.type x14.props), t, ())).bind fun (y15, _) => some (i, (y15 : Int) == 0, ())
 else some (i, false, ())) (fun rec i j => rfl) hr (by omega) n 0 g.edges.length (by omega) (by omega) (by omega) (fun q x _ h => absurd h (by omega)) (fun q x h h' => by
  obtain ⟨h5, _⟩ := List.getElem?_eq_some_iff.1 h; omega)
 have e0 : q1z n (g.edges, t, ()) = _ := h1
 unfold q29z
 dsimp only
 rw [e0]
 by_cases hk : k < g.edges.length
 ·have e2 : ix g.edges (k : Int) = some g.edges[k] := ix_ok (List.getElem?_eq_getElem hk)
  rw [decide_eq_true (by omega), cond_true, e2, Option.bind_some, hc, Option.bind_some]
  dsimp only
  rw [Option.bind_some, u0x]
  dsimp only
  by_cases he : g.edges[k].id = t
  ·rw [decide_eq_true he]
   exact ⟨k, rfl, .inr ⟨by omega, _, e2, n0j hr (List.getElem_mem hk) he⟩⟩
  ·rw [decide_eq_false he]
   refine ⟨-1, rfl, .inl ⟨rfl, k0x hr h2 h3 h4 fun x hx => ?_⟩⟩
   rw [List.getElem?_eq_getElem hk] at hx
   cases hx
   exact he
 ·rw [decide_eq_false (by omega), cond_false, Option.bind_some]
  refine ⟨-1, rfl, .inl ⟨rfl, k0x hr h2 h3 h4 fun x hx => ?_⟩⟩
  obtain ⟨h5, _⟩ := List.getElem?_eq_some_iff.1 hx
  omega
end Pure
namespace Pure
open Esp Ev Go
set_option linter.unusedSimpArgs false
set_option linter.unusedVariables false
theorem Graph.eta (g : Graph) : Graph.mk g.nodes g.edges g.next = g := rfl
def orE (a b : Int) : Int := bif a != 0 then a else b
theorem or_ok (a b : Int) (n : Nat) (hn : 5 ≤ n) : q21z n ([a, b], ()) = some (orE a b, ()) := by
 obtain ⟨m, rfl⟩ : ∃ m, n = m + 3 := ⟨n - 3, by omega⟩
 unfold q21z orE
 dsimp only
 rw [iterN]
 have h1 : e0o (ρ := Int × Unit) (m + 3) (iterN (fun rc9 => e0o (m + 3) rc9 (fun x => some (x.1, ())) (fun x => some (x.1, ()))) (m + 2)) (fun x => some (x.1, ())) (fun x => some (x.1, ())) (0, [a, b], (([a, b] : List Int).length : Int), 0, ()) =
  bif a != 0 then some (a, ()) else (iterN (fun rc9 => e0o (m + 3) rc9 (fun x => some (x.1, ())) (fun x => some (x.1, ()))) (m + 2)) (0, [a, b], (([a, b] : List Int).length : Int), 1, ()) := rfl
 refine h1.trans ?_
 cases ha : a != 0
 ·rw [cond_false, cond_false, iterN]
  have h2 : e0o (ρ := Int × Unit) (m + 3) (iterN (fun rc9 => e0o (m + 3) rc9 (fun x => some (x.1, ())) (fun x => some (x.1, ()))) (m + 1)) (fun x => some (x.1, ())) (fun x => some (x.1, ())) (0, [a, b], (([a, b] : List Int).length : Int), 1, ()) =
   bif b != 0 then some (b, ()) else some (0, ()) := rfl
  refine h2.trans ?_
  cases hb : b != 0
  ·have : b = 0 := by simpa using hb
   subst this
   rfl
  ·rfl
 ·rfl
def nodF : Int → List Ev.Node → Int
 | _, [] => 0
 | last, x :: r => bif decide (x.id ≤ last) then 6 else bif orE (labE x.labels) (prpE x.props) != 0 then orE (labE x.labels) (prpE x.props) else nodF x.id r
def nodL : Int → List Ev.Node → Int
 | last, [] => last
 | _, x :: r => nodL x.id r
noncomputable def nodB (n : Nat) {ρ : Type} (kr : Int × Unit → Option ρ) : Int → Ev.Node → Int → (Int → Option ρ) → Option ρ := fun i x last rec => bif decide ((x.id : Int) ≤ last) then kr (6, ()) else
 (q37z n (x.labels, ())).bind fun y8 => (q40z n (x.props, ())).bind fun y9 => (q21z n ([y8.1, y9.1], ())).bind fun y10 => bif (y10.1 : Int) != 0 then kr (y10.1, ()) else rec x.id
theorem a1f (n : Nat) (hn : 60 ≤ n) {ρ : Type} (kr : Int × Unit → Option ρ) (k : Int → Option ρ) : ∀ (l : List Ev.Node) (i last : Int), foldK (nodB n kr) k i l last = bif nodF last l != 0 then kr (nodF last l, ()) else k (nodL last l)
 | [], _, _ => rfl
 | x :: r, i, last => by
  rw [foldK, nodF, nodL, nodB, g1o x.labels n (by omega), Option.bind_some, b1j x.props n (by omega), Option.bind_some, or_ok _ _ n (by omega), Option.bind_some, a1f n hn kr k r (i + 1) x.id]
  dsimp only
  cases decide (x.id ≤ last)
  ·simp only [cond_false]
   cases h : orE (labE x.labels) (prpE x.props) != 0
   ·simp only [cond_false]
   ·simp only [cond_true, h]
  ·rfl
theorem l0h : ∀ {l : List Ev.Node} {last : Int}, nodF last l = 0 → (∀ x ∈ l, last < x.id) ∧ Rise Ev.Node.id l ∧ last ≤ nodL last l
 | [], last, _ => ⟨fun x hx => (by cases hx), List.Pairwise.nil, Int.le_refl _⟩
 | x :: r, last, h => by
  rw [nodF] at h
  cases h1 : decide (x.id ≤ last) with
  | true => rw [h1] at h; cases h
  | false =>
   rw [h1, cond_false] at h
   have hlt := of_decide_eq_false h1
   cases h2 : orE (labE x.labels) (prpE x.props) != 0 with
   | true => rw [h2, cond_true] at h; rw [h] at h2; cases h2
   | false =>
    rw [h2, cond_false] at h
    obtain ⟨i1, i2, i3⟩ := l0h h
    refine ⟨fun y hy => ?_, List.pairwise_cons.2 ⟨i1, i2⟩, ?_⟩
    ·rcases List.mem_cons.1 hy with rfl | hy
     ·omega
     ·have := i1 y hy; omega
    ·rw [nodL]; omega
def edgF (nodes : List Ev.Node) : Int → List Edg → Int
 | _, [] => 0
 | last, x :: r => bif decide (x.id ≤ last) then 6 else bif (nodeIn nodes x.id).isSome then 6 else bif !(nmB x.type) then 6 else bif (nodeIn nodes x.src).isNone then 5 else bif (nodeIn nodes x.dst).isNone then 5 else
  bif prpE x.props != 0 then prpE x.props else edgF nodes x.id r
def edgL : Int → List Edg → Int
 | last, [] => last
 | _, x :: r => edgL x.id r
def topM : Int → List Edg → Int
 | top, [] => top
 | top, x :: r => topM (if x.id > top then x.id else top) r
noncomputable def edgB (n : Nat) (g : Graph) {ρ : Type} (kr : Int × Unit → Option ρ) : Int → Edg → Int → (Int → Option ρ) → Option ρ := fun i x last rec => bif decide ((x.id : Int) ≤ last) then kr (6, ()) else
 (q52z n (g, x.id, ())).bind fun y21 => bif decide ((y21.1 : Int) ≥ 0) then kr (6, ()) else
 (q53z n (x.type, ())).bind fun y22 => bif !y22.1 then kr (6, ()) else
 (q52z n (g, x.src, ())).bind fun y23 => bif decide ((y23.1 : Int) < 0) then kr (5, ()) else
 (q52z n (g, x.dst, ())).bind fun y24 => bif decide ((y24.1 : Int) < 0) then kr (5, ()) else
 (q40z n (x.props, ())).bind fun y25 => bif (y25.1 : Int) != 0 then kr (y25.1, ()) else rec x.id
theorem c1b (n : Nat) (hn : 60 ≤ n) (g : Graph) (hr : Rise Ev.Node.id g.nodes) (hl : g.nodes.length ≤ 40) {ρ : Type} (kr : Int × Unit → Option ρ) (k : Int → Option ρ) : ∀ (l : List Edg) (i last : Int), foldK (edgB n g kr) k i l last = bif edgF g.nodes last l != 0 then kr (edgF g.nodes last l, ()) else k (edgL last l)
 | [], _, _ => rfl
 | x :: r, i, last => by
  obtain ⟨k1, a1, b1⟩ := q0q g x.id n hr hl (by omega)
  obtain ⟨k2, a2, b2⟩ := q0q g x.src n hr hl (by omega)
  obtain ⟨k3, a3, b3⟩ := q0q g x.dst n hr hl (by omega)
  rw [foldK, edgF, edgL, edgB, a1, Option.bind_some, a2, Option.bind_some, a3, Option.bind_some, b1j x.props n (by omega), Option.bind_some, g0t x.type n (by omega), Option.bind_some, c1b n hn g hr hl kr k r (i + 1) x.id]
  dsimp only
  rw [b1.ge, b2.lt, b3.lt]
  cases decide (x.id ≤ last)
  ·cases (nodeIn g.nodes x.id).isSome
   ·cases !(nmB x.type)
    ·cases (nodeIn g.nodes x.src).isNone
     ·cases (nodeIn g.nodes x.dst).isNone
      ·simp only [cond_false]
       cases h : prpE x.props != 0
       ·simp only [cond_false]
       ·simp only [cond_true, h]
      ·rfl
     ·rfl
    ·rfl
   ·rfl
  ·rfl
theorem u0p {nodes : List Ev.Node} : ∀ {l : List Edg} {last : Int}, edgF nodes last l = 0 → (∀ x ∈ l, last < x.id) ∧ Rise Edg.id l ∧ ∀ top, topM (if last > top then last else top) l = (if edgL last l > top then edgL last l else top)
 | [], last, _ => ⟨fun x hx => (by cases hx), List.Pairwise.nil, fun top => rfl⟩
 | x :: r, last, h => by
  rw [edgF] at h
  cases h1 : decide (x.id ≤ last) with
  | true => rw [h1] at h; cases h
  | false =>
   rw [h1, cond_false] at h
   have hlt := of_decide_eq_false h1
   have h0 : edgF nodes x.id r = 0 := by
    cases h2 : (nodeIn nodes x.id).isSome with
    | true => rw [h2] at h; cases h
    | false =>
     cases h3 : !(nmB x.type) with
     | true => rw [h2, h3] at h; cases h
     | false =>
      cases h4 : (nodeIn nodes x.src).isNone with
      | true => rw [h2, h3, h4] at h; cases h
      | false =>
       cases h5 : (nodeIn nodes x.dst).isNone with
       | true => rw [h2, h3, h4, h5] at h; cases h
       | false =>
        rw [h2, h3, h4, h5] at h
        simp only [cond_false] at h
        cases h6 : prpE x.props != 0 with
        | true => rw [h6, cond_true] at h; rw [h] at h6; cases h6
        | false => rw [h6] at h; exact h
   obtain ⟨i1, i2, i3⟩ := u0p h0
   refine ⟨fun y hy => ?_, List.pairwise_cons.2 ⟨i1, i2⟩, fun top => ?_⟩
   ·rcases List.mem_cons.1 hy with rfl | hy
    ·omega
    ·have := i1 y hy; omega
   ·rw [topM, edgL, ← i3 top]
    congr 1
    rcases Int.lt_or_le top last with h9 | h9
    ·have e : (if last > top then last else top) = last := if_pos h9
     rw [e, if_pos (show x.id > last by omega), if_pos (show x.id > top by omega)]
    ·have e : (if last > top then last else top) = top := if_neg (by omega)
     rw [e]
def maxI (a b : Int) : Int := if a > b then a else b
def chkG (g : Graph) : Int := bif (decide ((g.nodes.length : Int) > 40)) || (decide ((g.edges.length : Int) > 60)) then 2 else bif nodF 0 g.nodes != 0 then nodF 0 g.nodes else bif edgF g.nodes 0 g.edges != 0 then edgF g.nodes 0 g.edges else
 bif (decide ((g.next : Int) ≤ maxI (edgL 0 g.edges) (nodL 0 g.nodes))) || (decide ((g.next : Int) > 1099511627776)) then 9 else 0
theorem u0q (g : Graph) (n : Nat) (hn : 80 ≤ n) : q39z n (g, ()) = some (chkG g, ()) := by
 unfold q39z chkG
 dsimp only
 cases hb : (decide ((g.nodes.length : Int) > 40)) || (decide ((g.edges.length : Int) > 60)) with
 | true => rfl
 | false =>
  have h1 := of_decide_eq_false (Bool.or_eq_false_iff.1 hb).1
  have h2 := of_decide_eq_false (Bool.or_eq_false_iff.1 hb).2
  rw [cond_false, cond_false]
  refine (b0w g.nodes (fun i (s : Int) => (s, g.nodes, (g.nodes.length : Int), i, (g, ()), ())) _ (nodB n (fun x => some (x.1, ()))) _ (fun rec i s => rfl) (by omega) n 0 (by omega)).trans ?_
  rw [a1f n (by omega)]
  cases h3 : nodF 0 g.nodes != 0 with
  | true => rfl
  | false =>
   have h30 : nodF 0 g.nodes = 0 := by simpa using h3
   rw [cond_false, cond_false]
   refine (b0w g.edges (fun i (s : Int) => (s, nodL 0 g.nodes, g.edges, (g.edges.length : Int), i, (g, ()), ())) _ (edgB n g (fun x => some (x.1, ()))) _ (fun rec i s => rfl) (by omega) n 0 (by omega)).trans ?_
   rw [c1b n (by omega) g (l0h h30).2.1 (by omega)]
   cases h4 : edgF g.nodes 0 g.edges != 0 with
   | true => rfl
   | false =>
    rw [cond_false, cond_false]
    dsimp only
    unfold maxI
    cases (decide ((g.next : Int) ≤ if edgL 0 g.edges > nodL 0 g.nodes then edgL 0 g.edges else nodL 0 g.nodes)) || (decide ((g.next : Int) > 1099511627776)) <;> rfl
end Pure
namespace Pure
open Esp Ev Go
set_option linter.unusedSimpArgs false
set_option linter.unusedVariables false
theorem e0r {n b : Nat} (h : n ≤ 1000) (hb : b ≤ 1000) : room n b = true := by
 unfold room
 rw [Bool.and_eq_true]
 exact ⟨Nat.ble_eq_true_of_le (by omega), Nat.ble_eq_true_of_le (by have : n * b ≤ 1000 * 1000 := Nat.mul_le_mul h hb; omega)⟩
theorem w0p {ρ : Type} (self : Val × Unit → Option (Val × Unit)) (k : List Val → Option ρ) : ∀ (r p : List Val) (i : Int), (∀ x ∈ r, self (x, ()) = some (x, ())) → p.length + r.length ≤ 30 →
  foldK (fun (i : Int) (x : Val) (s : List Val) (rec : List Val → Option ρ) => (self (x, ())).bind fun y => ck (room (s ++ ([y.1] : List Val)).length 56) (rec (s ++ ([y.1] : List Val)))) k i r p = k (p ++ r)
 | [], p, i, _, _ => by simp [foldK]
 | x :: r, p, i, h, hl => by
  rw [foldK, h x (by simp), Option.bind_some]
  dsimp only
  rw [ck_ok (e0r (by simp at hl ⊢; omega) (by omega)), w0p self k r (p ++ [x]) (i + 1) (fun y hy => h y (by simp [hy])) (by simp at hl ⊢; omega)]
  simp
theorem x0g (v : Val) : ∀ (d : Int) (n : Nat), 1 ≤ d → d ≤ 7 → 40 ≤ n + d.toNat → chk v d = 0 → q59z n (v, ()) = some (v, ()) := by
 induction v using g0v with
 | _ k a s l ih =>
  intro d n h1 h2 h3 hc
  obtain ⟨m, rfl⟩ : ∃ m, n = m + 1 := ⟨n - 1, by omega⟩
  have key : l.length ≤ 30 → (∀ x ∈ l, q59z m (x, ()) = some (x, ())) → q59z (m + 1) (.mk k a s l, ()) = some (.mk k a s l, ()) := by
   intro hl hs
   rw [q59z]
   unfold q59z_b
   dsimp +instances only [b0j, n_mk, s_mk, l_mk]
   refine (b0w l (fun i (s0 : List Val) => (l, (l.length : Int), i, (k, a, s, ()), ((Ev.Val.mk 0 0 (⟨#[]⟩ : ByteArray) ([] : List Ev.Val)), ()), s0, ())) _ (fun (i : Int) (x : Val) (s : List Val) rec => (q59z m (x, ())).bind fun y => ck (room (s ++ ([y.1] : List Val)).length 56) (rec (s ++ ([y.1] : List Val)))) (fun s0 => some (.mk k a s s0, ()))
    (fun rec i s => by simp only [l0r, Val.eta]) (by omega) m [] (by omega)).trans ?_
   rw [w0p _ _ l [] 0 hs (by simpa using hl)]
   rfl
  rw [chk] at hc
  have nil : ∀ {x : Bool}, fin6 (x && ((l.length : Int) == 0)) = 0 → l = [] := fun {x} h => by
   have := fin6_0 h
   rw [Bool.and_eq_true] at this
   simpa using this.2
  have key0 : l = [] → q59z (m + 1) (.mk k a s l, ()) = some (.mk k a s l, ()) := fun h => key (by rw [h]; simp) (by rw [h]; intro x hx; cases hx)
  cases h0 : k == 0
  ·rw [h0] at hc
   cases h1 : k == 1
   ·rw [h1] at hc
    cases h2 : k == 2
    ·rw [h2] at hc
     cases h3 : k == 3
     ·rw [h3] at hc
      cases h4 : k == 4
      ·rw [h4] at hc; cases hc
      ·rw [h4] at hc
       simp only [cond_false, cond_true] at hc
       cases hb : decide ((l.length : Int) > 30) || decide (d > 6)
       ·rw [hb] at hc
        have hb2 := Bool.or_eq_false_iff.1 hb
        have h30 := of_decide_eq_false hb2.1
        have h6 := of_decide_eq_false hb2.2
        simp only [cond_false] at hc
        cases hcc : chks l (d + 1) != 0
        ·have hc0 : chks l (d + 1) = 0 := by simpa using hcc
         exact key (by omega) fun x hx => ih x hx (d + 1) m (by omega) (by omega) (by omega) (chks_0 hc0 x hx)
        ·rw [hcc] at hc
         have h0 : chks l (d + 1) = 0 := hc
         simp [h0] at hcc
       ·rw [hb] at hc; cases hc
     ·rw [h3] at hc
      simp only [cond_false, cond_true] at hc
      cases hb : decide ((s.size : Int) > 4000)
      ·rw [hb] at hc
       simp only [cond_false] at hc
       cases ha : a == 0
       ·rw [ha] at hc; cases hc
       ·rw [ha] at hc
        exact key0 (nil hc)
      ·rw [hb] at hc; cases hc
    ·rw [h2] at hc
     exact key0 (nil hc)
   ·rw [h1] at hc
    exact key0 (nil hc)
  ·rw [h0] at hc
   exact key0 (nil hc)
theorem prpF_0 : ∀ {l : List Prp} {prev : ByteArray}, prpF prev l = 0 → ∀ x ∈ l, chk x.val 1 = 0
 | [], _, _ => fun x hx => (by cases hx)
 | y :: r, prev, h => by
  rw [prpF] at h
  cases h1 : ((!(nmB y.name)) || (sless y.name prev || seq y.name prev)) || (y.val.kind == 0) with
  | true => rw [h1] at h; cases h
  | false =>
   rw [h1, cond_false] at h
   cases h2 : chk y.val 1 != 0 with
   | true => rw [h2, cond_true] at h; rw [h] at h2; cases h2
   | false =>
    rw [h2] at h
    have h0 : chk y.val 1 = 0 := by simpa using h2
    intro x hx
    rcases List.mem_cons.1 hx with rfl | hx
    ·exact h0
    ·exact prpF_0 h x hx
theorem prpE_0 {l : List Prp} (h : prpE l = 0) : l.length ≤ 6 ∧ ∀ x ∈ l, chk x.val 1 = 0 := by
 unfold prpE at h
 cases h1 : decide ((l.length : Int) > 6) with
 | true => rw [h1] at h; cases h
 | false =>
  rw [h1] at h
  have := of_decide_eq_false h1
  exact ⟨by omega, prpF_0 h⟩
theorem nodF_0 : ∀ {l : List Ev.Node} {last : Int}, nodF last l = 0 → ∀ x ∈ l, labE x.labels = 0 ∧ prpE x.props = 0
 | [], _, _ => fun x hx => (by cases hx)
 | y :: r, last, h => by
  rw [nodF] at h
  cases h1 : decide (y.id ≤ last) with
  | true => rw [h1] at h; cases h
  | false =>
   rw [h1, cond_false] at h
   cases h2 : orE (labE y.labels) (prpE y.props) != 0 with
   | true => rw [h2, cond_true] at h; rw [h] at h2; cases h2
   | false =>
    rw [h2] at h
    have h0 : orE (labE y.labels) (prpE y.props) = 0 := by simpa using h2
    unfold orE at h0
    intro x hx
    rcases List.mem_cons.1 hx with rfl | hx
    ·cases h3 : labE x.labels != 0 with
     | true => rw [h3, cond_true] at h0; rw [h0] at h3; cases h3
     | false => rw [h3] at h0; exact ⟨by simpa using h3, h0⟩
    ·exact nodF_0 h x hx
theorem edgF_0 {nodes : List Ev.Node} : ∀ {l : List Edg} {last : Int}, edgF nodes last l = 0 → ∀ x ∈ l, prpE x.props = 0 ∧ (nodeIn nodes x.id).isSome = false ∧ (nodeIn nodes x.src).isNone = false ∧ (nodeIn nodes x.dst).isNone = false
 | [], _, _ => fun x hx => (by cases hx)
 | y :: r, last, h => by
  rw [edgF] at h
  cases h1 : decide (y.id ≤ last) with
  | true => rw [h1] at h; cases h
  | false =>
   cases h2 : (nodeIn nodes y.id).isSome with
   | true => rw [h1, h2] at h; cases h
   | false =>
    cases h3 : !(nmB y.type) with
    | true => rw [h1, h2, h3] at h; cases h
    | false =>
     cases h4 : (nodeIn nodes y.src).isNone with
     | true => rw [h1, h2, h3, h4] at h; cases h
     | false =>
      cases h5 : (nodeIn nodes y.dst).isNone with
      | true => rw [h1, h2, h3, h4, h5] at h; cases h
      | false =>
       rw [h1, h2, h3, h4, h5] at h
       simp only [cond_false] at h
       cases h6 : prpE y.props != 0 with
       | true => rw [h6, cond_true] at h; rw [h] at h6; cases h6
       | false =>
        rw [h6] at h
        intro x hx
        rcases List.mem_cons.1 hx with rfl | hx
        ·exact ⟨by simpa using h6, h2, h4, h5⟩
        ·exact edgF_0 h x hx
theorem chkG_0 {g : Graph} (h : chkG g = 0) : g.nodes.length ≤ 40 ∧ g.edges.length ≤ 60 ∧ nodF 0 g.nodes = 0 ∧ edgF g.nodes 0 g.edges = 0 := by
 unfold chkG at h
 cases hb : (decide ((g.nodes.length : Int) > 40)) || (decide ((g.edges.length : Int) > 60)) with
 | true => rw [hb] at h; cases h
 | false =>
  have h1 := of_decide_eq_false (Bool.or_eq_false_iff.1 hb).1
  have h2 := of_decide_eq_false (Bool.or_eq_false_iff.1 hb).2
  rw [hb, cond_false] at h
  cases h3 : nodF 0 g.nodes != 0 with
  | true => rw [h3, cond_true] at h; rw [h] at h3; cases h3
  | false =>
   rw [h3, cond_false] at h
   cases h4 : edgF g.nodes 0 g.edges != 0 with
   | true => rw [h4, cond_true] at h; rw [h] at h4; cases h4
   | false => exact ⟨by omega, by omega, by simpa using h3, by simpa using h4⟩
def nullV : Val := .mk 0 0 ⟨#[]⟩ []
def propIn : List Prp → ByteArray → Val
 | [], _ => nullV
 | x :: r, s => bif seq x.name s then x.val else propIn r s
theorem o0q (s : ByteArray) : ∀ l : List Prp, propIn l s = nullV ∨ ∃ x ∈ l, propIn l s = x.val
 | [] => .inl rfl
 | x :: r => by
  rw [propIn]
  cases seq x.name s
  ·rcases o0q s r with h | ⟨y, h1, h2⟩
   ·exact .inl h
   ·exact .inr ⟨y, by simp [h1], h2⟩
  ·exact .inr ⟨x, by simp, rfl⟩
theorem b1z (n : Nat) (hn : 40 ≤ n) (s : ByteArray) (k : Unit → Option (Val × Unit)) (hk : k () = some (nullV, ())) : ∀ (l : List Prp) (i : Int), (∀ x ∈ l, chk x.val 1 = 0) → foldK (fun (i : Int) (x : Prp) (u : Unit) (rec : Unit → Option (Val × Unit)) => bif seq x.name s then (q59z n (x.val, ())).bind fun y => some (y.1, ()) else rec u) k i l () = some (propIn l s, ())
 | [], i, _ => hk
 | x :: r, i, h => by
  rw [foldK, propIn, x0g x.val 1 n (by omega) (by omega) (by omega) (h x (by simp)), Option.bind_some, b1z n hn s k hk r (i + 1) fun y hy => h y (by simp [hy])]
  cases seq x.name s <;> rfl
theorem get_ok (l : List Prp) (s : ByteArray) (n : Nat) (hn : 40 ≤ n) (hl : l.length ≤ 6) (h : ∀ x ∈ l, chk x.val 1 = 0) : c0o n (l, s, ()) = some (propIn l s, ()) := by
 unfold c0o
 exact (b0w l (fun i (u : Unit) => (s, l, (l.length : Int), i, (nullV, ()), ())) _ (fun (i : Int) (x : Prp) (u : Unit) (rec : Unit → Option (Val × Unit)) => bif seq x.name s then (q59z n (x.val, ())).bind fun y => some (y.1, ()) else rec u) (fun _ => some (nullV, ()))
  (fun rec i u => by simp only [c0h, Val.eta]; rfl) (by omega) n () (by omega)).trans (b1z n hn s _ rfl l 0 h)
theorem c1n {l : List Ev.Node} {t : Int} {x : Ev.Node} (h : nodeIn l t = some x) : x ∈ l := List.mem_of_find?_eq_some h
theorem o0y {l : List Edg} {t : Int} {x : Edg} (h : edgeIn l t = some x) : x ∈ l := List.mem_of_find?_eq_some h
end Pure
namespace Pure
open Esp Ev Go
set_option linter.unusedSimpArgs false
set_option linter.unusedVariables false
def hasL (l : List ByteArray) (s : ByteArray) : Bool := l.any fun x => seq s x
theorem p0f (s : ByteArray) (k : Unit → Option (Int × Unit)) (hk : k () = some (-1, ())) : ∀ (l : List ByteArray) (i : Int), 0 ≤ i → ∃ j, foldK (fun (i : Int) (x : ByteArray) (u : Unit) (rec : Unit → Option (Int × Unit)) => bif seq s x then some (i, ()) else rec u) k i l () = some (j, ()) ∧ decide (j ≥ 0) = hasL l s
 | [], i, _ => ⟨-1, hk, rfl⟩
 | x :: r, i, hi => by
  obtain ⟨j, h1, h2⟩ := p0f s k hk r (i + 1) (by omega)
  rw [foldK, h1]
  unfold hasL at h2 ⊢
  rw [List.any_cons]
  cases seq s x
  ·exact ⟨j, rfl, by rw [h2]; rfl⟩
  ·exact ⟨i, rfl, by simpa using hi⟩
end Pure

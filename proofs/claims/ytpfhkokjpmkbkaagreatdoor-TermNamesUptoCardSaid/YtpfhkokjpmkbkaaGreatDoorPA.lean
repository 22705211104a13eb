/- Several texts in one (merge.py). -/
import Derived.Test.YtpfhkokjpmkbkaaGreatDoorPCode
import Derived.Test.YtpfhkokjpmkbkaaGreatDoorPLib
import Derived.Test.YtpfhkokjpmkbkaaGreatDoorEvRead
import Derived.Test.YtpfhkokjpmkbkaaGreatDoorPRange
import Derived.KernelRfl

/- Values: whether they are right, their bytes, and back. No program. -/
namespace Pure
open Esp Ev Go
set_option linter.unusedSimpArgs false
set_option linter.unusedVariables false
set_option linter.unusedSimpArgs false
set_option linter.unusedVariables false

theorem seq_iff (a b : ByteArray) : seq a b = true ↔ a = b := by
  unfold seq
  constructor
  · intro h
    have h2 := eq_of_beq h
    rw [ByteArray.toList_eq, ByteArray.toList_eq] at h2
    cases a; cases b
    congr 1
    exact Array.toList_inj.1 h2
  · rintro rfl
    exact beq_self_eq_true _
theorem seq_refl (a : ByteArray) : seq a a = true := (seq_iff a a).2 rfl

def fin6 (b : Bool) : Int := bif b then 0 else 6
mutual
def chk : Val → Int → Int
  | .mk k n s l, d =>
    bif k == 0 then fin6 (((n == 0) && seq s ⟨#[]⟩) && ((l.length : Int) == 0))
    else bif k == 1 then fin6 ((((n == 0) || (n == 1)) && seq s ⟨#[]⟩) && ((l.length : Int) == 0))
    else bif k == 2 then fin6 (seq s ⟨#[]⟩ && ((l.length : Int) == 0))
    else bif k == 3 then (bif decide ((s.size : Int) > 4000) then 2 else bif n == 0 then fin6 (validS s && ((l.length : Int) == 0)) else 6)
    else bif k == 4 then (bif decide ((l.length : Int) > 30) || decide (d > 6) then 2 else bif chks l (d + 1) != 0 then chks l (d + 1) else fin6 ((n == 0) && seq s ⟨#[]⟩))
    else 6
def chks : List Val → Int → Int
  | [], _ => 0
  | x :: r, d => bif chk x d != 0 then chk x d else chks r d
end
inductive Right : Val → Int → Prop
  | null (d : Int) : Right (.mk 0 0 ⟨#[]⟩ []) d
  | truth (n : Int) (d : Int) : n = 0 ∨ n = 1 → Right (.mk 1 n ⟨#[]⟩ []) d
  | int (n : Int) (d : Int) : wfI .i64 n → Right (.mk 2 n ⟨#[]⟩ []) d
  | text (s : ByteArray) (d : Int) : s.size ≤ 4000 → validS s = true → Right (.mk 3 0 s []) d
  | list (l : List Val) (d : Int) : l.length ≤ 30 → d ≤ 6 → (∀ x ∈ l, Right x (d + 1)) → Right (.mk 4 0 ⟨#[]⟩ l) d
end Pure


/- Values: their order, and the other check. No program. -/
namespace Pure
open Esp Ev Go
set_option linter.unusedSimpArgs false
set_option linter.unusedVariables false
set_option linter.unusedSimpArgs false
set_option linter.unusedVariables false

end Pure


/- Names, labels, properties, graphs: one check as the other. No program. -/
namespace Pure
open Esp Ev Go
set_option linter.unusedSimpArgs false
set_option linter.unusedVariables false
set_option linter.unusedSimpArgs false
set_option linter.unusedVariables false

/-! ## names -/
def lttI (c : Int) : Bool := (((decide (c ≥ 97)) && (decide (c ≤ 122))) || ((decide (c ≥ 65)) && (decide (c ≤ 90)))) || (c == 95)
def digI (c : Int) : Bool := decide (c ≥ 48) && decide (c ≤ 57)
def nmF : Int → List Int → Bool
  | _, [] => true
  | i, c :: r => bif !(lttI c) && (((i == 0) || (decide (c < 48))) || (decide (c > 57))) then false else nmF (i + 1) r
def nmB (s : ByteArray) : Bool := bif (seq s ⟨#[]⟩) || (decide ((s.size : Int) > 12)) then false else nmF 0 (bi s.data.toList)
theorem nm_fold : ∀ (l : List Int) (i : Int), foldK (fun i c (s : Unit) (rec : Unit → Option (Bool × Unit)) => bif !(lttI c) && (((i == 0) || (decide (c < 48))) || (decide (c > 57))) then some (false, ()) else rec s) (fun _ => some (true, ())) i l () = some (nmF i l, ())
  | [], i => rfl
  | c :: r, i => by
    rw [foldK, nmF]
    cases !(lttI c) && (((i == 0) || (decide (c < 48))) || (decide (c > 57)))
    · simp only [cond_false]; exact nm_fold r (i + 1)
    · rfl
theorem q44z_ok (s : ByteArray) (n : Nat) (hn : 20 ≤ n) : q44z n (s, ()) = some (nmB s, ()) := by
  unfold q44z nmB
  dsimp only
  cases hb : (seq s ⟨#[]⟩) || (decide ((s.size : Int) > 12)) with
  | true => rfl
  | false =>
    have h12 := of_decide_eq_false (Bool.or_eq_false_iff.1 hb).2
    rw [cond_false, cond_false]
    exact (range_str s (fun i (_ : Unit) => (s, (s.size : Int), i, ())) _ (fun i c s rec => bif !(lttI c) && (((i == 0) || (decide (c < 48))) || (decide (c > 57))) then some (false, ()) else rec s) (fun _ => some (true, ()))
      (fun rec i s => rfl) (by omega) n () (by omega)).trans (nm_fold _ 0)

def cs63 : ByteArray := ⟨#[97, 98, 99, 100, 101, 102, 103, 104, 105, 106, 107, 108, 109, 110, 111, 112, 113, 114, 115, 116, 117, 118, 119, 120, 121, 122, 65, 66, 67, 68, 69, 70, 71, 72, 73, 74, 75, 76, 77, 78, 79, 80, 81, 82, 83, 84, 85, 86, 87, 88, 89, 90, 48, 49, 50, 51, 52, 53, 54, 55, 56, 57, 95]⟩
theorem cs63_all : (List.range 256).all (fun k => cs63.data.toList.contains (UInt8.ofNat k) == (lttI (k : Int) || digI (k : Int))) = true := by kernel_rfl
theorem cs63_mem (b : UInt8) : cs63.data.toList.contains b = (lttI (b.toNat : Int) || digI (b.toNat : Int)) := by
  have h := List.all_eq_true.1 cs63_all b.toNat (List.mem_range.2 b.toNat_lt)
  have h2 := eq_of_beq h
  rwa [UInt8.ofNat_toNat] at h2
theorem dropWhile_all {α : Type} (p : α → Bool) (l : List α) : (∀ x ∈ l.dropWhile p, p x = true) ↔ ∀ x ∈ l, p x = true := by
  induction l with
  | nil => simp
  | cons y r ih =>
    rw [List.dropWhile_cons]
    cases hy : p y with
    | true => simp [hy, ih]
    | false => simp [hy]
theorem trim_nil (l cs : List UInt8) : Lib.trimS l cs = [] ↔ ∀ b ∈ l, cs.contains b = true := by
  unfold Lib.trimS Lib.trimLeftS Lib.trimRightS
  constructor
  · intro h
    have h1 : ∀ x ∈ ((l.reverse.dropWhile (cs.contains ·)).reverse).dropWhile (cs.contains ·), cs.contains x = true := by rw [h]; simp
    rw [dropWhile_all] at h1
    have h2 : ∀ x ∈ l.reverse.dropWhile (cs.contains ·), cs.contains x = true := fun x hx => h1 x (by simpa using hx)
    rw [dropWhile_all] at h2
    exact fun b hb => h2 b (by simpa using hb)
  · intro h
    have h1 : l.reverse.dropWhile (cs.contains ·) = [] := by
      cases hm : l.reverse.dropWhile (cs.contains ·) with
      | nil => rfl
      | cons y r =>
        exfalso
        have := List.head?_dropWhile_not (cs.contains ·) l.reverse
        rw [hm] at this
        simp only [List.head?_cons] at this
        have hy : y ∈ l := by
          have : y ∈ l.reverse.dropWhile (cs.contains ·) := by rw [hm]; simp
          have := (List.dropWhile_sublist (cs.contains ·) (l := l.reverse)).subset this
          simpa using this
        rw [h y hy] at this
        cases this
    rw [h1]
    rfl
theorem nmF_pos : ∀ (l : List UInt8) (i : Int), 0 < i → nmF i (bi l) = l.all fun b => lttI (b.toNat : Int) || digI (b.toNat : Int)
  | [], _, _ => rfl
  | b :: r, i, hi => by
    rw [bi_cons, nmF, List.all_cons, nmF_pos r (i + 1) (by omega)]
    have h0 : (i == 0) = false := by simp; omega
    rw [h0, Bool.false_or]
    cases lttI (b.toNat : Int) with
    | true => rfl
    | false =>
      have : (decide ((b.toNat : Int) < 48) || decide ((b.toNat : Int) > 57)) = !(digI (b.toNat : Int)) := by
        unfold digI
        by_cases h1 : (b.toNat : Int) < 48 <;> by_cases h2 : (b.toNat : Int) > 57 <;> simp [h1, h2] <;> omega
      rw [this]
      cases digI (b.toNat : Int) <;> rfl
theorem trimN_cs (s : ByteArray) (h : s.size ≤ 12) : trimN (s, cs63, ()) = some (trimS s cs63, ()) := by
  unfold trimN
  have : (Nat.ble s.size 9223372036854775807 && Nat.ble cs63.size 4294967280 && asciiS cs63) = true := by
    rw [Bool.and_eq_true, Bool.and_eq_true]
    exact ⟨⟨Nat.ble_eq_true_of_le (by omega), by kernel_rfl⟩, by kernel_rfl⟩
  dsimp only
  rw [this]
  rfl
theorem seq_nil (l : List UInt8) : seq ⟨l.toArray⟩ ⟨#[]⟩ = l.isEmpty := by
  cases l with
  | nil => exact seq_refl _
  | cons a r =>
    cases h : seq ⟨(a :: r).toArray⟩ ⟨#[]⟩ with
    | false => rfl
    | true =>
      have := (seq_iff _ _).1 h
      simp at this
theorem isName_ok (s : ByteArray) : q13z (s, ()) = some (nmB s, ()) := by
  unfold q13z nmB
  dsimp only
  cases hb : (seq s ⟨#[]⟩) || (decide ((s.size : Int) > 12)) with
  | true => rfl
  | false =>
    have h12 := of_decide_eq_false (Bool.or_eq_false_iff.1 hb).2
    have hne := (Bool.or_eq_false_iff.1 hb).1
    rw [cond_false, cond_false]
    have hs : s = ⟨s.data.toList.toArray⟩ := by cases s; simp
    cases hl : s.data.toList with
    | nil =>
      rw [hl] at hs
      subst hs
      simp [seq_refl] at hne
    | cons b t =>
      have e1 : sat s 0 = some (b.toNat : Int) := by unfold sat; rw [if_pos (by omega), hl]; rfl
      have e2 := trimN_cs s (by omega)
      have e3 : seq (trimS s cs63) ⟨#[]⟩ = (b :: t).all fun b => lttI (b.toNat : Int) || digI (b.toNat : Int) := by
        unfold trimS
        rw [seq_nil, hl]
        rw [Bool.eq_iff_iff, List.isEmpty_iff, trim_nil, List.all_eq_true]
        constructor
        · intro h x hx; rw [← cs63_mem]; exact h x hx
        · intro h x hx; rw [cs63_mem]; exact h x hx
      rw [bi_cons, nmF, nmF_pos t (0 + 1) (by omega)]
      unfold cs63 at e2 e3
      simp only [e1, e2, e3, Option.bind_some]
      rw [List.all_cons]
      by_cases h1 : (b.toNat : Int) ≥ 48
      · by_cases h2 : (b.toNat : Int) ≤ 57
        · have hl2 : lttI (b.toNat : Int) = false := by unfold lttI; simp; omega
          simp [h1, h2, hl2]
        · have hd : digI (b.toNat : Int) = false := by unfold digI; simp; omega
          simp only [h1, h2, hd, decide_true, decide_false, cond_true, cond_false, Bool.or_false, beq_self_eq_true, Bool.true_or, Bool.and_true]
          cases lttI (b.toNat : Int) <;> rfl
      · have hd : digI (b.toNat : Int) = false := by unfold digI; simp; omega
        simp only [h1, hd, decide_true, decide_false, cond_true, cond_false, Bool.or_false, beq_self_eq_true, Bool.true_or, Bool.and_true]
        cases lttI (b.toNat : Int) <;> rfl

/-! ## labels, properties -/
def labF : ByteArray → List ByteArray → Int
  | _, [] => 0
  | prev, x :: r => bif (!(nmB x)) || (sless x prev || seq x prev) then 6 else labF x r
def labE (l : List ByteArray) : Int := bif decide ((l.length : Int) > 4) then 2 else labF ⟨#[]⟩ l
def prpF : ByteArray → List Prp → Int
  | _, [] => 0
  | prev, x :: r => bif ((!(nmB x.name)) || (sless x.name prev || seq x.name prev)) || (x.val.kind == 0) then 6 else bif chk x.val 1 != 0 then chk x.val 1 else prpF x.name r
def prpE (l : List Prp) : Int := bif decide ((l.length : Int) > 6) then 2 else prpF ⟨#[]⟩ l
/-! ## GraphNames -/
end Pure


/- Graphs: one check as the other. No program. -/
namespace Pure
open Esp Ev Go
set_option linter.unusedSimpArgs false
set_option linter.unusedVariables false
set_option linter.unusedSimpArgs false
set_option linter.unusedVariables false

def Found {α : Type} (l : List α) (o : Option α) (k : Int) : Prop := (k = -1 ∧ o = none) ∨ (0 ≤ k ∧ ∃ x, ix l k = some x ∧ o = some x)
theorem Found.lt {α : Type} {l : List α} {o : Option α} {k : Int} (h : Found l o k) : decide (k < 0) = o.isNone := by
  rcases h with ⟨rfl, rfl⟩ | ⟨h, x, _, rfl⟩
  · rfl
  · simp; omega
def nodeIn (l : List Ev.Node) (t : Int) : Option Ev.Node := l.find? fun y => y.id == t
def edgeIn (l : List Edg) (t : Int) : Option Edg := l.find? fun y => y.id == t

end Pure


/- Graphs: Check one as the other. No program. -/
namespace Pure
open Esp Ev Go
set_option linter.unusedSimpArgs false
set_option linter.unusedVariables false
set_option linter.unusedSimpArgs false
set_option linter.unusedVariables false

/-! ## nodes -/
def orE (a b : Int) : Int := bif a != 0 then a else b
def nodF : Int → List Ev.Node → Int
  | _, [] => 0
  | last, x :: r => bif decide (x.id ≤ last) then 6 else bif orE (labE x.labels) (prpE x.props) != 0 then orE (labE x.labels) (prpE x.props) else nodF x.id r
def nodL : Int → List Ev.Node → Int
  | last, [] => last
  | _, x :: r => nodL x.id r
/-! ## edges -/
def edgF (nodes : List Ev.Node) : Int → List Edg → Int
  | _, [] => 0
  | last, x :: r => bif decide (x.id ≤ last) then 6 else bif (nodeIn nodes x.id).isSome then 6 else bif !(nmB x.type) then 6 else bif (nodeIn nodes x.src).isNone then 5 else bif (nodeIn nodes x.dst).isNone then 5 else
    bif prpE x.props != 0 then prpE x.props else edgF nodes x.id r
def edgL : Int → List Edg → Int
  | last, [] => last
  | _, x :: r => edgL x.id r
/-! ## all of it -/
def maxI (a b : Int) : Int := if a > b then a else b
def chkG (g : Graph) : Int := bif (decide ((g.nodes.length : Int) > 40)) || (decide ((g.edges.length : Int) > 60)) then 2 else bif nodF 0 g.nodes != 0 then nodF 0 g.nodes else bif edgF g.nodes 0 g.edges != 0 then edgF g.nodes 0 g.edges else
  bif (decide ((g.next : Int) ≤ maxI (edgL 0 g.edges) (nodL 0 g.nodes))) || (decide ((g.next : Int) > 1099511627776)) then 9 else 0
end Pure


/- Graphs: properties, and what is around. No program. -/
namespace Pure
open Esp Ev Go
set_option linter.unusedSimpArgs false
set_option linter.unusedVariables false
set_option linter.unusedSimpArgs false
set_option linter.unusedVariables false

theorem chkG_0 {g : Graph} (h : chkG g = 0) : g.nodes.length ≤ 40 ∧ g.edges.length ≤ 60 ∧ nodF 0 g.nodes = 0 ∧ edgF g.nodes 0 g.edges = 0 := by
  unfold chkG at h
  cases hb : (decide ((g.nodes.length : Int) > 40)) || (decide ((g.edges.length : Int) > 60)) with
  | true => rw [hb] at h; cases h
  | false =>
    have h1 := of_decide_eq_false (Bool.or_eq_false_iff.1 hb).1
    have h2 := of_decide_eq_false (Bool.or_eq_false_iff.1 hb).2
    rw [hb, cond_false] at h
    cases h3 : nodF 0 g.nodes != 0 with
    | true => rw [h3, cond_true] at h; rw [h] at h3; cases h3
    | false =>
      rw [h3, cond_false] at h
      cases h4 : edgF g.nodes 0 g.edges != 0 with
      | true => rw [h4, cond_true] at h; rw [h] at h4; cases h4
      | false => exact ⟨by omega, by omega, by simpa using h3, by simpa using h4⟩

end Pure


/- Graphs: what is around. No program. -/
namespace Pure
open Esp Ev Go
set_option linter.unusedSimpArgs false
set_option linter.unusedVariables false
set_option linter.unusedSimpArgs false
set_option linter.unusedVariables false

def hasL (l : List ByteArray) (s : ByteArray) : Bool := l.any fun x => seq s x
theorem index_fold (s : ByteArray) (k : Unit → Option (Int × Unit)) (hk : k () = some (-1, ())) : ∀ (l : List ByteArray) (i : Int), 0 ≤ i → ∃ j, foldK (fun (i : Int) (x : ByteArray) (u : Unit) (rec : Unit → Option (Int × Unit)) => bif seq s x then some (i, ()) else rec u) k i l () = some (j, ()) ∧ decide (j ≥ 0) = hasL l s
  | [], i, _ => ⟨-1, hk, rfl⟩
  | x :: r, i, hi => by
    obtain ⟨j, h1, h2⟩ := index_fold s k hk r (i + 1) (by omega)
    rw [foldK, h1]
    unfold hasL at h2 ⊢
    rw [List.any_cons]
    cases seq s x
    · exact ⟨j, rfl, by rw [h2]; rfl⟩
    · exact ⟨i, rfl, by simpa using hi⟩
end Pure


/- Values stand in one order. No program. -/
namespace Pure
open Esp Ev Go
set_option linter.unusedSimpArgs false
set_option linter.unusedVariables false
set_option linter.unusedSimpArgs false
set_option linter.unusedVariables false

theorem same_eq : ∀ (x y : List UInt8), (∀ j, j < min x.length y.length → x[j]! = y[j]!) → x.length = y.length → x = y
  | [], [], _, _ => rfl
  | [], _ :: _, _, h => by simp at h
  | _ :: _, [], _, h => by simp at h
  | a :: x, b :: y, hj, h => by
    have h0 : a = b := by simpa using hj 0 (by simp)
    rw [h0, same_eq x y (fun j h => by simpa using hj (j + 1) (by simp only [List.length_cons]; omega)) (by simpa using h)]
end Pure


/- The program's order and the document's are the one order. No program. -/
namespace Pure
open Esp Ev Go
set_option linter.unusedSimpArgs false
set_option linter.unusedVariables false
set_option linter.unusedSimpArgs false
set_option linter.unusedVariables false

end Pure


/- Bags: what is one. No program. -/
namespace Pure
open Esp Ev Go
set_option linter.unusedSimpArgs false
set_option linter.unusedVariables false
set_option linter.unusedSimpArgs false
set_option linter.unusedVariables false

end Pure

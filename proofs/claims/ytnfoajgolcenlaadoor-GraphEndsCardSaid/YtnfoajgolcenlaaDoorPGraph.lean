
/- Names, labels, properties, graphs: one check as the other. No program. -/
import Derived.Test.YtnfoajgolcenlaaDoorPCode
import Derived.Test.YtnfoajgolcenlaaDoorPRange
import Derived.Test.YtnfoajgolcenlaaDoorPOrder
import Derived.KernelRfl
namespace Pure
open Esp Ev Go
set_option linter.unusedSimpArgs false
set_option linter.unusedVariables false
set_option linter.unusedSimpArgs false
set_option linter.unusedVariables false

/-! ## names -/
def lttI (c : Int) : Bool := (((decide (c ≥ 97)) && (decide (c ≤ 122))) || ((decide (c ≥ 65)) && (decide (c ≤ 90)))) || (c == 95)
def digI (c : Int) : Bool := decide (c ≥ 48) && decide (c ≤ 57)
def nmF : Int → List Int → Bool
  | _, [] => true
  | i, c :: r => bif !(lttI c) && (((i == 0) || (decide (c < 48))) || (decide (c > 57))) then false else nmF (i + 1) r
/-- may it be a name? -/
def nmB (s : ByteArray) : Bool := bif (seq s ⟨#[]⟩) || (decide ((s.size : Int) > 12)) then false else nmF 0 (bi s.data.toList)
theorem nm_fold : ∀ (l : List Int) (i : Int), foldK (fun i c (s : Unit) (rec : Unit → Option (Bool × Unit)) => bif !(lttI c) && (((i == 0) || (decide (c < 48))) || (decide (c > 57))) then some (false, ()) else rec s) (fun _ => some (true, ())) i l () = some (nmF i l, ())
  | [], i => rfl
  | c :: r, i => by
    rw [foldK, nmF]
    cases !(lttI c) && (((i == 0) || (decide (c < 48))) || (decide (c > 57)))
    · simp only [cond_false]; exact nm_fold r (i + 1)
    · rfl
theorem graph_Name_ok (s : ByteArray) (n : Nat) (hn : 20 ≤ n) : graph_Name n (s, ()) = some (nmB s, ()) := by
  unfold graph_Name nmB
  dsimp only
  cases hb : (seq s ⟨#[]⟩) || (decide ((s.size : Int) > 12)) with
  | true => rfl
  | false =>
    have h12 := of_decide_eq_false (Bool.or_eq_false_iff.1 hb).2
    rw [cond_false, cond_false]
    exact (range_str s (fun i (_ : Unit) => (s, (s.size : Int), i, ())) _ (fun i c s rec => bif !(lttI c) && (((i == 0) || (decide (c < 48))) || (decide (c > 57))) then some (false, ()) else rec s) (fun _ => some (true, ()))
      (fun rec i s => rfl) (by omega) n () (by omega)).trans (nm_fold _ 0)

def cs63 : ByteArray := ⟨#[97, 98, 99, 100, 101, 102, 103, 104, 105, 106, 107, 108, 109, 110, 111, 112, 113, 114, 115, 116, 117, 118, 119, 120, 121, 122, 65, 66, 67, 68, 69, 70, 71, 72, 73, 74, 75, 76, 77, 78, 79, 80, 81, 82, 83, 84, 85, 86, 87, 88, 89, 90, 48, 49, 50, 51, 52, 53, 54, 55, 56, 57, 95]⟩
theorem cs63_all : (List.range 256).all (fun k => cs63.data.toList.contains (UInt8.ofNat k) == (lttI (k : Int) || digI (k : Int))) = true := by kernel_rfl
theorem cs63_mem (b : UInt8) : cs63.data.toList.contains b = (lttI (b.toNat : Int) || digI (b.toNat : Int)) := by
  have h := List.all_eq_true.1 cs63_all b.toNat (List.mem_range.2 b.toNat_lt)
  have h2 := eq_of_beq h
  rwa [UInt8.ofNat_toNat] at h2
theorem dropWhile_all {α : Type} (p : α → Bool) (l : List α) : (∀ x ∈ l.dropWhile p, p x = true) ↔ ∀ x ∈ l, p x = true := by
  induction l with
  | nil => simp
  | cons y r ih =>
    rw [List.dropWhile_cons]
    cases hy : p y with
    | true => simp [hy, ih]
    | false => simp [hy]
theorem trim_nil (l cs : List UInt8) : Lib.trimS l cs = [] ↔ ∀ b ∈ l, cs.contains b = true := by
  unfold Lib.trimS Lib.trimLeftS Lib.trimRightS
  constructor
  · intro h
    have h1 : ∀ x ∈ ((l.reverse.dropWhile (cs.contains ·)).reverse).dropWhile (cs.contains ·), cs.contains x = true := by rw [h]; simp
    rw [dropWhile_all] at h1
    have h2 : ∀ x ∈ l.reverse.dropWhile (cs.contains ·), cs.contains x = true := fun x hx => h1 x (by simpa using hx)
    rw [dropWhile_all] at h2
    exact fun b hb => h2 b (by simpa using hb)
  · intro h
    have h1 : l.reverse.dropWhile (cs.contains ·) = [] := by
      cases hm : l.reverse.dropWhile (cs.contains ·) with
      | nil => rfl
      | cons y r =>
        exfalso
        have := List.head?_dropWhile_not (cs.contains ·) l.reverse
        rw [hm] at this
        simp only [List.head?_cons] at this
        have hy : y ∈ l := by
          have : y ∈ l.reverse.dropWhile (cs.contains ·) := by rw [hm]; simp
          have := (List.dropWhile_sublist (cs.contains ·) (l := l.reverse)).subset this
          simpa using this
        rw [h y hy] at this
        cases this
    rw [h1]
    rfl
theorem nmF_pos : ∀ (l : List UInt8) (i : Int), 0 < i → nmF i (bi l) = l.all fun b => lttI (b.toNat : Int) || digI (b.toNat : Int)
  | [], _, _ => rfl
  | b :: r, i, hi => by
    rw [bi_cons, nmF, List.all_cons, nmF_pos r (i + 1) (by omega)]
    have h0 : (i == 0) = false := by simp; omega
    rw [h0, Bool.false_or]
    cases lttI (b.toNat : Int) with
    | true => rfl
    | false =>
      have : (decide ((b.toNat : Int) < 48) || decide ((b.toNat : Int) > 57)) = !(digI (b.toNat : Int)) := by
        unfold digI
        by_cases h1 : (b.toNat : Int) < 48 <;> by_cases h2 : (b.toNat : Int) > 57 <;> simp [h1, h2] <;> omega
      rw [this]
      cases digI (b.toNat : Int) <;> rfl
theorem trimN_cs (s : ByteArray) (h : s.size ≤ 12) : trimN (s, cs63, ()) = some (trimS s cs63, ()) := by
  unfold trimN
  have : (Nat.ble s.size 9223372036854775807 && Nat.ble cs63.size 4294967280 && asciiS cs63) = true := by
    rw [Bool.and_eq_true, Bool.and_eq_true]
    exact ⟨⟨Nat.ble_eq_true_of_le (by omega), by kernel_rfl⟩, by kernel_rfl⟩
  dsimp only
  rw [this]
  rfl
theorem seq_nil (l : List UInt8) : seq ⟨l.toArray⟩ ⟨#[]⟩ = l.isEmpty := by
  cases l with
  | nil => exact seq_refl _
  | cons a r =>
    cases h : seq ⟨(a :: r).toArray⟩ ⟨#[]⟩ with
    | false => rfl
    | true =>
      have := (seq_iff _ _).1 h
      simp at this
/-! ## the order of texts -/
theorem u8_lt (a b : UInt8) : (decide (a < b)) = decide (a.toNat < b.toNat) := by
  by_cases h : a < b
  · rw [decide_eq_true h, decide_eq_true (UInt8.lt_iff_toNat_lt.1 h)]
  · rw [decide_eq_false h, decide_eq_false fun h2 => h (UInt8.lt_iff_toNat_lt.2 h2)]
theorem u8_eq (a b : UInt8) : (a == b) = decide (a.toNat = b.toNat) := by
  by_cases h : a = b
  · subst h; simp
  · have : ¬ a.toNat = b.toNat := fun h2 => h (UInt8.toNat_inj.1 h2)
    simp [h, this]
theorem less_total : ∀ x y : List UInt8, (!(Op.bytesLess y x)) = (Op.bytesLess x y || x == y)
  | [], [] => rfl
  | [], b :: y => rfl
  | a :: x, [] => rfl
  | a :: x, b :: y => by
    have ih := less_total x y
    rw [Op.bytesLess, Op.bytesLess, List.cons_beq_cons, u8_lt, u8_lt, u8_eq, u8_eq]
    rcases Nat.lt_trichotomy a.toNat b.toNat with h | h | h
    · simp [h, show ¬ b.toNat < a.toNat by omega, show ¬ b.toNat = a.toNat by omega]
    · simp only [h, Nat.lt_irrefl, decide_false, Bool.false_or, decide_true, Bool.true_and]
      exact ih
    · simp [h, show ¬ a.toNat < b.toNat by omega, show ¬ a.toNat = b.toNat by omega]
theorem sless_total (x y : ByteArray) : (!(sless y x)) = (sless x y || seq x y) := less_total _ _
theorem sless_nil (x : ByteArray) : sless x ⟨#[]⟩ = false := by
  unfold sless
  have : (⟨#[]⟩ : ByteArray).toList = [] := by rw [ByteArray.toList_eq]
  rw [this]
  cases x.toList <;> rfl
theorem nm_ne {x : ByteArray} (h : nmB x = true) : seq x ⟨#[]⟩ = false := by
  cases hs : seq x ⟨#[]⟩ with
  | false => rfl
  | true => unfold nmB at h; rw [hs] at h; cases h

/-! ## labels, properties -/
def labF : ByteArray → List ByteArray → Int
  | _, [] => 0
  | prev, x :: r => bif (!(nmB x)) || (sless x prev || seq x prev) then 6 else labF x r
def labE (l : List ByteArray) : Int := bif decide ((l.length : Int) > 4) then 2 else labF ⟨#[]⟩ l
def lastD (p : List ByteArray) : ByteArray := p.getLastD ⟨#[]⟩
theorem lastD_snoc (p : List ByteArray) (x : ByteArray) : lastD (p ++ [x]) = x := by unfold lastD; simp
theorem split_last {α : Type} (p : List α) : p = [] ∨ ∃ q y, p = q ++ [y] := by
  rcases List.eq_nil_or_concat p with h | ⟨q, y, h⟩
  · exact .inl h
  · exact .inr ⟨q, y, by simpa using h⟩
theorem lab_fold (l : List ByteArray) (n : Nat) (hn : 20 ≤ n) (hl : l.length ≤ 1000) : ∀ (r p : List ByteArray), l = p ++ r → foldK (fun (i : Int) x (s : Unit) (rec : Unit → Option (Int × Unit)) => (graph_Name n (x, ())).bind fun y => bif !y.1 then some (6, ()) else
    bif decide (i > 0) then (ix l (IntKind.wrap .i64 (i - 1))).bind fun z => bif !(sless z x) then some (6, ()) else rec s else rec s) (fun _ => some (0, ())) (p.length : Int) r () = some (labF (lastD p) r, ())
  | [], _, _ => rfl
  | x :: r, p, hp => by
    have ih := lab_fold l n hn hl r (p ++ [x]) (by simp [hp])
    rw [lastD_snoc] at ih
    have e1 : ((p.length : Int) + 1) = ((p ++ [x]).length : Int) := by simp
    rw [foldK, labF, graph_Name_ok x n hn, Option.bind_some, e1, ih]
    dsimp only
    cases hnm : nmB x with
    | false => rfl
    | true =>
      simp only [Bool.not_true, cond_false, Bool.false_or]
      rcases split_last p with rfl | ⟨q, y, rfl⟩
      · rw [show decide (((([] : List ByteArray).length : Nat) : Int) > 0) = false from rfl, cond_false]
        rw [show lastD [] = ⟨#[]⟩ from rfl, sless_nil, nm_ne hnm]
        rfl
      · have hq : l = q ++ y :: (x :: r) := by rw [hp]; simp
        have e2 : decide ((((q ++ [y]).length : Nat) : Int) > 0) = true := by simp
        have e3 : IntKind.wrap .i64 (((q ++ [y]).length : Int) - 1) = (q.length : Int) := by
          have : (q ++ [y]).length = q.length + 1 := by simp
          have h2 : l.length = q.length + (r.length + 2) := by rw [hq]; simp
          rw [wrap64 (by omega) (by omega)]; omega
        have e4 : ix l (q.length : Int) = some y := ix_ok (by rw [hq]; simp)
        rw [e2, e3, e4, cond_true, Option.bind_some, lastD_snoc, sless_total]
        cases sless x y || seq x y <;> rfl
theorem labels_ok (l : List ByteArray) (n : Nat) (hn : 20 ≤ n) : graph_Labels n (l, ()) = some (labE l, ()) := by
  unfold graph_Labels labE
  dsimp only
  cases hb : decide ((l.length : Int) > 4) with
  | true => rfl
  | false =>
    have h4 := of_decide_eq_false hb
    rw [cond_false, cond_false]
    exact (range_list l (fun i (s : Unit) => (l, l, (l.length : Int), i, ())) _ (fun (i : Int) x (s : Unit) (rec : Unit → Option (Int × Unit)) => (graph_Name n (x, ())).bind fun y => bif !y.1 then some (6, ()) else
      bif decide (i > 0) then (ix l (IntKind.wrap .i64 (i - 1))).bind fun z => bif !(sless z x) then some (6, ()) else rec s else rec s) (fun _ => some (0, ()))
      (fun rec i s => rfl) (by omega) n _ (by omega)).trans (lab_fold l n hn (by omega) l [] rfl)

def prpF : ByteArray → List Prp → Int
  | _, [] => 0
  | prev, x :: r => bif ((!(nmB x.name)) || (sless x.name prev || seq x.name prev)) || (x.val.kind == 0) then 6 else bif chk x.val 1 != 0 then chk x.val 1 else prpF x.name r
def prpE (l : List Prp) : Int := bif decide ((l.length : Int) > 6) then 2 else prpF ⟨#[]⟩ l
def lastN (p : List Prp) : ByteArray := lastD (p.map Prp.name)
theorem lastN_snoc (p : List Prp) (x : Prp) : lastN (p ++ [x]) = x.name := by unfold lastN; rw [List.map_append]; exact lastD_snoc _ _
noncomputable def prpB (n : Nat) (l : List Prp) : Int → Prp → Unit → (Unit → Option (Int × Unit)) → Option (Int × Unit) := fun i x s rec => (graph_Name n (x.name, ())).bind fun y => bif !y.1 then some (6, ()) else
    bif decide (i > 0) then (ix l (IntKind.wrap .i64 (i - 1))).bind fun z => bif (!(sless z.name x.name)) || ((x.val.kind : Int) == 0) then some (6, ()) else
      (value_Check n ((Ev.Val.mk x.val.kind x.val.n x.val.s x.val.l), ())).bind fun y => bif (y.1 : Int) != 0 then some (y.1, ()) else rec s
    else bif (x.val.kind : Int) == 0 then some (6, ()) else
      (value_Check n ((Ev.Val.mk x.val.kind x.val.n x.val.s x.val.l), ())).bind fun y => bif (y.1 : Int) != 0 then some (y.1, ()) else rec s
theorem prp_fold (l : List Prp) (n : Nat) (hn : 40 ≤ n) (hl : l.length ≤ 1000) : ∀ (r p : List Prp), l = p ++ r → foldK (prpB n l) (fun _ => some (0, ())) (p.length : Int) r () = some (prpF (lastN p) r, ())
  | [], _, _ => rfl
  | x :: r, p, hp => by
    have ih := prp_fold l n hn hl r (p ++ [x]) (by simp [hp])
    rw [lastN_snoc] at ih
    have e1 : ((p.length : Int) + 1) = ((p ++ [x]).length : Int) := by simp
    rw [foldK, prpF, prpB, graph_Name_ok x.name n (by omega), Option.bind_some, Val.eta, Check_ok x.val n hn, Option.bind_some, e1, ih]
    dsimp only
    cases hnm : nmB x.name with
    | false => rfl
    | true =>
      simp only [Bool.not_true, cond_false, Bool.false_or]
      rcases split_last p with rfl | ⟨q, y, rfl⟩
      · rw [show decide (((([] : List Prp).length : Nat) : Int) > 0) = false from rfl, cond_false]
        rw [show lastN [] = ⟨#[]⟩ from rfl, sless_nil, nm_ne hnm]
        simp only [Bool.false_or]
        cases x.val.kind == 0
        · simp only [cond_false]; cases chk x.val 1 != 0 <;> rfl
        · rfl
      · have hq : l = q ++ y :: (x :: r) := by rw [hp]; simp
        have e2 : decide ((((q ++ [y]).length : Nat) : Int) > 0) = true := by simp
        have e3 : IntKind.wrap .i64 (((q ++ [y]).length : Int) - 1) = (q.length : Int) := by
          have : (q ++ [y]).length = q.length + 1 := by simp
          have h2 : l.length = q.length + (r.length + 2) := by rw [hq]; simp
          rw [wrap64 (by omega) (by omega)]; omega
        have e4 : ix l (q.length : Int) = some y := ix_ok (by rw [hq]; simp)
        rw [e2, e3, e4, cond_true, Option.bind_some, lastN_snoc, sless_total]
        cases (sless x.name y.name || seq x.name y.name) || (x.val.kind == 0)
        · simp only [cond_false]; cases chk x.val 1 != 0 <;> rfl
        · rfl
theorem props_ok (l : List Prp) (n : Nat) (hn : 40 ≤ n) : graph_Props n (l, ()) = some (prpE l, ()) := by
  unfold graph_Props prpE
  dsimp only
  cases hb : decide ((l.length : Int) > 6) with
  | true => rfl
  | false =>
    have h4 := of_decide_eq_false hb
    rw [cond_false, cond_false]
    exact (range_list l (fun i (s : Unit) => (l, l, (l.length : Int), i, ())) _ (prpB n l) (fun _ => some (0, ())) (fun rec i s => rfl) (by omega) n _ (by omega)).trans (prp_fold l n hn (by omega) l [] rfl)

/-! ## GraphNames -/
theorem drawn_ok (n : Nat) (hn : 60 ≤ n) : espalierlaw_drawn n () = some (true, ()) := by
  obtain ⟨m, rfl⟩ : ∃ m, n = m + 60 := ⟨n - 60, by omega⟩
  kernel_rfl
end Pure

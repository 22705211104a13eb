/- PortPrint: the document's text of a graph, and the plain law. No program. -/
import Derived.Test.YtffefjmpmgkfoaaGreatDoorPW
import Derived.Test.YtffefjmpmgkfoaaGreatDoorPPrR
namespace Pure
open Esp Ev Go
set_option linter.unusedSimpArgs false
set_option linter.unusedVariables false
set_option linter.unusedSimpArgs false
set_option linter.unusedVariables false
theorem okP_right {v : Val} {d : Int} (h : Right v d) : OkP v d := by
  induction h with
  | null d => exact .null _ _ _ _
  | truth n d h => exact .truth _ _ _ _ h
  | int n d h =>
    have hr := i64_range h
    exact .int _ _ _ _ hr.1 hr.2
  | text s d h1 h2 => exact .text _ _ _ _ h1
  | list l d h1 h2 h3 ih => exact .list _ _ _ _ h1 h2 ih
theorem printOf_ok {v : Val} (h : Right v 1) : printOfN (v, ()) = some (B (prV v), ()) := by
  simp only [printOfN, if_pos (okP_right h)]
  rfl
theorem cat_X (a b : List UInt8) (h : a.length + b.length ≤ 9000000000000000000) : cat? (B a) (B b) = some (B (a ++ b)) := by
  unfold cat?
  rw [B_size, B_size, if_pos (by omega), B_app]
/-! ## the whole text, nothing left out -/
def prpX (p : Prp) : List UInt8 := 32 :: (p.name.data.toList ++ 61 :: prV p.val)
def prpsX (l : List Prp) : List UInt8 := l.flatMap prpX ++ [10]
def nodX (x : Ev.Node) : List UInt8 := [110, 111, 100, 101, 32] ++ Lib.itoa x.id ++ x.labels.flatMap labT ++ prpsX x.props
def edgX (x : Edg) : List UInt8 := [101, 100, 103, 101, 32] ++ Lib.itoa x.id ++ [32] ++ Lib.itoa x.src ++ [32] ++ Lib.itoa x.dst ++ [32, 58] ++ x.type.data.toList ++ prpsX x.props
def grX (g : Graph) : List UInt8 := [110, 101, 120, 116, 32] ++ Lib.itoa g.next ++ [10] ++ g.nodes.flatMap nodX ++ g.edges.flatMap edgX
theorem prX_len {p : Prp} (h : prpG p) : (prpX p).length ≤ 9000000000000 := by
  have h1 := nm_len h.nm
  have h2 := prV_len p.val 1 h.r (by omega) (by omega)
  have h3 := capV_le (d := 1) (by omega)
  unfold prpX
  simp only [List.length_cons, List.length_append]
  omega
theorem prpsX_len {l : List Prp} (h : prpsG l) : (prpsX l).length ≤ 60000000000000 := by
  have h1 := flat_le (e := prpX) (c := 9000000000000) (l := l) fun x hx => prX_len (h.ps x hx)
  have h2 : 9000000000000 * l.length ≤ 9000000000000 * 6 := Nat.mul_le_mul_left _ h.n
  unfold prpsX
  rw [List.length_append, List.length_singleton]
  omega
theorem labs_len {l : List ByteArray} (h : ∀ s ∈ l, nmB s = true) (hl : l.length ≤ 4) : (l.flatMap labT).length ≤ 100 := by
  have h1 := flat_le (e := labT) (c := 14) (l := l) fun x hx => by
    have := nm_len (h x hx)
    unfold labT
    simp only [List.length_cons]
    omega
  omega
theorem nodX_len {x : Ev.Node} (h : nodG x) : (nodX x).length ≤ 70000000000000 := by
  have h1 := prpsX_len h.ps
  have h2 := labs_len h.ls h.n
  have h3 := itoa_len x.id h.i
  unfold nodX
  simp only [List.length_append, List.length_cons, List.length_nil]
  omega
theorem edgX_len {x : Edg} (h : edgG x) : (edgX x).length ≤ 70000000000000 := by
  have h1 := prpsX_len h.ps
  have h2 := nm_len h.t
  have h3 := itoa_len x.id h.i
  have h4 := itoa_len x.src h.s
  have h5 := itoa_len x.dst h.d
  unfold edgX
  simp only [List.length_append, List.length_cons, List.length_nil]
  omega
theorem big_dec (v : Val) : decide (((B (prV v)).size : Int) ≤ 4000) = !(decide (((prV v).length : Int) > 4000)) := by
  rw [B_size]
  by_cases h : ((prV v).length : Int) > 4000
  · rw [decide_eq_true h, decide_eq_false (by omega)]; rfl
  · rw [decide_eq_false h, decide_eq_true (by omega)]; rfl
theorem gend_ok (n : Nat) (l : List Prp) (b : Bool) (h : prpsG l) (hn : 100 ≤ n) :
    q12z n (l, (b, ()), ()) = some (B (prpsX l), (b && !(l.any bigP), ()), ()) := by
  unfold q12z
  dsimp only
  rw [R_q12z_s0 n _ _ l n _ _ (by have := h.n; omega) (by have := h.n; omega)]
  have key : ∀ (l : List Prp) (i : Int) (b : Bool) (m : List UInt8), (∀ p ∈ l, prpG p) → m.length + 9000000000000 * l.length ≤ 80000000000000000 →
      foldK (F_q12z_s0 n (fun _ => none)) (fun (v3, o7, _) => (fun (v14, o15, _) => (cat? v14 (⟨#[10]⟩ : ByteArray)).bind fun s16 => some (s16, (o15.1, ()), ())) (v3, (o7.1, ()), ())) i l (B m, (b, ()), ()) =
        some (B (m ++ prpsX l), (b && !(l.any bigP), ()), ()) := by
    intro l
    induction l with
    | nil =>
      intro i b m _ hm
      rw [foldK]
      dsimp only
      rw [show (⟨#[10]⟩ : ByteArray) = B [10] from rfl, cat_X m [10] (by simp at hm ⊢; omega), Option.bind_some]
      simp [prpsX]
    | cons x r ih =>
      intro i b m hp hm
      have hx := hp x (by simp)
      have hl := prX_len hx
      unfold prpX at hl
      simp only [List.length_cons, List.length_append] at hl
      rw [List.length_cons] at hm
      rw [foldK]
      unfold F_q12z_s0 at ih ⊢
      dsimp only
      rw [Val.eta, printOf_ok hx.r, Option.bind_some]
      dsimp only
      rw [show (⟨#[32]⟩ : ByteArray) = B [32] from rfl, show x.name = B x.name.data.toList from rfl, cat_X _ _ (by simp only [List.length_append, List.length_cons, List.length_nil]; omega), Option.bind_some, show (⟨#[61]⟩ : ByteArray) = B [61] from rfl, cat_X _ _ (by simp only [List.length_append, List.length_cons, List.length_nil]; omega), Option.bind_some, cat_X _ _ (by simp only [List.length_append, List.length_cons, List.length_nil]; omega), Option.bind_some, cat_X _ _ (by simp only [List.length_append, List.length_cons, List.length_nil]; omega), Option.bind_some, big_dec]
      refine (ih (i + 1) _ _ (fun p h => hp p (by simp [h])) (by simp only [List.length_append, List.length_cons, List.length_nil]; omega)).trans ?_
      have e1 : (m ++ (((([32] : List UInt8) ++ x.name.data.toList) ++ [61]) ++ prV x.val)) ++ prpsX r = m ++ prpsX (x :: r) := by simp [prpsX, prpX, List.append_assoc]
      have e2 : ((b && !(decide (((prV x.val).length : Int) > 4000))) && !(r.any bigP)) = (b && !((x :: r).any bigP)) := by
        rw [List.any_cons, Bool.not_or, Bool.and_assoc]
        rfl
      rw [e1, e2]
  have := key l 0 b [] h.ps (by have := h.n; simp; omega)
  rw [List.nil_append] at this
  exact this
theorem glab_fold {ρ : Type} (n : Nat) (kr : Unit → Option ρ) (k : ByteArray × (List Ev.Node) × Int × Int × (Ev.Graph × Unit) × (Bool × Unit) × (Ev.Node × Unit) × Unit → Option ρ) (a : List Ev.Node) (c d : Int) (g : Graph) (b : Bool) (x : Ev.Node) :
    ∀ (l : List ByteArray) (i : Int) (m : List UInt8), (∀ s ∈ l, nmB s = true) → m.length + 100 * l.length ≤ 8000000000000000000 →
      foldK (F_q19z_s2 n kr) k i l (B m, a, c, d, (g, ()), (b, ()), (x, ()), ()) = k (B (m ++ l.flatMap labT), a, c, d, (g, ()), (b, ()), (x, ()), ())
  | [], i, m, h, hm => by rw [foldK]; simp
  | s :: r, i, m, h, hm => by
    have hs := nm_len (h s (by simp))
    rw [List.length_cons] at hm
    have ih := glab_fold n kr k a c d g b x r (i + 1) (m ++ labT s) (fun t ht => h t (by simp [ht])) (by unfold labT; simp only [List.length_append, List.length_cons, List.length_nil]; omega)
    rw [foldK]
    unfold F_q19z_s2 at ih ⊢
    dsimp only
    rw [show (⟨#[32, 58]⟩ : ByteArray) = B [32, 58] from rfl, show s = B s.data.toList from rfl, cat_X _ _ (by simp only [List.length_append, List.length_cons, List.length_nil]; omega), Option.bind_some, cat_X _ _ (by simp only [List.length_append, List.length_cons, List.length_nil]; omega), Option.bind_some]
    refine ih.trans ?_
    rw [List.flatMap_cons, List.append_assoc]
    rfl
theorem B_itoa (k : Int) : (⟨(Lib.itoa k).toArray⟩ : ByteArray) = B (Lib.itoa k) := rfl
theorem gnod_fold {ρ : Type} (n : Nat) (hn : 200 ≤ n) (kx : ByteArray × (Ev.Graph × Unit) × (Bool × Unit) × Unit → Option ρ) (kr : Unit → Option ρ) (g : Graph) (L : List Ev.Node) (hL : L.length ≤ 40) (hG : ∀ x ∈ L, nodG x) :
    ∀ (r p : List Ev.Node), L = p ++ r → ∀ (fuel : Nat) (b : Bool) (m : List UInt8), r.length < fuel → m.length + 70000000000000 * r.length ≤ 8000000000000000 →
      iterN (fun rc => q19z_s0 n rc kx (fun _ => none)) fuel (B m, L, (L.length : Int), (p.length : Int), (g, ()), (b, ()), ()) = kx (B (m ++ r.flatMap nodX), (g, ()), (b && !(r.any fun x => x.props.any bigP), ()), ())
  | [], p, hp, fuel, b, m, hf, hm => by
    obtain ⟨q, rfl⟩ : ∃ q, fuel = q + 1 := ⟨fuel - 1, by omega⟩
    have e : (p.length : Int) = (L.length : Int) := by rw [hp]; simp
    rw [iterN]
    unfold q19z_s0
    dsimp only
    rw [decide_eq_false (by omega), cond_false]
    simp
  | x :: r, p, hp, fuel, b, m, hf, hm => by
    obtain ⟨q, rfl⟩ : ∃ q, fuel = q + 1 := ⟨fuel - 1, by omega⟩
    have hx : L[p.length]? = some x := by rw [hp]; simp
    have hlt : p.length < L.length := (List.getElem?_eq_some_iff.1 hx).1
    have hg := hG x (by rw [hp]; simp)
    have hxl := nodX_len hg
    have hpl := prpsX_len hg.ps
    have hll := labs_len hg.ls hg.n
    have hil := itoa_len x.id hg.i
    rw [List.length_cons] at hm hf
    have ih := gnod_fold n hn kx kr g L hL hG r (p ++ [x]) (by rw [hp]; simp) q (b && !(x.props.any bigP)) (m ++ nodX x) (by omega) (by rw [List.length_append]; omega)
    rw [iterN]
    rw [show (fun rc => q19z_s0 n rc kx (fun _ => none)) = (fun rc => q19z_s0 n rc kx (fun _ => none)) from rfl]
    unfold q19z_s0 at ih ⊢
    dsimp only
    rw [decide_eq_true (by omega), cond_true, ix_ok hx, Option.bind_some, itoaN_eq hg.i, Option.bind_some]
    dsimp only
    rw [B_itoa, show (⟨#[110, 111, 100, 101, 32]⟩ : ByteArray) = B [110, 111, 100, 101, 32] from rfl, cat_X _ _ (by simp only [List.length_append, List.length_cons, List.length_nil]; omega), Option.bind_some, cat_X _ _ (by simp only [List.length_append, List.length_cons, List.length_nil]; omega), Option.bind_some]
    rw [R_q19z_s2 n _ _ x.labels n _ _ _ _ _ _ _ (by have := hg.n; omega) (by have := hg.n; omega)]
    rw [show Ev.Graph.mk g.nodes g.edges g.next = g from rfl, show Ev.Node.mk x.id x.labels x.props = x from rfl, glab_fold n _ _ L _ _ g b x x.labels 0 _ hg.ls (by have := hg.n; simp; omega)]
    dsimp only
    rw [gend_ok n x.props b hg.ps (by omega), Option.bind_some]
    dsimp only
    rw [cat_X _ _ (by simp only [List.length_append, List.length_cons, List.length_nil]; omega), Option.bind_some, wrap64 (by omega) (by omega)]
    rw [List.length_append, List.length_singleton, Int.natCast_add] at ih
    have e1 : m ++ ([110, 111, 100, 101, 32] ++ Lib.itoa x.id) ++ x.labels.flatMap labT ++ prpsX x.props = m ++ nodX x := by simp [nodX, List.append_assoc]
    rw [e1]
    refine ih.trans ?_
    rw [List.flatMap_cons, List.any_cons, Bool.not_or, Bool.and_assoc, List.append_assoc]
theorem gedg_fold {ρ : Type} (n : Nat) (hn : 200 ≤ n) (kr : Unit → Option ρ) (k : ByteArray × (Bool × Unit) × Unit → Option ρ) :
    ∀ (l : List Edg) (i : Int) (b : Bool) (m : List UInt8), (∀ x ∈ l, edgG x) → m.length + 70000000000000 * l.length ≤ 80000000000000000 →
      foldK (F_q19z_s4 n kr) k i l (B m, (b, ()), ()) = k (B (m ++ l.flatMap edgX), (b && !(l.any fun x => x.props.any bigP), ()), ())
  | [], i, b, m, h, hm => by rw [foldK]; simp
  | x :: r, i, b, m, h, hm => by
    have hg := h x (by simp)
    have hxl := edgX_len hg
    have hpl := prpsX_len hg.ps
    have h2 := nm_len hg.t
    have h3 := itoa_len x.id hg.i
    have h4 := itoa_len x.src hg.s
    have h5 := itoa_len x.dst hg.d
    rw [List.length_cons] at hm
    have ih := gedg_fold n hn kr k r (i + 1) (b && !(x.props.any bigP)) (m ++ edgX x) (fun y hy => h y (by simp [hy])) (by rw [List.length_append]; omega)
    rw [foldK]
    unfold F_q19z_s4 at ih ⊢
    dsimp only
    rw [itoaN_eq hg.i, Option.bind_some]
    dsimp only
    rw [itoaN_eq hg.s, itoaN_eq hg.d, B_itoa, B_itoa, B_itoa, show (⟨#[101, 100, 103, 101, 32]⟩ : ByteArray) = B [101, 100, 103, 101, 32] from rfl, show (⟨#[32]⟩ : ByteArray) = B [32] from rfl, show (⟨#[32, 58]⟩ : ByteArray) = B [32, 58] from rfl, show x.type = B x.type.data.toList from rfl]
    rw [cat_X _ _ (by simp only [List.length_append, List.length_cons, List.length_nil]; omega), Option.bind_some, cat_X _ _ (by simp only [List.length_append, List.length_cons, List.length_nil]; omega), Option.bind_some, Option.bind_some]
    dsimp only
    rw [cat_X _ _ (by simp only [List.length_append, List.length_cons, List.length_nil]; omega), Option.bind_some, cat_X _ _ (by simp only [List.length_append, List.length_cons, List.length_nil]; omega), Option.bind_some, Option.bind_some]
    dsimp only
    rw [cat_X _ _ (by simp only [List.length_append, List.length_cons, List.length_nil]; omega), Option.bind_some, cat_X _ _ (by simp only [List.length_append, List.length_cons, List.length_nil]; omega), Option.bind_some, cat_X _ _ (by simp only [List.length_append, List.length_cons, List.length_nil]; omega), Option.bind_some, gend_ok n x.props b hg.ps (by omega), Option.bind_some]
    dsimp only
    rw [cat_X _ _ (by simp only [List.length_append, List.length_cons, List.length_nil]; omega), Option.bind_some, cat_X _ _ (by simp only [List.length_append, List.length_cons, List.length_nil]; omega), Option.bind_some]
    have e1 : m ++ ([101, 100, 103, 101, 32] ++ Lib.itoa x.id ++ [32] ++ Lib.itoa x.src ++ [32] ++ Lib.itoa x.dst ++ [32, 58] ++ x.type.data.toList ++ prpsX x.props) = m ++ edgX x := by simp [edgX, List.append_assoc]
    rw [e1]
    refine ih.trans ?_
    rw [List.flatMap_cons, List.any_cons, Bool.not_or, Bool.and_assoc, List.append_assoc]
theorem graphText_ok (g : Graph) (hg : grG g) (n : Nat) (hn : 200 ≤ n) : q19z n (g, ()) = some (B (grX g), !(bigG g) && decide (((grX g).length : Int) ≤ 40000), ()) := by
  have h1 := itoa_len g.next hg.i
  have hnl := flat_le (e := nodX) (c := 70000000000000) (l := g.nodes) fun x hx => nodX_len (hg.ns x hx)
  have hnn := hg.nn
  have hen := hg.en
  have h4 : 70000000000000 * g.nodes.length ≤ 70000000000000 * 40 := Nat.mul_le_mul_left _ hg.nn
  have h5 : 70000000000000 * g.edges.length ≤ 70000000000000 * 60 := Nat.mul_le_mul_left _ hg.en
  unfold q19z
  dsimp only
  rw [itoaN_eq hg.i, Option.bind_some]
  dsimp only
  rw [B_itoa, show (⟨#[110, 101, 120, 116, 32]⟩ : ByteArray) = B [110, 101, 120, 116, 32] from rfl, show (⟨#[10]⟩ : ByteArray) = B [10] from rfl, cat_X _ _ (by simp only [List.length_append, List.length_cons, List.length_nil]; omega), Option.bind_some, cat_X _ _ (by simp only [List.length_append, List.length_cons, List.length_nil]; omega), Option.bind_some]
  rw [show Ev.Graph.mk g.nodes g.edges g.next = g from rfl]
  have hN := gnod_fold n hn (fun (v39, o40, o41, _) => iterN (fun rc64 => q19z_s4 n rc64 (fun (v62, o63, _) => some (v62, o63.1 && (decide (((v62.size : Int) : Int) ≤ 40000)), ())) (fun (_) => none)) (n) (v39, o40.1.edges, (o40.1.edges.length : Int), 0, (o41.1, ()), ())) (fun _ => none) g g.nodes hnn hg.ns g.nodes [] rfl n true ([110, 101, 120, 116, 32] ++ Lib.itoa g.next ++ [10]) (by omega) (by simp only [List.length_append, List.length_cons, List.length_nil]; omega)
  refine hN.trans ?_
  dsimp only
  rw [R_q19z_s4 n _ _ g.edges n _ _ (by omega) (by omega), gedg_fold n hn _ _ g.edges 0 _ _ hg.es (by simp at hnl ⊢; omega)]
  dsimp only
  have e1 : ([110, 101, 120, 116, 32] ++ Lib.itoa g.next ++ [10]) ++ g.nodes.flatMap nodX ++ g.edges.flatMap edgX = grX g := rfl
  rw [e1, B_size, Bool.true_and]
  have e2 : (!(g.nodes.any fun x => x.props.any bigP) && !(g.edges.any fun x => x.props.any bigP)) = !(bigG g) := by
    unfold bigG
    rw [Bool.not_or]
  rw [e2]
/-! ## where nothing is too long, it is the program's -/
theorem prpX_eq {l : List Prp} (h : l.any bigP = false) : l.flatMap prpX = l.flatMap prpT := by
  induction l with
  | nil => rfl
  | cons x r ih =>
    rw [List.any_cons, Bool.or_eq_false_iff] at h
    rw [List.flatMap_cons, List.flatMap_cons, ih h.2]
    congr 1
    unfold prpX prpT
    rw [h.1, cond_false]
theorem grX_eq {g : Graph} (h : bigG g = false) : grX g = grT g := by
  obtain ⟨h1, h2⟩ := bigG_not h
  unfold grX grT
  congr 1
  · congr 1
    refine flatMap_eq' fun x hx => ?_
    unfold nodX nodT prpsX prpsT
    rw [prpX_eq (h1 x hx)]
  · refine flatMap_eq' fun x hx => ?_
    unfold edgX edgT prpsX prpsT
    rw [prpX_eq (h2 x hx)]
theorem PortPrint_ok (g : Graph) (hw : gOk g) (n : Nat) (hn : gSz g + 100000 ≤ n) : q18z n (g, ()) = some (true, ()) := by
  obtain ⟨m, rfl⟩ : ∃ m, n = m + 80 := ⟨n - 80, by omega⟩
  have hs0 : ∀ b : ByteArray, seq b b = true := fun b => by unfold seq; simp
  unfold q18z
  dsimp only
  rw [Graph.eta, print_ok g hw _ (by omega), Option.bind_some]
  dsimp only
  rw [rgcheck_ok g _ (by omega), Option.bind_some]
  dsimp only
  rw [ported_ok, Option.bind_some]
  dsimp only
  rw [Bool.not_true, Bool.false_or]
  unfold portR
  cases hc : chkG g != 0 with
  | true => simp [hs0]
  | false =>
    have hc0 : chkG g = 0 := by simpa using hc
    have hg := grG_of hw hc0
    simp only [cond_false]
    rw [graphText_ok g hg _ (by omega), Option.bind_some]
    dsimp only
    cases hb : bigG g with
    | true => simp [hs0]
    | false =>
      rw [grX_eq hb]
      simp only [cond_false, Bool.not_false, Bool.true_and]
      by_cases hl : ((grT g).length : Int) > 40000
      · rw [decide_eq_true hl, decide_eq_false (by omega)]
        simp [hs0]
      · rw [decide_eq_false hl, decide_eq_true (by omega)]
        simp [hs0, B]
end Pure

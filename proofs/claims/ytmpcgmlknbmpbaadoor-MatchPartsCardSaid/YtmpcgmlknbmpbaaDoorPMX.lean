import Derived.Test.YtmpcgmlknbmpbaaDoorPTL
import Derived.Test.YtmpcgmlknbmpbaaDoorPRX
import Derived.Test.YtmpcgmlknbmpbaaDoorEvSortL
namespace Pure
open Esp Ev Go
set_option linter.unusedSimpArgs false
set_option linter.unusedVariables false
theorem b0b (q : Query) : Ev.Query.mk q.dots q.arrows q.wher q.items q.dist = q := rfl
theorem b0d (g : Graph) : Ev.Graph.mk g.nodes g.edges g.next = g := rfl
theorem g0j (a : Ev.Arrow) : Ev.Arrow.mk a.name a.type a.back a.many = a := rfl
theorem e0s (x : Ev.Node) : Ev.Node.mk x.id x.labels x.props = x := rfl
def dotB (d : Ev.Dot) (x : Ev.Node) : Bool := seq d.label ⟨#[]⟩ || hasL x.labels d.label
theorem dot_ok (q : Query) (g : Graph) (R : List (List (Ev.Pair × Bool))) (n k : Nat) (d : Ev.Dot) (x : Ev.Node) (hd : q.dots[k]? = some d) (hl : x.labels.length ≤ 100) (hn : 200 ≤ n) :
  q19z n ((k : Int), x, (q, g, R, ()), ()) = some (dotB d x, (q, g, R, ()), ()) := by
 unfold q19z dotB
 dsimp only
 rw [ix_ok hd, Option.bind_some]
 cases h : seq d.label ⟨#[]⟩ with
 | true => rfl
 | false => rw [cond_false, r0k _ _ n hl hn]; rfl
def fitL : List Ev.Dot → List Int → ByteArray → Int → Bool
 | d :: r, y :: s, nm, x => (seq d.name ⟨#[]⟩ || (!seq d.name nm || (y == x))) && fitL r s nm x
 | _, _, _, _ => true
theorem t0w {ρ : Type} (n : Nat) (q : Query) (g : Graph) (R : List (List (Ev.Pair × Bool)))
  (kx : (Ev.Query × Ev.Graph × (List (List (Ev.Pair × Bool))) × Unit) × (List Int) × Unit → Option ρ) (kr : Bool × (Ev.Query × Ev.Graph × (List (List (Ev.Pair × Bool))) × Unit) × (List Int) × Unit → Option ρ)
  (k : Nat) (hk : k ≤ 1000) (d : Ev.Dot) (hd : q.dots[k]? = some d) (f : List Int) (x : Int) (hx : f[k]? = some x) :
  ∀ (r p : List Ev.Dot) (s t : List Int), q.dots.take k = p ++ r → f.take k = t ++ s → p.length = t.length → r.length = s.length → ∀ fuel, r.length < fuel →
    iterN (fun rc => j0h n rc kx kr) fuel ((k : Int), (k : Int), (p.length : Int), (q, g, R, ()), f, ()) = bif fitL r s d.name x then kx ((q, g, R, ()), f, ()) else kr (false, (q, g, R, ()), f, ())
 | [], p, s, t, h1, h2, h3, h4, fuel, hf => by
  obtain ⟨m, rfl⟩ : ∃ m, fuel = m + 1 := ⟨fuel - 1, by omega⟩
  have hkl := (List.getElem?_eq_some_iff.1 hd).1
  have e : p.length = k := by
   have := congrArg List.length h1
   rw [List.length_take, List.append_nil] at this
   omega
  rw [iterN]
  unfold j0h
  dsimp only
  rw [decide_eq_false (by omega), cond_false]
  rfl
 | d0 :: r, p, s, t, h1, h2, h3, h4, fuel, hf => by
  obtain ⟨m, rfl⟩ : ∃ m, fuel = m + 1 := ⟨fuel - 1, by omega⟩
  have hkl := (List.getElem?_eq_some_iff.1 hd).1
  obtain ⟨y, s, rfl⟩ : ∃ y s', s = y :: s' := by
   cases s with
   | nil => simp at h4
   | cons y s' => exact ⟨y, s', rfl⟩
  have hlt : p.length < k := by
   have := congrArg List.length h1
   rw [List.length_take, List.length_append, List.length_cons] at this
   omega
  have e1 : q.dots[p.length]? = some d0 := by
   rw [← List.getElem?_take_of_lt hlt, h1]
   simp
  have e2 : f[p.length]? = some y := by
   rw [← List.getElem?_take_of_lt hlt, h2, h3]
   simp
  have ih := t0w n q g R kx kr k hk d hd f x hx r (p ++ [d0]) s (t ++ [y]) (by rw [h1]; simp) (by rw [h2]; simp) (by simp [h3]) (by simpa using h4) m (by simp at hf; omega)
  rw [List.length_append, List.length_singleton, Int.natCast_add] at ih
  rw [iterN]
  unfold j0h
  dsimp only
  rw [decide_eq_true (by omega), cond_true, ix_ok e1, ix_ok hd, ix_ok hx, ix_ok e2]
  simp only [Option.bind_some, Int.toNat_natCast, e2, hx, b0b, b0d]
  rw [wrap64 (by omega) (by omega)]
  unfold fitL
  cases hn0 : seq d0.name ⟨#[]⟩ with
  | true => simp only [Bool.not_true, cond_false, Bool.true_or, Bool.true_and]; exact ih
  | false =>
   cases hn1 : seq d0.name d.name with
   | false => simp only [Bool.not_false, cond_true, cond_false, Bool.true_or, Bool.false_or, Bool.true_and]; exact ih
   | true =>
    cases hyx : (y == x) with
    | true =>
     rw [show ((y : Int) != x) = false by simpa [bne] using hyx]
     simp only [Bool.not_false, Bool.not_true, cond_true, cond_false, Bool.true_or, Bool.false_or, Bool.or_true, Bool.true_and]; exact ih
    | false =>
     rw [show ((y : Int) != x) = true by simp [bne, hyx]]
     rfl
theorem f0e (n : Nat) (q : Query) (g : Graph) (R : List (List (Ev.Pair × Bool))) (k : Nat) (hk : k ≤ 1000) (d : Ev.Dot) (hd : q.dots[k]? = some d) (f : List Int) (x : Int) (hx : f[k]? = some x) (hn : 1100 ≤ n) :
  q17z n ((k : Int), (q, g, R, ()), f, ()) = some (fitL (q.dots.take k) (f.take k) d.name x, (q, g, R, ()), f, ()) := by
 have hkl := (List.getElem?_eq_some_iff.1 hd).1
 have hfl := (List.getElem?_eq_some_iff.1 hx).1
 unfold q17z
 dsimp only
 have := t0w n q g R (fun (o19, o20, _) => some (true, ((Ev.Query.mk o19.1.dots o19.1.arrows o19.1.wher o19.1.items o19.1.dist), (Ev.Graph.mk o19.2.1.nodes o19.2.1.edges o19.2.1.next), o19.2.2.1, ()), o20, ())) (fun (v21, o22, o23, _) => some (v21, ((Ev.Query.mk o22.1.dots o22.1.arrows o22.1.wher o22.1.items o22.1.dist), (Ev.Graph.mk o22.2.1.nodes o22.2.1.edges o22.2.1.next), o22.2.2.1, ()), o23, ())) k hk d hd f x hx (q.dots.take k) [] (f.take k) [] rfl rfl rfl (by simp; omega) n (by simp; omega)
 refine (Eq.trans ?_ this).trans ?_
 ·rfl
 ·cases fitL (q.dots.take k) (f.take k) d.name x <;> rfl
def push (s : List (List Int) × Bool) (w : List Int) : List (List Int) × Bool := if s.1.length = 2000 then (s.1, true) else (s.1 ++ [w], s.2)
def pushs (s : List (List Int) × Bool) (W : List (List Int)) : List (List Int) × Bool := W.foldl push s
theorem v0w (s : List (List Int) × Bool) (V W : List (List Int)) : pushs s (V ++ W) = pushs (pushs s V) W := List.foldl_append
theorem e1r {s : List (List Int) × Bool} (h : s.1.length ≤ 2000) (w : List Int) : (push s w).1.length ≤ 2000 := by
 unfold push
 split
 ·exact h
 ·simp; omega
theorem d0z : ∀ (W : List (List Int)) {s : List (List Int) × Bool}, s.1.length ≤ 2000 → (pushs s W).1.length ≤ 2000
 | [], s, h => h
 | w :: r, s, h => d0z r (e1r h w)
theorem z0u : ∀ (W : List (List Int)) (s : List (List Int) × Bool), s.1.length ≤ 2000 → (s.1.length + W.length ≤ 2000 → pushs s W = (s.1 ++ W, s.2)) ∧ (2000 < s.1.length + W.length → (pushs s W).2 = true)
 | [], s, h => ⟨fun _ => by simp [pushs], fun h2 => by simp at h2; omega⟩
 | w :: r, s, h => by
  have ih := z0u r (push s w) (e1r h w)
  have hst : ∀ (W : List (List Int)) (s : List (List Int) × Bool), s.2 = true → (pushs s W).2 = true := by
   intro W
   induction W with
   | nil => exact fun s h => h
   | cons w r ih => exact fun s h => ih _ (by unfold push; split; rfl; exact h)
  rw [List.length_cons]
  constructor
  ·intro h2
   have e : push s w = (s.1 ++ [w], s.2) := by unfold push; rw [if_neg (by omega)]
   have := ih.1 (by rw [e]; simp; omega)
   show pushs (push s w) r = _
   rw [this, e]
   simp
  ·intro h2
   show (pushs (push s w) r).2 = true
   by_cases h3 : s.1.length = 2000
   ·exact hst r _ (by unfold push; rw [if_pos h3])
   ·have e : push s w = (s.1 ++ [w], s.2) := by unfold push; rw [if_neg h3]
    exact ih.2 (by rw [e]; simp; omega)
end Pure
namespace Pure
open Esp Ev Go
set_option linter.unusedSimpArgs false
set_option linter.unusedVariables false
theorem h0o {α : Type} (m : List α) (j : Nat) (y : α) (h : j < m.length) : (m.set j y).take (j + 1) = m.take j ++ [y] := by
 rw [List.take_add_one, List.take_set_of_le (Nat.le_refl j)]
 simp [h]
structure Agr (N k : Nat) (ds es f : List Int) : Prop where
 len : f.length = 2 * N - 1
 d : f.take k = ds
 e : (f.drop N).take (k - 1) = es
structure Mid (N k : Nat) (ds es f : List Int) : Prop where
 len : f.length = 2 * N - 1
 d : f.take (k + 1) = ds
 e : (f.drop N).take (k - 1) = es
theorem Agr.dot {N k : Nat} {ds es f : List Int} (h : Agr N k ds es f) (hk : k < N) (x : Int) : Mid N k (ds ++ [x]) es (f.set k x) := by
 refine ⟨by simp [h.len], ?_, ?_⟩
 ·rw [h0o _ _ _ (by rw [h.len]; omega), h.d]
 ·rw [List.drop_set, if_pos hk]
  exact h.e
theorem Mid.back {N k : Nat} {ds es f : List Int} {x : Int} (h : Mid N k (ds ++ [x]) es f) (hk : k < N) : Agr N k ds es f := by
 refine ⟨h.len, ?_, h.e⟩
 have hd := h.d
 have hl : (ds ++ [x]).length = k + 1 := by rw [← hd, List.length_take, h.len]; omega
 have h2 : f.take k = (f.take (k + 1)).take k := by rw [List.take_take, Nat.min_eq_left (by omega)]
 rw [h2, hd]
 rw [List.length_append, List.length_singleton] at hl
 rw [show k = ds.length by omega]
 simp
theorem Mid.edge {N k : Nat} {ds es f : List Int} (h : Mid N k ds es f) (h1 : 1 ≤ k) (hk : k < N) (y : Int) : Agr N (k + 1) ds (es ++ [y]) (f.set (N + k - 1) y) := by
 refine ⟨by simp [h.len], ?_, ?_⟩
 ·rw [List.take_set_of_le (by omega), h.d]
 ·rw [List.drop_set, if_neg (by omega), show N + k - 1 - N = k - 1 by omega, show k + 1 - 1 = k - 1 + 1 by omega, h0o _ _ _ (by rw [List.length_drop, h.len]; omega), h.e]
theorem Agr.mid {N k : Nat} {ds es f : List Int} {y : Int} (h : Agr N (k + 1) ds (es ++ [y]) f) (h1 : 1 ≤ k) (hk : k < N) : Mid N k ds es f := by
 refine ⟨h.len, h.d, ?_⟩
 have he := h.e
 have hl : (es ++ [y]).length = k := by rw [← he, List.length_take, List.length_drop, h.len]; omega
 have h2 : (f.drop N).take (k - 1) = ((f.drop N).take (k + 1 - 1)).take (k - 1) := by rw [List.take_take, Nat.min_eq_left (by omega)]
 rw [h2, he]
 rw [List.length_append, List.length_singleton] at hl
 rw [show k - 1 = es.length by omega]
 simp
abbrev WalkT := Int × (Ev.Query × Ev.Graph × (List (List (Ev.Pair × Bool))) × Unit) × (List Int) × Unit × (List (List Int)) × (Bool × Unit) × Unit → Option ((Ev.Query × Ev.Graph × (List (List (Ev.Pair × Bool))) × Unit) × (List Int) × Unit × (List (List Int)) × (Bool × Unit) × Unit)
def WOk (q : Query) (g : Graph) (R : List (List (Ev.Pair × Bool))) (self : WalkT) (k : Nat) (ds es : List Int) (W : List (List Int)) : Prop :=
 ∀ (f : List Int) (s : List (List Int) × Bool), Agr q.dots.length k ds es f → s.1.length ≤ 2000 → ∃ f', Agr q.dots.length k ds es f' ∧
   self ((k : Int), (q, g, R, ()), f, (), s.1, (s.2, ()), ()) = some ((q, g, R, ()), f', (), (pushs s W).1, ((pushs s W).2, ()), ())
def okE (a : Ev.Arrow) (fr tg : Int) (y : Ev.Edg) : Bool := (((y.src : Int) == fr) && ((y.dst : Int) == tg)) && ((seq a.type ⟨#[]⟩) || (seq y.type a.type))
theorem i0a {ρ : Type} (q : Query) (g : Graph) (R : List (List (Ev.Pair × Bool))) (self : WalkT) (n : Nat)
  (k : Nat) (h1 : 1 ≤ k) (hk : k < q.dots.length) (hN : q.dots.length ≤ 1000) (a : Ev.Arrow) (fr tg : Int) (v83 : List Ev.Node) (v84 v85 : Int) (ds es : List Int) (Wn : Int → List (List Int)) :
  ∀ (l : List Ev.Edg) (i : Int), (∀ y ∈ l, okE a fr tg y = true → WOk q g R self (k + 1) ds (es ++ [y.id]) (Wn y.id)) → ∀ (f : List Int) (s : List (List Int) × Bool), Mid q.dots.length k ds es f → s.1.length ≤ 2000 →
    ∃ f', Mid q.dots.length k ds es f' ∧ ∀ (kr : Unit → Option ρ) (K : (Int × Int × Int × Int × (List Ev.Node) × Int × Int × (Ev.Arrow × Unit) × (Ev.Query × Ev.Graph × (List (List (Ev.Pair × Bool))) × Unit) × Unit × (List (List Int)) × (Bool × Unit) × (List Int) × Unit) → Option ρ), foldK (k0s self n kr) K i l ((k : Int), (q.dots.length : Int), fr, tg, v83, v84, v85, (a, ()), (q, g, R, ()), (), s.1, (s.2, ()), f, ())
      = K ((k : Int), (q.dots.length : Int), fr, tg, v83, v84, v85, (a, ()), (q, g, R, ()), (), (pushs s (((l.filter (okE a fr tg)).map Ev.Edg.id).flatMap Wn)).1, ((pushs s (((l.filter (okE a fr tg)).map Ev.Edg.id).flatMap Wn)).2, ()), f', ())
 | [], i, hw, f, s, hm, hs => ⟨f, hm, fun kr K => by rw [foldK]; rfl⟩
 | y :: r, i, hw, f, s, hm, hs => by
  by_cases hy : okE a fr tg y = true
  ·have hL : f[q.dots.length + k - 1]? ≠ none := by
    rw [Ne, List.getElem?_eq_none_iff, hm.len]
    omega
   obtain ⟨z, hz⟩ := Option.ne_none_iff_exists'.1 hL
   obtain ⟨f1, a1, e1⟩ := hw y (by simp) hy (f.set (q.dots.length + k - 1) y.id) s (hm.edge h1 hk y.id) hs
   obtain ⟨f2, a2, e2⟩ := i0a (ρ := ρ) q g R self n k h1 hk hN a fr tg v83 v84 v85 ds es Wn r (i + 1) (fun x hx => hw x (by simp [hx])) f1 (pushs s (Wn y.id)) (a1.mid h1 hk) (d0z _ hs)
   refine ⟨f2, a2, fun kr K => ?_⟩
   have e2 := e2 kr K
   rw [List.filter_cons_of_pos hy, List.map_cons, List.flatMap_cons, v0w]
   rw [foldK]
   unfold k0s at e2 ⊢
   unfold okE at hy
   dsimp only
   rw [hy, cond_true, wrap64 (x := (q.dots.length : Int) + k) (by omega) (by omega), wrap64 (x := (q.dots.length : Int) + k - 1) (by omega) (by omega), show ((q.dots.length : Int) + k - 1) = ((q.dots.length + k - 1 : Nat) : Int) by omega, ix_ok hz, Int.toNat_natCast, hz]
   simp only [Option.bind_some, b0b, b0d, g0j]
   rw [wrap64 (by omega) (by omega), show ((k : Int) + 1) = ((k + 1 : Nat) : Int) by omega, e1, Option.bind_some]
   exact e2
  ·have hy' : okE a fr tg y = false := by simpa using hy
   obtain ⟨f2, a2, e2⟩ := i0a (ρ := ρ) q g R self n k h1 hk hN a fr tg v83 v84 v85 ds es Wn r (i + 1) (fun x hx => hw x (by simp [hx])) f s hm hs
   refine ⟨f2, a2, fun kr K => ?_⟩
   have e2 := e2 kr K
   rw [List.filter_cons_of_neg hy]
   rw [foldK]
   unfold k0s at e2 ⊢
   unfold okE at hy'
   dsimp only
   rw [hy', cond_false]
   exact e2
def stepE (g : Graph) (a : Ev.Arrow) (ks : List Ev.Pair) (fr tg : Int) : List Int :=
 bif a.many then (bif decide (Ev.Pair.mk fr tg ∈ ks) then [0] else []) else ((g.edges.filter (okE a fr tg)).map Ev.Edg.id)
def stepA (g : Graph) (a : Ev.Arrow) (ks : List Ev.Pair) (x y : Int) : List Int := bif a.back then stepE g a ks y x else stepE g a ks x y
def BOk (q : Query) (g : Graph) (R : List (List (Ev.Pair × Bool))) (self : WalkT) (k : Nat) (ds es : List Int) (x : Int) (W : List (List Int)) : Prop :=
 (k = 0 ∧ WOk q g R self 1 (ds ++ [x]) es W) ∨
 (1 ≤ k ∧ ∃ a ks last Wn, q.arrows[k - 1]? = some a ∧ (a.many = true → R[k - 1]? = some (tr ks)) ∧ ds[k - 1]? = some last ∧ W = (stepA g a ks last x).flatMap Wn ∧ ∀ e ∈ stepA g a ks last x, WOk q g R self (k + 1) (ds ++ [x]) (es ++ [e]) (Wn e))
end Pure
namespace Pure
open Esp Ev Go
set_option linter.unusedSimpArgs false
set_option linter.unusedVariables false
theorem w0x {ρ : Type} (q : Query) (g : Graph) (R : List (List (Ev.Pair × Bool))) (self : WalkT) (n : Nat) (hn : 1100 ≤ n)
  (kx : (Ev.Query × Ev.Graph × (List (List (Ev.Pair × Bool))) × Unit) × Unit × (List (List Int)) × (Bool × Unit) × (List Int) × Unit → Option ρ) (kr : Unit → Option ρ)
  (k : Nat) (hk : k < q.dots.length) (hN : q.dots.length ≤ 1000) (d : Ev.Dot) (hd : q.dots[k]? = some d) (ds es : List Int) (hds : ds.length = k)
  (h40 : g.nodes.length ≤ 40) (h60 : g.edges.length ≤ 60) (hlab : ∀ x ∈ g.nodes, x.labels.length ≤ 100) (Wx : Ev.Node → List (List Int))
  (hb : ∀ x ∈ g.nodes, (dotB d x && fitL (q.dots.take k) ds d.name x.id) = true → BOk q g R self k ds es x.id (Wx x)) :
  ∀ (r p : List Ev.Node), g.nodes = p ++ r → ∀ (f : List Int) (s : List (List Int) × Bool) (fuel : Nat), Agr q.dots.length k ds es f → s.1.length ≤ 2000 → r.length < fuel →
    ∃ f', Agr q.dots.length k ds es f' ∧ iterN (fun rc => q6z_s0 self n rc kx kr) fuel ((k : Int), (q.dots.length : Int), g.nodes, (g.nodes.length : Int), (p.length : Int), (q, g, R, ()), (), s.1, (s.2, ()), f, ())
      = kx ((q, g, R, ()), (), (pushs s (r.flatMap fun x => bif dotB d x && fitL (q.dots.take k) ds d.name x.id then Wx x else [])).1, ((pushs s (r.flatMap fun x => bif dotB d x && fitL (q.dots.take k) ds d.name x.id then Wx x else [])).2, ()), f', ())
 | [], p, hp, f, s, fuel, ha, hs, hf => by
  obtain ⟨m, rfl⟩ : ∃ m, fuel = m + 1 := ⟨fuel - 1, by omega⟩
  refine ⟨f, ha, ?_⟩
  rw [iterN]
  unfold q6z_s0
  dsimp only
  rw [decide_eq_false (by rw [hp]; simp), cond_false]
  rfl
 | x :: r, p, hp, f, s, fuel, ha, hs, hf => by
  obtain ⟨m, rfl⟩ : ∃ m, fuel = m + 1 := ⟨fuel - 1, by omega⟩
  have hxm : x ∈ g.nodes := by rw [hp]; simp
  have hx : g.nodes[p.length]? = some x := by rw [hp]; simp
  have hlt : p.length < g.nodes.length := (List.getElem?_eq_some_iff.1 hx).1
  have hfl : k < f.length := by rw [ha.len]; omega
  obtain ⟨z, hz⟩ : ∃ z, f[k]? = some z := ⟨f[k], by simp [hfl]⟩
  have hmid := ha.dot hk x.id
  have hf1 : (f.set k x.id)[k]? = some x.id := by simp [hfl]
  have htk : (f.set k x.id).take k = ds := by rw [List.take_set_of_le (Nat.le_refl k), ha.d]
  have IH := fun f s => w0x q g R self n hn kx kr k hk hN d hd ds es hds h40 h60 hlab Wx hb r (p ++ [x]) (by rw [hp]; simp) f s m
  rw [List.length_append, List.length_singleton, Int.natCast_add] at IH
  have hrm : r.length < m := by simp at hf; omega
  have hw : IntKind.wrap .i64 ((p.length : Int) + 1) = (p.length : Int) + 1 := wrap64 (by omega) (by omega)
  rw [List.flatMap_cons, iterN]
  generalize iterN (fun rc => q6z_s0 self n rc kx kr) m = I at IH ⊢
  cases hdx : dotB d x with
  | false =>
   obtain ⟨f2, a2, e2⟩ := IH f s ha hs hrm
   refine ⟨f2, a2, ?_⟩
   unfold q6z_s0
   dsimp only
   rw [decide_eq_true (by omega), cond_true, ix_ok hx, Option.bind_some]
   simp only [b0b, b0d, e0s]
   rw [dot_ok q g R n k d x hd (hlab x hxm) (by omega), Option.bind_some]
   dsimp only
   rw [hdx, Bool.not_false, cond_true, hw, Bool.false_and, cond_false, List.nil_append]
   exact e2
  | true =>
   cases hfx : fitL (q.dots.take k) ds d.name x.id with
   | false =>
    obtain ⟨f2, a2, e2⟩ := IH (f.set k x.id) s (hmid.back hk) hs hrm
    refine ⟨f2, a2, ?_⟩
    unfold q6z_s0
    dsimp only
    rw [decide_eq_true (by omega), cond_true, ix_ok hx, Option.bind_some]
    simp only [b0b, b0d, e0s]
    rw [dot_ok q g R n k d x hd (hlab x hxm) (by omega), Option.bind_some]
    dsimp only
    rw [hdx, Bool.not_true, cond_false, ix_ok hz, Option.bind_some, Int.toNat_natCast, hz, Option.bind_some, f0e n q g R k (by omega) d hd _ x.id hf1 hn, Option.bind_some, htk, hfx]
    dsimp only
    rw [Bool.not_false, cond_true, hw, Bool.true_and, cond_false, List.nil_append]
    exact e2
   | true =>
    rw [Bool.true_and, cond_true, v0w]
    have hB := hb x hxm (by rw [hdx, hfx]; rfl)
    rcases hB with ⟨hk0, hW⟩ | ⟨hk1, a, ks, last, Wn, ea, eR, el, eW, hW⟩
    ·subst hk0
     obtain ⟨f1, a1, e1⟩ := hW (f.set 0 x.id) s ⟨hmid.len, hmid.d, hmid.e⟩ hs
     have a1' : Mid q.dots.length 0 (ds ++ [x.id]) es f1 := ⟨a1.len, a1.d, a1.e⟩
     obtain ⟨f2, a2, e2⟩ := IH f1 (pushs s (Wx x)) (a1'.back hk) (d0z _ hs) hrm
     refine ⟨f2, a2, ?_⟩
     unfold q6z_s0
     dsimp only
     rw [decide_eq_true (by omega), cond_true, ix_ok hx, Option.bind_some]
     simp only [b0b, b0d, e0s]
     rw [dot_ok q g R n 0 d x hd (hlab x hxm) (by omega), Option.bind_some]
     dsimp only
     rw [hdx, Bool.not_true, cond_false, ix_ok hz, Option.bind_some, Int.toNat_natCast, hz, Option.bind_some, f0e n q g R 0 (by omega) d hd _ x.id hf1 hn, Option.bind_some, htk, hfx]
     rw [Bool.not_true, cond_false, show (((0 : Nat) : Int) == 0) = true from rfl, cond_true]
     rw [show (((1 : Nat) : Int)) = 1 from rfl] at e1
     rw [e1, Option.bind_some]
     rw [hw]
     exact e2
    ·have hlast : (f.set k x.id)[k - 1]? = some last := by
      have := congrArg (fun l : List Int => l[k - 1]?) hmid.d
      replace this : ((f.set k x.id).take (k + 1))[k - 1]? = (ds ++ [x.id])[k - 1]? := this
      rw [List.getElem?_take_of_lt (by omega), List.getElem?_append_left (by omega), el] at this
      exact this
     have hwk : IntKind.wrap .i64 ((k : Int) - 1) = ((k - 1 : Nat) : Int) := by rw [wrap64 (by omega) (by omega)]; omega
     have hwE : IntKind.wrap .i64 (IntKind.wrap .i64 ((q.dots.length : Int) + k) - 1) = ((q.dots.length + k - 1 : Nat) : Int) := by rw [wrap64 (x := (q.dots.length : Int) + k) (by omega) (by omega), wrap64 (by omega) (by omega)]; omega
     have hw1 : IntKind.wrap .i64 ((k : Int) + 1) = ((k + 1 : Nat) : Int) := by rw [wrap64 (by omega) (by omega)]; omega
     have hk0 : ((k : Int) == 0) = false := by rw [beq_eq_false_iff_ne]; omega
     obtain ⟨zE, hzE⟩ : ∃ z, (f.set k x.id)[q.dots.length + k - 1]? = some z := by
      have : q.dots.length + k - 1 < (f.set k x.id).length := by rw [hmid.len]; omega
      exact ⟨_, List.getElem?_eq_getElem this⟩
     unfold stepA at eW hW
     cases hbk : a.back <;> cases hmy : a.many <;> rw [hbk] at eW hW <;> simp only [cond_true, cond_false] at eW hW <;> unfold stepE at eW hW <;> rw [hmy] at eW hW <;> simp only [cond_true, cond_false] at eW hW
     ·obtain ⟨f1, a1, e1⟩ := i0a q g R self n (ρ := ρ) k hk1 hk hN a last x.id g.nodes (g.nodes.length : Int) (p.length : Int) (ds ++ [x.id]) es Wn g.edges 0 (fun y hy hok => hW _ (List.mem_map.2 ⟨y, List.mem_filter.2 ⟨hy, hok⟩, rfl⟩)) (f.set k x.id) s hmid hs
      obtain ⟨f2, a2, e2⟩ := IH f1 (pushs s (Wx x)) (a1.back hk) (d0z _ hs) hrm
      refine ⟨f2, a2, ?_⟩
      unfold q6z_s0
      dsimp only
      rw [decide_eq_true (by omega), cond_true, ix_ok hx, Option.bind_some]
      simp only [b0b, b0d, e0s]
      rw [dot_ok q g R n k d x hd (hlab x hxm) (by omega), Option.bind_some]
      dsimp only
      rw [hdx, Bool.not_true, cond_false, ix_ok hz, Option.bind_some, Int.toNat_natCast, hz, Option.bind_some, f0e n q g R k (by omega) d hd _ x.id hf1 hn, Option.bind_some, htk, hfx]
      dsimp only
      rw [Bool.not_true, cond_false, hk0, cond_false, hwk, ix_ok ea, Option.bind_some, ix_ok hlast, Option.bind_some, Int.toNat_natCast, hlast, Option.bind_some]
      simp only [g0j]
      rw [hbk, cond_false, hmy, cond_false]
      rw [h0q self n _ _ g.edges n _ _ _ _ _ _ _ _ _ _ _ _ _ (by omega) (by omega)]
      rw [← eW] at e1
      rw [e1]
      dsimp only
      rw [hw]
      exact e2
     ·by_cases hmem : Ev.Pair.mk last x.id ∈ ks
      ·rw [decide_eq_true hmem] at eW hW
       simp only [cond_true, List.flatMap_cons, List.flatMap_nil, List.append_nil] at eW
       obtain ⟨f1, a1, e1⟩ := hW 0 (by simp) ((f.set k x.id).set (q.dots.length + k - 1) 0) s (hmid.edge hk1 hk 0) hs
       obtain ⟨f2, a2, e2⟩ := IH f1 (pushs s (Wx x)) ((a1.mid hk1 hk).back hk) (d0z _ hs) hrm
       refine ⟨f2, a2, ?_⟩
       unfold q6z_s0
       dsimp only
       rw [decide_eq_true (by omega), cond_true, ix_ok hx, Option.bind_some]
       simp only [b0b, b0d, e0s]
       rw [dot_ok q g R n k d x hd (hlab x hxm) (by omega), Option.bind_some]
       dsimp only
       rw [hdx, Bool.not_true, cond_false, ix_ok hz, Option.bind_some, Int.toNat_natCast, hz, Option.bind_some, f0e n q g R k (by omega) d hd _ x.id hf1 hn, Option.bind_some, htk, hfx]
       dsimp only
       rw [Bool.not_true, cond_false, hk0, cond_false, hwk, ix_ok ea, Option.bind_some, ix_ok hlast, Option.bind_some, Int.toNat_natCast, hlast, Option.bind_some]
       simp only [g0j]
       rw [hbk, cond_false, hmy, cond_true]
       rw [ix_ok (eR hmy), Option.bind_some, get_tr, decide_eq_true hmem, cond_true, hwE, ix_ok hzE, Option.bind_some, Int.toNat_natCast, hzE, Option.bind_some, hw1, e1, Option.bind_some, hw, ← eW]
       exact e2
      ·rw [decide_eq_false hmem] at eW
       simp only [cond_false, List.flatMap_nil] at eW
       obtain ⟨f2, a2, e2⟩ := IH (f.set k x.id) s (hmid.back hk) hs hrm
       refine ⟨f2, a2, ?_⟩
       unfold q6z_s0
       dsimp only
       rw [decide_eq_true (by omega), cond_true, ix_ok hx, Option.bind_some]
       simp only [b0b, b0d, e0s]
       rw [dot_ok q g R n k d x hd (hlab x hxm) (by omega), Option.bind_some]
       dsimp only
       rw [hdx, Bool.not_true, cond_false, ix_ok hz, Option.bind_some, Int.toNat_natCast, hz, Option.bind_some, f0e n q g R k (by omega) d hd _ x.id hf1 hn, Option.bind_some, htk, hfx]
       dsimp only
       rw [Bool.not_true, cond_false, hk0, cond_false, hwk, ix_ok ea, Option.bind_some, ix_ok hlast, Option.bind_some, Int.toNat_natCast, hlast, Option.bind_some]
       simp only [g0j]
       rw [hbk, cond_false, hmy, cond_true]
       rw [ix_ok (eR hmy), Option.bind_some, get_tr, decide_eq_false hmem, cond_false, hw, eW]
       exact e2
     ·obtain ⟨f1, a1, e1⟩ := i0a q g R self n (ρ := ρ) k hk1 hk hN a x.id last g.nodes (g.nodes.length : Int) (p.length : Int) (ds ++ [x.id]) es Wn g.edges 0 (fun y hy hok => hW _ (List.mem_map.2 ⟨y, List.mem_filter.2 ⟨hy, hok⟩, rfl⟩)) (f.set k x.id) s hmid hs
      obtain ⟨f2, a2, e2⟩ := IH f1 (pushs s (Wx x)) (a1.back hk) (d0z _ hs) hrm
      refine ⟨f2, a2, ?_⟩
      unfold q6z_s0
      dsimp only
      rw [decide_eq_true (by omega), cond_true, ix_ok hx, Option.bind_some]
      simp only [b0b, b0d, e0s]
      rw [dot_ok q g R n k d x hd (hlab x hxm) (by omega), Option.bind_some]
      dsimp only
      rw [hdx, Bool.not_true, cond_false, ix_ok hz, Option.bind_some, Int.toNat_natCast, hz, Option.bind_some, f0e n q g R k (by omega) d hd _ x.id hf1 hn, Option.bind_some, htk, hfx]
      dsimp only
      rw [Bool.not_true, cond_false, hk0, cond_false, hwk, ix_ok ea, Option.bind_some, ix_ok hlast, Option.bind_some, Int.toNat_natCast, hlast, Option.bind_some]
      simp only [g0j]
      rw [hbk, cond_true, hmy, cond_false]
      rw [h0q self n _ _ g.edges n _ _ _ _ _ _ _ _ _ _ _ _ _ (by omega) (by omega)]
      rw [← eW] at e1
      rw [e1]
      dsimp only
      rw [hw]
      exact e2
     ·by_cases hmem : Ev.Pair.mk x.id last ∈ ks
      ·rw [decide_eq_true hmem] at eW hW
       simp only [cond_true, List.flatMap_cons, List.flatMap_nil, List.append_nil] at eW
       obtain ⟨f1, a1, e1⟩ := hW 0 (by simp) ((f.set k x.id).set (q.dots.length + k - 1) 0) s (hmid.edge hk1 hk 0) hs
       obtain ⟨f2, a2, e2⟩ := IH f1 (pushs s (Wx x)) ((a1.mid hk1 hk).back hk) (d0z _ hs) hrm
       refine ⟨f2, a2, ?_⟩
       unfold q6z_s0
       dsimp only
       rw [decide_eq_true (by omega), cond_true, ix_ok hx, Option.bind_some]
       simp only [b0b, b0d, e0s]
       rw [dot_ok q g R n k d x hd (hlab x hxm) (by omega), Option.bind_some]
       dsimp only
       rw [hdx, Bool.not_true, cond_false, ix_ok hz, Option.bind_some, Int.toNat_natCast, hz, Option.bind_some, f0e n q g R k (by omega) d hd _ x.id hf1 hn, Option.bind_some, htk, hfx]
       dsimp only
       rw [Bool.not_true, cond_false, hk0, cond_false, hwk, ix_ok ea, Option.bind_some, ix_ok hlast, Option.bind_some, Int.toNat_natCast, hlast, Option.bind_some]
       simp only [g0j]
       rw [hbk, cond_true, hmy, cond_true]
       rw [ix_ok (eR hmy), Option.bind_some, get_tr, decide_eq_true hmem, cond_true, hwE, ix_ok hzE, Option.bind_some, Int.toNat_natCast, hzE, Option.bind_some, hw1, e1, Option.bind_some, hw, ← eW]
       exact e2
      ·rw [decide_eq_false hmem] at eW
       simp only [cond_false, List.flatMap_nil] at eW
       obtain ⟨f2, a2, e2⟩ := IH (f.set k x.id) s (hmid.back hk) hs hrm
       refine ⟨f2, a2, ?_⟩
       unfold q6z_s0
       dsimp only
       rw [decide_eq_true (by omega), cond_true, ix_ok hx, Option.bind_some]
       simp only [b0b, b0d, e0s]
       rw [dot_ok q g R n k d x hd (hlab x hxm) (by omega), Option.bind_some]
       dsimp only
       rw [hdx, Bool.not_true, cond_false, ix_ok hz, Option.bind_some, Int.toNat_natCast, hz, Option.bind_some, f0e n q g R k (by omega) d hd _ x.id hf1 hn, Option.bind_some, htk, hfx]
       dsimp only
       rw [Bool.not_true, cond_false, hk0, cond_false, hwk, ix_ok ea, Option.bind_some, ix_ok hlast, Option.bind_some, Int.toNat_natCast, hlast, Option.bind_some]
       simp only [g0j]
       rw [hbk, cond_true, hmy, cond_true]
       rw [ix_ok (eR hmy), Option.bind_some, get_tr, decide_eq_false hmem, cond_false, hw, eW]
       exact e2
end Pure
namespace Pure
open Esp Ev Go
set_option linter.unusedSimpArgs false
set_option linter.unusedVariables false
theorem p1u (f : List Int) (s : List (List Int) × Bool) (hs : s.1.length ≤ 2000) (hf : f.length ≤ 1000) : q41z (f, (), s.1, (s.2, ()), ()) = some (f, (), (push s f).1, ((push s f).2, ()), ()) := by
 unfold q41z push
 dsimp only
 by_cases h : s.1.length = 2000
 ·rw [if_pos h, show ((s.1.length : Int) == 2000) = true by rw [h]; rfl, cond_true]
 ·rw [if_neg h, show ((s.1.length : Int) == 2000) = false by rw [beq_eq_false_iff_ne]; omega, cond_false, s0z f hf, Option.bind_some]
  dsimp only
  rw [ck_ok]
  unfold room
  rw [Bool.and_eq_true]
  constructor <;> exact Nat.ble_eq_true_of_le (by simp; omega)
def AOk (g : Graph) (f : List Int) : Prop := ∀ x ∈ f, x ∈ g.nodes.map Ev.Node.id ∨ x ∈ g.edges.map Ev.Edg.id ∨ x = 0
theorem AOk.app {g : Graph} {a b : List Int} (ha : AOk g a) (hb : AOk g b) : AOk g (a ++ b) := by
 intro x hx
 rcases List.mem_append.1 hx with h | h
 ·exact ha x h
 ·exact hb x h
theorem AOk.one {g : Graph} {y : Int} (h : y ∈ g.nodes.map Ev.Node.id ∨ y ∈ g.edges.map Ev.Edg.id ∨ y = 0) : AOk g [y] := by
 intro x hx
 rw [List.mem_singleton] at hx
 rw [hx]
 exact h
def PassOk (q : Query) (g : Graph) (R : List (List (Ev.Pair × Bool))) (N0 : Nat) (pass : List Int → Bool) : Prop :=
 ∀ (f : List Int), f.length = 2 * q.dots.length - 1 → AOk g f → ∀ n, N0 ≤ n → ∃ y : Envr, q20z n ((q, g, R, ()), f, ()) = some (y, (q, g, R, ()), f, ()) ∧ q28z n (y, q.wher, ()) = some (pass f, ())
theorem e1j (y : Envr) : Envr.mk (Graph.mk y.g.nodes y.g.edges y.g.next) y.at_ = y := rfl
def finF (pass : List Int → Bool) (ds es : List Int) : List (List Int) := bif pass (ds ++ es) then [ds ++ es] else []
theorem k1y {q : Query} {g : Graph} {R : List (List (Ev.Pair × Bool))} {N0 : Nat} {pass : List Int → Bool} (hp : PassOk q g R N0 pass) (hN : q.dots.length ≤ 100) (h1 : 1 ≤ q.dots.length) (ds es : List Int) (hd : AOk g ds) (he : AOk g es) (m : Nat) (hm : N0 + 1 ≤ m) :
  WOk q g R (q6z m) q.dots.length ds es (finF pass ds es) := by
 intro f s ha hs
 obtain ⟨n, rfl⟩ : ∃ n, m = n + 1 := ⟨m - 1, by omega⟩
 have ef : f = ds ++ es := by
  have e2 := ha.e
  rw [List.take_of_length_le (by rw [List.length_drop, ha.len]; omega)] at e2
  rw [← ha.d, ← e2, List.take_append_drop]
 obtain ⟨y, ey, ep⟩ := hp f ha.len (by rw [ef]; exact hd.app he) n (by omega)
 refine ⟨f, ha, ?_⟩
 rw [q6z]
 unfold q6z_b
 dsimp only
 rw [show ((q.dots.length : Int) == (q.dots.length : Int)) = true from beq_self_eq_true _, cond_true]
 simp only [b0b, b0d, ey, Option.bind_some, e1j, ep, t0d]
 unfold finF
 rw [← ef]
 cases hpf : pass f with
 | false => rfl
 | true =>
  rw [cond_true, cond_true, p1u f s hs (by rw [ha.len]; omega)]
  rfl
def waysR (g : Graph) (fin : List Int → List Int → List (List Int)) : List (Ev.Dot × Ev.Arrow × List Ev.Pair) → List Ev.Dot → List Int → List Int → List (List Int)
 | [], _, ds, es => fin ds es
 | (d, a, ks) :: r, pre, ds, es => g.nodes.flatMap fun x => bif dotB d x && fitL pre ds d.name x.id then (stepA g a ks (ds.getLast?.getD 0) x.id).flatMap (fun e => waysR g fin r (pre ++ [d]) (ds ++ [x.id]) (es ++ [e])) else []
def waysT (g : Graph) (fin : List Int → List Int → List (List Int)) (d : Ev.Dot) (rem : List (Ev.Dot × Ev.Arrow × List Ev.Pair)) : List (List Int) :=
 g.nodes.flatMap fun x => bif dotB d x && fitL [] [] d.name x.id then waysR g fin rem [d] [x.id] [] else []
theorem f1a {q : Query} {g : Graph} {R : List (List (Ev.Pair × Bool))} (n : Nat) (hn : 1100 ≤ n) (k : Nat) (hk : k < q.dots.length) (hN : q.dots.length ≤ 100) (d : Ev.Dot) (hd : q.dots[k]? = some d) (ds es : List Int) (hds : ds.length = k)
  (h40 : g.nodes.length ≤ 40) (h60 : g.edges.length ≤ 60) (hlab : ∀ x ∈ g.nodes, x.labels.length ≤ 100) (Wx : Ev.Node → List (List Int))
  (hb : ∀ x ∈ g.nodes, (dotB d x && fitL (q.dots.take k) ds d.name x.id) = true → BOk q g R (q6z n) k ds es x.id (Wx x)) :
  WOk q g R (q6z (n + 1)) k ds es (g.nodes.flatMap fun x => bif dotB d x && fitL (q.dots.take k) ds d.name x.id then Wx x else []) := by
 intro f s ha hs
 rw [q6z]
 unfold q6z_b
 dsimp only
 rw [show ((k : Int) == (q.dots.length : Int)) = false by rw [beq_eq_false_iff_ne]; omega, cond_false]
 obtain ⟨f', a', e'⟩ := w0x q g R (q6z n) n hn (fun (o131, o132, o133, o134, o135, _) => some (((Ev.Query.mk o131.1.dots o131.1.arrows o131.1.wher o131.1.items o131.1.dist), (Ev.Graph.mk o131.2.1.nodes o131.2.1.edges o131.2.1.next), o131.2.2.1, ()), o135, (()), o133, (o134.1, ()), ())) (fun (_) => none) k hk (by omega) d hd ds es hds h40 h60 hlab Wx hb g.nodes [] rfl f s n ha hs (by omega)
 exact ⟨f', a', e'⟩
theorem m1a {g : Graph} {a : Ev.Arrow} {ks : List Ev.Pair} {x y e : Int} (h : e ∈ stepA g a ks x y) : e ∈ g.edges.map Ev.Edg.id ∨ e = 0 := by
 have key : ∀ {fr tg : Int}, e ∈ stepE g a ks fr tg → e ∈ g.edges.map Ev.Edg.id ∨ e = 0 := by
  intro fr tg h
  unfold stepE at h
  cases hm : a.many with
  | true =>
   rw [hm, cond_true] at h
   cases hd : decide (Ev.Pair.mk fr tg ∈ ks) with
   | true => rw [hd, cond_true, List.mem_singleton] at h; exact .inr h
   | false => rw [hd, cond_false] at h; cases h
  | false =>
   rw [hm, cond_false] at h
   obtain ⟨z, hz, rfl⟩ := List.mem_map.1 h
   exact .inl (List.mem_map.2 ⟨z, (List.mem_filter.1 hz).1, rfl⟩)
 unfold stepA at h
 cases hb : a.back with
 | true => rw [hb, cond_true] at h; exact key h
 | false => rw [hb, cond_false] at h; exact key h
theorem a1a {q : Query} {g : Graph} {R : List (List (Ev.Pair × Bool))} {N0 : Nat} {pass : List Int → Bool} (hp : PassOk q g R N0 pass) (hN0 : 1100 ≤ N0) (hN : q.dots.length ≤ 100)
  (h40 : g.nodes.length ≤ 40) (h60 : g.edges.length ≤ 60) (hlab : ∀ x ∈ g.nodes, x.labels.length ≤ 100) :
  ∀ (rem : List (Ev.Dot × Ev.Arrow × List Ev.Pair)) (pre : List Ev.Dot) (ar : List Ev.Arrow) (ds es : List Int), q.dots = pre ++ rem.map (fun z => z.1) → q.arrows = ar ++ rem.map (fun z => z.2.1) → pre.length = ar.length + 1 → ds.length = pre.length → AOk g ds → AOk g es →
    (∀ j z, rem[j]? = some z → z.2.1.many = true → R[ar.length + j]? = some (tr z.2.2)) → ∀ m, N0 + 1 + rem.length ≤ m → WOk q g R (q6z m) pre.length ds es (waysR g (finF pass) rem pre ds es)
 | [], pre, ar, ds, es, h1, h2, h3, h4, h5, h6, h7, m, hm => by
  have e : pre = q.dots := by rw [h1]; simp
  rw [waysR, e]
  exact k1y hp hN (by rw [← e]; omega) ds es h5 h6 m (by simpa using hm)
 | (d, a, ks) :: r, pre, ar, ds, es, h1, h2, h3, h4, h5, h6, h7, m, hm => by
  obtain ⟨n, rfl⟩ : ∃ n, m = n + 1 := ⟨m - 1, by omega⟩
  rw [List.length_cons] at hm
  have hl : pre.length < q.dots.length := by rw [h1]; simp
  have ed : q.dots[pre.length]? = some d := by rw [h1]; simp
  have ea : q.arrows[pre.length - 1]? = some a := by rw [h2, show pre.length - 1 = ar.length by omega]; simp
  have et : q.dots.take pre.length = pre := by rw [h1]; simp
  have := f1a (R := R) n (by omega) pre.length hl hN d ed ds es h4 h40 h60 hlab (fun x => (stepA g a ks (ds.getLast?.getD 0) x.id).flatMap (fun e => waysR g (finF pass) r (pre ++ [d]) (ds ++ [x.id]) (es ++ [e]))) ?_
  ·rw [et] at this
   exact this
  ·intro x hx hc
   refine .inr ⟨by omega, a, ks, ds.getLast?.getD 0, fun e => waysR g (finF pass) r (pre ++ [d]) (ds ++ [x.id]) (es ++ [e]), ea, fun hm => ?_, ?_, rfl, fun e he => ?_⟩
   ·have := h7 0 (d, a, ks) rfl hm
    rw [show pre.length - 1 = ar.length by omega]
    exact this
   ·rw [show pre.length - 1 = ds.length - 1 by omega, List.getLast?_eq_getElem?, List.getElem?_eq_getElem (by omega)]
    rfl
   ·have hw := a1a hp hN0 hN h40 h60 hlab r (pre ++ [d]) (ar ++ [a]) (ds ++ [x.id]) (es ++ [e]) (by rw [h1]; simp) (by rw [h2]; simp) (by simp; omega) (by simp [h4])
     (h5.app (AOk.one (.inl (List.mem_map.2 ⟨x, hx, rfl⟩))))
     (h6.app (AOk.one (.inr (m1a he))))
     (by intro j z hz hm; have := h7 (j + 1) z (by simpa using hz) hm; rw [List.length_append, List.length_singleton, show ar.length + 1 + j = ar.length + (j + 1) by omega]; exact this) n (by omega)
    rw [List.length_append, List.length_singleton] at hw
    exact hw
theorem l1u {q : Query} {g : Graph} {R : List (List (Ev.Pair × Bool))} {N0 : Nat} {pass : List Int → Bool} (hp : PassOk q g R N0 pass) (hN0 : 1100 ≤ N0) (hN : q.dots.length ≤ 100)
  (h40 : g.nodes.length ≤ 40) (h60 : g.edges.length ≤ 60) (hlab : ∀ x ∈ g.nodes, x.labels.length ≤ 100) (d : Ev.Dot) (rem : List (Ev.Dot × Ev.Arrow × List Ev.Pair)) (h1 : q.dots = d :: rem.map (fun z => z.1)) (h2 : q.arrows = rem.map (fun z => z.2.1))
  (h7 : ∀ (j : Nat) (z : Ev.Dot × Ev.Arrow × List Ev.Pair), rem[j]? = some z → z.2.1.many = true → R[j]? = some (tr z.2.2)) (m : Nat) (hm : N0 + 2 + rem.length ≤ m) :
  WOk q g R (q6z m) 0 [] [] (waysT g (finF pass) d rem) := by
 obtain ⟨n, rfl⟩ : ∃ n, m = n + 1 := ⟨m - 1, by omega⟩
 have := f1a (R := R) n (by omega) 0 (by rw [h1]; simp) hN d (by rw [h1]; rfl) [] [] rfl h40 h60 hlab (fun x => waysR g (finF pass) rem [d] [x.id] []) ?_
 ·exact this
 ·intro x hx hc
  refine .inl ⟨rfl, ?_⟩
  exact a1a hp hN0 hN h40 h60 hlab rem [d] [] [x.id] [] (by rw [h1]; rfl) (by rw [h2]; rfl) rfl rfl (by intro y hy; rw [List.mem_singleton] at hy; subst hy; exact .inl (List.mem_map.2 ⟨x, hx, rfl⟩)) (by intro y hy; cases hy)
   (by intro j z hz hm; rw [List.length_nil, Nat.zero_add]; exact h7 j z hz hm) n (by omega)
end Pure
namespace Pure
open Esp Ev Go
set_option linter.unusedSimpArgs false
set_option linter.unusedVariables false
def envD : List Ev.Dot → List Int → List (ByteArray × Int) → List (ByteArray × Int)
 | d :: r, y :: s, at_ => envD r s (bif !(seq d.name ⟨#[]⟩) then (bif y != 0 then mpPut .str .i64 at_ d.name y else at_) else at_)
 | _, _, at_ => at_
def envA : List Ev.Arrow → List Int → List (ByteArray × Int) → List (ByteArray × Int)
 | a :: r, y :: s, at_ => envA r s (bif !(seq a.name ⟨#[]⟩) then mpPut .str .i64 at_ a.name y else at_)
 | _, _, at_ => at_
theorem env_s0 {ρ : Type} (n : Nat) (kr : Unit → Option ρ) (K : ((Ev.Envr × Unit) × (List (ByteArray × Int)) × (Ev.Query × Ev.Graph × (List (List (Ev.Pair × Bool))) × Unit) × (List Int) × Unit) → Option ρ) (e : Envr) (q : Query) (g : Graph) (R : List (List (Ev.Pair × Bool))) (f : List Int) :
  ∀ (l : List Ev.Dot) (t s : List Int) (at_ : List (ByteArray × Int)), f = t ++ s → l.length ≤ s.length → foldK (l0y n kr) K (t.length : Int) l ((e, ()), at_, (q, g, R, ()), f, ()) = K ((e, ()), envD l s at_, (q, g, R, ()), f, ())
 | [], t, s, at_, hf, hl => by rw [foldK, envD]; intro a b c d h; cases h
 | d :: r, t, s, at_, hf, hl => by
  obtain ⟨y, s, rfl⟩ : ∃ y s', s = y :: s' := by
   cases s with
   | nil => simp at hl
   | cons y s' => exact ⟨y, s', rfl⟩
  have hy : f[t.length]? = some y := by rw [hf]; simp
  have ih := fun at_ => env_s0 n kr K e q g R f r (t ++ [y]) s at_ (by rw [hf]; simp) (by simpa using hl)
  rw [List.length_append, List.length_singleton, Int.natCast_add] at ih
  rw [foldK, envD]
  unfold l0y at ih ⊢
  dsimp only
  cases hn : seq d.name ⟨#[]⟩ with
  | true => rw [Bool.not_true, cond_false, cond_false]; exact ih _
  | false =>
   rw [Bool.not_false, cond_true, cond_true, ix_ok hy, Option.bind_some, Int.toNat_natCast, hy, Option.bind_some]
   cases h0 : (y != 0) with
   | true => rw [cond_true, cond_true, Option.bind_some, Option.bind_some]; exact ih _
   | false => rw [cond_false, cond_false]; exact ih _
theorem env_s2 {ρ : Type} (n : Nat) (kr : Unit → Option ρ) (K : ((Ev.Envr × Unit) × (List (ByteArray × Int)) × (Ev.Query × Ev.Graph × (List (List (Ev.Pair × Bool))) × Unit) × (List Int) × Unit) → Option ρ) (e : Envr) (q : Query) (hN : q.dots.length ≤ 100) (g : Graph) (R : List (List (Ev.Pair × Bool))) (f : List Int) (h0 : f.length ≤ 1000) :
  ∀ (l : List Ev.Arrow) (t s : List Int) (at_ : List (ByteArray × Int)), f = t ++ s → q.dots.length ≤ t.length → l.length ≤ s.length → foldK (h0f n kr) K ((t.length : Int) - q.dots.length) l ((e, ()), at_, (q, g, R, ()), f, ()) = K ((e, ()), envA l s at_, (q, g, R, ()), f, ())
 | [], t, s, at_, hf, ht, hl => by rw [foldK, envA]; intro a b c d h; cases h
 | d :: r, t, s, at_, hf, ht, hl => by
  obtain ⟨y, s, rfl⟩ : ∃ y s', s = y :: s' := by
   cases s with
   | nil => simp at hl
   | cons y s' => exact ⟨y, s', rfl⟩
  have hy : f[t.length]? = some y := by rw [hf]; simp
  have htl : t.length ≤ 1000 := by rw [hf] at h0; simp at h0; omega
  have ih := fun at_ => env_s2 n kr K e q hN g R f h0 r (t ++ [y]) s at_ (by rw [hf]; simp) (by simp; omega) (by simpa using hl)
  rw [List.length_append, List.length_singleton, Int.natCast_add, show ((t.length : Int) + ((1 : Nat) : Int) - (q.dots.length : Int)) = (t.length : Int) - q.dots.length + 1 by omega] at ih
  rw [foldK, envA]
  unfold h0f at ih ⊢
  dsimp only
  cases hn : seq d.name ⟨#[]⟩ with
  | true => rw [Bool.not_true, cond_false, cond_false]; exact ih _
  | false =>
   rw [Bool.not_false, cond_true, cond_true, wrap64 (by omega) (by omega), show ((q.dots.length : Int) + ((t.length : Int) - q.dots.length)) = (t.length : Int) by omega, ix_ok hy, Option.bind_some, Int.toNat_natCast, hy, Option.bind_some]
   exact ih _
theorem o1a {ρ : Type} (n : Nat) (kr : Unit → Option ρ) (K : ((Ev.Envr × Unit) × (List (ByteArray × Int)) × (Ev.Query × Ev.Graph × (List (List (Ev.Pair × Bool))) × Unit) × (List Int) × Unit) → Option ρ) (e : Envr) (q : Query) (hN : q.dots.length ≤ 100) (g : Graph) (R : List (List (Ev.Pair × Bool))) (f : List Int) (h0 : f.length ≤ 1000)
  (l : List Ev.Arrow) (t s : List Int) (at_ : List (ByteArray × Int)) (hf : f = t ++ s) (ht : q.dots.length ≤ t.length) (hl : l.length ≤ s.length) (i : Int) (hi : i = (t.length : Int) - q.dots.length) : foldK (h0f n kr) K i l ((e, ()), at_, (q, g, R, ()), f, ()) = K ((e, ()), envA l s at_, (q, g, R, ()), f, ()) := by
 subst hi
 exact env_s2 n kr K e q hN g R f h0 l t s at_ hf ht hl
def envF2 (q : Query) (g : Graph) (f : List Int) : Envr := ⟨g, envA q.arrows (f.drop q.dots.length) (envD q.dots f [])⟩
theorem n1v (q : Query) (g : Graph) (R : List (List (Ev.Pair × Bool))) (f : List Int) (hN : q.dots.length ≤ 100) (ha : q.arrows.length + 1 = q.dots.length) (hf : f.length = 2 * q.dots.length - 1) (n : Nat) (hn : 200 ≤ n) :
  q20z n ((q, g, R, ()), f, ()) = some (envF2 q g f, (q, g, R, ()), f, ()) := by
 unfold q20z
 dsimp only
 rw [j0a n _ _ q.dots n _ _ _ _ (by omega) (by omega)]
 refine Eq.trans (env_s0 n _ _ ⟨⟨[], [], 0⟩, []⟩ q g R f q.dots [] f [] rfl (by omega)) ?_
 dsimp only
 rw [i0d n _ _ q.arrows n _ _ _ _ (by omega) (by omega)]
 refine Eq.trans (o1a n _ _ ⟨⟨[], [], 0⟩, []⟩ q hN g R f (by omega) q.arrows (f.take q.dots.length) (f.drop q.dots.length) (envD q.dots f []) (List.take_append_drop _ _).symm (by rw [List.length_take]; omega) (by rw [List.length_drop]; omega) 0 (by rw [List.length_take]; omega)) ?_
 rfl
theorem b1d {at_ : List (ByteArray × Int)} {s : ByteArray} {v : Int} (hv : wfI .i64 v) (h : atOk at_) : atOk (mpPut .str .i64 at_ s v) := by
 induction at_ with
 | nil =>
  intro q hq
  have : q = (s, v) := by simpa [mpPut] using hq
  subst this
  exact hv
 | cons y a ih =>
  intro q hq
  rw [mpPut] at hq
  cases hk : keyEq .str s y.1 with
  | true =>
   rw [hk, cond_true] at hq
   rcases List.mem_cons.1 hq with rfl | hq
   ·exact hv
   ·exact h q (by simp [hq])
  | false =>
   rw [hk, cond_false] at hq
   rcases List.mem_cons.1 hq with rfl | hq
   ·exact h _ (by simp)
   ·exact ih (fun z hz => h z (by simp [hz])) q hq
theorem f1o : ∀ (l : List Ev.Dot) (s : List Int) (at_ : List (ByteArray × Int)), (∀ x ∈ s, wfI .i64 x) → atOk at_ → atOk (envD l s at_)
 | [], s, at_, hs, h => by rw [envD]; exact h; intro a b c d h; cases h
 | d :: r, [], at_, hs, h => by rw [envD]; exact h; intro a b c d _ h; cases h
 | d :: r, y :: s, at_, hs, h => by
  rw [envD]
  refine f1o r s _ (fun x hx => hs x (by simp [hx])) ?_
  cases (!(seq d.name ⟨#[]⟩)) with
  | false => exact h
  | true =>
   cases (y != 0) with
   | false => exact h
   | true => exact b1d (hs y (by simp)) h
theorem k1d : ∀ (l : List Ev.Arrow) (s : List Int) (at_ : List (ByteArray × Int)), (∀ x ∈ s, wfI .i64 x) → atOk at_ → atOk (envA l s at_)
 | [], s, at_, hs, h => by rw [envA]; exact h; intro a b c d h; cases h
 | d :: r, [], at_, hs, h => by rw [envA]; exact h; intro a b c d _ h; cases h
 | d :: r, y :: s, at_, hs, h => by
  rw [envA]
  refine k1d r s _ (fun x hx => hs x (by simp [hx])) ?_
  cases (!(seq d.name ⟨#[]⟩)) with
  | false => exact h
  | true => exact b1d (hs y (by simp)) h
end Pure
namespace Pure
open Esp Ev Go
set_option linter.unusedSimpArgs false
set_option linter.unusedVariables false
def allF (A : List Int) : Nat → List (List Int)
 | 0 => [[]]
 | n + 1 => A.flatMap fun x => (allF A n).map fun l => x :: l
theorem a1y (A : List Int) : ∀ f : List Int, (∀ x ∈ f, x ∈ A) → f ∈ allF A f.length
 | [], _ => by simp [allF]
 | x :: r, h => List.mem_flatMap.2 ⟨x, h x (by simp), List.mem_map.2 ⟨r, a1y A r fun y hy => h y (by simp [hy]), rfl⟩⟩
noncomputable def passF (q : Query) (g : Graph) (f : List Int) : Bool := q.wher.all fun t => ((tval g (envF2 q g f).at_ t).kind == 1) && ((tval g (envF2 q g f).at_ t).n == 1)
theorem d1x (n : Nat) (e : Envr) (w : List Term) (V : Term → Val) (h : ∀ t ∈ w, q30z n (e, t, ()) = some (V t, ())) (hl : w.length ≤ 1000) (hn : w.length < n) :
  q28z n (e, w, ()) = some (w.all fun t => ((V t).kind == 1) && ((V t).n == 1), ()) := by
 have key : ∀ (l : List Term) (i : Int), (∀ t ∈ l, q30z n (e, t, ()) = some (V t, ())) → foldK (ρ := Bool × Unit) (l0n n (fun (v11, _) => some (v11, ()))) (fun (o6, _) => some (true, ())) i l ((e, ()), ()) = some (l.all fun t => ((V t).kind == 1) && ((V t).n == 1), ()) := by
  intro l
  induction l with
  | nil => intro i _; rfl
  | cons t r ih =>
   intro i hh
   have ih := ih (i + 1) fun t ht => hh t (by simp [ht])
   rw [foldK]
   unfold l0n at ih ⊢
   dsimp only
   rw [Term.eta2, e1j, hh t (by simp), Option.bind_some]
   dsimp only
   unfold q57z
   rw [Option.bind_some, List.all_cons]
   dsimp only
   rw [Val.eta]
   cases hk : ((V t).kind == 1) with
   | false => rw [Bool.not_false, Bool.true_or, cond_true]; rfl
   | true =>
    cases hv : ((V t).n == 1) with
    | false => rfl
    | true => rw [Bool.not_true, Bool.false_or, cond_false, Bool.true_and, Bool.true_and]; exact ih
 unfold q28z
 dsimp only
 rw [i0y n _ _ w n _ (by omega) hn]
 exact key w 0 h
theorem y0z {q : Query} {g : Graph} (hg : GOk g) (b : List (ByteArray × Bool)) (ht : ∀ t ∈ q.wher, tOk t) (hc : ∀ t ∈ q.wher, tchk b t 1 = 0) (hw : q.wher.length ≤ 1) (hN : q.dots.length ≤ 100) (ha : q.arrows.length + 1 = q.dots.length) :
  ∃ N0, 1100 ≤ N0 ∧ ∀ R, PassOk q g R N0 (passF q g) := by
 have hwf : ∀ f, AOk g f → ∀ x ∈ f, wfI .i64 x := by
  intro f hf x hx
  rcases hf x hx with h | h | h
  ·obtain ⟨y, hy, rfl⟩ := List.mem_map.1 h
   exact (hg.ok.1.2 y hy).1
  ·obtain ⟨y, hy, rfl⟩ := List.mem_map.1 h
   exact (hg.ok.2.1.2 y hy).1
  ·rw [h]; unfold wfI; decide
 have hA : ∀ f, AOk g f → ∃ N, ∀ n, N ≤ n → ∀ t ∈ q.wher, q30z n (envF2 q g f, t, ()) = some (tval g (envF2 q g f).at_ t, ()) := by
  intro f hf
  refine all_N q.wher fun t h => ?_
  have hat : atOk (envF2 q g f).at_ := k1d _ _ _ (fun x hx => hwf f hf x (List.mem_of_mem_drop hx)) (f1o _ _ _ (hwf f hf) (fun p hp => by cases hp))
  exact (l1p hg hat b t 1 (ht t h) (hc t h)).1
 obtain ⟨N1, h1⟩ := all_N (p := fun n (f : List Int) => AOk g f → ∀ t ∈ q.wher, q30z n (envF2 q g f, t, ()) = some (tval g (envF2 q g f).at_ t, ()))
  (allF (g.nodes.map Ev.Node.id ++ (g.edges.map Ev.Edg.id ++ [0])) (2 * q.dots.length - 1)) (fun f _ => by
   by_cases hf : AOk g f
   ·obtain ⟨N, h⟩ := hA f hf
    exact ⟨N, fun n hn _ => h n hn⟩
   ·exact ⟨0, fun n _ h => absurd h hf⟩)
 refine ⟨N1 + 1100, by omega, fun R f hl hf n hn => ⟨envF2 q g f, n1v q g R f hN ha hl n (by omega), ?_⟩⟩
 have hm := a1y (g.nodes.map Ev.Node.id ++ (g.edges.map Ev.Edg.id ++ [0])) f fun x hx => by
  rcases hf x hx with h | h | h
  ·exact List.mem_append_left _ h
  ·exact List.mem_append_right _ (List.mem_append_left _ h)
  ·rw [h]; simp
 rw [hl] at hm
 exact d1x n _ q.wher _ (h1 n (by omega) f hm hf) (by omega) (by omega)
noncomputable def rsK (n : Nat) (g : Graph) (kind : ByteArray) : List Ev.Pair := (((b0t n (g, kind, ())).getD ([], ())).1).map fun z => z.1
theorem rsK_ok (n : Nat) (hn : 100100 ≤ n) (g : Graph) (kind : ByteArray) (hc : chkG g = 0) : b0t n (g, kind, ()) = some (tr (rsK n g kind), ()) ∧ ∀ k, k ∈ rsK n g kind ↔ Rc (stp kind g.edges) k.p k.q := by
 obtain ⟨ks, h1, h2, h3, h4⟩ := set_ok n hn g kind hc
 have e : rsK n g kind = ks := by
  unfold rsK
  rw [h4]
  show (tr ks).map _ = ks
  unfold tr
  rw [List.map_map]
  exact List.map_id' ks
 rw [e]
 exact ⟨h4, h2⟩
noncomputable def rk (n : Nat) (g : Graph) (a : Ev.Arrow) : List Ev.Pair := bif a.many then rsK n g a.type else []
theorem z0s {ρ : Type} (n : Nat) (hn : 100100 ≤ n) (q : Query) (g : Graph) (hc : chkG g = 0) (kr : Unit → Option ρ) (K : ((Ev.Graph × Unit) × (Ev.Query × Ev.Graph × Unit) × (List (List (Ev.Pair × Bool))) × Unit) → Option ρ) :
  ∀ (l : List Ev.Arrow) (i : Int) (o : List (List (Ev.Pair × Bool))), o.length + l.length ≤ 1000 → foldK (d0i n kr) K i l ((g, ()), (q, g, ()), o, ()) = K ((g, ()), (q, g, ()), o ++ l.map (fun a => tr (rk n g a)), ())
 | [], i, o, h => by rw [foldK, List.map_nil, List.append_nil]
 | a :: r, i, o, h => by
  rw [List.length_cons] at h
  have ih := fun z => z0s n hn q g hc kr K r (i + 1) (o ++ [z]) (by simp; omega)
  rw [foldK, List.map_cons]
  unfold d0i at ih ⊢
  dsimp only
  unfold rk
  cases hm : a.many with
  | true =>
   rw [cond_true, b0d, (rsK_ok n hn g a.type hc).1, Option.bind_some]
   dsimp only
   rw [ck_ok (e0r (by simp; omega) (by omega)), ih (tr (rsK n g a.type)), List.append_assoc]
   rfl
  | false =>
   rw [cond_false, ck_ok (e0r (by simp; omega) (by omega)), ih [], List.append_assoc]
   rfl
theorem new_ok (n : Nat) (hn : 100100 ≤ n) (q : Query) (g : Graph) (hc : chkG g = 0) (ha : q.arrows.length ≤ 100) : d0w n (q, g, ()) = some ((q, g, q.arrows.map (fun a => tr (rk n g a)), ()), ()) := by
 unfold d0w
 dsimp only
 rw [c0d n _ _ q.arrows n _ _ _ (by omega) (by omega)]
 refine Eq.trans (z0s n hn q g hc _ _ q.arrows 0 [] (by simp; omega)) ?_
 rfl
noncomputable def remOf (n : Nat) (g : Graph) (ds : List Ev.Dot) (ar : List Ev.Arrow) : List (Ev.Dot × Ev.Arrow × List Ev.Pair) := (ds.zip ar).map fun z => (z.1, z.2, rk n g z.2)
noncomputable def waysA (n : Nat) (q : Query) (g : Graph) (pass : List Int → Bool) : List (List Int) :=
 match q.dots with
 | [] => []
 | d :: r => waysT g (finF pass) d (remOf n g r q.arrows)
theorem b1q (g : Graph) (pass : List Int → Bool) : ∀ (rem : List (Ev.Dot × Ev.Arrow × List Ev.Pair)) (pre : List Ev.Dot) (ds es : List Int), ∀ w ∈ waysR g (finF pass) rem pre ds es, w.length = ds.length + es.length + 2 * rem.length
 | [], pre, ds, es, w, h => by
  rw [waysR] at h
  unfold finF at h
  cases hp : pass (ds ++ es) with
  | true => rw [hp, cond_true, List.mem_singleton] at h; rw [h]; simp
  | false => rw [hp, cond_false] at h; cases h
 | (d, a, ks) :: r, pre, ds, es, w, h => by
  rw [waysR] at h
  obtain ⟨x, hx, h⟩ := List.mem_flatMap.1 h
  cases hc : dotB d x && fitL pre ds d.name x.id with
  | false => rw [hc, cond_false] at h; cases h
  | true =>
   rw [hc, cond_true] at h
   obtain ⟨e, he, h⟩ := List.mem_flatMap.1 h
   rw [b1q g pass r _ _ _ w h]
   simp
   omega
theorem u0d (g : Graph) (pass : List Int → Bool) (d : Ev.Dot) (rem : List (Ev.Dot × Ev.Arrow × List Ev.Pair)) (w : List Int) (h : w ∈ waysT g (finF pass) d rem) : w.length = 1 + 2 * rem.length := by
 obtain ⟨x, hx, h⟩ := List.mem_flatMap.1 h
 cases hc : dotB d x && fitL [] [] d.name x.id with
 | false => rw [hc, cond_false] at h; cases h
 | true =>
  rw [hc, cond_true] at h
  rw [b1q g pass rem _ _ _ w h]
  simp
theorem g1f {α β : Type} : ∀ (l : List α) (m : List β), l.length = m.length → (l.zip m).map (fun z => z.1) = l ∧ (l.zip m).map (fun z => z.2) = m
 | [], [], _ => ⟨rfl, rfl⟩
 | [], y :: m, h => by simp at h
 | x :: l, [], h => by simp at h
 | x :: l, y :: m, h => by
  have ih := g1f l m (by simpa using h)
  simp only [List.zip_cons_cons, List.map_cons, ih.1, ih.2, and_self]
theorem d0y (q : Query) (g : Graph) (hc : chkG g = 0) (pass : List Int → Bool) (N0 : Nat) (hN0 : 1100 ≤ N0) (hp : ∀ R, PassOk q g R N0 pass) (hN : q.dots.length ≤ 100) (h1 : 1 ≤ q.dots.length) (ha : q.arrows.length + 1 = q.dots.length) (n : Nat) (hn : N0 + 110000 ≤ n) (hq : q42z n (q, ()) = some (0, ())) :
  a0x n (q, g, ()) = bif decide ((waysA n q g pass).length ≤ 2000) then some (sortL ltLL (waysA n q g pass), 0, ()) else some ([], 10, ()) := by
 obtain ⟨h40, h60, hnod, _⟩ := chkG_0 hc
 have hlab : ∀ x ∈ g.nodes, x.labels.length ≤ 100 := by
  intro x hx
  have := (nodF_0 hnod x hx).1
  unfold labE at this
  cases hb : decide ((x.labels.length : Int) > 4) with
  | true => rw [hb] at this; cases this
  | false => have := of_decide_eq_false hb; omega
 obtain ⟨d, r, hd⟩ : ∃ d r, q.dots = d :: r := by
  cases hq : q.dots with
  | nil => rw [hq] at h1; simp at h1
  | cons d r => exact ⟨d, r, rfl⟩
 have hlr : r.length = q.arrows.length := by rw [hd] at ha; simp at ha; omega
 have hz := g1f r q.arrows hlr
 have hr1 : (remOf n g r q.arrows).map (fun z => z.1) = r := by unfold remOf; rw [List.map_map]; exact hz.1
 have hr2 : (remOf n g r q.arrows).map (fun z => z.2.1) = q.arrows := by unfold remOf; rw [List.map_map]; exact hz.2
 have hrl : (remOf n g r q.arrows).length = r.length := by rw [← List.length_map (f := fun z => z.1), hr1]
 have hW : waysA n q g pass = waysT g (finF pass) d (remOf n g r q.arrows) := by unfold waysA; rw [hd]
 have hE : ∀ w ∈ waysA n q g pass, w.length ≤ 1000000 := by
  intro w hw
  rw [hW] at hw
  rw [u0d g pass d _ w hw, hrl]
  rw [hd] at hN
  simp at hN
  omega
 obtain ⟨f', _, ew⟩ := l1u (R := q.arrows.map (fun a => tr (rk n g a))) (hp _) hN0 hN h40 h60 hlab d (remOf n g r q.arrows) (by rw [hr1, hd]) hr2.symm (fun j z hz hm => by
  have e := congrArg (fun l => l[j]?) hr2
  rw [List.getElem?_map, hz] at e
  rw [List.getElem?_map, ← e]
  show some (tr (rk n g z.2.1)) = some (tr z.2.2)
  have : z ∈ remOf n g r q.arrows := List.mem_of_getElem? hz
  obtain ⟨y, _, rfl⟩ := List.mem_map.1 this
  rfl) n (by rw [hrl]; rw [hd] at hN; simp at hN; omega) (List.replicate (2 * q.dots.length - 1) 0) ([], false) ⟨by simp, rfl, by rw [Nat.zero_sub, List.take_zero]⟩ (by simp)
 rw [← hW] at ew
 unfold a0x
 dsimp only
 rw [b0b, hq, Option.bind_some]
 dsimp only
 rw [show ((0 : Int) != 0) = false from rfl, cond_false, b0d, u0q g n (by omega), Option.bind_some, hc]
 dsimp only
 rw [show ((0 : Int) != 0) = false from rfl, cond_false, new_ok n (by omega) q g hc (by omega), Option.bind_some]
 dsimp only
 unfold q5z
 dsimp only
 rw [wrap64 (by omega) (by omega)]
 unfold cnt?
 rw [if_pos (by omega), Option.bind_some, show ((q.dots.length : Int) + (q.arrows.length : Int)).toNat = 2 * q.dots.length - 1 by omega, ck_ok (e0r (by omega) (by omega)), b0b, b0d]
 rw [show (0 : Int) = ((0 : Nat) : Int) from rfl] at ew ⊢
 rw [ew, Option.bind_some]
 dsimp only
 rw [Option.bind_some]
 dsimp only
 have hpe := z0u (waysA n q g pass) ([], false) (by simp)
 rw [List.length_nil, Nat.zero_add, List.nil_append] at hpe
 cases hle : decide ((waysA n q g pass).length ≤ 2000) with
 | true =>
  have hle := of_decide_eq_true hle
  rw [hpe.1 hle]
  dsimp only
  rw [cond_false, h1h _ (by omega) hE]
  rfl
 | false =>
  have hle := of_decide_eq_false hle
  rw [hpe.2 (by omega)]
  rfl
end Pure
namespace Pure
open Esp Ev Go
set_option linter.unusedSimpArgs false
set_option linter.unusedVariables false
theorem i1f (a b : Int) : Pure.cmpI a b = Esp.cmpI a b := by
 unfold Pure.cmpI Esp.cmpI
 by_cases h : a < b
 ·simp [h]
 ·by_cases h2 : a > b <;> simp [h, h2]
theorem a1x (n : Nat) (x y : List Int) (hy : y.length ≤ 1000000) : ∀ (r : List Int) (t s : List Int), y = t ++ s → x.length = t.length + r.length →
  foldK (ρ := Int × Unit) (h0u n (fun (v13, _) => some (v13, ()))) (fun (v11, v12, _) => bif decide (((v11.length : Int) : Int) < (v12.length : Int)) then some ((-1), ()) else some (0, ())) (t.length : Int) r (x, y, ()) = some (cmpLL r s, ())
 | [], t, [], h1, h2 => by
  rw [foldK]
  dsimp only
  rw [decide_eq_false (by rw [h2, h1]; simp), cond_false]
  rfl
 | [], t, b :: s, h1, h2 => by
  rw [foldK]
  dsimp only
  rw [decide_eq_true (by rw [h2, h1]; simp; omega), cond_true]
  rfl
 | a :: r, t, [], h1, h2 => by
  rw [foldK]
  unfold h0u
  dsimp only
  rw [decide_eq_true (by rw [h1]; simp), cond_true]
  rfl
 | a :: r, t, b :: s, h1, h2 => by
  have ih := a1x n x y hy r (t ++ [b]) s (by rw [h1]; simp) (by rw [h2]; simp; omega)
  rw [List.length_append, List.length_singleton, Int.natCast_add] at ih
  have hb : y[t.length]? = some b := by rw [h1]; simp
  rw [foldK, cmpLL]
  unfold h0u at ih ⊢
  dsimp only
  rw [decide_eq_false (by rw [h1]; simp; omega), cond_false, ix_ok hb, Option.bind_some, d0p, Option.bind_some, i1f]
  dsimp only
  by_cases hc : Esp.cmpI a b = 0
  ·rw [if_neg (by simpa using hc), show (Esp.cmpI a b != 0) = false by simp [hc], cond_false]
   exact ih
  ·rw [if_pos hc, show (Esp.cmpI a b != 0) = true by simpa using hc, cond_true]
theorem k0g (n : Nat) (x y : List Int) (hx : x.length ≤ 1000) (hy : y.length ≤ 1000) (hn : 1100 ≤ n) : q12z n (x, y, ()) = some (cmpLL x y, ()) := by
 unfold q12z
 dsimp only
 rw [i0b n _ _ x n _ _ (by omega) (by omega)]
 exact a1x n x y (by omega) x [] y rfl (by simp)
theorem m1n {ρ : Type} (n : Nat) (hn : 1100 ≤ n) (l : List (List Int)) (hs : l.Pairwise (fun x y => ltLL y x = false)) (hl : l.length ≤ 1000000) (hr : ∀ w ∈ l, w.length ≤ 1000) (t : List Int) (ht : t.length ≤ 1000)
  (kx : (List (List Int)) × (List Int) × Int × Int × Unit → Option ρ) (kr : Unit → Option ρ) :
  ∀ (fuel i j : Nat), i ≤ j → j ≤ l.length → j - i < fuel → (∀ (q : Nat) x, l[q]? = some x → q < i → ltLL x t = true) → (∀ (q : Nat) x, l[q]? = some x → j ≤ q → ltLL x t = false) →
    ∃ k : Nat, iterN (fun rc => q3z_s0 n rc kx kr) fuel (l, t, (l.length : Int), (i : Int), (j : Int), ()) = kx (l, t, (l.length : Int), (k : Int), ()) ∧ k ≤ l.length ∧ (∀ (q : Nat) x, l[q]? = some x → q < k → ltLL x t = true) ∧ (∀ (q : Nat) x, l[q]? = some x → k ≤ q → ltLL x t = false) := by
 intro fuel
 induction fuel with
 | zero => intro i j _ _ hf; omega
 | succ m ih =>
  intro i j hij hj hf h1 h2
  rw [iterN]
  unfold q3z_s0 at ih ⊢
  dsimp only
  by_cases hlt : i < j
  ·have hh : ((i : Int) + (j : Int)) / 2 = (((i + j) / 2 : Nat) : Int) := by omega
   rw [decide_eq_true (by omega), cond_true, half (by omega) (by omega) (by omega), hh]
   have hq : (i + j) / 2 < l.length := by omega
   rw [ix_ok (List.getElem?_eq_getElem hq), Option.bind_some, k0g n _ t (hr _ (List.getElem_mem hq)) ht hn, Option.bind_some]
   dsimp only
   have hp := List.pairwise_iff_getElem.1 hs
   have el : decide (cmpLL l[(i + j) / 2] t < 0) = ltLL l[(i + j) / 2] t := rfl
   rw [el]
   cases hx : ltLL l[(i + j) / 2] t with
   | true =>
    rw [cond_true, wrap64 (by omega) (by omega)]
    refine ih ((i + j) / 2 + 1) j (by omega) hj (by omega) (fun q x hqx hlt2 => ?_) h2
    obtain ⟨hql, rfl⟩ := List.getElem?_eq_some_iff.1 hqx
    by_cases hqe : q = (i + j) / 2
    ·subst hqe; exact hx
    ·have := hp q ((i + j) / 2) hql hq (by omega)
     cases hz : ltLL l[q] t with
     | true => rfl
     | false => rw [ltLL_ok.ntrans _ _ _ this hz] at hx; cases hx
   | false =>
    rw [cond_false]
    refine ih i ((i + j) / 2) (by omega) (by omega) (by omega) h1 fun q x hqx hle => ?_
    obtain ⟨hql, rfl⟩ := List.getElem?_eq_some_iff.1 hqx
    by_cases hqe : q = (i + j) / 2
    ·subst hqe; exact hx
    ·have := hp ((i + j) / 2) q hq hql (by omega)
     exact ltLL_ok.ntrans _ _ _ this hx
  ·have hije : i = j := by omega
   subst hije
   rw [decide_eq_false (by omega), cond_false]
   exact ⟨i, rfl, hj, h1, h2⟩
theorem p0j : ∀ x : List Int, cmpLL x x = 0
 | [] => rfl
 | a :: r => by rw [cmpLL, if_neg (by rw [cmpI_0.2 rfl]; simp), p0j r]
theorem bin_ok (n : Nat) (l : List (List Int)) (hs : l.Pairwise (fun x y => ltLL y x = false)) (hl : l.length ≤ 1000000) (hr : ∀ w ∈ l, w.length ≤ 1000) (t : List Int) (ht : t.length ≤ 1000) (hm : t ∈ l) (hn : l.length + 1100 ≤ n) :
  ∃ k : Nat, q3z n (l, t, ()) = some ((k : Int), true, ()) := by
 unfold q3z
 dsimp only
 obtain ⟨k, e, hk, h1, h2⟩ := m1n n (by omega) l hs hl hr t ht (fun (v10, v11, v12, v13, _) => (bif decide ((v13 : Int) < v12) then (ix v10 v13).bind fun x14 => (q12z n (x14, v11, ())).bind fun (y15, _) => some (v13, (y15 : Int) == 0, ()) else some (v13, false, ()))) (fun (_) => none) n 0 l.length (by omega) (by omega) (by omega)
  (fun q x _ h => by omega) (fun q x hq h => by have := (List.getElem?_eq_some_iff.1 hq).1; omega)
 obtain ⟨q, hq, hqe⟩ := List.getElem_of_mem hm
 have hkq : k ≤ q := by
  cases Nat.lt_or_ge q k with
  | inr h => exact h
  | inl h =>
   have := h1 q _ (List.getElem?_eq_getElem hq) h
   rw [hqe, ltLL_ok.irrefl] at this
   cases this
 have hkl : k < l.length := by omega
 have hkt : l[k] = t := by
  have e1 := h2 k _ (List.getElem?_eq_getElem hkl) (Nat.le_refl k)
  by_cases hqk : k = q
  ·subst hqk; exact hqe
  ·have e2 := List.pairwise_iff_getElem.1 hs k q hkl hq (by omega)
   rw [hqe] at e2
   exact ltLL_ok.anti _ _ e1 e2
 refine ⟨k, Eq.trans e ?_⟩
 dsimp only
 rw [decide_eq_true (by omega), cond_true, ix_ok (List.getElem?_eq_getElem hkl), Option.bind_some, hkt, k0g n t t ht ht (by omega), p0j]
 rfl
theorem h1y (n : Nat) (hn : 100 ≤ n) (a b : List Int) (ha : a.length ≤ 400) (hb : b.length ≤ 400) : q13z n ([a, b], ()) = some (a ++ b, ()) := by
 unfold q13z
 dsimp only
 rw [j0b n _ _ [a, b] n _ _ (by simp) (by simp; omega)]
 rw [foldK]
 unfold t0u
 dsimp only
 rw [wrap64 (by omega) (by omega), decide_eq_false (by omega), cond_false, foldK]
 dsimp only
 rw [wrap64 (by omega) (by omega), decide_eq_false (by omega), cond_false, foldK]
 have hg : q10z (0 + (a.length : Int) + (b.length : Int), ()) = some ([], ()) := by
  unfold q10z
  dsimp only
  rw [decide_eq_false (by omega), cond_false, wrap64 (by omega) (by omega)]
  by_cases h : 0 + (a.length : Int) + (b.length : Int) - 0 > 0
  ·rw [decide_eq_true h, cond_true, ck_ok (by decide), ck_ok (by rw [Bool.and_eq_true]; exact ⟨rfl, e0r (by omega) (by omega)⟩)]
   unfold cut?
   rw [if_pos ⟨by omega, by rw [List.length_replicate]; omega⟩]
   rfl
  ·rw [decide_eq_false h, cond_false]
 dsimp only
 rw [hg, Option.bind_some]
 dsimp only
 rw [h0a n _ _ [a, b] n _ (by simp) (by simp; omega)]
 rw [foldK]
 unfold v0q
 dsimp only
 rw [ck_ok (e0r (by simp; omega) (by omega)), foldK]
 dsimp only
 rw [ck_ok (e0r (by simp; omega) (by omega)), foldK]
 rfl
end Pure
namespace Pure
open Esp Ev Go
set_option linter.unusedSimpArgs false
set_option linter.unusedVariables false
theorem whF_0 {b : List (ByteArray × Bool)} : ∀ {l : List Term}, whF b l = 0 → ∀ t ∈ l, tchk b t 1 = 0
 | [], _, t, ht => by cases ht
 | x :: r, h, t, ht => by
  rw [whF] at h
  cases hx : (tchk b x 1 != 0) with
  | true => rw [hx, cond_true] at h; rw [h] at hx; cases hx
  | false =>
   rw [hx, cond_false] at h
   rcases List.mem_cons.1 ht with rfl | ht
   ·simpa [bne] using hx
   ·exact whF_0 h t ht
theorem chkQ_0 {q : Query} (h : chkQ q = 0) : (1 ≤ q.dots.length ∧ q.dots.length ≤ 5) ∧ q.wher.length ≤ 1 ∧ q.arrows.length + 1 = q.dots.length ∧ q.dots.all dtB = true ∧ q.arrows.all arB = true ∧ ∃ b, nmA q.arrows (nmD q.dots []) = some b ∧ ∀ t ∈ q.wher, tchk b t 1 = 0 := by
 unfold chkQ at h
 cases hb : ((((decide (((q.dots.length : Int) : Int) < 1)) || (decide (((q.dots.length : Int) : Int) > 5))) || (decide (((q.items.length : Int) : Int) < 1))) || (decide (((q.items.length : Int) : Int) > 5))) || (decide (((q.wher.length : Int) : Int) > 1)) with
 | true => rw [hb, cond_true] at h; cases h
 | false =>
  rw [hb, cond_false] at h
  simp only [Bool.or_eq_false_iff, decide_eq_false_iff_not] at hb
  cases ha : ((q.arrows.length : Int) != (q.dots.length : Int) - 1) with
  | true => rw [ha, cond_true] at h; cases h
  | false =>
   rw [ha, cond_false] at h
   have ha : (q.arrows.length : Int) = (q.dots.length : Int) - 1 := by simpa [bne] using ha
   cases hd : q.dots.all dtB with
   | false => rw [hd] at h; cases h
   | true =>
    cases hr : q.arrows.all arB with
    | false => rw [hd, hr] at h; cases h
    | true =>
     rw [hd, hr] at h
     cases hn : nmA q.arrows (nmD q.dots []) with
     | none => rw [hn] at h; cases h
     | some b =>
      rw [hn] at h
      simp only [Bool.not_true, cond_false] at h
      cases hw : (whF b q.wher != 0) with
      | true => rw [hw, cond_true] at h; rw [h] at hw; cases hw
      | false => exact ⟨by omega, by omega, by omega, rfl, rfl, b, rfl, whF_0 (by simpa [bne] using hw)⟩
theorem s0t (a b : ByteArray) : keyEq .str a b = true ↔ a = b := by
 show (a.data == b.data) = true ↔ a = b
 rw [beq_iff_eq]
 exact ⟨fun h => by cases a; cases b; cases h; rfl, fun h => by rw [h]⟩
theorem r0j (l : List (ByteArray × Bool)) (k j : ByteArray) (v : Bool) : mpHas .str .bool (mpPut .str .bool l k v) j = true ↔ j = k ∨ mpHas .str .bool l j = true := by
 induction l with
 | nil =>
  rw [mpPut, mpHas, mpHas]
  cases h : keyEq .str j k with
  | true => rw [cond_true]; exact ⟨fun _ => .inl ((s0t j k).1 h), fun _ => rfl⟩
  | false =>
   rw [cond_false]
   constructor
   ·intro h; cases h
   ·rintro (e | e)
    ·rw [(s0t j k).2 e] at h; cases h
    ·cases e
 | cons p r ih =>
  rw [mpPut]
  cases hp : keyEq .str k p.1 with
  | true =>
   have hp := (s0t k p.1).1 hp
   rw [cond_true, mpHas, mpHas, ← hp]
   cases h : keyEq .str j k with
   | true => rw [cond_true]; exact ⟨fun _ => .inr rfl, fun _ => rfl⟩
   | false =>
    rw [cond_false]
    constructor
    ·exact .inr
    ·rintro (e | e)
     ·rw [(s0t j k).2 e] at h; cases h
     ·exact e
  | false =>
   rw [cond_false, mpHas, mpHas]
   cases h : keyEq .str j p.1 with
   | true => rw [cond_true]; exact ⟨fun _ => .inr rfl, fun _ => rfl⟩
   | false => rw [cond_false]; exact ih
theorem s0e : ∀ (l : List Ev.Arrow) (m1 m2 : List (ByteArray × Bool)), (∀ j, mpHas .str .bool m2 j = true → mpHas .str .bool m1 j = true) → nmA l m1 ≠ none → nmA l m2 ≠ none
 | [], m1, m2, hs, h => by rw [nmA]; simp
 | a :: r, m1, m2, hs, h => by
  rw [nmA] at h ⊢
  cases hn : seq a.name ⟨#[]⟩ with
  | true => rw [hn, cond_true] at h; rw [cond_true]; exact s0e r m1 m2 hs h
  | false =>
   rw [hn, cond_false] at h
   rw [cond_false]
   cases h1 : mpHas .str .bool m1 a.name with
   | true => rw [h1, cond_true] at h; exact absurd rfl h
   | false =>
    rw [h1, cond_false] at h
    have h2 : mpHas .str .bool m2 a.name = false := by
     cases hz : mpHas .str .bool m2 a.name with
     | false => rfl
     | true => rw [hs _ hz] at h1; cases h1
    rw [h2, cond_false]
    refine s0e r _ _ (fun j hj => ?_) h
    rcases (r0j _ _ _ _).1 hj with e | e
    ·exact (r0j _ _ _ _).2 (.inl e)
    ·exact (r0j _ _ _ _).2 (.inr (hs j e))
theorem r0z : ∀ (l : List Ev.Arrow) (a : Ev.Arrow) (m : List (ByteArray × Bool)), nmA (l ++ [a]) m ≠ none → nmA l m ≠ none
 | [], a, m, h => by rw [nmA]; simp
 | x :: r, a, m, h => by
  rw [List.cons_append, nmA] at h
  rw [nmA]
  cases hs : seq x.name ⟨#[]⟩ with
  | true => rw [hs, cond_true] at h; rw [cond_true]; exact r0z r a m h
  | false =>
   rw [hs, cond_false] at h
   rw [cond_false]
   cases h1 : mpHas .str .bool m x.name with
   | true => rw [h1, cond_true] at h; exact absurd rfl h
   | false => rw [h1, cond_false] at h; rw [cond_false]; exact r0z r a _ h
theorem b1o : ∀ (l : List Ev.Dot) (d : Ev.Dot) (m : List (ByteArray × Bool)) (j : ByteArray), mpHas .str .bool (nmD l m) j = true → mpHas .str .bool (nmD (l ++ [d]) m) j = true
 | [], d, m, j, h => by
  rw [nmD] at h
  rw [List.nil_append, nmD, nmD]
  cases (!(seq d.name ⟨#[]⟩)) with
  | true => rw [cond_true]; exact (r0j _ _ _ _).2 (.inr h)
  | false => exact h
 | x :: r, d, m, j, h => by
  rw [nmD] at h
  rw [List.cons_append, nmD]
  exact b1o r d _ j h
noncomputable def zItem : Ev.Item := (Ev.Item.mk (⟨#[122]⟩ : ByteArray) (⟨#[]⟩ : ByteArray) (Ev.Term.mk 1 (Ev.Val.mk 0 0 (⟨#[]⟩ : ByteArray) ([] : List Ev.Val)) (⟨#[]⟩ : ByteArray) ([] : List Ev.Term)))
theorem z_item (b : List (ByteArray × Bool)) : itF b [zItem] [] = 0 := by
 have h1 : nameB ⟨#[122]⟩ = true := by kernel_rfl
 have h2 : hasL aggs ⟨#[]⟩ = true := by kernel_rfl
 have h3 : tchk b (Ev.Term.mk 1 (Ev.Val.mk 0 0 (⟨#[]⟩ : ByteArray) ([] : List Ev.Val)) (⟨#[]⟩ : ByteArray) ([] : List Ev.Term)) 1 = 0 := by kernel_rfl
 rw [itF, itF]
 unfold zItem
 dsimp only
 rw [h1, h2, h3]
 rfl
theorem n1m {q : Query} (h : chkQ q = 0) {pd : List Ev.Dot} {pa : List Ev.Arrow} {d : Ev.Dot} {a : Ev.Arrow} (hd : q.dots = pd ++ [d]) (ha : q.arrows = pa ++ [a]) : chkQ (Ev.Query.mk pd pa [] [zItem] false) = 0 := by
 obtain ⟨⟨h1, h5⟩, hw, hl, hD, hA, b, hn, _⟩ := chkQ_0 h
 rw [hd, ha] at hl
 simp only [List.length_append, List.length_singleton] at hl
 rw [hd] at h5
 simp only [List.length_append, List.length_singleton] at h5
 have hD' : pd.all dtB = true := by rw [hd, List.all_append, Bool.and_eq_true] at hD; exact hD.1
 have hA' : pa.all arB = true := by rw [ha, List.all_append, Bool.and_eq_true] at hA; exact hA.1
 have hn' : nmA pa (nmD pd []) ≠ none := by
  rw [hd, ha] at hn
  exact s0e pa _ _ (fun j hj => b1o pd d [] j hj) (r0z pa a _ (by rw [hn]; simp))
 obtain ⟨b', hb'⟩ := Option.ne_none_iff_exists'.1 hn'
 unfold chkQ
 dsimp only
 rw [decide_eq_false (by omega), decide_eq_false (by omega), decide_eq_false (by simp), decide_eq_false (by simp), decide_eq_false (by simp), show ((pa.length : Int) != (pd.length : Int) - 1) = false by rw [show (pd.length : Int) - 1 = (pa.length : Int) by omega]; simp, hD', hA', hb']
 show (bif whF b' [] != 0 then whF b' [] else itF b' [zItem] []) = 0
 rw [z_item]
 rfl
theorem v0g (g : Graph) (pass : List Int → Bool) (z : Ev.Dot × Ev.Arrow × List Ev.Pair) : ∀ (rem : List (Ev.Dot × Ev.Arrow × List Ev.Pair)) (pre : List Ev.Dot) (ds es : List Int), ∀ w ∈ waysR g (finF pass) (rem ++ [z]) pre ds es,
  ∃ xs ys x e, w = (ds ++ xs ++ [x]) ++ (es ++ ys ++ [e]) ∧ xs.length = rem.length ∧ ys.length = rem.length ∧ (ds ++ xs) ++ (es ++ ys) ∈ waysR g (finF fun _ => true) rem pre ds es
 | [], pre, ds, es, w, h => by
  obtain ⟨d, a, ks⟩ := z
  rw [List.nil_append, waysR] at h
  obtain ⟨x, hx, h⟩ := List.mem_flatMap.1 h
  cases hc : dotB d x && fitL pre ds d.name x.id with
  | false => rw [hc, cond_false] at h; cases h
  | true =>
   rw [hc, cond_true] at h
   obtain ⟨e, he, h⟩ := List.mem_flatMap.1 h
   rw [waysR] at h
   unfold finF at h
   cases hp : pass ((ds ++ [x.id]) ++ (es ++ [e])) with
   | false => rw [hp, cond_false] at h; cases h
   | true =>
    rw [hp, cond_true, List.mem_singleton] at h
    exact ⟨[], [], x.id, e, by rw [h]; simp, rfl, rfl, by rw [waysR]; simp [finF]⟩
 | (d, a, ks) :: r, pre, ds, es, w, h => by
  rw [List.cons_append, waysR] at h
  obtain ⟨x, hx, h⟩ := List.mem_flatMap.1 h
  cases hc : dotB d x && fitL pre ds d.name x.id with
  | false => rw [hc, cond_false] at h; cases h
  | true =>
   rw [hc, cond_true] at h
   obtain ⟨e, he, h⟩ := List.mem_flatMap.1 h
   obtain ⟨xs, ys, x', e', h1, h2, h3, h4⟩ := v0g g pass z r _ _ _ w h
   refine ⟨x.id :: xs, e :: ys, x', e', by rw [h1]; simp, by simp [h2], by simp [h3], ?_⟩
   rw [waysR]
   refine List.mem_flatMap.2 ⟨x, hx, ?_⟩
   rw [hc, cond_true]
   refine List.mem_flatMap.2 ⟨e, he, ?_⟩
   simpa using h4
theorem c1z (g : Graph) (pass : List Int → Bool) (d : Ev.Dot) (z : Ev.Dot × Ev.Arrow × List Ev.Pair) (rem : List (Ev.Dot × Ev.Arrow × List Ev.Pair)) (w : List Int) (h : w ∈ waysT g (finF pass) d (rem ++ [z])) :
  ∃ xs ys x e, w = (xs ++ [x]) ++ (ys ++ [e]) ∧ xs.length = rem.length + 1 ∧ ys.length = rem.length ∧ xs ++ ys ∈ waysT g (finF fun _ => true) d rem := by
 obtain ⟨x, hx, h⟩ := List.mem_flatMap.1 h
 cases hc : dotB d x && fitL [] [] d.name x.id with
 | false => rw [hc, cond_false] at h; cases h
 | true =>
  rw [hc, cond_true] at h
  obtain ⟨xs, ys, x', e', h1, h2, h3, h4⟩ := v0g g pass z rem _ _ _ w h
  refine ⟨x.id :: xs, ys, x', e', by rw [h1]; simp, by simp [h2], h3, ?_⟩
  refine List.mem_flatMap.2 ⟨x, hx, ?_⟩
  rw [hc, cond_true]
  simpa using h4
end Pure
namespace Pure
open Esp Ev Go
set_option linter.unusedSimpArgs false
set_option linter.unusedVariables false
theorem d1z (k : Ev.Pair) : Rc (stp ⟨#[]⟩ line3G.edges) k.p k.q ↔ k ∈ p123 := by
 have e : ∀ {a b : Int}, stp ⟨#[]⟩ line3G.edges a b ↔ (a = 1 ∧ b = 2) ∨ (a = 2 ∧ b = 3) := by
  intro a b
  unfold stp
  constructor
  ·rintro ⟨x, hx, _, rfl, rfl⟩
   simp only [line3G, List.mem_cons, List.not_mem_nil, or_false] at hx
   rcases hx with rfl | rfl <;> simp
  ·rintro (⟨rfl, rfl⟩ | ⟨rfl, rfl⟩)
   ·exact ⟨.mk 4 1 2 ⟨#[75]⟩ [], by simp [line3G], by kernel_rfl, rfl, rfl⟩
   ·exact ⟨.mk 5 2 3 ⟨#[75]⟩ [], by simp [line3G], by kernel_rfl, rfl, rfl⟩
 obtain ⟨p, q⟩ := k
 have hm : Ev.Pair.mk p q ∈ p123 ↔ (p = 1 ∧ q = 2) ∨ (p = 1 ∧ q = 3) ∨ (p = 2 ∧ q = 3) := by simp [p123]
 rw [hm]
 constructor
 ·intro w
  have : ∀ {a b : Int}, W (stp ⟨#[]⟩ line3G.edges) (fun _ => True) a b → (a = 1 ∧ b = 2) ∨ (a = 1 ∧ b = 3) ∨ (a = 2 ∧ b = 3) := by
   intro a b w
   induction w with
   | one h => have := e.1 h; omega
   | two _ _ _ i j => omega
  exact this w
 ·rintro (⟨rfl, rfl⟩ | ⟨rfl, rfl⟩ | ⟨rfl, rfl⟩)
  ·exact .one (e.2 (by simp))
  ·exact Rc.trans (c := 2) (.one (e.2 (.inl ⟨rfl, rfl⟩))) (.one (e.2 (.inr ⟨rfl, rfl⟩)))
  ·exact .one (e.2 (by simp))
noncomputable def v2 : Val := ((q26z (2, ())).getD (.mk 0 0 ⟨#[]⟩ [], ())).1
noncomputable def t2 : Term := ((q23z ((⟨#[60]⟩ : ByteArray), ([(Ev.Term.mk 2 (Ev.Val.mk 0 0 (⟨#[]⟩ : ByteArray) ([] : List Ev.Val)) (⟨#[97]⟩ : ByteArray) ([] : List Ev.Term)), (Ev.Term.mk 1 (Ev.Val.mk v2.kind v2.n v2.s v2.l) (⟨#[]⟩ : ByteArray) ([] : List Ev.Term))] : List Ev.Term), ())).getD (.mk 0 (.mk 0 0 ⟨#[]⟩ []) ⟨#[]⟩ [], ())).1
noncomputable def q3 : Query := (Ev.Query.mk ([(Ev.Dot.mk (⟨#[97]⟩ : ByteArray) (⟨#[]⟩ : ByteArray)), (Ev.Dot.mk (⟨#[]⟩ : ByteArray) (⟨#[]⟩ : ByteArray))] : List Ev.Dot) ([(Ev.Arrow.mk (⟨#[]⟩ : ByteArray) (⟨#[]⟩ : ByteArray) false true)] : List Ev.Arrow) ([(Ev.Term.mk t2.kind (Ev.Val.mk t2.v.kind t2.v.n t2.v.s t2.v.l) t2.name t2.a)] : List Ev.Term) ([(Ev.Item.mk (⟨#[110]⟩ : ByteArray) (⟨#[]⟩ : ByteArray) (Ev.Term.mk 2 (Ev.Val.mk 0 0 (⟨#[]⟩ : ByteArray) ([] : List Ev.Val)) (⟨#[97]⟩ : ByteArray) ([] : List Ev.Term)))] : List Ev.Item) false)
theorem q3_chk : chkQ q3 = 0 := by kernel_rfl
theorem g1g : gOk line3G := by
 unfold gOk line3G
 simp [nOk, eOk, maxLen, wfI]
 decide
theorem y0w (g : Graph) (a : Ev.Arrow) (ks ks' : List Ev.Pair) (h : ∀ k, k ∈ ks ↔ k ∈ ks') (x y : Int) : stepA g a ks x y = stepA g a ks' x y := by
 have : ∀ fr tg, stepE g a ks fr tg = stepE g a ks' fr tg := by
  intro fr tg
  unfold stepE
  rw [decide_eq_decide.2 (h (Ev.Pair.mk fr tg))]
 unfold stepA
 rw [this, this]
theorem e1x (g : Graph) (fin : List Int → List Int → List (List Int)) (d d2 : Ev.Dot) (a : Ev.Arrow) (ks ks' : List Ev.Pair) (h : ∀ k, k ∈ ks ↔ k ∈ ks') : waysT g fin d [(d2, a, ks)] = waysT g fin d [(d2, a, ks')] := by
 unfold waysT waysR waysR
 simp only [y0w g a ks ks' h]
theorem w3 : waysT line3G (finF (passF q3 line3G)) (Ev.Dot.mk ⟨#[97]⟩ ⟨#[]⟩) [(Ev.Dot.mk ⟨#[]⟩ ⟨#[]⟩, Ev.Arrow.mk ⟨#[]⟩ ⟨#[]⟩ false true, p123)] = [[1, 2, 0], [1, 3, 0]] := by kernel_rfl
theorem eqf3 (n : Nat) : q4z (n + 100) ([[1, 2, 0], [1, 3, 0]], [[1, 2, 0], [1, 3, 0]], ()) = some (true, ()) := by kernel_rfl
theorem d1h : ∃ N, ∀ n, N ≤ n → q15z n () = some (true, ()) := by
 have ht : ∀ t ∈ q3.wher, tOk t := by
  have e : q3.wher = [.mk 4 (.mk 0 0 ⟨#[]⟩ []) ⟨#[60]⟩ [.mk 2 (.mk 0 0 ⟨#[]⟩ []) ⟨#[97]⟩ [], .mk 1 v2 ⟨#[]⟩ []]] := by kernel_rfl
  rw [e]
  intro t h
  rw [List.mem_singleton] at h
  subst h
  have ev : v2 = .mk 2 2 ⟨#[]⟩ [] := by kernel_rfl
  rw [ev]
  simp [tOk, tOks, vOk, vOks, maxLen, wfI]
  decide
 obtain ⟨⟨h1, h5⟩, hw, ha, _, _, b, _, hc⟩ := chkQ_0 q3_chk
 obtain ⟨N0, h0, hp⟩ := y0z ⟨g1g, m0v⟩ b ht hc hw (by omega) ha
 refine ⟨N0 + 110100, fun n hn => ?_⟩
 have em := d0y q3 line3G m0v (passF q3 line3G) N0 h0 hp (by omega) h1 ha n (by omega) (by rw [d0l q3 n (by omega), q3_chk])
 have ew : waysA n q3 line3G (passF q3 line3G) = [[1, 2, 0], [1, 3, 0]] :=
  (e1x line3G _ _ _ _ (rsK n line3G ⟨#[]⟩) p123 (fun k => ((rsK_ok n (by omega) line3G ⟨#[]⟩ m0v).2 k).trans (d1z k))).trans w3
 rw [ew, decide_eq_true (by simp), cond_true, z0t ltLL_ok (.refl _) (by decide)] at em
 obtain ⟨m, rfl⟩ : ∃ m, n = m + 100 := ⟨n - 100, by omega⟩
 unfold q15z
 dsimp only
 rw [show q26z (2, ()) = some (v2, ()) from rfl, Option.bind_some]
 dsimp only
 rw [show q23z _ = some (t2, ()) from rfl, Option.bind_some]
 dsimp only
 rw [n1b, Option.bind_some]
 refine Eq.trans (congrArg (fun z => Option.bind z _) em) ?_
 rw [Option.bind_some]
 dsimp only
 rw [show ((0 : Int) == 0) = true from rfl, cond_true, eqf3]
 rfl
end Pure
namespace Pure
open Esp Ev Go
set_option linter.unusedSimpArgs false
set_option linter.unusedVariables false
theorem d1j (q : Query) (g : Graph) (n : Nat) (hn : 400 ≤ n) (h : chkQ q ≠ 0) : a0x n (q, g, ()) = some ([], chkQ q, ()) := by
 unfold a0x
 dsimp only
 rw [b0b, d0l q n hn, Option.bind_some]
 dsimp only
 rw [show (chkQ q != 0) = true by simpa [bne] using h, cond_true]
theorem c1m (q : Query) (g : Graph) (n : Nat) (hn : 400 ≤ n) (hq : chkQ q = 0) (h : chkG g ≠ 0) : a0x n (q, g, ()) = some ([], chkG g, ()) := by
 unfold a0x
 dsimp only
 rw [b0b, d0l q n hn, Option.bind_some, hq]
 dsimp only
 rw [show ((0 : Int) != 0) = false from rfl, cond_false, b0d, u0q g n (by omega), Option.bind_some]
 dsimp only
 rw [show (chkG g != 0) = true by simpa [bne] using h, cond_true]
theorem p0e (n : Nat) (N : Nat) (hN : N ≤ 100) (h2 : 2 ≤ N) (m : List (List Int)) (hn : 5000 ≤ n) (hs : m.Pairwise (fun x y => ltLL y x = false)) (hl : m.length ≤ 2000) (hr : ∀ w ∈ m, w.length ≤ 1000)
  (K : Int × (List (List Int)) × Unit → Option (Bool × Unit)) : ∀ (l : List (List Int)) (i : Int), (∀ w ∈ l, ∃ xs ys x e, w = (xs ++ [x]) ++ (ys ++ [e]) ∧ xs.length + 1 = N ∧ ys.length + 2 = N ∧ xs ++ ys ∈ m) →
   foldK (l0g n (fun (v26, _) => some (v26, ()))) K i l ((N : Int), m, ()) = K ((N : Int), m, ())
 | [], i, h => by rw [foldK]
 | w :: r, i, h => by
  have ih := p0e n N hN h2 m hn hs hl hr K r (i + 1) fun w hw => h w (by simp [hw])
  obtain ⟨xs, ys, x, e, hw, hx, hy, hm⟩ := h w (by simp)
  have e1 : lsl w 0 ((N : Int) - 1) = some xs := by
   unfold lsl
   rw [if_pos ⟨by omega, by omega, by rw [hw]; simp; omega⟩, hw, show ((N : Int) - 1 - 0).toNat = xs.length by omega]
   simp
  have e2 : lsl w (N : Int) (2 * (N : Int) - 2) = some ys := by
   unfold lsl
   rw [if_pos ⟨by omega, by omega, by rw [hw]; simp; omega⟩, hw, show (2 * (N : Int) - 2 - N).toNat = ys.length by omega, show (N : Int).toNat = (xs ++ [x]).length by simp; omega]
   simp
  obtain ⟨k, ek⟩ := bin_ok n m hs (by omega) hr (xs ++ ys) (by simp; omega) hm (by omega)
  rw [foldK]
  unfold l0g at ih ⊢
  dsimp only
  rw [wrap64 (by omega) (by omega), wrap64 (x := 2 * (N : Int)) (by omega) (by omega), wrap64 (by omega) (by omega), e1, Option.bind_some, e2, Option.bind_some, h1y n (by omega) xs ys (by omega) (by omega), Option.bind_some]
  dsimp only
  rw [ek, Option.bind_some]
  dsimp only
  rw [Bool.not_true, cond_false]
  exact ih
theorem r0c {q : Query} {g : Graph} (hg : gOk g) (ht : ∀ t ∈ q.wher, tOk t) : ∃ N, ∀ n, N ≤ n → q11z n (q, g, ()) = some (true, ()) := by
 obtain ⟨N1, hm⟩ := d1h
 have early : ∀ n, N1 ≤ n → ∀ (l : List (List Int)) (e : Int), a0x n (q, g, ()) = some (l, e, ()) → (e ≠ 0 ∨ q.dots.length < 2) → q11z n (q, g, ()) = some (true, ()) := by
  intro n hn l e he h
  unfold q11z
  dsimp only
  rw [b0b, b0d, he, Option.bind_some]
  dsimp only
  rw [hm n hn, Option.bind_some]
  dsimp only
  have : (((!true) || ((e : Int) != 0)) || (decide (((q.dots.length : Int) : Int) < 2))) = true := by
   rcases h with h | h
   ·rw [show (e != 0) = true by simpa [bne] using h]; rfl
   ·rw [decide_eq_true (by omega), Bool.or_true]
  rw [this, cond_true]
  rfl
 by_cases hq : chkQ q = 0
 ·by_cases hc : chkG g = 0
  ·obtain ⟨⟨h1, h5⟩, hw, ha, _, _, b, _, htc⟩ := chkQ_0 hq
   obtain ⟨N0, h0, hp⟩ := y0z ⟨hg, hc⟩ b ht htc hw (by omega) ha
   by_cases h2 : q.dots.length < 2
   ·refine ⟨N1 + (N0 + 110000), fun n hn => ?_⟩
    have hn1 : N1 ≤ n := Nat.le_trans (Nat.le_add_right _ _) hn
    have hn0 : N0 + 110000 ≤ n := Nat.le_trans (Nat.le_add_left _ _) hn
    have hn4 : 5000 ≤ n := Nat.le_trans (Nat.le_trans (by decide) (Nat.le_add_left _ _)) hn0
    clear hn
    have em := d0y q g hc (passF q g) N0 h0 hp (by omega) h1 ha n hn0 (by rw [d0l q n (by omega), hq])
    cases hle : decide ((waysA n q g (passF q g)).length ≤ 2000) with
    | true => rw [hle, cond_true] at em; exact early n hn1 _ _ em (.inr h2)
    | false => rw [hle, cond_false] at em; exact early n hn1 _ _ em (.inr h2)
   ·obtain ⟨pd, d, hd⟩ : ∃ pd d, q.dots = pd ++ [d] := ⟨q.dots.dropLast, q.dots.getLast (by intro h; rw [h] at h1; simp at h1), (List.dropLast_concat_getLast _).symm⟩
    obtain ⟨pa, a, har⟩ : ∃ pa a, q.arrows = pa ++ [a] := ⟨q.arrows.dropLast, q.arrows.getLast (by intro h; rw [h] at ha; simp at ha; omega), (List.dropLast_concat_getLast _).symm⟩
    have hdl : q.dots.length = pd.length + 1 := by rw [hd]; simp
    have hal : q.arrows.length = pa.length + 1 := by rw [har]; simp
    have hpc := n1m hq hd har
    obtain ⟨N2, h02, hp2⟩ := y0z (q := Ev.Query.mk pd pa [] [zItem] false) ⟨hg, hc⟩ [] (fun t h => by cases h) (fun t h => by cases h) (by simp) (by show pd.length ≤ 100; omega) (by show pa.length + 1 = pd.length; omega)
    have hpt : passF (Ev.Query.mk pd pa [] [zItem] false) g = fun _ => true := rfl
    rw [hpt] at hp2
    refine ⟨N1 + ((N0 + 110000) + (N2 + 110000)), fun n hn => ?_⟩
    have hn1 : N1 ≤ n := Nat.le_trans (Nat.le_add_right _ _) hn
    have hn0' : (N0 + 110000) + (N2 + 110000) ≤ n := Nat.le_trans (Nat.le_add_left _ _) hn
    have hn0 : N0 + 110000 ≤ n := Nat.le_trans (Nat.le_add_right _ _) hn0'
    have hn2 : N2 + 110000 ≤ n := Nat.le_trans (Nat.le_add_left _ _) hn0'
    have hn4 : 5000 ≤ n := Nat.le_trans (Nat.le_trans (by decide) (Nat.le_add_left _ _)) hn0
    clear hn hn0'
    have em := d0y q g hc (passF q g) N0 h0 hp (by omega) h1 ha n hn0 (by rw [d0l q n (by omega), hq])
    have em2 := d0y (Ev.Query.mk pd pa [] [zItem] false) g hc (fun _ => true) N2 h02 hp2 (by show pd.length ≤ 100; omega) (by show 1 ≤ pd.length; omega) (by show pa.length + 1 = pd.length; omega) n hn2 (by rw [d0l _ n (by omega), hpc])
    cases hle : decide ((waysA n q g (passF q g)).length ≤ 2000) with
    | false => rw [hle, cond_false] at em; exact early n hn1 _ _ em (.inl (by decide))
    | true =>
     rw [hle, cond_true] at em
     have hle := of_decide_eq_true hle
     unfold q11z
     dsimp only
     rw [b0b, b0d, em, Option.bind_some]
     dsimp only
     rw [hm n hn1, Option.bind_some]
     dsimp only
     rw [show (((!true) || ((0 : Int) != 0)) || (decide (((q.dots.length : Int) : Int) < 2))) = false by rw [decide_eq_false (by omega)]; rfl, cond_false]
     have e1 : lsl q.dots 0 ((q.dots.length : Int) - 1) = some pd := by
      unfold lsl
      rw [if_pos ⟨by omega, by omega, by omega⟩, show ((q.dots.length : Int) - 1 - 0).toNat = pd.length by omega, hd]
      simp
     have e2 : lsl q.arrows 0 ((q.dots.length : Int) - 2) = some pa := by
      unfold lsl
      rw [if_pos ⟨by omega, by omega, by omega⟩, show ((q.dots.length : Int) - 2 - 0).toNat = pa.length by omega, har]
      simp
     rw [wrap64 (by omega) (by omega), wrap64 (by omega) (by omega), e1, Option.bind_some, e2, Option.bind_some]
     refine Eq.trans (congrArg (fun z => Option.bind z _) em2) ?_
     cases hle2 : decide ((waysA n (Ev.Query.mk pd pa [] [zItem] false) g (fun _ => true)).length ≤ 2000) with
     | false => rfl
     | true =>
      have hle2 := of_decide_eq_true hle2
      rw [cond_true, Option.bind_some]
      dsimp only
      rw [show ((0 : Int) != 0) = false from rfl, cond_false, i0f n _ _ _ n _ _ (by rw [d0f]; omega) (by rw [d0f]; omega)]
      obtain ⟨d0, r', hpd⟩ : ∃ d0 r', pd = d0 :: r' := by
       cases pd with
       | nil => simp at hdl; omega
       | cons d0 r' => exact ⟨d0, r', rfl⟩
      have hrl : r'.length = pa.length := by rw [hpd] at hdl; simp at hdl; omega
      have hWq : waysA n q g (passF q g) = waysT g (finF (passF q g)) d0 (remOf n g r' pa ++ [(d, a, rk n g a)]) := by
       unfold waysA
       rw [hd, hpd, har]
       show waysT g _ d0 (remOf n g (r' ++ [d]) (pa ++ [a])) = _
       unfold remOf
       rw [List.zip_append hrl, List.map_append]
       rfl
      have hWp : waysA n (Ev.Query.mk pd pa [] [zItem] false) g (fun _ => true) = waysT g (finF fun _ => true) d0 (remOf n g r' pa) := by
       unfold waysA
       dsimp only
       rw [hpd]
      have hremL : (remOf n g r' pa).length = pa.length := by unfold remOf; rw [List.length_map, List.length_zip]; omega
      have hrow : ∀ w ∈ sortL ltLL (waysA n (Ev.Query.mk pd pa [] [zItem] false) g (fun _ => true)), w.length ≤ 1000 := by
       intro w hw
       have hw := (d0t ltLL _).mem_iff.1 hw
       rw [hWp] at hw
       rw [u0d g _ d0 _ w hw, hremL]
       omega
      refine Eq.trans (p0e n q.dots.length (by omega) (by omega) _ (by omega) (p0c ltLL_ok _) (by rw [d0f]; exact hle2) hrow _ _ 0 fun w hw => ?_) rfl
      have hw := (d0t ltLL _).mem_iff.1 hw
      rw [hWq] at hw
      obtain ⟨xs, ys, x, e, h3, h4, h5', h6⟩ := c1z g _ d0 _ _ w hw
      refine ⟨xs, ys, x, e, h3, by omega, by omega, (d0t ltLL _).mem_iff.2 ?_⟩
      rw [hWp]
      exact h6
  ·exact ⟨N1 + 400, fun n hn => early n (by omega) _ _ (c1m q g n (by omega) hq hc) (.inl hc)⟩
 ·exact ⟨N1 + 400, fun n hn => early n (by omega) _ _ (d1j q g n (by omega) hq) (.inl hq)⟩
end Pure

/- ESP, part 1: abstract values, and what it is that a world holds them. Over any program. -/
import Derived.Laws.AppendOwn
import Derived.Laws.Cells
import Derived.Calls
namespace Esp
open Go
set_option linter.unusedSimpArgs false
set_option linter.unusedVariables false

/-- frozen data: a tree of what nobody writes any more -/
inductive D where
  | sc (v : Value)
  | sl (e n : Nat) (cs : List D)
  | rp (cs : List D)
  deriving Inhabited

/-- one cell: frozen data, a slice that is owned, a pointer into an object, a function value -/
inductive AC where
  | d (x : D)
  | own (k : Nat)
  | ptr (k off : Nat)
  | fn (f : Fn) (fs cs : List AC)
  | junk
  deriving Inhabited

inductive AV where
  | cell (c : AC)
  | agg (cs : List AC)
  | aggD (cs : List D)
  | tup (vs : List AV)
  | whn (g : Nat) (want : Bool) (x : AV)
  | junk
  deriving Inhabited

inductive AObj where
  | gone
  | box (cs : List AC)
  | arr (t : TypeId) (e n : Nat) (cs : List D)
  deriving Inhabited

inductive Loc where
  | box (b : Nat)
  | arr (u : Value)

def Loc.blk : Loc → Option Nat
  | .box b => some b
  | .arr u => u.ownBlock

abbrev Env := Nat → Option Loc

def live (ρ : Env) (b : Nat) : Prop := ∃ k l, ρ k = some l ∧ l.blk = some b

inductive RelD (w : World) (F : Nat → Prop) : D → Value → Prop
  | sc (v : Value) (h : v.oneCell' = true) : RelD w F (.sc v) v
  | nil (e : Nat) (a : Option Addr) (cap : Nat) : RelD w F (.sl e 0 []) (.slice a 0 cap)
  | sl (e n : Nat) (cs : List D) (b off cap : Nat) (c : Nat → Value) (hF : F b) (hl : cs.length = n * e) (hcap : n ≤ cap)
      (hc : ∀ i, i < cs.length → w.cell? ⟨b, off + i, none⟩ = some (c i)) (hr : ∀ i (h : i < cs.length), RelD w F cs[i] (c i)) :
      RelD w F (.sl e n cs) (.slice (some ⟨b, off, none⟩) n cap)
  | rp (cs : List D) (b off : Nat) (c : Nat → Value) (hF : F b)
      (hc : ∀ i, i < cs.length → w.cell? ⟨b, off + i, none⟩ = some (c i)) (hr : ∀ i (h : i < cs.length), RelD w F cs[i] (c i)) :
      RelD w F (.rp cs) (.pointer (some ⟨b, off, none⟩))

inductive RelAC (w : World) (F : Nat → Prop) (ρ : Env) : AC → Value → Prop
  | d (x : D) (v : Value) (h : RelD w F x v) : RelAC w F ρ (.d x) v
  | own (k : Nat) (v : Value) (h : ∀ u, ρ k = some (.arr u) → v = u) : RelAC w F ρ (.own k) v
  | ptr (k off : Nat) (v : Value) (h : ∀ b, ρ k = some (.box b) → v = .pointer (some ⟨b, off, none⟩)) : RelAC w F ρ (.ptr k off) v
  | fn (f : Fn) (fs cs : List AC) (vs us : Array Value) (h1 : vs.size = fs.length) (h2 : us.size = cs.length)
      (hf : ∀ i (h : i < fs.length), RelAC w F ρ fs[i] (vs.getD i undef)) (hc : ∀ i (h : i < cs.length), RelAC w F ρ cs[i] (us.getD i undef)) :
      RelAC w F ρ (.fn f fs cs) (.func f vs us)
  | junk (v : Value) : RelAC w F ρ .junk v

inductive RelAV (w : World) (F : Nat → Prop) (ρ : Env) (tm : Array Value) : AV → Value → Prop
  | cell (c : AC) (v : Value) (h : RelAC w F ρ c v) : RelAV w F ρ tm (.cell c) v
  | agg (cs : List AC) (arr : Array Value) (hs : arr.size = cs.length) (h : ∀ i (h : i < cs.length), RelAC w F ρ cs[i] (arr.getD i undef)) : RelAV w F ρ tm (.agg cs) (.agg arr)
  | aggD (cs : List D) (arr : Array Value) (hs : arr.size = cs.length) (h : ∀ i (h : i < cs.length), RelD w F cs[i] (arr.getD i undef)) : RelAV w F ρ tm (.aggD cs) (.agg arr)
  | tup (vs : List AV) (arr : Array Value) (hs : arr.size = vs.length) (h : ∀ i (h : i < vs.length), RelAV w F ρ tm vs[i] (arr.getD i undef)) : RelAV w F ρ tm (.tup vs) (.tuple arr)
  | whn (g : Nat) (want : Bool) (x : AV) (v : Value) (h : tm.getD g undef = .bool want → RelAV w F ρ tm x v) (h' : tm.getD g undef ≠ .bool want → v = undef) : RelAV w F ρ tm (.whn g want x) v
  | junk (v : Value) : RelAV w F ρ tm .junk v

/-- nothing frozen beside the row's own cells -/
def freeFz (fz : Nat × Nat) (n : Nat) : Prop := fz.2 ≤ fz.1 ∨ n ≤ fz.1

inductive RelOb (w : World) (F : Nat → Prop) (ρ : Env) (k : Nat) : AObj → Prop
  | gone (h : ρ k = none) : RelOb w F ρ k .gone
  | box (cs : List AC) (b : Nat) (c : Array Value) (t : TypeId) (hk : ρ k = some (.box b)) (hb : w.heap[b]? = some (.cells c t (0, 0)))
      (hs : c.size = cs.length) (h : ∀ i (h : i < cs.length), RelAC w F ρ cs[i] (c.getD i undef)) : RelOb w F ρ k (.box cs)
  | arr (t : TypeId) (e n : Nat) (cs : List D) (u : Value) (xs : List Value) (hk : ρ k = some (.arr u)) (ho : w.ownsRow 0 t e u n xs)
      (hs : xs.length = cs.length) (h : ∀ i (h : i < cs.length), RelD w F cs[i] (xs.getD i undef)) : RelOb w F ρ k (.arr t e n cs)

def lkF (l : List (Nat × AV)) (i : Nat) : AV :=
  match l with
  | [] => .junk
  | (j, v) :: r => bif Nat.beq i j then v else lkF r i
def lkO (l : List (Nat × AObj)) (i : Nat) : AObj :=
  match l with
  | [] => .gone
  | (j, v) :: r => bif Nat.beq i j then v else lkO r i

structure ASt where
  fr : List (Nat × AV)
  ob : List (Nat × AObj)

structure RelW (F : Nat → Prop) (ρ : Env) (w : World) : Prop where
  dis : ∀ b, F b → ¬ live ρ b
  lt : ∀ b, F b → b < w.heap.size
  inj : ∀ k k' l l' b, ρ k = some l → ρ k' = some l' → l.blk = some b → l'.blk = some b → k = k'

structure Rel (N : Nat) (F : Nat → Prop) (ρ : Env) (st : ASt) (a : Act) (w : World) : Prop where
  rw : RelW F ρ w
  fr : ∀ i, RelAV w F ρ a.tmps (lkF st.fr i) (a.tmps.getD i undef)
  ob : ∀ k, RelOb w F ρ k (lkO st.ob k)
  sz : a.tmps.size = N
  df : a.defers = [] ∧ N ≤ 1000000

/-- a great key keeps its place -/
def Stab : Option Loc → Option Loc → Prop
  | _, none => True
  | some (.box b), some (.box b') => b' = b
  | some (.arr _), some (.arr _) => True
  | _, _ => False
theorem Stab.refl (o : Option Loc) : Stab o o := by
  cases o with
  | none => trivial
  | some l => cases l <;> simp [Stab]
theorem Stab.trans {a b c : Option Loc} (h : Stab a b) (k : Stab b c) : Stab a c := by
  cases c with
  | none => cases a <;> simp [Stab]
  | some c => cases b with
    | none => simp [Stab] at k
    | some b => cases a with
      | none => simp [Stab] at h
      | some a => cases a <;> cases b <;> cases c <;> simp_all [Stab]

/-- what a step may do to the world -/
structure Fr (F : Nat → Prop) (ρ : Env) (w : World) (F' : Nat → Prop) (ρ' : Env) (w' : World) : Prop where
  os : w'.os = w.os
  tape : w'.tape = w.tape
  output : w'.output = w.output
  size : w.heap.size ≤ w'.heap.size
  sub : ∀ b, F b → F' b
  keep : ∀ b, b < w.heap.size → ¬ live ρ b → w'.heap[b]? = w.heap[b]?
  old : ∀ b, b < w.heap.size → (F' b ∨ live ρ' b) → (F b ∨ live ρ b)
  stab : ∀ k, 1000000 ≤ k → Stab (ρ k) (ρ' k)

theorem Fr.refl (F : Nat → Prop) (ρ : Env) (w : World) : Fr F ρ w F ρ w :=
  ⟨rfl, rfl, rfl, Nat.le_refl _, fun _ h => h, fun _ _ _ => rfl, fun _ _ h => h, fun _ _ => Stab.refl _⟩

theorem Fr.trans {F ρ w F1 ρ1 w1 F2 ρ2 w2} (h : Fr F ρ w F1 ρ1 w1) (hd1 : ∀ b, F1 b → ¬ live ρ1 b) (k : Fr F1 ρ1 w1 F2 ρ2 w2) : Fr F ρ w F2 ρ2 w2 where
  os := k.os.trans h.os
  tape := k.tape.trans h.tape
  output := k.output.trans h.output
  size := Nat.le_trans h.size k.size
  sub b hb := k.sub b (h.sub b hb)
  keep b hb hl := by
    have e := h.keep b hb hl
    rw [← e]
    refine k.keep b (Nat.lt_of_lt_of_le hb h.size) fun hl1 => ?_
    rcases h.old b hb (.inr hl1) with hf | hl'
    · exact hd1 b (h.sub b hf) hl1
    · exact hl hl'
  old b hb hh := h.old b hb (k.old b (Nat.lt_of_lt_of_le hb h.size) hh)
  stab k1 hk := (h.stab k1 hk).trans (k.stab k1 hk)

theorem cell?_eq {w w' : World} {b off : Nat} {s : Option Nat} (h : w'.heap[b]? = w.heap[b]?) : w'.cell? ⟨b, off, s⟩ = w.cell? ⟨b, off, s⟩ := by
  simp [World.cell?, h]

theorem RelD.mono {w w' : World} {F F' : Nat → Prop} (hF : ∀ b, F b → w'.heap[b]? = w.heap[b]?) (hs : ∀ b, F b → F' b) {x : D} {v : Value} (h : RelD w F x v) : RelD w' F' x v := by
  induction h with
  | sc v h => exact .sc v h
  | nil e a cap => exact .nil e a cap
  | sl e n cs b off cap c hb hl hcap hc hr ih =>
    exact .sl e n cs b off cap c (hs _ hb) hl hcap (fun i hi => (cell?_eq (hF b hb)).trans (hc i hi)) ih
  | rp cs b off c hb hc hr ih =>
    exact .rp cs b off c (hs _ hb) (fun i hi => (cell?_eq (hF b hb)).trans (hc i hi)) ih

theorem RelAC.mono {w w' : World} {F F' : Nat → Prop} {ρ ρ' : Env} (hF : ∀ b, F b → w'.heap[b]? = w.heap[b]?) (hs : ∀ b, F b → F' b) (hρ : ∀ k l, ρ' k = some l → ρ k = some l)
    {x : AC} {v : Value} (h : RelAC w F ρ x v) : RelAC w' F' ρ' x v := by
  induction h with
  | d x v h => exact .d x v (h.mono hF hs)
  | own k v h => exact .own k v fun u hu => h u (hρ _ _ hu)
  | ptr k off v h => exact .ptr k off v fun b hb => h b (hρ _ _ hb)
  | fn f fs cs vs us h1 h2 hf hc ih1 ih2 => exact .fn f fs cs vs us h1 h2 ih1 ih2
  | junk v => exact .junk v

theorem RelAV.mono {w w' : World} {F F' : Nat → Prop} {ρ ρ' : Env} {tm : Array Value} (hF : ∀ b, F b → w'.heap[b]? = w.heap[b]?) (hs : ∀ b, F b → F' b) (hρ : ∀ k l, ρ' k = some l → ρ k = some l)
    {x : AV} {v : Value} (h : RelAV w F ρ tm x v) : RelAV w' F' ρ' tm x v := by
  induction h with
  | cell c v h => exact .cell c v (h.mono hF hs hρ)
  | agg cs arr hz h => exact .agg cs arr hz fun i hi => (h i hi).mono hF hs hρ
  | aggD cs arr hz h => exact .aggD cs arr hz fun i hi => (h i hi).mono hF hs
  | tup vs arr hz h ih => exact .tup vs arr hz ih
  | whn g want x v h h' ih => exact .whn g want x v ih h'
  | junk v => exact .junk v

/-! ## references, and striking them -/

mutual
def AC.refs (k : Nat) : AC → Bool
  | .d _ => false
  | .own j => Nat.beq j k
  | .ptr j _ => Nat.beq j k
  | .fn _ fs cs => AC.refsL k fs || AC.refsL k cs
  | .junk => false
def AC.refsL (k : Nat) : List AC → Bool
  | [] => false
  | c :: r => AC.refs k c || AC.refsL k r
end

def AC.kill (k : Nat) (c : AC) : AC := bif c.refs k then .junk else c

mutual
def AV.kill (k : Nat) : AV → AV
  | .cell c => .cell (c.kill k)
  | .agg cs => .agg (cs.map (AC.kill k))
  | .aggD cs => .aggD cs
  | .tup vs => .tup (AV.killL k vs)
  | .whn g w x => .whn g w (AV.kill k x)
  | .junk => .junk
def AV.killL (k : Nat) : List AV → List AV
  | [] => []
  | v :: r => AV.kill k v :: AV.killL k r
end

theorem AV.killL_eq (k : Nat) (l : List AV) : AV.killL k l = l.map (AV.kill k) := by
  induction l with
  | nil => simp [AV.killL]
  | cons v r ih => simp [AV.killL, ih]

def AObj.kill (k : Nat) : AObj → AObj
  | .box cs => .box (cs.map (AC.kill k))
  | o => o

/-- off the other keys the two say alike -/
def offK (k : Nat) (ρ ρ' : Env) : Prop := ∀ j, j ≠ k → ρ' j = ρ j

theorem AC.refsL_get {k : Nat} : ∀ {l : List AC}, AC.refsL k l = false → ∀ i (h : i < l.length), AC.refs k l[i] = false
  | [], _, i, h => by simp at h
  | c :: r, h, i, hi => by
    simp only [AC.refsL, Bool.or_eq_false_iff] at h
    cases i with
    | zero => simpa using h.1
    | succ i => simpa using AC.refsL_get h.2 i (by simpa using hi)

theorem RelAC.off {w : World} {F : Nat → Prop} {ρ ρ' : Env} {k : Nat} (ho : offK k ρ ρ') {x : AC} {v : Value} (h : RelAC w F ρ x v) (hx : x.refs k = false) : RelAC w F ρ' x v := by
  induction h with
  | d x v h => exact .d x v h
  | own j v h => exact .own j v fun u hu => h u (by rw [← ho j (Nat.ne_of_beq_eq_false hx)]; exact hu)
  | ptr j off v h => exact .ptr j off v fun b hb => h b (by rw [← ho j (Nat.ne_of_beq_eq_false hx)]; exact hb)
  | fn f fs cs vs us h1 h2 hf hc ih1 ih2 =>
    simp only [AC.refs, Bool.or_eq_false_iff] at hx
    exact .fn f fs cs vs us h1 h2 (fun i hi => ih1 i hi (AC.refsL_get hx.1 i hi)) (fun i hi => ih2 i hi (AC.refsL_get hx.2 i hi))
  | junk v => exact .junk v

theorem RelAC.kill {w : World} {F : Nat → Prop} {ρ ρ' : Env} {k : Nat} (ho : offK k ρ ρ') {x : AC} {v : Value} (h : RelAC w F ρ x v) : RelAC w F ρ' (x.kill k) v := by
  unfold AC.kill
  cases hx : x.refs k with
  | true => exact .junk v
  | false => exact h.off ho hx

theorem RelAV.kill {w : World} {F : Nat → Prop} {ρ ρ' : Env} {tm : Array Value} {k : Nat} (ho : offK k ρ ρ') {x : AV} {v : Value} (h : RelAV w F ρ tm x v) : RelAV w F ρ' tm (x.kill k) v := by
  induction h with
  | cell c v h => exact .cell _ v (h.kill ho)
  | agg cs arr hz h =>
    simp only [AV.kill]
    exact .agg _ arr (by simpa using hz) fun i hi => by simpa using (h i (by simpa using hi)).kill ho
  | aggD cs arr hz h => exact .aggD cs arr hz h
  | tup vs arr hz h ih =>
    simp only [AV.kill, AV.killL_eq]
    exact .tup _ arr (by simpa using hz) fun i hi => by simpa using ih i (by simpa using hi)
  | whn g want x v h h' ih => exact .whn g want _ v ih h'
  | junk v => exact .junk v

theorem RelOb.kill {w : World} {F : Nat → Prop} {ρ ρ' : Env} {k j : Nat} (ho : offK k ρ ρ') (hj : j ≠ k) {x : AObj} (h : RelOb w F ρ j x) : RelOb w F ρ' j (x.kill k) := by
  have e := ho j hj
  cases h with
  | gone h => exact .gone (e.trans h)
  | box cs b c t hk hb hs h => exact .box _ b c t (e.trans hk) hb (by simpa using hs) fun i hi => by simpa using (h i (by simpa using hi)).kill ho
  | arr t ee n cs u xs hk hown hs h => exact .arr t ee n cs u xs (e.trans hk) hown hs h

theorem RelD.oneCell {w : World} {F : Nat → Prop} {x : D} {v : Value} (h : RelD w F x v) : v.oneCell' = true := by
  cases h <;> first | assumption | rfl

end Esp

/- ESP, part 14: calls of functions by contracts over objects: pointers, slices of one's own, closures. -/
import Derived.Test.YtjecnkdkhniflaaDoorEspQ
namespace Esp
open Go
set_option linter.unusedSimpArgs false
set_option linter.unusedVariables false
variable [Tabs]

/-! ## renaming keys -/
mutual
def AC.ren (g : Nat → Option Nat) : AC → AC
  | .d x => .d x
  | .own k => match g k with
    | some j => .own j
    | none => .junk
  | .ptr k off => match g k with
    | some j => .ptr j off
    | none => .junk
  | .elt _ _ _ _ => .junk
  | .osl _ _ _ _ => .junk
  | .pn k => match g k with
    | some j => .pn j
    | none => .junk
  | .ifo t k => match g k with
    | some j => .ifo t j
    | none => .junk
  | .mpr k => match g k with
    | some j => .mpr j
    | none => .junk
  | .fn f fs cs => .fn f (AC.renL g fs) (AC.renL g cs)
  | .junk => .junk
def AC.renL (g : Nat → Option Nat) : List AC → List AC
  | [] => []
  | c :: r => AC.ren g c :: AC.renL g r
end
mutual
def AV.ren (g : Nat → Option Nat) : AV → AV
  | .cell c => .cell (c.ren g)
  | .agg cs => .agg (AC.renL g cs)
  | .aggD cs => .aggD cs
  | .tup vs => .tup (AV.renL g vs)
  | .whn h w x => .whn h w (AV.ren g x)
  | .junk => .junk
def AV.renL (g : Nat → Option Nat) : List AV → List AV
  | [] => []
  | v :: r => AV.ren g v :: AV.renL g r
end
def AObj.ren (g : Nat → Option Nat) : AObj → AObj
  | .box cs ty => .box (AC.renL g cs) ty
  | o => o
omit [Tabs] in
theorem AC.renL_eq (g : Nat → Option Nat) (l : List AC) : AC.renL g l = l.map (AC.ren g) := by
  induction l with
  | nil => rfl
  | cons v r ih => simp [AC.renL, ih]
omit [Tabs] in
theorem AV.renL_eq (g : Nat → Option Nat) (l : List AV) : AV.renL g l = l.map (AV.ren g) := by
  induction l with
  | nil => rfl
  | cons v r ih => simp [AV.renL, ih]

def RenOk (g : Nat → Option Nat) (ρ ρ' : Env) : Prop := ∀ k j l, g k = some j → ρ' j = some l → ρ k = some l

section
variable {w w' : World} {F F' : Nat → Prop} {ρ ρ' : Env} {tm : Array Value} {g : Nat → Option Nat}
omit [Tabs] in
theorem RelAC.ren (hg : RenOk g ρ ρ') {x : AC} {v : Value} (h : RelAC w F ρ x v) : RelAC w F ρ' (x.ren g) v := by
  induction h with
  | d x v h => exact .d x v h
  | own k v h =>
    simp only [AC.ren]
    cases e : g k with
    | none => exact .junk v
    | some j => exact .own j v fun u hu => h u (hg k j _ e hu)
  | ptr k off v h =>
    simp only [AC.ren]
    cases e : g k with
    | none => exact .junk v
    | some j => exact .ptr j off v fun b hb => h b (hg k j _ e hb)
  | elt => exact .junk _
  | osl => exact .junk _
  | pn k v h =>
    simp only [AC.ren]
    cases e : g k with
    | none => exact .junk v
    | some j => exact .pn j v fun b hb => h b (hg k j _ e hb)
  | ifo t k v h =>
    simp only [AC.ren]
    cases e : g k with
    | none => exact .junk v
    | some j => exact .ifo t j v fun b hb => h b (hg k j _ e hb)
  | mpr k v h =>
    simp only [AC.ren]
    cases e : g k with
    | none => exact .junk v
    | some j => exact .mpr j v fun b hb => h b (hg k j _ e hb)
  | fn f fs cs vs us h1 h2 hf hc ih1 ih2 =>
    simp only [AC.ren, AC.renL_eq]
    exact .fn f _ _ vs us (by simpa using h1) (by simpa using h2) (fun i hi => by simpa using ih1 i (by simpa using hi)) (fun i hi => by simpa using ih2 i (by simpa using hi))
  | junk v => exact .junk v
omit [Tabs] in
theorem RelAV.ren (hg : RenOk g ρ ρ') {x : AV} {v : Value} (h : RelAV w F ρ tm x v) : RelAV w F ρ' tm (x.ren g) v := by
  induction h with
  | cell c v h => exact .cell _ v (h.ren hg)
  | agg cs arr hz h =>
    simp only [AV.ren, AC.renL_eq]
    exact .agg _ arr (by simpa using hz) fun i hi => by simpa using (h i (by simpa using hi)).ren hg
  | aggD cs arr hz h => exact .aggD cs arr hz h
  | tup vs arr hz h ih =>
    simp only [AV.ren, AV.renL_eq]
    exact .tup _ arr (by simpa using hz) fun i hi => by simpa using ih i (by simpa using hi)
  | whn g' want x v h h' ih => exact .whn g' want _ v ih h'
  | junk v => exact .junk v
omit [Tabs] in
theorem RelOb.ren (hg : RenOk g ρ ρ') {k j : Nat} (hk : ρ' j = ρ k) {o : AObj} (h : RelOb w F ρ k o) : RelOb w F ρ' j (o.ren g) := by
  induction h with
  | gone h => exact .gone (hk.trans h)
  | na t ee xs h ih => exact .na t ee xs ih
  | any o h ih => exact .any _ ih
  | box cs oty b c t hoty hk' hb hs h =>
    simp only [AObj.ren, AC.renL_eq]
    exact .box _ _ b c t hoty (hk.trans hk') hb (by simpa using hs) fun i hi => by simpa using (h i (by simpa using hi)).ren hg
  | arr t e n cs u xs hk' ho hs h => exact .arr t e n cs u xs (hk.trans hk') ho hs h
  | tab b o hk' hF hb => exact .tab b o (hk.trans hk') hF hb
  | it s pos b hk' hb => exact .it s pos b (hk.trans hk') hb
  | mi kt vt l cur b mo si se la hk' hb hm => exact .mi kt vt l cur b mo si se la (hk.trans hk') hb hm
  | mp t kt vt l b es c hk' hb hs h dn hd => exact .mp t kt vt l b es c (hk.trans hk') hb hs h dn hd
end

/-! ## key lists -/
def fwd (m : List (Nat × Nat)) (k : Nat) : Option Nat :=
  match m with
  | [] => none
  | (a, b) :: r => bif Nat.beq k a then some b else fwd r k
def bwd (m : List (Nat × Nat)) (k : Nat) : Option Nat :=
  match m with
  | [] => none
  | (a, b) :: r => bif Nat.beq k b then some a else bwd r k
def once : List (Nat × Nat) → Bool
  | [] => true
  | (a, b) :: r => r.all (fun p => !Nat.beq p.1 a && !Nat.beq p.2 b) && once r

omit [Tabs] in
theorem fwd_mem : ∀ {m : List (Nat × Nat)} {a b : Nat}, fwd m a = some b → (a, b) ∈ m
  | (x, y) :: r, a, b, h => by
    simp only [fwd] at h
    cases hb : Nat.beq a x with
    | true => rw [hb] at h; cases h; rw [Nat.eq_of_beq_eq_true hb]; simp
    | false => rw [hb] at h; exact List.mem_cons_of_mem _ (fwd_mem h)
omit [Tabs] in
theorem bwd_mem : ∀ {m : List (Nat × Nat)} {a b : Nat}, bwd m b = some a → (a, b) ∈ m
  | (x, y) :: r, a, b, h => by
    simp only [bwd] at h
    cases hb : Nat.beq b y with
    | true => rw [hb] at h; cases h; rw [Nat.eq_of_beq_eq_true hb]; simp
    | false => rw [hb] at h; exact List.mem_cons_of_mem _ (bwd_mem h)
omit [Tabs] in
theorem once_fst : ∀ {m : List (Nat × Nat)} (_ : once m = true) {a b b' : Nat}, (a, b) ∈ m → (a, b') ∈ m → b = b'
  | (x, y) :: r, h, a, b, b', h1, h2 => by
    simp only [once, Bool.and_eq_true, List.all_eq_true, Bool.not_eq_true'] at h
    rcases List.mem_cons.1 h1 with e1 | e1 <;> rcases List.mem_cons.1 h2 with e2 | e2
    · cases e1; cases e2; rfl
    · cases e1
      have := (h.1 _ e2).1
      simp at this
    · cases e2
      have := (h.1 _ e1).1
      simp at this
    · exact once_fst h.2 e1 e2
omit [Tabs] in
theorem once_snd : ∀ {m : List (Nat × Nat)} (_ : once m = true) {a a' b : Nat}, (a, b) ∈ m → (a', b) ∈ m → a = a'
  | (x, y) :: r, h, a, a', b, h1, h2 => by
    simp only [once, Bool.and_eq_true, List.all_eq_true, Bool.not_eq_true'] at h
    rcases List.mem_cons.1 h1 with e1 | e1 <;> rcases List.mem_cons.1 h2 with e2 | e2
    · cases e1; cases e2; rfl
    · cases e1
      have := (h.1 _ e2).2
      simp at this
    · cases e2
      have := (h.1 _ e1).2
      simp at this
    · exact once_snd h.2 e1 e2
omit [Tabs] in
theorem fwd_none : ∀ {m : List (Nat × Nat)} {a : Nat}, fwd m a = none → ∀ b, (a, b) ∉ m
  | (x, y) :: r, a, h, b, hm => by
    simp only [fwd] at h
    cases hb : Nat.beq a x with
    | true => rw [hb] at h; cases h
    | false =>
      rw [hb] at h
      rcases List.mem_cons.1 hm with e | e
      · cases e
        simp at hb
      · exact fwd_none h b e
omit [Tabs] in
theorem bwd_none : ∀ {m : List (Nat × Nat)} {b : Nat}, bwd m b = none → ∀ a, (a, b) ∉ m
  | (x, y) :: r, b, h, a, hm => by
    simp only [bwd] at h
    cases hb : Nat.beq b y with
    | true => rw [hb] at h; cases h
    | false =>
      rw [hb] at h
      rcases List.mem_cons.1 hm with e | e
      · cases e
        simp at hb
      · exact bwd_none h a e
omit [Tabs] in
theorem fwd_some {m : List (Nat × Nat)} (ho : once m = true) {a b : Nat} (h : (a, b) ∈ m) : fwd m a = some b := by
  cases e : fwd m a with
  | none => exact absurd h (fwd_none e b)
  | some b' => rw [once_fst ho (fwd_mem e) h]
omit [Tabs] in
theorem bwd_some {m : List (Nat × Nat)} (ho : once m = true) {a b : Nat} (h : (a, b) ∈ m) : bwd m b = some a := by
  cases e : bwd m b with
  | none => exact absurd h (bwd_none e a)
  | some a' => rw [once_snd ho (bwd_mem e) h]

structure NilArg where
  pos : Nat
  kk : Nat
  te : TypeId
  e : Nat

def argTo (m : List (Nat × Nat)) (ns : List NilArg) (i : Nat) (x : AV) : AV :=
  match ns.find? (fun n => Nat.beq n.pos i), x with
  | some n, .cell (.d (.sc (.slice none 0 0))) => .cell (.own n.kk)
  | _, x => x.ren (bwd m)
def argsTo (m : List (Nat × Nat)) (ns : List NilArg) : Nat → List AV → List AV
  | _, [] => []
  | i, x :: r => argTo m ns i x :: argsTo m ns (i + 1) r
def obsTo (ob : List (Nat × AObj)) (m : List (Nat × Nat)) (ns : List NilArg) : List (Nat × AObj) :=
  m.map (fun p => (p.1, (lkO ob p.2).ren (bwd m))) ++ ns.map fun n => (n.kk, .arr n.te n.e 0 [])

def mayArr : AObj → Bool
  | .box _ _ => false
  | .gone => false
  | .tab _ _ => false
  | .it _ _ => false
  | .mi _ _ _ _ => false
  | .mp _ _ _ _ _ => false
  | _ => true
def goes (ob : List (Nat × AObj)) (m nw : List (Nat × Nat)) : List Nat := (m.filter fun p => mayArr (lkO ob p.2) && Nat.blt p.1 2000000).map (·.2) ++ nw.map (·.2)
def stay (l : List Nat) (k : Nat) : Option Nat := bif memB k l then none else some k

def afterCall (m nw : List (Nat × Nat)) (d : Option Tmp) (x : AV) (ob' : List (Nat × AObj)) (st : ASt) : ASt :=
  ASt.put { fr := st.fr.map fun p => (p.1, p.2.ren (stay (goes st.ob m nw)))
            ob := (m ++ nw).map (fun p => (p.2, (lkO ob' p.1).ren (fwd (m ++ nw)))) ++ st.ob.map fun p => (p.1, p.2.ren (stay (goes st.ob m nw))) } d (x.ren (fwd (m ++ nw)))

def okCall (N : Nat) (ob : List (Nat × AObj)) (m nw : List (Nat × Nat)) (ns : List NilArg) (d : Option Tmp) : Bool :=
  once (m ++ nw) && nw.all (fun p => Nat.blt p.2 1000000) && m.all (fun p => Nat.ble 1000000 p.1 && (Nat.blt p.2 2000000 || Nat.ble 2000000 p.1)) && ns.all (fun n => (fwd m n.kk).isNone && (fwd nw n.kk).isSome) &&
    (match d with | some d => Nat.blt d N | none => true)

omit [Tabs] in
theorem lkO_fwd (f : Nat → AObj) (r : List (Nat × AObj)) : ∀ (m : List (Nat × Nat)) (k : Nat), lkO (m.map (fun p => (p.1, f p.2)) ++ r) k = match fwd m k with | some j => f j | none => lkO r k
  | [], k => rfl
  | (a, b) :: m, k => by
    simp only [List.map_cons, List.cons_append, lkO, fwd]
    cases hb : Nat.beq k a with
    | true => rfl
    | false => simpa using lkO_fwd f r m k
omit [Tabs] in
theorem lkO_bwd (f : Nat → AObj) (r : List (Nat × AObj)) : ∀ (m : List (Nat × Nat)) (k : Nat), lkO (m.map (fun p => (p.2, f p.1)) ++ r) k = match bwd m k with | some j => f j | none => lkO r k
  | [], k => rfl
  | (a, b) :: m, k => by
    simp only [List.map_cons, List.cons_append, lkO, bwd]
    cases hb : Nat.beq k b with
    | true => rfl
    | false => simpa using lkO_bwd f r m k
omit [Tabs] in
theorem lkO_nils : ∀ (ns : List NilArg) (k : Nat), lkO (ns.map fun n => (n.kk, .arr n.te n.e 0 [])) k = match ns.find? (fun n => Nat.beq k n.kk) with | some n => .arr n.te n.e 0 [] | none => .gone
  | [], k => rfl
  | n :: r, k => by
    simp only [List.map_cons, lkO, List.find?_cons]
    cases hb : Nat.beq k n.kk with
    | true => rfl
    | false => simpa using lkO_nils r k
omit [Tabs] in
theorem argsTo_length (m : List (Nat × Nat)) (ns : List NilArg) : ∀ (l : List AV) (i : Nat), (argsTo m ns i l).length = l.length
  | [], _ => rfl
  | x :: r, i => by simp [argsTo, argsTo_length m ns r (i + 1)]
omit [Tabs] in
theorem argsTo_get (m : List (Nat × Nat)) (ns : List NilArg) : ∀ (l : List AV) (i j : Nat) (h : j < l.length) (h' : j < (argsTo m ns i l).length), (argsTo m ns i l)[j] = argTo m ns (i + j) l[j]
  | [], _, j, h, _ => by simp at h
  | x :: r, i, j, h, h' => by
    cases j with
    | zero => simp [argsTo]
    | succ j =>
      simp only [argsTo, List.getElem_cons_succ]
      rw [argsTo_get m ns r (i + 1) j (by simpa using h)]
      congr 1
      omega

def envTo (ρ : Env) (m : List (Nat × Nat)) (ns : List NilArg) : Env := fun k =>
  match fwd m k with
  | some j => ρ j
  | none => match ns.find? (fun n => Nat.beq k n.kk) with
    | some _ => some (.arr (.slice none 0 0))
    | none => none
def envBack (ρ ρ' : Env) (m2 : List (Nat × Nat)) : Env := fun k =>
  match bwd m2 k with
  | some j => ρ' j
  | none => ρ k

def qCall2 (P : Program) (ops : Array Oper) (i : Nat) (st : ASt) : Option (Option Tmp × FuncId × List AV) :=
  match opK ops st.fr i with
  | some ⟨d, .call c, _, _, _, _⟩ => match calleeV st.fr c with
    | some (f, args) => bif enterOk P f then some (d, f, args) else none
    | none => none
  | _ => none

section
variable {P : Program} {N : Nat} {ops : Array Oper} {Q : Exit → ASt → Prop} {st st' : ASt} {l : List Nat}

omit [Tabs] in
theorem once_app {m nw : List (Nat × Nat)} (h : once (m ++ nw) = true) : once m = true := by
  induction m with
  | nil => rfl
  | cons p m ih =>
    simp only [List.cons_append, once, Bool.and_eq_true, List.all_append] at h ⊢
    exact ⟨h.1.1, ih h.2⟩

omit [Tabs] in
theorem envTo_live {ρ : Env} {m : List (Nat × Nat)} {ns : List NilArg} {k : Nat} {lo : Loc} {b : Nat} (h : envTo ρ m ns k = some lo) (hb : lo.blk = some b) : ∃ j, (k, j) ∈ m ∧ ρ j = some lo := by
  unfold envTo at h
  split at h
  · rename_i j e
    exact ⟨j, fwd_mem e, h⟩
  · split at h
    · cases h
      cases hb
    · cases h

theorem ocall_entry {F : Nat → Prop} {ρ : Env} {a : Act} {w : World} (h : Rel N F ρ st a w) {m : List (Nat × Nat)} {ns : List NilArg} (ho : once m = true) :
    RelW F (envTo ρ m ns) w ∧ (∀ k, (fwd m k = none ∨ ns.all (fun n => (fwd m n.kk).isNone) = true) → RelOb w F (envTo ρ m ns) k (lkO (obsTo st.ob m ns) k)) ∧ RenOk (bwd m) ρ (envTo ρ m ns) := by
  have hren : RenOk (bwd m) ρ (envTo ρ m ns) := by
    intro k j lo hb he
    unfold envTo at he
    rw [fwd_some ho (bwd_mem hb)] at he
    exact he
  refine ⟨⟨?_, h.rw.lt, ?_, h.rw.tab⟩, ?_, hren⟩
  · rintro b hb ⟨k, lo, hk, hl⟩
    obtain ⟨j, _, hj⟩ := envTo_live hk hl
    exact h.rw.dis b hb ⟨j, lo, hj, hl⟩
  · intro k k' lo lo' b hk hk' hb hb'
    obtain ⟨j, hm, hj⟩ := envTo_live hk hb
    obtain ⟨j', hm', hj'⟩ := envTo_live hk' hb'
    have := h.rw.inj _ _ _ _ b hj hj' hb hb'
    subst this
    exact once_snd ho hm hm'
  · intro k _
    unfold obsTo
    rw [lkO_fwd (fun j => (lkO st.ob j).ren (bwd m)), lkO_nils]
    cases e : fwd m k with
    | some j =>
      exact (h.ob j).ren hren (by unfold envTo; rw [e])
    | none =>
      cases e2 : ns.find? (fun n => Nat.beq k n.kk) with
      | some n =>
        exact .arr _ _ _ _ (.slice none 0 0) [] (by unfold envTo; rw [e]; simp only [e2]) (World.ownsRow_nil w 0 n.te n.e) rfl fun i hi => by simp at hi
      | none => exact .gone (by unfold envTo; rw [e]; simp only [e2])

omit [Tabs] in
theorem ocall_args {F : Nat → Prop} {ρ : Env} {tm : Array Value} {w : World} {m : List (Nat × Nat)} {ns : List NilArg} (hren : RenOk (bwd m) ρ (envTo ρ m ns)) (hns : ns.all (fun n => (fwd m n.kk).isNone) = true)
    {i : Nat} {x : AV} {v : Value} (h : RelAV w F ρ tm x v) : RelAV w F (envTo ρ m ns) tm (argTo m ns i x) v := by
  unfold argTo
  split
  · rename_i n hf
    have hv := (scV_rel h (u := .slice none 0 0) rfl).1
    subst hv
    refine .cell _ _ (.own _ _ fun u hu => ?_)
    have hn := List.mem_of_find?_eq_some hf
    have h1 := List.all_eq_true.1 hns n hn
    unfold envTo at hu
    cases e : fwd m n.kk with
    | some j => rw [e] at h1; cases h1
    | none =>
      rw [e] at hu
      simp only at hu
      split at hu
      · cases hu; rfl
      · cases hu
  · exact h.ren hren

omit [Tabs] in
theorem memB_mem : ∀ {l : List Nat} {k : Nat}, memB k l = false → k ∉ l
  | [], _, _ => by simp
  | j :: r, k, h => by
    simp only [memB, Bool.or_eq_false_iff] at h
    intro hm
    rcases List.mem_cons.1 hm with e | e
    · subst e; simp at h
    · exact memB_mem h.2 e

theorem ocall_back {F : Nat → Prop} {ρ : Env} {a : Act} {w : World} (h : Rel N F ρ st a w) {m nw : List (Nat × Nat)} {ns : List NilArg} {d : Option Tmp} (hok : okCall N st.ob m nw ns d = true)
    {w' : World} {F' : Nat → Prop} {ρ' : Env} (hrw : RelW F' ρ' w') {ob' : List (Nat × AObj)} (hob : ∀ k, RelOb w' F' ρ' k (lkO ob' k)) (hfr : Fr F (envTo ρ m ns) w F' ρ' w')
    {x : AV} {v : Value} (hx : RelAV w' F' ρ' #[] x v) (hp : x.plain = true) :
    Rel N F' (envBack ρ ρ' (m ++ nw)) (afterCall m nw d x ob' st) (a.put d v) w' ∧ Fr F ρ w F' (envBack ρ ρ' (m ++ nw)) w' := by
  simp only [okCall, Bool.and_eq_true] at hok
  obtain ⟨⟨⟨⟨hon, hnw⟩, hm⟩, hns⟩, hd⟩ := hok
  have hom := once_app hon
  have hlive : ∀ k lo b, ρ k = some lo → lo.blk = some b → bwd (m ++ nw) k = none → ¬ live (envTo ρ m ns) b := by
    rintro k lo b hk hb hn ⟨kk, lo', hkk, hb'⟩
    obtain ⟨j, hmem, hj⟩ := envTo_live hkk hb'
    have := h.rw.inj _ _ _ _ b hk hj hb hb'
    subst this
    exact bwd_none hn kk (List.mem_append_left _ hmem)
  have hFk : ∀ b, F b → w'.heap[b]? = w.heap[b]? := fun b hb => hfr.keep b (h.rw.lt b hb) fun ⟨kk, lo, hkk, hl⟩ => by
    obtain ⟨j, _, hj⟩ := envTo_live hkk hl
    exact h.rw.dis b hb ⟨j, lo, hj, hl⟩
  have hstay : RenOk (stay (goes st.ob m nw)) ρ (envBack ρ ρ' (m ++ nw)) := by
    intro k j lo hs hl
    unfold stay at hs
    cases hmb : memB k (goes st.ob m nw) with
    | true => rw [hmb] at hs; cases hs
    | false =>
      rw [hmb] at hs
      cases hs
      have hnot := memB_mem hmb
      unfold envBack at hl
      cases e : bwd (m ++ nw) k with
      | none => rw [e] at hl; exact hl
      | some kk =>
        rw [e] at hl
        simp only at hl
        have hmem := bwd_mem e
        rcases List.mem_append.1 hmem with h1 | h1
        · have h2 := List.all_eq_true.1 hm _ h1
          simp only [Bool.and_eq_true] at h2
          have harr : (mayArr (lkO st.ob k) && Nat.blt kk 2000000) = false := by
            cases e3 : (mayArr (lkO st.ob k) && Nat.blt kk 2000000) with
            | false => rfl
            | true => exact absurd (List.mem_append_left _ (List.mem_map.2 ⟨(kk, k), List.mem_filter.2 ⟨h1, e3⟩, rfl⟩)) hnot
          have hge := Nat.le_of_ble_eq_true h2.1
          have hst := hfr.stab kk hge
          have e4 : envTo ρ m ns kk = ρ k := by unfold envTo; rw [fwd_some hom h1]
          rw [e4, hl] at hst
          cases e5 : ρ k with
          | none => rw [e5] at hst; simp [Stab] at hst
          | some l0 =>
            rw [e5] at hst
            cases l0 with
            | box b => cases lo <;> simp_all [Stab]
            | arr u =>
              cases hb2 : Nat.blt kk 2000000 with
              | false =>
                have hge2 : 2000000 ≤ kk := Nat.not_lt.1 fun h => by
                  rw [show Nat.blt kk 2000000 = true from Nat.ble_eq_true_of_le h] at hb2
                  cases hb2
                cases lo with
                | box b => simp [Stab] at hst
                | arr u' => rw [show u' = u from hst hge2]
              | true =>
              rw [hb2, Bool.and_true] at harr
              have ho := h.ob k
              generalize lkO st.ob k = o at ho harr
              cases ho with
              | gone hg => rw [hg] at e5; cases e5
              | na t ee xs hg => simp [mayArr] at harr
              | any => simp [mayArr] at harr
              | tab b o hg => rw [hg] at e5; cases e5
              | it s pos b hk' => rw [hk'] at e5; cases e5
              | mi kt vt l cur b mo si se la hk' => rw [hk'] at e5; cases e5
              | mp t kt vt l b es c hk' => rw [hk'] at e5; cases e5
              | box cs oty b c t hoty hk' => rw [hk'] at e5; cases e5
              | arr => simp [mayArr] at harr
        · exact absurd (List.mem_append_right _ (List.mem_map.2 ⟨(kk, k), h1, rfl⟩)) hnot
  have hfwd : RenOk (fwd (m ++ nw)) ρ' (envBack ρ ρ' (m ++ nw)) := by
    intro k j lo hf hl
    unfold envBack at hl
    rw [bwd_some hon (fwd_mem hf)] at hl
    exact hl
  have base : Rel N F' (envBack ρ ρ' (m ++ nw))
      { fr := st.fr.map fun p => (p.1, p.2.ren (stay (goes st.ob m nw)))
        ob := (m ++ nw).map (fun p => (p.2, (lkO ob' p.1).ren (fwd (m ++ nw)))) ++ st.ob.map fun p => (p.1, p.2.ren (stay (goes st.ob m nw))) } a w' := by
    refine ⟨⟨?_, hrw.lt, ?_, hrw.tab⟩, fun i => ?_, fun k => ?_, h.sz, h.df⟩
    · rintro b hb ⟨k, lo, hk, hl⟩
      unfold envBack at hk
      cases e : bwd (m ++ nw) k with
      | some kk => rw [e] at hk; exact hrw.dis b hb ⟨kk, lo, hk, hl⟩
      | none =>
        rw [e] at hk
        simp only at hk
        rcases hfr.old b ((h.ob k).lt hk hl) (.inl hb) with h1 | h1
        · exact h.rw.dis b h1 ⟨k, lo, hk, hl⟩
        · exact hlive k lo b hk hl e h1
    · intro k k' lo lo' b hk hk' hb hb'
      unfold envBack at hk hk'
      cases e : bwd (m ++ nw) k with
      | some kk =>
        rw [e] at hk
        simp only at hk
        cases e' : bwd (m ++ nw) k' with
        | some kk' =>
          rw [e'] at hk'
          simp only at hk'
          have := hrw.inj _ _ _ _ b hk hk' hb hb'
          subst this
          exact once_fst hon (bwd_mem e) (bwd_mem e')
        | none =>
          rw [e'] at hk'
          simp only at hk'
          rcases hfr.old b ((h.ob k').lt hk' hb') (.inr ⟨kk, lo, hk, hb⟩) with h1 | h1
          · exact absurd ⟨k', lo', hk', hb'⟩ (h.rw.dis b h1)
          · exact absurd h1 (hlive k' lo' b hk' hb' e')
      | none =>
        rw [e] at hk
        simp only at hk
        cases e' : bwd (m ++ nw) k' with
        | some kk' =>
          rw [e'] at hk'
          simp only at hk'
          rcases hfr.old b ((h.ob k).lt hk hb) (.inr ⟨kk', lo', hk', hb'⟩) with h1 | h1
          · exact absurd ⟨k, lo, hk, hb⟩ (h.rw.dis b h1)
          · exact absurd h1 (hlive k lo b hk hb e)
        | none =>
          rw [e'] at hk'
          simp only at hk'
          exact h.rw.inj _ _ _ _ b hk hk' hb hb'
    · rw [lkF_map (AV.ren (stay (goes st.ob m nw))) rfl]
      exact ((h.fr i).mono hFk hfr.sub (fun _ _ h => h)).ren hstay
    · simp only
      rw [lkO_bwd (fun j => (lkO ob' j).ren (fwd (m ++ nw))), lkO_map (AObj.ren (stay (goes st.ob m nw))) rfl]
      cases e : bwd (m ++ nw) k with
      | some kk => exact (hob kk).ren hfwd (by unfold envBack; rw [e])
      | none =>
        have h1 : RelOb w' F' ρ k (lkO st.ob k) := (h.ob k).through hFk hfr.sub fun lo b hl hb => hfr.keep b ((h.ob k).lt hl hb) (hlive k lo b hl hb e)
        exact h1.ren hstay (by unfold envBack; rw [e])
  refine ⟨?_, hfr.os, hfr.tape, hfr.output, hfr.size, hfr.sub, fun b hb hl => hfr.keep b hb ?_, ?_, ?_⟩
  · cases d with
    | none => exact base
    | some d => exact base.put d (blt_lt hd) ((hx.retm hp).ren hfwd)
  · rintro ⟨kk, lo, hk, hb'⟩
    obtain ⟨j, _, hj⟩ := envTo_live hk hb'
    exact hl ⟨j, lo, hj, hb'⟩
  · intro b hb hh
    have key : F' b ∨ live ρ' b → F b ∨ live ρ b := fun h1 => (hfr.old b hb h1).imp id fun ⟨kk, lo, hk, hl⟩ => by
      obtain ⟨j, _, hj⟩ := envTo_live hk hl
      exact ⟨j, lo, hj, hl⟩
    rcases hh with h1 | ⟨k, lo, hk, hl⟩
    · exact key (.inl h1)
    · unfold envBack at hk
      cases e : bwd (m ++ nw) k with
      | some kk => rw [e] at hk; exact key (.inr ⟨kk, lo, hk, hl⟩)
      | none => rw [e] at hk; exact .inr ⟨k, lo, hk, hl⟩
  · intro k hk
    unfold envBack
    cases e : bwd (m ++ nw) k with
    | none => exact Stab.refl _ _
    | some kk =>
      simp only
      rcases List.mem_append.1 (bwd_mem e) with h1 | h1
      · have e4 : envTo ρ m ns kk = ρ k := by unfold envTo; rw [fwd_some hom h1]
        have h2 := List.all_eq_true.1 hm _ h1
        simp only [Bool.and_eq_true, Bool.or_eq_true] at h2
        have := hfr.stab kk (Nat.le_of_ble_eq_true h2.1)
        rw [e4] at this
        cases hl : ρ' kk with
        | none => cases ρ k <;> trivial
        | some l' =>
          rw [hl] at this
          cases hk0 : ρ k with
          | none => rw [hk0] at this; simp [Stab] at this
          | some l =>
            rw [hk0] at this
            cases l with
            | box b => cases l' with
              | box b' => exact this
              | arr u' => simp [Stab] at this
            | arr u => cases l' with
              | box b' => simp [Stab] at this
              | arr u' =>
                intro h3
                refine this ?_
                rcases h2.2 with h4 | h4
                · exact absurd (blt_lt h4) (by omega)
                · exact Nat.le_of_ble_eq_true h4
      · have := List.all_eq_true.1 hnw _ h1
        have := blt_lt this
        simp only at this
        omega

theorem AOps.ocall {i n r i' : Nat} {d : Option Tmp} {f : FuncId} {cargs pargs : List AV} {pob : List (Nat × AObj)} {R : AEnd → List (Nat × AObj) → Prop} (h : qCall2 P ops i st = some (d, f, cargs))
    (m nw : List (Nat × Nat)) (ns : List NilArg) (hok : okCall N st.ob m nw ns d = true) (ha : argsTo m ns 0 cargs = pargs) (hob : obsTo st.ob m ns = pob) (hpl : AV.plainL cargs = true)
    (spec : ACalls P f pargs pob R) (hR : ∀ e o, R e o → ∃ x, e = .ret x ∧ x.plain = true) (hn : n = r + 1) (hi : i' = i + 1)
    (k : ∀ x ob', R (.ret x) ob' → AOps P N ops (List.range' i' r) (afterCall m nw d x ob' st) Q) : AOps P N ops (List.range' i n) st Q := by
  subst hn
  subst hi
  subst ha
  subst hob
  rw [List.range'_succ]
  unfold qCall2 at h
  split at h
  · rename_i d' c ty pos after guard ho
    split at h
    · rename_i f' args' hc
      cases hb : enterOk P f' with
      | false => rw [hb] at h; cases h
      | true =>
        rw [hb] at h
        cases h
        intro F ρ a w hr
        rw [wpOps_cons]
        obtain ⟨e, hw⟩ := opK_wanted hr ho
        obtain ⟨vs, hrun, hsz, hrel⟩ := calleeV_run hr hc hb ty
        simp only [wpOp, e]
        rw [if_pos hw]
        left
        have hrun' : (execOp a.eval ⟨d, .call c, ty, pos, after, guard⟩).run P w = .ok (.enter f vs) w := hrun
        simp only [Oper.wp, Oper.upon, hrun']
        have hok' := hok
        simp only [okCall, Bool.and_eq_true] at hok'
        have hom := once_app hok'.1.1.1.1
        have hns : ns.all (fun n => (fwd m n.kk).isNone) = true := by
          rw [List.all_eq_true]
          intro n hn
          have := List.all_eq_true.1 hok'.1.2 n hn
          simp only [Bool.and_eq_true] at this
          exact this.1
        obtain ⟨e1, e2, hren⟩ := ocall_entry hr (m := m) (ns := ns) hom
        refine (spec F (envTo ρ m ns) vs w e1 (fun k => e2 k (.inr hns)) ⟨by rw [argsTo_length]; exact hsz, fun j hj => ?_⟩).mono fun en w' ⟨F', ρ', rr, ob', hq, hre, hrw, hrob, hfr⟩ => ?_
        · have hj' : j < cargs.length := by rw [argsTo_length] at hj; exact hj
          rw [argsTo_get _ _ _ _ _ hj' hj]
          exact ocall_args hren hns ((hrel j hj').retm (AV.plainL_get hpl j hj'))
        · obtain ⟨x, rfl, hp⟩ := hR _ _ hq
          cases en with
          | returned v =>
            obtain ⟨h1, h2⟩ := ocall_back hr hok hrw hrob hfr hre hp
            exact (k x ob' hq).after h1 h2
          | panicked chain => exact hre.elim
          | outgrown => exact hre.elim
    · cases h
  · cases h


def has : List (Nat × AObj) → Nat → Bool
  | [], _ => false
  | p :: r, k => Nat.beq k p.1 || has r k

end
end Esp

/- ESP, part 3: operations that only give a value. -/
import Derived.Test.YtojomjomicfcdaaDoorEspStep
import GoSem.Dispatch
import Derived.Laws.Entries
namespace Esp
open Go
set_option linter.unusedSimpArgs false
set_option linter.unusedVariables false
variable [Tabs]

def isAggB (P : Program) (t : TypeId) : Option Bool :=
  match P.underlying t with
  | some (.struct _) => some true
  | some (.array _ _) => some true
  | some _ => some false
  | none => none
def sizeB (P : Program) (t : TypeId) : Option Nat := (P.info? t).map (·.size)

omit [Tabs] in
theorem run_isAgg {P : Program} {t : TypeId} {b : Bool} (h : isAggB P t = some b) (w : World) : (isAgg t).run P w = .ok b w := by
  unfold isAggB at h
  cases hu : P.underlying t with
  | none => rw [hu] at h; cases h
  | some d =>
    rw [hu] at h
    simp only [isAgg, Sem.run_bind, run_underlying hu, Result.andThen_ok]
    cases d <;> (simp only [Option.some.injEq] at h; subst h; rfl)

omit [Tabs] in
theorem run_sizeOf {P : Program} {t : TypeId} {s : Nat} (h : sizeB P t = some s) (w : World) : (Go.sizeOf t).run P w = .ok s w := by
  unfold sizeB at h
  cases hi : P.info? t with
  | none => rw [hi] at h; cases h
  | some i =>
    rw [hi] at h
    simp only [Option.map_some, Option.some.injEq] at h
    subst h
    simp [Go.sizeOf, typeInfo, hi]

omit [Tabs] in
theorem run_loadVar_agg {P : Program} {t : TypeId} {s : Nat} {w : World} {b off : Nat} (c : Nat → Value) (ha : isAggB P t = some true) (hs : sizeB P t = some s)
    (h : ∀ i, i < s → w.cell? ⟨b, off + i, none⟩ = some (c i)) : (loadVar t ⟨b, off, none⟩).run P w = .ok (.agg ((List.range s).map c).toArray) w := by
  have hl := run_loadCells (P := P) w ⟨b, off, none⟩ s c (fun j hj => by rw [Addr.add_lit]; exact h j hj)
  simp [loadVar, run_isAgg ha, run_sizeOf hs, hl]
omit [Tabs] in
theorem run_loadVar_one {P : Program} {t : TypeId} {w : World} {b off : Nat} {v : Value} (ha : isAggB P t = some false)
    (h : w.cell? ⟨b, off, none⟩ = some v) : (loadVar t ⟨b, off, none⟩).run P w = .ok v w := by
  simp [loadVar, run_isAgg ha, h]

def allD : List AC → Option (List D)
  | [] => some []
  | .d x :: r => (allD r).map (x :: ·)
  | _ => none
def mkAgg (cs : List AC) : AV :=
  match allD cs with
  | some ds => .aggD ds
  | none => .agg cs

omit [Tabs] in
theorem allD_eq : ∀ {cs : List AC} {ds : List D}, allD cs = some ds → cs = ds.map .d
  | [], ds, h => by simp only [allD, Option.some.injEq] at h; subst h; rfl
  | .d x :: r, ds, h => by
    simp only [allD, Option.map_eq_some_iff] at h
    obtain ⟨l, hl, rfl⟩ := h
    simp [allD_eq hl]
  | .own _ :: _, _, h => by simp [allD] at h
  | .ptr _ _ :: _, _, h => by simp [allD] at h
  | .elt _ _ _ _ :: _, _, h => by simp [allD] at h
  | .osl _ _ _ _ :: _, _, h => by simp [allD] at h
  | .pn _ :: _, _, h => by simp [allD] at h
  | .ifo _ _ :: _, _, h => by simp [allD] at h
  | .mpr _ :: _, _, h => by simp [allD] at h
  | .fn _ _ _ :: _, _, h => by simp [allD] at h
  | .junk :: _, _, h => by simp [allD] at h

omit [Tabs] in
theorem mkAgg_rel {w : World} {F : Nat → Prop} {ρ : Env} {tm : Array Value} {cs : List AC} {arr : Array Value} (h : RelAV w F ρ tm (.agg cs) (.agg arr)) : RelAV w F ρ tm (mkAgg cs) (.agg arr) := by
  unfold mkAgg
  split
  · rename_i ds hd
    have e := allD_eq hd
    subst e
    cases h with
    | agg cs arr hs h =>
      refine .aggD _ _ (by simpa using hs) fun i hi => ?_
      have := h i (by simpa using hi)
      simp only [List.getElem_map] at this
      cases this with
      | d x v h => exact h
  · exact h

def loadAC (P : Program) (t : TypeId) (cs : List AC) : Option AV :=
  match isAggB P t with
  | some true => match sizeB P t with
    | some s => bif Nat.ble s cs.length then some (mkAgg (cs.take s)) else none
    | none => none
  | some false => match cs with
    | c :: _ => some (.cell c)
    | [] => none
  | none => none
def loadD (P : Program) (t : TypeId) (cs : List D) : Option AV :=
  match isAggB P t with
  | some true => match sizeB P t with
    | some s => bif Nat.ble s cs.length then some (.aggD (cs.take s)) else none
    | none => none
  | some false => match cs with
    | c :: _ => some (.cell (.d c))
    | [] => none
  | none => none

omit [Tabs] in
theorem getD_range {α : Type} (s : Nat) (c : Nat → α) (i : Nat) (x : α) (h : i < s) : ((List.range s).map c).toArray.getD i x = c i := by
  simp [Array.getD_eq_getD_getElem?, h]

omit [Tabs] in
theorem loadAC_run {P : Program} {t : TypeId} {cs : List AC} {x : AV} {w : World} {F : Nat → Prop} {ρ : Env} {tm : Array Value} {b off : Nat} (c : Nat → Value)
    (h : loadAC P t cs = some x) (hc : ∀ i, i < cs.length → w.cell? ⟨b, off + i, none⟩ = some (c i)) (hr : ∀ i (h : i < cs.length), RelAC w F ρ cs[i] (c i)) :
    ∃ v, (loadVar t ⟨b, off, none⟩).run P w = .ok v w ∧ RelAV w F ρ tm x v := by
  unfold loadAC at h
  split at h
  · rename_i ha
    split at h
    · rename_i s hs
      cases hb : Nat.ble s cs.length with
      | false => rw [hb] at h; cases h
      | true =>
        rw [hb] at h
        simp only [cond_true, Option.some.injEq] at h
        subst h
        have hle := Nat.le_of_ble_eq_true hb
        refine ⟨_, run_loadVar_agg c ha hs (fun i hi => hc i (by omega)), mkAgg_rel (.agg _ _ (by simp; omega) fun i hi => ?_)⟩
        simp only [List.length_take] at hi
        rw [getD_range _ _ _ _ (by omega), List.getElem_take]
        exact hr i (by omega)
    · cases h
  · rename_i ha
    split at h
    · rename_i c0 r
      cases h
      exact ⟨c 0, run_loadVar_one ha (hc 0 (by simp)), .cell _ _ (hr 0 (by simp))⟩
    · cases h
  · cases h

omit [Tabs] in
theorem loadD_run {P : Program} {t : TypeId} {cs : List D} {x : AV} {w : World} {F : Nat → Prop} {ρ : Env} {tm : Array Value} {b off : Nat} (c : Nat → Value)
    (h : loadD P t cs = some x) (hc : ∀ i, i < cs.length → w.cell? ⟨b, off + i, none⟩ = some (c i)) (hr : ∀ i (h : i < cs.length), RelD w F cs[i] (c i)) :
    ∃ v, (loadVar t ⟨b, off, none⟩).run P w = .ok v w ∧ RelAV w F ρ tm x v := by
  unfold loadD at h
  split at h
  · rename_i ha
    split at h
    · rename_i s hs
      cases hb : Nat.ble s cs.length with
      | false => rw [hb] at h; cases h
      | true =>
        rw [hb] at h
        simp only [cond_true, Option.some.injEq] at h
        subst h
        have hle := Nat.le_of_ble_eq_true hb
        refine ⟨_, run_loadVar_agg c ha hs (fun i hi => hc i (by omega)), .aggD _ _ (by simp; omega) fun i hi => ?_⟩
        simp only [List.length_take] at hi
        rw [getD_range _ _ _ _ (by omega), List.getElem_take]
        exact hr i (by omega)
    · cases h
  · rename_i ha
    split at h
    · rename_i c0 r
      cases h
      exact ⟨c 0, run_loadVar_one ha (hc 0 (by simp)), .cell _ _ (.d _ _ (hr 0 (by simp)))⟩
    · cases h
  · cases h

/-! ## the value of an operation -/

def fieldB (P : Program) (t : TypeId) (f : Nat) : Option (Nat × TypeId) :=
  match P.underlying t with
  | some (.struct fs) => match fs[f]? with
    | some g => match sizeB P g.type with
      | some (_ + 1) => some (g.offset, g.type)
      | _ => none
    | none => none
  | _ => none

def AV.strip (c : Operand) (want : Bool) (x : AV) : AV :=
  match c, x with
  | .tmp t, .whn g w y => bif Nat.beq t g && (w == want) then y else x
  | _, _ => x

def boolV : AV → Option Bool
  | .cell (.d (.sc (.bool b))) => some b
  | _ => none

def isNilPtr : AV → Bool
  | .cell (.d (.sc (.pointer none))) => true
  | _ => false
def isBox : AObj → Bool
  | .box _ _ => true
  | .gone => false
  | .arr _ _ _ _ => false
  | .na _ _ _ => false
  | .any => false
  | .tab _ _ => false
  | .it _ _ => false
  | .mp _ _ _ _ _ => false
def isArr : AObj → Bool
  | .arr _ _ _ _ => true
  | .na _ _ _ => true
  | .any => false
  | .gone => false
  | .box _ _ => false
  | .tab _ _ => false
  | .it _ _ => false
  | .mp _ _ _ _ _ => false
def isMp : AObj → Bool
  | .mp _ _ _ _ _ => true
  | _ => false
def isPtr (ob : List (Nat × AObj)) : AV → Bool
  | .cell (.ptr k _) => isBox (lkO ob k)
  | .cell (.elt k _ _ _) => isArr (lkO ob k)
  | .cell (.d (.rp _)) => true
  | _ => false

def asFnCells : List AV → Option (List AC)
  | [] => some []
  | .cell c :: r => (asFnCells r).map (c :: ·)
  | _ => none

def allSc : List AV → Option (List Value)
  | [] => some []
  | .cell (.d (.sc v)) :: r => (allSc r).map (v :: ·)
  | _ => none

def nextValue : Option Next → Option Value
  | some (.value v) => some v
  | _ => none

def valOf (v : Value) : AV := bif v.oneCell' then .cell (.d (.sc v)) else .junk

def isSliceT (P : Program) (t : TypeId) : Bool :=
  match P.underlying t with
  | some (.slice _) => true
  | _ => false
def isPtrT (P : Program) (t : TypeId) : Bool :=
  match P.underlying t with
  | some (.pointer _) => true
  | _ => false

def vPick (fr : List (Nat × AV)) (c a b : Operand) : Option AV :=
  match boolV (ev fr c) with
  | none => none
  | some t => match boolV ((ev fr a).strip c true), boolV ((ev fr b).strip c false) with
    | some p, some q => some (.cell (.d (.sc (.bool (cond t p q)))))
    | some p, none => bif t then some (.cell (.d (.sc (.bool p)))) else none
    | none, some q => bif t then none else some (.cell (.d (.sc (.bool q))))
    | none, none => none
def vLoad (P : Program) (fr : List (Nat × AV)) (ob : List (Nat × AObj)) (t : TypeId) (a : Operand) : Option AV :=
  match ev fr a with
  | .cell (.ptr k off) => match lkO ob k with
    | .box cs _ => loadAC P t (cs.drop off)
    | _ => none
  | .cell (.elt k e j off) => match lkO ob k with
    | .arr _ _ _ cs => bif Nat.ble (j * e + off) cs.length then loadD P t (cs.drop (j * e + off)) else none
    | _ => none
  | .cell (.d (.rp cs)) => loadD P t cs
  | _ => none
def vNil (ob : List (Nat × AObj)) (op : BinOp) (x y : AV) : Option AV :=
  bif (isPtr ob x && isNilPtr y) || (isPtr ob y && isNilPtr x) then
    match op with
    | .eql => some (.cell (.d (.sc (.bool false))))
    | .neq => some (.cell (.d (.sc (.bool true))))
    | _ => none
  else none
def vBin (P : Program) (fr : List (Nat × AV)) (ob : List (Nat × AObj)) (op : BinOp) (t : TypeId) (x y : Operand) : Option AV :=
  match scV (ev fr x), scV (ev fr y) with
  | some u, some v => (pureRun P (do eqGuard op t x y u v; binOp op t u v)).map valOf
  | _, _ => bif isPtrT P t then vNil ob op (ev fr x) (ev fr y) else none
def vUn (P : Program) (fr : List (Nat × AV)) (op : UnOp) (x : Operand) : Option AV :=
  match scV (ev fr x) with
  | some u => (pureRun P (Op.unary op u)).map valOf
  | none => none
def vConv (P : Program) (fr : List (Nat × AV)) (s d : TypeId) (x : Operand) : Option AV :=
  match scV (ev fr x) with
  | some u => (pureRun P (convert s d u)).map valOf
  | none => none
def vField (P : Program) (fr : List (Nat × AV)) (ob : List (Nat × AObj)) (t : TypeId) (x : Operand) (f : Nat) : Option AV :=
  match fieldB P t f with
  | some (o, _) => match ev fr x with
    | .cell (.ptr k off) => bif isBox (lkO ob k) then some (.cell (.ptr k (off + o))) else none
    | .cell (.elt k e j off) => bif isArr (lkO ob k) then some (.cell (.elt k e j (off + o))) else none
    | .cell (.d (.rp cs)) => some (.cell (.d (.rp (cs.drop o))))
    | _ => none
  | none => none
def fieldV (P : Program) (t : TypeId) (f : Nat) : Option (Nat × TypeId) :=
  match P.underlying t with
  | some (.struct fs) => match fs[f]? with
    | some g => some (g.offset, g.type)
    | none => none
  | _ => none
def vFieldV (P : Program) (fr : List (Nat × AV)) (t : TypeId) (x : Operand) (f : Nat) : Option AV :=
  match fieldV P t f with
  | some (o, ft) => match ev fr x with
    | .aggD cs => loadD P ft (cs.drop o)
    | .agg cs => loadAC P ft (cs.drop o)
    | _ => none
  | none => none
def vExtract (fr : List (Nat × AV)) (x : Operand) (i : Nat) : Option AV :=
  match ev fr x with
  | .tup vs => vs[i]?
  | _ => none
def vFunc (fr : List (Nat × AV)) (fn : Fn) (first captured : Array Operand) : Option AV :=
  match asFnCells (first.toList.map (ev fr)), asFnCells (captured.toList.map (ev fr)) with
  | some fs, some cs => some (.cell (.fn fn fs cs))
  | _, _ => none
def vLen (P : Program) (ob : List (Nat × AObj)) (t : TypeId) (x : AV) : Option AV :=
  bif isSliceT P t then match x with
    | .cell (.d (.sl _ n _)) => some (.cell (.d (.sc (.int .i64 n))))
    | .cell (.d (.nl _ xs)) => some (.cell (.d (.sc (.int .i64 (xs.length : Nat)))))
    | .cell (.own k) => match lkO ob k with
      | .arr _ _ n _ => some (.cell (.d (.sc (.int .i64 n))))
      | .na _ _ xs => some (.cell (.d (.sc (.int .i64 (xs.length : Nat)))))
      | _ => none
    | _ => none
  else none
def vBuiltin (P : Program) (fr : List (Nat × AV)) (ob : List (Nat × AObj)) (b : Builtin) (args : Array Operand) (ats : Array TypeId) (t : TypeId) : Option AV :=
  match allSc (args.toList.map (ev fr)) with
  | some vs => (nextValue (pureRun P (builtin b ats t (args.map fun | .const _ => true | _ => false) vs.toArray))).map valOf
  | none => match b, args.toList, ats.toList with
    | .len, [x], [u] => vLen P ob u (ev fr x)
    | _, _, _ => none

def val1 (P : Program) (fr : List (Nat × AV)) (ob : List (Nat × AObj)) (o : Oper) : Option AV :=
  match o.op with
  | .move x => some (ev fr x)
  | .assign x => some (ev fr x)
  | .pick c a b => vPick fr c a b
  | .load t a => vLoad P fr ob t a
  | .nilCheck x => bif isPtr ob (ev fr x) then some (ev fr x) else none
  | .binOp op t x y _ => vBin P fr ob op t x y
  | .unOp op _ x => vUn P fr op x
  | .convert s d x => vConv P fr s d x
  | .fieldAddr t x f => vField P fr ob t x f
  | .field t x f => vFieldV P fr t x f
  | .extract x i => vExtract fr x i
  | .makeFunc fn first captured => vFunc fr fn first captured
  | .call { callee := .builtin b, args := as, argTypes := ts } => vBuiltin P fr ob b as ts o.type
  | _ => none

omit [Tabs] in
theorem valOf_rel {w : World} {F : Nat → Prop} {ρ : Env} {tm : Array Value} (v : Value) : RelAV w F ρ tm (valOf v) v := by
  unfold valOf
  cases h : v.oneCell' with
  | true => exact .cell _ _ (.d _ _ (.sc v h))
  | false => exact .junk v

omit [Tabs] in
theorem boolV_rel {w : World} {F : Nat → Prop} {ρ : Env} {tm : Array Value} {x : AV} {b : Bool} {v : Value} (h : RelAV w F ρ tm x v) (hs : boolV x = some b) : v = .bool b := by
  unfold boolV at hs
  split at hs
  · cases hs
    cases h with
    | cell c v h => cases h with
      | d x v h => cases h with
        | sc v h => rfl
  · cases hs

theorem strip_rel {N : Nat} {F : Nat → Prop} {ρ : Env} {st : ASt} {a : Act} {w : World} (h : Rel N F ρ st a w) {c x : Operand} {b : Bool} (hc : a.eval c = .bool b) :
    RelAV w F ρ a.tmps ((ev st.fr x).strip c b) (a.eval x) := by
  have hx := ev_rel h x
  generalize ev st.fr x = y at hx
  unfold AV.strip
  split
  · rename_i t g wn z
    cases hb : (Nat.beq t g && (wn == b)) with
    | false => exact hx
    | true =>
      simp only [Bool.and_eq_true, beq_iff_eq] at hb
      obtain ⟨h1, rfl⟩ := hb
      have e := Nat.eq_of_beq_eq_true h1
      subst e
      cases hx with
      | whn g want x v h1 h2 => exact h1 hc
  · exact hx

theorem isArr_loc {N : Nat} {F : Nat → Prop} {ρ : Env} {st : ASt} {a : Act} {w : World} (h : Rel N F ρ st a w) {k : Nat} (hp : isArr (lkO st.ob k) = true) : ∃ u, ρ k = some (.arr u) := by
  have ho := h.ob k
  generalize lkO st.ob k = o at hp ho
  cases ho with
  | gone h => simp [isArr] at hp
  | box => simp [isArr] at hp
  | any => simp [isArr] at hp
  | tab => simp [isArr] at hp
  | it => simp [isArr] at hp
  | mp => simp [isArr] at hp
  | arr t e n cs u xs hk ho hs hh => exact ⟨u, hk⟩
  | na t e xs ho => cases ho with
    | arr t e n cs u xs hk ho hs hh => exact ⟨u, hk⟩

theorem isPtr_rel {N : Nat} {F : Nat → Prop} {ρ : Env} {st : ASt} {a : Act} {w : World} (h : Rel N F ρ st a w) {x : AV} {v : Value} (hx : RelAV w F ρ a.tmps x v) (hp : isPtr st.ob x = true) :
    ∃ b off, v = .pointer (some ⟨b, off, none⟩) := by
  unfold isPtr at hp
  split at hp
  · rename_i k off
    have ho := h.ob k
    generalize lkO st.ob k = o at hp ho
    cases ho with
    | gone h => simp [isBox] at hp
    | arr => simp [isBox] at hp
    | na => simp [isBox] at hp
    | any => simp [isBox] at hp
    | tab => simp [isBox] at hp
    | it => simp [isBox] at hp
    | mp => simp [isBox] at hp
    | box cs oty b c t hoty hk hb hs hh =>
      cases hx with
      | cell c v hx => cases hx with
        | ptr k off v hx => exact ⟨b, off, hx b hk⟩
  · rename_i k e j off
    obtain ⟨u, hk⟩ := isArr_loc h hp
    cases hx with
    | cell c v hx => cases hx with
      | elt k e j off v hx =>
        obtain ⟨g, n, cap, _, e1⟩ := hx u hk
        exact ⟨g, _, e1⟩
  · cases hx with
    | cell c v hx => cases hx with
      | d x v hx => cases hx with
        | rp cs b off c hF hc hr => exact ⟨b, off, rfl⟩
  · cases hp

omit [Tabs] in
theorem isNilPtr_rel {w : World} {F : Nat → Prop} {ρ : Env} {tm : Array Value} {x : AV} {v : Value} (h : RelAV w F ρ tm x v) (hs : isNilPtr x = true) : v = .pointer none := by
  unfold isNilPtr at hs
  split at hs
  · cases h with
    | cell c v h => cases h with
      | d x v h => cases h with
        | sc v h => rfl
  · cases hs

omit [Tabs] in
theorem asFnCells_eq : ∀ {l : List AV} {cs : List AC}, asFnCells l = some cs → l = cs.map .cell
  | [], cs, h => by simp only [asFnCells, Option.some.injEq] at h; subst h; rfl
  | .cell c :: r, cs, h => by
    simp only [asFnCells, Option.map_eq_some_iff] at h
    obtain ⟨l, hl, rfl⟩ := h
    simp [asFnCells_eq hl]
  | .agg _ :: _, _, h => by simp [asFnCells] at h
  | .aggD _ :: _, _, h => by simp [asFnCells] at h
  | .tup _ :: _, _, h => by simp [asFnCells] at h
  | .whn _ _ _ :: _, _, h => by simp [asFnCells] at h
  | .junk :: _, _, h => by simp [asFnCells] at h

omit [Tabs] in
theorem allSc_eq : ∀ {l : List AV} {cs : List Value}, allSc l = some cs → l = cs.map fun v => .cell (.d (.sc v))
  | [], cs, h => by simp only [allSc, Option.some.injEq] at h; subst h; rfl
  | .cell (.d (.sc c)) :: r, cs, h => by
    simp only [allSc, Option.map_eq_some_iff] at h
    obtain ⟨l, hl, rfl⟩ := h
    simp [allSc_eq hl]
  | .cell (.d (.sl _ _ _)) :: _, _, h => by simp [allSc] at h
  | .cell (.d (.rp _)) :: _, _, h => by simp [allSc] at h
  | .cell (.own _) :: _, _, h => by simp [allSc] at h
  | .cell (.ptr _ _) :: _, _, h => by simp [allSc] at h
  | .cell (.elt _ _ _ _) :: _, _, h => by simp [allSc] at h
  | .cell (.osl _ _ _ _) :: _, _, h => by simp [allSc] at h
  | .cell (.pn _) :: _, _, h => by simp [allSc] at h
  | .cell (.ifo _ _) :: _, _, h => by simp [allSc] at h
  | .cell (.mpr _) :: _, _, h => by simp [allSc] at h
  | .cell (.fn _ _ _) :: _, _, h => by simp [allSc] at h
  | .cell .junk :: _, _, h => by simp [allSc] at h
  | .agg _ :: _, _, h => by simp [allSc] at h
  | .aggD _ :: _, _, h => by simp [allSc] at h
  | .tup _ :: _, _, h => by simp [allSc] at h
  | .whn _ _ _ :: _, _, h => by simp [allSc] at h
  | .junk :: _, _, h => by simp [allSc] at h

theorem allSc_rel {N : Nat} {F : Nat → Prop} {ρ : Env} {st : ASt} {a : Act} {w : World} (h : Rel N F ρ st a w) : ∀ {xs : List Operand} {vs : List Value}, allSc (xs.map (ev st.fr)) = some vs → xs.map a.eval = vs
  | [], vs, hh => by simp only [List.map_nil, allSc, Option.some.injEq] at hh; subst hh; rfl
  | x :: r, vs, hh => by
    have e := allSc_eq hh
    cases vs with
    | nil => simp at e
    | cons v vs =>
      simp only [List.map_cons, List.cons.injEq] at e
      have h1 := ev_rel h x
      rw [e.1] at h1
      have h2 := (scV_rel (u := v) h1 rfl).1
      have h3 : allSc (r.map (ev st.fr)) = some vs := by
        simp only [List.map_cons, e.1, allSc, Option.map_eq_some_iff] at hh
        obtain ⟨l, hl, he⟩ := hh
        simp only [List.cons.injEq, true_and] at he
        rw [hl, he]
      simp [h2, allSc_rel h h3]

omit [Tabs] in
theorem fieldB_run {P : Program} {t : TypeId} {f o : Nat} {ft : TypeId} (h : fieldB P t f = some (o, ft)) (b off : Nat) (w : World) :
    (Instr.fieldAt t (.pointer (some ⟨b, off, none⟩)) f).run P w = .ok (.pointer (some ⟨b, off + o, none⟩)) w := by
  unfold fieldB at h
  split at h
  · rename_i fs hu
    split at h
    · rename_i g hg
      split at h
      · rename_i s hs
        simp only [Option.some.injEq, Prod.mk.injEq] at h
        obtain ⟨rfl, rfl⟩ := h
        simp [Instr.fieldAt, run_underlying hu, hg, Instr.sureAddr, fieldPlace, run_sizeOf hs, Addr.add_lit]
      · cases h
    · cases h
  · cases h

def VR (P : Program) (F : Nat → Prop) (ρ : Env) (a : Act) (w : World) (o : Oper) (x : AV) : Prop :=
  ∃ v, (execOp a.eval o).run P w = .ok (.value v) w ∧ RelAV w F ρ a.tmps x v

section
variable {P : Program} {N : Nat} {F : Nat → Prop} {ρ : Env} {st : ASt} {a : Act} {w : World}

theorem vPick_run (h : Rel N F ρ st a w) {c p q : Operand} {x : AV} (hv : vPick st.fr c p q = some x) : ∃ v t, a.eval c = .bool t ∧ v = (if t then a.eval p else a.eval q) ∧ RelAV w F ρ a.tmps x v := by
  unfold vPick at hv
  split at hv
  · cases hv
  · rename_i t h1
    have e1 := boolV_rel (ev_rel h c) h1
    have ht : ∀ bp, t = true → boolV ((ev st.fr p).strip c true) = some bp → a.eval p = .bool bp := fun bp e h2 => boolV_rel (strip_rel h (x := p) (e ▸ e1)) h2
    have hf : ∀ bq, t = false → boolV ((ev st.fr q).strip c false) = some bq → a.eval q = .bool bq := fun bq e h2 => boolV_rel (strip_rel h (x := q) (e ▸ e1)) h2
    refine ⟨_, t, e1, rfl, ?_⟩
    split at hv
    · rename_i bp bq h2 h3
      cases hv
      cases t with
      | true =>
        simp only [if_true, ht bp rfl h2, cond_true]
        exact .cell _ _ (.d _ _ (.sc _ rfl))
      | false =>
        simp only [Bool.false_eq_true, if_false, hf bq rfl h3, cond_false]
        exact .cell _ _ (.d _ _ (.sc _ rfl))
    · rename_i bp h2 h3
      cases t with
      | true =>
        cases hv
        simp only [if_true, ht bp rfl h2]
        exact .cell _ _ (.d _ _ (.sc _ rfl))
      | false => cases hv
    · rename_i bq h2 h3
      cases t with
      | true => cases hv
      | false =>
        cases hv
        simp only [Bool.false_eq_true, if_false, hf bq rfl h3]
        exact .cell _ _ (.d _ _ (.sc _ rfl))
    · cases hv

theorem vLoad_run (h : Rel N F ρ st a w) {t : TypeId} {p : Operand} {x : AV} (hv : vLoad P st.fr st.ob t p = some x) : ∃ v, (Instr.loadAt t (a.eval p)).run P w = .ok v w ∧ RelAV w F ρ a.tmps x v := by
  have hp := ev_rel h p
  generalize a.eval p = pv at hp ⊢
  unfold vLoad at hv
  split at hv
  · rename_i k off he
    rw [he] at hp
    split at hv
    · rename_i cs hcs
      have hob := h.ob k
      rw [hcs] at hob
      cases hob with
      | box cs oty b c ty hoty hk hb hs hh =>
        cases hp with
        | cell c' v hp => cases hp with
          | ptr k off v hp =>
            have e := hp b hk
            subst e
            obtain ⟨v, hrun, hrel⟩ := loadAC_run (P := P) (w := w) (F := F) (ρ := ρ) (tm := a.tmps) (b := b) (off := off) (fun i => c.getD (off + i) undef) hv
              (fun i hi => by
                simp only [List.length_drop] at hi
                simp [World.cell?, hb, Array.getD_eq_getD_getElem?, Array.getElem?_eq_getElem (show off + i < c.size by omega)])
              (fun i hi => by
                simp only [List.length_drop] at hi
                rw [List.getElem_drop]
                exact hh (off + i) (by omega))
            exact ⟨v, by simp [Instr.loadAt, Instr.sureAddr, hrun], hrel⟩
    · cases hv
  · rename_i k e j off he
    rw [he] at hp
    split at hv
    · rename_i ty' e' n' cs hcs
      cases hb : Nat.ble (j * e + off) cs.length with
      | false => rw [hb] at hv; cases hv
      | true =>
      rw [hb, cond_true] at hv
      have hle := Nat.le_of_ble_eq_true hb
      have hob := h.ob k
      rw [hcs] at hob
      cases hob with
      | arr t e n cs u xs hk ho hs hh =>
        cases hp with
        | cell c' v hp => cases hp with
          | elt k e j off v hp =>
            obtain ⟨g, n2, cap, e1, e2⟩ := hp u hk
            subst e1
            subst e2
            obtain ⟨v, hrun, hrel⟩ := loadD_run (P := P) (w := w) (F := F) (ρ := ρ) (tm := a.tmps) (b := g) (off := j * e + off) (fun i => xs.getD (j * e + off + i) undef) hv
              (fun i hi => by
                simp only [List.length_drop] at hi
                have h5 := ho.cells (g := g) rfl (j * e + off + i) (xs.getD (j * e + off + i) undef) (by
                  rw [List.getD_eq_getElem?_getD, List.getElem?_eq_getElem (by omega), Option.getD_some])
                rw [Addr.add_lit, Nat.zero_add] at h5
                exact h5)
              (fun i hi => by
                simp only [List.length_drop] at hi
                rw [List.getElem_drop]
                exact hh (j * e + off + i) (by omega))
            exact ⟨v, by simp [Instr.loadAt, Instr.sureAddr, hrun], hrel⟩
    · cases hv
  · rename_i cs he
    rw [he] at hp
    cases hp with
    | cell c' v hp => cases hp with
      | d y v hp => cases hp with
        | rp cs b off c hF hc hr =>
          obtain ⟨v, hrun, hrel⟩ := loadD_run (P := P) (w := w) (F := F) (ρ := ρ) (tm := a.tmps) (b := b) (off := off) c hv hc hr
          exact ⟨v, by simp [Instr.loadAt, Instr.sureAddr, hrun], hrel⟩
  · cases hv

omit [Tabs] in
theorem isPtrT_eq {t : TypeId} (h : isPtrT P t = true) : ∃ e, P.underlying t = some (.pointer e) := by
  unfold isPtrT at h
  split at h
  · exact ⟨_, by assumption⟩
  · cases h

omit [Tabs] in
theorem equalIn_ptr (d : Nat) {t e : TypeId} (hu : P.underlying t = some (.pointer e)) (y : Option Addr) : (Op.equalIn (d + 1) t (.pointer none) (.pointer y)).run P w = .ok y.isNone w := by
  simp [Op.equalIn, run_underlying hu]
omit [Tabs] in
theorem equalIn_ptr' (d : Nat) {t e : TypeId} (hu : P.underlying t = some (.pointer e)) (y : Addr) : (Op.equalIn (d + 1) t (.pointer (some y)) (.pointer none)).run P w = .ok false w := by
  simp [Op.equalIn, run_underlying hu]
omit [Tabs] in
theorem equal_ptr {t e : TypeId} (hu : P.underlying t = some (.pointer e)) (y : Option Addr) : (Op.equal t (.pointer none) (.pointer y)).run P w = .ok y.isNone w := equalIn_ptr 9999 hu y
omit [Tabs] in
theorem equal_ptr' {t e : TypeId} (hu : P.underlying t = some (.pointer e)) (y : Addr) : (Op.equal t (.pointer (some y)) (.pointer none)).run P w = .ok false w := equalIn_ptr' 9999 hu y

theorem vBin_run (h : Rel N F ρ st a w) {op : BinOp} {t : TypeId} {p q : Operand} {x : AV} (hv : vBin P st.fr st.ob op t p q = some x) :
    ∃ v, (do eqGuard op t p q (a.eval p) (a.eval q); binOp op t (a.eval p) (a.eval q) : Sem Value).run P w = .ok v w ∧ RelAV w F ρ a.tmps x v := by
  have hp := ev_rel h p
  have hq := ev_rel h q
  unfold vBin at hv
  split at hv
  · rename_i u v hu hv'
    simp only [Option.map_eq_some_iff] at hv
    obtain ⟨r, hr, rfl⟩ := hv
    rw [(scV_rel hp hu).1, (scV_rel hq hv').1]
    exact ⟨r, pureRun_run hr w, valOf_rel r⟩
  · cases ht : isPtrT P t with
    | false => rw [ht] at hv; cases hv
    | true =>
      rw [ht, cond_true] at hv
      obtain ⟨e, hu⟩ := isPtrT_eq ht
      generalize a.eval p = pv at hp ⊢
      generalize a.eval q = qv at hq ⊢
      unfold vNil at hv
      cases hc : (isPtr st.ob (ev st.fr p) && isNilPtr (ev st.fr q) || isPtr st.ob (ev st.fr q) && isNilPtr (ev st.fr p)) with
      | false => rw [hc] at hv; cases hv
      | true =>
        rw [hc, cond_true] at hv
        simp only [Bool.or_eq_true, Bool.and_eq_true] at hc
        rcases hc with ⟨h1, h2⟩ | ⟨h1, h2⟩
        · obtain ⟨b, off, rfl⟩ := isPtr_rel h hp h1
          have := isNilPtr_rel hq h2
          subst this
          split at hv
          · cases hv
            exact ⟨.bool false, by simp [eqGuard, binOp, equal_ptr' hu], .cell _ _ (.d _ _ (.sc _ rfl))⟩
          · cases hv
            exact ⟨.bool true, by simp [eqGuard, binOp, equal_ptr' hu], .cell _ _ (.d _ _ (.sc _ rfl))⟩
          · cases hv
        · obtain ⟨b, off, rfl⟩ := isPtr_rel h hq h1
          have := isNilPtr_rel hp h2
          subst this
          split at hv
          · cases hv
            exact ⟨.bool false, by simp [eqGuard, binOp, equal_ptr hu], .cell _ _ (.d _ _ (.sc _ rfl))⟩
          · cases hv
            exact ⟨.bool true, by simp [eqGuard, binOp, equal_ptr hu], .cell _ _ (.d _ _ (.sc _ rfl))⟩
          · cases hv

theorem vField_run (h : Rel N F ρ st a w) {t : TypeId} {p : Operand} {f : Nat} {x : AV} (hv : vField P st.fr st.ob t p f = some x) :
    ∃ v, (Instr.fieldAt t (a.eval p) f).run P w = .ok v w ∧ RelAV w F ρ a.tmps x v := by
  have hp := ev_rel h p
  generalize a.eval p = pv at hp ⊢
  unfold vField at hv
  split at hv
  · rename_i o ft hf
    split at hv
    · rename_i k off he
      rw [he] at hp
      cases hb : isBox (lkO st.ob k) with
      | false => rw [hb] at hv; cases hv
      | true =>
        rw [hb] at hv
        cases hv
        have hp' := isPtr_rel h hp (by simpa [isPtr] using hb)
        obtain ⟨b, off', e⟩ := hp'
        subst e
        refine ⟨_, fieldB_run hf b off' w, .cell _ _ (.ptr _ _ _ fun b' hb' => ?_)⟩
        cases hp with
        | cell c v hp => cases hp with
          | ptr k off v hp =>
            have := hp b' hb'
            simp only [Value.pointer.injEq, Option.some.injEq, Addr.mk.injEq, and_true] at this
            rw [this.1, this.2]
    · rename_i k e j off he
      rw [he] at hp
      cases hb : isArr (lkO st.ob k) with
      | false => rw [hb] at hv; cases hv
      | true =>
        rw [hb] at hv
        cases hv
        obtain ⟨u, hk⟩ := isArr_loc h hb
        cases hp with
        | cell c v hp => cases hp with
          | elt k e j off v hp =>
            obtain ⟨g, n, cap, e1, e2⟩ := hp u hk
            subst e2
            refine ⟨_, fieldB_run hf g (j * e + off) w, .cell _ _ (.elt _ _ _ _ _ fun u' hu' => ?_)⟩
            rw [hk] at hu'
            cases hu'
            exact ⟨g, n, cap, e1, by rw [Nat.add_assoc]⟩
    · rename_i cs he
      rw [he] at hp
      cases hv
      cases hp with
      | cell c v hp => cases hp with
        | d y v hp => cases hp with
          | rp cs b off c hF hc hr =>
            refine ⟨_, fieldB_run hf b off w, .cell _ _ (.d _ _ (.rp _ _ _ (fun i => c (o + i)) (fun h => hF fun e => h (by rw [e]; simp)) (fun i hi => ?_) fun i hi => ?_))⟩
            · simp only [List.length_drop] at hi
              rw [Nat.add_assoc]
              exact hc (o + i) (by omega)
            · simp only [List.length_drop] at hi
              rw [List.getElem_drop]
              exact hr (o + i) (by omega)
    · cases hv
  · cases hv

theorem vLen_run (h : Rel N F ρ st a w) {u : TypeId} {y : AV} {v : Value} (ty : TypeId) (hy : RelAV w F ρ a.tmps y v) {x : AV} (hv : vLen P st.ob u y = some x) :
    ∃ r, (Builtin.len_ #[u] ty #[v]).run P w = .ok r w ∧ RelAV w F ρ a.tmps x r := by
  unfold vLen at hv
  cases hs : isSliceT P u with
  | false => rw [hs] at hv; cases hv
  | true =>
    rw [hs, cond_true] at hv
    obtain ⟨e, hu⟩ : ∃ e, P.underlying u = some (.slice e) := by
      unfold isSliceT at hs
      split at hs
      · exact ⟨_, by assumption⟩
      · cases hs
    have key : ∀ ad n cap, (Builtin.len_ #[u] ty #[.slice ad n cap]).run P w = .ok (.int .i64 n) w := fun ad n cap => by
      simp [Builtin.len_, run_underlying hu, goInt]
    have slK : ∀ {e' n : Nat} {cs : List D} {v : Value}, RelD w F (.sl e' n cs) v → (Builtin.len_ #[u] ty #[v]).run P w = .ok (.int .i64 n) w := by
      intro e' n cs v hy
      cases hy with
      | nil e' ad cap => exact key _ _ _
      | sl e' n cs b off cap c hF hl hcap hc hr => exact key _ _ _
    have arK : ∀ {k : Nat} {t' : TypeId} {e' n : Nat} {cs : List D} {v : Value}, RelOb w F ρ k (.arr t' e' n cs) → RelAV w F ρ a.tmps (.cell (.own k)) v → (Builtin.len_ #[u] ty #[v]).run P w = .ok (.int .i64 n) w := by
      intro k t' e' n cs v hob hy
      cases hob with
      | arr t e'' n cs u' xs hk ho hs hh =>
        cases hy with
        | cell c v hy => cases hy with
          | own k v hy =>
            have e1 := hy u' hk
            subst e1
            rcases ho.2 with ⟨rfl, rfl⟩ | ⟨g, cap, cur, rfl, _⟩
            · exact key _ _ _
            · exact key _ _ _
    split at hv
    · cases hv
      cases hy with
      | cell c v hy => cases hy with
        | d z v hy => exact ⟨_, slK hy, .cell _ _ (.d _ _ (.sc _ rfl))⟩
    · cases hv
      cases hy with
      | cell c v hy => cases hy with
        | d z v hy => cases hy with
          | nl t xs v hy => exact ⟨_, slK hy, .cell _ _ (.d _ _ (.sc _ rfl))⟩
    · rename_i k
      split at hv
      · rename_i t' e' n cs hk
        cases hv
        have hob := h.ob k
        rw [hk] at hob
        exact ⟨_, arK hob hy, .cell _ _ (.d _ _ (.sc _ rfl))⟩
      · rename_i t' e' xs hk
        cases hv
        have hob := h.ob k
        rw [hk] at hob
        cases hob with
        | na t e xs hob => exact ⟨_, arK hob hy, .cell _ _ (.d _ _ (.sc _ rfl))⟩
      · cases hv
    · cases hv

theorem vBuiltin_run (h : Rel N F ρ st a w) {b : Builtin} {as : Array Operand} {ts : Array TypeId} {t : TypeId} {x : AV} (hv : vBuiltin P st.fr st.ob b as ts t = some x) :
    ∃ v, (builtin b ts t (as.map fun | .const _ => true | _ => false) (as.map a.eval)).run P w = .ok (.value v) w ∧ RelAV w F ρ a.tmps x v := by
  unfold vBuiltin at hv
  split at hv
  · rename_i vs hs
    simp only [Option.map_eq_some_iff] at hv
    obtain ⟨r, hr, rfl⟩ := hv
    have e := allSc_rel h hs
    have e' : as.map a.eval = vs.toArray := by rw [← e]; cases as; simp
    rw [e']
    unfold nextValue at hr
    split at hr
    · rename_i v hp
      cases hr
      exact ⟨r, pureRun_run hp w, valOf_rel r⟩
    · cases hr
  · split at hv
    · rename_i x' u h1 h2
      have e1 : as = #[x'] := by cases as; simp_all
      have e2 : ts = #[u] := by cases ts; simp_all
      subst e1
      subst e2
      obtain ⟨r, hr, hrel⟩ := vLen_run h t (ev_rel h x') hv
      refine ⟨r, ?_, hrel⟩
      simp only [builtin, List.map_toArray, List.map_cons, List.map_nil, Sem.run_bind, hr]
      rfl
    · cases hv

omit [Tabs] in
theorem part_agg {P : Program} {ft : TypeId} {arr : Array Value} {o s : Nat} (ha : isAggB P ft = some true) (hs : sizeB P ft = some s) (w : World) : (part ft arr o).run P w = .ok (.agg (arr.extract o (o + s))) w := by
  simp [part, run_isAgg ha, run_sizeOf hs]
omit [Tabs] in
theorem part_one {P : Program} {ft : TypeId} {arr : Array Value} {o : Nat} (ha : isAggB P ft = some false) (ho : o < arr.size) (w : World) : (part ft arr o).run P w = .ok (arr.getD o undef) w := by
  simp [part, run_isAgg ha, Array.getD_eq_getD_getElem?, ho]
theorem vFieldV_run (h : Rel N F ρ st a w) {t : TypeId} {p : Operand} {f : Nat} {x : AV} (hv : vFieldV P st.fr t p f = some x) : ∃ v, (Instr.field t (a.eval p) f).run P w = .ok v w ∧ RelAV w F ρ a.tmps x v := by
  have hp := ev_rel h p
  generalize a.eval p = pv at hp ⊢
  unfold vFieldV at hv
  split at hv
  · rename_i o ft hf
    unfold fieldV at hf
    split at hf
    · rename_i fs hu
      split at hf
      · rename_i g hg
        cases hf
        have hrun : ∀ arr : Array Value, (Instr.field t (.agg arr) f).run P w = (part g.type arr g.offset).run P w := fun arr => by
          simp [Instr.field, run_underlying hu, hg, asAgg]
        split at hv
        · rename_i cs he
          rw [he] at hp
          cases hp with
          | aggD cs arr hs hh =>
            rw [hrun]
            unfold loadD at hv
            split at hv
            · rename_i ha
              split at hv
              · rename_i s hsz
                cases hb : Nat.ble s (cs.drop g.offset).length with
                | false => rw [hb] at hv; cases hv
                | true =>
                  rw [hb] at hv
                  simp only [cond_true, Option.some.injEq] at hv
                  subst hv
                  have hle := Nat.le_of_ble_eq_true hb
                  rw [List.length_drop] at hle
                  by_cases h0 : s = 0
                  · subst h0
                    exact ⟨_, part_agg ha hsz w, .aggD _ _ (by simp; omega) fun i hi => by simp at hi⟩
                  · refine ⟨_, part_agg ha hsz w, .aggD _ _ (by simp; omega) fun i hi => ?_⟩
                    have hi' : i < s := by simp only [List.length_take] at hi; omega
                    rw [List.getElem_take, List.getElem_drop]
                    have e1 : (arr.extract g.offset (g.offset + s)).getD i undef = arr.getD (g.offset + i) undef := by
                      rw [Array.getD_eq_getD_getElem?, Array.getD_eq_getD_getElem?, Array.getElem?_extract, if_pos (by omega)]
                    rw [e1]
                    exact hh (g.offset + i) (by omega)
              · cases hv
            · rename_i ha
              split at hv
              · rename_i c r hc
                cases hv
                have hlt : g.offset < cs.length := by
                  rcases Nat.lt_or_ge g.offset cs.length with h | h
                  · exact h
                  · rw [List.drop_eq_nil_of_le h] at hc; cases hc
                refine ⟨_, part_one ha (by omega) w, .cell _ _ (.d _ _ ?_)⟩
                have h1 := hh g.offset hlt
                have e2 : cs[g.offset] = c := by rw [List.drop_eq_getElem_cons hlt] at hc; cases hc; rfl
                rw [e2] at h1
                exact h1
              · cases hv
            · cases hv
        · rename_i cs he
          rw [he] at hp
          cases hp with
          | agg cs arr hs hh =>
            rw [hrun]
            unfold loadAC at hv
            split at hv
            · rename_i ha
              split at hv
              · rename_i s hsz
                cases hb : Nat.ble s (cs.drop g.offset).length with
                | false => rw [hb] at hv; cases hv
                | true =>
                  rw [hb] at hv
                  simp only [cond_true, Option.some.injEq] at hv
                  subst hv
                  have hle := Nat.le_of_ble_eq_true hb
                  rw [List.length_drop] at hle
                  by_cases h0 : s = 0
                  · subst h0
                    exact ⟨_, part_agg ha hsz w, mkAgg_rel (.agg _ _ (by simp; omega) fun i hi => by simp at hi)⟩
                  · refine ⟨_, part_agg ha hsz w, mkAgg_rel (.agg _ _ (by simp; omega) fun i hi => ?_)⟩
                    have hi' : i < s := by simp only [List.length_take] at hi; omega
                    rw [List.getElem_take, List.getElem_drop]
                    have e1 : (arr.extract g.offset (g.offset + s)).getD i undef = arr.getD (g.offset + i) undef := by
                      rw [Array.getD_eq_getD_getElem?, Array.getD_eq_getD_getElem?, Array.getElem?_extract, if_pos (by omega)]
                    rw [e1]
                    exact hh (g.offset + i) (by omega)
              · cases hv
            · rename_i ha
              split at hv
              · rename_i c r hc
                cases hv
                have hlt : g.offset < cs.length := by
                  rcases Nat.lt_or_ge g.offset cs.length with h | h
                  · exact h
                  · rw [List.drop_eq_nil_of_le h] at hc; cases hc
                refine ⟨_, part_one ha (by omega) w, .cell _ _ ?_⟩
                have h1 := hh g.offset hlt
                have e2 : cs[g.offset] = c := by rw [List.drop_eq_getElem_cons hlt] at hc; cases hc; rfl
                rw [e2] at h1
                exact h1
              · cases hv
            · cases hv
        · cases hv
      · cases hf
    · cases hf
  · cases hv

theorem val1_run (h : Rel N F ρ st a w) {o : Oper} {x : AV} (hv : val1 P st.fr st.ob o = some x) : VR P F ρ a w o x := by
  obtain ⟨dst, op, ty, pos, after, guard⟩ := o
  unfold val1 at hv
  unfold VR
  cases op with
  | move y => cases hv; exact ⟨_, rfl, ev_rel h y⟩
  | assign y => cases hv; exact ⟨_, rfl, ev_rel h y⟩
  | pick c p q =>
    obtain ⟨v, t, e, rfl, hr⟩ := vPick_run h hv
    exact ⟨_, by simp [execOp, e, asBool], hr⟩
  | load t p =>
    obtain ⟨v, e, hr⟩ := vLoad_run h hv
    exact ⟨v, by simp [execOp, e], hr⟩
  | nilCheck p =>
    dsimp only at hv
    cases hb : isPtr st.ob (ev st.fr p) with
    | false => rw [hb] at hv; cases hv
    | true =>
      rw [hb] at hv
      cases hv
      obtain ⟨b, off, e⟩ := isPtr_rel h (ev_rel h p) hb
      exact ⟨_, by simp only [execOp, e]; rfl, e ▸ ev_rel h p⟩
  | binOp op t p q yt =>
    obtain ⟨v, e, hr⟩ := vBin_run h hv
    refine ⟨v, ?_, hr⟩
    show Sem.run P (do pure (Next.value (← (do eqGuard op t p q (a.eval p) (a.eval q); binOp op t (a.eval p) (a.eval q))))) w = _
    rw [Sem.run_bind, e]
    rfl
  | unOp op t p =>
    dsimp only at hv
    unfold vUn at hv
    split at hv
    · rename_i u hu
      simp only [Option.map_eq_some_iff] at hv
      obtain ⟨r, hr, rfl⟩ := hv
      have e := (scV_rel (ev_rel h p) hu).1
      exact ⟨r, by simp [execOp, e, pureRun_run hr w], valOf_rel r⟩
    · cases hv
  | convert s d p =>
    dsimp only at hv
    unfold vConv at hv
    split at hv
    · rename_i u hu
      simp only [Option.map_eq_some_iff] at hv
      obtain ⟨r, hr, rfl⟩ := hv
      have e := (scV_rel (ev_rel h p) hu).1
      exact ⟨r, by simp [execOp, e, pureRun_run hr w], valOf_rel r⟩
    · cases hv
  | fieldAddr t p f =>
    obtain ⟨v, e, hr⟩ := vField_run h hv
    exact ⟨v, by simp [execOp, e], hr⟩
  | field t p f =>
    obtain ⟨v, e, hr⟩ := vFieldV_run h hv
    exact ⟨v, by simp [execOp, e], hr⟩
  | extract p i =>
    dsimp only at hv
    unfold vExtract at hv
    have hp := ev_rel h p
    split at hv
    · rename_i vs he
      rw [he] at hp
      generalize hpv : a.eval p = pv at hp
      cases hp with
      | tup vs arr hs hh =>
        obtain ⟨hi, e⟩ := List.getElem?_eq_some_iff.1 hv
        have hi' : i < arr.size := by omega
        have e1 : arr.getD i undef = arr[i] := by simp [Array.getD_eq_getD_getElem?, hi']
        have e2 := Array.getElem?_eq_getElem hi'
        refine ⟨arr[i], ?_, by rw [← e, ← e1]; exact hh i hi⟩
        simp only [execOp, hpv, Instr.extract, e2]
        rfl
    · cases hv
  | makeFunc fn first captured =>
    dsimp only at hv
    unfold vFunc at hv
    split at hv
    · rename_i fs cs h1 h2
      cases hv
      have e1 := asFnCells_eq h1
      have e2 := asFnCells_eq h2
      have l1 : first.size = fs.length := by simpa using congrArg List.length e1
      have l2 : captured.size = cs.length := by simpa using congrArg List.length e2
      refine ⟨.func fn (first.map a.eval) (captured.map a.eval), by simp [execOp, Instr.makeFunc], .cell _ _ (.fn _ _ _ _ _ (by simpa using l1) (by simpa using l2) (fun i hi => ?_) (fun i hi => ?_))⟩
      · have hh := ev_rel h first[i]
        have e3 : ev st.fr first[i] = .cell fs[i] := by
          have := congrArg (·[i]?) e1
          simpa [show i < first.size by omega, hi] using this
        rw [e3] at hh
        have e4 : (first.map a.eval).getD i undef = a.eval first[i] := by simp [Array.getD_eq_getD_getElem?, show i < first.size by omega]
        rw [e4]
        cases hh with
        | cell c v hh => exact hh
      · have hh := ev_rel h captured[i]
        have e3 : ev st.fr captured[i] = .cell cs[i] := by
          have := congrArg (·[i]?) e2
          simpa [show i < captured.size by omega, hi] using this
        rw [e3] at hh
        have e4 : (captured.map a.eval).getD i undef = a.eval captured[i] := by simp [Array.getD_eq_getD_getElem?, show i < captured.size by omega]
        rw [e4]
        cases hh with
        | cell c v hh => exact hh
    · cases hv
  | call c =>
    obtain ⟨callee, args, ats⟩ := c
    cases callee with
    | builtin b =>
      obtain ⟨v, e, hr⟩ := vBuiltin_run h hv
      refine ⟨v, ?_, hr⟩
      simp only [execOp, resolve, invoke, Sem.run_bind, Sem.run_pure, Result.andThen_ok]
      exact e
    | value f => cases hv
    | invoke r m => cases hv
  | _ => cases hv
end

end Esp

/- ESP, part 11: the rules with a condition, asked by what the state holds. -/
import Derived.Test.YtdnhnpfommlfbaaDoorEspTrace
namespace Esp
open Go
set_option linter.unusedSimpArgs false
set_option linter.unusedVariables false
variable [Tabs]

section
variable {P : Program} {N : Nat} {ops : Array Oper} {Q : Exit → ASt → Prop} {st st' : ASt} {l : List Nat}

def qIndex (P : Program) (N : Nat) (ops : Array Oper) (i : Nat) (st : ASt) : Option (Tmp × Nat × Nat × List D × Int) :=
  match opK ops st.fr i with
  | some ⟨some d, .indexAddr t x ix, _, _, _, _⟩ => match elemB P t, ev st.fr x, ev st.fr ix with
    | some (_, e), .cell (.d (.sl e' n cs)), .cell (.d (.sc (.int _ j))) => bif Nat.beq e e' && Nat.blt d N then some (d, e, n, cs, j) else none
    | _, _, _ => none
  | _ => none
theorem IEff.qindex {i d e n : Nat} {cs es : List D} {j : Int} (h : qIndex P N ops i st = some (d, e, n, cs, j)) (h0 : 0 ≤ j) (h1 : j < n) (hes : (cs.drop (j.toNat * e)).take e = es) :
    IEff P N ops i st (.put d (.cell (.d (.rp es)))) := by
  unfold qIndex at h
  split at h
  · rename_i d' t x ix ty pos after guard ho
    split at h
    · rename_i te e1 e2 n' cs' kk j' ht hx hi
      cases hb : (Nat.beq e1 e2 && Nat.blt d' N) with
      | false => rw [hb] at h; cases h
      | true =>
        rw [hb] at h
        cases h
        simp only [Bool.and_eq_true] at hb
        have := Nat.eq_of_beq_eq_true hb.1
        subst this
        exact .index ho hx hi ht hb.2 h0 h1 hes
    · cases h
  · cases h

def qStrIndex (P : Program) (N : Nat) (ops : Array Oper) (i : Nat) (st : ASt) : Option (Tmp × ByteArray × Int) :=
  match opK ops st.fr i with
  | some ⟨some d, .index t x ix, _, _, _, _⟩ => match P.underlying t, ev st.fr x, ev st.fr ix with
    | some .string, .cell (.d (.sc (.string s))), .cell (.d (.sc (.int _ j))) => bif Nat.blt d N then some (d, s, j) else none
    | _, _, _ => none
  | _ => none
theorem IEff.qstrIndex {i d : Nat} {s : ByteArray} {j : Int} {b : UInt8} (h : qStrIndex P N ops i st = some (d, s, j)) (h0 : 0 ≤ j) (hb : s.data.toList[j.toNat]? = some b) :
    IEff P N ops i st (.put d (.cell (.d (.sc (.int .u8 b.toNat))))) := by
  unfold qStrIndex at h
  split at h
  · rename_i d' t x ix ty pos after guard ho
    split at h
    · rename_i ht hx hi
      cases hd : Nat.blt d' N with
      | false => rw [hd] at h; cases h
      | true =>
        rw [hd] at h
        cases h
        exact .strIndex ho hx hi ht hd h0 hb
    · cases h
  · cases h

def qStrSlice (P : Program) (N : Nat) (ops : Array Oper) (i : Nat) (st : ASt) : Option (Tmp × ByteArray × Int × Int) :=
  match opK ops st.fr i with
  | some ⟨some d, .slice t x lo hi none, _, _, _, _⟩ => match P.underlying t, ev st.fr x with
    | some .string, .cell (.d (.sc (.string s))) => match bndV st.fr lo 0, bndV st.fr hi s.size with
      | some p, some q => bif Nat.blt d N then some (d, s, p, q) else none
      | _, _ => none
    | _, _ => none
  | _ => none
theorem IEff.qstrSlice {i d : Nat} {s r : ByteArray} {p q : Int} (h : qStrSlice P N ops i st = some (d, s, p, q)) (h0 : 0 ≤ p) (h1 : p ≤ q) (h2 : q ≤ s.size) (hr : s.extract p.toNat q.toNat = r) :
    IEff P N ops i st (.put d (.cell (.d (.sc (.string r))))) := by
  unfold qStrSlice at h
  split at h
  · rename_i d' t x lo hi ty pos after guard ho
    split at h
    · rename_i ht hx
      split at h
      · rename_i hl hh
        cases hd : Nat.blt d' N with
        | false => rw [hd] at h; cases h
        | true =>
          rw [hd] at h
          cases h
          exact .strSlice ho hx ht hl hh hd h0 h1 h2 hr
      · cases h
    · cases h
  · cases h

def qSlice (P : Program) (N : Nat) (ops : Array Oper) (i : Nat) (st : ASt) : Option (Tmp × Nat × Nat × List D × Int × Int) :=
  match opK ops st.fr i with
  | some ⟨some d, .slice t x lo hi none, _, _, _, _⟩ => match elemB P t, ev st.fr x with
    | some (_, e), .cell (.d (.sl e' n cs)) => match bndV st.fr lo 0, bndV st.fr hi n with
      | some p, some q => bif Nat.beq e e' && Nat.blt d N then some (d, e, n, cs, p, q) else none
      | _, _ => none
    | _, _ => none
  | _ => none
theorem IEff.qslice {i d e n : Nat} {cs es : List D} {p q : Int} {m : Nat} (h : qSlice P N ops i st = some (d, e, n, cs, p, q)) (h0 : 0 ≤ p) (h1 : p ≤ q) (h2 : q ≤ n)
    (hm : (q - p).toNat = m) (hes : (cs.drop (p.toNat * e)).take (m * e) = es) : IEff P N ops i st (.put d (.cell (.d (.sl e m es)))) := by
  unfold qSlice at h
  split at h
  · rename_i d' t x lo hi ty pos after guard ho
    split at h
    · rename_i te e1 e2 n' cs' ht hx
      split at h
      · rename_i hl hh
        cases hb : (Nat.beq e1 e2 && Nat.blt d' N) with
        | false => rw [hb] at h; cases h
        | true =>
          rw [hb] at h
          cases h
          simp only [Bool.and_eq_true] at hb
          have := Nat.eq_of_beq_eq_true hb.1
          subst this
          exact .slice ho hx ht hl hh hb.2 h0 h1 h2 hm hes
      · cases h
    · cases h
  · cases h

def qBytesOf (P : Program) (N : Nat) (ops : Array Oper) (i : Nat) (st : ASt) : Option (Tmp × ByteArray) :=
  match opK ops st.fr i with
  | some ⟨some d, .convert src dst x, _, _, _, _⟩ => match P.underlying src, ev st.fr x with
    | some .string, .cell (.d (.sc (.string s))) => bif isBytesT P dst && Nat.blt d N then some (d, s) else none
    | _, _ => none
  | _ => none
theorem IEff.qbytesOf {i d : Nat} {s : ByteArray} (h : qBytesOf P N ops i st = some (d, s)) : IEff P N ops i st (.put d (.cell (.d (.sl 1 s.size (bytesD s.data.toList))))) := by
  unfold qBytesOf at h
  split at h
  · rename_i d' src dst x ty pos after guard ho
    split at h
    · rename_i hs hx
      cases hb : (isBytesT P dst && Nat.blt d' N) with
      | false => rw [hb] at h; cases h
      | true =>
        rw [hb] at h
        cases h
        simp only [Bool.and_eq_true] at hb
        exact .bytesOf ho hx hs hb.1 hb.2
    · cases h
  · cases h

def qOfBytes (P : Program) (N : Nat) (ops : Array Oper) (i : Nat) (st : ASt) : Option (Tmp × Nat × List D) :=
  match opK ops st.fr i with
  | some ⟨some d, .convert src dst x, _, _, _, _⟩ => match P.underlying dst, ev st.fr x with
    | some .string, .cell (.d (.sl e n cs)) => bif isBytesT P src && Nat.blt d N && Nat.beq e 1 then some (d, n, cs) else none
    | _, _ => none
  | _ => none
theorem IEff.qofBytes {i d n : Nat} {cs : List D} {b : List UInt8} {r : ByteArray} (h : qOfBytes P N ops i st = some (d, n, cs)) (hn : n = b.length) (hc : cs = bytesD b) (hr : ⟨b.toArray⟩ = r) :
    IEff P N ops i st (.put d (.cell (.d (.sc (.string r))))) := by
  unfold qOfBytes at h
  split at h
  · rename_i d' src dst x ty pos after guard ho
    split at h
    · rename_i e n' cs' hs hx
      cases hb : (isBytesT P src && Nat.blt d' N && Nat.beq e 1) with
      | false => rw [hb] at h; cases h
      | true =>
        rw [hb] at h
        cases h
        simp only [Bool.and_eq_true] at hb
        have := Nat.eq_of_beq_eq_true hb.2
        subst this
        exact .ofBytes ho hx hb.1.1 hs hb.1.2 hn hc hr
    · cases h
  · cases h

/-- append to one's own: slot, key, element type, cells an element, bytes an element, how many there are, these, how many come, these -/
def qAppend (P : Program) (N : Nat) (ops : Array Oper) (i : Nat) (st : ASt) : Option (Tmp × Nat × Nat × Nat × Nat × Nat × List D × Nat × List D) :=
  match opK ops st.fr i with
  | some ⟨some d, .call c, _, _, _, _⟩ => match c.callee, c.args.toList, c.argTypes.toList with
    | .builtin .append, [s, y], [t, tx] => match rowB P t with
      | some (te, e, bytes) => match ev st.fr s with
        | .cell (.own k) => match lkO st.ob k, srcV P st.ob k e tx (ev st.fr y) with
          | .arr te' e' n cs, some (m, ys) => bif Nat.beq te te' && Nat.beq e e' && Nat.blt d N && Nat.blt k 2000000 then some (d, k, te, e, bytes, n, cs, m, ys) else none
          | _, _ => none
        | .cell (.d (.sc (.slice none 0 0))) => match srcV P st.ob d e tx (ev st.fr y) with
          | some (m, ys) => bif Nat.blt d N then some (d, d, te, e, bytes, 0, [], m, ys) else none
          | none => none
        | _ => none
      | none => none
    | _, _, _ => none
  | _ => none
theorem IEff.qappend {i d k te e bytes n m n' : Nat} {cs ys zs : List D} (h : qAppend P N ops i st = some (d, k, te, e, bytes, n, cs, m, ys)) (h63 : n + m ≤ maxLen) (hbytes : (n + m) * bytes ≤ 140737488355328)
    (hn' : n + m = n') (hz : cs ++ ys = zs) : IEff P N ops i st (.new k (.arr te e n' zs) d (.cell (.own k))) := by
  unfold qAppend at h
  split at h
  · rename_i d' c ty pos after guard ho
    obtain ⟨callee, args, ats⟩ := c
    dsimp only at h
    split at h
    · rename_i s y t tx ha1 ha2
      have e1 : args = #[s, y] := by cases args; simp_all
      have e2 : ats = #[t, tx] := by cases ats; simp_all
      subst e1
      subst e2
      split at h
      · rename_i te1 e1 b1 ht
        split at h
        · rename_i k1 hs
          split at h
          · rename_i te2 e2 n2 cs2 m2 ys2 hk hy
            cases hb : (Nat.beq te1 te2 && Nat.beq e1 e2 && Nat.blt d' N && Nat.blt k1 2000000) with
            | false => rw [hb] at h; cases h
            | true =>
              rw [hb] at h
              cases h
              simp only [Bool.and_eq_true] at hb
              have q1 := Nat.eq_of_beq_eq_true hb.1.1.1
              have q2 := Nat.eq_of_beq_eq_true hb.1.1.2
              subst q1
              subst q2
              exact .append ho hs hk ht hb.1.2 hy h63 hbytes hn' hz hb.2
          · cases h
        · rename_i hs
          split at h
          · rename_i m2 ys2 hy
            cases hd : Nat.blt d' N with
            | false => rw [hd] at h; cases h
            | true =>
              rw [hd] at h
              cases h
              subst hn'
              subst hz
              rw [Nat.zero_add] at h63 hbytes ⊢
              exact .appendNil ho hs ht hd hy h63 hbytes
          · cases h
        · cases h
      · cases h
    · cases h
  · cases h

def qCall (P : Program) (N : Nat) (ops : Array Oper) (i : Nat) (st : ASt) : Option (Tmp × FuncId × List AV) :=
  match opK ops st.fr i with
  | some ⟨some d, .call c, _, _, _, _⟩ => match calleeV st.fr c with
    | some (f, args) => bif enterOk P f && Nat.blt d N then some (d, f, args) else none
    | none => none
  | _ => none
theorem IEff.qpcall {i d : Nat} {f : FuncId} {args : List AV} {x : AV} (h : qCall P N ops i st = some (d, f, args)) (hz : AV.frozenL args = true) (spec : PCalls P f args x) (hx : x.frozen = true) : IEff P N ops i st (.put d x) := by
  unfold qCall at h
  split at h
  · rename_i d' c ty pos after guard ho
    split at h
    · rename_i f' args' hc
      cases hb : (enterOk P f' && Nat.blt d' N) with
      | false => rw [hb] at h; cases h
      | true =>
        rw [hb] at h
        cases h
        simp only [Bool.and_eq_true] at hb
        exact .pcall ho hc hb.1 hz hb.2 spec hx
    · cases h
  · cases h

/-! ## continuations, by name -/
theorem Then.go {c : Code} (h : AW P N c st Q) : Then P N c Q .normal st := h
theorem Then.ret {c : Code} (h : Q .ret st) : Then P N c Q .ret st := h
theorem Then.exit {c : Code} {i : Nat} (h : Q (.exit i) st) : Then P N c Q (.exit i) st := h
omit [Tabs] in
theorem InBlk.go {i : Nat} (h : Q .normal st) : InBlk i Q .normal st := h
omit [Tabs] in
theorem InBlk.ret {i : Nat} (h : Q .ret st) : InBlk i Q .ret st := h
omit [Tabs] in
theorem InBlk.exit {i : Nat} (h : Q .normal st) : InBlk i Q (.exit i) st := by
  have : Nat.beq i i = true := Nat.beq_refl i
  simp only [InBlk, this]
  exact h
omit [Tabs] in
theorem InBlk.pass {i j : Nat} (hne : Nat.beq j i = false) (h : Q (.exit j) st) : InBlk i Q (.exit j) st := by
  simp only [InBlk, hne]
  exact h

def LoopP {α : Type} (I : α → ASt) (J : α → Prop) (μ : α → Nat) (x : α) (Q : Exit → ASt → Prop) (ex : Exit) (s : ASt) : Prop :=
  match ex with
  | .normal => ∃ y ks os, s.keep ks os = I y ∧ J y ∧ μ y < μ x
  | e => Q e s
omit [Tabs] in
theorem LoopP.go {α : Type} {I : α → ASt} {J : α → Prop} {μ : α → Nat} {x : α} (y : α) (ks os : List Nat) (h : st.keep ks os = I y) (hJ : J y) (hμ : μ y < μ x) : LoopP I J μ x Q .normal st := ⟨y, ks, os, h, hJ, hμ⟩
omit [Tabs] in
theorem LoopP.ret {α : Type} {I : α → ASt} {J : α → Prop} {μ : α → Nat} {x : α} (h : Q .ret st) : LoopP I J μ x Q .ret st := h
omit [Tabs] in
theorem LoopP.exit {α : Type} {I : α → ASt} {J : α → Prop} {μ : α → Nat} {x : α} {i : Nat} (h : Q (.exit i) st) : LoopP I J μ x Q (.exit i) st := h

theorem AW.loopJ {α : Type} {c : Code} (hk : kind c = 5) (I : α → ASt) (J : α → Prop) (μ : α → Nat) (x0 : α) (h0 : st = I x0) (hJ : J x0)
    (round : ∀ x, J x → AW P N (cl c) (I x) (LoopP I J μ x Q)) : AW P N c st Q := by
  refine AW.loop (α := { x : α // J x }) hk (fun x => I x.1) (fun x => μ x.1) ⟨x0, hJ⟩ h0 fun x => (round x.1 x.2).mono fun e s hs => ?_
  cases e with
  | normal => obtain ⟨y, ks, os, h1, h2, h3⟩ := hs; exact ⟨⟨y, h2⟩, ks, os, h1, h3⟩
  | _ => exact hs

/-- what stands behind a function's body: some slices are frozen first -/
def RetF (P : Program) (rs : List ResultVar) (R : AEnd → List (Nat × AObj) → Prop) (ex : Exit) (s : ASt) : Prop :=
  match ex with
  | .normal => ∃ (ks : List Nat) (x : AV), res1 P (ks.foldl ASt.freeze s) rs = some x ∧ R (.ret x) (ks.foldl ASt.freeze s).ob
  | .ret => ∃ (ks : List Nat) (x : AV), res1 P (ks.foldl ASt.freeze s) rs = some x ∧ R (.ret x) (ks.foldl ASt.freeze s).ob
  | .panic chain => R (.panicked chain) s.ob
  | _ => False
omit [Tabs] in
theorem RetF.of_ret {rs : List ResultVar} {R : AEnd → List (Nat × AObj) → Prop} {x : AV} (ks : List Nat) (hx : res1 P (ks.foldl ASt.freeze st) rs = some x) (h : R (.ret x) (ks.foldl ASt.freeze st).ob) : RetF P rs R .ret st := ⟨ks, x, hx, h⟩
omit [Tabs] in
theorem RetF.of_normal {rs : List ResultVar} {R : AEnd → List (Nat × AObj) → Prop} {x : AV} (ks : List Nat) (hx : res1 P (ks.foldl ASt.freeze st) rs = some x) (h : R (.ret x) (ks.foldl ASt.freeze st).ob) : RetF P rs R .normal st := ⟨ks, x, hx, h⟩

theorem Rel.freezes {F : Nat → Prop} {ρ : Env} {a : Act} {w : World} : ∀ (ks : List Nat) {st : ASt} {F : Nat → Prop} {ρ : Env}, Rel N F ρ st a w → ∃ F' ρ', Rel N F' ρ' (ks.foldl ASt.freeze st) a w ∧ Fr F ρ w F' ρ' w
  | [], _, F, ρ, h => ⟨F, ρ, h, Fr.refl F ρ w⟩
  | k :: r, _, _, _, h => by
    obtain ⟨F1, ρ1, h1, f1⟩ := h.freeze k
    obtain ⟨F2, ρ2, h2, f2⟩ := Rel.freezes (F := F) (ρ := ρ) r h1
    exact ⟨F2, ρ2, h2, f1.trans h1.rw.dis f2⟩

theorem ACalls.of_AWF [QuietD P] {f : FuncId} {fn : Func} {c : Code} {N : Nat} {rs : List ResultVar} {args : List AV} {ob : List (Nat × AObj)} {R : AEnd → List (Nat × AObj) → Prop}
    (hf : P.funcs[f]? = some fn) (hb : fn.body = some c) (hN : fn.ntmps = N) (hrs : fn.results.toList = rs) (hargs : (Nat.ble args.length N && Nat.ble N 1000000) = true) (hpl : AV.plainL args = true)
    (hnp : ∀ chain o, ¬ R (.panicked chain) o) (h : AW P N c { fr := frOf args 0, ob } (RetF P rs R)) : ACalls P f args ob R := by
  intro F ρ vs w hrw hob hra
  refine calls_of_wp_defers hf hb ?_
  have hsz := hra.sz
  simp only [Bool.and_eq_true] at hargs
  have hargs1 := Nat.le_of_ble_eq_true hargs.1
  have hN1 := Nat.le_of_ble_eq_true hargs.2
  have hr : Rel N F ρ { fr := frOf args 0, ob } { tmps := vs ++ Array.replicate (fn.ntmps - vs.size) undef, defers := [] } w := by
    refine ⟨hrw, fun i => ?_, hob, by simp; omega, (fun d hd => by cases hd), hN1⟩
    simp only
    rw [lkF_frOf]
    split
    · rename_i hi
      have hi' : i < vs.size := by omega
      have e : (vs ++ Array.replicate (fn.ntmps - vs.size) undef).getD i undef = vs.getD (i - 0) undef := by
        simp [Array.getD_eq_getD_getElem?, Array.getElem?_append, hi']
      rw [e]
      exact (hra.rel (i - 0) (by omega)).retm (AV.plainL_get hpl _ (by omega))
    · exact .junk _
  refine wp_mono (h F ρ _ w hr) fun e a1 w1 ⟨F1, ρ1, s1, hq, hr1, hf1⟩ => ?_
  have ret : ∀ (ks : List Nat) (x : AV), res1 P (ks.foldl ASt.freeze s1) rs = some x → R (.ret x) (ks.foldl ASt.freeze s1).ob → ∃ v, (results fn a1.tmps).run P w1 = .ok v w1 ∧
      ∃ F' ρ' r ob', R r ob' ∧ RelEnd w1 F' ρ' r (.returned v) ∧ RelW F' ρ' w1 ∧ (∀ k, RelOb w1 F' ρ' k (lkO ob' k)) ∧ Fr F ρ w F' ρ' w1 := by
    intro ks x hx hR
    subst hrs
    obtain ⟨F2, ρ2, hr2, hf2⟩ := Rel.freezes (F := F1) (ρ := ρ1) ks hr1
    obtain ⟨v, hrun, hv⟩ := res1_run hr2 hx
    exact ⟨v, hrun, F2, ρ2, .ret x, _, hR, hv, hr2.rw, hr2.ob, hf1.trans hr1.rw.dis hf2⟩
  cases e with
  | normal => obtain ⟨ks, x, hx, hR⟩ := hq; exact leaves_quiet (ret ks x hx hR) _ hr1.df.1
  | ret => obtain ⟨ks, x, hx, hR⟩ := hq; exact leaves_quiet (ret ks x hx hR) _ hr1.df.1
  | panic chain => exact absurd hq (hnp chain s1.ob)
  | exit id => exact hq.elim
  | goto l => exact hq.elim
  | outgrown => exact hq.elim

omit [Tabs] in
theorem ret_eq {x y : AV} (h : x = y) : AEnd.ret x = AEnd.ret y := by rw [h]

theorem AW.eq {c : Code} (h : st = st') (k : AW P N c st' Q) : AW P N c st Q := h ▸ k
theorem IEff.cast {i : Nat} {e e' : Eff} (h : IEff P N ops i st e) (he : e = e') : IEff P N ops i st e' := he ▸ h
theorem AOps.eq (h : st = st') (k : AOps P N ops l st' Q) : AOps P N ops l st Q := h ▸ k

/-- all effects of a region that draws its order are met -/
def AllOk (P : Program) (N : Nat) (ops : Array Oper) (bs : List Nat) (effs : List Eff) (st : ASt) : Nat → List Eff → Prop
  | _, [] => True
  | i, e :: r => (∀ f, IEff P N ops i (weakAt bs effs st i f) e) ∧ AllOk P N ops bs effs st (i + 1) r
theorem AllOk.get {bs : List Nat} {effs : List Eff} : ∀ {l : List Eff} {s : Nat}, AllOk P N ops bs effs st s l → ∀ i e, l[i]? = some e → ∀ f, IEff P N ops (s + i) (weakAt bs effs st (s + i) f) e
  | [], s, _, i, e, he => by simp at he
  | x :: r, s, h, i, e, he => by
    cases i with
    | zero =>
      simp only [List.getElem?_cons_zero, Option.some.injEq] at he
      subst he
      exact h.1
    | succ i =>
      have := AllOk.get h.2 i e (by simpa using he)
      rwa [show s + (i + 1) = s + 1 + i by omega]
theorem AW.drawn {c : Code} (hk : kind c = 11) (hm : P.follows .mixedOrders = true) (effs : List Eff) (bs : List Nat) (hn : (cops c).size = effs.length)
    (hb : chkBs bs 0 (cops c).toList = true) (hc : chkComm bs effs = true) (hok : AllOk P N (cops c) bs effs st 0 effs) (hst : appsL (fun _ => true) 0 effs st = st') (h : Q .normal st') : AW P N c st Q :=
  AW.draw hk hm effs bs hn hb hc (fun i e he f => by have := hok.get i e he f; rwa [Nat.zero_add] at this) hst h

end

/-! ## numbers -/
def bxor (k : IntKind) (a b : Int) : Int := k.wrap ((BitVec.ofInt k.bits a ^^^ BitVec.ofInt k.bits b).toNat : Int)
def band (k : IntKind) (a b : Int) : Int := k.wrap ((BitVec.ofInt k.bits a &&& BitVec.ofInt k.bits b).toNat : Int)
def bor (k : IntKind) (a b : Int) : Int := k.wrap ((BitVec.ofInt k.bits a ||| BitVec.ofInt k.bits b).toNat : Int)
def bnot (k : IntKind) (a : Int) : Int := bxor k (if k.signed then -1 else k.max) a
def bshl (k : IntKind) (a b : Int) : Int := k.wrap (a * 2 ^ (min b.toNat k.bits))
def bshr (k : IntKind) (a b : Int) : Int := a.fdiv (2 ^ (min b.toNat k.bits))
def bquo (k : IntKind) (a b : Int) : Int := k.wrap (a.tdiv b)
def brem (k : IntKind) (a b : Int) : Int := a.tmod b
def seq (a b : ByteArray) : Bool := a.toList == b.toList
def sless (a b : ByteArray) : Bool := Op.bytesLess a.toList b.toList

omit [Tabs] in
theorem wrap_i64 (e : Int) (h0 : -9223372036854775808 ≤ e) (h1 : e ≤ 9223372036854775807) : IntKind.wrap .i64 e = e := by
  have hb : IntKind.bits .i64 = 64 := rfl
  have hs : IntKind.signed .i64 = true := rfl
  have e1 : (2 : Int) ^ 64 = 18446744073709551616 := rfl
  have e2 : (2 : Int) ^ (64 - 1) = 9223372036854775808 := rfl
  unfold IntKind.wrap
  simp only [hb, hs, Bool.true_and, decide_eq_true_eq, e1, e2]
  split <;> omega
omit [Tabs] in
theorem ml {n : Nat} (h : n ≤ 1152921504606846976) : n ≤ maxLen := by unfold maxLen; omega

/-! ## a law's call -/
theorem PCalls.law {P : Program} {f : FuncId} {args : List AV} {b : Bool} (spec : PCalls P f args (.cell (.d (.sc (.bool b))))) {vs : Array Value} {W : World} (ht : ∀ b o, Tabs.get b = some o → W.heap[b]? = some o) (hra : RelArgs W (fun b => b < W.heap.size) (fun _ => none) args vs) :
    Calls P f vs W fun e W' => e = .returned (.bool b) ∧ Go.RowKit.Below W.heap.size W W' := by
  have hnl : ∀ b, ¬ live (fun _ => none) b := fun b ⟨k, l, hk, _⟩ => by cases hk
  refine (spec _ (fun _ => none) vs W ⟨fun b _ => hnl b, fun b h => h, (fun k k' l l' b hk => by cases hk), fun b o hb => ⟨(Array.getElem?_eq_some_iff.1 (ht b o hb)).1, ht b o hb⟩⟩ (fun k => .gone rfl) hra).mono fun e W' ⟨F', ρ', r, ob', hq, hre, _, _, hf⟩ => ?_
  subst hq
  cases e with
  | returned v =>
    have hv : RelAV W' F' ρ' #[] (.cell (.d (.sc (.bool b)))) v := hre
    have := (scV_rel hv (u := .bool b) rfl).1
    subst this
    exact ⟨rfl, hf.os, hf.tape, hf.output, hf.size, fun k hk => hf.keep k hk (hnl k)⟩
  | panicked c => exact hre.elim
  | outgrown => exact hre.elim

end Esp

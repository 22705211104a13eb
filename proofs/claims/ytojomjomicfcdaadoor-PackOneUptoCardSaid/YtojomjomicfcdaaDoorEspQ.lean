/- ESP, part 11: the rules with a condition, asked by what the state holds. -/
import Derived.Test.YtojomjomicfcdaaDoorEspTrace
namespace Esp
open Go
set_option linter.unusedSimpArgs false
set_option linter.unusedVariables false
variable [Tabs]

section
variable {P : Program} {N : Nat} {ops : Array Oper} {Q : Exit → ASt → Prop} {st st' : ASt} {l : List Nat}

def qCall (P : Program) (N : Nat) (ops : Array Oper) (i : Nat) (st : ASt) : Option (Tmp × FuncId × List AV) :=
  match opK ops st.fr i with
  | some ⟨some d, .call c, _, _, _, _⟩ => match calleeV st.fr c with
    | some (f, args) => bif enterOk P f && Nat.blt d N then some (d, f, args) else none
    | none => none
  | _ => none
theorem IEff.qpcall {i d : Nat} {f : FuncId} {args : List AV} {x : AV} (h : qCall P N ops i st = some (d, f, args)) (hz : AV.frozenL args = true) (spec : PCalls P f args x) (hx : x.frozen = true) : IEff P N ops i st (.put d x) := by
  unfold qCall at h
  split at h
  · rename_i d' c ty pos after guard ho
    split at h
    · rename_i f' args' hc
      cases hb : (enterOk P f' && Nat.blt d' N) with
      | false => rw [hb] at h; cases h
      | true =>
        rw [hb] at h
        cases h
        simp only [Bool.and_eq_true] at hb
        exact .pcall ho hc hb.1 hz hb.2 spec hx
    · cases h
  · cases h

/-! ## continuations, by name -/
theorem Then.go {c : Code} (h : AW P N c st Q) : Then P N c Q .normal st := h
theorem Then.ret {c : Code} (h : Q .ret st) : Then P N c Q .ret st := h
theorem Then.exit {c : Code} {i : Nat} (h : Q (.exit i) st) : Then P N c Q (.exit i) st := h
omit [Tabs] in
theorem InBlk.go {i : Nat} (h : Q .normal st) : InBlk i Q .normal st := h
omit [Tabs] in
theorem InBlk.ret {i : Nat} (h : Q .ret st) : InBlk i Q .ret st := h
omit [Tabs] in
theorem InBlk.exit {i : Nat} (h : Q .normal st) : InBlk i Q (.exit i) st := by
  have : Nat.beq i i = true := Nat.beq_refl i
  simp only [InBlk, this]
  exact h
omit [Tabs] in
theorem InBlk.pass {i j : Nat} (hne : Nat.beq j i = false) (h : Q (.exit j) st) : InBlk i Q (.exit j) st := by
  simp only [InBlk, hne]
  exact h

def LoopP {α : Type} (I : α → ASt) (J : α → Prop) (μ : α → Nat) (x : α) (Q : Exit → ASt → Prop) (ex : Exit) (s : ASt) : Prop :=
  match ex with
  | .normal => ∃ y ks os, s.keep ks os = I y ∧ J y ∧ μ y < μ x
  | e => Q e s
omit [Tabs] in
theorem LoopP.go {α : Type} {I : α → ASt} {J : α → Prop} {μ : α → Nat} {x : α} (y : α) (ks os : List Nat) (h : st.keep ks os = I y) (hJ : J y) (hμ : μ y < μ x) : LoopP I J μ x Q .normal st := ⟨y, ks, os, h, hJ, hμ⟩
omit [Tabs] in
theorem LoopP.ret {α : Type} {I : α → ASt} {J : α → Prop} {μ : α → Nat} {x : α} (h : Q .ret st) : LoopP I J μ x Q .ret st := h
omit [Tabs] in
theorem LoopP.exit {α : Type} {I : α → ASt} {J : α → Prop} {μ : α → Nat} {x : α} {i : Nat} (h : Q (.exit i) st) : LoopP I J μ x Q (.exit i) st := h

def RetF (P : Program) (rs : List ResultVar) (R : AEnd → List (Nat × AObj) → Prop) (ex : Exit) (s : ASt) : Prop :=
  match ex with
  | .normal => ∃ (ks : List Nat) (x : AV), res1 P (ks.foldl ASt.freeze s) rs = some x ∧ R (.ret x) (ks.foldl ASt.freeze s).ob
  | .ret => ∃ (ks : List Nat) (x : AV), res1 P (ks.foldl ASt.freeze s) rs = some x ∧ R (.ret x) (ks.foldl ASt.freeze s).ob
  | .panic chain => R (.panicked chain) s.ob
  | _ => False
theorem Rel.freezes {F : Nat → Prop} {ρ : Env} {a : Act} {w : World} : ∀ (ks : List Nat) {st : ASt} {F : Nat → Prop} {ρ : Env}, Rel N F ρ st a w → ∃ F' ρ', Rel N F' ρ' (ks.foldl ASt.freeze st) a w ∧ Fr F ρ w F' ρ' w
  | [], _, F, ρ, h => ⟨F, ρ, h, Fr.refl F ρ w⟩
  | k :: r, _, _, _, h => by
    obtain ⟨F1, ρ1, h1, f1⟩ := h.freeze k
    obtain ⟨F2, ρ2, h2, f2⟩ := Rel.freezes (F := F) (ρ := ρ) r h1
    exact ⟨F2, ρ2, h2, f1.trans h1.rw.dis f2⟩

theorem ACalls.of_AWF [QuietD P] {f : FuncId} {fn : Func} {c : Code} {N : Nat} {rs : List ResultVar} {args : List AV} {ob : List (Nat × AObj)} {R : AEnd → List (Nat × AObj) → Prop}
    (hf : P.funcs[f]? = some fn) (hb : fn.body = some c) (hN : fn.ntmps = N) (hrs : fn.results.toList = rs) (hargs : (Nat.ble args.length N && Nat.ble N 1000000) = true) (hpl : AV.plainL args = true)
    (hnp : ∀ chain o, ¬ R (.panicked chain) o) (h : AW P N c { fr := frOf args 0, ob } (RetF P rs R)) : ACalls P f args ob R := by
  intro F ρ vs w hrw hob hra
  refine calls_of_wp_defers hf hb ?_
  have hsz := hra.sz
  simp only [Bool.and_eq_true] at hargs
  have hargs1 := Nat.le_of_ble_eq_true hargs.1
  have hN1 := Nat.le_of_ble_eq_true hargs.2
  have hr : Rel N F ρ { fr := frOf args 0, ob } { tmps := vs ++ Array.replicate (fn.ntmps - vs.size) undef, defers := [] } w := by
    refine ⟨hrw, fun i => ?_, hob, by simp; omega, (fun d hd => by cases hd), hN1⟩
    simp only
    rw [lkF_frOf]
    split
    · rename_i hi
      have hi' : i < vs.size := by omega
      have e : (vs ++ Array.replicate (fn.ntmps - vs.size) undef).getD i undef = vs.getD (i - 0) undef := by
        simp [Array.getD_eq_getD_getElem?, Array.getElem?_append, hi']
      rw [e]
      exact (hra.rel (i - 0) (by omega)).retm (AV.plainL_get hpl _ (by omega))
    · exact .junk _
  refine wp_mono (h F ρ _ w hr) fun e a1 w1 ⟨F1, ρ1, s1, hq, hr1, hf1⟩ => ?_
  have ret : ∀ (ks : List Nat) (x : AV), res1 P (ks.foldl ASt.freeze s1) rs = some x → R (.ret x) (ks.foldl ASt.freeze s1).ob → ∃ v, (results fn a1.tmps).run P w1 = .ok v w1 ∧
      ∃ F' ρ' r ob', R r ob' ∧ RelEnd w1 F' ρ' r (.returned v) ∧ RelW F' ρ' w1 ∧ (∀ k, RelOb w1 F' ρ' k (lkO ob' k)) ∧ Fr F ρ w F' ρ' w1 := by
    intro ks x hx hR
    subst hrs
    obtain ⟨F2, ρ2, hr2, hf2⟩ := Rel.freezes (F := F1) (ρ := ρ1) ks hr1
    obtain ⟨v, hrun, hv⟩ := res1_run hr2 hx
    exact ⟨v, hrun, F2, ρ2, .ret x, _, hR, hv, hr2.rw, hr2.ob, hf1.trans hr1.rw.dis hf2⟩
  cases e with
  | normal => obtain ⟨ks, x, hx, hR⟩ := hq; exact leaves_quiet (ret ks x hx hR) _ hr1.df.1
  | ret => obtain ⟨ks, x, hx, hR⟩ := hq; exact leaves_quiet (ret ks x hx hR) _ hr1.df.1
  | panic chain => exact absurd hq (hnp chain s1.ob)
  | exit id => exact hq.elim
  | goto l => exact hq.elim
  | outgrown => exact hq.elim

theorem AW.eq {c : Code} (h : st = st') (k : AW P N c st' Q) : AW P N c st Q := h ▸ k
theorem AOps.eq (h : st = st') (k : AOps P N ops l st' Q) : AOps P N ops l st Q := h ▸ k

def AllOk (P : Program) (N : Nat) (ops : Array Oper) (bs : List Nat) (effs : List Eff) (st : ASt) : Nat → List Eff → Prop
  | _, [] => True
  | i, e :: r => (∀ f, IEff P N ops i (weakAt bs effs st i f) e) ∧ AllOk P N ops bs effs st (i + 1) r
theorem AllOk.get {bs : List Nat} {effs : List Eff} : ∀ {l : List Eff} {s : Nat}, AllOk P N ops bs effs st s l → ∀ i e, l[i]? = some e → ∀ f, IEff P N ops (s + i) (weakAt bs effs st (s + i) f) e
  | [], s, _, i, e, he => by simp at he
  | x :: r, s, h, i, e, he => by
    cases i with
    | zero =>
      simp only [List.getElem?_cons_zero, Option.some.injEq] at he
      subst he
      exact h.1
    | succ i =>
      have := AllOk.get h.2 i e (by simpa using he)
      rwa [show s + (i + 1) = s + 1 + i by omega]
theorem AW.drawn {c : Code} (hk : kind c = 11) (hm : P.follows .mixedOrders = true) (effs : List Eff) (bs : List Nat) (hn : (cops c).size = effs.length)
    (hb : chkBs bs 0 (cops c).toList = true) (hc : chkComm bs effs = true) (hok : AllOk P N (cops c) bs effs st 0 effs) (hst : appsL (fun _ => true) 0 effs st = st') (h : Q .normal st') : AW P N c st Q :=
  AW.draw hk hm effs bs hn hb hc (fun i e he f => by have := hok.get i e he f; rwa [Nat.zero_add] at this) hst h

end

/-! ## numbers -/
def bxor (k : IntKind) (a b : Int) : Int := k.wrap ((BitVec.ofInt k.bits a ^^^ BitVec.ofInt k.bits b).toNat : Int)
def band (k : IntKind) (a b : Int) : Int := k.wrap ((BitVec.ofInt k.bits a &&& BitVec.ofInt k.bits b).toNat : Int)
def bor (k : IntKind) (a b : Int) : Int := k.wrap ((BitVec.ofInt k.bits a ||| BitVec.ofInt k.bits b).toNat : Int)
def bshl (k : IntKind) (a b : Int) : Int := k.wrap (a * 2 ^ (min b.toNat k.bits))
def bshr (k : IntKind) (a b : Int) : Int := a.fdiv (2 ^ (min b.toNat k.bits))
def bquo (k : IntKind) (a b : Int) : Int := k.wrap (a.tdiv b)
def brem (k : IntKind) (a b : Int) : Int := a.tmod b
def seq (a b : ByteArray) : Bool := a.toList == b.toList
def sless (a b : ByteArray) : Bool := Op.bytesLess a.toList b.toList

/-! ## a law's call -/
theorem PCalls.law {P : Program} {f : FuncId} {args : List AV} {b : Bool} (spec : PCalls P f args (.cell (.d (.sc (.bool b))))) {vs : Array Value} {W : World} (ht : ∀ b o, Tabs.get b = some o → W.heap[b]? = some o) (hra : RelArgs W (fun b => b < W.heap.size) (fun _ => none) args vs) :
    Calls P f vs W fun e W' => e = .returned (.bool b) ∧ Go.RowKit.Below W.heap.size W W' := by
  have hnl : ∀ b, ¬ live (fun _ => none) b := fun b ⟨k, l, hk, _⟩ => by cases hk
  refine (spec _ (fun _ => none) vs W ⟨fun b _ => hnl b, fun b h => h, (fun k k' l l' b hk => by cases hk), fun b o hb => ⟨(Array.getElem?_eq_some_iff.1 (ht b o hb)).1, ht b o hb⟩⟩ (fun k => .gone rfl) hra).mono fun e W' ⟨F', ρ', r, ob', hq, hre, _, _, hf⟩ => ?_
  subst hq
  cases e with
  | returned v =>
    have hv : RelAV W' F' ρ' #[] (.cell (.d (.sc (.bool b)))) v := hre
    have := (scV_rel hv (u := .bool b) rfl).1
    subst this
    exact ⟨rfl, hf.os, hf.tape, hf.output, hf.size, fun k hk => hf.keep k hk (hnl k)⟩
  | panicked c => exact hre.elim
  | outgrown => exact hre.elim

end Esp

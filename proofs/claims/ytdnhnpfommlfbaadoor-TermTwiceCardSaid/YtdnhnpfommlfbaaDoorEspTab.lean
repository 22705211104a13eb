/- ESP, part 18: contracts of the kit, over tables that nobody writes. -/
import Derived.Test.YtdnhnpfommlfbaaDoorEspWeak
import Derived.Test.YtdnhnpfommlfbaaDoorEspBin
namespace Esp
open Go Go.RowKit
set_option linter.unusedSimpArgs false
set_option linter.unusedVariables false
variable [Tabs]

/-- what the tables say of a world -/
def TabsIn (w : World) : List (Nat × AObj) → Prop
  | [] => True
  | (_, .tab b o) :: r => w.heap[b]? = some o ∧ TabsIn w r
  | _ :: r => TabsIn w r

section
variable {P : Program}
/-- each key once, tables only -/
def tabsOk : List (Nat × AObj) → Bool
  | [] => true
  | (k, .tab _ _) :: r => !has r k && tabsOk r
  | _ => false

omit [Tabs] in
theorem tabsIn_of {w : World} {F : Nat → Prop} {ρ : Env} : ∀ {l : List (Nat × AObj)}, tabsOk l = true → (∀ k, has l k = true → RelOb w F ρ k (lkO l k)) → TabsIn w l
  | [], _, _ => trivial
  | (k, .tab b o) :: r, ht, h => by
    simp only [tabsOk, Bool.and_eq_true, Bool.not_eq_true'] at ht
    have h0 := h k (by simp [has])
    simp only [lkO, Nat.beq_refl, cond_true] at h0
    refine ⟨by cases h0; assumption, tabsIn_of (F := F) (ρ := ρ) ht.2 fun j hj => ?_⟩
    have := h j (by simp [has, hj])
    simp only [lkO] at this
    cases hb : Nat.beq j k with
    | true =>
      rw [Nat.eq_of_beq_eq_true hb, ht.1] at hj
      cases hj
    | false => rw [hb] at this; exact this
  | (_, .gone) :: _, ht, _ => by simp [tabsOk] at ht
  | (_, .box _ _) :: _, ht, _ => by simp [tabsOk] at ht
  | (_, .it _ _) :: _, ht, _ => by simp [tabsOk] at ht
  | (_, .mp _ _ _ _ _) :: _, ht, _ => by simp [tabsOk] at ht
  | (_, .arr _ _ _ _) :: _, ht, _ => by simp [tabsOk] at ht

/-- a kit's contract: it returns this scalar, and below the heap's old size nothing turns -/
theorem ACalls.of_below {f : FuncId} {args : List AV} {tabs : List (Nat × AObj)} {x : D} (ht : tabsOk tabs = true)
    (h : ∀ (w : World) (F : Nat → Prop) (ρ : Env) (vs : Array Value), RelArgs w F ρ args vs → TabsIn w tabs → Calls P f vs w fun e w' => ∃ v, e = .returned v ∧ RelD w' F x v ∧ Below w.heap.size w w') :
    ACalls P f args tabs (ER (fun _ : Unit => True) (fun _ => .cell (.d x)) (fun _ => tabs)) := by
  intro F ρ vs w hrw hob hra
  refine (h w F ρ vs hra (tabsIn_of ht fun k _ => hob k)).mono fun e w' ⟨v, he, hx, hb⟩ => ?_
  subst he
  have hkeep : ∀ b, b < w.heap.size → w'.heap[b]? = w.heap[b]? := hb.block
  have hlt : ∀ k l b, ρ k = some l → l.blk = some b → b < w.heap.size := fun k l b hk hl => (hob k).lt hk hl
  refine ⟨F, ρ, .ret (.cell (.d x)), tabs, ⟨(), trivial, rfl, ?_⟩, .cell _ _ (.d _ _ hx), ⟨hrw.dis, fun b hf => Nat.lt_of_lt_of_le (hrw.lt b hf) hb.size, hrw.inj, hrw.tab_of (fun b hf => hkeep b (hrw.lt b hf)) fun _ h => h⟩,
    fun k => (hob k).through (fun b hf => hkeep b (hrw.lt b hf)) (fun _ h => h) fun l b hk hl => hkeep b (hlt k l b hk hl), ⟨hb.os, hb.tape, hb.output, hb.size, fun _ h => h, fun b hbb _ => hkeep b hbb, fun _ _ h => h, fun _ _ => Stab.refl _ _⟩⟩
  clear hob hra h
  have key : ∀ (l m : List (Nat × AObj)), tabsOk l = true → (∀ k, has l k = true → lkO m k = lkO l k) → obsAre l m := by
    intro l
    induction l with
    | nil => intro m _ _; trivial
    | cons p r ih =>
      intro m hl hm
      obtain ⟨k, o⟩ := p
      cases o with
      | tab b o =>
        simp only [tabsOk, Bool.and_eq_true, Bool.not_eq_true'] at hl
        refine ⟨by have := hm k (by simp [has]); simpa [lkO] using this, ih m hl.2 fun j hj => ?_⟩
        have := hm j (by simp [has, hj])
        rw [this]
        simp only [lkO]
        cases hb : Nat.beq j k with
        | true =>
          rw [Nat.eq_of_beq_eq_true hb, hl.1] at hj
          cases hj
        | false => rfl
      | _ => simp [tabsOk] at hl
  exact key tabs tabs ht fun _ _ => rfl
end
end Esp

/- EV: strings.Builder: the check that it was not copied: it makes the builder point to itself. -/
import Derived.Test.YtbimcdakgbdiiaaGreatDoorEvFn
import Derived.Shelf.Strings.Builder1
namespace Esp
open Go Go.Shelf Go.Proofs
set_option linter.unusedSimpArgs false
set_option linter.unusedVariables false
variable [Tabs]

def bldBox (T : TypeId) : OT := .box [.ref (.pn 1000000), .ref (.own 1000001)] (some T)
def F_copyCheck (T te : TypeId) : FnT := ⟨1, ⟨[(0, .ptr 1000000 0)], [], [(1000000, bldBox T), (1000001, .arr te .u8)], []⟩, [], [(1000000, bldBox T), (1000001, .arr te .u8)]⟩

def copyCheckN (x : Unit × List Int × Unit) : Option (Unit × List Int × Unit) := some x

omit [Tabs] in
theorem setCell_heap {w : World} {b : Nat} {c : Array Value} {t : TypeId} {fz : Nat × Nat} {v : Value} {off : Nat} (h : w.heap[b]? = some (.cells c t fz)) : (w.setCell ⟨b, off, none⟩ v).heap[b]? = some (.cells (c.setIfInBounds off v) t fz) := by
  simp [World.setCell, Array.getElem?_modify, h]
omit [Tabs] in
theorem setCell_other {w : World} {b b' : Nat} {v : Value} {off : Nat} (h : b' ≠ b) : (w.setCell ⟨b, off, none⟩ v).heap[b']? = w.heap[b']? := by
  simp [World.setCell, Array.getElem?_modify, Ne.symm h]
omit [Tabs] in
theorem setCell_size {w : World} {a : Addr} {v : Value} : (w.setCell a v).heap.size = w.heap.size := by
  simp [World.setCell]

theorem copyCheck_of {P : Program} {f : FuncId} {T te : TypeId}
    (hused : ∀ (b : Nat) (w : World), w.cell? ⟨b, 0, none⟩ = some (.pointer (some ⟨b, 0, none⟩)) → Calls P f #[.pointer (some ⟨b, 0, none⟩)] w fun e w' => e = .returned (.tuple #[]) ∧ w' = w)
    (hfresh : ∀ (b : Nat) (w : World), w.cell? ⟨b, 0, none⟩ = some (.pointer none) → w.shape? b = some (T, 2) → w.frozen? ⟨b, 0, none⟩ = false → Calls P f #[.pointer (some ⟨b, 0, none⟩)] w fun e w' => e = .returned (.tuple #[]) ∧ w' = w.setCell ⟨b, 0, none⟩ (.pointer (some ⟨b, 0, none⟩))) :
    Contract P f (F_copyCheck T te) copyCheckN := by
  intro x y hy
  cases hy
  intro F ρ vs w hrw hob hra
  obtain ⟨u1, l, u2⟩ := x
  have hz : vs.size = 1 := hra.sz
  have h0 : RelAV w F ρ #[] (.cell (.ptr 1000000 0)) (vs.getD 0 undef) := hra.rel 0 (by show 0 < 1; omega)
  have hb : RelOb w F ρ 1000000 (.box [.pn 1000000, .own 1000001] (some T)) := hob 1000000
  generalize hbx : AObj.box [.pn 1000000, .own 1000001] (some T) = bx at hb
  cases hb with
  | gone | arr | na | tab | it | mp | any => cases hbx
  | box cs oty b c t hty hk hb hs h =>
    cases hbx
    have ht : T = t := (hty _ rfl).symm
    subst ht
    have hp : vs.getD 0 undef = .pointer (some ⟨b, 0, none⟩) := by
      cases h0 with
      | cell _ _ h0 => cases h0 with
        | ptr k off v h0 => exact h0 b hk
    have e : vs = #[.pointer (some ⟨b, 0, none⟩)] := by
      rw [← hp]
      apply Array.ext
      · simpa using hz
      · intro i h1 h2
        have : i = 0 := by simp at h2; omega
        subst this
        simp [Array.getD_eq_getD_getElem?, h1]
    have hc2 : c.size = 2 := hs
    have hcell : w.cell? ⟨b, 0, none⟩ = some (c.getD 0 undef) := by
      have : 0 < c.size := by omega
      simp [World.cell?, hb, Array.getD_eq_getD_getElem?, this]
    have hpn : RelAC w F ρ (.pn 1000000) (c.getD 0 undef) := h 0 (by show 0 < 2; omega)
    have hlive : live ρ b := ⟨1000000, _, hk, rfl⟩
    have hq : c.getD 0 undef = .pointer none ∨ c.getD 0 undef = .pointer (some ⟨b, 0, none⟩) := by
      cases hpn with
      | pn k v hp => exact hp b hk
    rw [e]
    rcases hq with hq | hq
    · have hsh : w.shape? b = some (T, 2) := by
        simp [World.shape?, hb, hc2]
      have hfz : w.frozen? ⟨b, 0, none⟩ = false := by
        simp [World.frozen?, hb]
      rw [hq] at hcell
      refine (hfresh b w hcell hsh hfz).mono fun e w' ⟨he, hw⟩ => ?_
      subst he
      subst hw
      generalize hw' : w.setCell ⟨b, 0, none⟩ (.pointer (some ⟨b, 0, none⟩)) = w'
      have hnew : w'.heap[b]? = some (.cells (c.setIfInBounds 0 (.pointer (some ⟨b, 0, none⟩))) T (0, 0)) := by rw [← hw']; exact setCell_heap hb
      have hoth : ∀ b', b' ≠ b → w'.heap[b']? = w.heap[b']? := fun b' hn => by rw [← hw']; exact setCell_other hn
      have hsz : w'.heap.size = w.heap.size := by rw [← hw']; exact setCell_size
      have hF : ∀ b', F b' → w'.heap[b']? = w.heap[b']? := fun b' hb' => hoth b' fun he => hrw.dis b' hb' (he ▸ hlive)
      refine ⟨F, ρ, .ret (.tup []), _, ⟨rfl, rfl⟩, ?_, ⟨hrw.dis, fun b' hb' => hsz ▸ hrw.lt b' hb', hrw.inj, hrw.tab_of hF fun _ h => h⟩, fun k => ?_, ?_⟩
      · exact (show RelAV _ _ _ _ (.tup []) (.tuple #[]) from .tup [] #[] rfl fun i hi => by simp at hi)
      · by_cases hk1 : k = 1000000
        · subst hk1
          refine RelOb.box [.pn 1000000, .own 1000001] (some T) b _ _ (fun _ h => hty _ h) hk hnew (by simpa using hc2) fun i hi => ?_
          have hi2 : i < 2 := hi
          by_cases hi0 : i = 0
          · subst hi0
            refine .pn _ _ fun b2 hb2 => .inr ?_
            rw [hk] at hb2
            cases hb2
            have : 0 < c.size := by omega
            simp [Array.getD_eq_getD_getElem?, this]
          · have hi1 : i = 1 := by omega
            subst hi1
            have h1 := h 1 hi
            have e1 : (c.setIfInBounds 0 (.pointer (some ⟨b, 0, none⟩))).getD 1 undef = c.getD 1 undef := by
              simp [Array.getD_eq_getD_getElem?]
            rw [e1]
            exact h1.mono hF (fun _ h => h) fun _ _ h => h
        · have h3 : RelOb w F ρ k (lkO ((F_copyCheck T te).ob (u1, l, u2)) k) := hob k
          refine h3.through hF (fun _ h => h) fun l' b' hk' hl' => hoth b' fun he => hk1 ?_
          exact hrw.inj k 1000000 l' _ b hk' hk (he ▸ hl') rfl
      · refine ⟨by rw [← hw']; rfl, by rw [← hw']; rfl, by rw [← hw']; rfl, Nat.le_of_eq hsz.symm, fun _ h => h, fun b' hb' hn => hoth b' fun he => hn (he ▸ hlive), fun _ _ h => h, fun _ _ => Stab.refl _ _⟩
    · rw [hq] at hcell
      refine (hused b w hcell).mono fun e w' ⟨he, hw⟩ => ?_
      subst he
      subst hw
      exact ⟨F, ρ, .ret (.tup []), _, ⟨rfl, rfl⟩, (show RelAV _ _ _ _ (.tup []) (.tuple #[]) from .tup [] #[] rfl fun i hi => by simp at hi), hrw, hob, Fr.refl _ _ _⟩
end Esp

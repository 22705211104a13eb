/- EV: tables of whole numbers that start-up laid. -/
import Derived.Test.YtffefjmpmgkfoaaGreatDoorEvGrow
import Derived.Lib.LaidTab
import Derived.Lib.LaidU8T
namespace Esp
open Go Go.Proofs Go.Lib
set_option linter.unusedSimpArgs false
set_option linter.unusedVariables false
theorem tabIs_of_reads {P : Program} {W : World} {name : String} {k : IntKind} {zs : List Int} {g : Nat} {t e : TypeId} {n : Nat}
    (hg : P.globalNamed name = some g) (hty : (P.globals[g]?).map (·.type) = some t) (ht : P.underlying t = some (.array n e)) (he : P.underlying e = some (.int k)) (hce : P.cellsOf e = 1) (hct : P.cellsOf t = n)
    (h : VarReads P W name (tabData k zs)) : TabIs P W name k zs := by
  obtain ⟨g', t', cs, fuel, p, hg', ht', hvar, hd⟩ := h
  obtain rfl := Option.some.inj (hg.symm.trans hg')
  obtain rfl := Option.some.inj (hty.symm.trans ht')
  have hcs := cells_of_tab ht he hce hct hd
  show W.var? P name = _
  rw [hvar, ← hcs]
theorem tabIs_keep {P : Program} {W w : World} {name : String} {k : IntKind} {zs : List Int} {g : Nat} (hg : P.globalNamed name = some g) (hh : w.heap[g]? = W.heap[g]?) (h : TabIs P W name k zs) : TabIs P w name k zs := by
  unfold TabIs World.var? at *
  simp only [hg] at *
  simpa [hh] using h
end Esp

/- EV: slices.SortFunc at a row of structs whose first cell is a whole number, by that number, where these are all different: the kit's contract over plain data. -/
import Derived.Test.YtmpcgmlknbmpbaaDoorEvFn
import Derived.Test.YtmpcgmlknbmpbaaDoorEvAv
import Derived.Test.YtmpcgmlknbmpbaaDoorEvBuild3
import Derived.Test.YtmpcgmlknbmpbaaDoorEvRise2
import Derived.Shelf.SlSortCmp.WholeK
import Derived.Shelf.SlSortCmp.NoneTotal
namespace Esp
open Go
set_option linter.unusedSimpArgs false
set_option linter.unusedVariables false
variable [Tabs]
/-! ## the row's cells -/
abbrev SA (k : Nat) : Type := { p : List Value // p.length = k ∧ (∀ v ∈ p, v.oneCell' = true) ∧ ∃ i, p[0]? = some (Value.int .i64 i) }
def SA.key {k : Nat} (p : SA k) : Int := match (p.1 : List Value)[0]? with
  | some (Value.int _ i) => i
  | _ => 0
def cmpI (i j : Int) : Int := if i < j then -1 else if i > j then 1 else 0
def F_sf (te : Nat) (τ : Ev.Ty) (g : Nat) : FnT := ⟨2, ⟨[(0, .own 2000000), (1, .fn g)], [], [(2000000, .arr te τ)], []⟩, [], [(2000000, .arr te τ)]⟩
omit [Tabs] in
theorem flat_getD (τ : Ev.Ty) (hz : 0 < τ.sz) {l : List τ.den} (j : Nat) (h : j < (flat τ l).length) : ∃ x, l[j / τ.sz]? = some x ∧ (cells τ x)[j % τ.sz]? = some (flat τ l)[j] := by
  have hl := flat_length τ l
  have hj : j / τ.sz < l.length := by rw [Nat.div_lt_iff_lt_mul hz]; omega
  refine ⟨l[j / τ.sz], List.getElem?_eq_getElem hj, ?_⟩
  have hat := flat_at τ (List.getElem?_eq_getElem hj)
  rw [← hat, List.getElem?_take, if_pos (Nat.mod_lt _ hz), List.getElem?_drop, Nat.mul_comm, Nat.div_add_mod, List.getElem?_eq_getElem h]
section
variable {P : Program} {r : Go.Shelf.Ren}
open Go.Sort Go.Proofs
set_option linter.unusedSimpArgs false
set_option linter.unusedVariables false
end
end Esp

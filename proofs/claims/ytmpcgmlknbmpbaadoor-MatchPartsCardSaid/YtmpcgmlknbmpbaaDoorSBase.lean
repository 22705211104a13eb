import Derived.Test.YtmpcgmlknbmpbaaDoorProg
import Derived.Test.YtmpcgmlknbmpbaaDoorShelf
import Derived.KernelRfl
import Derived.Test.YtmpcgmlknbmpbaaDoorEvDraw
import Derived.Test.YtmpcgmlknbmpbaaDoorSCmpL
import Derived.Test.YtmpcgmlknbmpbaaDoorEvSortL
import Derived.Test.YtmpcgmlknbmpbaaDoorSNext
import Derived.Test.YtmpcgmlknbmpbaaDoorSRch
import Derived.WalkKit
import Derived.Laws.Externs
import Derived.Test.YtmpcgmlknbmpbaaDoorPBase
namespace Go.Proofs.YtmpcgmlknbmpbaaDoor
open Go Esp Ev Pure
set_option linter.unusedSimpArgs false
set_option linter.unusedVariables false
class UTabs [Tabs] : Prop where
 fit : ∀ w : World, (∀ b o, Tabs.get b = some o → w.heap[b]? = some o) → Lib.Utf8Tabs 0 1 w
variable [Tabs] [UTabs]
noncomputable def j1p : FnT := ⟨1, ⟨[], [(0, .str)], [], []⟩, [.v .bool], []⟩
theorem i1v : Contract Tryd.prog 117 j1p validN := by
 rintro ⟨s, u⟩ y hy
 unfold validN at hy
 cases hs : Nat.ble s.size 9223372036854775807 with
 | false => dsimp only at hy; rw [hs] at hy; cases hy
 | true =>
 dsimp only at hy
 rw [hs] at hy
 cases hy
 intro F ρ vs w hrw hob hra
 have hsz : vs.size = 1 := hra.sz
 have h0 := hra.rel 0 (by show 0 < 1; omega)
 have hv := (a0o h0 (u := .string s) rfl).1
 have e : vs = #[.string s] := by
  apply Array.ext
  ·simpa using hsz
  ·intro i h1 h2
   have : i = 0 := by simp at h2; omega
   subst this
   have : vs.getD 0 undef = vs[0] := by simp [Array.getD_eq_getD_getElem?, h1]
   rw [← this, hv]
   rfl
 subst e
 have hT : Lib.Utf8Tabs (Tryd.laysValid_ren.g 3) (Tryd.laysValid_ren.g 4) w := UTabs.fit w fun b o hb => (hrw.tab b o hb).2
 refine (Any.utf8_ValidString Tryd.laysValid s w (Nat.le_of_ble_eq_true hs) hT).mono fun e w' ⟨he, hb⟩ => ?_
 have hkeep : ∀ b, b < w.heap.size → w'.heap[b]? = w.heap[b]? := hb.block
 refine ⟨F, ρ, .ret (.cell (.d (.sc (.bool (validS s))))), [], ⟨rfl, rfl⟩, ?_, ⟨hrw.dis, fun b hf => Nat.lt_of_lt_of_le (hrw.lt b hf) hb.size, hrw.inj, hrw.tab_of (fun b hf => hkeep b (hrw.lt b hf)) fun _ h => h⟩,
  fun k => (hob k).through (fun b hf => hkeep b (hrw.lt b hf)) (fun _ h => h) fun l b hk hl => hkeep b ((hob k).lt hk hl), ⟨hb.os, hb.tape, hb.output, hb.size, fun _ h => h, fun b hbb _ => hkeep b hbb, fun _ _ h => h, fun _ _ => Stab.refl _ _⟩⟩
 subst he
 exact .cell _ _ (.d _ _ (.sc _ rfl))
def F_sfLL : FnT := F_sf 33 (.lst .i64) 16
omit [UTabs] in
theorem m1l : Contract Tryd.prog 44 F_sfLL sfLL := f1b Tryd.layss1LL 33 16 (enters_of Tryd.func16 (by kernel_rfl) rfl) (fun x y vx vy W hx hy hl => o1s x y vx vy W hx hy hl)
end Go.Proofs.YtmpcgmlknbmpbaaDoor

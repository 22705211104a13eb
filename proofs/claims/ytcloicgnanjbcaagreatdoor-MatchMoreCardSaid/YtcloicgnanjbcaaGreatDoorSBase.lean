import Derived.Test.YtcloicgnanjbcaaGreatDoorProg
import Derived.Test.YtcloicgnanjbcaaGreatDoorShelf
import Derived.KernelRfl
import Derived.Test.YtcloicgnanjbcaaGreatDoorEvDraw
import Derived.Test.YtcloicgnanjbcaaGreatDoorSCmpL
import Derived.Test.YtcloicgnanjbcaaGreatDoorSNext
import Derived.WalkKit
import Derived.Laws.Externs
import Derived.Test.YtcloicgnanjbcaaGreatDoorPBase
noncomputable section
namespace Go.Proofs.YtcloicgnanjbcaaGreatDoor
open Go Esp Ev Pure
set_option linter.unusedSimpArgs false
set_option linter.unusedVariables false
class UTabs [Tabs]:Prop where
 fit: ∀w:World,(∀b o,Tabs.get b=some o→w.heap[b]? =some o)→Lib.Utf8Tabs 0 1 w
variable [Tabs] [UTabs]
def v1z:FnT:=⟨1,⟨[], [(0, .str)], [], []⟩, [.v .bool], []⟩
theorem w1n:Contract Tryz.prog 135 v1z u0q:=by
 rintro⟨s,u⟩ y hy
 unfold u0q at hy
 cases hs:Nat.ble s.size 9223372036854775807 with
 | false=>dsimp only at hy;rw [hs]at hy;cases hy
 | true=>
 dsimp only at hy
 rw [hs]at hy
 cases hy
 intro F ρ vs w hrw hob hra
 have hsz:vs.size=1:=hra.sz
 have h0:=hra.rel 0 (by show 0<1;omega)
 have hv:=(a0v h0 (u:= .string s) rfl).1
 have e:vs= #[.string s]:=by
  apply Array.ext
  ·simpa using hsz
  ·intro i h1 h2
   have:i=0:=by simp at h2;omega
   subst this
   have:vs.getD 0 undef=vs[0]:=by simp [Array.getD_eq_getD_getElem?,h1]
   rw [←this,hv]
   rfl
 subst e
 have hT:Lib.Utf8Tabs (Tryz.laysValid_ren.g 3) (Tryz.laysValid_ren.g 4) w:=UTabs.fit w fun b o hb=>(hrw.tab b o hb).2
 refine(Any.utf8_ValidString Tryz.laysValid s w (Nat.le_of_ble_eq_true hs) hT).mono fun e w' ⟨he,hb⟩=> ?_
 have hkeep: ∀b,b<w.heap.size→w'.heap[b]? =w.heap[b]? :=hb.block
 refine⟨F,ρ, .ret (.cell (.d (.sc (.bool (n0p s))))), [],⟨rfl,rfl⟩, ?_,⟨hrw.dis,fun b hf=>Nat.lt_of_lt_of_le (hrw.lt b hf) hb.size,hrw.inj,hrw.tab_of (fun b hf=>hkeep b (hrw.lt b hf)) fun _ h=>h⟩,
  fun k=>(hob k).through (fun b hf=>hkeep b (hrw.lt b hf)) (fun _ h=>h) fun l b hk hl=>hkeep b ((hob k).lt hk hl),⟨hb.os,hb.tape,hb.output,hb.size,fun _ h=>h,fun b hbb _=>hkeep b hbb,fun _ _ h=>h,fun _ _=>Stab.refl _ _⟩⟩
 subst he
 exact .cell _ _ (.d _ _ (.sc _ rfl))
def h2g:FnT:=F_sf 37 (.lst .i64) 9
omit [UTabs]in
theorem e2j:Contract Tryz.prog 20 h2g sfLL:=p1x Tryz.layss1LL 37 9 (enters_of Tryz.func9 (by kernel_rfl) rfl) (fun x y vx vy W hx hy hl=>l2m x y vx vy W hx hy hl)
end Go.Proofs.YtcloicgnanjbcaaGreatDoor

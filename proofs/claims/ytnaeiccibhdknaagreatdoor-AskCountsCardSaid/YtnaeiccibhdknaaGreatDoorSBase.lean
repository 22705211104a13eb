import Derived.Test.YtnaeiccibhdknaaGreatDoorSCmpL
set_option linter.unusedSimpArgs false
set_option linter.unusedVariables false
noncomputable section
namespace Go.Proofs.YtnaeiccibhdknaaGreatDoor
open Go Esp Ev Pure
class UTabs [Tabs]:Prop where
 fit:∀w:World,(∀b o,Tabs.get b=some o->w.heap[b]?=some o)->Lib.Utf8Tabs 1 2 w
variable [Tabs] [UTabs]
def f2i:FnT:=⟨1,⟨[],[(0,.str)],[],[]⟩,[.v .bool],[]⟩
theorem t1t:Contract Tryz.prog 136 f2i z0j:=by
 rintro⟨s,u⟩ y hy;unfold z0j at hy;cases hs:Nat.ble s.size 9223372036854775807 with
 |false=>dsimp only at hy;rw[hs]at hy;cases hy
 |true=>
 dsimp only at hy;rw[hs]at hy;cases hy;intro F ρ vs w hrw aH hra;have aR:vs.size=1:=hra.sz;have h0:=hra.rel 0 (by show 0<1;omega);have hv:=(a0i h0 (u:=.string s) rfl).1;have e:vs=#[.string s]:=by
  apply Array.ext
  ·simpa using aR
  ·intro i h1 h2
   have:i=0:=by simp at h2;omega
   subst this;have:vs.getD 0 undef=vs[0]:=by simp[r2j,h1]
   rw [<-this,hv];rfl
 subst e;have hT:Lib.Utf8Tabs (Tryz.laysValid_ren.g 3) (Tryz.laysValid_ren.g 4) w:=UTabs.fit w λb o hb=>(hrw.tab b o hb).2;refine(Any.utf8_ValidString Tryz.laysValid s w (r2u hs) hT).mono λe w' ⟨he,hb⟩=>?_;have aF:∀b,b<w.heap.size->w'.heap[b]?=w.heap[b]?:=hb.block;refine⟨F,ρ,.ret (.cell (.d (.sc (.bool (p0c s))))),[],⟨rfl,rfl⟩,?_,⟨hrw.dis,λb hf=>t2h (hrw.lt b hf) hb.size,hrw.inj,hrw.tab_of (λb hf=>aF b (hrw.lt b hf)) λ_ h=>h⟩,
  λk=>(aH k).through (λb hf=>aF b (hrw.lt b hf)) (λ_ h=>h) λl b hk hl=>aF b ((aH k).lt hk hl),⟨hb.os,hb.tape,hb.output,hb.size,λ_ h=>h,λb aW _=>aF b aW,λ_ _ h=>h,λ_ _=>Stab.refl _ _⟩⟩
 subst he;exact .cell _ _ (.d _ _ (.sc _ rfl))
omit [UTabs]in
theorem l2e:b0r Tryz.prog 135 e2e cmpN:=g2o Tryz.func135 (by kernel_rfl) (by kernel_rfl) (by kernel_rfl) (by kernel_rfl)
def m2x:FnT:=F_sf 62 (.lst .i64) 19
omit [UTabs]in
theorem a2h:Contract Tryz.prog 18 m2x sfLL:=u1l Tryz.layss1LL 62 19 (enters_of Tryz.func19 (by kernel_rfl) rfl) (λx y vx vy W hx hy hl=>i2m x y vx vy W hx hy hl)
omit [UTabs]in
theorem p2j:b0r Tryz.prog 151 e2l idxN:=f2g Tryz.func151 (by kernel_rfl) (by kernel_rfl) (by kernel_rfl) (by kernel_rfl)
omit [UTabs]in
theorem u1e:b0r Tryz.prog 132 s0p x0f:=y0b Tryz.func132 (by kernel_rfl) (by kernel_rfl) (by kernel_rfl) (by kernel_rfl)
omit [UTabs]in
theorem t1o:b0r Tryz.prog 131 s0p w0l:=y0o Tryz.func131 (by kernel_rfl) (by kernel_rfl) (by kernel_rfl) (by kernel_rfl)
end Go.Proofs.YtnaeiccibhdknaaGreatDoor

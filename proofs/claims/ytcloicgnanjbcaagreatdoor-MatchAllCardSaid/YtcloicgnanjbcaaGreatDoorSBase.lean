import Derived.Test.YtcloicgnanjbcaaGreatDoorProg
import Derived.Test.YtcloicgnanjbcaaGreatDoorShelf
import Derived.KernelRfl
import Derived.Test.YtcloicgnanjbcaaGreatDoorEvShort
import Derived.Test.YtcloicgnanjbcaaGreatDoorSCmpL
import Derived.Test.YtcloicgnanjbcaaGreatDoorSNext
import Derived.WalkKit
import Derived.Laws.Externs
import Derived.Test.YtcloicgnanjbcaaGreatDoorPBase
noncomputable section
namespace Go.Proofs.YtcloicgnanjbcaaGreatDoor
open Go Esp Ev Pure
set_option linter.unusedSimpArgs false
set_option linter.unusedVariables false
class UTabs [Tabs]:Prop where
 fit: ∀w:World,(∀b o,Tabs.get b=some o→w.heap[b]? =some o)→Lib.Utf8Tabs 0 1 w
 mlen: ∃m,∀w:World,(∀b o,Tabs.get b=some o→w.heap[b]? =some o)→w.cell? ⟨2,0,none⟩=some (.int .i64 m)
variable [Tabs] [UTabs]
def b2j:FnT:=⟨1,⟨[], [(0, .str)], [], []⟩, [.v .bool], []⟩
theorem y0k:Contract Tryz.prog 135 b2j s0c:=by
 rintro⟨s,u⟩ y hy;unfold s0c at hy;cases hs:Nat.ble s.size 9223372036854775807 with
 | false=>dsimp only at hy;rw [hs]at hy;cases hy
 | true=>
 dsimp only at hy;rw [hs]at hy;cases hy;intro F ρ vs w hrw hob hra;have hsz:vs.size=1:=hra.sz;have h0:=hra.rel 0 (by show 0<1;omega);have hv:=(a0n h0 (u:= .string s) rfl).1;have e:vs= #[.string s]:=by
  apply Array.ext
  ·simpa using hsz
  ·intro i h1 h2
   have:i=0:=by simp at h2;omega
   subst this;have:vs.getD 0 undef=vs[0]:=by simp [j2u,h1]
   rw [←this,hv];rfl
 subst e;have hT:Lib.Utf8Tabs (Tryz.laysValid_ren.g 3) (Tryz.laysValid_ren.g 4) w:=UTabs.fit w fun b o hb=>(hrw.tab b o hb).2;refine(Any.utf8_ValidString Tryz.laysValid s w (k2d hs) hT).mono fun e w' ⟨he,hb⟩=> ?_;have hkeep: ∀b,b<w.heap.size→w'.heap[b]? =w.heap[b]? :=hb.block;refine⟨F,ρ, .ret (.cell (.d (.sc (.bool (k0x s))))), [],⟨rfl,rfl⟩, ?_,⟨hrw.dis,fun b hf=>l2s (hrw.lt b hf) hb.size,hrw.inj,hrw.tab_of (fun b hf=>hkeep b (hrw.lt b hf)) fun _ h=>h⟩,
  fun k=>(hob k).through (fun b hf=>hkeep b (hrw.lt b hf)) (fun _ h=>h) fun l b hk hl=>hkeep b ((hob k).lt hk hl),⟨hb.os,hb.tape,hb.output,hb.size,fun _ h=>h,fun b hbb _=>hkeep b hbb,fun _ _ h=>h,fun _ _=>Stab.refl _ _⟩⟩
 subst he;exact .cell _ _ (.d _ _ (.sc _ rfl))
omit [UTabs]in
theorem h2u:h0d Tryz.prog 173 v1z cmpN:=a2m Tryz.func173 (by kernel_rfl) (by kernel_rfl) (by kernel_rfl) (by kernel_rfl)
def e2p:FnT:=⟨2,⟨[], [(0, .str),(1, .str)], [], []⟩, [.v .str], []⟩
omit [UTabs]in
theorem s1f:Contract Tryz.prog 117 e2p h1h:=by
 rintro⟨s,c,u⟩ y hy;unfold h1h at hy;cases hs:Nat.ble s.size 9223372036854775807&&Nat.ble c.size 4294967280&&l1j c with
 | false=>dsimp only at hy;rw [hs]at hy;cases hy
 | true=>
 dsimp only at hy;rw [hs]at hy;cases hy;simp only [j2s]at hs;obtain⟨⟨hs1,hs2⟩,hs3⟩:=hs;intro F ρ vs w hrw hob hra;have hsz:vs.size=2:=hra.sz;have hv:=(a0n (hra.rel 0 (by show 0<2;omega)) (u:= .string s) rfl).1;have hv1:=(a0n (hra.rel 1 (by show 1<2;omega)) (u:= .string c) rfl).1;have e:vs= #[.string s, .string c]:=by
  apply Array.ext
  ·simpa using hsz
  ·intro i h1 h2
   have:vs.getD i undef=vs[i]:=by simp [j2u,h1]
   rw [←this];have h3:i=0∨i=1:=by simp at h2;omega
   rcases h3 with rfl | rfl
   ·rw [hv];rfl
   ·rw [hv1];rfl
 subst e;have hc:c.size<4294967281:=by have:=k2d hs2;omega
 refine(Any.strings_Trim_laid Tryz.laysTrim (by kernel_rfl) s c w (k2d hs1) hc (ascii_of_all hs3)).mono fun e w' ⟨he,hb⟩=> ?_;have hkeep: ∀b,b<w.heap.size→w'.heap[b]? =w.heap[b]? :=hb.block;refine⟨F,ρ, .ret (.cell (.d (.sc (.string (trimS s c))))), [],⟨rfl,rfl⟩, ?_,⟨hrw.dis,fun b hf=>l2s (hrw.lt b hf) hb.size,hrw.inj,hrw.tab_of (fun b hf=>hkeep b (hrw.lt b hf)) fun _ h=>h⟩,
  fun k=>(hob k).through (fun b hf=>hkeep b (hrw.lt b hf)) (fun _ h=>h) fun l b hk hl=>hkeep b ((hob k).lt hk hl),⟨hb.os,hb.tape,hb.output,hb.size,fun _ h=>h,fun b hbb _=>hkeep b hbb,fun _ _ h=>h,fun _ _=>Stab.refl _ _⟩⟩
 subst he;exact .cell _ _ (.d _ _ (.sc _ rfl))
def h1i:FnT:=⟨2,⟨[], [(0, .str),(1, .str)], [], []⟩, [.v .bool], []⟩
theorem y0t:Contract Tryz.prog 140 h1i d0f:=by
 rintro⟨s,c,u⟩ y hy;unfold d0f at hy;cases hs:Nat.blt s.size 4294967281 with
 | false=>dsimp only at hy;rw [hs]at hy;cases hy
 | true=>
 dsimp only at hy;rw [hs]at hy;cases hy;intro F ρ vs w hrw hob hra;have hsz:vs.size=2:=hra.sz;have hv:=(a0n (hra.rel 0 (by show 0<2;omega)) (u:= .string s) rfl).1;have hv1:=(a0n (hra.rel 1 (by show 1<2;omega)) (u:= .string c) rfl).1;have e:vs= #[.string s, .string c]:=by
  apply Array.ext
  ·simpa using hsz
  ·intro i h1 h2
   have:vs.getD i undef=vs[i]:=by simp [j2u,h1]
   rw [←this];have h3:i=0∨i=1:=by simp at h2;omega
   rcases h3 with rfl | rfl
   ·rw [hv];rfl
   ·rw [hv1];rfl
 subst e;obtain⟨m,hm⟩:=UTabs.mlen;refine(Any.strings_Contains {Tryz.laysContains with} s c m w (k2d hs) (hm w fun b o hb=>(hrw.tab b o hb).2)).mono fun e w' ⟨he,hw⟩=> ?_
 subst hw;subst he;exact⟨F,ρ, .ret (.cell (.d (.sc (.bool (t0j s c))))), [],⟨rfl,rfl⟩, .cell _ _ (.d _ _ (.sc _ rfl)),hrw,hob,Fr.refl F ρ w'⟩
def h2g:FnT:=F_sf 37 (.lst .i64) 9
omit [UTabs]in
theorem g1d:Contract Tryz.prog 20 h2g sfLL:=r1h Tryz.layss1LL 37 9 (enters_of Tryz.func9 (by kernel_rfl) rfl) (fun x y vx vy W hx hy hl=>z1d x y vx vy W hx hy hl)
end Go.Proofs.YtcloicgnanjbcaaGreatDoor

/- Contracts of the library's functions at this dump. -/
import Derived.Test.YtjecnkdkhniflaaGreatDoorProg
import Derived.Test.YtjecnkdkhniflaaGreatDoorShelf
import Derived.KernelRfl
import Derived.Test.YtjecnkdkhniflaaGreatDoorEvDraw
import Derived.Test.YtjecnkdkhniflaaGreatDoorEvSortC
import Derived.Test.YtjecnkdkhniflaaGreatDoorSNext
import Derived.Test.YtjecnkdkhniflaaGreatDoorSRch
import Derived.WalkKit
import Derived.Laws.Externs
import Derived.Test.YtjecnkdkhniflaaGreatDoorPBase
namespace Go.Proofs.YtjecnkdkhniflaaGreatDoor
open Go Esp Ev Pure
set_option linter.unusedSimpArgs false
set_option linter.unusedVariables false
class UTabs [Tabs] : Prop where
  fit : ∀ w : World, (∀ b o, Tabs.get b = some o → w.heap[b]? = some o) → Lib.Utf8Tabs 0 1 w
variable [Tabs] [UTabs]
noncomputable def F_valid : FnT := ⟨1, ⟨[], [(0, .str)], [], []⟩, [.v .bool], []⟩
theorem validN_ok : Contract Tryz.prog 53 F_valid validN := by
  rintro ⟨s, u⟩ y hy
  unfold validN at hy
  cases hs : Nat.ble s.size 9223372036854775807 with
  | false => dsimp only at hy; rw [hs] at hy; cases hy
  | true =>
  dsimp only at hy
  rw [hs] at hy
  cases hy
  intro F ρ vs w hrw hob hra
  have hsz : vs.size = 1 := hra.sz
  have h0 := hra.rel 0 (by show 0 < 1; omega)
  have hv := (scV_rel h0 (u := .string s) rfl).1
  have e : vs = #[.string s] := by
    apply Array.ext
    · simpa using hsz
    · intro i h1 h2
      have : i = 0 := by simp at h2; omega
      subst this
      have : vs.getD 0 undef = vs[0] := by simp [Array.getD_eq_getD_getElem?, h1]
      rw [← this, hv]
      rfl
  subst e
  have hT : Lib.Utf8Tabs (Tryz.laysValid_ren.g 3) (Tryz.laysValid_ren.g 4) w := UTabs.fit w fun b o hb => (hrw.tab b o hb).2
  refine (Any.utf8_ValidString Tryz.laysValid s w (Nat.le_of_ble_eq_true hs) hT).mono fun e w' ⟨he, hb⟩ => ?_
  have hkeep : ∀ b, b < w.heap.size → w'.heap[b]? = w.heap[b]? := hb.block
  refine ⟨F, ρ, .ret (.cell (.d (.sc (.bool (validS s))))), [], ⟨rfl, rfl⟩, ?_, ⟨hrw.dis, fun b hf => Nat.lt_of_lt_of_le (hrw.lt b hf) hb.size, hrw.inj, hrw.tab_of (fun b hf => hkeep b (hrw.lt b hf)) fun _ h => h⟩,
    fun k => (hob k).through (fun b hf => hkeep b (hrw.lt b hf)) (fun _ h => h) fun l b hk hl => hkeep b ((hob k).lt hk hl), ⟨hb.os, hb.tape, hb.output, hb.size, fun _ h => h, fun b hbb _ => hkeep b hbb, fun _ _ h => h, fun _ _ => Stab.refl _ _⟩⟩
  subst he
  exact .cell _ _ (.d _ _ (.sc _ rfl))
noncomputable def F_trim : FnT := ⟨2, ⟨[], [(0, .str), (1, .str)], [], []⟩, [.v .str], []⟩
omit [UTabs] in
theorem trimN_ok : Contract Tryz.prog 40 F_trim trimN := by
  rintro ⟨s, c, u⟩ y hy
  unfold trimN at hy
  cases hs : Nat.ble s.size 9223372036854775807 && Nat.ble c.size 4294967280 && asciiS c with
  | false => dsimp only at hy; rw [hs] at hy; cases hy
  | true =>
  dsimp only at hy
  rw [hs] at hy
  cases hy
  simp only [Bool.and_eq_true] at hs
  obtain ⟨⟨hs1, hs2⟩, hs3⟩ := hs
  intro F ρ vs w hrw hob hra
  have hsz : vs.size = 2 := hra.sz
  have hv := (scV_rel (hra.rel 0 (by show 0 < 2; omega)) (u := .string s) rfl).1
  have hv1 := (scV_rel (hra.rel 1 (by show 1 < 2; omega)) (u := .string c) rfl).1
  have e : vs = #[.string s, .string c] := by
    apply Array.ext
    · simpa using hsz
    · intro i h1 h2
      have : vs.getD i undef = vs[i] := by simp [Array.getD_eq_getD_getElem?, h1]
      rw [← this]
      have h3 : i = 0 ∨ i = 1 := by simp at h2; omega
      rcases h3 with rfl | rfl
      · rw [hv]; rfl
      · rw [hv1]; rfl
  subst e
  have hc : c.size < 4294967281 := by have := Nat.le_of_ble_eq_true hs2; omega
  refine (Any.strings_Trim_laid Tryz.laysTrim (by kernel_rfl) s c w (Nat.le_of_ble_eq_true hs1) hc (ascii_of_all hs3)).mono fun e w' ⟨he, hb⟩ => ?_
  have hkeep : ∀ b, b < w.heap.size → w'.heap[b]? = w.heap[b]? := hb.block
  refine ⟨F, ρ, .ret (.cell (.d (.sc (.string (trimS s c))))), [], ⟨rfl, rfl⟩, ?_, ⟨hrw.dis, fun b hf => Nat.lt_of_lt_of_le (hrw.lt b hf) hb.size, hrw.inj, hrw.tab_of (fun b hf => hkeep b (hrw.lt b hf)) fun _ h => h⟩,
    fun k => (hob k).through (fun b hf => hkeep b (hrw.lt b hf)) (fun _ h => h) fun l b hk hl => hkeep b ((hob k).lt hk hl), ⟨hb.os, hb.tape, hb.output, hb.size, fun _ h => h, fun b hbb _ => hkeep b hbb, fun _ _ h => h, fun _ _ => Stab.refl _ _⟩⟩
  subst he
  exact .cell _ _ (.d _ _ (.sc _ rfl))
def F_sfPair : FnT := F_sf 66 .pair 32
omit [UTabs] in
theorem sfPair_ok : Contract Tryz.prog 31 F_sfPair sfPair := sortC_ok Tryz.layssfPair .pair scPair cmpP ltP cmpP_lt ltP_ok Tryz.isAgg66 Tryz.sizeOf66 66 32 (enters_of Tryz.func32 (by kernel_rfl) rfl) (fun x y W => cmpR x y W)
def F_ssl : FnT := F_sl 26 33 .pair 25
noncomputable def slT : TypeInfo := (Tryz.prog.info? 26).getD default
noncomputable def slE : TypeInfo := (Tryz.prog.info? 33).getD default
omit [Tabs] [UTabs] in
theorem sl_K (n : Nat) : ∃ f, Tryz.prog.funcs.findIdx? (·.name == "internal/reflectlite" ++ ".Swapper$" ++ toString (Go.Lib.swapperK n slE 17)) = some f ∧ (2 ≤ n → f = 69) := by
  match n with
  | 0 => exact ⟨61, by kernel_rfl, by omega⟩
  | 1 => exact ⟨62, by kernel_rfl, by omega⟩
  | n + 2 =>
    have c : (n + 2 == 0) = false := by simp
    have d : (n + 2 == 1) = false := by simp
    have e : Go.Lib.swapperK (n + 2) slE 17 = 9 := by
      unfold Go.Lib.swapperK
      rw [c, d]
      kernel_rfl
    refine ⟨69, ?_, fun _ => rfl⟩
    rw [e]
    kernel_rfl
omit [UTabs] in
theorem sslN_ok : Contract Tryz.prog 24 F_ssl sslN :=
  sliceC_ok (i := slT) (ie := slE) Tryz.laysSlice .pair scPair ltP ltP_ok (by kernel_rfl) (by kernel_rfl) (by kernel_rfl) (by kernel_rfl) 17 (fun _ => by kernel_rfl) (fun n => (sl_K n).imp fun _ h => h.1)
    (fun n f h2 hf => by
      obtain ⟨f', h1, h3⟩ := sl_K n
      rw [hf] at h1
      cases h1
      obtain rfl := h3 h2
      exact ⟨false, fun args W => run_callFunc_extern Tryz.func69 (by kernel_rfl) (by kernel_rfl) (by kernel_rfl) (e := Extern.ReflectliteSwapper.swap false) (by kernel_rfl) args W⟩)
    (by kernel_rfl) (fun _ => by kernel_rfl) 25 (enters_of Tryz.func25 (by kernel_rfl) rfl) (fun gb bx n cap dk W t hn hb hH hcap i j hi hj => lessR gb bx n cap dk W t hn hb hH hcap i j hi hj)

end Go.Proofs.YtjecnkdkhniflaaGreatDoor

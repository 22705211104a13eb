/- Contracts of the library's functions at this dump. -/
import Derived.Test.YtffefjmpmgkfoaaGreatDoorProg
import Derived.Test.YtffefjmpmgkfoaaGreatDoorShelf
import Derived.KernelRfl
import Derived.Test.YtffefjmpmgkfoaaGreatDoorEvDraw
import Derived.Test.YtffefjmpmgkfoaaGreatDoorEvGrow
import Derived.Test.YtffefjmpmgkfoaaGreatDoorEvSplit
import Derived.Test.YtffefjmpmgkfoaaGreatDoorCC
import Derived.Test.YtffefjmpmgkfoaaGreatDoorPBase
namespace Go.Proofs.YtffefjmpmgkfoaaGreatDoor
open Go Esp Ev Pure
set_option linter.unusedSimpArgs false
set_option linter.unusedVariables false
class UTabs [Tabs] : Prop where
  pow : ∀ w : World, (∀ b o, Tabs.get b = some o → w.heap[b]? = some o) → Lib.TabIs Tryz.prog w "internal/strconv.uint64pow10" .u64 Lib.pow10Tab
  fit : ∀ w : World, (∀ b o, Tabs.get b = some o → w.heap[b]? = some o) → Lib.Utf8Tabs 0 1 w
  mlen : ∃ m, ∀ w : World, (∀ b o, Tabs.get b = some o → w.heap[b]? = some o) → w.cell? ⟨3, 0, none⟩ = some (.int .i64 m)
variable [Tabs] [UTabs]
noncomputable def F_valid : FnT := ⟨1, ⟨[], [(0, .str)], [], []⟩, [.v .bool], []⟩
theorem validN_ok : Contract Tryz.prog 17 F_valid validN := by
  rintro ⟨s, u⟩ y hy
  unfold validN at hy
  cases hs : Nat.ble s.size 9223372036854775807 with
  | false => dsimp only at hy; rw [hs] at hy; cases hy
  | true =>
  dsimp only at hy
  rw [hs] at hy
  cases hy
  intro F ρ vs w hrw hob hra
  have hsz : vs.size = 1 := hra.sz
  have h0 := hra.rel 0 (by show 0 < 1; omega)
  have hv := (scV_rel h0 (u := .string s) rfl).1
  have e : vs = #[.string s] := by
    apply Array.ext
    · simpa using hsz
    · intro i h1 h2
      have : i = 0 := by simp at h2; omega
      subst this
      have : vs.getD 0 undef = vs[0] := by simp [Array.getD_eq_getD_getElem?, h1]
      rw [← this, hv]
      rfl
  subst e
  have hT : Lib.Utf8Tabs (Tryz.laysValid_ren.g 3) (Tryz.laysValid_ren.g 4) w := UTabs.fit w fun b o hb => (hrw.tab b o hb).2
  refine (Any.utf8_ValidString Tryz.laysValid s w (Nat.le_of_ble_eq_true hs) hT).mono fun e w' ⟨he, hb⟩ => ?_
  have hkeep : ∀ b, b < w.heap.size → w'.heap[b]? = w.heap[b]? := hb.block
  refine ⟨F, ρ, .ret (.cell (.d (.sc (.bool (validS s))))), [], ⟨rfl, rfl⟩, ?_, ⟨hrw.dis, fun b hf => Nat.lt_of_lt_of_le (hrw.lt b hf) hb.size, hrw.inj, hrw.tab_of (fun b hf => hkeep b (hrw.lt b hf)) fun _ h => h⟩,
    fun k => (hob k).through (fun b hf => hkeep b (hrw.lt b hf)) (fun _ h => h) fun l b hk hl => hkeep b ((hob k).lt hk hl), ⟨hb.os, hb.tape, hb.output, hb.size, fun _ h => h, fun b hbb _ => hkeep b hbb, fun _ _ h => h, fun _ _ => Stab.refl _ _⟩⟩
  subst he
  exact .cell _ _ (.d _ _ (.sc _ rfl))
omit [UTabs] in
theorem cmp_ok : XContract Tryz.prog 103 T_cmpB cmpN := cmpB_ok Tryz.func103 (by kernel_rfl) (by kernel_rfl) (by kernel_rfl) (by kernel_rfl)
noncomputable def F_trim : FnT := ⟨2, ⟨[], [(0, .str), (1, .str)], [], []⟩, [.v .str], []⟩
omit [UTabs] in
theorem trimN_ok : Contract Tryz.prog 59 F_trim trimN := by
  rintro ⟨s, c, u⟩ y hy
  unfold trimN at hy
  cases hs : Nat.ble s.size 9223372036854775807 && Nat.ble c.size 4294967280 && asciiS c with
  | false => dsimp only at hy; rw [hs] at hy; cases hy
  | true =>
  dsimp only at hy
  rw [hs] at hy
  cases hy
  simp only [Bool.and_eq_true] at hs
  obtain ⟨⟨hs1, hs2⟩, hs3⟩ := hs
  intro F ρ vs w hrw hob hra
  have hsz : vs.size = 2 := hra.sz
  have hv := (scV_rel (hra.rel 0 (by show 0 < 2; omega)) (u := .string s) rfl).1
  have hv1 := (scV_rel (hra.rel 1 (by show 1 < 2; omega)) (u := .string c) rfl).1
  have e : vs = #[.string s, .string c] := by
    apply Array.ext
    · simpa using hsz
    · intro i h1 h2
      have : vs.getD i undef = vs[i] := by simp [Array.getD_eq_getD_getElem?, h1]
      rw [← this]
      have h3 : i = 0 ∨ i = 1 := by simp at h2; omega
      rcases h3 with rfl | rfl
      · rw [hv]; rfl
      · rw [hv1]; rfl
  subst e
  have hc : c.size < 4294967281 := by have := Nat.le_of_ble_eq_true hs2; omega
  refine (Any.strings_Trim_laid Tryz.laysTrim (by kernel_rfl) s c w (Nat.le_of_ble_eq_true hs1) hc (ascii_of_all hs3)).mono fun e w' ⟨he, hb⟩ => ?_
  have hkeep : ∀ b, b < w.heap.size → w'.heap[b]? = w.heap[b]? := hb.block
  refine ⟨F, ρ, .ret (.cell (.d (.sc (.string (trimS s c))))), [], ⟨rfl, rfl⟩, ?_, ⟨hrw.dis, fun b hf => Nat.lt_of_lt_of_le (hrw.lt b hf) hb.size, hrw.inj, hrw.tab_of (fun b hf => hkeep b (hrw.lt b hf)) fun _ h => h⟩,
    fun k => (hob k).through (fun b hf => hkeep b (hrw.lt b hf)) (fun _ h => h) fun l b hk hl => hkeep b ((hob k).lt hk hl), ⟨hb.os, hb.tape, hb.output, hb.size, fun _ h => h, fun b hbb _ => hkeep b hbb, fun _ _ h => h, fun _ _ => Stab.refl _ _⟩⟩
  subst he
  exact .cell _ _ (.d _ _ (.sc _ rfl))
def F_cc : FnT := F_copyCheck 45 5
def F_st : FnT := F_string 45 5
omit [UTabs] in
theorem copyCheckN_ok : Contract Tryz.prog 57 F_cc copyCheckN := copyCheck_of cc_used cc_fresh
omit [Tabs] [UTabs] in
theorem bldExtra : Builder.Extra Tryz.prog Tryz.laysString_ren :=
  { sizeBuilder := by kernel_rfl, liesBuilder := by kernel_rfl, t5 := by kernel_rfl, a5 := fun w => by kernel_rfl, z5 := fun w => by kernel_rfl, v5 := fun w => by kernel_rfl, infoByte := by kernel_rfl, cellsByte := by kernel_rfl, sizeByte := by kernel_rfl, neB5 := by decide }
omit [UTabs] in
theorem stringN_ok : Contract Tryz.prog 16 F_st stringN := string_ok Tryz.laysString bldExtra
theorem itoaN_ok : Contract Tryz.prog 31 F_itoa itoaN := itoa_ok Tryz.laysItoa UTabs.pow
theorem decodeN_ok : Contract Tryz.prog 100 F_decode decodeN := decode_ok Tryz.laysDecode UTabs.fit
theorem cutN_ok : Contract Tryz.prog 124 F_cut cutN := cut_ok { Tryz.laysCut with } UTabs.mlen
theorem splitN_ok : Contract Tryz.prog 60 F_split splitN := split_ok { Tryz.laysSplit with } Tryz.laysSplit.i9 UTabs.mlen
omit [UTabs] in
theorem atoiN_ok : Contract Tryz.prog 73 F_atoi atoiN := atoi_ok Tryz.laysAtoi
end Go.Proofs.YtffefjmpmgkfoaaGreatDoor

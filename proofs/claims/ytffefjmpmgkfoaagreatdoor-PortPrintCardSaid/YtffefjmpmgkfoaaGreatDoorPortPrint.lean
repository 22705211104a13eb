/- PortPrint: true for every input, and what was there before the call is as it was. Conditions: the row alone. -/
import Derived.Test.YtffefjmpmgkfoaaGreatDoorCards
import Derived.Test.YtffefjmpmgkfoaaGreatDoorTie
import Derived.Test.YtffefjmpmgkfoaaGreatDoorSCode
import Derived.Test.YtffefjmpmgkfoaaGreatDoorPPrt
import Derived.Test.YtffefjmpmgkfoaaGreatDoorEvRead2
import Derived.Test.YtffefjmpmgkfoaaGreatDoorEvLaid
import Derived.WalkKit
import Derived.ProofKit
import Derived.OpenShut
import Derived.Deep.DeepHandedRow
import Derived.Lib.LaidTab
import Derived.Lib.LaidIn
import Derived.Lib.LaidU8T
namespace Go.Proofs.YtffefjmpmgkfoaaGreatDoor.portPrint
open Go Go.ChangeShapes Go.WideShapes Go.ChangeAt Go.RowKit Esp Pure
set_option linter.unusedSimpArgs false
set_option linter.unusedVariables false
set_option linter.unusedVariables false
set_option linter.unusedSimpArgs false

theorem own : ownKnob Tryz.prog.godebug = none := by kernel_rfl

def datumCells : DataW Unit → List Value
  | .lit l => [l.value]
  | .agg ps => ps.flatMap fun d => match d with
    | .lit l => [l.value]
    | .agg qs => qs.flatMap fun d => match d with
      | .lit l => [l.value]
      | _ => []
    | _ => []
  | _ => []

theorem first_eq : Rows.laid_unicode_utf8_first = Lib.firstData := by kernel_rfl
theorem accept_eq : (Rows.laid_unicode_utf8_acceptRanges : DataW Unit) = Lib.acceptData := by kernel_rfl
theorem pow_eq : (Rows.laid_internal_strconv_uint64pow10 : DataW Unit) = Lib.tabData .u64 Lib.pow10Tab := by kernel_rfl
set_option maxRecDepth 100000 in
theorem contract (H : Type) (enc : TypeId × Value → H) (W : World) (base : Nat) (args : Array Value) (ds gs : List (DataW H)) (before : List MemPlace)
    (hval : ∀ (j : Nat) t v, Tryz.f4.params[j]? = some t → args[j]? = some v → Value.okWide Tryz.prog W .any base t v)
    (hW : DataW.Whole enc Tryz.prog Tryz.f4.params.toList Rows.portPrintSpec.vars false W args.toList ds gs before) (hL : laidMet Tryz.prog Rows.portPrintRow.laid W) (hsh : W.ShapedOpen Tryz.prog) :
    Calls Tryz.prog 4 args W fun e W' => ∃ v, e = .returned v ∧ Rows.portPrintSpec.post enc Tryz.prog Tryz.f4 false true false false W args v W' := by
  have hW' := hW
  obtain ⟨p, q, hA, hV, rfl, hfz, hnd⟩ := hW
  obtain ⟨rfl, rfl⟩ := trodVars_none hV
  have ep : Tryz.f4.params.toList = [35] := by kernel_rfl
  rw [ep] at hA
  letI : Esp.Tabs := { get := fun b => bif Nat.blt b 4 then W.heap[b]? else none, okd := okds }
  have ht : ∀ b o, Esp.Tabs.get b = some o → W.heap[b]? = some o := fun b o h => by
    have h2 : (bif Nat.blt b 4 then W.heap[b]? else none) = some o := h
    cases hb : Nat.blt b 4 with
    | true => rw [hb] at h2; exact h2
    | false => rw [hb] at h2; cases h2
  have htab : Lib.Utf8Tabs 0 1 W := utf8Tabs_of_readsT (U8Types.of196 Tryz.laysValid) ⟨by kernel_rfl, by kernel_rfl, by kernel_rfl, by kernel_rfl, by kernel_rfl, by kernel_rfl, by kernel_rfl⟩ (Lib.laidMet.reads hL (by rw [← first_eq]; exact .tail _ (.tail _ (.tail _ (.tail _ (.tail _ (.tail _ (.head _)))))))) (Lib.laidMet.reads hL (by rw [← accept_eq]; exact .tail _ (.tail _ (.tail _ (.head _)))))
  have keep : ∀ (w : World), (∀ b o, Esp.Tabs.get b = some o → w.heap[b]? = some o) → ∀ (b off : Nat) v, b < 4 → W.cell? ⟨b, off, none⟩ = some v → w.cell? ⟨b, off, none⟩ = some v := fun w hw b off v hb hc => by
    unfold World.cell? at hc ⊢
    cases ho : W.heap[b]? with
    | none => rw [ho] at hc; cases hc
    | some o =>
      have : Esp.Tabs.get b = some o := by
        show (bif Nat.blt b 4 then W.heap[b]? else none) = some o
        rw [show Nat.blt b 4 = true from Nat.ble_eq_true_of_le hb]
        exact ho
      rw [ho] at hc
      rw [hw b o this]
      exact hc
  have hpow : Lib.TabIs Tryz.prog W "internal/strconv.uint64pow10" .u64 Lib.pow10Tab := tabIs_of_reads (g := 2) (by kernel_rfl) (by kernel_rfl) Tryz.underlying168 Tryz.underlying134 (by kernel_rfl) (by kernel_rfl) (Lib.laidMet.reads hL (by rw [← pow_eq]; exact .tail _ (.tail _ (.head _))))
  have hpk : ∀ (w : World), (∀ b o, Esp.Tabs.get b = some o → w.heap[b]? = some o) → w.heap[2]? = W.heap[2]? := fun w hw => by
    cases ho : W.heap[2]? with
    | none =>
      have := Lib.TabIs.cell (g := 2) hpow (by kernel_rfl) 0 (by decide)
      simp [World.cell?, ho] at this
    | some o => exact hw 2 o ho
  obtain ⟨mm, hmm⟩ := Tryz.laysCut.s1_3 W hsh
  haveI : UTabs := ⟨fun w hw => tabIs_keep (g := 2) (by kernel_rfl) (hpk w hw) hpow, fun w hw => ⟨fun c hc => keep w hw 0 c _ (by omega) (htab.1 c hc), fun i hi => ⟨keep w hw 1 _ _ (by omega) (htab.2 i hi).1, keep w hw 1 _ _ (by omega) (htab.2 i hi).2⟩⟩, ⟨mm, fun w hw => keep w hw 3 0 _ (by omega) hmm⟩⟩
  haveI : QuietD Tryz.prog := ⟨rfl, quiets⟩
  haveI : UDef := ⟨fun g hg => hg⟩
  obtain ⟨⟨g, u⟩, hJ, hbk, hlen, hrel⟩ := (RdArgs.step (fun v : Ev.Graph => .aggD (cells .graph v)) (RdArgs.agg (by kernel_rfl) (Rd.graph Tryz.underlying35 (by kernel_rfl) (by kernel_rfl) Tryz.underlying3 (by kernel_rfl) (by kernel_rfl) (by kernel_rfl) Tryz.underlying32 (by kernel_rfl) (Rd.node Tryz.underlying73 (by kernel_rfl) (by kernel_rfl) Tryz.underlying3 (by kernel_rfl) (by kernel_rfl) (by kernel_rfl) Tryz.underlying56 Tryz.underlying9 (by kernel_rfl) Tryz.underlying67 (by kernel_rfl) (Rd.prp Tryz.underlying69 (by kernel_rfl) (by kernel_rfl) Tryz.underlying9 (by kernel_rfl) (by kernel_rfl) (Rd.val Tryz.underlying24 (by kernel_rfl) (by kernel_rfl) Tryz.underlying3 Tryz.underlying9 Tryz.underlying22 (by kernel_rfl) (by kernel_rfl) (by kernel_rfl)))) Tryz.underlying33 (by kernel_rfl) (Rd.edg Tryz.underlying75 (by kernel_rfl) (by kernel_rfl) Tryz.underlying3 (by kernel_rfl) Tryz.underlying9 (by kernel_rfl) (by kernel_rfl) Tryz.underlying67 (by kernel_rfl) (Rd.prp Tryz.underlying69 (by kernel_rfl) (by kernel_rfl) Tryz.underlying9 (by kernel_rfl) (by kernel_rfl) (Rd.val Tryz.underlying24 (by kernel_rfl) (by kernel_rfl) Tryz.underlying3 Tryz.underlying9 Tryz.underlying22 (by kernel_rfl) (by kernel_rfl) (by kernel_rfl)))))) (RdArgs.nil)) enc W base args.toList ds p (fun j t v h1 h2 => hval j t v (by
    rw [← Array.getElem?_toList, ep]
    exact h1) (by rw [← Array.getElem?_toList]; exact h2)) hA
  have hra := relArgs_of hlen hrel

  refine (Contract.law (ok_q18z (gSz g + 100000)) (PortPrint_ok g hJ.1 (gSz g + 100000) (by omega)) rfl ht hra).mono fun e W' ⟨he, hb⟩ => ?_
  subst he
  have hdl := trodAll_length hA
  refine ⟨_, rfl, law_post (tb := 4) hW' hb rfl ?_ (by kernel_rfl) Tryz.underlying4 (by kernel_rfl) (by kernel_rfl)⟩
  match ds, hdl with
  | [d0], _ => rfl

noncomputable def laidWorld (os : Os) : World :=
  { World.holding Tryz.prog os ⟨#[], #[], []⟩ with heap := ((((((((((World.holding Tryz.prog os ⟨#[], #[], []⟩).heap.modify 6 (fun | .cells _ t fz => .cells (datumCells Rows.laid_math_bits_deBruijn32tab).toArray t fz | o => o)).modify 7 (fun | .cells _ t fz => .cells (datumCells Rows.laid_math_bits_deBruijn64tab).toArray t fz | o => o)).modify 2 (fun | .cells _ t fz => .cells (datumCells Rows.laid_internal_strconv_uint64pow10).toArray t fz | o => o)).modify 1 (fun | .cells _ t fz => .cells (datumCells Rows.laid_unicode_utf8_acceptRanges).toArray t fz | o => o)).modify 0 (fun | .cells _ t fz => .cells (datumCells Rows.laid_unicode_utf8_first).toArray t fz | o => o)).modify 5 (fun | .cells _ t fz => .cells #[.iface 238 (.pointer (some ⟨(World.holding Tryz.prog os ⟨#[], #[], []⟩).heap.size + 0, 0, none⟩))] t fz | o => o)).push (.cells #[.string ⟨#[118, 97, 108, 117, 101, 32, 111, 117, 116, 32, 111, 102, 32, 114, 97, 110, 103, 101]⟩] 240 (0, 0))).modify 4 (fun | .cells _ t fz => .cells #[.iface 238 (.pointer (some ⟨(World.holding Tryz.prog os ⟨#[], #[], []⟩).heap.size + 1, 0, none⟩))] t fz | o => o)).push (.cells #[.string ⟨#[105, 110, 118, 97, 108, 105, 100, 32, 115, 121, 110, 116, 97, 120]⟩] 240 (0, 0))) }
theorem laid_met (os : Os) : laidMet Tryz.prog Rows.portPrintRow.laid ((laidWorld os).forCall (fun _ _ => 0) ⟨#[], #[.agg #[.slice none 0 0, .slice none 0 0, .int .i64 0]], []⟩).memory :=
  laidMet_of_run' 8 (by kernel_rfl) (by kernel_rfl)
theorem reads (os : Os) {H : Type} (enc : TypeId × Value → H) : ∃ places, DataW.whole enc Tryz.prog ((laidWorld os).forCall (fun _ _ => 0) ⟨#[], #[.agg #[.slice none 0 0, .slice none 0 0, .int .i64 0]], []⟩).memory Tryz.f4.params.toList Rows.portPrintSpec.vars false #[.agg #[.slice none 0 0, .slice none 0 0, .int .i64 0]].toList 8 = some ([.agg [.nil, .nil, .lit (.int .i64 0)]], [], places) :=
  ⟨[], by kernel_rfl⟩

theorem hv_ok (os : Os) : ((laidWorld os).forCall (fun _ _ => 0) ⟨#[], #[.agg #[.slice none 0 0, .slice none 0 0, .int .i64 0]], []⟩).variablesB Tryz.prog = true := by kernel_rfl
theorem hr_ok (os : Os) : (((laidWorld os).forCall (fun _ _ => 0) ⟨#[], #[.agg #[.slice none 0 0, .slice none 0 0, .int .i64 0]], []⟩).heap.toList.drop Tryz.prog.globals.size).take ((begin Tryz.prog (fun _ _ => 0) default).world.heap.size - Tryz.prog.globals.size) =
    (begin Tryz.prog (fun _ _ => 0) default).world.heap.toList.drop Tryz.prog.globals.size := by kernel_rfl
theorem hok_ok (os : Os) : Input.okWideB Tryz.prog ((laidWorld os).forCall (fun _ _ => 0) ⟨#[], #[.agg #[.slice none 0 0, .slice none 0 0, .int .i64 0]], []⟩) 4 ⟨#[], #[.agg #[.slice none 0 0, .slice none 0 0, .int .i64 0]], []⟩ = true := by kernel_rfl
theorem pre_ok (os : Os) (H : Type) (enc : TypeId × Value → H) : (OpenSpec.ofChange Rows.portPrintSpec).preRow enc Tryz.prog Tryz.f4 Rows.portPrintRow.domain false Rows.portPrintRow.laid ((laidWorld os).forCall (fun _ _ => 0) ⟨#[], #[.agg #[.slice none 0 0, .slice none 0 0, .int .i64 0]], []⟩).memory #[.agg #[.slice none 0 0, .slice none 0 0, .int .i64 0]] := by
  obtain ⟨places, hx⟩ := reads os enc
  exact OpenSpec.preRow_of_cond 8 hx (by kernel_rfl) (fun k hk => by cases hk) (by kernel_rfl) (laid_met os)
theorem noInit : Tryz.prog.inits.idxOf? 4 = none := by kernel_rfl
theorem wit (os : Os) (H : Type) (enc : TypeId × Value → H) : ∃ (w : World) (tape : Tape) (i : Input), w.os = os ∧ (w.forCall tape i).Shaped Tryz.prog ∧ i.vars = [] ∧ Input.okWide Tryz.prog (w.forCall tape i) .any w.heap.size 4 i ∧
      (OpenSpec.ofChange Rows.portPrintSpec).preRow enc Tryz.prog Tryz.f4 Rows.portPrintRow.domain false Rows.portPrintRow.laid (w.forCall tape i).memory i.args ∧ ({ modest := false } : Assume).holds Tryz.prog (lone (Frame.enter Tryz.prog 4 i.args .normal) [] (w.forCall tape i)) :=
  witness_row_at (enc := enc) (C := Tryz.checked) (s := (OpenSpec.ofChange Rows.portPrintSpec)) (fn := Tryz.f4) false (laidWorld os) #[.agg #[.slice none 0 0, .slice none 0 0, .int .i64 0]] rfl (hv_ok os) (hr_ok os) (hok_ok os) (pre_ok os H enc)
set_option maxRecDepth 100000 in
theorem lifted (os : Os) (started : os.Started) (H : Type) (enc : TypeId × Value → H) (F : Stop.Interp) :
    ReturnsInHanded {} Tryz.checked os 4 .any ((OpenSpec.ofChange Rows.portPrintSpec).preRow enc Tryz.prog Tryz.f4 Rows.portPrintRow.domain false Rows.portPrintRow.laid) (((OpenSpec.ofChange Rows.portPrintSpec).at F).post enc Tryz.prog Tryz.f4 false true false false) := by
  refine returnsInHanded_of_row (C := Tryz.checked) (s := (OpenSpec.ofChange Rows.portPrintSpec)) own started noInit Tryz.func4 (wit os H enc) ?_
  intro W base args ds gs before hval hW _ hcond _ hL hsh _
  exact contract H enc W base args ds gs before hval hW hL hsh

theorem said : Rows.PortPrintSaid :=
  OpenClaim.holds_of_cond 4 Tryz.f4 rfl rfl rfl rfl rfl rfl rfl ⟨rfl, rfl, rfl, rfl, rfl⟩ rfl rfl rfl rfl rfl (by kernel_rfl) Tryz.func4 (by kernel_rfl)
    (of_decide_eq_true (by kernel_rfl)) (by unfold Func.isWrapper; first | (rw [if_pos (by decide +kernel)]; kernel_rfl) | (rw [if_neg (by decide +kernel)]; exact ⟨rfl, rfl⟩))
    (fun os started H enc _ F => by rw [OpenClaim.pre_eq_preRow]; exact lifted os started H enc F)

theorem plain (f : FuncId) (fn : Func) (hf : Tryz.pinned.checked.prog.funcNamed "espalier/espalierlaw.PortPrint" = some f) (hfn : Tryz.pinned.checked.prog.funcs[f]? = some fn) :
    true = Tryz.pinned.checked.prog.looks [] ∧ ∀ (j : Nat) t, fn.params[j]? = some t → Tryz.pinned.checked.prog.wantsStandIn t = false := by
  obtain rfl : f = 4 := Option.some.inj ((show Tryz.prog.funcNamed "espalier/espalierlaw.PortPrint" = some 4 by kernel_rfl).symm.trans hf) |>.symm
  obtain rfl : fn = Tryz.f4 := (Option.some.inj (Tryz.func4.symm.trans hfn)).symm
  refine ⟨by kernel_rfl, fun j t ht => ?_⟩
  have hall : Tryz.f4.params.toList.all (fun t => !Tryz.prog.wantsStandIn t) = true := by kernel_rfl
  have := List.all_eq_true.1 hall t (by simpa using Array.mem_of_getElem? ht)
  have h2 : Tryz.prog.wantsStandIn t = false := by simpa using this
  exact h2

theorem card : Rows.PortPrintCardSaid :=
  Claim7.holds_tied_plain_at .later [] _ _ _ _ said (fun _ h => by cases h) (by kernel_rfl) (fun _ h => by cases h) portPrint_row_tie rfl ⟨rfl, rfl⟩ (by kernel_rfl) rfl plain (by kernel_rfl)
#print axioms card
end Go.Proofs.YtffefjmpmgkfoaaGreatDoor.portPrint


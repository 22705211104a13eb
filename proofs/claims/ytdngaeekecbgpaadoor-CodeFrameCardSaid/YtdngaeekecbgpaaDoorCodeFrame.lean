/- CodeFrame: true for every input, and what was there before the call is as it was. Conditions: the row alone. -/
import Derived.Test.YtdngaeekecbgpaaDoorCards
import Derived.Test.YtdngaeekecbgpaaDoorTie
import Derived.Test.YtdngaeekecbgpaaDoorCode5
import Derived.Test.YtdngaeekecbgpaaDoorEspEntry
import Derived.WalkKit
import Derived.ProofKit
import Derived.OpenShut
import Derived.Deep.DeepHandedRow
import Derived.Lib.LaidTab
namespace Go.Proofs.YtdngaeekecbgpaaDoor.codeFrame
open Go Go.ChangeShapes Go.WideShapes Go.ChangeAt Go.RowKit Esp
set_option linter.unusedVariables false
set_option linter.unusedSimpArgs false

theorem own : ownKnob Tryd.prog.godebug = none := by kernel_rfl

def datumCells : DataW Unit → List Value
  | .lit l => [l.value]
  | .agg ps => ps.flatMap fun d => match d with
    | .lit l => [l.value]
    | .agg qs => qs.flatMap fun d => match d with
      | .lit l => [l.value]
      | _ => []
    | _ => []
  | _ => []

theorem contract (H : Type) (enc : TypeId × Value → H) (W : World) (base : Nat) (args : Array Value) (ds gs : List (DataW H)) (before : List MemPlace)
    (hval : ∀ (j : Nat) t v, Tryd.f5.params[j]? = some t → args[j]? = some v → Value.okWide Tryd.prog W .any base t v)
    (hW : DataW.Whole enc Tryd.prog Tryd.f5.params.toList Rows.codeFrameSpec.vars false W args.toList ds gs before) :
    Calls Tryd.prog 5 args W fun e W' => ∃ v, e = .returned v ∧ Rows.codeFrameSpec.post enc Tryd.prog Tryd.f5 false true false false W args v W' := by
  have hW' := hW
  obtain ⟨p, q, hA, hV, rfl, hfz, hnd⟩ := hW
  obtain ⟨rfl, rfl⟩ := trodVars_none hV
  have ep : Tryd.f5.params.toList = [9, 9] := by kernel_rfl
  rw [ep] at hA
  obtain ⟨⟨b, c, u⟩, hJ, hbk, hlen, hrel⟩ := (RdArgs.step (fun s : ByteArray => .cell (.d (.sc (.string s)))) (RdArgs.one (by kernel_rfl) (Rd.string Tryd.underlying9)) (RdArgs.step (fun s : ByteArray => .cell (.d (.sc (.string s)))) (RdArgs.one (by kernel_rfl) (Rd.string Tryd.underlying9)) RdArgs.nil)) enc W base args.toList ds p (fun j t v h1 h2 => hval j t v (by
    rw [← Array.getElem?_toList, ep]
    exact h1) (by rw [← Array.getElem?_toList]; exact h2)) hA
  have hra := relArgs_of hlen hrel

  refine (PCalls.law (codeFrame b c hJ.1 hJ.2.1) hra).mono fun e W' ⟨he, hb⟩ => ?_
  subst he
  have hdl := trodAll_length hA
  refine ⟨_, rfl, law_post (tb := 4) hW' hb rfl ?_ (by kernel_rfl) Tryd.underlying4 (by kernel_rfl) (by kernel_rfl)⟩
  match ds, hdl with
  | [d0, d1], _ => rfl

noncomputable def laidWorld (os : Os) : World :=
  { World.holding Tryd.prog os ⟨#[], #[], []⟩ with heap := (((World.holding Tryd.prog os ⟨#[], #[], []⟩).heap.modify 0 (fun | .cells _ t fz => .cells (datumCells Rows.laid_unicode_utf8_first).toArray t fz | o => o)).modify 1 (fun | .cells _ t fz => .cells (datumCells Rows.laid_unicode_utf8_acceptRanges).toArray t fz | o => o)) }
theorem laid_met (os : Os) : laidMet Tryd.prog Rows.codeFrameRow.laid ((laidWorld os).forCall (fun _ _ => 0) ⟨#[], #[.string ⟨#[]⟩, .string ⟨#[]⟩], []⟩).memory :=
  laidMet_of_run' 8 (by kernel_rfl) (by kernel_rfl)
theorem reads (os : Os) {H : Type} (enc : TypeId × Value → H) : ∃ places, DataW.whole enc Tryd.prog ((laidWorld os).forCall (fun _ _ => 0) ⟨#[], #[.string ⟨#[]⟩, .string ⟨#[]⟩], []⟩).memory Tryd.f5.params.toList Rows.codeFrameSpec.vars false #[.string ⟨#[]⟩, .string ⟨#[]⟩].toList 8 = some ([.lit (.string []), .lit (.string [])], [], places) :=
  ⟨[], by kernel_rfl⟩

set_option maxRecDepth 100000 in
theorem lifted (os : Os) (started : os.Started) (H : Type) (enc : TypeId × Value → H) (F : Stop.Interp) :
    ReturnsInHanded {} Tryd.checked os 5 .any ((OpenSpec.ofChange Rows.codeFrameSpec).preRow enc Tryd.prog Tryd.f5 Rows.codeFrameRow.domain false Rows.codeFrameRow.laid) (((OpenSpec.ofChange Rows.codeFrameSpec).at F).post enc Tryd.prog Tryd.f5 false true false false) := by
  obtain ⟨places, hx⟩ := reads os enc
  refine returnsInHanded_of_row (C := Tryd.checked) (s := (OpenSpec.ofChange Rows.codeFrameSpec)) own started (by kernel_rfl) Tryd.func5
    (witness_row_at (enc := enc) (C := Tryd.checked) false (laidWorld os) #[.string ⟨#[]⟩, .string ⟨#[]⟩] rfl (by kernel_rfl) (by kernel_rfl) (by kernel_rfl)
      (OpenSpec.preRow_of_cond 8 hx (by kernel_rfl) (fun k hk => by cases hk) (by kernel_rfl) (laid_met os))) ?_
  intro W base args ds gs before hval hW _ hcond _ hL _ _
  exact contract H enc W base args ds gs before hval hW

theorem said : Rows.CodeFrameSaid :=
  OpenClaim.holds_of_cond 5 Tryd.f5 rfl rfl rfl rfl rfl rfl rfl ⟨rfl, rfl, rfl, rfl, rfl⟩ rfl rfl rfl rfl rfl (by kernel_rfl) Tryd.func5 (by kernel_rfl)
    (of_decide_eq_true (by kernel_rfl)) (by unfold Func.isWrapper; first | (rw [if_pos (by decide +kernel)]; kernel_rfl) | (rw [if_neg (by decide +kernel)]; exact ⟨rfl, rfl⟩))
    (fun os started H enc _ F => by rw [OpenClaim.pre_eq_preRow]; exact lifted os started H enc F)

theorem plain (f : FuncId) (fn : Func) (hf : Tryd.pinned.checked.prog.funcNamed "espalier/espalierlaw.CodeFrame" = some f) (hfn : Tryd.pinned.checked.prog.funcs[f]? = some fn) :
    false = Tryd.pinned.checked.prog.looks [] ∧ ∀ (j : Nat) t, fn.params[j]? = some t → Tryd.pinned.checked.prog.wantsStandIn t = false := by
  obtain rfl : f = 5 := Option.some.inj ((show Tryd.prog.funcNamed "espalier/espalierlaw.CodeFrame" = some 5 by kernel_rfl).symm.trans hf) |>.symm
  obtain rfl : fn = Tryd.f5 := (Option.some.inj (Tryd.func5.symm.trans hfn)).symm
  refine ⟨by kernel_rfl, fun j t ht => ?_⟩
  have hall : Tryd.f5.params.toList.all (fun t => !Tryd.prog.wantsStandIn t) = true := by kernel_rfl
  have := List.all_eq_true.1 hall t (by simpa using Array.mem_of_getElem? ht)
  have h2 : Tryd.prog.wantsStandIn t = false := by simpa using this
  exact h2

theorem card : Rows.CodeFrameCardSaid :=
  Claim7.holds_tied_plain_at .later [] _ _ _ _ said (fun _ h => by cases h) (by kernel_rfl) (fun _ h => by cases h) codeFrame_row_tie rfl ⟨rfl, rfl⟩ (by kernel_rfl) rfl plain (by kernel_rfl)
#print axioms card
end Go.Proofs.YtdngaeekecbgpaaDoor.codeFrame


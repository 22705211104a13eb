import Derived.Test.YtmpcgmlknbmpbaaDoorCards
import Derived.Test.YtmpcgmlknbmpbaaDoorTie
import Derived.Test.YtmpcgmlknbmpbaaDoorSCode
import Derived.Test.YtmpcgmlknbmpbaaDoorPMX
import Derived.Test.YtmpcgmlknbmpbaaDoorEvRead6
import Derived.WalkKit
import Derived.ProofKit
import Derived.OpenShut
import Derived.Deep.DeepHandedRow
import Derived.Lib.LaidTab
import Derived.Lib.LaidIn
import Derived.Lib.LaidU8T
namespace Go.Proofs.YtmpcgmlknbmpbaaDoor.matchParts
open Go Go.ChangeShapes Go.WideShapes Go.ChangeAt Go.RowKit Esp Pure
set_option linter.unusedSimpArgs false
set_option linter.unusedVariables false
theorem own : ownKnob Tryd.prog.godebug = none := by kernel_rfl
def o0z : DataW Unit → List Value
 | .lit l => [l.value]
 | .agg ps => ps.flatMap fun d => match d with
  | .lit l => [l.value]
  | .agg qs => qs.flatMap fun d => match d with
   | .lit l => [l.value]
   | _ => []
  | _ => []
 | _ => []
theorem k1z : Rows.laid_unicode_utf8_first = Lib.firstData := by kernel_rfl
theorem i1e : (Rows.laid_unicode_utf8_acceptRanges : DataW Unit) = Lib.acceptData := by kernel_rfl
set_option maxRecDepth 100000 in
theorem d0e (H : Type) (enc : TypeId × Value → H) (W : World) (base : Nat) (args : Array Value) (ds gs : List (DataW H)) (before : List MemPlace)
  (hval : ∀ (j : Nat) t v, Tryd.f4.params[j]? = some t → args[j]? = some v → Value.okWide Tryd.prog W .any base t v)
  (hW : DataW.Whole enc Tryd.prog Tryd.f4.params.toList Rows.matchPartsSpec.vars false W args.toList ds gs before) (hL : laidMet Tryd.prog Rows.matchPartsRow.laid W) :
  Calls Tryd.prog 4 args W fun e W' => ∃ v, e = .returned v ∧ Rows.matchPartsSpec.post enc Tryd.prog Tryd.f4 false true false false W args v W' := by
 have hW' := hW
 obtain ⟨p, q, hA, hV, rfl, hfz, hnd⟩ := hW
 obtain ⟨rfl, rfl⟩ := trodVars_none hV
 have ep : Tryd.f4.params.toList = [58, 25] := by kernel_rfl
 rw [ep] at hA
 letI : Esp.Tabs := { get := fun b => bif Nat.blt b 2 then W.heap[b]? else none, okd := okds }
 have ht : ∀ b o, Esp.Tabs.get b = some o → W.heap[b]? = some o := fun b o h => by
  have h2 : (bif Nat.blt b 2 then W.heap[b]? else none) = some o := h
  cases hb : Nat.blt b 2 with
  | true => rw [hb] at h2; exact h2
  | false => rw [hb] at h2; cases h2
 have htab : Lib.Utf8Tabs 0 1 W := utf8Tabs_of_readsT (U8Types.of196 Tryd.laysValid) ⟨by kernel_rfl, by kernel_rfl, by kernel_rfl, by kernel_rfl, by kernel_rfl, by kernel_rfl, by kernel_rfl⟩ (Lib.laidMet.reads hL (by rw [← k1z]; exact .tail _ (.head _))) (Lib.laidMet.reads hL (by rw [← i1e]; exact .head _))
 have keep : ∀ (w : World), (∀ b o, Esp.Tabs.get b = some o → w.heap[b]? = some o) → ∀ (b off : Nat) v, b < 2 → W.cell? ⟨b, off, none⟩ = some v → w.cell? ⟨b, off, none⟩ = some v := fun w hw b off v hb hc => by
  unfold World.cell? at hc ⊢
  cases ho : W.heap[b]? with
  | none => rw [ho] at hc; cases hc
  | some o =>
   have : Esp.Tabs.get b = some o := by
    show (bif Nat.blt b 2 then W.heap[b]? else none) = some o
    rw [show Nat.blt b 2 = true from Nat.ble_eq_true_of_le hb]
    exact ho
   rw [ho] at hc
   rw [hw b o this]
   exact hc
 haveI : UTabs := ⟨fun w hw => ⟨fun c hc => keep w hw 0 c _ (by omega) (htab.1 c hc), fun i hi => ⟨keep w hw 1 _ _ (by omega) (htab.2 i hi).1, keep w hw 1 _ _ (by omega) (htab.2 i hi).2⟩⟩⟩
 haveI : QuietD Tryd.prog := ⟨rfl, quiets⟩
 haveI : UDef := ⟨fun g hg => hg⟩
 obtain ⟨⟨q, g, u⟩, hJ, hbk, hlen, hrel⟩ := (RdArgs.step (fun v : Ev.Query => .aggD (cells .query v)) (RdArgs.agg (by kernel_rfl) (Rd.query Tryd.underlying58 (by kernel_rfl) (by kernel_rfl) (by kernel_rfl) (by kernel_rfl) (by kernel_rfl) (by kernel_rfl) (by kernel_rfl) Tryd.underlying4 Tryd.underlying53 (by kernel_rfl) (Rd.dot Tryd.underlying106 (by kernel_rfl) (by kernel_rfl) Tryd.underlying9 (by kernel_rfl)) Tryd.underlying54 (by kernel_rfl) (Rd.arrow Tryd.underlying108 (by kernel_rfl) (by kernel_rfl) Tryd.underlying9 (by kernel_rfl) Tryd.underlying4 (by kernel_rfl)) Tryd.underlying55 (by kernel_rfl) (Rd.term Tryd.underlying63 (by kernel_rfl) (by kernel_rfl) Tryd.underlying3 Tryd.underlying9 Tryd.underlying55 (by kernel_rfl) (by kernel_rfl) (by kernel_rfl) (by kernel_rfl) (Rd.val Tryd.underlying45 (by kernel_rfl) (by kernel_rfl) Tryd.underlying3 Tryd.underlying9 Tryd.underlying43 (by kernel_rfl) (by kernel_rfl) (by kernel_rfl))) Tryd.underlying56 (by kernel_rfl) (Rd.item Tryd.underlying65 (by kernel_rfl) (by kernel_rfl) Tryd.underlying9 (by kernel_rfl) (by kernel_rfl) (Rd.term Tryd.underlying63 (by kernel_rfl) (by kernel_rfl) Tryd.underlying3 Tryd.underlying9 Tryd.underlying55 (by kernel_rfl) (by kernel_rfl) (by kernel_rfl) (by kernel_rfl) (Rd.val Tryd.underlying45 (by kernel_rfl) (by kernel_rfl) Tryd.underlying3 Tryd.underlying9 Tryd.underlying43 (by kernel_rfl) (by kernel_rfl) (by kernel_rfl)))))) (RdArgs.step (fun v : Ev.Graph => .aggD (cells .graph v)) (RdArgs.agg (by kernel_rfl) (Rd.graph Tryd.underlying25 (by kernel_rfl) (by kernel_rfl) Tryd.underlying3 (by kernel_rfl) (by kernel_rfl) (by kernel_rfl) Tryd.underlying22 (by kernel_rfl) (Rd.node Tryd.underlying116 (by kernel_rfl) (by kernel_rfl) Tryd.underlying3 (by kernel_rfl) (by kernel_rfl) (by kernel_rfl) Tryd.underlying46 Tryd.underlying9 (by kernel_rfl) Tryd.underlying37 (by kernel_rfl) (Rd.prp Tryd.underlying153 (by kernel_rfl) (by kernel_rfl) Tryd.underlying9 (by kernel_rfl) (by kernel_rfl) (Rd.val Tryd.underlying45 (by kernel_rfl) (by kernel_rfl) Tryd.underlying3 Tryd.underlying9 Tryd.underlying43 (by kernel_rfl) (by kernel_rfl) (by kernel_rfl)))) Tryd.underlying23 (by kernel_rfl) (Rd.edg Tryd.underlying39 (by kernel_rfl) (by kernel_rfl) Tryd.underlying3 (by kernel_rfl) Tryd.underlying9 (by kernel_rfl) (by kernel_rfl) Tryd.underlying37 (by kernel_rfl) (Rd.prp Tryd.underlying153 (by kernel_rfl) (by kernel_rfl) Tryd.underlying9 (by kernel_rfl) (by kernel_rfl) (Rd.val Tryd.underlying45 (by kernel_rfl) (by kernel_rfl) Tryd.underlying3 Tryd.underlying9 Tryd.underlying43 (by kernel_rfl) (by kernel_rfl) (by kernel_rfl)))))) (RdArgs.nil))) enc W base args.toList ds p (fun j t v h1 h2 => hval j t v (by
  rw [← Array.getElem?_toList, ep]
  exact h1) (by rw [← Array.getElem?_toList]; exact h2)) hA
 have hra := d1k hlen hrel
 obtain ⟨nn, hnn⟩ := r0c (q := q) (g := g) hJ.2.1 hJ.1.1
 refine (Contract.law (o1h (nn)) (hnn nn (Nat.le_refl nn)) rfl ht hra).mono fun e W' ⟨he, hb⟩ => ?_
 subst he
 have hdl := g0b hA
 refine ⟨_, rfl, k1w (tb := 4) hW' hb rfl ?_ (by kernel_rfl) Tryd.underlying4 (by kernel_rfl) (by kernel_rfl)⟩
 match ds, hdl with
 | [d0, d1], _ => rfl
noncomputable def c0v (os : Os) : World :=
 {World.holding Tryd.prog os ⟨#[], #[], []⟩ with heap := (((World.holding Tryd.prog os ⟨#[], #[], []⟩).heap.modify 0 (fun | .cells _ t fz => .cells (o0z Rows.laid_unicode_utf8_first).toArray t fz | o => o)).modify 1 (fun | .cells _ t fz => .cells (o0z Rows.laid_unicode_utf8_acceptRanges).toArray t fz | o => o)) }
theorem l1i (os : Os) : laidMet Tryd.prog Rows.matchPartsRow.laid ((c0v os).forCall (fun _ _ => 0) ⟨#[], #[.agg #[.slice none 0 0, .slice none 0 0, .slice none 0 0, .slice none 0 0, .bool false], .agg #[.slice none 0 0, .slice none 0 0, .int .i64 0]], []⟩).memory :=
 laidMet_of_run' 8 (by kernel_rfl) (by kernel_rfl)
theorem reads (os : Os) {H : Type} (enc : TypeId × Value → H) : ∃ places, DataW.whole enc Tryd.prog ((c0v os).forCall (fun _ _ => 0) ⟨#[], #[.agg #[.slice none 0 0, .slice none 0 0, .slice none 0 0, .slice none 0 0, .bool false], .agg #[.slice none 0 0, .slice none 0 0, .int .i64 0]], []⟩).memory Tryd.f4.params.toList Rows.matchPartsSpec.vars false #[.agg #[.slice none 0 0, .slice none 0 0, .slice none 0 0, .slice none 0 0, .bool false], .agg #[.slice none 0 0, .slice none 0 0, .int .i64 0]].toList 8 = some ([.agg [.nil, .nil, .nil, .nil, .lit (.bool false)], .agg [.nil, .nil, .lit (.int .i64 0)]], [], places) :=
 ⟨[], by kernel_rfl⟩
theorem hv_ok (os : Os) : ((c0v os).forCall (fun _ _ => 0) ⟨#[], #[.agg #[.slice none 0 0, .slice none 0 0, .slice none 0 0, .slice none 0 0, .bool false], .agg #[.slice none 0 0, .slice none 0 0, .int .i64 0]], []⟩).variablesB Tryd.prog = true := by kernel_rfl
theorem hr_ok (os : Os) : (((c0v os).forCall (fun _ _ => 0) ⟨#[], #[.agg #[.slice none 0 0, .slice none 0 0, .slice none 0 0, .slice none 0 0, .bool false], .agg #[.slice none 0 0, .slice none 0 0, .int .i64 0]], []⟩).heap.toList.drop Tryd.prog.globals.size).take ((begin Tryd.prog (fun _ _ => 0) default).world.heap.size - Tryd.prog.globals.size) =
  (begin Tryd.prog (fun _ _ => 0) default).world.heap.toList.drop Tryd.prog.globals.size := by kernel_rfl
theorem hok_ok (os : Os) : Input.okWideB Tryd.prog ((c0v os).forCall (fun _ _ => 0) ⟨#[], #[.agg #[.slice none 0 0, .slice none 0 0, .slice none 0 0, .slice none 0 0, .bool false], .agg #[.slice none 0 0, .slice none 0 0, .int .i64 0]], []⟩) 4 ⟨#[], #[.agg #[.slice none 0 0, .slice none 0 0, .slice none 0 0, .slice none 0 0, .bool false], .agg #[.slice none 0 0, .slice none 0 0, .int .i64 0]], []⟩ = true := by kernel_rfl
theorem pre_ok (os : Os) (H : Type) (enc : TypeId × Value → H) : (OpenSpec.ofChange Rows.matchPartsSpec).preRow enc Tryd.prog Tryd.f4 Rows.matchPartsRow.domain false Rows.matchPartsRow.laid ((c0v os).forCall (fun _ _ => 0) ⟨#[], #[.agg #[.slice none 0 0, .slice none 0 0, .slice none 0 0, .slice none 0 0, .bool false], .agg #[.slice none 0 0, .slice none 0 0, .int .i64 0]], []⟩).memory #[.agg #[.slice none 0 0, .slice none 0 0, .slice none 0 0, .slice none 0 0, .bool false], .agg #[.slice none 0 0, .slice none 0 0, .int .i64 0]] := by
 obtain ⟨places, hx⟩ := reads os enc
 exact OpenSpec.preRow_of_cond 8 hx (by kernel_rfl) (fun k hk => by cases hk) (by kernel_rfl) (l1i os)
theorem noInit : Tryd.prog.inits.idxOf? 4 = none := by kernel_rfl
theorem wit (os : Os) (H : Type) (enc : TypeId × Value → H) : ∃ (w : World) (tape : Tape) (i : Input), w.os = os ∧ (w.forCall tape i).Shaped Tryd.prog ∧ i.vars = [] ∧ Input.okWide Tryd.prog (w.forCall tape i) .any w.heap.size 4 i ∧
      (OpenSpec.ofChange Rows.matchPartsSpec).preRow enc Tryd.prog Tryd.f4 Rows.matchPartsRow.domain false Rows.matchPartsRow.laid (w.forCall tape i).memory i.args ∧ ({ modest := false } : Assume).holds Tryd.prog (lone (Frame.enter Tryd.prog 4 i.args .normal) [] (w.forCall tape i)) :=
 witness_row_at (enc := enc) (C := Tryd.checked) (s := (OpenSpec.ofChange Rows.matchPartsSpec)) (fn := Tryd.f4) false (c0v os) #[.agg #[.slice none 0 0, .slice none 0 0, .slice none 0 0, .slice none 0 0, .bool false], .agg #[.slice none 0 0, .slice none 0 0, .int .i64 0]] rfl (hv_ok os) (hr_ok os) (hok_ok os) (pre_ok os H enc)
set_option maxRecDepth 100000 in
theorem lifted (os : Os) (started : os.Started) (H : Type) (enc : TypeId × Value → H) (F : Stop.Interp) :
  ReturnsInHanded {} Tryd.checked os 4 .any ((OpenSpec.ofChange Rows.matchPartsSpec).preRow enc Tryd.prog Tryd.f4 Rows.matchPartsRow.domain false Rows.matchPartsRow.laid) (((OpenSpec.ofChange Rows.matchPartsSpec).at F).post enc Tryd.prog Tryd.f4 false true false false) := by
 refine returnsInHanded_of_row (C := Tryd.checked) (s := (OpenSpec.ofChange Rows.matchPartsSpec)) own started noInit Tryd.func4 (wit os H enc) ?_
 intro W base args ds gs before hval hW _ hcond _ hL _ _
 exact d0e H enc W base args ds gs before hval hW hL
theorem said : Rows.MatchPartsSaid :=
 OpenClaim.holds_of_cond 4 Tryd.f4 rfl rfl rfl rfl rfl rfl rfl ⟨rfl, rfl, rfl, rfl, rfl⟩ rfl rfl rfl rfl rfl (by kernel_rfl) Tryd.func4 (by kernel_rfl)
  (of_decide_eq_true (by kernel_rfl)) (by unfold Func.isWrapper; first | (rw [if_pos (by decide +kernel)]; kernel_rfl) | (rw [if_neg (by decide +kernel)]; exact ⟨rfl, rfl⟩))
  (fun os started H enc _ F => by rw [OpenClaim.pre_eq_preRow]; exact lifted os started H enc F)
theorem plain (f : FuncId) (fn : Func) (hf : Tryd.pinned.checked.prog.funcNamed "espalier/espalierlaw.MatchParts" = some f) (hfn : Tryd.pinned.checked.prog.funcs[f]? = some fn) :
  false = Tryd.pinned.checked.prog.looks [] ∧ ∀ (j : Nat) t, fn.params[j]? = some t → Tryd.pinned.checked.prog.wantsStandIn t = false := by
 obtain rfl : f = 4 := Option.some.inj ((show Tryd.prog.funcNamed "espalier/espalierlaw.MatchParts" = some 4 by kernel_rfl).symm.trans hf) |>.symm
 obtain rfl : fn = Tryd.f4 := (Option.some.inj (Tryd.func4.symm.trans hfn)).symm
 refine ⟨by kernel_rfl, fun j t ht => ?_⟩
 have hall : Tryd.f4.params.toList.all (fun t => !Tryd.prog.wantsStandIn t) = true := by kernel_rfl
 have := List.all_eq_true.1 hall t (by simpa using Array.mem_of_getElem? ht)
 have h2 : Tryd.prog.wantsStandIn t = false := by simpa using this
 exact h2
theorem card : Rows.MatchPartsCardSaid :=
 Claim7.holds_tied_plain_at .later [] _ _ _ _ said (fun _ h => by cases h) (by kernel_rfl) (fun _ h => by cases h) matchParts_row_tie rfl ⟨rfl, rfl⟩ (by kernel_rfl) rfl plain (by kernel_rfl)
#print axioms card
end Go.Proofs.YtmpcgmlknbmpbaaDoor.matchParts

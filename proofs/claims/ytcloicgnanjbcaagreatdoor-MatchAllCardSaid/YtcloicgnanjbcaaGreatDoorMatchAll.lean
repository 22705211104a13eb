import Derived.Test.YtcloicgnanjbcaaGreatDoorCards
import Derived.Test.YtcloicgnanjbcaaGreatDoorTie
import Derived.Test.YtcloicgnanjbcaaGreatDoorSCode
import Derived.Test.YtcloicgnanjbcaaGreatDoorPWX
import Derived.Test.YtcloicgnanjbcaaGreatDoorEvRead6
import Derived.WalkKit
import Derived.ProofKit
import Derived.OpenShut
import Derived.Deep.DeepHandedRow
import Derived.Lib.LaidTab
import Derived.Lib.LaidIn
import Derived.Lib.LaidU8T
noncomputable section
namespace Go.Proofs.YtcloicgnanjbcaaGreatDoor.matchAll
open Go Go.ChangeShapes Go.WideShapes Go.ChangeAt Go.RowKit Esp Pure
set_option linter.unusedSimpArgs false
set_option linter.unusedVariables false
theorem own:ownKnob Tryz.prog.godebug=none:=by kernel_rfl
def r0x:DataW Unit→List Value
 | .lit l=> [l.value]
 | .agg ps=>ps.flatMap fun d=>match d with
  | .lit l=> [l.value]
  | .agg qs=>qs.flatMap fun d=>match d with
   | .lit l=> [l.value]
   | _=> []
  | _=> []
 | _=> []
theorem u1x:Rows.laid_unicode_utf8_first=Lib.firstData:=by kernel_rfl
theorem r1e:(Rows.laid_unicode_utf8_acceptRanges:DataW Unit)=Lib.acceptData:=by kernel_rfl
set_option maxRecDepth 100000 in
theorem contract(H:Type)(enc:TypeId×Value→H)(W:World)(base:Nat)(args:Array Value)(ds gs:List (DataW H))(before:List MemPlace)
  (hval: ∀(j:Nat) t v,Tryz.f4.params[j]? =some t→args[j]? =some v→Value.okWide Tryz.prog W .any base t v)
  (hW:DataW.Whole enc Tryz.prog Tryz.f4.params.toList Rows.matchAllSpec.vars false W args.toList ds gs before)(hL:laidMet Tryz.prog Rows.matchAllRow.laid W)(hsh:W.ShapedOpen Tryz.prog):
  Calls Tryz.prog 4 args W fun e W' =>∃v,e= .returned v∧Rows.matchAllSpec.post enc Tryz.prog Tryz.f4 false true false false W args v W' :=by
 have hW' :=hW;obtain⟨p,q,hA,hV,rfl,hfz,hnd⟩:=hW;obtain⟨rfl,rfl⟩:=trodVars_none hV;have ep:Tryz.f4.params.toList= [27,31]:=by kernel_rfl
 rw [ep]at hA
 letI:Esp.Tabs:={get:=fun b=>bif Nat.blt b 3 then W.heap[b]? else none,okd:=okds}
 have ht: ∀b o,Esp.Tabs.get b=some o→W.heap[b]? =some o:=fun b o h=>by
  have h2:(bif Nat.blt b 3 then W.heap[b]? else none)=some o:=h
  cases hb:Nat.blt b 3 with
  | true=>rw [hb]at h2;exact h2
  | false=>rw [hb]at h2;cases h2
 have htab:Lib.Utf8Tabs 0 1 W:=utf8Tabs_of_readsT (U8Types.of196 Tryz.laysValid) ⟨by kernel_rfl,by kernel_rfl,by kernel_rfl,by kernel_rfl,by kernel_rfl,by kernel_rfl,by kernel_rfl⟩ (Lib.laidMet.reads hL (by rw [←u1x];exact .tail _ (.head _))) (Lib.laidMet.reads hL (by rw [←r1e];exact .head _));have keep: ∀(w:World),(∀b o,Esp.Tabs.get b=some o→w.heap[b]? =some o)→ ∀(b off:Nat) v,b<3→W.cell? ⟨b,off,none⟩=some v→w.cell? ⟨b,off,none⟩=some v:=fun w hw b off v hb hc=>by
  unfold World.cell? at hc⊢;cases ho:W.heap[b]? with
  | none=>rw [ho]at hc;cases hc
  | some o=>
   have:Esp.Tabs.get b=some o:=by
    show(bif Nat.blt b 3 then W.heap[b]? else none)=some o
    rw [show Nat.blt b 3=true from k2k hb]
    exact ho
   rw [ho]at hc;rw [hw b o this];exact hc
 obtain⟨mm,hmm⟩:=Tryz.laysContains.s1_3 W hsh;haveI:UTabs:=⟨fun w hw=>⟨fun c hc=>keep w hw 0 c _ (by omega) (htab.1 c hc),fun i hi=>⟨keep w hw 1 _ _ (by omega) (htab.2 i hi).1,keep w hw 1 _ _ (by omega) (htab.2 i hi).2⟩⟩,⟨mm,fun w hw=>keep w hw 2 0 _ (by omega) hmm⟩⟩;haveI:QuietD Tryz.prog:=⟨rfl,g2o⟩;haveI:UDef:=⟨fun g hg=>hg⟩
 obtain⟨⟨q,g,u⟩,hJ,hbk,hlen,hrel⟩:=(RdArgs.step (fun v:Ev.Query=> .aggD (cells .query v)) (RdArgs.agg (by kernel_rfl) (Rd.query Tryz.underlying27 (by kernel_rfl) (by kernel_rfl) (by kernel_rfl) (by kernel_rfl) (by kernel_rfl) (by kernel_rfl) (by kernel_rfl) Tryz.underlying4 Tryz.underlying22 (by kernel_rfl) (Rd.dot Tryz.underlying67 (by kernel_rfl) (by kernel_rfl) Tryz.underlying9 (by kernel_rfl)) Tryz.underlying23 (by kernel_rfl) (Rd.arrow Tryz.underlying69 (by kernel_rfl) (by kernel_rfl) Tryz.underlying9 (by kernel_rfl) Tryz.underlying4 (by kernel_rfl)) Tryz.underlying24 (by kernel_rfl) (Rd.term Tryz.underlying71 (by kernel_rfl) (by kernel_rfl) Tryz.underlying3 Tryz.underlying9 Tryz.underlying24 (by kernel_rfl) (by kernel_rfl) (by kernel_rfl) (by kernel_rfl) (Rd.val Tryz.underlying42 (by kernel_rfl) (by kernel_rfl) Tryz.underlying3 Tryz.underlying9 Tryz.underlying40 (by kernel_rfl) (by kernel_rfl) (by kernel_rfl))) Tryz.underlying25 (by kernel_rfl) (Rd.item Tryz.underlying73 (by kernel_rfl) (by kernel_rfl) Tryz.underlying9 (by kernel_rfl) (by kernel_rfl) (Rd.term Tryz.underlying71 (by kernel_rfl) (by kernel_rfl) Tryz.underlying3 Tryz.underlying9 Tryz.underlying24 (by kernel_rfl) (by kernel_rfl) (by kernel_rfl) (by kernel_rfl) (Rd.val Tryz.underlying42 (by kernel_rfl) (by kernel_rfl) Tryz.underlying3 Tryz.underlying9 Tryz.underlying40 (by kernel_rfl) (by kernel_rfl) (by kernel_rfl)))))) (RdArgs.step (fun v:Ev.Graph=> .aggD (cells .graph v)) (RdArgs.agg (by kernel_rfl) (Rd.graph Tryz.underlying31 (by kernel_rfl) (by kernel_rfl) Tryz.underlying3 (by kernel_rfl) (by kernel_rfl) (by kernel_rfl) Tryz.underlying28 (by kernel_rfl) (Rd.node Tryz.underlying93 (by kernel_rfl) (by kernel_rfl) Tryz.underlying3 (by kernel_rfl) (by kernel_rfl) (by kernel_rfl) Tryz.underlying43 Tryz.underlying9 (by kernel_rfl) Tryz.underlying44 (by kernel_rfl) (Rd.prp Tryz.underlying152 (by kernel_rfl) (by kernel_rfl) Tryz.underlying9 (by kernel_rfl) (by kernel_rfl) (Rd.val Tryz.underlying42 (by kernel_rfl) (by kernel_rfl) Tryz.underlying3 Tryz.underlying9 Tryz.underlying40 (by kernel_rfl) (by kernel_rfl) (by kernel_rfl)))) Tryz.underlying29 (by kernel_rfl) (Rd.edg Tryz.underlying98 (by kernel_rfl) (by kernel_rfl) Tryz.underlying3 (by kernel_rfl) Tryz.underlying9 (by kernel_rfl) (by kernel_rfl) Tryz.underlying44 (by kernel_rfl) (Rd.prp Tryz.underlying152 (by kernel_rfl) (by kernel_rfl) Tryz.underlying9 (by kernel_rfl) (by kernel_rfl) (Rd.val Tryz.underlying42 (by kernel_rfl) (by kernel_rfl) Tryz.underlying3 Tryz.underlying9 Tryz.underlying40 (by kernel_rfl) (by kernel_rfl) (by kernel_rfl)))))) (RdArgs.nil))) enc W base args.toList ds p (fun j t v h1 h2=>hval j t v (by
  rw [←l2n,ep];exact h1) (by rw [←l2n];exact h2)) hA
 have hra:=h1w hlen hrel;obtain⟨nn,hnn⟩:=c1l (q:=q) (g:=g) hJ.2.1 hJ.1.1 hJ.1.2.2;refine(Contract.law (b2o (nn)) (hnn nn (k2h nn)) rfl ht hra).mono fun e W' ⟨he,hb⟩=> ?_;subst he;have hdl:=i0k hA;refine⟨_,rfl,v1a (tb:=4) hW' hb rfl ?_ (by kernel_rfl) Tryz.underlying4 (by kernel_rfl) (by kernel_rfl)⟩
 match ds,hdl with
 | [d0,d1],_=>rfl
def d0r(os:Os):World:=
 {World.holding Tryz.prog os ⟨#[], #[], []⟩with heap:=(((World.holding Tryz.prog os ⟨#[], #[], []⟩).heap.modify 0 (fun | .cells _ t fz=> .cells (r0x Rows.laid_unicode_utf8_first).toArray t fz | o=>o)).modify 1 (fun | .cells _ t fz=> .cells (r0x Rows.laid_unicode_utf8_acceptRanges).toArray t fz | o=>o))}
theorem t1t(os:Os):laidMet Tryz.prog Rows.matchAllRow.laid ((d0r os).forCall (fun _ _=>0) ⟨#[], #[.agg #[.slice none 0 0, .slice none 0 0, .slice none 0 0, .slice none 0 0, .bool false], .agg #[.slice none 0 0, .slice none 0 0, .int .i64 0]], []⟩).memory:=
 laidMet_of_run' 8 (by kernel_rfl) (by kernel_rfl)
theorem reads(os:Os){H:Type}(enc:TypeId×Value→H): ∃places,DataW.whole enc Tryz.prog ((d0r os).forCall (fun _ _=>0) ⟨#[], #[.agg #[.slice none 0 0, .slice none 0 0, .slice none 0 0, .slice none 0 0, .bool false], .agg #[.slice none 0 0, .slice none 0 0, .int .i64 0]], []⟩).memory Tryz.f4.params.toList Rows.matchAllSpec.vars false #[.agg #[.slice none 0 0, .slice none 0 0, .slice none 0 0, .slice none 0 0, .bool false], .agg #[.slice none 0 0, .slice none 0 0, .int .i64 0]].toList 8=some ([.agg [.nil, .nil, .nil, .nil, .lit (.bool false)], .agg [.nil, .nil, .lit (.int .i64 0)]], [],places):=
 ⟨[],by kernel_rfl⟩
theorem i2q(os:Os):((d0r os).forCall (fun _ _=>0) ⟨#[], #[.agg #[.slice none 0 0, .slice none 0 0, .slice none 0 0, .slice none 0 0, .bool false], .agg #[.slice none 0 0, .slice none 0 0, .int .i64 0]], []⟩).variablesB Tryz.prog=true:=by kernel_rfl
theorem j2d(os:Os):(((d0r os).forCall (fun _ _=>0) ⟨#[], #[.agg #[.slice none 0 0, .slice none 0 0, .slice none 0 0, .slice none 0 0, .bool false], .agg #[.slice none 0 0, .slice none 0 0, .int .i64 0]], []⟩).heap.toList.drop Tryz.prog.globals.size).take ((begin Tryz.prog (fun _ _=>0) default).world.heap.size - Tryz.prog.globals.size)=
  (begin Tryz.prog (fun _ _=>0) default).world.heap.toList.drop Tryz.prog.globals.size:=by kernel_rfl
theorem b2z(os:Os):Input.okWideB Tryz.prog ((d0r os).forCall (fun _ _=>0) ⟨#[], #[.agg #[.slice none 0 0, .slice none 0 0, .slice none 0 0, .slice none 0 0, .bool false], .agg #[.slice none 0 0, .slice none 0 0, .int .i64 0]], []⟩) 4 ⟨#[], #[.agg #[.slice none 0 0, .slice none 0 0, .slice none 0 0, .slice none 0 0, .bool false], .agg #[.slice none 0 0, .slice none 0 0, .int .i64 0]], []⟩=true:=by kernel_rfl
theorem h2m(os:Os)(H:Type)(enc:TypeId×Value→H):(OpenSpec.ofChange Rows.matchAllSpec).preRow enc Tryz.prog Tryz.f4 Rows.matchAllRow.domain false Rows.matchAllRow.laid ((d0r os).forCall (fun _ _=>0) ⟨#[], #[.agg #[.slice none 0 0, .slice none 0 0, .slice none 0 0, .slice none 0 0, .bool false], .agg #[.slice none 0 0, .slice none 0 0, .int .i64 0]], []⟩).memory #[.agg #[.slice none 0 0, .slice none 0 0, .slice none 0 0, .slice none 0 0, .bool false], .agg #[.slice none 0 0, .slice none 0 0, .int .i64 0]]:=by
 obtain⟨places,hx⟩:=reads os enc;exact OpenSpec.preRow_of_cond 8 hx (by kernel_rfl) (fun k hk=>by cases hk) (by kernel_rfl) (t1t os)
theorem f2g:Tryz.prog.inits.idxOf? 4=none:=by kernel_rfl
theorem wit(os:Os)(H:Type)(enc:TypeId×Value→H): ∃(w:World) (tape:Tape) (i:Input),w.os=os∧(w.forCall tape i).Shaped Tryz.prog∧i.vars= []∧Input.okWide Tryz.prog (w.forCall tape i) .any w.heap.size 4 i∧
      (OpenSpec.ofChange Rows.matchAllSpec).preRow enc Tryz.prog Tryz.f4 Rows.matchAllRow.domain false Rows.matchAllRow.laid (w.forCall tape i).memory i.args∧({modest:=false}:Assume).holds Tryz.prog (lone (Frame.enter Tryz.prog 4 i.args .normal) [] (w.forCall tape i)):=
 witness_row_at (enc:=enc) (C:=Tryz.checked) (s:=(OpenSpec.ofChange Rows.matchAllSpec)) (fn:=Tryz.f4) false (d0r os) #[.agg #[.slice none 0 0, .slice none 0 0, .slice none 0 0, .slice none 0 0, .bool false], .agg #[.slice none 0 0, .slice none 0 0, .int .i64 0]] rfl (i2q os) (j2d os) (b2z os) (h2m os H enc)
set_option maxRecDepth 100000 in
theorem e2x(os:Os)(started:os.Started)(H:Type)(enc:TypeId×Value→H)(F:Stop.Interp):
  ReturnsInHanded {} Tryz.checked os 4 .any ((OpenSpec.ofChange Rows.matchAllSpec).preRow enc Tryz.prog Tryz.f4 Rows.matchAllRow.domain false Rows.matchAllRow.laid) (((OpenSpec.ofChange Rows.matchAllSpec).at F).post enc Tryz.prog Tryz.f4 false true false false):=by
 refine returnsInHanded_of_row (C:=Tryz.checked) (s:=(OpenSpec.ofChange Rows.matchAllSpec)) own started f2g Tryz.func4 (wit os H enc) ?_;intro W base args ds gs before hval hW _ hcond _ hL hsh _;exact contract H enc W base args ds gs before hval hW hL hsh
theorem said:Rows.MatchAllSaid:=
 OpenClaim.holds_of_cond 4 Tryz.f4 rfl rfl rfl rfl rfl rfl rfl ⟨rfl,rfl,rfl,rfl,rfl⟩ rfl rfl rfl rfl rfl (by kernel_rfl) Tryz.func4 (by kernel_rfl)
  (of_decide_eq_true (by kernel_rfl)) (by unfold Func.isWrapper;first | (rw [if_pos (by decide+kernel)];kernel_rfl) | (rw [if_neg (by decide+kernel)];exact⟨rfl,rfl⟩))
  (fun os started H enc _ F=>by rw [OpenClaim.pre_eq_preRow];exact e2x os started H enc F)
theorem plain (f : FuncId) (fn : Func) (hf : Tryz.pinned.checked.prog.funcNamed "espalier/espalierlaw.MatchAll" = some f) (hfn : Tryz.pinned.checked.prog.funcs[f]? = some fn) :
  false=Tryz.pinned.checked.prog.looks []∧ ∀(j:Nat) t,fn.params[j]? =some t→Tryz.pinned.checked.prog.wantsStandIn t=false:=by
 obtain rfl : f = 4 := Option.some.inj ((show Tryz.prog.funcNamed "espalier/espalierlaw.MatchAll" = some 4 by kernel_rfl).symm.trans hf) |>.symm
 obtain rfl:fn=Tryz.f4:=(Option.some.inj (Tryz.func4.symm.trans hfn)).symm;refine⟨by kernel_rfl,fun j t ht=> ?_⟩;have hall:Tryz.f4.params.toList.all (fun t=> !Tryz.prog.wantsStandIn t)=true:=by kernel_rfl
 have:=k2f.1 hall t (by simpa using Array.mem_of_getElem? ht);have h2:Tryz.prog.wantsStandIn t=false:=by simpa using this
 exact h2
theorem card:Rows.MatchAllCardSaid:=
 Claim7.holds_tied_plain_at .later [] _ _ _ _ said (fun _ h=>by cases h) (by kernel_rfl) (fun _ h=>by cases h) matchAll_row_tie rfl ⟨rfl,rfl⟩ (by kernel_rfl) rfl plain (by kernel_rfl)
#print axioms card
end Go.Proofs.YtcloicgnanjbcaaGreatDoor.matchAll

import Derived.Test.YtnaeiccibhdknaaGreatDoorSCode
import Derived.Test.YtnaeiccibhdknaaGreatDoorCards
import Derived.Test.YtnaeiccibhdknaaGreatDoorTie
import Derived.Deep.DeepHandedRow
import Derived.Lib.LaidIn
set_option linter.unusedSimpArgs false
set_option linter.unusedVariables false
noncomputable section
namespace Go.Proofs.YtnaeiccibhdknaaGreatDoor.askCounts
open Go Go.ChangeShapes Go.WideShapes Go.ChangeAt Go.RowKit Esp Pure
theorem own:ownKnob Tryz.prog.godebug=none:=by kernel_rfl
def g0m:DataW Unit->List Value
 |.lit l=>[l.value]
 |.agg ps=>ps.flatMap λd=>match d with
  |.lit l=>[l.value]
  |.agg qs=>qs.flatMap λd=>match d with
   |.lit l=>[l.value]
   |_=>[]
  |_=>[]
 |_=>[]
theorem c2j:Rows.laid_unicode_utf8_first=Lib.firstData:=by kernel_rfl
theorem v1o:(Rows.laid_unicode_utf8_acceptRanges:DataW Unit)=Lib.acceptData:=by kernel_rfl
set_option maxRecDepth 100000 in
theorem contract(H:Type)(enc:TypeId×Value->H)(W:World)(base:Nat)(args:Array Value)(ds gs:List (DataW H))(before:List MemPlace)
  (iu:∀(j:Nat) t v,Tryz.f3.params[j]?=some t->args[j]?=some v->Value.okWide Tryz.prog W .any base t v)
  (hW:DataW.Whole enc Tryz.prog Tryz.f3.params.toList Rows.askCountsSpec.vars false W args.toList ds gs before)(hL:laidMet Tryz.prog Rows.askCountsRow.laid W):
  Calls Tryz.prog 3 args W λe W' =>∃v,e=.returned v/\Rows.askCountsSpec.post enc Tryz.prog Tryz.f3 false true false false W args v W' :=by
 have hW' :=hW;obtain⟨p,q,hA,hV,rfl,pK,eO⟩:=hW;obtain⟨rfl,rfl⟩:=trodVars_none hV;have ep:Tryz.f3.params.toList=[27,31]:=by kernel_rfl
 rw[ep]at hA
 letI:Esp.Tabs:={get:=λb=>bif Nat.blt b 3 then W.heap[b]? else none,okd:=okds}
 have ht:∀b o,Esp.Tabs.get b=some o->W.heap[b]?=some o:=λb o h=>by
  have h2:(bif Nat.blt b 3 then W.heap[b]? else none)=some o:=h
  cases hb:Nat.blt b 3 with
  |true=>rw[hb]at h2;exact h2
  |false=>rw[hb]at h2;cases h2
 have htab:Lib.Utf8Tabs 1 2 W:=utf8Tabs_of_readsT (U8Types.of196 Tryz.laysValid) ⟨by kernel_rfl,by kernel_rfl,by kernel_rfl,by kernel_rfl,by kernel_rfl,by kernel_rfl,by kernel_rfl⟩ (Lib.laidMet.reads hL (by rw [<-c2j];exact .tail _ (.tail _ (.tail _ (.tail _ (.tail _ (.tail _ (.head _)))))))) (Lib.laidMet.reads hL (by rw [<-v1o];exact .tail _ (.tail _ (.tail _ (.head _)))));have keep:∀(w:World),(∀b o,Esp.Tabs.get b=some o->w.heap[b]?=some o)-> ∀(b off:Nat) v,b<3->W.cell? ⟨b,off,none⟩=some v->w.cell? ⟨b,off,none⟩=some v:=λw hw b off v hb hc=>by
  unfold World.cell? at hc⊢;cases ho:W.heap[b]? with
  |none=>rw[ho]at hc;cases hc
  |some o=>
   have:Esp.Tabs.get b=some o:=by
    show(bif Nat.blt b 3 then W.heap[b]? else none)=some o
    rw[show Nat.blt b 3=true from r2y hb]
    exact ho
   rw[ho]at hc;rw[hw b o this];exact hc
 haveI:UTabs:=⟨λw hw=>⟨λc hc=>keep w hw 1 c _ (by omega) (htab.1 c hc),λi hi=>⟨keep w hw 2 _ _ (by omega) (htab.2 i hi).1,keep w hw 2 _ _ (by omega) (htab.2 i hi).2⟩⟩⟩;haveI:QuietD Tryz.prog:=⟨rfl,n2d⟩;haveI:UDef:=⟨λg hg=>hg⟩
 obtain⟨⟨q,g,u⟩,hJ,cA,hlen,hrel⟩:=(RdArgs.step (λv:Ev.Query=>.aggD (cells .query v)) (RdArgs.agg (by kernel_rfl) (Rd.query Tryz.underlying27 (by kernel_rfl) (by kernel_rfl) (by kernel_rfl) (by kernel_rfl) (by kernel_rfl) (by kernel_rfl) (by kernel_rfl) Tryz.underlying4 Tryz.underlying22 (by kernel_rfl) (Rd.dot Tryz.underlying88 (by kernel_rfl) (by kernel_rfl) Tryz.underlying9 (by kernel_rfl)) Tryz.underlying23 (by kernel_rfl) (Rd.arrow Tryz.underlying91 (by kernel_rfl) (by kernel_rfl) Tryz.underlying9 (by kernel_rfl) Tryz.underlying4 (by kernel_rfl)) Tryz.underlying24 (by kernel_rfl) (Rd.term Tryz.underlying42 (by kernel_rfl) (by kernel_rfl) Tryz.underlying3 Tryz.underlying9 Tryz.underlying24 (by kernel_rfl) (by kernel_rfl) (by kernel_rfl) (by kernel_rfl) (Rd.val Tryz.underlying39 (by kernel_rfl) (by kernel_rfl) Tryz.underlying3 Tryz.underlying9 Tryz.underlying37 (by kernel_rfl) (by kernel_rfl) (by kernel_rfl))) Tryz.underlying25 (by kernel_rfl) (Rd.item Tryz.underlying44 (by kernel_rfl) (by kernel_rfl) Tryz.underlying9 (by kernel_rfl) (by kernel_rfl) (Rd.term Tryz.underlying42 (by kernel_rfl) (by kernel_rfl) Tryz.underlying3 Tryz.underlying9 Tryz.underlying24 (by kernel_rfl) (by kernel_rfl) (by kernel_rfl) (by kernel_rfl) (Rd.val Tryz.underlying39 (by kernel_rfl) (by kernel_rfl) Tryz.underlying3 Tryz.underlying9 Tryz.underlying37 (by kernel_rfl) (by kernel_rfl) (by kernel_rfl)))))) (RdArgs.step (λv:Ev.Graph=>.aggD (cells .graph v)) (RdArgs.agg (by kernel_rfl) (Rd.graph Tryz.underlying31 (by kernel_rfl) (by kernel_rfl) Tryz.underlying3 (by kernel_rfl) (by kernel_rfl) (by kernel_rfl) Tryz.underlying28 (by kernel_rfl) (Rd.node Tryz.underlying100 (by kernel_rfl) (by kernel_rfl) Tryz.underlying3 (by kernel_rfl) (by kernel_rfl) (by kernel_rfl) Tryz.underlying97 Tryz.underlying9 (by kernel_rfl) Tryz.underlying98 (by kernel_rfl) (Rd.prp Tryz.underlying138 (by kernel_rfl) (by kernel_rfl) Tryz.underlying9 (by kernel_rfl) (by kernel_rfl) (Rd.val Tryz.underlying39 (by kernel_rfl) (by kernel_rfl) Tryz.underlying3 Tryz.underlying9 Tryz.underlying37 (by kernel_rfl) (by kernel_rfl) (by kernel_rfl)))) Tryz.underlying29 (by kernel_rfl) (Rd.edg Tryz.underlying105 (by kernel_rfl) (by kernel_rfl) Tryz.underlying3 (by kernel_rfl) Tryz.underlying9 (by kernel_rfl) (by kernel_rfl) Tryz.underlying98 (by kernel_rfl) (Rd.prp Tryz.underlying138 (by kernel_rfl) (by kernel_rfl) Tryz.underlying9 (by kernel_rfl) (by kernel_rfl) (Rd.val Tryz.underlying39 (by kernel_rfl) (by kernel_rfl) Tryz.underlying3 Tryz.underlying9 Tryz.underlying37 (by kernel_rfl) (by kernel_rfl) (by kernel_rfl)))))) (RdArgs.nil))) enc W base args.toList ds p (λj t v h1 h2=>iu j t v (by
  rw [<-t2g,ep];exact h1) (by rw [<-t2g];exact h2)) hA
 have hra:=n1t hlen hrel;obtain⟨nn,gC⟩:=Ak.AskCounts_ok (q:=q) (g:=g) hJ.2.1 hJ.1.1 hJ.1.2.1;refine(Contract.law (f2z (nn)) (gC nn (r2q nn)) rfl ht hra).mono λe W' ⟨he,hb⟩=>?_;subst he;have kT:=k0o hA;refine⟨_,rfl,a2s (tb:=4) hW' hb rfl ?_ (by kernel_rfl) Tryz.underlying4 (by kernel_rfl) (by kernel_rfl)⟩
 match ds,kT with
 |[d0,d1],_=>rfl
def f0q(os:Os):World:=
 {World.holding Tryz.prog os ⟨#[],#[],[]⟩with heap:=((((((((((World.holding Tryz.prog os ⟨#[],#[],[]⟩).heap.modify 6 (λ|.cells _ t fz=>.cells (g0m Rows.laid_math_bits_deBruijn32tab).toArray t fz|o=>o)).modify 7 (λ|.cells _ t fz=>.cells (g0m Rows.laid_math_bits_deBruijn64tab).toArray t fz|o=>o)).modify 5 (λ|.cells _ t fz=>.cells (g0m Rows.laid_internal_strconv_uint64pow10).toArray t fz|o=>o)).modify 2 (λ|.cells _ t fz=>.cells (g0m Rows.laid_unicode_utf8_acceptRanges).toArray t fz|o=>o)).modify 1 (λ|.cells _ t fz=>.cells (g0m Rows.laid_unicode_utf8_first).toArray t fz|o=>o)).modify 4 (λ|.cells _ t fz=>.cells #[.iface 265 (.pointer (some ⟨(World.holding Tryz.prog os ⟨#[],#[],[]⟩).heap.size+0,0,none⟩))] t fz|o=>o)).push (.cells #[.string ⟨#[118,97,108,117,101,32,111,117,116,32,111,102,32,114,97,110,103,101]⟩] 267 (0,0))).modify 3 (λ|.cells _ t fz=>.cells #[.iface 265 (.pointer (some ⟨(World.holding Tryz.prog os ⟨#[],#[],[]⟩).heap.size+1,0,none⟩))] t fz|o=>o)).push (.cells #[.string ⟨#[105,110,118,97,108,105,100,32,115,121,110,116,97,120]⟩] 267 (0,0)))}
theorem b2c(os:Os):laidMet Tryz.prog Rows.askCountsRow.laid ((f0q os).forCall (λ_ _=>0) ⟨#[],#[.agg #[.slice none 0 0,.slice none 0 0,.slice none 0 0,.slice none 0 0,.bool false],.agg #[.slice none 0 0,.slice none 0 0,.int .i64 0]],[]⟩).memory:=
 laidMet_of_run' 8 (by kernel_rfl) (by kernel_rfl)
theorem reads(os:Os){H:Type}(enc:TypeId×Value->H):∃places,DataW.whole enc Tryz.prog ((f0q os).forCall (λ_ _=>0) ⟨#[],#[.agg #[.slice none 0 0,.slice none 0 0,.slice none 0 0,.slice none 0 0,.bool false],.agg #[.slice none 0 0,.slice none 0 0,.int .i64 0]],[]⟩).memory Tryz.f3.params.toList Rows.askCountsSpec.vars false #[.agg #[.slice none 0 0,.slice none 0 0,.slice none 0 0,.slice none 0 0,.bool false],.agg #[.slice none 0 0,.slice none 0 0,.int .i64 0]].toList 8=some ([.agg [.nil,.nil,.nil,.nil,.lit (.bool false)],.agg [.nil,.nil,.lit (.int .i64 0)]],[],places):=
 ⟨[],by kernel_rfl⟩
theorem q2i(os:Os):((f0q os).forCall (λ_ _=>0) ⟨#[],#[.agg #[.slice none 0 0,.slice none 0 0,.slice none 0 0,.slice none 0 0,.bool false],.agg #[.slice none 0 0,.slice none 0 0,.int .i64 0]],[]⟩).variablesB Tryz.prog=true:=by kernel_rfl
theorem q2h(os:Os):(((f0q os).forCall (λ_ _=>0) ⟨#[],#[.agg #[.slice none 0 0,.slice none 0 0,.slice none 0 0,.slice none 0 0,.bool false],.agg #[.slice none 0 0,.slice none 0 0,.int .i64 0]],[]⟩).heap.toList.drop Tryz.prog.globals.size).take ((begin Tryz.prog (λ_ _=>0) default).world.heap.size - Tryz.prog.globals.size)=
  (begin Tryz.prog (λ_ _=>0) default).world.heap.toList.drop Tryz.prog.globals.size:=by kernel_rfl
theorem n2w(os:Os):Input.okWideB Tryz.prog ((f0q os).forCall (λ_ _=>0) ⟨#[],#[.agg #[.slice none 0 0,.slice none 0 0,.slice none 0 0,.slice none 0 0,.bool false],.agg #[.slice none 0 0,.slice none 0 0,.int .i64 0]],[]⟩) 3 ⟨#[],#[.agg #[.slice none 0 0,.slice none 0 0,.slice none 0 0,.slice none 0 0,.bool false],.agg #[.slice none 0 0,.slice none 0 0,.int .i64 0]],[]⟩=true:=by kernel_rfl
theorem l2b(os:Os)(H:Type)(enc:TypeId×Value->H):(OpenSpec.ofChange Rows.askCountsSpec).preRow enc Tryz.prog Tryz.f3 Rows.askCountsRow.domain false Rows.askCountsRow.laid ((f0q os).forCall (λ_ _=>0) ⟨#[],#[.agg #[.slice none 0 0,.slice none 0 0,.slice none 0 0,.slice none 0 0,.bool false],.agg #[.slice none 0 0,.slice none 0 0,.int .i64 0]],[]⟩).memory #[.agg #[.slice none 0 0,.slice none 0 0,.slice none 0 0,.slice none 0 0,.bool false],.agg #[.slice none 0 0,.slice none 0 0,.int .i64 0]]:=by
 obtain⟨places,hx⟩:=reads os enc;exact OpenSpec.preRow_of_cond 8 hx (by kernel_rfl) (λk hk=>by cases hk) (by kernel_rfl) (b2c os)
theorem p2v:Tryz.prog.inits.idxOf? 3=none:=by kernel_rfl
theorem wit(os:Os)(H:Type)(enc:TypeId×Value->H):∃(w:World) (tape:Tape) (i:Input),w.os=os/\(w.forCall tape i).Shaped Tryz.prog/\i.vars=[]/\Input.okWide Tryz.prog (w.forCall tape i) .any w.heap.size 3 i/\
      (OpenSpec.ofChange Rows.askCountsSpec).preRow enc Tryz.prog Tryz.f3 Rows.askCountsRow.domain false Rows.askCountsRow.laid (w.forCall tape i).memory i.args/\({modest:=false}:Assume).holds Tryz.prog (lone (Frame.enter Tryz.prog 3 i.args .normal) [] (w.forCall tape i)):=
 witness_row_at (enc:=enc) (C:=Tryz.checked) (s:=(OpenSpec.ofChange Rows.askCountsSpec)) (fn:=Tryz.f3) false (f0q os) #[.agg #[.slice none 0 0,.slice none 0 0,.slice none 0 0,.slice none 0 0,.bool false],.agg #[.slice none 0 0,.slice none 0 0,.int .i64 0]] rfl (q2i os) (q2h os) (n2w os) (l2b os H enc)
set_option maxRecDepth 100000 in
theorem o2b(os:Os)(started:os.Started)(H:Type)(enc:TypeId×Value->H)(F:Stop.Interp):
  ReturnsInHanded {} Tryz.checked os 3 .any ((OpenSpec.ofChange Rows.askCountsSpec).preRow enc Tryz.prog Tryz.f3 Rows.askCountsRow.domain false Rows.askCountsRow.laid) (((OpenSpec.ofChange Rows.askCountsSpec).at F).post enc Tryz.prog Tryz.f3 false true false false):=by
 refine returnsInHanded_of_row (C:=Tryz.checked) (s:=(OpenSpec.ofChange Rows.askCountsSpec)) own started p2v Tryz.func3 (wit os H enc) ?_;intro W base args ds gs before iu hW _ nC _ hL _ _;exact contract H enc W base args ds gs before iu hW hL
theorem said:Rows.AskCountsSaid:=
 OpenClaim.holds_of_cond 3 Tryz.f3 rfl rfl rfl rfl rfl rfl rfl ⟨rfl,rfl,rfl,rfl,rfl⟩ rfl rfl rfl rfl rfl (by kernel_rfl) Tryz.func3 (by kernel_rfl)
  (of_decide_eq_true (by kernel_rfl)) (by unfold Func.isWrapper;first|(rw[if_pos (by decide+kernel)];kernel_rfl)| (rw[if_neg (by decide+kernel)];exact⟨rfl,rfl⟩))
  (λos started H enc _ F=>by rw[OpenClaim.pre_eq_preRow];exact o2b os started H enc F)
theorem plain (f : FuncId) (fn : Func) (hf : Tryz.pinned.checked.prog.funcNamed "espalier/espalierlaw.AskCounts" = some f) (cJ : Tryz.pinned.checked.prog.funcs[f]? = some fn) :
  true=Tryz.pinned.checked.prog.looks []/\ ∀(j:Nat) t,fn.params[j]?=some t->Tryz.pinned.checked.prog.wantsStandIn t=false:=by
 obtain rfl : f = 3 := Option.some.inj ((show Tryz.prog.funcNamed "espalier/espalierlaw.AskCounts" = some 3 by kernel_rfl).symm.trans hf) |>.symm
 obtain rfl:fn=Tryz.f3:=(Option.some.inj (Tryz.func3.symm.trans cJ)).symm;refine⟨by kernel_rfl,λj t ht=>?_⟩;have bB:Tryz.f3.params.toList.all (λt=> !Tryz.prog.wantsStandIn t)=true:=by kernel_rfl
 have:=s2b.1 bB t (by simpa using Array.mem_of_getElem? ht);have h2:Tryz.prog.wantsStandIn t=false:=by simpa using this
 exact h2
theorem card:Rows.AskCountsCardSaid:=
 Claim7.holds_tied_plain_at .later [] _ _ _ _ said (λ_ h=>by cases h) (by kernel_rfl) (λ_ h=>by cases h) askCounts_row_tie rfl ⟨rfl,rfl⟩ (by kernel_rfl) rfl plain (by kernel_rfl)
#print axioms card
end Go.Proofs.YtnaeiccibhdknaaGreatDoor.askCounts

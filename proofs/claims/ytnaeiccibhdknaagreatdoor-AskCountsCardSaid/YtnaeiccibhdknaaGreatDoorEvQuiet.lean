import Derived.Test.YtnaeiccibhdknaaGreatDoorEvRows
import Derived.WideLaws
set_option linter.unusedSimpArgs false
set_option linter.unusedVariables false
namespace Esp
open Go
variable [Tabs]
omit [Tabs]in
theorem v0q{c:Frame}{cs:List Frame}(h:c.mode=.returning):recoverD (c::cs)=none:=by
 unfold recoverD;simp[h]
omit [Tabs]in
theorem f0f{a:Act}{d:Nat}{v:Value}(h:d<a.tmps.size):(a.put (some d) v).eval (.tmp d)=v:=by
 simp[Act.put,Act.eval,h]
omit [Tabs]in
theorem x0q{a:Act}{d:Option Tmp}{v:Value}:(a.put d v).tmps.size=a.tmps.size:=by
 cases d<;>simp[Act.put]
omit [Tabs]in
theorem j0v{a:Act}{d:Option Tmp}{v:Value}:(a.put d v).defers=a.defers:=by
 cases d<;>rfl
omit [Tabs]in
theorem y0i{P:Program}{f:FuncId}{fn:Func}{i0 i1:Nat}{d6 d3 d7 d8:Tmp}{t t0 t1 t2 t3 t4:TypeId}{X:Code}{p0 p1 p2 p3:String}{a0 a1 a2 a3:Array Edge}
  (hf:P.funcs[f]?=some fn)
  (hb:fn.body=some (.seq (.region i0 #[{dst:=some d6,op:=.call {callee:=.builtin .recover,args:=#[],argTypes:=#[]},type:=t0,pos:=p0,after:=a0,guard:=none},
     {dst:=some d3,op:=.assign (.tmp d6),type:=t1,pos:=p1,after:=a1,guard:=none}] false)
   (.seq (.region i1 #[{dst:=some d7,op:=.move (.tmp d3),type:=t2,pos:=p2,after:=a2,guard:=none},
    {dst:=some d8,op:=.binOp .neq t (.tmp d7) (.const .nilIface) t4,type:=t3,pos:=p3,after:=a3,guard:=none}] false)
    (.cond (.tmp d8) X .skip))))
  (hr:fn.results=#[]) (hN:(Nat.blt d6 fn.ntmps&&Nat.blt d3 fn.ntmps&&Nat.blt d7 fn.ntmps&&Nat.blt d8 fn.ntmps)=true) (ht:P.underlying t=some (.interface (P.methodsAt t))) (he:a0m P f=true) (args:Array Value) (w:World):
  (callFunc f args).run P w=.ok (.enter f args) w/\CallsD P f args .returning w λe u w' =>u=.returning/\(∃v,e=.returned v)/\w' =w:=by
 simp only[r2i]at hN;have h6:=a0e hN.1.1.1;have h3:=a0e hN.1.1.2;have h7:=a0e hN.1.2;have h8:=a0e hN.2;refine⟨o0o he args w,callsD_of_wpS hf hb λc0 cs hm=>?_⟩;generalize ha:({tmps:=args++Array.replicate (fn.ntmps - args.size) undef,defers:=[]}:Act)=a;have aR:fn.ntmps<=a.tmps.size:=by rw [<-ha];simp;omega
 have hdf:a.defers=[]:=by rw [<-ha]
 have e1:=f0f (a:=a) (v:=.nilIface) (t2h h6 aR);generalize dV:a.put (some d6) .nilIface=b1 at e1;have z1:b1.tmps.size=a.tmps.size:=by rw [<-dV,x0q]
 have e2:=f0f (a:=b1) (d:=d3) (v:=.nilIface) (by omega);generalize hb2:b1.put (some d3) .nilIface=b2 at e2;have z2:b2.tmps.size=a.tmps.size:=by rw [<-hb2,x0q,z1]
 have e3:=f0f (a:=b2) (d:=d7) (v:=.nilIface) (by omega);generalize fX:b2.put (some d7) .nilIface=b3 at e3;have z3:b3.tmps.size=a.tmps.size:=by rw [<-fX,x0q,z2]
 have e4:=f0f (a:=b3) (d:=d8) (v:=.bool false) (by omega);generalize kV:b3.put (some d8) (.bool false)=b4 at e4;have qt:b4.defers=[]:=by rw [<-kV,j0v, <-fX,j0v, <-hb2,j0v, <-dV,j0v,hdf]
 have r0:(execOp a.eval {dst:=some d6,op:=.call {callee:=.builtin .recover,args:=#[],argTypes:=#[]},type:=t0,pos:=p0,after:=a0,guard:=none}).run P w=.ok .recover w:=rfl;have r1:(execOp b1.eval {dst:=some d3,op:=.assign (.tmp d6),type:=t1,pos:=p1,after:=a1,guard:=none}).run P w=.ok (.value .nilIface) w:=by
  simp[execOp,e1]
 have r2:(execOp b2.eval {dst:=some d7,op:=.move (.tmp d3),type:=t2,pos:=p2,after:=a2,guard:=none}).run P w=.ok (.value .nilIface) w:=by
  simp[execOp,e2]
 have r3:(execOp b3.eval {dst:=some d8,op:=.binOp .neq t (.tmp d7) (.const .nilIface) t4,type:=t3,pos:=p3,after:=a3,guard:=none}).run P w=.ok (.value (.bool false)) w:=by
  have:=run_neq_nil_nil (P:=P) (w:=w) t ht;have hc:b3.eval (.const .nilIface)=.nilIface:=rfl;simp[execOp,e3,hc,eqGuard,this]
 refine wpS_seq (wpS_region ?_);show wpOpsS P _ _ [0,1] a (c0::cs) w;simp only[wpOpsS,List.getElem?_toArray,t2o,List.getElem?_cons_succ,Region.wanted,if_true,r0,v0q hm,dV,r1,Oper.upon,hb2,Exit.thenS];refine wpS_seq (wpS_region ?_);show wpOpsS P _ _ [0,1] b2 (c0::cs) w;simp only[wpOpsS,List.getElem?_toArray,t2o,List.getElem?_cons_succ,Region.wanted,if_true,r2,fX,r3,Oper.upon,kV,Exit.thenS];refine wpS_cond e4 ?_;simp only[u2g,if_false];refine wpS_of_wp (wp_skip ?_);show bodyPostS P fn c0 cs _ .normal b4 (c0::cs) w;have fA:({c0 with mode:=.returning}:Frame)=c0:=by rw [<-hm]
 have gd:∃v,(results fn b4.tmps).run P w=.ok v w:=by
  simp[results,hr]
 obtain⟨v,hv⟩:=gd;exact⟨qt,.returning,by rw[fA],v,hv,rfl,⟨v,rfl⟩,rfl⟩
end Esp

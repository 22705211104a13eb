import Derived.Test.YtcloicgnanjbcaaGreatDoorEvShort
import Derived.Test.YtcloicgnanjbcaaGreatDoorEspTab
namespace Esp
open Go Go.ChangeShapes Go.RowKit
set_option linter.unusedSimpArgs false
set_option linter.unusedVariables false
open Ev in
mutual
def u0p:Val→Nat
 | .mk _ _ s l=>(1+(1+(s.size+1+(v0m l+1+0))))+1
def v0m:List Val→Nat
 | []=>0
 | x::r=>u0p x+v0m r
end
open Ev in
mutual
def vOk:Val→Prop
 | .mk k n s l=>wfI .i64 k∧wfI .i64 n∧s.size≤maxLen∧(l.length≤maxLen∧vOks l)
def vOks:List Val→Prop
 | []=>True
 | x::r=>vOk x∧vOks r
end
theorem c0k(l:List Ev.Val):vOks l↔ ∀x∈l,vOk x:=by
 induction l with
 | nil=>simp [vOks]
 | cons x r ih=>simp [vOks,ih]
theorem l1g(l:List Ev.Val):v0m l=i0f u0p l:=by
 induction l with
 | nil=>simp [v0m,i0f]
 | cons x r ih=>simp [v0m,i0f,ih]
variable [Tabs]
section
variable{P:Program}{t:TypeId}
omit [Tabs]in
theorem Rd.nl(τ:Ev.Ty){J:τ.den→Prop}{bk:τ.den→Nat}{e fuel:Nat}(ht:P.underlying t=some (.slice e))(hz:P.cellsOf e=τ.sz)(hr: ∀n,n<fuel→Rd P e (cells τ) J bk n):
  Rd P t (fun l:List τ.den=> [.nl τ l]) (fun l=>l.length≤maxLen∧∀x∈l,J x) (fun l=>i0f bk l+1) fuel:=by
 have hp:0<τ.sz:=τ.sz_pos;intro H en w vs d ps h;obtain⟨l,h1,h2,h3⟩:=Rd.slice (enc:=cells τ) ht hz hp (fun x=>a0w τ x) hr en w vs d ps h;refine⟨l,h1,⟨h2.1,fun i hi=> ?_⟩,h3⟩;obtain rfl:i=0:=by simp at hi;omega
 exact .nl _ _ _ (h2.2 0 (by simp))
omit [Tabs]in
theorem Rd.toI{k:IntKind}(fuel:Nat)(h:P.underlying t=some (.int k)):Rd P t (fun n:Int=> [iC k n]) (wfI k) (fun _=>1) fuel:=Rd.int h fuel
omit [Tabs]in
theorem Rd.toS(fuel:Nat)(h:P.underlying t=some .string):Rd P t (fun s:ByteArray=> [sC s]) (fun s=>s.size≤maxLen) (fun s=>s.size+1) fuel:=Rd.string h fuel
omit [Tabs]in
theorem Rd.toB(fuel:Nat)(h:P.underlying t=some .bool):Rd P t (fun b:Bool=> [bC b]) (fun _=>True) (fun _=>1) fuel:=Rd.bool h fuel
end
omit [Tabs]in
theorem Rd.val{P:Program}{t ti ts tl:TypeId}{fs:Array Field}(ht:P.underlying t=some (.struct fs))(hf:fs.toList.map (fun f=>(f.type,f.offset))= [(ti,0),(ti,1),(ts,2),(tl,3)])(hz:P.cellsOf t=4)
  (hi:P.underlying ti=some (.int .i64))(hs:P.underlying ts=some .string)(hl:P.underlying tl=some (.slice t))(z1:P.cellsOf ti=1)(z2:P.cellsOf ts=1)(z3:P.cellsOf tl=1):
  ∀fuel,Rd P t (cells .val) vOk u0p fuel:=by
 intro fuel
 induction fuel using Nat.strongRecOn with
 | _ fuel ih=>
  have step: ∀m,m<fuel→RdS P [(ti,0),(ti,1),(ts,2),(tl,3)] 0 4 _ _ _ m:=fun m hm=>
   RdS.cons z1 rfl rfl (Rd.toI m hi) (RdS.cons z1 rfl rfl (Rd.toI m hi) (RdS.cons z2 rfl rfl (Rd.toS m hs) (RdS.cons z3 rfl rfl
    (Rd.nl .val hl hz fun n hn=>ih n (by omega)) RdS.nil)))
  intro H e w vs d ps hh;refine Rd.map (enc' :=cells .val) (J' :=vOk) (bk' :=u0p) (Rd.struct ht hf hz step) (fun x=>Ev.Val.mk x.1 x.2.1 x.2.2.1 x.2.2.2.1) (fun x=>rfl) (fun x hx=> ?_) (fun x=> ?_) e w vs d ps hh
  ·rw [vOk,c0k]
   exact⟨hx.1,hx.2.1,hx.2.2.1,hx.2.2.2.1⟩
  ·rw [u0p,l1g]
   exact k2h _
section
variable{P:Program}{t ti ts tv tls tlp tln tle:TypeId}{fs:Array Field}
def pOk(p:Ev.Prp):Prop:=p.name.size≤maxLen∧vOk p.val
def nOk(n:Ev.Node):Prop:=wfI .i64 n.id∧(n.labels.length≤maxLen∧∀x∈n.labels,x.size≤maxLen)∧n.props.length≤maxLen∧∀x∈n.props,pOk x
def eOk(x:Ev.Edg):Prop:=wfI .i64 x.id∧wfI .i64 x.src∧wfI .i64 x.dst∧x.type.size≤maxLen∧x.props.length≤maxLen∧∀y∈x.props,pOk y
def gOk(g:Ev.Graph):Prop:=(g.nodes.length≤maxLen∧∀x∈g.nodes,nOk x)∧(g.edges.length≤maxLen∧∀x∈g.edges,eOk x)∧wfI .i64 g.next
def rOk(r:Ev.Grant):Prop:=r.who.size≤maxLen∧(r.labels.length≤maxLen∧∀x∈r.labels,x.size≤maxLen)
def oOk(o:Ev.Opn):Prop:=wfI .i64 o.kind∧wfI .i64 o.id∧wfI .i64 o.src∧wfI .i64 o.dst∧o.name.size≤maxLen∧vOk o.val∧(o.labels.length≤maxLen∧∀x∈o.labels,x.size≤maxLen)∧(o.props.length≤maxLen∧∀x∈o.props,pOk x)
def cOk(c:Ev.Cnt):Prop:=(c.r.length≤maxLen∧∀x∈c.r,vOk x)∧wfI .i64 c.n
omit [Tabs]in
theorem Rd.prp(ht:P.underlying t=some (.struct fs))(hf:fs.toList.map (fun f=>(f.type,f.offset))= [(ts,0),(tv,1)])(hz:P.cellsOf t=5)(hs:P.underlying ts=some .string)(z1:P.cellsOf ts=1)(z2:P.cellsOf tv=4)
  (hv: ∀fuel,Rd P tv (cells .val) vOk u0p fuel)(fuel:Nat):Rd P t (cells .prp) pOk (fun _=>0) fuel:=
 Rd.map (enc' :=cells .prp) (J' :=pOk) (bk' :=fun _=>0) (Rd.struct ht hf hz fun m hm=>RdS.cons z1 rfl rfl (Rd.toS m hs) (RdS.cons z2 rfl rfl (hv m) RdS.nil))
  (fun x=>Ev.Prp.mk x.1 x.2.1) (fun x=>by simp only [k2y];rfl) (fun x hx=>⟨hx.1,hx.2.1⟩) fun _=>k2o _
omit [Tabs]in
theorem Rd.node(ht:P.underlying t=some (.struct fs))(hf:fs.toList.map (fun f=>(f.type,f.offset))= [(ti,0),(tls,1),(tlp,2)])(hz:P.cellsOf t=3)(hi:P.underlying ti=some (.int .i64))(z1:P.cellsOf ti=1)(z2:P.cellsOf tls=1)(z3:P.cellsOf tlp=1)
  (hls:P.underlying tls=some (.slice ts))(hs:P.underlying ts=some .string)(zs:P.cellsOf ts=1)(hlp:P.underlying tlp=some (.slice tv))(zp:P.cellsOf tv=5)(hp: ∀fuel,Rd P tv (cells .prp) pOk (fun _=>0) fuel)(fuel:Nat):Rd P t (cells .node) nOk (fun _=>0) fuel:=
 Rd.map (enc' :=cells .node) (J' :=nOk) (bk' :=fun _=>0) (Rd.struct ht hf hz fun m hm=>RdS.cons z1 rfl rfl (Rd.toI m hi) (RdS.cons z2 rfl rfl (Rd.nl .str hls zs fun n _=>Rd.toS n hs) (RdS.cons z3 rfl rfl (Rd.nl .prp hlp zp fun n _=>hp n) RdS.nil)))
  (fun x=>Ev.Node.mk x.1 x.2.1 x.2.2.1) (fun x=>rfl) (fun x hx=>⟨hx.1,hx.2.1,hx.2.2.1⟩) fun _=>k2o _
omit [Tabs]in
theorem Rd.edg(ht:P.underlying t=some (.struct fs))(hf:fs.toList.map (fun f=>(f.type,f.offset))= [(ti,0),(ti,1),(ti,2),(ts,3),(tlp,4)])(hz:P.cellsOf t=5)(hi:P.underlying ti=some (.int .i64))(z1:P.cellsOf ti=1)(hs:P.underlying ts=some .string)(z2:P.cellsOf ts=1)(z3:P.cellsOf tlp=1)
  (hlp:P.underlying tlp=some (.slice tv))(zp:P.cellsOf tv=5)(hp: ∀fuel,Rd P tv (cells .prp) pOk (fun _=>0) fuel)(fuel:Nat):Rd P t (cells .edg) eOk (fun _=>0) fuel:=
 Rd.map (enc' :=cells .edg) (J' :=eOk) (bk' :=fun _=>0) (Rd.struct ht hf hz fun m hm=>RdS.cons z1 rfl rfl (Rd.toI m hi) (RdS.cons z1 rfl rfl (Rd.toI m hi) (RdS.cons z1 rfl rfl (Rd.toI m hi) (RdS.cons z2 rfl rfl (Rd.toS m hs) (RdS.cons z3 rfl rfl (Rd.nl .prp hlp zp fun n _=>hp n) RdS.nil)))))
  (fun x=>Ev.Edg.mk x.1 x.2.1 x.2.2.1 x.2.2.2.1 x.2.2.2.2.1) (fun x=>rfl) (fun x hx=>⟨hx.1,hx.2.1,hx.2.2.1,hx.2.2.2.1,hx.2.2.2.2.1⟩) fun _=>k2o _
omit [Tabs]in
theorem Rd.graph{tn te:TypeId}(ht:P.underlying t=some (.struct fs))(hf:fs.toList.map (fun f=>(f.type,f.offset))= [(tln,0),(tle,1),(ti,2)])(hz:P.cellsOf t=3)(hi:P.underlying ti=some (.int .i64))(z1:P.cellsOf ti=1)(z2:P.cellsOf tln=1)(z3:P.cellsOf tle=1)
  (hln:P.underlying tln=some (.slice tn))(zn:P.cellsOf tn=3)(hn: ∀fuel,Rd P tn (cells .node) nOk (fun _=>0) fuel)(hle:P.underlying tle=some (.slice te))(ze:P.cellsOf te=5)(he: ∀fuel,Rd P te (cells .edg) eOk (fun _=>0) fuel)(fuel:Nat):Rd P t (cells .graph) gOk (fun _=>0) fuel:=
 Rd.map (enc' :=cells .graph) (J' :=gOk) (bk' :=fun _=>0) (Rd.struct ht hf hz fun m hm=>RdS.cons z2 rfl rfl (Rd.nl .node hln zn fun n _=>hn n) (RdS.cons z3 rfl rfl (Rd.nl .edg hle ze fun n _=>he n) (RdS.cons z1 rfl rfl (Rd.toI m hi) RdS.nil)))
  (fun x=>Ev.Graph.mk x.1 x.2.1 x.2.2.1) (fun x=>rfl) (fun x hx=>⟨hx.1,hx.2.1,hx.2.2.1⟩) fun _=>k2o _
omit [Tabs]in
theorem Rd.grant(ht:P.underlying t=some (.struct fs))(hf:fs.toList.map (fun f=>(f.type,f.offset))= [(ts,0),(tls,1)])(hz:P.cellsOf t=2)(hs:P.underlying ts=some .string)(z1:P.cellsOf ts=1)(z2:P.cellsOf tls=1)
  (hls:P.underlying tls=some (.slice ts))(fuel:Nat):Rd P t (cells .grant) rOk (fun _=>0) fuel:=
 Rd.map (enc' :=cells .grant) (J' :=rOk) (bk' :=fun _=>0) (Rd.struct ht hf hz fun m hm=>RdS.cons z1 rfl rfl (Rd.toS m hs) (RdS.cons z2 rfl rfl (Rd.nl .str hls z1 fun n _=>Rd.toS n hs) RdS.nil))
  (fun x=>Ev.Grant.mk x.1 x.2.1) (fun x=>rfl) (fun x hx=>⟨hx.1,hx.2.1⟩) fun _=>k2o _
omit [Tabs]in
theorem Rd.opn(ht:P.underlying t=some (.struct fs))(hf:fs.toList.map (fun f=>(f.type,f.offset))= [(ti,0),(ti,1),(ti,2),(ti,3),(ts,4),(tv,5),(tls,9),(tlp,10)])(hz:P.cellsOf t=11)(hi:P.underlying ti=some (.int .i64))(z1:P.cellsOf ti=1)(hs:P.underlying ts=some .string)(z2:P.cellsOf ts=1)
  (z3:P.cellsOf tv=4)(hv: ∀fuel,Rd P tv (cells .val) vOk u0p fuel)(z4:P.cellsOf tls=1)(hls:P.underlying tls=some (.slice ts))(z5:P.cellsOf tlp=1){tp:TypeId}(hlp:P.underlying tlp=some (.slice tp))(zp:P.cellsOf tp=5)(hp: ∀fuel,Rd P tp (cells .prp) pOk (fun _=>0) fuel)(fuel:Nat):Rd P t (cells .opn) oOk (fun _=>0) fuel:=
 Rd.map (enc' :=cells .opn) (J' :=oOk) (bk' :=fun _=>0) (Rd.struct ht hf hz fun m hm=>RdS.cons z1 rfl rfl (Rd.toI m hi) (RdS.cons z1 rfl rfl (Rd.toI m hi) (RdS.cons z1 rfl rfl (Rd.toI m hi) (RdS.cons z1 rfl rfl (Rd.toI m hi) (RdS.cons z2 rfl rfl (Rd.toS m hs) (RdS.cons z3 rfl rfl (hv m) (RdS.cons z4 rfl rfl (Rd.nl .str hls z2 fun n _=>Rd.toS n hs) (RdS.cons z5 rfl rfl (Rd.nl .prp hlp zp fun n _=>hp n) RdS.nil))))))))
  (fun x=>Ev.Opn.mk x.1 x.2.1 x.2.2.1 x.2.2.2.1 x.2.2.2.2.1 x.2.2.2.2.2.1 x.2.2.2.2.2.2.1 x.2.2.2.2.2.2.2.1) (fun x=>rfl) (fun x hx=>⟨hx.1,hx.2.1,hx.2.2.1,hx.2.2.2.1,hx.2.2.2.2.1,hx.2.2.2.2.2.1,hx.2.2.2.2.2.2.1,hx.2.2.2.2.2.2.2.1⟩) fun _=>k2o _
omit [Tabs]in
theorem Rd.cnt(ht:P.underlying t=some (.struct fs))(hf:fs.toList.map (fun f=>(f.type,f.offset))= [(tln,0),(ti,1)])(hz:P.cellsOf t=2)(hi:P.underlying ti=some (.int .i64))(z1:P.cellsOf ti=1)(z2:P.cellsOf tln=1)
  (hln:P.underlying tln=some (.slice tv))(zv:P.cellsOf tv=4)(hv: ∀fuel,Rd P tv (cells .val) vOk u0p fuel)(fuel:Nat):Rd P t (cells .cnt) cOk (fun _=>0) fuel:=
 Rd.map (enc' :=cells .cnt) (J' :=cOk) (bk' :=fun _=>0) (Rd.struct ht hf hz fun m hm=>RdS.cons z2 rfl rfl (Rd.nl .val hln zv fun n _=>hv n) (RdS.cons z1 rfl rfl (Rd.toI m hi) RdS.nil))
  (fun x=>Ev.Cnt.mk x.1 x.2.1) (fun x=>rfl) (fun x hx=>⟨hx.1,hx.2.1⟩) fun _=>k2o _
end
theorem Contract.law{P:Program}{f:FuncId}{n:Nat}{vs:List (Nat×Ev.Ty)}{nf:(FnT.mk n ⟨[],vs, [], []⟩ [.v .bool] []).ins.den→Option (FnT.mk n ⟨[],vs, [], []⟩ [.v .bool] []).den}(hc:Contract P f ⟨n,⟨[],vs, [], []⟩, [.v .bool], []⟩ nf){x:Tm.den ⟨[],vs, [], []⟩}{b:Bool}(hn:nf x=some (b,()))
  {args:List AV}(ha:FnT.args ⟨n,⟨[],vs, [], []⟩, [.v .bool], []⟩ x=args){vals:Array Value}{W:World}(ht: ∀b o,Tabs.get b=some o→W.heap[b]? =some o)(hra:RelArgs W (fun b=>b<W.heap.size) (fun _=>none) args vals):
  Calls P f vals W fun e W' =>e= .returned (.bool b)∧Go.RowKit.Below W.heap.size W W' :=by
 subst ha;have h:=hc x (b,()) hn;have h2:PCalls P f (FnT.args ⟨n,⟨[],vs, [], []⟩, [.v .bool], []⟩ x) (.cell (.d (.sc (.bool b)))):=h.mono fun r o hr=>hr.1;exact PCalls.law h2 ht hra
end Esp
namespace Esp
open Go Go.ChangeShapes Go.RowKit
set_option linter.unusedSimpArgs false
set_option linter.unusedVariables false
variable [Tabs]
section
variable{P:Program}{t ti tb tq:TypeId}{fs:Array Field}
def qOk(q:List (List Ev.Cnt)):Prop:=q.length≤maxLen∧∀x∈q,x.length≤maxLen∧∀c∈x,cOk c
def uOk(u:Ev.Guest):Prop:=wfI .i64 u.view∧qOk u.queue∧True∧wfI .i64 u.at_
omit [Tabs]in
theorem o1g{α:Type}{f:α→Nat}(l:List α)(h: ∀x∈l,1≤f x):l.length≤i0f f l:=by
 induction l with
 | nil=>simp [i0f]
 | cons x r ih=>
  have h1:=h x (by simp);have h2:=ih fun y hy=>h y (by simp [hy]);simp only [i0f,k2i];omega
omit [Tabs]in
theorem Rd.guest{tx tc:TypeId}(ht:P.underlying t=some (.struct fs))(hf:fs.toList.map (fun f=>(f.type,f.offset))= [(ti,0),(tq,1),(tb,2),(ti,3)])(hz:P.cellsOf t=4)(hi:P.underlying ti=some (.int .i64))(z1:P.cellsOf ti=1)(z2:P.cellsOf tq=1)(hb:P.underlying tb=some .bool)(z3:P.cellsOf tb=1)
  (hq:P.underlying tq=some (.slice tx))(zx:P.cellsOf tx=1)(hx:P.underlying tx=some (.slice tc))(zc:P.cellsOf tc=2)(hc: ∀fuel,Rd P tc (cells .cnt) cOk (fun _=>0) fuel)(fuel:Nat):Rd P t (cells .guest) uOk (fun u=>u.queue.length) fuel:=
 Rd.map (enc' :=cells .guest) (J' :=uOk) (bk' :=fun u=>u.queue.length) (Rd.struct ht hf hz fun m hm=>RdS.cons z1 rfl rfl (Rd.toI m hi) (RdS.cons z2 rfl rfl (Rd.nl (.lst .cnt) hq zx fun n _=>Rd.nl .cnt hx zc fun k _=>hc k) (RdS.cons z3 rfl rfl (Rd.toB m hb) (RdS.cons z1 rfl rfl (Rd.toI m hi) RdS.nil))))
  (fun x=>Ev.Guest.mk x.1 x.2.1 x.2.2.1 x.2.2.2.1) (fun x=>rfl) (fun x hx=>⟨hx.1,hx.2.1,hx.2.2.1,hx.2.2.2.1⟩) fun x=>by
   have:=o1g (f:=fun l:List Ev.Cnt=>i0f (fun _=>0) l+1) x.2.1 fun _ _=>by omega
   have hh: ∀S:Nat,S≤(1+(S+1+(1+(1+0))))+1:=fun S=>by omega
   exact k2x this (hh _)
end
end Esp
namespace Esp
open Go Go.ChangeShapes Go.RowKit
set_option linter.unusedSimpArgs false
set_option linter.unusedVariables false
open Ev in
mutual
def tOk:Term→Prop
 | .mk k v s l=>wfI .i64 k∧vOk v∧s.size≤maxLen∧(l.length≤maxLen∧tOks l)
def tOks:List Term→Prop
 | []=>True
 | x::r=>tOk x∧tOks r
end
theorem u0e(l:List Ev.Term):tOks l↔ ∀x∈l,tOk x:=by
 induction l with
 | nil=>simp [tOks]
 | cons x r ih=>simp [tOks,ih]
theorem Rd.term{P:Program}{t ti tv ts tl:TypeId}{fs:Array Field}(ht:P.underlying t=some (.struct fs))(hf:fs.toList.map (fun f=>(f.type,f.offset))= [(ti,0),(tv,1),(ts,5),(tl,6)])(hz:P.cellsOf t=7)
  (hi:P.underlying ti=some (.int .i64))(hs:P.underlying ts=some .string)(hl:P.underlying tl=some (.slice t))(z1:P.cellsOf ti=1)(z2:P.cellsOf ts=1)(z3:P.cellsOf tl=1)(z4:P.cellsOf tv=4)
  (hv: ∀fuel,Rd P tv (cells .val) vOk u0p fuel): ∀fuel,Rd P t (cells .term) tOk (fun _=>0) fuel:=by
 intro fuel
 induction fuel using Nat.strongRecOn with
 | _ fuel ih=>
  have step: ∀m,m<fuel→RdS P [(ti,0),(tv,1),(ts,5),(tl,6)] 0 7 _ _ _ m:=fun m hm=>
   RdS.cons z1 rfl rfl (Rd.toI m hi) (RdS.cons z4 rfl rfl (hv m) (RdS.cons z2 rfl rfl (Rd.toS m hs) (RdS.cons z3 rfl rfl
    (Rd.nl .term hl hz fun n hn=>ih n (by omega)) RdS.nil)))
  intro H e w vs d ps hh;refine Rd.map (enc' :=cells .term) (J' :=tOk) (bk' :=fun _=>0) (Rd.struct ht hf hz step) (fun x=>Ev.Term.mk x.1 x.2.1 x.2.2.1 x.2.2.2.1) (fun x=>by simp only [k2y];rfl) (fun x hx=> ?_) (fun x=>k2o _) e w vs d ps hh;rw [tOk,u0e];exact⟨hx.1,hx.2.1,hx.2.2.1,hx.2.2.2.1⟩
end Esp
namespace Esp
open Go Go.ChangeShapes Go.RowKit
set_option linter.unusedSimpArgs false
set_option linter.unusedVariables false
def quOk(q:Ev.Query):Prop:=(∀t∈q.wher,tOk t)∧(∀i∈q.items,tOk i.t)∧q.arrows.length≤maxLen
theorem Rd.dot{P:Program}{t ts:TypeId}{fs:Array Field}(ht:P.underlying t=some (.struct fs))(hf:fs.toList.map (fun f=>(f.type,f.offset))= [(ts,0),(ts,1)])(hz:P.cellsOf t=2)(hs:P.underlying ts=some .string)(z1:P.cellsOf ts=1)(fuel:Nat):
  Rd P t (cells .dot) (fun _=>True) (fun _=>0) fuel:=
 Rd.map (enc' :=cells .dot) (J' :=fun _=>True) (bk' :=fun _=>0) (Rd.struct ht hf hz fun m hm=>RdS.cons z1 rfl rfl (Rd.toS m hs) (RdS.cons z1 rfl rfl (Rd.toS m hs) RdS.nil))
  (fun x=>Ev.Dot.mk x.1 x.2.1) (fun x=>rfl) (fun x hx=>trivial) fun _=>k2o _
theorem Rd.arrow{P:Program}{t ts tb:TypeId}{fs:Array Field}(ht:P.underlying t=some (.struct fs))(hf:fs.toList.map (fun f=>(f.type,f.offset))= [(ts,0),(ts,1),(tb,2),(tb,3)])(hz:P.cellsOf t=4)(hs:P.underlying ts=some .string)(z1:P.cellsOf ts=1)
  (hb:P.underlying tb=some .bool)(z2:P.cellsOf tb=1)(fuel:Nat):Rd P t (cells .arrow) (fun _=>True) (fun _=>0) fuel:=
 Rd.map (enc' :=cells .arrow) (J' :=fun _=>True) (bk' :=fun _=>0) (Rd.struct ht hf hz fun m hm=>RdS.cons z1 rfl rfl (Rd.toS m hs) (RdS.cons z1 rfl rfl (Rd.toS m hs) (RdS.cons z2 rfl rfl (Rd.toB m hb) (RdS.cons z2 rfl rfl (Rd.toB m hb) RdS.nil))))
  (fun x=>Ev.Arrow.mk x.1 x.2.1 x.2.2.1 x.2.2.2.1) (fun x=>rfl) (fun x hx=>trivial) fun _=>k2o _
theorem Rd.item{P:Program}{t ts tt:TypeId}{fs:Array Field}(ht:P.underlying t=some (.struct fs))(hf:fs.toList.map (fun f=>(f.type,f.offset))= [(ts,0),(ts,1),(tt,2)])(hz:P.cellsOf t=9)(hs:P.underlying ts=some .string)(z1:P.cellsOf ts=1)(z2:P.cellsOf tt=7)
  (hr: ∀fuel,Rd P tt (cells .term) tOk (fun _=>0) fuel)(fuel:Nat):Rd P t (cells .item) (fun i=>tOk i.t) (fun _=>0) fuel:=
 Rd.map (enc' :=cells .item) (J' :=fun i=>tOk i.t) (bk' :=fun _=>0) (Rd.struct ht hf hz fun m hm=>RdS.cons z1 rfl rfl (Rd.toS m hs) (RdS.cons z1 rfl rfl (Rd.toS m hs) (RdS.cons z2 rfl rfl (hr m) RdS.nil)))
  (fun x=>Ev.Item.mk x.1 x.2.1 x.2.2.1) (fun x=>by simp only [k2y];rfl) (fun x hx=>hx.2.2.1) fun _=>k2o _
theorem Rd.query{P:Program}{t tld tla tlw tli tb td ta tw ti:TypeId}{fs:Array Field}(ht:P.underlying t=some (.struct fs))(hf:fs.toList.map (fun f=>(f.type,f.offset))= [(tld,0),(tla,1),(tlw,2),(tli,3),(tb,4)])(hz:P.cellsOf t=5)
  (z1:P.cellsOf tld=1)(z2:P.cellsOf tla=1)(z3:P.cellsOf tlw=1)(z4:P.cellsOf tli=1)(z5:P.cellsOf tb=1)(hb:P.underlying tb=some .bool)
  (hld:P.underlying tld=some (.slice td))(zd:P.cellsOf td=2)(hd: ∀fuel,Rd P td (cells .dot) (fun _=>True) (fun _=>0) fuel)
  (hla:P.underlying tla=some (.slice ta))(za:P.cellsOf ta=4)(ha: ∀fuel,Rd P ta (cells .arrow) (fun _=>True) (fun _=>0) fuel)
  (hlw:P.underlying tlw=some (.slice tw))(zw:P.cellsOf tw=7)(hw: ∀fuel,Rd P tw (cells .term) tOk (fun _=>0) fuel)
  (hli:P.underlying tli=some (.slice ti))(zi:P.cellsOf ti=9)(hi: ∀fuel,Rd P ti (cells .item) (fun i=>tOk i.t) (fun _=>0) fuel)(fuel:Nat):Rd P t (cells .query) quOk (fun _=>0) fuel:=
 Rd.map (enc' :=cells .query) (J' :=quOk) (bk' :=fun _=>0) (Rd.struct ht hf hz fun m hm=>RdS.cons z1 rfl rfl (Rd.nl .dot hld zd fun n _=>hd n) (RdS.cons z2 rfl rfl (Rd.nl .arrow hla za fun n _=>ha n) (RdS.cons z3 rfl rfl (Rd.nl .term hlw zw fun n _=>hw n) (RdS.cons z4 rfl rfl (Rd.nl .item hli zi fun n _=>hi n) (RdS.cons z5 rfl rfl (Rd.toB m hb) RdS.nil)))))
  (fun x=>Ev.Query.mk x.1 x.2.1 x.2.2.1 x.2.2.2.1 x.2.2.2.2.1) (fun x=>rfl) (fun x hx=>⟨hx.2.2.1.2,hx.2.2.2.1.2,hx.2.1.1⟩) fun _=>k2o _
end Esp

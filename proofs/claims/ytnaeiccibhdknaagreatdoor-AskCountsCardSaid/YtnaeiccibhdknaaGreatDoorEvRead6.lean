import Derived.Test.YtnaeiccibhdknaaGreatDoorEvShort
set_option linter.unusedSimpArgs false
set_option linter.unusedVariables false
namespace Esp
open Go Go.ChangeShapes Go.RowKit
open Ev in
mutual
def e1p:Val->Nat
 |.mk _ _ s l=>(1+(1+(s.size+1+(d1b l+1+0))))+1
def d1b:List Val->Nat
 |[]=>0
 |x::r=>e1p x+d1b r
end
open Ev in
mutual
def vOk:Val->Prop
 |.mk k n s l=>wfI .i64 k/\wfI .i64 n/\s.size<=maxLen/\(l.length<=maxLen/\vOks l)
def vOks:List Val->Prop
 |[]=>True
 |x::r=>vOk x/\vOks r
end
theorem c0s(l:List Ev.Val):vOks l↔ ∀x∈l,vOk x:=by
 induction l with
 |nil=>simp[vOks]
 |cons x r ih=>simp[vOks,ih]
theorem p1n(l:List Ev.Val):d1b l=t0e e1p l:=by
 induction l with
 |nil=>simp[d1b,t0e]
 |cons x r ih=>simp[d1b,t0e,ih]
variable [Tabs]
section
variable{P:Program}{t:TypeId}
omit [Tabs]in
theorem Rd.nl (τ:Ev.Ty){J:τ.den->Prop}{bk:τ.den->Nat}{e fuel:Nat}(ht:P.underlying t=some (.slice e))(hz:P.cellsOf e=τ.sz)(hr:∀n,n<fuel->Rd P e (cells τ) J bk n):
  Rd P t (λl:List τ.den=>[.nl τ l]) (λl=>l.length<=maxLen/\∀x∈l,J x) (λl=>t0e bk l+1) fuel:=by
 have hp:0<τ.sz:=τ.sz_pos;intro H en w vs d ps h;obtain⟨l,h1,h2,h3⟩:=Rd.slice (enc:=cells τ) ht hz hp (λx=>a0u τ x) hr en w vs d ps h;refine⟨l,h1,⟨h2.1,λi hi=>?_⟩,h3⟩;obtain rfl:i=0:=by simp at hi;omega
 exact .nl _ _ _ (h2.2 0 (by simp))
omit [Tabs]in
theorem Rd.toI {k:IntKind}(fuel:Nat)(h:P.underlying t=some (.int k)):Rd P t (λn:Int=>[iC k n]) (wfI k) (λ_=>1) fuel:=Rd.int h fuel
omit [Tabs]in
theorem Rd.toS (fuel:Nat)(h:P.underlying t=some .string):Rd P t (λs:Bt=>[sC s]) (λs=>s.size<=maxLen) (λs=>s.size+1) fuel:=Rd.string h fuel
omit [Tabs]in
theorem Rd.toB (fuel:Nat)(h:P.underlying t=some .bool):Rd P t (λb:Bool=>[bC b]) (λ_=>True) (λ_=>1) fuel:=Rd.bool h fuel
end
omit [Tabs]in
theorem Rd.val {P:Program}{t ti ts tl:TypeId}{fs:Array Field}(ht:P.underlying t=some (.struct fs))(hf:fs.toList.map (λf=>(f.type,f.offset))=[(ti,0),(ti,1),(ts,2),(tl,3)])(hz:P.cellsOf t=4)
  (hi:P.underlying ti=some (.int .i64))(hs:P.underlying ts=some .string)(hl:P.underlying tl=some (.slice t))(z1:P.cellsOf ti=1)(z2:P.cellsOf ts=1)(z3:P.cellsOf tl=1):
  ∀fuel,Rd P t (cells .val) vOk e1p fuel:=by
 intro fuel
 induction fuel using Nat.strongRecOn with
 |_ fuel ih=>
  have step:∀m,m<fuel->RdS P [(ti,0),(ti,1),(ts,2),(tl,3)] 0 4 _ _ _ m:=λm hm=>
   RdS.cons z1 rfl rfl (Rd.toI m hi) (RdS.cons z1 rfl rfl (Rd.toI m hi) (RdS.cons z2 rfl rfl (Rd.toS m hs) (RdS.cons z3 rfl rfl
    (Rd.nl .val hl hz λn hn=>ih n (by omega)) RdS.nil)))
  intro H e w vs d ps hh;refine Rd.map (enc' :=cells .val) (J' :=vOk) (bk' :=e1p) (Rd.struct ht hf hz step) (λx=>Ev.Val.mk x.1 x.2.1 x.2.2.1 x.2.2.2.1) (λx=>rfl) (λx hx=>?_) (λx=>?_) e w vs d ps hh
  ·rw[vOk,c0s]
   exact⟨hx.1,hx.2.1,hx.2.2.1,hx.2.2.2.1⟩
  ·rw[e1p,p1n]
   exact r2q _
section
variable{P:Program}{t ti ts tv tls tlp tln tle:TypeId}{fs:Array Field}
def pOk(p:Ev.Prp):Prop:=p.name.size<=maxLen/\vOk p.val
def nOk(n:Ev.Node):Prop:=wfI .i64 n.id/\(n.labels.length<=maxLen/\∀x∈n.labels,x.size<=maxLen)/\n.props.length<=maxLen/\∀x∈n.props,pOk x
def eOk(x:Ev.Edg):Prop:=wfI .i64 x.id/\wfI .i64 x.src/\wfI .i64 x.dst/\x.type.size<=maxLen/\x.props.length<=maxLen/\∀y∈x.props,pOk y
def gOk(g:Ev.Graph):Prop:=(g.nodes.length<=maxLen/\∀x∈g.nodes,nOk x)/\(g.edges.length<=maxLen/\∀x∈g.edges,eOk x)/\wfI .i64 g.next
def cOk(c:Ev.Cnt):Prop:=(c.r.length<=maxLen/\∀x∈c.r,vOk x)/\wfI .i64 c.n
omit [Tabs]in
theorem Rd.prp (ht:P.underlying t=some (.struct fs))(hf:fs.toList.map (λf=>(f.type,f.offset))=[(ts,0),(tv,1)])(hz:P.cellsOf t=5)(hs:P.underlying ts=some .string)(z1:P.cellsOf ts=1)(z2:P.cellsOf tv=4)
  (hv:∀fuel,Rd P tv (cells .val) vOk e1p fuel)(fuel:Nat):Rd P t (cells .prp) pOk (λ_=>0) fuel:=
 Rd.map (enc' :=cells .prp) (J' :=pOk) (bk' :=λ_=>0) (Rd.struct ht hf hz λm hm=>RdS.cons z1 rfl rfl (Rd.toS m hs) (RdS.cons z2 rfl rfl (hv m) RdS.nil))
  (λx=>Ev.Prp.mk x.1 x.2.1) (λx=>by simp only[s2a];rfl) (λx hx=>⟨hx.1,hx.2.1⟩) λ_=>s2i _
omit [Tabs]in
theorem Rd.node (ht:P.underlying t=some (.struct fs))(hf:fs.toList.map (λf=>(f.type,f.offset))=[(ti,0),(tls,1),(tlp,2)])(hz:P.cellsOf t=3)(hi:P.underlying ti=some (.int .i64))(z1:P.cellsOf ti=1)(z2:P.cellsOf tls=1)(z3:P.cellsOf tlp=1)
  (oS:P.underlying tls=some (.slice ts))(hs:P.underlying ts=some .string)(zs:P.cellsOf ts=1)(hlp:P.underlying tlp=some (.slice tv))(zp:P.cellsOf tv=5)(hp:∀fuel,Rd P tv (cells .prp) pOk (λ_=>0) fuel)(fuel:Nat):Rd P t (cells .node) nOk (λ_=>0) fuel:=
 Rd.map (enc' :=cells .node) (J' :=nOk) (bk' :=λ_=>0) (Rd.struct ht hf hz λm hm=>RdS.cons z1 rfl rfl (Rd.toI m hi) (RdS.cons z2 rfl rfl (Rd.nl .str oS zs λn _=>Rd.toS n hs) (RdS.cons z3 rfl rfl (Rd.nl .prp hlp zp λn _=>hp n) RdS.nil)))
  (λx=>Ev.Node.mk x.1 x.2.1 x.2.2.1) (λx=>rfl) (λx hx=>⟨hx.1,hx.2.1,hx.2.2.1⟩) λ_=>s2i _
omit [Tabs]in
theorem Rd.edg (ht:P.underlying t=some (.struct fs))(hf:fs.toList.map (λf=>(f.type,f.offset))=[(ti,0),(ti,1),(ti,2),(ts,3),(tlp,4)])(hz:P.cellsOf t=5)(hi:P.underlying ti=some (.int .i64))(z1:P.cellsOf ti=1)(hs:P.underlying ts=some .string)(z2:P.cellsOf ts=1)(z3:P.cellsOf tlp=1)
  (hlp:P.underlying tlp=some (.slice tv))(zp:P.cellsOf tv=5)(hp:∀fuel,Rd P tv (cells .prp) pOk (λ_=>0) fuel)(fuel:Nat):Rd P t (cells .edg) eOk (λ_=>0) fuel:=
 Rd.map (enc' :=cells .edg) (J' :=eOk) (bk' :=λ_=>0) (Rd.struct ht hf hz λm hm=>RdS.cons z1 rfl rfl (Rd.toI m hi) (RdS.cons z1 rfl rfl (Rd.toI m hi) (RdS.cons z1 rfl rfl (Rd.toI m hi) (RdS.cons z2 rfl rfl (Rd.toS m hs) (RdS.cons z3 rfl rfl (Rd.nl .prp hlp zp λn _=>hp n) RdS.nil)))))
  (λx=>Ev.Edg.mk x.1 x.2.1 x.2.2.1 x.2.2.2.1 x.2.2.2.2.1) (λx=>rfl) (λx hx=>⟨hx.1,hx.2.1,hx.2.2.1,hx.2.2.2.1,hx.2.2.2.2.1⟩) λ_=>s2i _
omit [Tabs]in
theorem Rd.graph {tn te:TypeId}(ht:P.underlying t=some (.struct fs))(hf:fs.toList.map (λf=>(f.type,f.offset))=[(tln,0),(tle,1),(ti,2)])(hz:P.cellsOf t=3)(hi:P.underlying ti=some (.int .i64))(z1:P.cellsOf ti=1)(z2:P.cellsOf tln=1)(z3:P.cellsOf tle=1)
  (nK:P.underlying tln=some (.slice tn))(zn:P.cellsOf tn=3)(hn:∀fuel,Rd P tn (cells .node) nOk (λ_=>0) fuel)(hle:P.underlying tle=some (.slice te))(ze:P.cellsOf te=5)(he:∀fuel,Rd P te (cells .edg) eOk (λ_=>0) fuel)(fuel:Nat):Rd P t (cells .graph) gOk (λ_=>0) fuel:=
 Rd.map (enc' :=cells .graph) (J' :=gOk) (bk' :=λ_=>0) (Rd.struct ht hf hz λm hm=>RdS.cons z2 rfl rfl (Rd.nl .node nK zn λn _=>hn n) (RdS.cons z3 rfl rfl (Rd.nl .edg hle ze λn _=>he n) (RdS.cons z1 rfl rfl (Rd.toI m hi) RdS.nil)))
  (λx=>Ev.Graph.mk x.1 x.2.1 x.2.2.1) (λx=>rfl) (λx hx=>⟨hx.1,hx.2.1,hx.2.2.1⟩) λ_=>s2i _
end
theorem Contract.law {P:Program}{f:FuncId}{n:Nat}{vs:List (Nat×Ev.Ty)}{nf:(FnT.mk n ⟨[],vs,[],[]⟩ [.v .bool] []).ins.den->Option (FnT.mk n ⟨[],vs,[],[]⟩ [.v .bool] []).den}(hc:Contract P f ⟨n,⟨[],vs,[],[]⟩,[.v .bool],[]⟩ nf){x:Tm.den ⟨[],vs,[],[]⟩}{b:Bool}(hn:nf x=some (b,()))
  {args:List AV}(ha:FnT.args ⟨n,⟨[],vs,[],[]⟩,[.v .bool],[]⟩ x=args){vals:Array Value}{W:World}(ht:∀b o,Tabs.get b=some o->W.heap[b]?=some o)(hra:RelArgs W (λb=>b<W.heap.size) (λ_=>none) args vals):
  Calls P f vals W λe W' =>e=.returned (.bool b)/\Go.RowKit.Below W.heap.size W W' :=by
 subst ha;have h:=hc x (b,()) hn;have h2:PCalls P f (FnT.args ⟨n,⟨[],vs,[],[]⟩,[.v .bool],[]⟩ x) (.cell (.d (.sc (.bool b)))):=h.mono λr o hr=>hr.1;exact PCalls.law h2 ht hra
end Esp
namespace Esp
open Go Go.ChangeShapes Go.RowKit
variable [Tabs]
section
variable{P:Program}{t ti tb tq:TypeId}{fs:Array Field}
end
end Esp
namespace Esp
open Go Go.ChangeShapes Go.RowKit
open Ev in
mutual
def tOk:Term->Prop
 |.mk k v s l=>wfI .i64 k/\vOk v/\s.size<=maxLen/\(l.length<=maxLen/\tOks l)
def tOks:List Term->Prop
 |[]=>True
 |x::r=>tOk x/\tOks r
end
theorem i1j(l:List Ev.Term):tOks l↔ ∀x∈l,tOk x:=by
 induction l with
 |nil=>simp[tOks]
 |cons x r ih=>simp[tOks,ih]
theorem Rd.term {P:Program}{t ti tv ts tl:TypeId}{fs:Array Field}(ht:P.underlying t=some (.struct fs))(hf:fs.toList.map (λf=>(f.type,f.offset))=[(ti,0),(tv,1),(ts,5),(tl,6)])(hz:P.cellsOf t=7)
  (hi:P.underlying ti=some (.int .i64))(hs:P.underlying ts=some .string)(hl:P.underlying tl=some (.slice t))(z1:P.cellsOf ti=1)(z2:P.cellsOf ts=1)(z3:P.cellsOf tl=1)(z4:P.cellsOf tv=4)
  (hv:∀fuel,Rd P tv (cells .val) vOk e1p fuel):∀fuel,Rd P t (cells .term) tOk (λ_=>0) fuel:=by
 intro fuel
 induction fuel using Nat.strongRecOn with
 |_ fuel ih=>
  have step:∀m,m<fuel->RdS P [(ti,0),(tv,1),(ts,5),(tl,6)] 0 7 _ _ _ m:=λm hm=>
   RdS.cons z1 rfl rfl (Rd.toI m hi) (RdS.cons z4 rfl rfl (hv m) (RdS.cons z2 rfl rfl (Rd.toS m hs) (RdS.cons z3 rfl rfl
    (Rd.nl .term hl hz λn hn=>ih n (by omega)) RdS.nil)))
  intro H e w vs d ps hh;refine Rd.map (enc' :=cells .term) (J' :=tOk) (bk' :=λ_=>0) (Rd.struct ht hf hz step) (λx=>Ev.Term.mk x.1 x.2.1 x.2.2.1 x.2.2.2.1) (λx=>by simp only[s2a];rfl) (λx hx=>?_) (λx=>s2i _) e w vs d ps hh;rw[tOk,i1j];exact⟨hx.1,hx.2.1,hx.2.2.1,hx.2.2.2.1⟩
end Esp
namespace Esp
open Go Go.ChangeShapes Go.RowKit
def quOk(q:Ev.Query):Prop:=(∀t∈q.wher,tOk t)/\(∀i∈q.items,tOk i.t)/\q.arrows.length<=maxLen
theorem Rd.dot {P:Program}{t ts:TypeId}{fs:Array Field}(ht:P.underlying t=some (.struct fs))(hf:fs.toList.map (λf=>(f.type,f.offset))=[(ts,0),(ts,1)])(hz:P.cellsOf t=2)(hs:P.underlying ts=some .string)(z1:P.cellsOf ts=1)(fuel:Nat):
  Rd P t (cells .dot) (λ_=>True) (λ_=>0) fuel:=
 Rd.map (enc' :=cells .dot) (J' :=λ_=>True) (bk' :=λ_=>0) (Rd.struct ht hf hz λm hm=>RdS.cons z1 rfl rfl (Rd.toS m hs) (RdS.cons z1 rfl rfl (Rd.toS m hs) RdS.nil))
  (λx=>Ev.Dot.mk x.1 x.2.1) (λx=>rfl) (λx hx=>trivial) λ_=>s2i _
theorem Rd.arrow {P:Program}{t ts tb:TypeId}{fs:Array Field}(ht:P.underlying t=some (.struct fs))(hf:fs.toList.map (λf=>(f.type,f.offset))=[(ts,0),(ts,1),(tb,2),(tb,3)])(hz:P.cellsOf t=4)(hs:P.underlying ts=some .string)(z1:P.cellsOf ts=1)
  (hb:P.underlying tb=some .bool)(z2:P.cellsOf tb=1)(fuel:Nat):Rd P t (cells .arrow) (λ_=>True) (λ_=>0) fuel:=
 Rd.map (enc' :=cells .arrow) (J' :=λ_=>True) (bk' :=λ_=>0) (Rd.struct ht hf hz λm hm=>RdS.cons z1 rfl rfl (Rd.toS m hs) (RdS.cons z1 rfl rfl (Rd.toS m hs) (RdS.cons z2 rfl rfl (Rd.toB m hb) (RdS.cons z2 rfl rfl (Rd.toB m hb) RdS.nil))))
  (λx=>Ev.Arrow.mk x.1 x.2.1 x.2.2.1 x.2.2.2.1) (λx=>rfl) (λx hx=>trivial) λ_=>s2i _
theorem Rd.item {P:Program}{t ts tt:TypeId}{fs:Array Field}(ht:P.underlying t=some (.struct fs))(hf:fs.toList.map (λf=>(f.type,f.offset))=[(ts,0),(ts,1),(tt,2)])(hz:P.cellsOf t=9)(hs:P.underlying ts=some .string)(z1:P.cellsOf ts=1)(z2:P.cellsOf tt=7)
  (hr:∀fuel,Rd P tt (cells .term) tOk (λ_=>0) fuel)(fuel:Nat):Rd P t (cells .item) (λi=>tOk i.t) (λ_=>0) fuel:=
 Rd.map (enc' :=cells .item) (J' :=λi=>tOk i.t) (bk' :=λ_=>0) (Rd.struct ht hf hz λm hm=>RdS.cons z1 rfl rfl (Rd.toS m hs) (RdS.cons z1 rfl rfl (Rd.toS m hs) (RdS.cons z2 rfl rfl (hr m) RdS.nil)))
  (λx=>Ev.Item.mk x.1 x.2.1 x.2.2.1) (λx=>by simp only[s2a];rfl) (λx hx=>hx.2.2.1) λ_=>s2i _
theorem Rd.query {P:Program}{t tld tla tlw tli tb td ta tw ti:TypeId}{fs:Array Field}(ht:P.underlying t=some (.struct fs))(hf:fs.toList.map (λf=>(f.type,f.offset))=[(tld,0),(tla,1),(tlw,2),(tli,3),(tb,4)])(hz:P.cellsOf t=5)
  (z1:P.cellsOf tld=1)(z2:P.cellsOf tla=1)(z3:P.cellsOf tlw=1)(z4:P.cellsOf tli=1)(z5:P.cellsOf tb=1)(hb:P.underlying tb=some .bool)
  (pP:P.underlying tld=some (.slice td))(zd:P.cellsOf td=2)(hd:∀fuel,Rd P td (cells .dot) (λ_=>True) (λ_=>0) fuel)
  (p5:P.underlying tla=some (.slice ta))(za:P.cellsOf ta=4)(ha:∀fuel,Rd P ta (cells .arrow) (λ_=>True) (λ_=>0) fuel)
  (qj:P.underlying tlw=some (.slice tw))(zw:P.cellsOf tw=7)(hw:∀fuel,Rd P tw (cells .term) tOk (λ_=>0) fuel)
  (b9:P.underlying tli=some (.slice ti))(zi:P.cellsOf ti=9)(hi:∀fuel,Rd P ti (cells .item) (λi=>tOk i.t) (λ_=>0) fuel)(fuel:Nat):Rd P t (cells .query) quOk (λ_=>0) fuel:=
 Rd.map (enc' :=cells .query) (J' :=quOk) (bk' :=λ_=>0) (Rd.struct ht hf hz λm hm=>RdS.cons z1 rfl rfl (Rd.nl .dot pP zd λn _=>hd n) (RdS.cons z2 rfl rfl (Rd.nl .arrow p5 za λn _=>ha n) (RdS.cons z3 rfl rfl (Rd.nl .term qj zw λn _=>hw n) (RdS.cons z4 rfl rfl (Rd.nl .item b9 zi λn _=>hi n) (RdS.cons z5 rfl rfl (Rd.toB m hb) RdS.nil)))))
  (λx=>Ev.Query.mk x.1 x.2.1 x.2.2.1 x.2.2.2.1 x.2.2.2.2.1) (λx=>rfl) (λx hx=>⟨hx.2.2.1.2,hx.2.2.2.1.2,hx.2.1.1⟩) λ_=>s2i _
end Esp

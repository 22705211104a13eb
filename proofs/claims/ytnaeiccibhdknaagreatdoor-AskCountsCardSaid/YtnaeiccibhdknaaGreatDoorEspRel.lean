import Derived.Test.YtnaeiccibhdknaaGreatDoorEvTy
import Derived.Laws.AppendOwn
import Derived.Laws.Cells
import Derived.Calls
import Derived.Recover
set_option linter.unusedSimpArgs false
set_option linter.unusedVariables false
namespace Esp
open Go
inductive D where
 |sc(v:Value)
 |sl(e n:Nat)(cs:List D)
 |rp(cs:List D)
 |nl(t:Ev.Ty)(xs:List t.den)
 |nm(kt vt:Ev.Ty)(l:List (kt.den×vt.den))
 deriving Inhabited
def iC(k:IntKind)(n:Int):D:=.sc (.int k n)
def sC(s:Bt):D:=.sc (.string s)
def bC(b:Bool):D:=.sc (.bool b)
open Ev in
def cVal(v:Val):List D:=[iC .i64 v.kind,iC .i64 v.n,sC v.s,.nl .val v.l]
open Ev in
def a2r(t:Term):List D:=iC .i64 t.kind::(cVal t.v++ [sC t.name,.nl .term t.a])
open Ev in
def u0x(g:Graph):List D:=[.nl .node g.nodes,.nl .edg g.edges,iC .i64 g.next]
open Ev in
def v1h(q:Query):List D:=[.nl .dot q.dots,.nl .arrow q.arrows,.nl .term q.wher,.nl .item q.items,bC q.dist]
open Ev in
def t1j(s:Store):List D:=u0x s.g++ [iC .i64 s.at_,sC s.log.safe,sC s.log.wait,sC s.base,.nl .str s.text]
open Ev in
def c0k:(t:Ty)->t.den->List D
 |.i64,n=>[iC .i64 n]|.u8,n=>[iC .u8 n]|.u32,n=>[iC .u32 n]|.u64,n=>[iC .u64 n]|.i32,n=>[iC .i32 n]
 |.bool,b=>[bC b]|.str,s=>[sC s]
 |.lst t,l=>[.nl t l]
 |.val,v=>cVal v
 |.prp,p=>sC p.name::cVal p.val
 |.node,n=>[iC .i64 n.id,.nl .str n.labels,.nl .prp n.props]
 |.edg,x=>[iC .i64 x.id,iC .i64 x.src,iC .i64 x.dst,sC x.type,.nl .prp x.props]
 |.graph,g=>u0x g
 |.opn,o=>[iC .i64 o.kind,iC .i64 o.id,iC .i64 o.src,iC .i64 o.dst,sC o.name]++(cVal o.val++ [.nl .str o.labels,.nl .prp o.props])
 |.delta,d=>[.nl .node d.gone,.nl .node d.fresh,.nl .edg d.goneE,.nl .edg d.freshE,iC .i64 d.src,iC .i64 d.dst]
 |.term,t=>a2r t
 |.dot,d=>[sC d.name,sC d.label]
 |.arrow,a=>[sC a.name,sC a.type,bC a.back,bC a.many]
 |.item,i=>sC i.name::sC i.agg::a2r i.t
 |.query,q=>v1h q
 |.cnt,c=>[.nl .val c.r,iC .i64 c.n]
 |.hold,h=>v1h h.q++ [.nl (.lst .i64) h.found]
 |.plan,p=>iC .i64 p.kind::iC .i64 p.n::(a2r p.wher++ [.nl .plan p.src])
 |.entry,e=>sC e.label::sC e.prop::(cVal e.v++ [.nl .i64 e.ids])
 |.disk,d=>[sC d.safe,sC d.wait]
 |.store,s=>t1j s
 |.guest,g=>[iC .i64 g.view,.nl (.lst .cnt) g.queue,bC g.fresh,iC .i64 g.at_]
 |.desk,d=>t1j d.s++ [.nl .hold d.views,.nl .guest d.guests]
 |.answer,a=>[iC .i64 a.e,iC .i64 a.at_,.nl .i64 a.ids,.nl .cnt a.rows,bC a.fresh]
 |.grant,g=>[sC g.who,.nl .str g.labels]
 |.request,r=>[iC .i64 r.kind,.nl .opn r.ops,sC r.text,iC .i64 r.n]
 |.pair,p=>[iC .i64 p.p,iC .i64 p.q]
 |.ptr _,_=>[bC false]
 |.two _,_=>[bC false]
 |.map k v,l=>[.nm k v l]
 |.envr,e=>u0x e.g++ [.nm .str .i64 e.at_]
open Ev in
def cells:(t:Ty)->t.den->List D
 |.ptr t,x=>[.rp (c0k t x)]
 |.two t,x=>c0k t x.1++c0k t x.2
 |t,x=>c0k t x
theorem y0c(t:Ev.Ty)(x:t.den):(c0k t x).length=t.sz0:=by
 cases t<;>rfl
theorem a0u(t:Ev.Ty)(x:t.den):(cells t x).length=t.sz:=by
 cases t<;>first|rfl|(simp only[cells,r2t,y0c];rfl)
def flat(t:Ev.Ty)(xs:List t.den):List D:=xs.flatMap (cells t)
theorem b0j(t:Ev.Ty):∀xs:List t.den,(flat t xs).length=xs.length*t.sz
 |[]=>by simp[flat]
 |x::r=>by
  have:=b0j t r;simp only[flat,s2o,r2t,a0u,r2w]at this⊢;rw[this,t2w];omega
theorem b0o(t:Ev.Ty)(xs ys:List t.den):flat t (xs++ys)=flat t xs++flat t ys:=by simp[flat]
theorem g0z(t:Ev.Ty):∀(xs:List t.den) (i:Nat),(flat t xs).drop (i*t.sz)=flat t (xs.drop i)
 |xs,0=>by simp
 |[],i+1=>by simp[flat]
 |x::r,i+1=>by
  have:=g0z t r i;simp only[flat,s2o,List.drop_succ_cons]at this⊢;rw [<-this,show(i+1)*t.sz=(cells t x).length+i*t.sz by rw[a0u,t2w];omega, <-List.drop_drop,List.drop_left]
theorem j0r(t:Ev.Ty):∀(xs:List t.den) (i:Nat),(flat t xs).take (i*t.sz)=flat t (xs.take i)
 |xs,0=>by simp[flat]
 |[],i+1=>by simp[flat]
 |x::r,i+1=>by
  have:=j0r t r i;simp only[flat,s2o,List.take_succ_cons]at this⊢;rw [<-this,show(i+1)*t.sz=(cells t x).length+i*t.sz by rw[a0u,t2w];omega,List.take_append];simp[List.take_of_length_le]
theorem x1c(t:Ev.Ty){xs:List t.den}{i:Nat}{x:t.den}(h:xs[i]?=some x):((flat t xs).drop (i*t.sz)).take t.sz=cells t x:=by
 rw[g0z];obtain⟨hi,rfl⟩:=r2p.1 h;rw[t2v hi];simp only[flat,s2o];rw [<-a0u t xs[i],List.take_left]
def keyV:(τ:Ev.Ty)->τ.den->Value
 |.i64,n=>.int .i64 n|.u8,n=>.int .u8 n|.u32,n=>.int .u32 n|.u64,n=>.int .u64 n|.i32,n=>.int .i32 n
 |.bool,b=>.bool b|.str,s=>.string s
 |.pair,p=>.agg #[.int .i64 p.p,.int .i64 p.q]
 |_,_=>.bool false
def b0l:(τ:Ev.Ty)->τ.den->τ.den->Bool
 |.i64,a,b=>a==b|.u8,a,b=>a==b|.u32,a,b=>a==b|.u64,a,b=>a==b|.i32,a,b=>a==b
 |.bool,a,b=>a==b|.str,a,b=>a==b
 |.pair,a,b=>a.p==b.p&&a.q==b.q
 |_,_,_=>false
def a0k(kt vt:Ev.Ty)(z:vt.den):List (kt.den×vt.den)->kt.den->vt.den
 |[],_=>z
 |p::r,k=>bif b0l kt k p.1 then p.2 else a0k kt vt z r k
def f0a(kt vt:Ev.Ty):List (kt.den×vt.den)->kt.den->Bool
 |[],_=>false
 |p::r,k=>bif b0l kt k p.1 then true else f0a kt vt r k
def b0d(kt vt:Ev.Ty):List (kt.den×vt.den)->kt.den->vt.den->List (kt.den×vt.den)
 |[],k,v=>[(k,v)]
 |p::r,k,v=>bif b0l kt k p.1 then(k,v)::r else p::b0d kt vt r k v
def a0q(kt vt:Ev.Ty):List (kt.den×vt.den)->kt.den->Nat
 |[],_=>0
 |p::r,k=>bif b0l kt k p.1 then 0 else a0q kt vt r k+1
inductive AC where
 |d(x:D)
 |own(k:Nat)
 |ptr(k off:Nat)
 |elt(k e j off:Nat)
 |osl(k e lo n:Nat)
 |pn(k:Nat)
 |ifo(t k:Nat)
 |mpr(k:Nat)
 |row(k i:Nat)
 |fn(f:Fn)(fs cs:List AC)
 |junk
 deriving Inhabited
inductive AV where
 |cell(c:AC)
 |agg(cs:List AC)
 |aggD(cs:List D)
 |tup(vs:List AV)
 |whn(g:Nat)(want:Bool)(x:AV)
 |junk
 deriving Inhabited
inductive AObj where
 |gone
 |box(cs:List AC)(ty:Option TypeId:=none)
 |arr(t:TypeId)(e n:Nat)(cs:List D)
 |na(t:TypeId)(e:Ev.Ty)(xs:List e.den)
 |tab(b:Nat)(o:Obj)
 |it(s:Bt)(pos:Nat)
 |mi(kt vt:Ev.Ty)(l:List (kt.den×vt.den))(cur:Option (kt.den×vt.den))
 |mp(t:TypeId)(kt vt:Ev.Ty)(l:List (kt.den×vt.den))(dn:Bool)
 |mr(tm te:TypeId)(kt e:Ev.Ty)(l:List (kt.den×(Ev.Ty.lst e).den))(pend:Option (Nat×(Ev.Ty.lst e).den))
 |any
 |fz(t:TypeId)(xs:List Int)
 deriving Inhabited
inductive Loc where
 |box(b:Nat)
 |arr(u:Value)
 |many(b:Nat)(us:List Value)
def Loc.top:Loc->Option Nat
 |.box b=>some b
 |.arr _=>none
 |.many b _=>some b
def Loc.has:Loc->Nat->Prop
 |.box b0,b=>some b0=some b
 |.arr u,b=>u.ownBlock=some b
 |.many b0 us,b=>some b0=some b\/∃u,u∈us/\u.ownBlock=some b
abbrev Env:=Nat->Option Loc
def live(ρ:Env)(b:Nat):Prop:=∃k l,ρ k=some l/\l.has b
def r0f(n:Nat)(a:Array Value):Value:=if n=1 then a.getD 0 undef else .agg a
def StOk(es:Array MapEntry)(clock:Nat):Prop:=(∀i (h:i<es.size),es[i].born<clock)/\ ∀i j (hi:i<es.size) (hj:j<es.size),es[i].born=es[j].born->i=j
inductive RelD(w:World)(F:Nat->Prop):D->Value->Prop
 |sc (v:Value) (h:v.oneCell' =true):RelD w F (.sc v) v
 |nil (e:Nat) (a:Option Addr) (cap:Nat):RelD w F (.sl e 0 []) (.slice a 0 cap)
 |sl (e n:Nat) (cs:List D) (b off cap:Nat) (c:Nat->Value) (hF:F b) (hl:cs.length=n*e) (aU:n<=cap)
   (hc:∀i,i<cs.length->w.cell? ⟨b,off+i,none⟩=some (c i)) (hr:∀i (h:i<cs.length),RelD w F cs[i] (c i)):
   RelD w F (.sl e n cs) (.slice (some ⟨b,off,none⟩) n cap)
 |rp (cs:List D) (b off:Nat) (c:Nat->Value) (hF:cs≠ []->F b)
   (hc:∀i,i<cs.length->w.cell? ⟨b,off+i,none⟩=some (c i)) (hr:∀i (h:i<cs.length),RelD w F cs[i] (c i)):
   RelD w F (.rp cs) (.pointer (some ⟨b,off,none⟩))
 |nl (t:Ev.Ty) (xs:List t.den) (v:Value) (h:RelD w F (.sl t.sz xs.length (flat t xs)) v):RelD w F (.nl t xs) v
 |nm0 (kt vt:Ev.Ty):RelD w F (.nm kt vt []) (.map none)
 |nm (kt vt:Ev.Ty) (l:List (kt.den×vt.den)) (b:Nat) (es:Array MapEntry) (clock:Nat) (ka va:Nat->Array Value) (hF:F b) (hb:w.heap[b]?=some (.map es clock)) (hs:es.size=l.length)
   (hz:∀i (h:i<l.length),(ka i).size=(cells kt l[i].1).length/\(va i).size=(cells vt l[i].2).length)
   (he:∀i (h:i<es.size),es[i].key=r0f kt.sz (ka i)/\es[i].val=r0f vt.sz (va i))
   (h1:∀i (h:i<l.length) j (h' :j<(cells kt l[i].1).length),RelD w F (cells kt l[i].1)[j] ((ka i).getD j undef))
   (h2:∀i (h:i<l.length) j (h' :j<(cells vt l[i].2).length),RelD w F (cells vt l[i].2)[j] ((va i).getD j undef)) (hst:StOk es clock):RelD w F (.nm kt vt l) (.map (some b))
inductive RelAC(w:World)(F:Nat->Prop)(ρ:Env):AC->Value->Prop
 |d (x:D) (v:Value) (h:RelD w F x v):RelAC w F ρ (.d x) v
 |own (k:Nat) (v:Value) (h:∀u,ρ k=some (.arr u)->v=u):RelAC w F ρ (.own k) v
 |ptr (k off:Nat) (v:Value) (h:∀b,ρ k=some (.box b)->v=.pointer (some ⟨b,off,none⟩)):RelAC w F ρ (.ptr k off) v
 |elt (k e j off:Nat) (v:Value) (h:∀u,ρ k=some (.arr u)-> ∃g n cap,u=.slice (some ⟨g,0,none⟩) n cap/\v=.pointer (some ⟨g,j*e+off,none⟩)):RelAC w F ρ (.elt k e j off) v
 |osl (k e lo n:Nat) (v:Value) (h:∀u,ρ k=some (.arr u)-> ∃a c,v=.slice a n c/\(n≠0->∃g n0 cap,u=.slice (some ⟨g,0,none⟩) n0 cap/\a=some ⟨g,lo*e,none⟩)):RelAC w F ρ (.osl k e lo n) v
 |pn (k:Nat) (v:Value) (h:∀b,ρ k=some (.box b)->v=.pointer none\/v=.pointer (some ⟨b,0,none⟩)):RelAC w F ρ (.pn k) v
 |ifo (t k:Nat) (v:Value) (h:∀u,ρ k=some (.arr u)->v=.iface t u):RelAC w F ρ (.ifo t k) v
 |mpr (k:Nat) (v:Value) (h:∀l b,ρ k=some l->l.top=some b->v=.map (some b)):RelAC w F ρ (.mpr k) v
 |row (k i:Nat) (v:Value) (h:∀b us,ρ k=some (.many b us)->v=us.getD i (.slice none 0 0)):RelAC w F ρ (.row k i) v
 |fn (f:Fn) (fs cs:List AC) (vs us:Array Value) (h1:vs.size=fs.length) (h2:us.size=cs.length)
   (hf:∀i (h:i<fs.length),RelAC w F ρ fs[i] (vs.getD i undef)) (hc:∀i (h:i<cs.length),RelAC w F ρ cs[i] (us.getD i undef)):
   RelAC w F ρ (.fn f fs cs) (.func f vs us)
 |junk (v:Value):RelAC w F ρ .junk v
inductive RelAV(w:World)(F:Nat->Prop)(ρ:Env)(tm:Array Value):AV->Value->Prop
 |cell (c:AC) (v:Value) (h:RelAC w F ρ c v):RelAV w F ρ tm (.cell c) v
 |agg (cs:List AC) (arr:Array Value) (hs:arr.size=cs.length) (h:∀i (h:i<cs.length),RelAC w F ρ cs[i] (arr.getD i undef)):RelAV w F ρ tm (.agg cs) (.agg arr)
 |aggD (cs:List D) (arr:Array Value) (hs:arr.size=cs.length) (h:∀i (h:i<cs.length),RelD w F cs[i] (arr.getD i undef)):RelAV w F ρ tm (.aggD cs) (.agg arr)
 |tup (vs:List AV) (arr:Array Value) (hs:arr.size=vs.length) (h:∀i (h:i<vs.length),RelAV w F ρ tm vs[i] (arr.getD i undef)):RelAV w F ρ tm (.tup vs) (.tuple arr)
 |whn (g:Nat) (want:Bool) (x:AV) (v:Value) (h:tm.getD g undef=.bool want->RelAV w F ρ tm x v) (h' :tm.getD g undef≠ .bool want->v=undef):RelAV w F ρ tm (.whn g want x) v
 |junk (v:Value):RelAV w F ρ tm .junk v
def RelE(w:World)(F:Nat->Prop)(τ:Ev.Ty)(x:τ.den)(v:Value):Prop:=
 if τ.sz=1 then ∃c,cells τ x=[c]/\RelD w F c v else ∃arr,v=.agg arr/\arr.size=(cells τ x).length/\∀i (h:i<(cells τ x).length),RelD w F (cells τ x)[i] (arr.getD i undef)
def EntRel(w:World)(F:Nat->Prop)(kt vt:Ev.Ty)(e:kt.den×vt.den)(x:MapEntry):Prop:=
 RelE w F kt e.1 x.key/\RelE w F vt e.2 x.val
def MapIt(w:World)(F:Nat->Prop)(kt vt:Ev.Ty)(l:List (kt.den×vt.den))(cur:Option (kt.den×vt.den))(mo:Option Nat)(since:Nat)(seen:Array Nat)(last:Nat):Prop:=
 (mo=none/\l=[]/\cur=none)\/ ∃(m:Nat) (es:Array MapEntry) (js:List Nat),mo=some m/\F m/\w.heap[m]?=some (.map es since)/\last=since/\StOk es since/\js.Nodup/\
  (∃hl:js.length=l.length,∀t (h:t<l.length),∃hi:js[t]'(hl▸h)<es.size,EntRel w F kt vt l[t] (es[js[t]'(hl▸h)]'hi))/\(∀i (h:i<es.size),seen.contains es[i].born=false↔i∈js)/\
  ∀e,cur=some e->∃i,∃h:i<es.size,seen.back? =some es[i].born/\EntRel w F kt vt e es[i]
def FzRow(w:World)(t:TypeId)(u:Value)(xs:List Int):Prop:=
 ∃a cap,u=.slice a xs.length cap/\xs.length<=9223372036854775807/\(a=none->xs=[]/\cap=0)/\ ∀ad,a=some ad->∃cur:Array Value,ad=⟨ad.block,0,none⟩/\w.heap[ad.block]?=some (.cells cur t (0,xs.length))/\xs.length<=cap/\xs.length<=cur.size/\
  ∀(j:Nat) (x:Int),xs[j]?=some x->cur[j]?=some (Value.int .u8 x)
theorem FzRow.mono {w w' :World}{t:TypeId}{u:Value}{xs:List Int}(hw:∀b,u.ownBlock=some b->w'.heap[b]?=w.heap[b]?)(h:FzRow w t u xs):FzRow w' t u xs:=by
 obtain⟨a,cap,rfl,h1,h2,h3⟩:=h;refine⟨a,cap,rfl,h1,h2,λad dJ=>?_⟩;obtain⟨cur,e1,e2,e3⟩:=h3 ad dJ;subst dJ;exact⟨cur,e1,(hw ad.block rfl).trans e2,e3⟩
def RowOwn(w:World)(F:Nat->Prop)(te:TypeId)(e:Ev.Ty)(ys:List e.den)(v:Value):Prop:=
 (ys=[]->v=.slice none 0 0)/\ ∃xs:List Value,w.ownsRow 0 te e.sz v ys.length xs/\xs.length=(flat e ys).length/\∀i (h:i<(flat e ys).length),RelD w F (flat e ys)[i] (xs.getD i undef)
structure MrRel(w:World)(F:Nat->Prop)(te:TypeId)(kt e:Ev.Ty)(l:List (kt.den×(Ev.Ty.lst e).den))(pend:Option (Nat×(Ev.Ty.lst e).den))(es:Array MapEntry)(clock:Nat)(pv:Value)(us:List Value):Prop where
 hs:es.size=l.length
 hu:(pend=none/\us.length=l.length)\/ ∃i ys,pend=some (i,ys)/\((i<l.length/\us.length=l.length)\/(i=l.length/\us.length=l.length+1))
 key:∀i (h:i<l.length) (h' :i<es.size),RelE w F kt l[i].1 es[i].key
 ent:∀i (h:i<l.length) (h' :i<es.size) (h2:i<us.length),(∀p,pend=some p->p.1≠i)->es[i].val=us[i]/\RowOwn w F te e l[i].2 us[i]
 dis:∀i j (hi:i<us.length) (hj:j<us.length) (g:Nat),us[i].ownBlock=some g->us[j].ownBlock=some g->i=j
 st:StOk es clock
 no:pend=none->pv=.slice none 0 0\/pv∈us
 pnd:∀i ys,pend=some (i,ys)->us[i]?=some pv/\RowOwn w F te e ys pv
inductive RelOb(w:World)(F:Nat->Prop)(ρ:Env)(k:Nat):AObj->Prop
 |gone (h:ρ k=none):RelOb w F ρ k .gone
 |box (cs:List AC) (ty:Option TypeId) (b:Nat) (c:Array Value) (t:TypeId) (kz:∀t',ty=some t' ->t=t') (hk:ρ k=some (.box b)) (hb:w.heap[b]?=some (.cells c t (0,0)))
   (hs:c.size=cs.length) (h:∀i (h:i<cs.length),RelAC w F ρ cs[i] (c.getD i undef)):RelOb w F ρ k (.box cs ty)
 |arr (t:TypeId) (e n:Nat) (cs:List D) (u:Value) (xs:List Value) (hk:ρ k=some (.arr u)) (ho:w.ownsRow 0 t e u n xs)
   (hs:xs.length=cs.length) (h:∀i (h:i<cs.length),RelD w F cs[i] (xs.getD i undef)):RelOb w F ρ k (.arr t e n cs)
 |na (t:TypeId) (e:Ev.Ty) (xs:List e.den) (h:RelOb w F ρ k (.arr t e.sz xs.length (flat e xs))):RelOb w F ρ k (.na t e xs)
 |tab (b:Nat) (o:Obj) (hk:ρ k=none) (hF:F b) (hb:w.heap[b]?=some o):RelOb w F ρ k (.tab b o)
 |it (s:Bt) (pos:Nat) (b:Nat) (hk:ρ k=some (.box b)) (hb:w.heap[b]?=some (.stringIter s pos)):RelOb w F ρ k (.it s pos)
 |mp (t:TypeId) (kt vt:Ev.Ty) (l:List (kt.den×vt.den)) (b:Nat) (es:Array MapEntry) (clock:Nat) (hk:ρ k=some (.box b)) (hb:w.heap[b]?=some (.map es clock)) (hs:es.size=l.length)
   (h:∀i (h:i<l.length) (h' :i<es.size),RelE w F kt l[i].1 es[i].key/\RelE w F vt l[i].2 es[i].val) (dn:Bool) (hd:(dn=true->clock=es.size/\∀i (h:i<es.size),es[i].born=i)/\StOk es clock):RelOb w F ρ k (.mp t kt vt l dn)
 |mi (kt vt:Ev.Ty) (l:List (kt.den×vt.den)) (cur:Option (kt.den×vt.den)) (b:Nat) (mo:Option Nat) (since:Nat) (seen:Array Nat) (last:Nat) (hk:ρ k=some (.box b)) (hb:w.heap[b]?=some (.mapIter mo since seen last)) (hm:MapIt w F kt vt l cur mo since seen last):RelOb w F ρ k (.mi kt vt l cur)
 |mr (tm te:TypeId) (kt e:Ev.Ty) (l:List (kt.den×(Ev.Ty.lst e).den)) (pend:Option (Nat×(Ev.Ty.lst e).den)) (b:Nat) (es:Array MapEntry) (clock:Nat) (pv:Value) (us:List Value) (hk:ρ k=some (.many b (pv::us))) (hb:w.heap[b]?=some (.map es clock))
   (hM:MrRel w F te kt e l pend es clock pv us):RelOb w F ρ k (.mr tm te kt e l pend)
 |any (o:AObj) (h:RelOb w F ρ k o):RelOb w F ρ k .any
 |fz (t:TypeId) (xs:List Int) (u:Value) (hk:ρ k=some (.arr u)) (h:FzRow w t u xs):RelOb w F ρ k (.fz t xs)
def lkF(l:List (Nat×AV))(i:Nat):AV:=
 match l with
 |[]=>.junk
 |(j,v)::r=>bif Nat.beq i j then v else lkF r i
def lkO(l:List (Nat×AObj))(i:Nat):AObj:=
 match l with
 |[]=>.gone
 |(j,v)::r=>bif Nat.beq i j then v else lkO r i
structure ASt where
 fr:List (Nat×AV)
 ob:List (Nat×AObj)
class Tabs where
 get:Nat->Option Obj
 /-- functions whose calls may be put off till the end: they do nothing then -/
 okd:List FuncId:=[]
 /-- what is put off, where that is known -/
 fixd:Option (List Deferred):=none
variable [Tabs]
def c1r(d:Deferred):Prop:=∃g∈Tabs.okd,∃cap,d.target=.fn (.func g) cap
class QuietD(P:Program):Prop where
 free:Tabs.fixd=none
 quiet:∀g∈Tabs.okd,∀(args:Array Value) (w:World),(callFunc g args).run P w=.ok (.enter g args) w/\
  CallsD P g args .returning w λe u w' =>u=.returning/\(∃v,e=.returned v)/\w' =w
def DfInv(ds:List Deferred):Prop:=match Tabs.fixd with
 |none=>∀d∈ds,c1r d
 |some l=>ds=l
theorem DfInv.nil (h:Tabs.fixd=none):DfInv []:=by
 unfold DfInv;rw[h];intro d hd;cases hd
theorem DfInv.po (h:Tabs.fixd=none){ds:List Deferred}(hd:DfInv ds):∀d∈ds,c1r d:=by
 unfold DfInv at hd;rw[h]at hd;exact hd
theorem DfInv.cons (h:Tabs.fixd=none){d:Deferred}{ds:List Deferred}(h1:c1r d)(hd:DfInv ds):DfInv (d::ds):=by
 have:=hd.po h;unfold DfInv;rw[h];intro x hx;rcases r2s.1 hx with rfl|hx
 ·exact h1
 ·exact this x hx
theorem j0b{P:Program} [QuietD P] {fn:Func}{tmps:Array Value}{R:Ending->World->Prop}{w:World}(h:∃v,(results fn tmps).run P w=.ok v w/\R (.returned v) w):
  ∀ds:List Deferred,(∀d∈ds,c1r d)->Leaves P fn tmps R ds .returning w
 |[],_=>h
 |⟨t,args⟩::ds,hd=>by
  obtain⟨g,hg,cap,ht⟩:=hd _ (List.mem_cons_self ..);simp only at ht;subst ht;obtain⟨h1,h2⟩:=QuietD.quiet (P:=P) g hg (args++cap) w;refine leaves_cons (by simp) (f:=g) (args:=args++cap) h1 (h2.mono λe u w' hh=>?_);obtain⟨rfl,⟨v,rfl⟩,rfl⟩:=hh;exact j0b h ds λd gS=>hd d (s2x _ gS)
structure RelW(F:Nat->Prop)(ρ:Env)(w:World):Prop where
 dis:∀b,F b->¬live ρ b
 lt:∀b,F b->b<w.heap.size
 inj:∀k k' l l' b,ρ k=some l->ρ k' =some l' ->l.has b->l'.has b->k=k'
 tab:∀b o,Tabs.get b=some o->F b/\w.heap[b]?=some o
theorem RelW.tab_of {F F' :Nat->Prop}{ρ:Env}{w w' :World}(h:RelW F ρ w)(hF:∀b,F b->w'.heap[b]?=w.heap[b]?)(hs:∀b,F b->F' b):∀b o,Tabs.get b=some o->F' b/\w'.heap[b]?=some o:=
 λb o hb=>⟨hs b (h.tab b o hb).1,(hF b (h.tab b o hb).1).trans (h.tab b o hb).2⟩
structure Rel(N:Nat)(F:Nat->Prop)(ρ:Env)(st:ASt)(a:Act)(w:World):Prop where
 rw:RelW F ρ w
 fr:∀i,RelAV w F ρ a.tmps (lkF st.fr i) (a.tmps.getD i undef)
 ob:∀k,RelOb w F ρ k (lkO st.ob k)
 sz:a.tmps.size=N
 df:DfInv a.defers/\N<=1000000
def Stab(k:Nat):Option Loc->Option Loc->Prop
 |_,none=>True
 |some (.box b),some (.box b')=>b' =b
 |some (.arr u),some (.arr u')=>2000000<=k->u' =u
 |some (.many b us),some (.many b' us')=>2000000<=k->b' =b/\us' =us
 |_,_=>False
omit [Tabs]in
theorem Stab.refl (k:Nat)(o:Option Loc):Stab k o o:=by
 cases o with
 |none=>trivial
 |some l=>cases l<;>simp[Stab]
omit [Tabs]in
theorem Stab.trans {k:Nat}{a b c:Option Loc}(h:Stab k a b)(hb:Stab k b c):Stab k a c:=by
 cases c with
 |none=>cases a<;>simp[Stab]
 |some c=>cases b with
  |none=>simp[Stab]at hb
  |some b=>cases a with
   |none=>simp[Stab]at h
   |some a=>cases a<;>cases b<;>cases c<;>simp_all[Stab]
structure Fr(F:Nat->Prop)(ρ:Env)(w:World)(F' :Nat->Prop)(ρ' :Env)(w' :World):Prop where
 os:w'.os=w.os
 tape:w'.tape=w.tape
 output:w'.output=w.output
 size:w.heap.size<=w'.heap.size
 sub:∀b,F b->F' b
 keep:∀b,b<w.heap.size->¬live ρ b->w'.heap[b]?=w.heap[b]?
 old:∀b,b<w.heap.size->(F' b\/live ρ' b)->(F b\/live ρ b)
 stab:∀k,1000000<=k->Stab k (ρ k) (ρ' k)
omit [Tabs]in
theorem Fr.refl (F:Nat->Prop)(ρ:Env)(w:World):Fr F ρ w F ρ w:=
 ⟨rfl,rfl,rfl,r2q _,λ_ h=>h,λ_ _ _=>rfl,λ_ _ h=>h,λ_ _=>Stab.refl _ _⟩
omit [Tabs]in
theorem Fr.trans {F ρ w F1 ρ1 w1 F2 ρ2 w2}(h:Fr F ρ w F1 ρ1 w1)(gm:∀b,F1 b->¬live ρ1 b)(k:Fr F1 ρ1 w1 F2 ρ2 w2):Fr F ρ w F2 ρ2 w2 where
 os:=k.os.trans h.os
 tape:=k.tape.trans h.tape
 output:=k.output.trans h.output
 size:=t2p h.size k.size
 sub b hb:=k.sub b (h.sub b hb)
 keep b hb hl:=by
  have e:=h.keep b hb hl;rw [<-e];refine k.keep b (t2h hb h.size) λi7=>?_;rcases h.old b hb (.inr i7)with hf|bT
  ·exact gm b (h.sub b hf) i7
  ·exact hl bT
 old b hb hh:=h.old b hb (k.old b (t2h hb h.size) hh)
 stab k1 hk:=(h.stab k1 hk).trans (k.stab k1 hk)
omit [Tabs]in
theorem l1c{w w' :World}{b off:Nat}{s:Option Nat}(h:w'.heap[b]?=w.heap[b]?):w'.cell? ⟨b,off,s⟩=w.cell? ⟨b,off,s⟩:=by
 simp[World.cell?,h]
omit [Tabs]in
theorem RelD.mono {w w' :World}{F F' :Nat->Prop}(hF:∀b,F b->w'.heap[b]?=w.heap[b]?)(hs:∀b,F b->F' b){x:D}{v:Value}(h:RelD w F x v):RelD w' F' x v:=by
 induction h with
 |sc v h=>exact .sc v h
 |nil e a cap=>exact .nil e a cap
 |sl e n cs b off cap c hb hl aU hc hr ih=>
  exact .sl e n cs b off cap c (hs _ hb) hl aU (λi hi=>(l1c (hF b hb)).trans (hc i hi)) ih
 |rp cs b off c hb hc hr ih=>
  exact .rp cs b off c (λh=>hs _ (hb h)) (λi hi=>(l1c (hF b (hb (by rintro rfl;simp at hi)))).trans (hc i hi)) ih
 |nl t xs v h ih=>exact .nl t xs v ih
 |nm0 kt vt=>exact .nm0 kt vt
 |nm kt vt l b es clock ka va hb aW aR hz he h1 h2 hst ih1 ih2=>exact .nm kt vt l b es clock ka va (hs _ hb) ((hF b hb).trans aW) aR hz he ih1 ih2 hst
omit [Tabs]in
theorem RelE.mono {w w' :World}{F F' :Nat->Prop}(hF:∀b,F b->w'.heap[b]?=w.heap[b]?)(hs:∀b,F b->F' b){τ:Ev.Ty}{x:τ.den}{v:Value}(h:RelE w F τ x v):RelE w' F' τ x v:=by
 unfold RelE at*;split
 ·rename_i hz
  rw[if_pos hz]at h;obtain⟨c,h1,h2⟩:=h;exact⟨c,h1,h2.mono hF hs⟩
 ·rename_i hz
  rw[if_neg hz]at h;obtain⟨arr,h1,h2,h3⟩:=h;exact⟨arr,h1,h2,λi hi=>(h3 i hi).mono hF hs⟩
omit [Tabs]in
theorem RowOwn.mono {w w' :World}{F F' :Nat->Prop}(hF:∀b,F b->w'.heap[b]?=w.heap[b]?)(hs:∀b,F b->F' b){te:TypeId}{e:Ev.Ty}{ys:List e.den}{v:Value}(hv:∀b,v.ownBlock=some b->w'.heap[b]?=w.heap[b]?)(h:RowOwn w F te e ys v):RowOwn w' F' te e ys v:=by
 obtain⟨h0,xs,h1,h2,h3⟩:=h;refine⟨h0,xs,⟨h1.1,?_⟩,h2,λi hi=>(h3 i hi).mono hF hs⟩;rcases h1.2 with h|⟨g,cap,cur,rfl,eJ,hg,rest⟩
 ·exact .inl h
 ·exact .inr ⟨g,cap,cur,rfl,eJ,(hv g rfl).trans hg,rest⟩
omit [Tabs]in
theorem MrRel.mono {w w' :World}{F F' :Nat->Prop}(hF:∀b,F b->w'.heap[b]?=w.heap[b]?)(hs:∀b,F b->F' b){te:TypeId}{kt e:Ev.Ty}{l:List (kt.den×(Ev.Ty.lst e).den)}{pend:Option (Nat×(Ev.Ty.lst e).den)}{es:Array MapEntry}{clock:Nat}{pv:Value}{us:List Value}
  (hv:∀u,u∈pv::us->∀b,u.ownBlock=some b->w'.heap[b]?=w.heap[b]?)(h:MrRel w F te kt e l pend es clock pv us):MrRel w' F' te kt e l pend es clock pv us:=
 ⟨h.hs,h.hu,λi h1 h2=>(h.key i h1 h2).mono hF hs,λi h1 h2 h3 hp=>⟨(h.ent i h1 h2 h3 hp).1,(h.ent i h1 h2 h3 hp).2.mono hF hs (hv _ (s2x _ (s2s h3)))⟩,h.dis,h.st,h.no,
  λi ys hp=>⟨(h.pnd i ys hp).1,(h.pnd i ys hp).2.mono hF hs (hv _ (List.mem_cons_self ..))⟩⟩
omit [Tabs]in
theorem RowOwn.lt {w:World}{F:Nat->Prop}{te:TypeId}{e:Ev.Ty}{ys:List e.den}{v:Value}(h:RowOwn w F te e ys v){b:Nat}(hb:v.ownBlock=some b):b<w.heap.size:=by
 obtain⟨_,xs,h1,_⟩:=h;exact(h1.lt b hb).2
omit [Tabs]in
theorem MrRel.lt {w:World}{F:Nat->Prop}{te:TypeId}{kt e:Ev.Ty}{l:List (kt.den×(Ev.Ty.lst e).den)}{pend:Option (Nat×(Ev.Ty.lst e).den)}{es:Array MapEntry}{clock:Nat}{pv:Value}{us:List Value}
  (h:MrRel w F te kt e l pend es clock pv us){u:Value}(hu:u∈pv::us){b:Nat}(hb:u.ownBlock=some b):b<w.heap.size:=by
 have key:∀u,u∈us->u.ownBlock=some b->b<w.heap.size:=λu hu hb=>by
  obtain⟨i,hi,rfl⟩:=List.getElem_of_mem hu;by_cases hp:∃p,pend=some p/\p.1=i
  ·obtain⟨⟨i',ys⟩,hp,e⟩:=hp
   have e' :i' =i:=e;subst e';obtain⟨h1,h2⟩:=h.pnd _ _ hp;rw[r2k hi]at h1;cases h1;exact h2.lt hb
  ·have gR:∀p,pend=some p->p.1≠i:=λp h1 h2=>hp ⟨p,h1,h2⟩
   have h1:i<l.length:=by
    rcases h.hu with⟨_,h1⟩| ⟨i',ys,h0,⟨_,h1⟩| ⟨h2,h1⟩⟩
    ·omega
    ·omega
    ·have h3:i' ≠i:=gR _ h0
     omega
   exact(h.ent i h1 (h.hs▸h1) hi gR).2.lt hb
 rcases r2s.1 hu with rfl|hu
 ·cases pend with
  |none=>
   rcases h.no rfl with e|e
   ·rw[e]at hb;cases hb
   ·exact key _ e hb
  |some p=>exact(h.pnd p.1 p.2 rfl).2.lt hb
 ·exact key _ hu hb
omit [Tabs]in
theorem EntRel.mono {w w' :World}{F F' :Nat->Prop}(hF:∀b,F b->w'.heap[b]?=w.heap[b]?)(hs:∀b,F b->F' b){kt vt:Ev.Ty}{e:kt.den×vt.den}{x:MapEntry}(h:EntRel w F kt vt e x):EntRel w' F' kt vt e x:=by
 exact⟨h.1.mono hF hs,h.2.mono hF hs⟩
omit [Tabs]in
theorem MapIt.mono {w w' :World}{F F' :Nat->Prop}(hF:∀b,F b->w'.heap[b]?=w.heap[b]?)(hs:∀b,F b->F' b){kt vt:Ev.Ty}{l:List (kt.den×vt.den)}{cur:Option (kt.den×vt.den)}{mo:Option Nat}{since:Nat}{seen:Array Nat}{last:Nat}
  (h:MapIt w F kt vt l cur mo since seen last):MapIt w' F' kt vt l cur mo since seen last:=by
 rcases h with h|⟨m,es,js,h1,h2,h3,h4,h5,h6,⟨hl,h7⟩,h8,h9⟩
 ·exact .inl h
 ·exact .inr ⟨m,es,js,h1,hs _ h2,(hF m h2).trans h3,h4,h5,h6,⟨hl,λt ht=>⟨(h7 t ht).1,(h7 t ht).2.mono hF hs⟩⟩,h8,λe he=>by
   obtain⟨i,hi,mY,h11⟩:=h9 e he;exact⟨i,hi,mY,h11.mono hF hs⟩⟩
omit [Tabs]in
theorem RelAC.mono {w w' :World}{F F' :Nat->Prop}{ρ ρ' :Env}(hF:∀b,F b->w'.heap[b]?=w.heap[b]?)(hs:∀b,F b->F' b)(hρ:∀k l,ρ' k=some l->ρ k=some l)
  {x:AC}{v:Value}(h:RelAC w F ρ x v):RelAC w' F' ρ' x v:=by
 induction h with
 |d x v h=>exact .d x v (h.mono hF hs)
 |own k v h=>exact .own k v λu hu=>h u (hρ _ _ hu)
 |ptr k off v h=>exact .ptr k off v λb hb=>h b (hρ _ _ hb)
 |elt k e j off v h=>exact .elt k e j off v λu hu=>h u (hρ _ _ hu)
 |osl k e j off v h=>exact .osl k e j off v λu hu=>h u (hρ _ _ hu)
 |pn k v h=>exact .pn k v λb hb=>h b (hρ _ _ hb)
 |ifo t k v h=>exact .ifo t k v λb hb=>h b (hρ _ _ hb)
 |mpr k v h=>exact .mpr k v λl b hb=>h l b (hρ _ _ hb)
 |row k i v h=>exact .row k i v λb us hb=>h b us (hρ _ _ hb)
 |fn f fs cs vs us h1 h2 hf hc ih1 ih2=>exact .fn f fs cs vs us h1 h2 ih1 ih2
 |junk v=>exact .junk v
omit [Tabs]in
theorem RelAV.mono {w w' :World}{F F' :Nat->Prop}{ρ ρ' :Env}{tm:Array Value}(hF:∀b,F b->w'.heap[b]?=w.heap[b]?)(hs:∀b,F b->F' b)(hρ:∀k l,ρ' k=some l->ρ k=some l)
  {x:AV}{v:Value}(h:RelAV w F ρ tm x v):RelAV w' F' ρ' tm x v:=by
 induction h with
 |cell c v h=>exact .cell c v (h.mono hF hs hρ)
 |agg cs arr hz h=>exact .agg cs arr hz λi hi=>(h i hi).mono hF hs hρ
 |aggD cs arr hz h=>exact .aggD cs arr hz λi hi=>(h i hi).mono hF hs
 |tup vs arr hz h ih=>exact .tup vs arr hz ih
 |whn g want x v h h' ih=>exact .whn g want x v ih h'
 |junk v=>exact .junk v
mutual
def AC.refs (k:Nat):AC->Bool
 |.d _=>false
 |.own j=>Nat.beq j k
 |.ptr j _=>Nat.beq j k
 |.elt j _ _ _=>Nat.beq j k
 |.osl j _ _ _=>Nat.beq j k
 |.pn j=>Nat.beq j k
 |.ifo _ j=>Nat.beq j k
 |.mpr j=>Nat.beq j k
 |.row j _=>Nat.beq j k
 |.fn _ fs cs=>AC.refsL k fs || AC.refsL k cs
 |.junk=>false
def AC.refsL (k:Nat):List AC->Bool
 |[]=>false
 |c::r=>AC.refs k c || AC.refsL k r
end
def AC.kill (k:Nat)(c:AC):AC:=bif c.refs k then .junk else c
mutual
def AV.kill (k:Nat):AV->AV
 |.cell c=>.cell (c.kill k)
 |.agg cs=>.agg (cs.map (AC.kill k))
 |.aggD cs=>.aggD cs
 |.tup vs=>.tup (AV.killL k vs)
 |.whn g w x=>.whn g w (AV.kill k x)
 |.junk=>.junk
def AV.killL (k:Nat):List AV->List AV
 |[]=>[]
 |v::r=>AV.kill k v::AV.killL k r
end
omit [Tabs]in
theorem AV.killL_eq (k:Nat)(l:List AV):AV.killL k l=l.map (AV.kill k):=by
 induction l with
 |nil=>simp[AV.killL]
 |cons v r ih=>simp[AV.killL,ih]
def AObj.kill (k:Nat):AObj->AObj
 |.box cs ty=>.box (cs.map (AC.kill k)) ty
 |o=>o
def offK(k:Nat)(ρ ρ' :Env):Prop:=∀j,j≠k->ρ' j=ρ j
omit [Tabs]in
theorem AC.refsL_get {k:Nat}:∀{l:List AC},AC.refsL k l=false->∀i (h:i<l.length),AC.refs k l[i]=false
 |[],_,i,h=>by simp at h
 |c::r,h,i,hi=>by
  simp only[AC.refsL,r2x]at h;cases i with
  |zero=>simpa using h.1
  |succ i=>simpa using AC.refsL_get h.2 i (by simpa using hi)
omit [Tabs]in
theorem RelAC.off {w:World}{F:Nat->Prop}{ρ ρ' :Env}{k:Nat}(ho:offK k ρ ρ'){x:AC}{v:Value}(h:RelAC w F ρ x v)(hx:x.refs k=false):RelAC w F ρ' x v:=by
 induction h with
 |d x v h=>exact .d x v h
 |own j v h=>exact .own j v λu hu=>h u (by rw [<-ho j (s2d hx)];exact hu)
 |ptr j off v h=>exact .ptr j off v λb hb=>h b (by rw [<-ho j (s2d hx)];exact hb)
 |elt j e q off v h=>exact .elt j e q off v λu hu=>h u (by rw [<-ho j (s2d hx)];exact hu)
 |osl j e q off v h=>exact .osl j e q off v λu hu=>h u (by rw [<-ho j (s2d hx)];exact hu)
 |pn j v h=>exact .pn j v λb hb=>h b (by rw [<-ho j (s2d hx)];exact hb)
 |ifo t j v h=>exact .ifo t j v λb hb=>h b (by rw [<-ho j (s2d hx)];exact hb)
 |mpr j v h=>exact .mpr j v λl b hb=>h l b (by rw [<-ho j (s2d hx)];exact hb)
 |row j i v h=>exact .row j i v λb us hb=>h b us (by rw [<-ho j (s2d hx)];exact hb)
 |fn f fs cs vs us h1 h2 hf hc ih1 ih2=>
  simp only[AC.refs,r2x]at hx;exact .fn f fs cs vs us h1 h2 (λi hi=>ih1 i hi (AC.refsL_get hx.1 i hi)) (λi hi=>ih2 i hi (AC.refsL_get hx.2 i hi))
 |junk v=>exact .junk v
omit [Tabs]in
theorem RelAC.kill {w:World}{F:Nat->Prop}{ρ ρ' :Env}{k:Nat}(ho:offK k ρ ρ'){x:AC}{v:Value}(h:RelAC w F ρ x v):RelAC w F ρ' (x.kill k) v:=by
 unfold AC.kill;cases hx:x.refs k with
 |true=>exact .junk v
 |false=>exact h.off ho hx
omit [Tabs]in
theorem RelAV.kill {w:World}{F:Nat->Prop}{ρ ρ' :Env}{tm:Array Value}{k:Nat}(ho:offK k ρ ρ'){x:AV}{v:Value}(h:RelAV w F ρ tm x v):RelAV w F ρ' tm (x.kill k) v:=by
 induction h with
 |cell c v h=>exact .cell _ v (h.kill ho)
 |agg cs arr hz h=>
  simp only[AV.kill];exact .agg _ arr (by simpa using hz) λi hi=>by simpa using(h i (by simpa using hi)).kill ho
 |aggD cs arr hz h=>exact .aggD cs arr hz h
 |tup vs arr hz h ih=>
  simp only[AV.kill,AV.killL_eq];exact .tup _ arr (by simpa using hz) λi hi=>by simpa using ih i (by simpa using hi)
 |whn g want x v h h' ih=>exact .whn g want _ v ih h'
 |junk v=>exact .junk v
omit [Tabs]in
theorem RelOb.kill {w:World}{F:Nat->Prop}{ρ ρ' :Env}{k j:Nat}(ho:offK k ρ ρ')(hj:j≠k){x:AObj}(h:RelOb w F ρ j x):RelOb w F ρ' j (x.kill k):=by
 have e:=ho j hj
 induction h with
 |any o h ih=>exact .any _ ih
 |na t ee xs h ih=>exact .na t ee xs ih
 |gone h=>exact .gone (e.trans h)
 |box cs oty b c t aQ hk hb hs h=>exact .box _ _ b c t aQ (e.trans hk) hb (by simpa using hs) λi hi=>by simpa using(h i (by simpa using hi)).kill ho
 |arr t ee n cs u xs hk hown hs h=>exact .arr t ee n cs u xs (e.trans hk) hown hs h
 |tab b o hk hF hb=>exact .tab b o (e.trans hk) hF hb
 |it s pos b hk hb=>exact .it s pos b (e.trans hk) hb
 |fz t xs u hk h=>exact .fz t xs u (e.trans hk) h
 |mi kt vt l cur b mo si se la hk hb hm=>exact .mi kt vt l cur b mo si se la (e.trans hk) hb hm
 |mp t kt vt l b es c hk hb hs h dn hd=>exact .mp t kt vt l b es c (e.trans hk) hb hs h dn hd
 |mr tm te kt ee l pd b es c pv us hk hb hM=>exact .mr tm te kt ee l pd b es c pv us (e.trans hk) hb hM
omit [Tabs]in
theorem RelD.oneCell {w:World}{F:Nat->Prop}{x:D}{v:Value}(h:RelD w F x v):v.oneCell' =true:=by
 induction h<;>first|assumption|rfl
end Esp

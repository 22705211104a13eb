import Derived.Test.YtnaeiccibhdknaaGreatDoorEspRel
import GoSem.Dispatch
import Derived.Laws.Sem
import Derived.Laws.Entries
import Derived.Laws.CopyRow
import Derived.Below
set_option linter.unusedSimpArgs false
set_option linter.unusedVariables false
namespace Esp
open Go
variable [Tabs]
mutual
def AV.uses (g:Nat):AV->Bool
 |.whn h _ x=>Nat.beq h g || AV.uses g x
 |.tup vs=>AV.usesL g vs
 |_=>false
def AV.usesL (g:Nat):List AV->Bool
 |[]=>false
 |v::r=>AV.uses g v || AV.usesL g r
end
omit [Tabs]in
theorem AV.usesL_get {k:Nat}:∀{l:List AV},AV.usesL k l=false->∀i (h:i<l.length),AV.uses k l[i]=false
 |[],_,i,h=>by simp at h
 |c::r,h,i,hi=>by
  simp only[AV.usesL,r2x]at h;cases i with
  |zero=>simpa using h.1
  |succ i=>simpa using AV.usesL_get h.2 i (by simpa using hi)
omit [Tabs]in
theorem a0l{α:Type}(tm:Array α)(d g:Nat)(u x:α)(h:g≠d):(tm.setIfInBounds d u).getD g x=tm.getD g x:=by
 simp[r2j,s2r,Ne.symm h]
omit [Tabs]in
theorem l0i{α:Type}(tm:Array α)(d:Nat)(u x:α)(h:d<tm.size):(tm.setIfInBounds d u).getD d x=u:=by
 simp[r2j,s2r,h]
omit [Tabs]in
theorem RelAV.tm {w:World}{F:Nat->Prop}{ρ:Env}{tm:Array Value}{d:Nat}{u:Value}{x:AV}{v:Value}(h:RelAV w F ρ tm x v)(hx:x.uses d=false):
  RelAV w F ρ (tm.setIfInBounds d u) x v:=by
 induction h with
 |cell c v h=>exact .cell c v h
 |agg cs arr hz h=>exact .agg cs arr hz h
 |aggD cs arr hz h=>exact .aggD cs arr hz h
 |tup vs arr hz h ih=>exact .tup vs arr hz λi hi=>ih i hi (AV.usesL_get (by simpa[AV.uses]using hx) i hi)
 |whn g want x v h h' ih=>
  simp only[AV.uses,r2x]at hx;have hg:g≠d:=s2d hx.1;exact .whn g want x v (λe=>ih (by rwa[a0l _ _ _ _ _ hg]at e) hx.2) (λe=>h' (by rwa[a0l _ _ _ _ _ hg]at e))
 |junk v=>exact .junk v
def AV.dropW (d:Nat)(v:AV):AV:=bif v.uses d then .junk else v
def setF(d:Nat)(x:AV)(fr:List (Nat×AV)):List (Nat×AV):=
 (d,x)::(fr.filter λp=> !Nat.beq p.1 d).map λp=>(p.1,p.2.dropW d)
omit [Tabs]in
theorem d0i(f:AV->AV)(hf:f .junk=.junk):∀(fr:List (Nat×AV)) (i:Nat),lkF (fr.map λp=>(p.1,f p.2)) i=f (lkF fr i)
 |[],_=>hf.symm
 |(j,v)::r,i=>by
  simp only[r2z,lkF];cases Nat.beq i j with
  |true=>rfl
  |false=>simpa using d0i f hf r i
omit [Tabs]in
theorem n0t(d:Nat):∀(fr:List (Nat×AV)) (i:Nat),i≠d->lkF (fr.filter λp=> !Nat.beq p.1 d) i=lkF fr i
 |[],_,_=>rfl
 |(j,v)::r,i,h=>by
  cases hj:Nat.beq j d with
  |true=>
   have:Nat.beq i j=false:=by
    cases fY:Nat.beq i j with
    |false=>rfl
    |true=>exact absurd ((r2h fY).trans (r2h hj)) h
   rw[List.filter_cons_of_neg (by simp[hj])];simp only[lkF,this,u2k];exact n0t d r i h
  |false=>
   rw[List.filter_cons_of_pos (by simp[hj])];simp only[lkF];cases Nat.beq i j with
   |true=>rfl
   |false=>simpa using n0t d r i h
omit [Tabs]in
theorem f0y(d:Nat)(x:AV)(fr:List (Nat×AV)):lkF (setF d x fr) d=x:=by simp[setF,lkF]
omit [Tabs]in
theorem f0e(d:Nat)(x:AV)(fr:List (Nat×AV))(i:Nat)(h:i≠d):lkF (setF d x fr) i=(lkF fr i).dropW d:=by
 have hb:Nat.beq i d=false:=by cases hb:Nat.beq i d with|false=>rfl|true=>exact absurd (r2h hb) h
 simp only[setF,lkF,hb,u2k];rw[d0i (AV.dropW d) rfl,n0t d fr i h]
omit [Tabs]in
theorem RelAV.dropW {w:World}{F:Nat->Prop}{ρ:Env}{tm:Array Value}{d:Nat}{u:Value}{x:AV}{v:Value}(h:RelAV w F ρ tm x v):
  RelAV w F ρ (tm.setIfInBounds d u) (x.dropW d) v:=by
 unfold AV.dropW;cases hx:x.uses d with
 |true=>exact .junk v
 |false=>exact h.tm hx
def ASt.put (st:ASt)(dst:Option Tmp)(x:AV):ASt:=
 match dst with
 |some d=>{st with fr:=setF d x st.fr}
 |none=>st
def m2b(N:Nat):Option Tmp->Bool
 |some d=>Nat.blt d N
 |none=>true
theorem Rel.put {N:Nat}{F:Nat->Prop}{ρ:Env}{st:ASt}{a:Act}{w:World}(h:Rel N F ρ st a w)(d:Tmp)(hd:d<N){x:AV}{v:Value}
  (hx:RelAV w F ρ (a.tmps.setIfInBounds d v) x v):Rel N F ρ (st.put (some d) x) (a.put (some d) v) w where
 rw:=h.rw
 fr i:=by
  simp only[ASt.put,Act.put];by_cases hi:i=d
  ·subst hi
   rw[f0y,l0i _ _ _ _ (by rw[h.sz];exact hd)];exact hx
  ·rw[f0e _ _ _ _ hi,a0l _ _ _ _ _ hi]
   exact(h.fr i).dropW
 ob:=h.ob
 sz:=by simpa[Act.put]using h.sz
 df:=h.df
def ev(fr:List (Nat×AV)):Operand->AV
 |.tmp t=>lkF fr t
 |.const v=>bif v.oneCell' then .cell (.d (.sc v))else .junk
 |.global _=>.junk
 |.func f=>.cell (.fn (.func f) [] [])
theorem a0d{N:Nat}{F:Nat->Prop}{ρ:Env}{st:ASt}{a:Act}{w:World}(h:Rel N F ρ st a w)(x:Operand):RelAV w F ρ a.tmps (ev st.fr x) (a.eval x):=by
 cases x with
 |tmp t=>exact h.fr t
 |const v=>
  simp only[ev,Act.eval];cases hv:v.oneCell' with
  |true=>exact .cell _ _ (.d _ _ (.sc v hv))
  |false=>exact .junk _
 |global g=>exact .junk _
 |func f=>exact .cell _ _ (.fn _ [] [] #[] #[] rfl rfl (λi hi=>absurd hi (by simp)) (λi hi=>absurd hi (by simp)))
def scV:AV->Option Value
 |.cell (.d (.sc v))=>some v
 |_=>none
omit [Tabs]in
theorem a0i{w:World}{F:Nat->Prop}{ρ:Env}{tm:Array Value}{x:AV}{u v:Value}(h:RelAV w F ρ tm x v)(hs:scV x=some u):v=u/\u.oneCell' =true:=by
 unfold scV at hs;split at hs
 ·rename_i y
  cases hs;cases h with
  |cell c v h=>cases h with
   |d x v h=>cases h with
    |sc v h=>exact⟨rfl,h⟩
 ·cases hs
def h0q{α:Type}(P:Program):Sem α->Option α
 |.pure a=>some a
 |.program k=>h0q P (k P)
 |.mark _ k=>h0q P k
 |_=>none
omit [Tabs]in
theorem h0w{α:Type}{P:Program}:∀{s:Sem α} {a:α},h0q P s=some a->∀w,s.run P w=.ok a w:=by
 intro s
 induction s with
 |pure a=>intro b h w;simp only[h0q,r2l]at h;subst h;rfl
 |program k ih=>intro b h w;exact ih P h w
 |mark m k ih=>intro b h w;exact ih h w
 |_=>intro b h w;simp[h0q]at h
end Esp
namespace Esp
open Go
variable [Tabs]
def i0b(P:Program)(t:TypeId):Option Bool:=
 match P.underlying t with
 |some (.struct _)=>some true
 |some (.array _ _)=>some true
 |some _=>some false
 |none=>none
def d0t(P:Program)(t:TypeId):Option Nat:=(P.info? t).map (·.size)
omit [Tabs]in
theorem m0m{P:Program}{t:TypeId}{b:Bool}(h:i0b P t=some b)(w:World):(isAgg t).run P w=.ok b w:=by
 unfold i0b at h;cases hu:P.underlying t with
 |none=>rw[hu]at h;cases h
 |some d=>
  rw[hu]at h;simp only[isAgg,Sem.run_bind,run_underlying hu,Result.andThen_ok];cases d<;>(simp only[r2l]at h;subst h;rfl)
omit [Tabs]in
theorem a0g{P:Program}{t:TypeId}{s:Nat}(h:d0t P t=some s)(w:World):(Go.sizeOf t).run P w=.ok s w:=by
 unfold d0t at h;cases hi:P.info? t with
 |none=>rw[hi]at h;cases h
 |some i=>
  rw[hi]at h;simp only[s2z,r2l]at h;subst h;simp[Go.sizeOf,typeInfo,hi]
omit [Tabs]in
theorem i0u{P:Program}{t:TypeId}{s:Nat}{w:World}{b off:Nat}(c:Nat->Value)(ha:i0b P t=some true)(hs:d0t P t=some s)
  (h:∀i,i<s->w.cell? ⟨b,off+i,none⟩=some (c i)):(loadVar t ⟨b,off,none⟩).run P w=.ok (.agg ((List.range s).map c).toArray) w:=by
 have hl:=run_loadCells (P:=P) w ⟨b,off,none⟩ s c (λj hj=>by rw[Addr.add_lit];exact h j hj);simp[loadVar,m0m ha,a0g hs,hl]
omit [Tabs]in
theorem i0k{P:Program}{t:TypeId}{w:World}{b off:Nat}{v:Value}(ha:i0b P t=some false)
  (h:w.cell? ⟨b,off,none⟩=some v):(loadVar t ⟨b,off,none⟩).run P w=.ok v w:=by
 simp[loadVar,m0m ha,h]
def allD:List AC->Option (List D)
 |[]=>some []
 |.d x::r=>(allD r).map (x:: ·)
 |_=>none
def d1a(cs:List AC):AV:=
 match allD cs with
 |some ds=>.aggD ds
 |none=>.agg cs
omit [Tabs]in
theorem j0n:∀{cs:List AC} {ds:List D},allD cs=some ds->cs=ds.map .d
 |[],ds,h=>by simp only[allD,r2l]at h;subst h;rfl
 |.d x::r,ds,h=>by
  simp only[allD,t2f]at h;obtain⟨l,hl,rfl⟩:=h;simp[j0n hl]
 |.own _::_,_,h=>by simp[allD]at h
 |.ptr _ _::_,_,h=>by simp[allD]at h
 |.elt _ _ _ _::_,_,h=>by simp[allD]at h
 |.osl _ _ _ _::_,_,h=>by simp[allD]at h
 |.pn _::_,_,h=>by simp[allD]at h
 |.ifo _ _::_,_,h=>by simp[allD]at h
 |.mpr _::_,_,h=>by simp[allD]at h
 |.row _ _::_,_,h=>by simp[allD]at h
 |.fn _ _ _::_,_,h=>by simp[allD]at h
 |.junk::_,_,h=>by simp[allD]at h
omit [Tabs]in
theorem c0r{w:World}{F:Nat->Prop}{ρ:Env}{tm:Array Value}{cs:List AC}{arr:Array Value}(h:RelAV w F ρ tm (.agg cs) (.agg arr)):RelAV w F ρ tm (d1a cs) (.agg arr):=by
 unfold d1a;split
 ·rename_i ds hd
  have e:=j0n hd;subst e;cases h with
  |agg cs arr hs h=>
   refine .aggD _ _ (by simpa using hs) λi hi=>?_;have:=h i (by simpa using hi);simp only[List.getElem_map]at this;cases this with
   |d x v h=>exact h
 ·exact h
def k0j(P:Program)(t:TypeId)(cs:List AC):Option AV:=
 match i0b P t with
 |some true=>match d0t P t with
  |some s=>bif Nat.ble s cs.length then some (d1a (cs.take s))else none
  |none=>none
 |some false=>match cs with
  |c::_=>some (.cell c)
  |[]=>none
 |none=>none
def f0v(P:Program)(t:TypeId)(cs:List D):Option AV:=
 match i0b P t with
 |some true=>match d0t P t with
  |some s=>bif Nat.ble s cs.length then some (.aggD (cs.take s))else none
  |none=>none
 |some false=>match cs with
  |c::_=>some (.cell (.d c))
  |[]=>none
 |none=>none
omit [Tabs]in
theorem v0h{α:Type}(s:Nat)(c:Nat->α)(i:Nat)(x:α)(h:i<s):((List.range s).map c).toArray.getD i x=c i:=by
 simp[r2j,h]
omit [Tabs]in
theorem o1h{P:Program}{t:TypeId}{cs:List AC}{x:AV}{w:World}{F:Nat->Prop}{ρ:Env}{tm:Array Value}{b off:Nat}(c:Nat->Value)
  (h:k0j P t cs=some x)(hc:∀i,i<cs.length->w.cell? ⟨b,off+i,none⟩=some (c i))(hr:∀i (h:i<cs.length),RelAC w F ρ cs[i] (c i)):
  ∃v,(loadVar t ⟨b,off,none⟩).run P w=.ok v w/\RelAV w F ρ tm x v:=by
 unfold k0j at h;split at h
 ·rename_i ha
  split at h
  ·rename_i s hs
   cases hb:Nat.ble s cs.length with
   |false=>rw[hb]at h;cases h
   |true=>
    rw[hb]at h;simp only[u2j,r2l]at h;subst h;have hle:=r2u hb;refine⟨_,i0u c ha hs (λi hi=>hc i (by omega)),c0r (.agg _ _ (by simp;omega) λi hi=>?_)⟩;simp only[s2g]at hi;rw[v0h _ _ _ _ (by omega),List.getElem_take];exact hr i (by omega)
  ·cases h
 ·rename_i ha
  split at h
  ·rename_i c0 r
   cases h;exact⟨c 0,i0k ha (hc 0 (by simp)),.cell _ _ (hr 0 (by simp))⟩
  ·cases h
 ·cases h
omit [Tabs]in
theorem a1u{P:Program}{t:TypeId}{cs:List D}{x:AV}{w:World}{F:Nat->Prop}{ρ:Env}{tm:Array Value}{b off:Nat}(c:Nat->Value)
  (h:f0v P t cs=some x)(hc:∀i,i<cs.length->w.cell? ⟨b,off+i,none⟩=some (c i))(hr:∀i (h:i<cs.length),RelD w F cs[i] (c i)):
  ∃v,(loadVar t ⟨b,off,none⟩).run P w=.ok v w/\RelAV w F ρ tm x v:=by
 unfold f0v at h;split at h
 ·rename_i ha
  split at h
  ·rename_i s hs
   cases hb:Nat.ble s cs.length with
   |false=>rw[hb]at h;cases h
   |true=>
    rw[hb]at h;simp only[u2j,r2l]at h;subst h;have hle:=r2u hb;refine⟨_,i0u c ha hs (λi hi=>hc i (by omega)),.aggD _ _ (by simp;omega) λi hi=>?_⟩;simp only[s2g]at hi;rw[v0h _ _ _ _ (by omega),List.getElem_take];exact hr i (by omega)
  ·cases h
 ·rename_i ha
  split at h
  ·rename_i c0 r
   cases h;exact⟨c 0,i0k ha (hc 0 (by simp)),.cell _ _ (.d _ _ (hr 0 (by simp)))⟩
  ·cases h
 ·cases h
def w1x(P:Program)(t:TypeId)(f:Nat):Option (Nat×TypeId):=
 match P.underlying t with
 |some (.struct fs)=>match fs[f]? with
  |some g=>match d0t P g.type with
   |some (_+1)=>some (g.offset,g.type)
   |_=>none
  |none=>none
 |_=>none
def AV.strip (c:Operand)(want:Bool)(x:AV):AV:=
 match c,x with
 |.tmp t,.whn g w y=>bif Nat.beq t g&& (w==want)then y else x
 |_,_=>x
def n0c:AV->Option Bool
 |.cell (.d (.sc (.bool b)))=>some b
 |_=>none
def j0z:AV->Bool
 |.cell (.d (.sc (.pointer none)))=>true
 |_=>false
def c0b:AObj->Bool
 |.box _ _=>true
 |.gone=>false
 |.arr _ _ _ _=>false
 |.na _ _ _=>false
 |.any=>false
 |.tab _ _=>false
 |.it _ _=>false
 |.fz _ _=>false
 |.mi _ _ _ _=>false
 |.mp _ _ _ _ _=>false
 |.mr _ _ _ _ _ _=>false
def g0g:AObj->Bool
 |.arr _ _ _ _=>true
 |.na _ _ _=>true
 |.any=>false
 |.gone=>false
 |.box _ _=>false
 |.tab _ _=>false
 |.it _ _=>false
 |.fz _ _=>true
 |.mi _ _ _ _=>false
 |.mp _ _ _ _ _=>false
 |.mr _ _ _ _ _ _=>false
def isMp:AObj->Bool
 |.mp _ _ _ _ _=>true
 |_=>false
def y0f(ob:List (Nat×AObj)):AV->Bool
 |.cell (.ptr k _)=>c0b (lkO ob k)
 |.cell (.elt k _ _ _)=>g0g (lkO ob k)
 |.cell (.d (.rp _))=>true
 |_=>false
def c0e:List AV->Option (List AC)
 |[]=>some []
 |.cell c::r=>(c0e r).map (c:: ·)
 |_=>none
def e0u:List AV->Option (List Value)
 |[]=>some []
 |.cell (.d (.sc v))::r=>(e0u r).map (v:: ·)
 |_=>none
def b1g:Option Next->Option Value
 |some (.value v)=>some v
 |_=>none
def m1n(v:Value):AV:=bif v.oneCell' then .cell (.d (.sc v))else .junk
def v0l(P:Program)(t:TypeId):Bool:=
 match P.underlying t with
 |some (.slice _)=>true
 |_=>false
def l1b(P:Program)(t:TypeId):Bool:=
 match P.underlying t with
 |some (.pointer _)=>true
 |_=>false
def f2n(fr:List (Nat×AV))(c a b:Operand):Option AV:=
 match n0c (ev fr c)with
 |none=>none
 |some t=>match n0c ((ev fr a).strip c true),n0c ((ev fr b).strip c false)with
  |some p,some q=>some (.cell (.d (.sc (.bool (cond t p q)))))
  |some p,none=>bif t then some (.cell (.d (.sc (.bool p))))else none
  |none,some q=>bif t then none else some (.cell (.d (.sc (.bool q))))
  |none,none=>none
def l1l(P:Program)(fr:List (Nat×AV))(ob:List (Nat×AObj))(t:TypeId)(a:Operand):Option AV:=
 match ev fr a with
 |.cell (.ptr k off)=>match lkO ob k with
  |.box cs _=>k0j P t (cs.drop off)
  |_=>none
 |.cell (.elt k e j off)=>match lkO ob k with
  |.arr _ _ _ cs=>bif Nat.ble (j*e+off) cs.length then f0v P t (cs.drop (j*e+off))else none
  |_=>none
 |.cell (.d (.rp cs))=>f0v P t cs
 |_=>none
def vNil(ob:List (Nat×AObj))(op:BinOp)(x y:AV):Option AV:=
 bif (y0f ob x&&j0z y) || (y0f ob y&&j0z x)then
  match op with
  |.eql=>some (.cell (.d (.sc (.bool false))))
  |.neq=>some (.cell (.d (.sc (.bool true))))
  |_=>none
 else none
def vBin(P:Program)(fr:List (Nat×AV))(ob:List (Nat×AObj))(op:BinOp)(t:TypeId)(x y:Operand):Option AV:=
 match scV (ev fr x),scV (ev fr y)with
 |some u,some v=>(h0q P (do eqGuard op t x y u v;binOp op t u v)).map m1n
 |_,_=>bif l1b P t then vNil ob op (ev fr x) (ev fr y)else none
def vUn(P:Program)(fr:List (Nat×AV))(op:UnOp)(x:Operand):Option AV:=
 match scV (ev fr x)with
 |some u=>(h0q P (Op.unary op u)).map m1n
 |none=>none
def p2m(P:Program)(fr:List (Nat×AV))(s d:TypeId)(x:Operand):Option AV:=
 match scV (ev fr x)with
 |some u=>(h0q P (convert s d u)).map m1n
 |none=>none
def p1s(P:Program)(fr:List (Nat×AV))(ob:List (Nat×AObj))(t:TypeId)(x:Operand)(f:Nat):Option AV:=
 match w1x P t f with
 |some (o,_)=>match ev fr x with
  |.cell (.ptr k off)=>bif c0b (lkO ob k)then some (.cell (.ptr k (off+o)))else none
  |.cell (.elt k e j off)=>bif g0g (lkO ob k)then some (.cell (.elt k e j (off+o)))else none
  |.cell (.d (.rp cs))=>some (.cell (.d (.rp (cs.drop o))))
  |_=>none
 |none=>none
def e2d(P:Program)(t:TypeId)(f:Nat):Option (Nat×TypeId):=
 match P.underlying t with
 |some (.struct fs)=>match fs[f]? with
  |some g=>some (g.offset,g.type)
  |none=>none
 |_=>none
def e1i(P:Program)(fr:List (Nat×AV))(t:TypeId)(x:Operand)(f:Nat):Option AV:=
 match e2d P t f with
 |some (o,ft)=>match ev fr x with
  |.aggD cs=>f0v P ft (cs.drop o)
  |.agg cs=>k0j P ft (cs.drop o)
  |_=>none
 |none=>none
def k1c(fr:List (Nat×AV))(x:Operand)(i:Nat):Option AV:=
 match ev fr x with
 |.tup vs=>vs[i]?
 |_=>none
def m2n(fr:List (Nat×AV))(fn:Fn)(first captured:Array Operand):Option AV:=
 match c0e (first.toList.map (ev fr)),c0e (captured.toList.map (ev fr))with
 |some fs,some cs=>some (.cell (.fn fn fs cs))
 |_,_=>none
def vLen(P:Program)(ob:List (Nat×AObj))(t:TypeId)(x:AV):Option AV:=
 bif v0l P t then match x with
  |.cell (.d (.sl _ n _))=>some (.cell (.d (.sc (.int .i64 n))))
  |.cell (.d (.nl _ xs))=>some (.cell (.d (.sc (.int .i64 (xs.length:Nat)))))
  |.cell (.own k)=>match lkO ob k with
   |.arr _ _ n _=>some (.cell (.d (.sc (.int .i64 n))))
   |.na _ _ xs=>some (.cell (.d (.sc (.int .i64 (xs.length:Nat)))))
   |_=>none
  |_=>none
 else none
def z0a(P:Program)(fr:List (Nat×AV))(ob:List (Nat×AObj))(b:Builtin)(args:Array Operand)(ats:Array TypeId)(t:TypeId):Option AV:=
 match e0u (args.toList.map (ev fr))with
 |some vs=>(b1g (h0q P (builtin b ats t (args.map λ|.const _=>true|_=>false) vs.toArray))).map m1n
 |none=>match b,args.toList,ats.toList with
  |.len,[x],[u]=>vLen P ob u (ev fr x)
  |_,_,_=>none
def val1(P:Program)(fr:List (Nat×AV))(ob:List (Nat×AObj))(o:Oper):Option AV:=
 match o.op with
 |.move x=>some (ev fr x)
 |.assign x=>some (ev fr x)
 |.pick c a b=>f2n fr c a b
 |.load t a=>l1l P fr ob t a
 |.nilCheck x=>bif y0f ob (ev fr x)then some (ev fr x)else none
 |.binOp op t x y _=>vBin P fr ob op t x y
 |.unOp op _ x=>vUn P fr op x
 |.convert s d x=>p2m P fr s d x
 |.fieldAddr t x f=>p1s P fr ob t x f
 |.field t x f=>e1i P fr t x f
 |.extract x i=>k1c fr x i
 |.makeFunc fn first captured=>m2n fr fn first captured
 |.call {callee:=.builtin b,args:=as,argTypes:=ts}=>z0a P fr ob b as ts o.type
 |_=>none
omit [Tabs]in
theorem l0w{w:World}{F:Nat->Prop}{ρ:Env}{tm:Array Value}(v:Value):RelAV w F ρ tm (m1n v) v:=by
 unfold m1n;cases h:v.oneCell' with
 |true=>exact .cell _ _ (.d _ _ (.sc v h))
 |false=>exact .junk v
omit [Tabs]in
theorem c0p{w:World}{F:Nat->Prop}{ρ:Env}{tm:Array Value}{x:AV}{b:Bool}{v:Value}(h:RelAV w F ρ tm x v)(hs:n0c x=some b):v=.bool b:=by
 unfold n0c at hs;split at hs
 ·cases hs
  cases h with
  |cell c v h=>cases h with
   |d x v h=>cases h with
    |sc v h=>rfl
 ·cases hs
theorem a1c{N:Nat}{F:Nat->Prop}{ρ:Env}{st:ASt}{a:Act}{w:World}(h:Rel N F ρ st a w){c x:Operand}{b:Bool}(hc:a.eval c=.bool b):
  RelAV w F ρ a.tmps ((ev st.fr x).strip c b) (a.eval x):=by
 have hx:=a0d h x;generalize ev st.fr x=y at hx;unfold AV.strip;split
 ·rename_i t g wn z
  cases hb:(Nat.beq t g&& (wn==b))with
  |false=>exact hx
  |true=>
   simp only[r2i,beq_iff_eq]at hb;obtain⟨h1,rfl⟩:=hb;have e:=r2h h1;subst e;cases hx with
   |whn g want x v h1 h2=>exact h1 hc
 ·exact hx
theorem c1c{N:Nat}{F:Nat->Prop}{ρ:Env}{st:ASt}{a:Act}{w:World}(h:Rel N F ρ st a w){k:Nat}(hp:g0g (lkO st.ob k)=true):∃u,ρ k=some (.arr u):=by
 have ho:=h.ob k;generalize lkO st.ob k=o at hp ho;cases ho with
 |gone h=>simp[g0g]at hp
 |box=>simp[g0g]at hp
 |any=>simp[g0g]at hp
 |tab=>simp[g0g]at hp
 |it=>simp[g0g]at hp
 |fz t xs u hk h=>exact⟨u,hk⟩
 |mi=>simp[g0g]at hp
 |mp=>simp[g0g]at hp
 |mr=>simp[g0g]at hp
 |arr t e n cs u xs hk ho hs hh=>exact⟨u,hk⟩
 |na t e xs ho=>cases ho with
  |arr t e n cs u xs hk ho hs hh=>exact⟨u,hk⟩
theorem n0i{N:Nat}{F:Nat->Prop}{ρ:Env}{st:ASt}{a:Act}{w:World}(h:Rel N F ρ st a w){x:AV}{v:Value}(hx:RelAV w F ρ a.tmps x v)(hp:y0f st.ob x=true):
  ∃b off,v=.pointer (some ⟨b,off,none⟩):=by
 unfold y0f at hp;split at hp
 ·rename_i k off
  have ho:=h.ob k;generalize lkO st.ob k=o at hp ho;cases ho with
  |gone h=>simp[c0b]at hp
  |arr=>simp[c0b]at hp
  |na=>simp[c0b]at hp
  |any=>simp[c0b]at hp
  |tab=>simp[c0b]at hp
  |it=>simp[c0b]at hp
  |fz=>simp[c0b]at hp
  |mi=>simp[c0b]at hp
  |mp=>simp[c0b]at hp
  |mr=>simp[c0b]at hp
  |box cs oty b c t aQ hk hb hs hh=>
   cases hx with
   |cell c v hx=>cases hx with
    |ptr k off v hx=>exact⟨b,off,hx b hk⟩
 ·rename_i k e j off
  obtain⟨u,hk⟩:=c1c h hp;cases hx with
  |cell c v hx=>cases hx with
   |elt k e j off v hx=>
    obtain⟨g,n,cap,_,e1⟩:=hx u hk;exact⟨g,_,e1⟩
 ·cases hx with
  |cell c v hx=>cases hx with
   |d x v hx=>cases hx with
    |rp cs b off c hF hc hr=>exact⟨b,off,rfl⟩
 ·cases hp
omit [Tabs]in
theorem o0q{w:World}{F:Nat->Prop}{ρ:Env}{tm:Array Value}{x:AV}{v:Value}(h:RelAV w F ρ tm x v)(hs:j0z x=true):v=.pointer none:=by
 unfold j0z at hs;split at hs
 ·cases h with
  |cell c v h=>cases h with
   |d x v h=>cases h with
    |sc v h=>rfl
 ·cases hs
omit [Tabs]in
theorem i0t:∀{l:List AV} {cs:List AC},c0e l=some cs->l=cs.map .cell
 |[],cs,h=>by simp only[c0e,r2l]at h;subst h;rfl
 |.cell c::r,cs,h=>by
  simp only[c0e,t2f]at h;obtain⟨l,hl,rfl⟩:=h;simp[i0t hl]
 |.agg _::_,_,h=>by simp[c0e]at h
 |.aggD _::_,_,h=>by simp[c0e]at h
 |.tup _::_,_,h=>by simp[c0e]at h
 |.whn _ _ _::_,_,h=>by simp[c0e]at h
 |.junk::_,_,h=>by simp[c0e]at h
omit [Tabs]in
theorem l1a:∀{l:List AV} {cs:List Value},e0u l=some cs->l=cs.map λv=>.cell (.d (.sc v))
 |[],cs,h=>by simp only[e0u,r2l]at h;subst h;rfl
 |.cell (.d (.sc c))::r,cs,h=>by
  simp only[e0u,t2f]at h;obtain⟨l,hl,rfl⟩:=h;simp[l1a hl]
 |.cell (.d (.sl _ _ _))::_,_,h=>by simp[e0u]at h
 |.cell (.d (.rp _))::_,_,h=>by simp[e0u]at h
 |.cell (.own _)::_,_,h=>by simp[e0u]at h
 |.cell (.ptr _ _)::_,_,h=>by simp[e0u]at h
 |.cell (.elt _ _ _ _)::_,_,h=>by simp[e0u]at h
 |.cell (.osl _ _ _ _)::_,_,h=>by simp[e0u]at h
 |.cell (.pn _)::_,_,h=>by simp[e0u]at h
 |.cell (.ifo _ _)::_,_,h=>by simp[e0u]at h
 |.cell (.mpr _)::_,_,h=>by simp[e0u]at h
 |.cell (.row _ _)::_,_,h=>by simp[e0u]at h
 |.cell (.fn _ _ _)::_,_,h=>by simp[e0u]at h
 |.cell .junk::_,_,h=>by simp[e0u]at h
 |.agg _::_,_,h=>by simp[e0u]at h
 |.aggD _::_,_,h=>by simp[e0u]at h
 |.tup _::_,_,h=>by simp[e0u]at h
 |.whn _ _ _::_,_,h=>by simp[e0u]at h
 |.junk::_,_,h=>by simp[e0u]at h
theorem a1i{N:Nat}{F:Nat->Prop}{ρ:Env}{st:ASt}{a:Act}{w:World}(h:Rel N F ρ st a w):∀{xs:List Operand} {vs:List Value},e0u (xs.map (ev st.fr))=some vs->xs.map a.eval=vs
 |[],vs,hh=>by simp only[t2u,e0u,r2l]at hh;subst hh;rfl
 |x::r,vs,hh=>by
  have e:=l1a hh;cases vs with
  |nil=>simp at e
  |cons v vs=>
   simp only[r2z,List.cons.injEq]at e;have h1:=a0d h x;rw[e.1]at h1;have h2:=(a0i (u:=v) h1 rfl).1;have h3:e0u (r.map (ev st.fr))=some vs:=by
    simp only[r2z,e.1,e0u,t2f]at hh;obtain⟨l,hl,he⟩:=hh;simp only[List.cons.injEq,true_and]at he;rw[hl,he]
   simp[h2,a1i h h3]
omit [Tabs]in
theorem o0c{P:Program}{t:TypeId}{f o:Nat}{ft:TypeId}(h:w1x P t f=some (o,ft))(b off:Nat)(w:World):
  (Instr.fieldAt t (.pointer (some ⟨b,off,none⟩)) f).run P w=.ok (.pointer (some ⟨b,off+o,none⟩)) w:=by
 unfold w1x at h;split at h
 ·rename_i fs hu
  split at h
  ·rename_i g hg
   split at h
   ·rename_i s hs
    simp only[r2l,Prod.mk.injEq]at h;obtain⟨rfl,rfl⟩:=h;simp[Instr.fieldAt,run_underlying hu,hg,Instr.sureAddr,fieldPlace,a0g hs,Addr.add_lit]
   ·cases h
  ·cases h
 ·cases h
def VR(P:Program)(F:Nat->Prop)(ρ:Env)(a:Act)(w:World)(o:Oper)(x:AV):Prop:=
 ∃v,(execOp a.eval o).run P w=.ok (.value v) w/\RelAV w F ρ a.tmps x v
section
variable{P:Program}{N:Nat}{F:Nat->Prop}{ρ:Env}{st:ASt}{a:Act}{w:World}
theorem p1k(h:Rel N F ρ st a w){c p q:Operand}{x:AV}(hv:f2n st.fr c p q=some x):∃v t,a.eval c=.bool t/\v=(if t then a.eval p else a.eval q)/\RelAV w F ρ a.tmps x v:=by
 unfold f2n at hv;split at hv
 ·cases hv
 ·rename_i t h1
  have e1:=c0p (a0d h c) h1;have ht:∀bp,t=true->n0c ((ev st.fr p).strip c true)=some bp->a.eval p=.bool bp:=λbp e h2=>c0p (a1c h (x:=p) (e▸e1)) h2;have hf:∀bq,t=false->n0c ((ev st.fr q).strip c false)=some bq->a.eval q=.bool bq:=λbq e h2=>c0p (a1c h (x:=q) (e▸e1)) h2;refine⟨_,t,e1,rfl,?_⟩;split at hv
  ·rename_i bp bq h2 h3
   cases hv;cases t with
   |true=>
    simp only[if_true,ht bp rfl h2,u2j];exact .cell _ _ (.d _ _ (.sc _ rfl))
   |false=>
    simp only[u2g,if_false,hf bq rfl h3,u2k];exact .cell _ _ (.d _ _ (.sc _ rfl))
  ·rename_i bp h2 h3
   cases t with
   |true=>
    cases hv;simp only[if_true,ht bp rfl h2];exact .cell _ _ (.d _ _ (.sc _ rfl))
   |false=>cases hv
  ·rename_i bq h2 h3
   cases t with
   |true=>cases hv
   |false=>
    cases hv;simp only[u2g,if_false,hf bq rfl h3];exact .cell _ _ (.d _ _ (.sc _ rfl))
  ·cases hv
theorem r0h(h:Rel N F ρ st a w){t:TypeId}{p:Operand}{x:AV}(hv:l1l P st.fr st.ob t p=some x):∃v,(Instr.loadAt t (a.eval p)).run P w=.ok v w/\RelAV w F ρ a.tmps x v:=by
 have hp:=a0d h p;generalize a.eval p=pv at hp⊢;unfold l1l at hv;split at hv
 ·rename_i k off he
  rw[he]at hp;split at hv
  ·rename_i cs bE
   have aH:=h.ob k;rw[bE]at aH;cases aH with
   |box cs oty b c ty aQ hk hb hs hh=>
    cases hp with
    |cell c' v hp=>cases hp with
     |ptr k off v hp=>
      have e:=hp b hk;subst e;obtain⟨v,hrun,hrel⟩:=o1h (P:=P) (w:=w) (F:=F) (ρ:=ρ) (tm:=a.tmps) (b:=b) (off:=off) (λi=>c.getD (off+i) undef) hv
       (λi hi=>by
        simp only[s2n]at hi;simp[World.cell?,hb,r2j,s2h (show off+i<c.size by omega)])
       (λi hi=>by
        simp only[s2n]at hi;rw[List.getElem_drop];exact hh (off+i) (by omega))
      exact⟨v,by simp[Instr.loadAt,Instr.sureAddr,hrun],hrel⟩
  ·cases hv
 ·rename_i k e j off he
  rw[he]at hp;split at hv
  ·rename_i fJ e' n' cs bE
   cases hb:Nat.ble (j*e+off) cs.length with
   |false=>rw[hb]at hv;cases hv
   |true=>
   rw[hb,u2j]at hv;have hle:=r2u hb;have aH:=h.ob k;rw[bE]at aH;cases aH with
   |arr t e n cs u xs hk ho hs hh=>
    cases hp with
    |cell c' v hp=>cases hp with
     |elt k e j off v hp=>
      obtain⟨g,n2,cap,e1,e2⟩:=hp u hk;subst e1;subst e2;obtain⟨v,hrun,hrel⟩:=a1u (P:=P) (w:=w) (F:=F) (ρ:=ρ) (tm:=a.tmps) (b:=g) (off:=j*e+off) (λi=>xs.getD (j*e+off+i) undef) hv
       (λi hi=>by
        simp only[s2n]at hi;have h5:=ho.cells (g:=g) rfl (j*e+off+i) (xs.getD (j*e+off+i) undef) (by
         rw[r2o,r2k (by omega),t2r])
        rw[Addr.add_lit,s2u]at h5;exact h5)
       (λi hi=>by
        simp only[s2n]at hi;rw[List.getElem_drop];exact hh (j*e+off+i) (by omega))
      exact⟨v,by simp[Instr.loadAt,Instr.sureAddr,hrun],hrel⟩
  ·cases hv
 ·rename_i cs he
  rw[he]at hp;cases hp with
  |cell c' v hp=>cases hp with
   |d y v hp=>cases hp with
    |rp cs b off c hF hc hr=>
     obtain⟨v,hrun,hrel⟩:=a1u (P:=P) (w:=w) (F:=F) (ρ:=ρ) (tm:=a.tmps) (b:=b) (off:=off) c hv hc hr;exact⟨v,by simp[Instr.loadAt,Instr.sureAddr,hrun],hrel⟩
 ·cases hv
omit [Tabs]in
theorem p1g{t:TypeId}(h:l1b P t=true):∃e,P.underlying t=some (.pointer e):=by
 unfold l1b at h;split at h
 ·exact⟨_,by assumption⟩
 ·cases h
omit [Tabs]in
theorem g1t(d:Nat){t e:TypeId}(hu:P.underlying t=some (.pointer e))(y:Option Addr):(Op.equalIn (d+1) t (.pointer none) (.pointer y)).run P w=.ok y.isNone w:=by
 simp[Op.equalIn,run_underlying hu]
omit [Tabs]in
theorem z0f(d:Nat){t e:TypeId}(hu:P.underlying t=some (.pointer e))(y:Addr):(Op.equalIn (d+1) t (.pointer (some y)) (.pointer none)).run P w=.ok false w:=by
 simp[Op.equalIn,run_underlying hu]
omit [Tabs]in
theorem a1b{t e:TypeId}(hu:P.underlying t=some (.pointer e))(y:Option Addr):(Op.equal t (.pointer none) (.pointer y)).run P w=.ok y.isNone w:=g1t 9999 hu y
omit [Tabs]in
theorem v0f{t e:TypeId}(hu:P.underlying t=some (.pointer e))(y:Addr):(Op.equal t (.pointer (some y)) (.pointer none)).run P w=.ok false w:=z0f 9999 hu y
theorem y1b(h:Rel N F ρ st a w){op:BinOp}{t:TypeId}{p q:Operand}{x:AV}(hv:vBin P st.fr st.ob op t p q=some x):
  ∃v,(do eqGuard op t p q (a.eval p) (a.eval q);binOp op t (a.eval p) (a.eval q):Sem Value).run P w=.ok v w/\RelAV w F ρ a.tmps x v:=by
 have hp:=a0d h p;have hq:=a0d h q;unfold vBin at hv;split at hv
 ·rename_i u v hu cM
  simp only[t2f]at hv;obtain⟨r,hr,rfl⟩:=hv;rw[(a0i hp hu).1,(a0i hq cM).1];exact⟨r,h0w hr w,l0w r⟩
 ·cases ht:l1b P t with
  |false=>rw[ht]at hv;cases hv
  |true=>
   rw[ht,u2j]at hv;obtain⟨e,hu⟩:=p1g ht;generalize a.eval p=pv at hp⊢;generalize a.eval q=qv at hq⊢;unfold vNil at hv;cases hc:(y0f st.ob (ev st.fr p)&&j0z (ev st.fr q) || y0f st.ob (ev st.fr q)&&j0z (ev st.fr p))with
   |false=>rw[hc]at hv;cases hv
   |true=>
    rw[hc,u2j]at hv;simp only[u2c,r2i]at hc;rcases hc with⟨h1,h2⟩| ⟨h1,h2⟩
    ·obtain⟨b,off,rfl⟩:=n0i h hp h1
     have:=o0q hq h2;subst this;split at hv
     ·cases hv
      exact⟨.bool false,by simp[eqGuard,binOp,v0f hu],.cell _ _ (.d _ _ (.sc _ rfl))⟩
     ·cases hv
      exact⟨.bool true,by simp[eqGuard,binOp,v0f hu],.cell _ _ (.d _ _ (.sc _ rfl))⟩
     ·cases hv
    ·obtain⟨b,off,rfl⟩:=n0i h hq h1
     have:=o0q hp h2;subst this;split at hv
     ·cases hv
      exact⟨.bool false,by simp[eqGuard,binOp,a1b hu],.cell _ _ (.d _ _ (.sc _ rfl))⟩
     ·cases hv
      exact⟨.bool true,by simp[eqGuard,binOp,a1b hu],.cell _ _ (.d _ _ (.sc _ rfl))⟩
     ·cases hv
theorem l1u(h:Rel N F ρ st a w){t:TypeId}{p:Operand}{f:Nat}{x:AV}(hv:p1s P st.fr st.ob t p f=some x):
  ∃v,(Instr.fieldAt t (a.eval p) f).run P w=.ok v w/\RelAV w F ρ a.tmps x v:=by
 have hp:=a0d h p;generalize a.eval p=pv at hp⊢;unfold p1s at hv;split at hv
 ·rename_i o ft hf
  split at hv
  ·rename_i k off he
   rw[he]at hp;cases hb:c0b (lkO st.ob k)with
   |false=>rw[hb]at hv;cases hv
   |true=>
    rw[hb]at hv;cases hv;have gR:=n0i h hp (by simpa[y0f]using hb);obtain⟨b,lg,e⟩:=gR;subst e;refine⟨_,o0c hf b lg w,.cell _ _ (.ptr _ _ _ λb' hb' =>?_)⟩;cases hp with
    |cell c v hp=>cases hp with
     |ptr k off v hp=>
      have:=hp b' hb';simp only[Value.pointer.injEq,r2l,Addr.mk.injEq,and_true]at this;rw[this.1,this.2]
  ·rename_i k e j off he
   rw[he]at hp;cases hb:g0g (lkO st.ob k)with
   |false=>rw[hb]at hv;cases hv
   |true=>
    rw[hb]at hv;cases hv;obtain⟨u,hk⟩:=c1c h hb;cases hp with
    |cell c v hp=>cases hp with
     |elt k e j off v hp=>
      obtain⟨g,n,cap,e1,e2⟩:=hp u hk;subst e2;refine⟨_,o0c hf g (j*e+off) w,.cell _ _ (.elt _ _ _ _ _ λu' cK=>?_)⟩;rw[hk]at cK;cases cK;exact⟨g,n,cap,e1,by rw[u2h]⟩
  ·rename_i cs he
   rw[he]at hp;cases hv;cases hp with
   |cell c v hp=>cases hp with
    |d y v hp=>cases hp with
     |rp cs b off c hF hc hr=>
      refine⟨_,o0c hf b off w,.cell _ _ (.d _ _ (.rp _ _ _ (λi=>c (o+i)) (λh=>hF λe=>h (by rw[e];simp)) (λi hi=>?_) λi hi=>?_))⟩
      ·simp only[s2n]at hi
       rw[u2h];exact hc (o+i) (by omega)
      ·simp only[s2n]at hi
       rw[List.getElem_drop];exact hr (o+i) (by omega)
  ·cases hv
 ·cases hv
theorem c2q(h:Rel N F ρ st a w){u:TypeId}{y:AV}{v:Value}(ty:TypeId)(hy:RelAV w F ρ a.tmps y v){x:AV}(hv:vLen P st.ob u y=some x):
  ∃r,(Builtin.len_ #[u] ty #[v]).run P w=.ok r w/\RelAV w F ρ a.tmps x r:=by
 unfold vLen at hv;cases hs:v0l P u with
 |false=>rw[hs]at hv;cases hv
 |true=>
  rw[hs,u2j]at hv;obtain⟨e,hu⟩:∃e,P.underlying u=some (.slice e):=by
   unfold v0l at hs;split at hs
   ·exact⟨_,by assumption⟩
   ·cases hs
  have key:∀ad n cap,(Builtin.len_ #[u] ty #[.slice ad n cap]).run P w=.ok (.int .i64 n) w:=λad n cap=>by
   simp[Builtin.len_,run_underlying hu,goInt]
  have slK:∀{e' n:Nat} {cs:List D} {v:Value},RelD w F (.sl e' n cs) v->(Builtin.len_ #[u] ty #[v]).run P w=.ok (.int .i64 n) w:=by
   intro e' n cs v hy;cases hy with
   |nil e' ad cap=>exact key _ _ _
   |sl e' n cs b off cap c hF hl aU hc hr=>exact key _ _ _
  have arK:∀{k:Nat} {t' :TypeId} {e' n:Nat} {cs:List D} {v:Value},RelOb w F ρ k (.arr t' e' n cs)->RelAV w F ρ a.tmps (.cell (.own k)) v->(Builtin.len_ #[u] ty #[v]).run P w=.ok (.int .i64 n) w:=by
   intro k t' e' n cs v aH hy;cases aH with
   |arr t e'' n cs u' xs hk ho hs hh=>
    cases hy with
    |cell c v hy=>cases hy with
     |own k v hy=>
      have e1:=hy u' hk;subst e1;rcases ho.2 with⟨rfl,rfl⟩| ⟨g,cap,cur,rfl,_⟩
      ·exact key _ _ _
      ·exact key _ _ _
  split at hv
  ·cases hv
   cases hy with
   |cell c v hy=>cases hy with
    |d z v hy=>exact⟨_,slK hy,.cell _ _ (.d _ _ (.sc _ rfl))⟩
  ·cases hv
   cases hy with
   |cell c v hy=>cases hy with
    |d z v hy=>cases hy with
     |nl t xs v hy=>exact⟨_,slK hy,.cell _ _ (.d _ _ (.sc _ rfl))⟩
  ·rename_i k
   split at hv
   ·rename_i t' e' n cs hk
    cases hv;have aH:=h.ob k;rw[hk]at aH;exact⟨_,arK aH hy,.cell _ _ (.d _ _ (.sc _ rfl))⟩
   ·rename_i t' e' xs hk
    cases hv;have aH:=h.ob k;rw[hk]at aH;cases aH with
    |na t e xs aH=>exact⟨_,arK aH hy,.cell _ _ (.d _ _ (.sc _ rfl))⟩
   ·cases hv
  ·cases hv
theorem c1t(h:Rel N F ρ st a w){b:Builtin}{as:Array Operand}{ts:Array TypeId}{t:TypeId}{x:AV}(hv:z0a P st.fr st.ob b as ts t=some x):
  ∃v,(builtin b ts t (as.map λ|.const _=>true|_=>false) (as.map a.eval)).run P w=.ok (.value v) w/\RelAV w F ρ a.tmps x v:=by
 unfold z0a at hv;split at hv
 ·rename_i vs hs
  simp only[t2f]at hv;obtain⟨r,hr,rfl⟩:=hv;have e:=a1i h hs;have e' :as.map a.eval=vs.toArray:=by rw [<-e];cases as;simp
  rw[e'];unfold b1g at hr;split at hr
  ·rename_i v hp
   cases hr;exact⟨r,h0w hp w,l0w r⟩
  ·cases hr
 ·split at hv
  ·rename_i x' u h1 h2
   have e1:as=#[x']:=by cases as;simp_all
   have e2:ts=#[u]:=by cases ts;simp_all
   subst e1;subst e2;obtain⟨r,hr,hrel⟩:=c2q h t (a0d h x') hv;refine⟨r,?_,hrel⟩;simp only[builtin,List.map_toArray,r2z,t2u,Sem.run_bind,hr];rfl
  ·cases hv
omit [Tabs]in
theorem f0w{P:Program}{ft:TypeId}{arr:Array Value}{o s:Nat}(ha:i0b P ft=some true)(hs:d0t P ft=some s)(w:World):(part ft arr o).run P w=.ok (.agg (arr.extract o (o+s))) w:=by
 simp[part,m0m ha,a0g hs]
omit [Tabs]in
theorem g0c{P:Program}{ft:TypeId}{arr:Array Value}{o:Nat}(ha:i0b P ft=some false)(ho:o<arr.size)(w:World):(part ft arr o).run P w=.ok (arr.getD o undef) w:=by
 simp[part,m0m ha,r2j,ho]
theorem e1r(h:Rel N F ρ st a w){t:TypeId}{p:Operand}{f:Nat}{x:AV}(hv:e1i P st.fr t p f=some x):∃v,(Instr.field t (a.eval p) f).run P w=.ok v w/\RelAV w F ρ a.tmps x v:=by
 have hp:=a0d h p;generalize a.eval p=pv at hp⊢;unfold e1i at hv;split at hv
 ·rename_i o ft hf
  unfold e2d at hf;split at hf
  ·rename_i fs hu
   split at hf
   ·rename_i g hg
    cases hf;have hrun:∀arr:Array Value,(Instr.field t (.agg arr) f).run P w=(part g.type arr g.offset).run P w:=λarr=>by
     simp[Instr.field,run_underlying hu,hg,asAgg]
    split at hv
    ·rename_i cs he
     rw[he]at hp;cases hp with
     |aggD cs arr hs hh=>
      rw[hrun];unfold f0v at hv;split at hv
      ·rename_i ha
       split at hv
       ·rename_i s aR
        cases hb:Nat.ble s (cs.drop g.offset).length with
        |false=>rw[hb]at hv;cases hv
        |true=>
         rw[hb]at hv;simp only[u2j,r2l]at hv;subst hv;have hle:=r2u hb;rw[s2n]at hle;by_cases h0:s=0
         ·subst h0
          exact⟨_,f0w ha aR w,.aggD _ _ (by simp;omega) λi hi=>by simp at hi⟩
         ·refine⟨_,f0w ha aR w,.aggD _ _ (by simp;omega) λi hi=>?_⟩
          have aK:i<s:=by simp only[s2g]at hi;omega
          rw[List.getElem_take,List.getElem_drop];have e1:(arr.extract g.offset (g.offset+s)).getD i undef=arr.getD (g.offset+i) undef:=by
           rw[r2j,r2j,Array.getElem?_extract,if_pos (by omega)]
          rw[e1];exact hh (g.offset+i) (by omega)
       ·cases hv
      ·rename_i ha
       split at hv
       ·rename_i c r hc
        cases hv;have aJ:g.offset<cs.length:=by
         rcases t2y g.offset cs.length with h|h
         ·exact h
         ·rw[List.drop_eq_nil_of_le h]at hc;cases hc
        refine⟨_,g0c ha (by omega) w,.cell _ _ (.d _ _ ?_)⟩;have h1:=hh g.offset aJ;have e2:cs[g.offset]=c:=by rw[t2v aJ]at hc;cases hc;rfl
        rw[e2]at h1;exact h1
       ·cases hv
      ·cases hv
    ·rename_i cs he
     rw[he]at hp;cases hp with
     |agg cs arr hs hh=>
      rw[hrun];unfold k0j at hv;split at hv
      ·rename_i ha
       split at hv
       ·rename_i s aR
        cases hb:Nat.ble s (cs.drop g.offset).length with
        |false=>rw[hb]at hv;cases hv
        |true=>
         rw[hb]at hv;simp only[u2j,r2l]at hv;subst hv;have hle:=r2u hb;rw[s2n]at hle;by_cases h0:s=0
         ·subst h0
          exact⟨_,f0w ha aR w,c0r (.agg _ _ (by simp;omega) λi hi=>by simp at hi)⟩
         ·refine⟨_,f0w ha aR w,c0r (.agg _ _ (by simp;omega) λi hi=>?_)⟩
          have aK:i<s:=by simp only[s2g]at hi;omega
          rw[List.getElem_take,List.getElem_drop];have e1:(arr.extract g.offset (g.offset+s)).getD i undef=arr.getD (g.offset+i) undef:=by
           rw[r2j,r2j,Array.getElem?_extract,if_pos (by omega)]
          rw[e1];exact hh (g.offset+i) (by omega)
       ·cases hv
      ·rename_i ha
       split at hv
       ·rename_i c r hc
        cases hv;have aJ:g.offset<cs.length:=by
         rcases t2y g.offset cs.length with h|h
         ·exact h
         ·rw[List.drop_eq_nil_of_le h]at hc;cases hc
        refine⟨_,g0c ha (by omega) w,.cell _ _ ?_⟩;have h1:=hh g.offset aJ;have e2:cs[g.offset]=c:=by rw[t2v aJ]at hc;cases hc;rfl
        rw[e2]at h1;exact h1
       ·cases hv
      ·cases hv
    ·cases hv
   ·cases hf
  ·cases hf
 ·cases hv
theorem b2s(h:Rel N F ρ st a w){o:Oper}{x:AV}(hv:val1 P st.fr st.ob o=some x):VR P F ρ a w o x:=by
 obtain⟨dst,op,ty,pos,after,guard⟩:=o;unfold val1 at hv;unfold VR;cases op with
 |move y=>cases hv;exact⟨_,rfl,a0d h y⟩
 |assign y=>cases hv;exact⟨_,rfl,a0d h y⟩
 |pick c p q=>
  obtain⟨v,t,e,rfl,hr⟩:=p1k h hv;exact⟨_,by simp[execOp,e,asBool],hr⟩
 |load t p=>
  obtain⟨v,e,hr⟩:=r0h h hv;exact⟨v,by simp[execOp,e],hr⟩
 |nilCheck p=>
  dsimp only at hv;cases hb:y0f st.ob (ev st.fr p)with
  |false=>rw[hb]at hv;cases hv
  |true=>
   rw[hb]at hv;cases hv;obtain⟨b,off,e⟩:=n0i h (a0d h p) hb;exact⟨_,by simp only[execOp,e];rfl,e▸a0d h p⟩
 |binOp op t p q yt=>
  obtain⟨v,e,hr⟩:=y1b h hv;refine⟨v,?_,hr⟩;show Sem.run P (do pure (Next.value (<-(do eqGuard op t p q (a.eval p) (a.eval q);binOp op t (a.eval p) (a.eval q))))) w=_
  rw[Sem.run_bind,e];rfl
 |unOp op t p=>
  dsimp only at hv;unfold vUn at hv;split at hv
  ·rename_i u hu
   simp only[t2f]at hv;obtain⟨r,hr,rfl⟩:=hv;have e:=(a0i (a0d h p) hu).1;exact⟨r,by simp[execOp,e,h0w hr w],l0w r⟩
  ·cases hv
 |convert s d p=>
  dsimp only at hv;unfold p2m at hv;split at hv
  ·rename_i u hu
   simp only[t2f]at hv;obtain⟨r,hr,rfl⟩:=hv;have e:=(a0i (a0d h p) hu).1;exact⟨r,by simp[execOp,e,h0w hr w],l0w r⟩
  ·cases hv
 |fieldAddr t p f=>
  obtain⟨v,e,hr⟩:=l1u h hv;exact⟨v,by simp[execOp,e],hr⟩
 |field t p f=>
  obtain⟨v,e,hr⟩:=e1r h hv;exact⟨v,by simp[execOp,e],hr⟩
 |extract p i=>
  dsimp only at hv;unfold k1c at hv;have hp:=a0d h p;split at hv
  ·rename_i vs he
   rw[he]at hp;generalize eI:a.eval p=pv at hp;cases hp with
   |tup vs arr hs hh=>
    obtain⟨hi,e⟩:=r2p.1 hv;have aK:i<arr.size:=by omega
    have e1:arr.getD i undef=arr[i]:=by simp[r2j,aK]
    have e2:=s2h aK;refine⟨arr[i],?_,by rw [<-e, <-e1];exact hh i hi⟩;simp only[execOp,eI,Instr.extract,e2];rfl
  ·cases hv
 |makeFunc fn first captured=>
  dsimp only at hv;unfold m2n at hv;split at hv
  ·rename_i fs cs h1 h2
   cases hv;have e1:=i0t h1;have e2:=i0t h2;have l1:first.size=fs.length:=by simpa using congrArg List.length e1
   have l2:captured.size=cs.length:=by simpa using congrArg List.length e2
   refine⟨.func fn (first.map a.eval) (captured.map a.eval),by simp[execOp,Instr.makeFunc],.cell _ _ (.fn _ _ _ _ _ (by simpa using l1) (by simpa using l2) (λi hi=>?_) (λi hi=>?_))⟩
   ·have hh:=a0d h first[i]
    have e3:ev st.fr first[i]=.cell fs[i]:=by
     have:=congrArg (·[i]?) e1
     simpa[show i<first.size by omega,hi]using this
    rw[e3]at hh;have e4:(first.map a.eval).getD i undef=a.eval first[i]:=by simp[r2j,show i<first.size by omega]
    rw[e4];cases hh with
    |cell c v hh=>exact hh
   ·have hh:=a0d h captured[i]
    have e3:ev st.fr captured[i]=.cell cs[i]:=by
     have:=congrArg (·[i]?) e2
     simpa[show i<captured.size by omega,hi]using this
    rw[e3]at hh;have e4:(captured.map a.eval).getD i undef=a.eval captured[i]:=by simp[r2j,show i<captured.size by omega]
    rw[e4];cases hh with
    |cell c v hh=>exact hh
  ·cases hv
 |call c=>
  obtain⟨callee,args,ats⟩:=c;cases callee with
  |builtin b=>
   obtain⟨v,e,hr⟩:=c1t h hv;refine⟨v,?_,hr⟩;simp only[execOp,resolve,invoke,Sem.run_bind,Sem.run_pure,Result.andThen_ok];exact e
  |value f=>cases hv
  |invoke r m=>cases hv
 |_=>cases hv
end
end Esp
namespace Esp
open Go
variable [Tabs]
def AC.okIn (ob:List (Nat×AObj)):AC->Bool
 |.d _=>true
 |.own k=>g0g (lkO ob k)
 |.ptr k _=>c0b (lkO ob k)
 |.elt _ _ _ _=>false
 |.osl _ _ _ _=>false
 |.pn k=>c0b (lkO ob k)
 |.ifo _ _=>false
 |.mpr k=>isMp (lkO ob k)
 |.row _ _=>false
 |.fn _ _ _=>true
 |.junk=>false
def cellsOf(ob:List (Nat×AObj)):AV->Option (List AC)
 |.cell c=>bif c.okIn ob then some [c]else none
 |.agg cs=>some cs
 |.aggD cs=>some (cs.map .d)
 |_=>none
def RelL(w:World)(F:Nat->Prop)(ρ:Env)(cs:List AC)(arr:Array Value):Prop:=
 arr.size=cs.length/\∀i (h:i<cs.length),RelAC w F ρ cs[i] (arr.getD i undef)
omit [Tabs]in
theorem j1y{w:World}{F:Nat->Prop}{ρ:Env}{ob:List (Nat×AObj)}(aH:∀k,RelOb w F ρ k (lkO ob k)){c:AC}{v:Value}(h:RelAC w F ρ c v)(hc:c.okIn ob=true):v.oneCell' =true:=by
 cases h with
 |d x v h=>exact h.oneCell
 |own k v h=>
  simp only[AC.okIn]at hc;have ho:=aH k;generalize lkO ob k=o at hc ho;cases ho with
  |arr t e n cs u xs hk ho hs hh=>
   rw[h u hk];rcases ho.2 with⟨rfl,_⟩| ⟨g,cap,cur,rfl,_⟩<;>rfl
  |na t ee xs ho=>cases ho with
   |arr t e n cs u xs hk ho hs hh=>
    rw[h u hk];rcases ho.2 with⟨rfl,_⟩| ⟨g,cap,cur,rfl,_⟩<;>rfl
  |gone=>simp[g0g]at hc
  |tab=>simp[g0g]at hc
  |it=>simp[g0g]at hc
  |fz t xs u hk hz=>
   rw[h u hk];obtain⟨a,cap,rfl,_⟩:=hz;rfl
  |mi=>simp[g0g]at hc
  |mp=>simp[g0g]at hc
  |mr=>simp[g0g]at hc
  |any=>simp[g0g]at hc
  |box=>simp[g0g]at hc
 |ptr k off v h=>
  simp only[AC.okIn]at hc;have ho:=aH k;generalize lkO ob k=o at hc ho;cases ho with
  |box cs oty b c t aQ hk hb hs hh=>rw[h b hk];rfl
  |gone=>simp[c0b]at hc
  |na=>simp[c0b]at hc
  |any=>simp[c0b]at hc
  |tab=>simp[c0b]at hc
  |it=>simp[c0b]at hc
  |fz=>simp[c0b]at hc
  |mi=>simp[c0b]at hc
  |mp=>simp[c0b]at hc
  |mr=>simp[c0b]at hc
  |arr=>simp[c0b]at hc
 |elt=>simp[AC.okIn]at hc
 |osl=>simp[AC.okIn]at hc
 |ifo=>simp[AC.okIn]at hc
 |row=>simp[AC.okIn]at hc
 |mpr k v h=>
  simp only[AC.okIn]at hc;have ho:=aH k;generalize lkO ob k=o at hc ho;cases ho with
  |mp t kt vt l b es clock hk hb hs hh=>rw[h _ b hk rfl];rfl
  |mr=>simp[isMp]at hc
  |gone=>simp[isMp]at hc
  |na=>simp[isMp]at hc
  |any=>simp[isMp]at hc
  |tab=>simp[isMp]at hc
  |it=>simp[isMp]at hc
  |fz=>simp[isMp]at hc
  |mi=>simp[isMp]at hc
  |box=>simp[isMp]at hc
  |arr=>simp[isMp]at hc
 |pn k v h=>
  simp only[AC.okIn]at hc;have ho:=aH k;generalize lkO ob k=o at hc ho;cases ho with
  |box cs oty b c t aQ hk hb hs hh=>rcases h b hk with rfl|rfl<;>rfl
  |gone=>simp[c0b]at hc
  |na=>simp[c0b]at hc
  |any=>simp[c0b]at hc
  |tab=>simp[c0b]at hc
  |it=>simp[c0b]at hc
  |fz=>simp[c0b]at hc
  |mi=>simp[c0b]at hc
  |mp=>simp[c0b]at hc
  |mr=>simp[c0b]at hc
  |arr=>simp[c0b]at hc
 |fn=>rfl
 |junk v=>simp[AC.okIn]at hc
omit [Tabs]in
theorem d1d{v:Value}(h:v.oneCell' =true):v.cells=#[v]:=by
 cases v<;>first|rfl|(simp[Value.oneCell']at h)
omit [Tabs]in
theorem h0g{w:World}{F:Nat->Prop}{ρ:Env}{tm:Array Value}{ob:List (Nat×AObj)}(aH:∀k,RelOb w F ρ k (lkO ob k)){x:AV}{v:Value}{cs:List AC}(h:RelAV w F ρ tm x v)
  (hc:cellsOf ob x=some cs):RelL w F ρ cs v.cells:=by
 cases h with
 |cell c v h=>
  simp only[cellsOf]at hc;cases hk:c.okIn ob with
  |false=>rw[hk]at hc;cases hc
  |true=>
   rw[hk]at hc;cases hc;rw[d1d (j1y aH h hk)];refine⟨rfl,λi hi=>?_⟩;obtain rfl:i=0:=by simp at hi;omega
   simpa using h
 |agg cs arr hs h=>
  cases hc;exact⟨hs,h⟩
 |aggD cs arr hs h=>
  cases hc;refine⟨by simpa[Value.cells]using hs,λi hi=>?_⟩;simp only[List.getElem_map];exact .d _ _ (h i (by simpa using hi))
 |tup=>cases hc
 |whn=>cases hc
 |junk=>cases hc
def b0a{α:Type}(cs:List α)(off:Nat)(vs:List α):List α:=cs.take off++(vs++cs.drop (off+vs.length))
omit [Tabs]in
theorem a0s{α:Type}(cs:List α)(off:Nat)(vs:List α)(h:off+vs.length<=cs.length):(b0a cs off vs).length=cs.length:=by
 simp[b0a];omega
omit [Tabs]in
theorem e0e{α:Type}(cs:List α)(off:Nat)(vs:List α)(h:off+vs.length<=cs.length)(i:Nat):
  (b0a cs off vs)[i]?=if off<=i/\i<off+vs.length then vs[i - off]? else cs[i]?:=by
 unfold b0a;by_cases h1:i<off
 ·rw[s2w (by simp;omega),t2x,if_pos h1,if_neg (by omega)]
 ·rw[t2c (by simp;omega)]
  simp only[s2g,show min off cs.length=off by omega];by_cases h2:i<off+vs.length
  ·rw[s2w (by omega),if_pos ⟨by omega,h2⟩]
  ·rw[t2c (by omega),List.getElem?_drop,if_neg (by omega)]
   congr 1;omega
omit [Tabs]in
theorem a0v{arr:Array Value}{i:Nat}{v:Value}(h:arr[i]?=some v):arr.getD i undef=v:=by
 simp[r2j,h]
omit [Tabs]in
theorem v0o(off:Nat):∀(l:List Value) (s:Nat) (arr:Array Value) (i:Nat),off+s+l.length<=arr.size->
  ((l.zipIdx s).foldl (λcs (p:Value×Nat)=>cs.setIfInBounds (off+p.2) p.1) arr).size=arr.size/\
  ((l.zipIdx s).foldl (λcs (p:Value×Nat)=>cs.setIfInBounds (off+p.2) p.1) arr)[i]?=if off+s<=i/\i<off+s+l.length then l[i - (off+s)]? else arr[i]?
 |[],s,arr,i,_=>⟨rfl,by
   rw[if_neg (λhc=>by simp at hc;omega)];rfl⟩
 |v::r,s,arr,i,h=>by
  simp only[List.zipIdx_cons,List.foldl_cons,r2w]at h⊢;have ih:=v0o off r (s+1) (arr.setIfInBounds (off+s) v) i (by simp;omega);refine⟨by rw[ih.1];simp,?_⟩;rw[ih.2];by_cases h1:i=off+s
  ·subst h1
   rw[if_neg (by omega),if_pos (by omega),s2r,if_pos rfl,if_pos (by omega),show off+s - (off+s)=0 by omega];rfl
  ·by_cases h2:off+s<=i/\i<off+s+(r.length+1)
   ·rw[if_pos (by omega),if_pos h2]
    have:i - (off+s)=(i - (off+(s+1)))+1:=by omega
    rw[this];simp
   ·rw[if_neg (by omega),if_neg h2,s2r,if_neg (by omega)]
omit [Tabs]in
theorem y1q(off:Nat)(v:Value)(arr:Array Value):v.cells.zipIdx.foldl (λcs (c,j)=>cs.setIfInBounds (off+j) c) arr=
  (v.cells.toList.zipIdx 0).foldl (λcs (p:Value×Nat)=>cs.setIfInBounds (off+p.2) p.1) arr:=by
 rw [<-Array.foldl_toList];congr 1;simp[Array.toList_zipIdx]
def o1f(ob:List (Nat×AObj))(place:Nat->Option (Nat×Nat))(cs:List AC):List (Nat×AV)->Option (List AC)
 |[]=>some cs
 |(i,v)::rest=>match place i,cellsOf ob v with
  |some (off,size),some vs=>bif Nat.beq vs.length size&&Nat.ble (off+vs.length) cs.length then o1f ob place (b0a cs off vs) rest else none
  |_,_=>none
omit [Tabs]in
theorem l0v{w:World}{F:Nat->Prop}{ρ:Env}{tm:Array Value}{ob:List (Nat×AObj)}(aH:∀k,RelOb w F ρ k (lkO ob k))(place:Nat->Option (Nat×Nat)):
  ∀(ps:List (Nat×AV)) (qs:List (Nat×Value)) (cs r:List AC) (arr:Array Value),ps.length=qs.length->
   (∀i (h:i<ps.length) (h' :i<qs.length),ps[i].1=qs[i].1/\RelAV w F ρ tm ps[i].2 qs[i].2)->RelL w F ρ cs arr->o1f ob place cs ps=some r->
   ∃kv,Instr.fill place arr qs=some kv/\RelL w F ρ r kv
 |[],[],cs,r,arr,_,_,hr,h=>by
  cases h;exact⟨arr,rfl,hr⟩
 |[],_::_,_,_,_,hl,_,_,_=>by simp at hl
 |_::_,[],_,_,_,hl,_,_,_=>by simp at hl
 |(i,x)::ps,(i',v)::qs,cs,r,arr,hl,hh,hr,h=>by
  have h0:=hh 0 (by simp) (by simp);simp only[List.getElem_cons_zero]at h0;obtain⟨rfl,hx⟩:=h0;simp only[r2w,Nat.add_right_cancel_iff]at hl;unfold o1f at h;unfold Instr.fill;split at h
  ·rename_i off size vs hp hc
   cases hb:(Nat.beq vs.length size&&Nat.ble (off+vs.length) cs.length)with
   |false=>rw[hb]at h;cases h
   |true=>
    rw[hb,u2j]at h;simp only[r2i]at hb;have e1:=r2h hb.1;have e2:=r2u hb.2;have hv:=h0g aH hx hc;simp only[hp];rw[if_neg (by have:=hv.1;have:=hr.1;simp;omega),y1q];have bZ:off+0+v.cells.toList.length<=arr.size:=by have:=hv.1;have:=hr.1;simp;omega
    refine l0v (tm:=tm) aH place ps qs (b0a cs off vs) r _ hl (λj hj bN=>?_) ⟨?_,λj hj=>?_⟩ h
    ·have:=hh (j+1) (by simpa using hj) (by simpa using bN)
     simpa using this
    ·rw[(v0o off v.cells.toList 0 arr 0 bZ).1,a0s _ _ _ e2]
     exact hr.1
    ·have bN:j<cs.length:=by rwa[a0s _ _ _ e2]at hj
     have hg:=(v0o off v.cells.toList 0 arr j bZ).2;have hs:=e0e cs off vs e2 j;rw[r2k hj]at hs;by_cases hin:off<=j/\j<off+vs.length
     ·rw[if_pos hin,r2k (by omega)]at hs
      simp only[r2l]at hs;rw[if_pos (by have:=hv.1;simp;omega)]at hg;have ij:j - off<v.cells.size:=by have:=hv.1;omega
      have e3:v.cells.toList[j - (off+0)]?=some (v.cells.getD (j - off) undef):=by
       simp[r2j,ij]
      rw[e3]at hg;rw[a0v hg,hs];exact hv.2 (j - off) (by omega)
     ·rw[if_neg hin,r2k bN]at hs
      simp only[r2l]at hs;rw[if_neg (by have:=hv.1;simp;omega)]at hg;have ij:j<arr.size:=by have:=hr.1;omega
      rw[s2h ij]at hg;rw[a0v hg,hs];have e4:arr.getD j undef=arr[j]:=by simp[r2j,ij]
      rw [<-e4];exact hr.2 j bN
  ·cases h
def k0g(P:Program)(t:TypeId):Option (List Value):=
 match P.info? t with
 |some i=>match i.zero with
  |some z=>bif z.cells.toList.all Value.oneCell' then some z.cells.toList else none
  |none=>none
 |none=>none
omit [Tabs]in
theorem n0b{P:Program}{t:TypeId}{l:List Value}(h:k0g P t=some l):∃z,(∀w,(zeroValue t).run P w=.ok z w)/\z.cells=l.toArray/\∀v∈l,v.oneCell' =true:=by
 unfold k0g at h;split at h
 ·rename_i i hi
  split at h
  ·rename_i z hz
   cases hb:z.cells.toList.all Value.oneCell' with
   |false=>rw[hb]at h;cases h
   |true=>
    rw[hb]at h;cases h;exact⟨z,λw=>by simp[zeroValue,typeInfo,hi,hz],by simp,λv hv=>s2b.1 hb v hv⟩
  ·cases h
 ·cases h
omit [Tabs]in
theorem w0m{w:World}{F:Nat->Prop}{ρ:Env}(l:List Value)(h:∀v∈l,v.oneCell' =true):RelL w F ρ (l.map λv=>.d (.sc v)) l.toArray:=by
 refine⟨by simp,λi hi=>?_⟩;simp only[s2k]at hi;simp only[List.getElem_map];have:l.toArray.getD i undef=l[i]:=by simp[r2j,hi]
 rw[this];exact .d _ _ (.sc _ (h _ (s2s hi)))
def h0k(P:Program)(fs:List Field):Option (List (Nat×Nat)):=
 match fs with
 |[]=>some []
 |f::r=>match d0t P f.type,h0k P r with
  |some s,some l=>some ((f.offset,s)::l)
  |_,_=>none
def v1f(P:Program)(fr:List (Nat×AV))(ob:List (Nat×AObj))(t:TypeId)(parts:Array (Nat×Operand)):Option AV:=
 match k0g P t with
 |some z=>match P.underlying t with
  |some (.struct fs)=>match h0k P fs.toList with
   |some pl=>(o1f ob (λi=>pl[i]?) (z.map λv=>.d (.sc v)) (parts.toList.map λp=>(p.1,ev fr p.2))).map d1a
   |none=>none
  |some (.array _ e)=>match d0t P e with
   |some s=>(o1f ob (λi=>some (i*s,s)) (z.map λv=>.d (.sc v)) (parts.toList.map λp=>(p.1,ev fr p.2))).map d1a
   |none=>none
  |_=>none
 |none=>none
omit [Tabs]in
theorem i0v{P:Program}:∀{fs:List Field} {pl:List (Nat×Nat)},h0k P fs=some pl->∀w,
  (fs.mapM λf=>(do pure (f.offset, <-Go.sizeOf f.type):Sem (Nat×Nat))).run P w=.ok pl w
 |[],pl,h,w=>by cases h;rfl
 |f::r,pl,h,w=>by
  unfold h0k at h;split at h
  ·rename_i s l hs hl
   cases h;simp only[List.mapM_cons,Sem.run_bind,Sem.run_pure,Result.andThen_ok,a0g hs,i0v hl w]
  ·cases h
section
variable{P:Program}{N:Nat}{F:Nat->Prop}{ρ:Env}{st:ASt}{a:Act}{w:World}
theorem a1a(h:Rel N F ρ st a w)(parts:List (Nat×Operand)):
  (parts.map λp=>(p.1,ev st.fr p.2)).length=(parts.map λp=>(p.1,a.eval p.2)).length/\
  ∀i (h1:i<(parts.map λp=>(p.1,ev st.fr p.2)).length) (h2:i<(parts.map λp=>(p.1,a.eval p.2)).length),
   (parts.map λp=>(p.1,ev st.fr p.2))[i].1=(parts.map λp=>(p.1,a.eval p.2))[i].1/\RelAV w F ρ a.tmps (parts.map λp=>(p.1,ev st.fr p.2))[i].2 (parts.map λp=>(p.1,a.eval p.2))[i].2:=by
 refine⟨by simp,λi h1 h2=>?_⟩;simp only[List.getElem_map,true_and];exact a0d h _
theorem n1o(h:Rel N F ρ st a w){t:TypeId}{parts:Array (Nat×Operand)}{x:AV}(hv:v1f P st.fr st.ob t parts=some x):
  ∃v,(Instr.build t (parts.map λ(i,x)=>(i,a.eval x))).run P w=.ok v w/\RelAV w F ρ a.tmps x v:=by
 unfold v1f at hv;have hq:=a1a h parts.toList;have hp:(parts.map λ(i,x)=>(i,a.eval x)).toList=parts.toList.map λp=>(p.1,a.eval p.2):=by simp
 split at hv
 ·rename_i z hz
  obtain⟨zv,fG,hzc,dG⟩:=n0b hz;split at hv
  ·rename_i fs hu
   split at hv
   ·rename_i pl b7
    simp only[t2f]at hv;obtain⟨r,hr,rfl⟩:=hv;obtain⟨arr,hf,hrel⟩:=l0v (tm:=a.tmps) h.ob _ _ _ _ _ z.toArray hq.1 hq.2 (w0m z dG) hr;have hm:(fs.mapM λf=>(do pure (f.offset, <-Go.sizeOf f.type):Sem (Nat×Nat))).run P w=.ok pl.toArray w:=by
     rw[Array.mapM_eq_mapM_toList];simp only[Sem.run_map,i0v b7 w,Result.andThen_ok]
    refine⟨.agg arr,?_,c0r (.agg _ _ hrel.1 hrel.2)⟩;unfold Instr.build;simp only[Sem.run_bind,fG,Result.andThen_ok,run_underlying hu,hm,hzc,hp];have k8:(λx:Nat=>pl.toArray[x]?)=λi:Nat=>pl[i]?:=by funext i;simp
    rw[k8,hf];rfl
   ·cases hv
  ·rename_i n e hu
   split at hv
   ·rename_i s hs
    simp only[t2f]at hv;obtain⟨r,hr,rfl⟩:=hv;obtain⟨arr,hf,hrel⟩:=l0v (tm:=a.tmps) h.ob _ _ _ _ _ z.toArray hq.1 hq.2 (w0m z dG) hr;refine⟨.agg arr,?_,c0r (.agg _ _ hrel.1 hrel.2)⟩;unfold Instr.build;simp only[Sem.run_bind,fG,Result.andThen_ok,run_underlying hu,a0g hs,hzc,hp,hf];rfl
   ·cases hv
  ·cases hv
 ·cases hv
end
end Esp
namespace Esp
open Go
variable [Tabs]
def ASt.killF (k:Nat)(fr:List (Nat×AV)):List (Nat×AV):=fr.map λp=>(p.1,p.2.kill k)
def ASt.setO (k:Nat)(o:AObj)(ob:List (Nat×AObj)):List (Nat×AObj):=(k,o)::(ob.filter λp=> !Nat.beq p.1 k)
def ASt.killO (k:Nat)(ob:List (Nat×AObj)):List (Nat×AObj):=ob.map λp=>(p.1,p.2.kill k)
def ASt.newOb (st:ASt)(k:Nat)(o:AObj):ASt:=
 {fr:=ASt.killF k st.fr,ob:=ASt.setO k o (ASt.killO k st.ob)}
omit [Tabs]in
theorem e0b(f:AObj->AObj)(hf:f .gone=.gone):∀(fr:List (Nat×AObj)) (i:Nat),lkO (fr.map λp=>(p.1,f p.2)) i=f (lkO fr i)
 |[],_=>hf.symm
 |(j,v)::r,i=>by
  simp only[r2z,lkO];cases Nat.beq i j with
  |true=>rfl
  |false=>simpa using e0b f hf r i
omit [Tabs]in
theorem n0r(d:Nat):∀(fr:List (Nat×AObj)) (i:Nat),i≠d->lkO (fr.filter λp=> !Nat.beq p.1 d) i=lkO fr i
 |[],_,_=>rfl
 |(j,v)::r,i,h=>by
  cases hj:Nat.beq j d with
  |true=>
   have:Nat.beq i j=false:=by
    cases fY:Nat.beq i j with
    |false=>rfl
    |true=>exact absurd ((r2h fY).trans (r2h hj)) h
   rw[List.filter_cons_of_neg (by simp[hj])];simp only[lkO,this,u2k];exact n0r d r i h
  |false=>
   rw[List.filter_cons_of_pos (by simp[hj])];simp only[lkO];cases Nat.beq i j with
   |true=>rfl
   |false=>simpa using n0r d r i h
omit [Tabs]in
theorem a0o(k:Nat)(o:AObj)(ob:List (Nat×AObj)):lkO (ASt.setO k o ob) k=o:=by simp[ASt.setO,lkO]
omit [Tabs]in
theorem a0j(k:Nat)(o:AObj)(ob:List (Nat×AObj))(i:Nat)(h:i≠k):lkO (ASt.setO k o ob) i=lkO ob i:=by
 have hb:Nat.beq i k=false:=by cases hb:Nat.beq i k with|false=>rfl|true=>exact absurd (r2h hb) h
 simp only[ASt.setO,lkO,hb,u2k];exact n0r k ob i h
omit [Tabs]in
theorem AV.kill_junk (k:Nat):AV.kill k .junk=.junk:=by simp[AV.kill]
def Env.set (ρ:Env)(k:Nat)(l:Option Loc):Env:=λj=>if j=k then l else ρ j
omit [Tabs]in
theorem Env.set_same (ρ:Env)(k:Nat)(l:Option Loc):ρ.set k l k=l:=by simp[Env.set]
omit [Tabs]in
theorem Env.set_other (ρ:Env)(k:Nat)(l:Option Loc){j:Nat}(h:j≠k):ρ.set k l j=ρ j:=by simp[Env.set,h]
omit [Tabs]in
theorem Env.set_off (ρ:Env)(k:Nat)(l:Option Loc):offK k ρ (ρ.set k l):=λj h=>Env.set_other ρ k l h
omit [Tabs]in
theorem RelOb.lt {w:World}{F:Nat->Prop}{ρ:Env}{k:Nat}{o:AObj}(h:RelOb w F ρ k o){l:Loc}{b:Nat}(hk:ρ k=some l)(hb:l.has b):b<w.heap.size:=by
 induction h with
 |gone h=>rw[h]at hk;cases hk
 |na t ee xs h ih=>exact ih
 |any o h ih=>exact ih
 |box cs oty b' c t aQ aG hb' hs hh=>
  rw[aG]at hk;cases hk;cases hb;exact(r2r.1 hb').1
 |arr t e n cs u xs aG ho hs hh=>
  rw[aG]at hk;cases hk;exact(ho.lt b hb).2
 |tab b o h=>rw[h]at hk;cases hk
 |it s pos b' aG hb' =>
  rw[aG]at hk;cases hk;cases hb;exact(r2r.1 hb').1
 |fz t xs u aG hz=>
  rw[aG]at hk;cases hk;obtain⟨a,cap,rfl,_,_,h3⟩:=hz;cases a with
  |none=>cases hb
  |some ad=>
   cases hb;obtain⟨cur,_,e2,_⟩:=h3 ad rfl;exact(r2r.1 e2).1
 |mi kt vt l cur b' mo si se la aG hb' hm=>
  rw[aG]at hk;cases hk;cases hb;exact(r2r.1 hb').1
 |mp t kt vt l b' es c aG hb' =>
  rw[aG]at hk;cases hk;cases hb;exact(r2r.1 hb').1
 |mr tm te kt e l pd b' es c pv us aG hb' hM=>
  rw[aG]at hk;cases hk;rcases hb with hb|⟨u,hu,hb⟩
  ·cases hb
   exact(r2r.1 hb').1
  ·exact hM.lt hu hb
omit [Tabs]in
theorem RelOb.through {w w' :World}{F F' :Nat->Prop}{ρ:Env}{k:Nat}{o:AObj}(h:RelOb w F ρ k o)(hF:∀b,F b->w'.heap[b]?=w.heap[b]?)(hs:∀b,F b->F' b)
  (hb:∀l b,ρ k=some l->l.has b->w'.heap[b]?=w.heap[b]?):RelOb w' F' ρ k o:=by
 induction h with
 |gone h=>exact .gone h
 |na t ee xs h ih=>exact .na t ee xs ih
 |any o h ih=>exact .any _ ih
 |box cs oty b c t aQ hk hb' hz hh=>exact .box cs _ b c t aQ hk ((hb _ b hk rfl).trans hb') hz λi hi=>(hh i hi).mono hF hs λ_ _ h=>h
 |arr t e n cs u xs hk ho hz hh=>
  refine .arr t e n cs u xs hk ?_ hz λi hi=>(hh i hi).mono hF hs;refine⟨ho.1,?_⟩;rcases ho.2 with h|⟨g,cap,cur,rfl,eJ,hg,rest⟩
  ·exact .inl h
  ·exact .inr ⟨g,cap,cur,rfl,eJ,(hb _ g hk rfl).trans hg,rest⟩
 |tab b o hk om hb' =>exact .tab b o hk (hs b om) ((hF b om).trans hb')
 |it s pos b hk hb' =>exact .it s pos b hk ((hb _ b hk rfl).trans hb')
 |fz t xs u hk hz=>exact .fz t xs u hk (hz.mono λb aW=>hb _ b hk aW)
 |mi kt vt l cur b mo si se la hk hb' hm=>exact .mi kt vt l cur b mo si se la hk ((hb _ b hk rfl).trans hb') (hm.mono hF hs)
 |mr tm te kt e l pd b es c pv us hk hb' hM=>exact .mr tm te kt e l pd b es c pv us hk ((hb _ b hk (.inl rfl)).trans hb') (hM.mono hF hs λu hu g hg=>hb _ g hk (.inr ⟨u,hu,hg⟩))
 |mp t kt vt l b es c hk hb' hz hh dn hd=>exact .mp t kt vt l b es c hk ((hb _ b hk rfl).trans hb') hz (λi h1 h2=>⟨(hh i h1 h2).1.mono hF hs,(hh i h1 h2).2.mono hF hs⟩) dn hd
section
variable{P:Program}{N:Nat}{F:Nat->Prop}{ρ:Env}{st:ASt}{a:Act}{w w' :World}
theorem Rel.setOb (h:Rel N F ρ st a w)(iE:w'.os=w.os)(ky:w'.tape=w.tape)(jK:w'.output=w.output)(aR:w.heap.size<=w'.heap.size)(k:Nat)(L:Loc)(o:AObj)
  (aF:∀b,b<w.heap.size->(∀l,ρ k=some l->¬l.has b)->w'.heap[b]?=w.heap[b]?)
  (hL:∀b,L.has b->b<w'.heap.size/\(w.heap.size<=b\/∃l,ρ k=some l/\l.has b))
  (ho:RelOb w' F (ρ.set k (some L)) k o)(hst:1000000<=k->Stab k (ρ k) (some L)):
  Rel N F (ρ.set k (some L)) (st.newOb k o) a w' /\Fr F ρ w F (ρ.set k (some L)) w' :=by
 have hF:∀b,F b->w'.heap[b]?=w.heap[b]?:=λb hb=>aF b (h.rw.lt b hb) λl hl e=>h.rw.dis b hb ⟨k,l,hl,e⟩;have bL:∀b,live (ρ.set k (some L)) b->live ρ b\/w.heap.size<=b:=by
  rintro b ⟨j,l,hj,hb⟩;by_cases e:j=k
  ·subst e
   rw[Env.set_same]at hj;cases hj;rcases(hL b hb).2 with h'|⟨l,hl,hb'⟩
   ·exact .inr h'
   ·exact .inl ⟨j,l,hl,hb'⟩
  ·rw[Env.set_other _ _ _ e]at hj
   exact .inl ⟨j,l,hj,hb⟩
 refine⟨⟨⟨?_,?_,?_,h.rw.tab_of hF λ_ h=>h⟩,?_,?_,h.sz,h.df⟩,⟨iE,ky,jK,aR,λ_ hb=>hb,?_,?_,?_⟩⟩
 ·intro b hb hl
  rcases bL b hl with h'|h'
  ·exact h.rw.dis b hb h'
  ·have:=h.rw.lt b hb;omega
 ·intro b hb
  have:=h.rw.lt b hb;omega
 ·intro i j l l' b hi hj hb hb'
  by_cases e1:i=k<;>by_cases e2:j=k
  ·exact e1.trans e2.symm
  ·subst e1
   rw[Env.set_same]at hi;cases hi;rw[Env.set_other _ _ _ e2]at hj;rcases(hL b hb).2 with h'|⟨l,hl,hb2⟩
   ·have:=(h.ob j).lt hj hb';omega
   ·exact h.rw.inj _ _ _ _ b hl hj hb2 hb'
  ·subst e2
   rw[Env.set_same]at hj;cases hj;rw[Env.set_other _ _ _ e1]at hi;rcases(hL b hb').2 with h'|⟨l,hl,hb2⟩
   ·have:=(h.ob i).lt hi hb;omega
   ·exact h.rw.inj _ _ _ _ b hi hl hb hb2
  ·rw[Env.set_other _ _ _ e1]at hi
   rw[Env.set_other _ _ _ e2]at hj;exact h.rw.inj _ _ _ _ b hi hj hb hb'
 ·intro i
  simp only[ASt.newOb,ASt.killF];rw[d0i (AV.kill k) (AV.kill_junk k)];exact((h.fr i).kill (Env.set_off ρ k (some L))).mono hF (λ_ h=>h) (λ_ _ h=>h)
 ·intro j
  by_cases e:j=k
  ·subst e
   simp only[ASt.newOb];rw[a0o];exact ho
  ·simp only[ASt.newOb,ASt.killO]
   rw[a0j _ _ _ _ e,e0b (AObj.kill k) rfl];have h1:=(h.ob j).kill (Env.set_off ρ k (some L)) e;refine h1.through hF (λ_ h=>h) λl b hl hb=>?_;rw[Env.set_other _ _ _ e]at hl;exact aF b ((h.ob j).lt hl hb) λl' bT hb' =>e (h.rw.inj _ _ _ _ b hl bT hb hb')
 ·intro b hb hl
  exact aF b hb λl bT e=>hl ⟨k,l,bT,e⟩
 ·rintro b hb (hf|hl)
  ·exact .inl hf
  ·rcases bL b hl with h'|h'
   ·exact .inr h'
   ·omega
 ·intro j hj
  by_cases e:j=k
  ·subst e
   rw[Env.set_same];exact hst hj
  ·rw[Env.set_other _ _ _ e]
   exact Stab.refl _ _
theorem Rel.setBox (h:Rel N F ρ st a w)(iE:w'.os=w.os)(ky:w'.tape=w.tape)(jK:w'.output=w.output)(aR:w.heap.size=w'.heap.size)(k:Nat)(o:AObj)
  (aF:∀b,(∀l,ρ k=some l->¬l.has b)->w'.heap[b]?=w.heap[b]?)(ho:RelOb w' F ρ k o):
  Rel N F ρ {st with ob:=ASt.setO k o st.ob} a w' /\Fr F ρ w F ρ w' :=by
 have hF:∀b,F b->w'.heap[b]?=w.heap[b]?:=λb hb=>aF b λl hl e=>h.rw.dis b hb ⟨k,l,hl,e⟩;refine⟨⟨⟨h.rw.dis,λb hb=>aR▸h.rw.lt b hb,h.rw.inj,h.rw.tab_of hF λ_ h=>h⟩,λi=>(h.fr i).mono hF (λ_ h=>h) (λ_ _ h=>h),?_,h.sz,h.df⟩,⟨iE,ky,jK,Nat.le_of_eq aR,λ_ hb=>hb,?_,λb _ hb=>hb,λ_ _=>Stab.refl _ _⟩⟩
 ·intro j
  by_cases e:j=k
  ·subst e
   rw[a0o];exact ho
  ·rw[a0j _ _ _ _ e]
   exact(h.ob j).through hF (λ_ h=>h) λl b hl hb=>aF b λl' bT hb' =>e (h.rw.inj _ _ _ _ b hl bT hb hb')
 ·intro b hb hl
  exact aF b λl bT e=>hl ⟨k,l,bT,e⟩
omit [Tabs]in
theorem RelL.kill {cs:List AC}{arr:Array Value}{k:Nat}{ρ' :Env}(ho:offK k ρ ρ')(h:RelL w F ρ cs arr):RelL w F ρ' (cs.map (AC.kill k)) arr:=
 ⟨by simpa using h.1,λi hi=>by simpa using(h.2 i (by simpa using hi)).kill ho⟩
omit [Tabs]in
theorem RelL.grow {cs:List AC}{arr:Array Value}(hF:∀b,F b->w'.heap[b]?=w.heap[b]?)(h:RelL w F ρ cs arr):RelL w' F ρ cs arr:=
 ⟨h.1,λi hi=>(h.2 i hi).mono hF (λ_ h=>h) λ_ _ h=>h⟩
inductive Eff where
 |put(d:Tmp)(x:AV)
 |new(k:Nat)(o:AObj)(d:Tmp)(x:AV)
 |upd(k:Nat)(o:AObj)
 |upp(k:Nat)(o:AObj)(d:Tmp)(x:AV)
 deriving Inhabited
def Eff.app:Eff->ASt->ASt
 |.put d x,st=>st.put (some d) x
 |.new k o d x,st=>(st.newOb k o).put (some d) x
 |.upd k o,st=>{st with ob:=ASt.setO k o st.ob}
 |.upp k o d x,st=>ASt.put {st with ob:=ASt.setO k o st.ob} (some d) x
def Eff.key:Eff->Option Nat
 |.new k _ _ _=>some k
 |_=>none
def Eff.touch:Eff->Option Nat
 |.put _ _=>none
 |.new k _ _ _=>some k
 |.upd k _=>some k
 |.upp k _ _ _=>some k
def Eff.dst:Eff->Option Tmp
 |.put d _=>some d
 |.new _ _ d _=>some d
 |.upd _ _=>none
 |.upp _ _ d _=>some d
structure Tch(e:Eff)(ρ:Env)(w:World)(ρ' :Env)(w' :World):Prop where
 off:∀j,e.key≠some j->ρ' j=ρ j
 keep:∀b,b<w.heap.size->(∀k l,e.touch=some k->ρ k=some l->¬l.has b)->w'.heap[b]?=w.heap[b]?
omit [Tabs]in
theorem Tch.none {e:Eff}{ρ:Env}{w w' :World}(hk:∀b,b<w.heap.size->w'.heap[b]?=w.heap[b]?):Tch e ρ w ρ w' :=⟨λ_ _=>rfl,λb hb _=>hk b hb⟩
def OpEff(P:Program)(N:Nat)(o:Oper)(st:ASt)(e:Eff):Prop:=
 o.dst=e.dst/\∀F ρ a w,Rel N F ρ st a w->∃v w' F' ρ',((execOp a.eval o).run P w=.ok (.value v) w' \/((execOp a.eval o).run P w=.ok .skip w' /\v=undef))/\
  Rel N F' ρ' (e.app st) (a.put e.dst v) w' /\Fr F ρ w F' ρ' w' /\Tch e ρ w ρ' w'
theorem u0k(h:Rel N F ρ st a w){cs:List AC}{arr:Array Value}(t:TypeId)(d:Tmp)(hd:d<N)(hr:RelL w F ρ cs arr)(oty:Option TypeId)(aQ:∀t',oty=some t' ->t=t'):
  ∃ρ',Rel N F ρ' ((st.newOb d (.box (cs.map (AC.kill d)) oty)).put (some d) (.cell (.ptr d 0))) (a.put (some d) (.pointer (some ⟨w.heap.size,0,none⟩))) (w.alloc (.cells arr t))/\Fr F ρ w F ρ' (w.alloc (.cells arr t))/\Tch (.new d (.box (cs.map (AC.kill d)) oty) d (.cell (.ptr d 0))) ρ w ρ' (w.alloc (.cells arr t)):=by
 have hF:∀b,F b->(w.alloc (.cells arr t)).heap[b]?=w.heap[b]?:=λb hb=>Go.RowKit.Below.heap_alloc w _ b (h.rw.lt b hb);obtain⟨h1,h2⟩:=h.setOb (w' :=w.alloc (.cells arr t)) rfl rfl rfl (by simp) d (.box w.heap.size) (.box (cs.map (AC.kill d)) oty)
  (λb hb _=>Go.RowKit.Below.heap_alloc w _ b hb) (λb hb=>by cases hb;exact⟨by simp,.inl (r2q _)⟩)
  (by
   have hk:=(hr.kill (Env.set_off ρ d (some (.box w.heap.size)))).grow hF;exact .box _ _ w.heap.size arr t aQ (Env.set_same _ _ _) (heap_alloc_new w _) hk.1 hk.2) (λhk=>absurd (t2h hd h.df.2) (by omega))
 refine⟨_,h1.put d hd (.cell _ _ (.ptr _ _ _ λb hb=>?_)),h2,⟨λj hj=>Env.set_other _ _ _ λe=>hj (by rw[e];rfl),λb hb _=>Go.RowKit.Below.heap_alloc w _ b hb⟩⟩;rw[Env.set_same]at hb;cases hb;rfl
def r1j(P:Program)(N:Nat)(d:Option Tmp)(t:TypeId):Option Eff:=
 match d,k0g P t with
 |some d,some z=>bif Nat.blt d N then some (.new d (.box ((z.map λv=>.d (.sc v)).map (AC.kill d)) (some t)) d (.cell (.ptr d 0)))else none
 |_,_=>none
def sBox(N:Nat)(st:ASt)(d:Option Tmp)(x:Operand):Option Eff:=
 match d,cellsOf st.ob (ev st.fr x)with
 |some d,some cs=>bif Nat.blt d N then some (.new d (.box (cs.map (AC.kill d))) d (.cell (.ptr d 0)))else none
 |_,_=>none
omit [Tabs]in
theorem a0e{a b:Nat}(h:Nat.blt a b=true):a<b:=by have:=r2u (show Nat.ble (a+1) b=true from h);omega
theorem o1g{e:Eff}{o:Oper}{t:TypeId}(ho:o.op=.alloc t)(hs:r1j P N o.dst t=some e):OpEff P N o st e:=by
 obtain⟨dst,op,ty,pos,after,guard⟩:=o;dsimp only at ho hs;subst ho;unfold r1j at hs;split at hs
 ·rename_i d z hz
  cases hd:Nat.blt d N with
  |false=>rw[hd]at hs;cases hs
  |true=>
   rw[hd]at hs;cases hs;refine⟨rfl,λF ρ a w h=>?_⟩;obtain⟨zv,fG,hzc,dG⟩:=n0b hz;obtain⟨ρ',h1,h2,h3⟩:=u0k h t d (a0e hd) (w0m z dG) (some t) (λt' h=>Option.some.inj h);refine⟨_,_,F,ρ',.inl ?_,h1,h2,h3⟩;simp[execOp,Instr.alloc,fG,newVar,newRow,hzc]
 ·cases hs
theorem y1l{e:Eff}{o:Oper}{t:TypeId}{x:Operand}(ho:o.op=.box t x)(hs:sBox N st o.dst x=some e):OpEff P N o st e:=by
 obtain⟨dst,op,ty,pos,after,guard⟩:=o;dsimp only at ho hs;subst ho;unfold sBox at hs;split at hs
 ·rename_i d cs hc
  cases hd:Nat.blt d N with
  |false=>rw[hd]at hs;cases hs
  |true=>
   rw[hd]at hs;cases hs;refine⟨rfl,λF ρ a w h=>?_⟩;obtain⟨ρ',h1,h2,h3⟩:=u0k h t d (a0e hd) (h0g h.ob (a0d h x) hc) none (λt' h=>by cases h);refine⟨_,_,F,ρ',.inl ?_,h1,h2,h3⟩;simp[execOp,Instr.box,newVar,newRow]
 ·cases hs
def s1k(P:Program)(st:ASt)(t:TypeId)(p x:Operand):Option Eff:=
 match ev st.fr p,cellsOf st.ob (ev st.fr x),d0t P t with
 |.cell (.ptr k off),some vs,some s=>match lkO st.ob k with
  |.box cs ty=>bif Nat.beq vs.length s&&Nat.ble (off+vs.length) cs.length&&vs.all (AC.okIn st.ob)then some (.upd k (.box (b0a cs off vs) ty))else none
  |_=>none
 |_,_,_=>none
theorem n1x{e:Eff}{o:Oper}{t:TypeId}{p x:Operand}(ho:o.op=.store t p x)(hd:o.dst=none)(hs:s1k P st t p x=some e):OpEff P N o st e:=by
 obtain⟨dst,op,ty,pos,after,guard⟩:=o;dsimp only at ho hd;subst ho;subst hd;unfold s1k at hs;split at hs
 ·rename_i k off vs s he hc hz
  split at hs
  ·rename_i cs oty hk
   cases hb:(Nat.beq vs.length s&&Nat.ble (off+vs.length) cs.length&&vs.all (AC.okIn st.ob))with
   |false=>rw[hb]at hs;cases hs
   |true=>
    rw[hb]at hs;cases hs;simp only[r2i]at hb;obtain⟨⟨dV,hb2⟩,fX⟩:=hb;have e1:=r2h dV;have e2:=r2u hb2;refine⟨rfl,λF ρ a w h=>?_⟩;have hp:=a0d h p;rw[he]at hp;have hv:=h0g h.ob (a0d h x) hc;have aH:=h.ob k;rw[hk]at aH;cases aH with
    |box cs oty b c fJ aQ aG cA aR hh=>
     have ep:a.eval p=.pointer (some ⟨b,off,none⟩):=by
      generalize a.eval p=pv at hp;cases hp with
      |cell c v hp=>cases hp with
       |ptr k off v hp=>exact hp b aG
     have eV:∀u∈(a.eval x).cells.toList,u.oneCell' =true:=by
      intro u hu;obtain⟨i,hi,rfl⟩:=List.getElem_of_mem hu;have aK:i<vs.length:=by have:=hv.1;simpa[this]using hi
      have:=j1y h.ob (hv.2 i aK) (s2b.1 fX _ (s2s aK));have e:(a.eval x).cells.getD i undef=(a.eval x).cells.toList[i]:=by
       have hi2:i<(a.eval x).cells.size:=by simpa using hi
       simp[r2j,hi2]
      rwa[e]at this
     have bZ:off+0+(a.eval x).cells.toList.length<=c.size:=by have:=hv.1;simp;omega
     have hrun:=run_storeCells_at P b off fJ (a.eval x).cells.toList 0 c w cA bZ eV;simp only[u2e]at hrun
     let new:Array Value:=(c.toList.take off++(a.eval x).cells.toList++c.toList.drop (off+(a.eval x).cells.toList.length)).toArray
     have bJ:(w.setRow b new).heap[b]?=some (.cells new fJ (0,0)):=setRow_heap w b c new fJ (0,0) cA;have hlen:(a.eval x).cells.toList.length=vs.length:=by have:=hv.1;simpa using this
     have cO:∀i,new[i]?=if off<=i/\i<off+vs.length then(a.eval x).cells.toList[i - off]? else c[i]?:=by
      intro i;have:=e0e c.toList off (a.eval x).cells.toList (by simp at bZ⊢;omega) i;rw [<-hlen];simpa[new,b0a]using this
     have hF:∀b',F b' ->(w.setRow b new).heap[b']?=w.heap[b']?:=λb' hb' =>setRow_other w b b' new λe=>h.rw.dis b' hb' ⟨k,_,aG,by rw[e];rfl⟩;obtain⟨h1,h2⟩:=h.setBox (w' :=w.setRow b new) rfl rfl rfl (by simp[World.setRow]) k (.box (b0a cs off vs) oty)
      (λb' hb' =>setRow_other w b b' new λe=>hb' _ aG (by rw[e];rfl))
      (by
       refine .box _ _ b new fJ aQ aG bJ ?_ λi hi=>?_
       ·rw[a0s _ _ _ e2, <-aR]
        simp[new];simp at bZ;omega
       ·have aK:i<cs.length:=by rwa[a0s _ _ _ e2]at hi
        have hs:=e0e cs off vs e2 i;rw[r2k hi]at hs;have hg:=cO i;by_cases hin:off<=i/\i<off+vs.length
        ·rw[if_pos hin,r2k (by omega)]at hs
         simp only[r2l]at hs;rw[if_pos hin]at hg;have ij:i - off<(a.eval x).cells.size:=by have:=hv.1;omega
         have e3:(a.eval x).cells.toList[i - off]?=some ((a.eval x).cells.getD (i - off) undef):=by
          simp[r2j,ij]
         rw[e3]at hg;rw[a0v hg,hs];exact(hv.2 (i - off) (by omega)).mono hF (λ_ h=>h) λ_ _ h=>h
        ·rw[if_neg hin,r2k aK]at hs
         simp only[r2l]at hs;rw[if_neg hin]at hg;have gZ:i<c.size:=by omega
         rw[s2h gZ]at hg;rw[a0v hg,hs];have e4:c.getD i undef=c[i]:=by simp[r2j,gZ]
         rw [<-e4];exact(hh i aK).mono hF (λ_ h=>h) λ_ _ h=>h)
     refine⟨undef,_,F,ρ,.inr ⟨?_,rfl⟩,h1,h2,⟨λ_ _=>rfl,λb' hb' hn=>setRow_other w b b' new λe=>hn k _ rfl aG (by rw[e];rfl)⟩⟩;have cE:(a.eval x).cells.size=s:=by have:=hv.1;omega
     simp only[execOp,Instr.storeAt,ep,Instr.sureAddr,storeVar,Sem.run_bind,Sem.run_pure,Result.andThen_ok,a0g hz,cE,ne_eq,not_true_eq_false,if_false,hrun];rfl
  ·cases hs
 ·cases hs
def reps(z:List Value)(n:Nat):List Value:=(List.range n).map λi=>z.getD (i%z.length) undef
def t1v(P:Program)(N:Nat)(st:ASt)(d:Option Tmp)(t:TypeId)(len:Nat)(parts:Array (Nat×Operand)):Option Eff:=
 match d,P.underlying t with
 |some d,some (.slice e)=>match d0t P e,k0g P e with
  |some s,some z=>
   bif Nat.blt d N&&Nat.ble (len*s) 16777216&&Nat.blt 0 s&&Nat.beq z.length s then
    match o1f st.ob (λi=>some (i*s,s)) ((reps z (len*s)).map λv=>.d (.sc v)) (parts.toList.map λp=>(p.1,ev st.fr p.2))with
    |some cs=>match allD cs with
     |some ds=>bif Nat.beq ds.length (len*s)then some (.new d (.arr e s len ds) d (.cell (.own d)))else none
     |none=>none
    |none=>none
   else none
  |_,_=>none
 |_,_=>none
theorem m1f{eff:Eff}{o:Oper}{t:TypeId}{len:Nat}{parts:Array (Nat×Operand)}(ho:o.op=.buildSlice t len parts)(hs:t1v P N st o.dst t len parts=some eff):OpEff P N o st eff:=by
 obtain⟨dst,op,ty,pos,after,guard⟩:=o;dsimp only at ho hs;subst ho;unfold t1v at hs;split at hs
 ·rename_i d e hu
  split at hs
  ·rename_i s z hz dI
   cases hb:(Nat.blt d N&&Nat.ble (len*s) 16777216&&Nat.blt 0 s&&Nat.beq z.length s)with
   |false=>rw[hb]at hs;cases hs
   |true=>
    rw[hb,u2j]at hs;simp only[r2i]at hb;obtain⟨⟨⟨dV,hb2⟩,fX⟩,kV⟩:=hb;have nE:=a0e dV;have hle:=r2u hb2;have kW:=a0e fX;have cH:=r2h kV;obtain⟨zv,fG,hzc,dG⟩:=n0b dI;split at hs
    ·rename_i cs hf
     split at hs
     ·rename_i ds dJ
      cases cG:Nat.beq ds.length (len*s)with
      |false=>rw[cG]at hs;cases hs
      |true=>
      rw[cG]at hs;cases hs;have kT:=r2h cG;refine⟨rfl,λF ρ a w h=>?_⟩;have hq:=a1a h parts.toList;have hp:(parts.map λ(i,x)=>(i,a.eval x)).toList=parts.toList.map λp=>(p.1,a.eval p.2):=by simp
      have hr1:∀v∈reps z (len*s),v.oneCell' =true:=by
       intro v hv;simp only[reps,s2c,u2a]at hv;obtain⟨i,hi,rfl⟩:=hv;have:i%z.length<z.length:=Nat.mod_lt _ (by omega);rw[r2o,r2k this];exact dG _ (s2s this)
      obtain⟨arr,hfr,hrel⟩:=l0v (tm:=a.tmps) h.ob _ _ _ _ _ (reps z (len*s)).toArray hq.1 hq.2 (w0m _ hr1) hf;have ecs:=j0n dJ;subst ecs;have gP:arr.size=ds.length:=by simpa using hrel.1
      have hrun:(Instr.buildSlice t len (parts.map λ(i,x)=>(i,a.eval x))).run P w=.ok (.slice (some ⟨w.heap.size,0,none⟩) len len) (w.alloc (.cells arr e)):=by
       unfold Instr.buildSlice;simp only[Sem.run_bind,run_underlying hu,Result.andThen_ok,a0g hz,hp];rw[if_neg (by omega)];by_cases h0:len*s=0
       ·have a8:((Array.range (len*s)).map λx=>(#[]:Array Value)[x%(#[]:Array Value).size]!)=(reps z (len*s)).toArray:=by simp[h0,reps]
        rw[if_pos h0];simp only[Sem.run_bind,Sem.run_pure,Result.andThen_ok];rw[a8,hfr];rfl
       ·have a8:((Array.range (len*s)).map λx=>zv.cells[x%zv.cells.size]!)=(reps z (len*s)).toArray:=by
         apply Array.ext';simp only[Array.toList_map,Array.toList_range,reps,hzc];apply List.map_congr_left;intro i _;have hm:i%z.length<z.length:=Nat.mod_lt _ (by omega);simp[hm]
        rw[if_neg h0];simp only[Sem.run_bind,fG,Sem.run_pure,Result.andThen_ok];rw[a8,hfr];rfl
      have hF:∀b,F b->(w.alloc (.cells arr e)).heap[b]?=w.heap[b]?:=λb hb=>Go.RowKit.Below.heap_alloc w _ b (h.rw.lt b hb);have mG:len<=maxLen:=by
       have:len<=len*s:=Nat.le_mul_of_pos_right len kW;unfold maxLen;omega
      obtain⟨h1,h2⟩:=h.setOb (w' :=w.alloc (.cells arr e)) rfl rfl rfl (by simp) d (.arr (.slice (some ⟨w.heap.size,0,none⟩) len len)) (.arr e s len ds)
       (λb hb _=>Go.RowKit.Below.heap_alloc w _ b hb) (λb hb=>by cases hb;exact⟨by simp,.inl (r2q _)⟩)
       (by
        refine .arr e s len ds _ arr.toList (Env.set_same _ _ _) ⟨by simp;omega,.inr ⟨w.heap.size,len,arr,rfl,s2i _,heap_alloc_new w _,r2q _,mG,by omega,?_⟩⟩ (by simpa using gP) λi hi=>?_
        ·exact List.take_of_length_le (by simp;omega)
        ·have:=hrel.2 i (by simpa using hi)
         simp only[List.getElem_map]at this;have hi2:i<arr.size:=by omega
         have e5:arr.toList.getD i undef=arr.getD i undef:=by simp[r2j,hi2]
         rw[e5];cases this with
         |d x v hx=>exact hx.mono hF λ_ h=>h) (λhk=>absurd (t2h nE h.df.2) (by omega))
      refine⟨.slice (some ⟨w.heap.size,0,none⟩) len len,_,F,_,.inl ?_,h1.put d nE (.cell _ _ (.own _ _ λu cK=>?_)),h2,⟨λj hj=>Env.set_other _ _ _ λe=>hj (by rw[e];rfl),λb hb _=>Go.RowKit.Below.heap_alloc w _ b hb⟩⟩
      ·simp only[execOp,Sem.run_bind,hrun,Result.andThen_ok]
       rfl
      ·rw[Env.set_same]at cK
       cases cK;rfl
     ·cases hs
    ·cases hs
  ·cases hs
 ·cases hs
end
end Esp

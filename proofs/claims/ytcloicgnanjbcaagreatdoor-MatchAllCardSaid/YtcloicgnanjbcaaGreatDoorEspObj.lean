import Derived.Test.YtcloicgnanjbcaaGreatDoorEspRel
import GoSem.Dispatch
import Derived.Laws.Sem
import Derived.Laws.Entries
import Derived.Laws.CopyRow
import Derived.Below
namespace Esp
open Go
set_option linter.unusedSimpArgs false
set_option linter.unusedVariables false
variable [Tabs]
mutual
def AV.uses(g:Nat):AV→Bool
 | .whn h _ x=>Nat.beq h g || AV.uses g x
 | .tup vs=>AV.usesL g vs
 | _=>false
def AV.usesL(g:Nat):List AV→Bool
 | []=>false
 | v::r=>AV.uses g v || AV.usesL g r
end
omit [Tabs]in
theorem AV.usesL_get{k:Nat}: ∀{l:List AV},AV.usesL k l=false→∀i (h:i<l.length),AV.uses k l[i]=false
 | [],_,i,h=>by simp at h
 | c::r,h,i,hi=>by
  simp only [AV.usesL,k2c]at h;cases i with
  | zero=>simpa using h.1
  | succ i=>simpa using AV.usesL_get h.2 i (by simpa using hi)
omit [Tabs]in
theorem a0m{α:Type}(tm:Array α)(d g:Nat)(u x:α)(h:g≠d):(tm.setIfInBounds d u).getD g x=tm.getD g x:=by
 simp [j2u,l2h,Ne.symm h]
omit [Tabs]in
theorem j0l{α:Type}(tm:Array α)(d:Nat)(u x:α)(h:d<tm.size):(tm.setIfInBounds d u).getD d x=u:=by
 simp [j2u,l2h,h]
omit [Tabs]in
theorem RelAV.tm{w:World}{F:Nat→Prop}{ρ:Env}{tm:Array Value}{d:Nat}{u:Value}{x:AV}{v:Value}(h:RelAV w F ρ tm x v)(hx:x.uses d=false):
  RelAV w F ρ (tm.setIfInBounds d u) x v:=by
 induction h with
 | cell c v h=>exact .cell c v h
 | agg cs arr hz h=>exact .agg cs arr hz h
 | aggD cs arr hz h=>exact .aggD cs arr hz h
 | tup vs arr hz h ih=>exact .tup vs arr hz fun i hi=>ih i hi (AV.usesL_get (by simpa [AV.uses]using hx) i hi)
 | whn g want x v h h' ih=>
  simp only [AV.uses,k2c]at hx;have hg:g≠d:=k2p hx.1;exact .whn g want x v (fun e=>ih (by rwa [a0m _ _ _ _ _ hg]at e) hx.2) (fun e=>h' (by rwa [a0m _ _ _ _ _ hg]at e))
 | junk v=>exact .junk v
def AV.dropW(d:Nat)(v:AV):AV:=bif v.uses d then .junk else v
def setF(d:Nat)(x:AV)(fr:List (Nat×AV)):List (Nat×AV):=
 (d,x)::(fr.filter fun p=> !Nat.beq p.1 d).map fun p=>(p.1,p.2.dropW d)
omit [Tabs]in
theorem c0v(f:AV→AV)(hf:f .junk= .junk): ∀(fr:List (Nat×AV)) (i:Nat),lkF (fr.map fun p=>(p.1,f p.2)) i=f (lkF fr i)
 | [],_=>hf.symm
 | (j,v)::r,i=>by
  simp only [k2l,lkF];cases Nat.beq i j with
  | true=>rfl
  | false=>simpa using c0v f hf r i
omit [Tabs]in
theorem l0j(d:Nat): ∀(fr:List (Nat×AV)) (i:Nat),i≠d→lkF (fr.filter fun p=> !Nat.beq p.1 d) i=lkF fr i
 | [],_,_=>rfl
 | (j,v)::r,i,h=>by
  cases hj:Nat.beq j d with
  | true=>
   have:Nat.beq i j=false:=by
    cases hij:Nat.beq i j with
    | false=>rfl
    | true=>exact absurd ((j2t hij).trans (j2t hj)) h
   rw [List.filter_cons_of_neg (by simp [hj])];simp only [lkF,this,cond_false];exact l0j d r i h
  | false=>
   rw [List.filter_cons_of_pos (by simp [hj])];simp only [lkF];cases Nat.beq i j with
   | true=>rfl
   | false=>simpa using l0j d r i h
omit [Tabs]in
theorem e0p(d:Nat)(x:AV)(fr:List (Nat×AV)):lkF (setF d x fr) d=x:=by simp [setF,lkF]
omit [Tabs]in
theorem d0p(d:Nat)(x:AV)(fr:List (Nat×AV))(i:Nat)(h:i≠d):lkF (setF d x fr) i=(lkF fr i).dropW d:=by
 have hb:Nat.beq i d=false:=by cases hb:Nat.beq i d with | false=>rfl | true=>exact absurd (j2t hb) h
 simp only [setF,lkF,hb,cond_false];rw [c0v (AV.dropW d) rfl,l0j d fr i h]
omit [Tabs]in
theorem RelAV.dropW{w:World}{F:Nat→Prop}{ρ:Env}{tm:Array Value}{d:Nat}{u:Value}{x:AV}{v:Value}(h:RelAV w F ρ tm x v):
  RelAV w F ρ (tm.setIfInBounds d u) (x.dropW d) v:=by
 unfold AV.dropW;cases hx:x.uses d with
 | true=>exact .junk v
 | false=>exact h.tm hx
def ASt.put(st:ASt)(dst:Option Tmp)(x:AV):ASt:=
 match dst with
 | some d=>{st with fr:=setF d x st.fr}
 | none=>st
def h2a(N:Nat):Option Tmp→Bool
 | some d=>Nat.blt d N
 | none=>true
theorem Rel.put{N:Nat}{F:Nat→Prop}{ρ:Env}{st:ASt}{a:Act}{w:World}(h:Rel N F ρ st a w)(d:Tmp)(hd:d<N){x:AV}{v:Value}
  (hx:RelAV w F ρ (a.tmps.setIfInBounds d v) x v):Rel N F ρ (st.put (some d) x) (a.put (some d) v) w where
 rw:=h.rw
 fr i:=by
  simp only [ASt.put,Act.put];by_cases hi:i=d
  ·subst hi
   rw [e0p,j0l _ _ _ _ (by rw [h.sz];exact hd)];exact hx
  ·rw [d0p _ _ _ _ hi,a0m _ _ _ _ _ hi]
   exact(h.fr i).dropW
 ob:=h.ob
 sz:=by simpa [Act.put]using h.sz
 df:=h.df
def ev(fr:List (Nat×AV)):Operand→AV
 | .tmp t=>lkF fr t
 | .const v=>bif v.oneCell' then .cell (.d (.sc v))else .junk
 | .global _=> .junk
 | .func f=> .cell (.fn (.func f) [] [])
theorem a0f{N:Nat}{F:Nat→Prop}{ρ:Env}{st:ASt}{a:Act}{w:World}(h:Rel N F ρ st a w)(x:Operand):RelAV w F ρ a.tmps (ev st.fr x) (a.eval x):=by
 cases x with
 | tmp t=>exact h.fr t
 | const v=>
  simp only [ev,Act.eval];cases hv:v.oneCell' with
  | true=>exact .cell _ _ (.d _ _ (.sc v hv))
  | false=>exact .junk _
 | global g=>exact .junk _
 | func f=>exact .cell _ _ (.fn _ [] [] #[] #[] rfl rfl (fun i hi=>absurd hi (by simp)) (fun i hi=>absurd hi (by simp)))
def scV:AV→Option Value
 | .cell (.d (.sc v))=>some v
 | _=>none
omit [Tabs]in
theorem a0n{w:World}{F:Nat→Prop}{ρ:Env}{tm:Array Value}{x:AV}{u v:Value}(h:RelAV w F ρ tm x v)(hs:scV x=some u):v=u∧u.oneCell' =true:=by
 unfold scV at hs;split at hs
 ·rename_i y
  cases hs;cases h with
  | cell c v h=>cases h with
   | d x v h=>cases h with
    | sc v h=>exact⟨rfl,h⟩
 ·cases hs
def f0m{α:Type}(P:Program):Sem α→Option α
 | .pure a=>some a
 | .program k=>f0m P (k P)
 | .mark _ k=>f0m P k
 | _=>none
omit [Tabs]in
theorem f0q{α:Type}{P:Program}: ∀{s:Sem α} {a:α},f0m P s=some a→∀w,s.run P w= .ok a w:=by
 intro s
 induction s with
 | pure a=>intro b h w;simp only [f0m,j2v]at h;subst h;rfl
 | program k ih=>intro b h w;exact ih P h w
 | mark m k ih=>intro b h w;exact ih h w
 | _=>intro b h w;simp [f0m]at h
end Esp
namespace Esp
open Go
set_option linter.unusedSimpArgs false
set_option linter.unusedVariables false
variable [Tabs]
def g0f(P:Program)(t:TypeId):Option Bool:=
 match P.underlying t with
 | some (.struct _)=>some true
 | some (.array _ _)=>some true
 | some _=>some false
 | none=>none
def c0i(P:Program)(t:TypeId):Option Nat:=(P.info? t).map (·.size)
omit [Tabs]in
theorem k0i{P:Program}{t:TypeId}{b:Bool}(h:g0f P t=some b)(w:World):(isAgg t).run P w= .ok b w:=by
 unfold g0f at h;cases hu:P.underlying t with
 | none=>rw [hu]at h;cases h
 | some d=>
  rw [hu]at h;simp only [isAgg,Sem.run_bind,run_underlying hu,Result.andThen_ok];cases d<;>(simp only [j2v]at h;subst h;rfl)
omit [Tabs]in
theorem a0l{P:Program}{t:TypeId}{s:Nat}(h:c0i P t=some s)(w:World):(Go.sizeOf t).run P w= .ok s w:=by
 unfold c0i at h;cases hi:P.info? t with
 | none=>rw [hi]at h;cases h
 | some i=>
  rw [hi]at h;simp only [l2i,j2v]at h;subst h;simp [Go.sizeOf,typeInfo,hi]
omit [Tabs]in
theorem h0q{P:Program}{t:TypeId}{s:Nat}{w:World}{b off:Nat}(c:Nat→Value)(ha:g0f P t=some true)(hs:c0i P t=some s)
  (h: ∀i,i<s→w.cell? ⟨b,off+i,none⟩=some (c i)):(loadVar t ⟨b,off,none⟩).run P w= .ok (.agg ((List.range s).map c).toArray) w:=by
 have hl:=run_loadCells (P:=P) w ⟨b,off,none⟩ s c (fun j hj=>by rw [Addr.add_lit];exact h j hj);simp [loadVar,k0i ha,a0l hs,hl]
omit [Tabs]in
theorem h0a{P:Program}{t:TypeId}{w:World}{b off:Nat}{v:Value}(ha:g0f P t=some false)
  (h:w.cell? ⟨b,off,none⟩=some v):(loadVar t ⟨b,off,none⟩).run P w= .ok v w:=by
 simp [loadVar,k0i ha,h]
def allD:List AC→Option (List D)
 | []=>some []
 | .d x::r=>(allD r).map (x:: ·)
 | _=>none
def x0t(cs:List AC):AV:=
 match allD cs with
 | some ds=> .aggD ds
 | none=> .agg cs
omit [Tabs]in
theorem g0v: ∀{cs:List AC} {ds:List D},allD cs=some ds→cs=ds.map .d
 | [],ds,h=>by simp only [allD,j2v]at h;subst h;rfl
 | .d x::r,ds,h=>by
  simp only [allD,l2k]at h;obtain⟨l,hl,rfl⟩:=h;simp [g0v hl]
 | .own _::_,_,h=>by simp [allD]at h
 | .ptr _ _::_,_,h=>by simp [allD]at h
 | .elt _ _ _ _::_,_,h=>by simp [allD]at h
 | .osl _ _ _ _::_,_,h=>by simp [allD]at h
 | .pn _::_,_,h=>by simp [allD]at h
 | .ifo _ _::_,_,h=>by simp [allD]at h
 | .mpr _::_,_,h=>by simp [allD]at h
 | .fn _ _ _::_,_,h=>by simp [allD]at h
 | .junk::_,_,h=>by simp [allD]at h
omit [Tabs]in
theorem b0x{w:World}{F:Nat→Prop}{ρ:Env}{tm:Array Value}{cs:List AC}{arr:Array Value}(h:RelAV w F ρ tm (.agg cs) (.agg arr)):RelAV w F ρ tm (x0t cs) (.agg arr):=by
 unfold x0t;split
 ·rename_i ds hd
  have e:=g0v hd;subst e;cases h with
  | agg cs arr hs h=>
   refine .aggD _ _ (by simpa using hs) fun i hi=> ?_;have:=h i (by simpa using hi);simp only [List.getElem_map]at this;cases this with
   | d x v h=>exact h
 ·exact h
def i0h(P:Program)(t:TypeId)(cs:List AC):Option AV:=
 match g0f P t with
 | some true=>match c0i P t with
  | some s=>bif Nat.ble s cs.length then some (x0t (cs.take s))else none
  | none=>none
 | some false=>match cs with
  | c::_=>some (.cell c)
  | []=>none
 | none=>none
def e0c(P:Program)(t:TypeId)(cs:List D):Option AV:=
 match g0f P t with
 | some true=>match c0i P t with
  | some s=>bif Nat.ble s cs.length then some (.aggD (cs.take s))else none
  | none=>none
 | some false=>match cs with
  | c::_=>some (.cell (.d c))
  | []=>none
 | none=>none
omit [Tabs]in
theorem q0v{α:Type}(s:Nat)(c:Nat→α)(i:Nat)(x:α)(h:i<s):((List.range s).map c).toArray.getD i x=c i:=by
 simp [j2u,h]
omit [Tabs]in
theorem i1b{P:Program}{t:TypeId}{cs:List AC}{x:AV}{w:World}{F:Nat→Prop}{ρ:Env}{tm:Array Value}{b off:Nat}(c:Nat→Value)
  (h:i0h P t cs=some x)(hc: ∀i,i<cs.length→w.cell? ⟨b,off+i,none⟩=some (c i))(hr: ∀i (h:i<cs.length),RelAC w F ρ cs[i] (c i)):
  ∃v,(loadVar t ⟨b,off,none⟩).run P w= .ok v w∧RelAV w F ρ tm x v:=by
 unfold i0h at h;split at h
 ·rename_i ha
  split at h
  ·rename_i s hs
   cases hb:Nat.ble s cs.length with
   | false=>rw [hb]at h;cases h
   | true=>
    rw [hb]at h;simp only [cond_true,j2v]at h;subst h;have hle:=k2d hb;refine⟨_,h0q c ha hs (fun i hi=>hc i (by omega)),b0x (.agg _ _ (by simp;omega) fun i hi=> ?_)⟩;simp only [k2g]at hi;rw [q0v _ _ _ _ (by omega),List.getElem_take];exact hr i (by omega)
  ·cases h
 ·rename_i ha
  split at h
  ·rename_i c0 r
   cases h;exact⟨c 0,h0a ha (hc 0 (by simp)), .cell _ _ (hr 0 (by simp))⟩
  ·cases h
 ·cases h
omit [Tabs]in
theorem x0z{P:Program}{t:TypeId}{cs:List D}{x:AV}{w:World}{F:Nat→Prop}{ρ:Env}{tm:Array Value}{b off:Nat}(c:Nat→Value)
  (h:e0c P t cs=some x)(hc: ∀i,i<cs.length→w.cell? ⟨b,off+i,none⟩=some (c i))(hr: ∀i (h:i<cs.length),RelD w F cs[i] (c i)):
  ∃v,(loadVar t ⟨b,off,none⟩).run P w= .ok v w∧RelAV w F ρ tm x v:=by
 unfold e0c at h;split at h
 ·rename_i ha
  split at h
  ·rename_i s hs
   cases hb:Nat.ble s cs.length with
   | false=>rw [hb]at h;cases h
   | true=>
    rw [hb]at h;simp only [cond_true,j2v]at h;subst h;have hle:=k2d hb;refine⟨_,h0q c ha hs (fun i hi=>hc i (by omega)), .aggD _ _ (by simp;omega) fun i hi=> ?_⟩;simp only [k2g]at hi;rw [q0v _ _ _ _ (by omega),List.getElem_take];exact hr i (by omega)
  ·cases h
 ·rename_i ha
  split at h
  ·rename_i c0 r
   cases h;exact⟨c 0,h0a ha (hc 0 (by simp)), .cell _ _ (.d _ _ (hr 0 (by simp)))⟩
  ·cases h
 ·cases h
def q1h(P:Program)(t:TypeId)(f:Nat):Option (Nat×TypeId):=
 match P.underlying t with
 | some (.struct fs)=>match fs[f]? with
  | some g=>match c0i P g.type with
   | some (_+1)=>some (g.offset,g.type)
   | _=>none
  | none=>none
 | _=>none
def AV.strip(c:Operand)(want:Bool)(x:AV):AV:=
 match c,x with
 | .tmp t, .whn g w y=>bif Nat.beq t g&& (w==want)then y else x
 | _,_=>x
def j0u:AV→Option Bool
 | .cell (.d (.sc (.bool b)))=>some b
 | _=>none
def h0x:AV→Bool
 | .cell (.d (.sc (.pointer none)))=>true
 | _=>false
def c0n:AObj→Bool
 | .box _ _=>true
 | .gone=>false
 | .arr _ _ _ _=>false
 | .na _ _ _=>false
 | .any=>false
 | .tab _ _=>false
 | .it _ _=>false
 | .mi _ _ _ _=>false
 | .mp _ _ _ _ _=>false
def f0r:AObj→Bool
 | .arr _ _ _ _=>true
 | .na _ _ _=>true
 | .any=>false
 | .gone=>false
 | .box _ _=>false
 | .tab _ _=>false
 | .it _ _=>false
 | .mi _ _ _ _=>false
 | .mp _ _ _ _ _=>false
def isMp:AObj→Bool
 | .mp _ _ _ _ _=>true
 | _=>false
def t0v(ob:List (Nat×AObj)):AV→Bool
 | .cell (.ptr k _)=>c0n (lkO ob k)
 | .cell (.elt k _ _ _)=>f0r (lkO ob k)
 | .cell (.d (.rp _))=>true
 | _=>false
def b0l:List AV→Option (List AC)
 | []=>some []
 | .cell c::r=>(b0l r).map (c:: ·)
 | _=>none
def d0j:List AV→Option (List Value)
 | []=>some []
 | .cell (.d (.sc v))::r=>(d0j r).map (v:: ·)
 | _=>none
def w0e:Option Next→Option Value
 | some (.value v)=>some v
 | _=>none
def i1t(v:Value):AV:=bif v.oneCell' then .cell (.d (.sc v))else .junk
def t0s(P:Program)(t:TypeId):Bool:=
 match P.underlying t with
 | some (.slice _)=>true
 | _=>false
def f1g(P:Program)(t:TypeId):Bool:=
 match P.underlying t with
 | some (.pointer _)=>true
 | _=>false
def x1r(fr:List (Nat×AV))(c a b:Operand):Option AV:=
 match j0u (ev fr c)with
 | none=>none
 | some t=>match j0u ((ev fr a).strip c true),j0u ((ev fr b).strip c false)with
  | some p,some q=>some (.cell (.d (.sc (.bool (cond t p q)))))
  | some p,none=>bif t then some (.cell (.d (.sc (.bool p))))else none
  | none,some q=>bif t then none else some (.cell (.d (.sc (.bool q))))
  | none,none=>none
def i1r(P:Program)(fr:List (Nat×AV))(ob:List (Nat×AObj))(t:TypeId)(a:Operand):Option AV:=
 match ev fr a with
 | .cell (.ptr k off)=>match lkO ob k with
  | .box cs _=>i0h P t (cs.drop off)
  | _=>none
 | .cell (.elt k e j off)=>match lkO ob k with
  | .arr _ _ _ cs=>bif Nat.ble (j*e+off) cs.length then e0c P t (cs.drop (j*e+off))else none
  | _=>none
 | .cell (.d (.rp cs))=>e0c P t cs
 | _=>none
def vNil(ob:List (Nat×AObj))(op:BinOp)(x y:AV):Option AV:=
 bif (t0v ob x&&h0x y) || (t0v ob y&&h0x x)then
  match op with
  | .eql=>some (.cell (.d (.sc (.bool false))))
  | .neq=>some (.cell (.d (.sc (.bool true))))
  | _=>none
 else none
def vBin(P:Program)(fr:List (Nat×AV))(ob:List (Nat×AObj))(op:BinOp)(t:TypeId)(x y:Operand):Option AV:=
 match scV (ev fr x),scV (ev fr y)with
 | some u,some v=>(f0m P (do eqGuard op t x y u v;binOp op t u v)).map i1t
 | _,_=>bif f1g P t then vNil ob op (ev fr x) (ev fr y)else none
def vUn(P:Program)(fr:List (Nat×AV))(op:UnOp)(x:Operand):Option AV:=
 match scV (ev fr x)with
 | some u=>(f0m P (Op.unary op u)).map i1t
 | none=>none
def h2v(P:Program)(fr:List (Nat×AV))(s d:TypeId)(x:Operand):Option AV:=
 match scV (ev fr x)with
 | some u=>(f0m P (convert s d u)).map i1t
 | none=>none
def m1v(P:Program)(fr:List (Nat×AV))(ob:List (Nat×AObj))(t:TypeId)(x:Operand)(f:Nat):Option AV:=
 match q1h P t f with
 | some (o,_)=>match ev fr x with
  | .cell (.ptr k off)=>bif c0n (lkO ob k)then some (.cell (.ptr k (off+o)))else none
  | .cell (.elt k e j off)=>bif f0r (lkO ob k)then some (.cell (.elt k e j (off+o)))else none
  | .cell (.d (.rp cs))=>some (.cell (.d (.rp (cs.drop o))))
  | _=>none
 | none=>none
def w1s(P:Program)(t:TypeId)(f:Nat):Option (Nat×TypeId):=
 match P.underlying t with
 | some (.struct fs)=>match fs[f]? with
  | some g=>some (g.offset,g.type)
  | none=>none
 | _=>none
def c1w(P:Program)(fr:List (Nat×AV))(t:TypeId)(x:Operand)(f:Nat):Option AV:=
 match w1s P t f with
 | some (o,ft)=>match ev fr x with
  | .aggD cs=>e0c P ft (cs.drop o)
  | .agg cs=>i0h P ft (cs.drop o)
  | _=>none
 | none=>none
def g1b(fr:List (Nat×AV))(x:Operand)(i:Nat):Option AV:=
 match ev fr x with
 | .tup vs=>vs[i]?
 | _=>none
def g2b(fr:List (Nat×AV))(fn:Fn)(first captured:Array Operand):Option AV:=
 match b0l (first.toList.map (ev fr)),b0l (captured.toList.map (ev fr))with
 | some fs,some cs=>some (.cell (.fn fn fs cs))
 | _,_=>none
def vLen(P:Program)(ob:List (Nat×AObj))(t:TypeId)(x:AV):Option AV:=
 bif t0s P t then match x with
  | .cell (.d (.sl _ n _))=>some (.cell (.d (.sc (.int .i64 n))))
  | .cell (.d (.nl _ xs))=>some (.cell (.d (.sc (.int .i64 (xs.length:Nat)))))
  | .cell (.own k)=>match lkO ob k with
   | .arr _ _ n _=>some (.cell (.d (.sc (.int .i64 n))))
   | .na _ _ xs=>some (.cell (.d (.sc (.int .i64 (xs.length:Nat)))))
   | _=>none
  | _=>none
 else none
def s0n(P:Program)(fr:List (Nat×AV))(ob:List (Nat×AObj))(b:Builtin)(args:Array Operand)(ats:Array TypeId)(t:TypeId):Option AV:=
 match d0j (args.toList.map (ev fr))with
 | some vs=>(w0e (f0m P (builtin b ats t (args.map fun | .const _=>true | _=>false) vs.toArray))).map i1t
 | none=>match b,args.toList,ats.toList with
  | .len, [x], [u]=>vLen P ob u (ev fr x)
  | _,_,_=>none
def val1(P:Program)(fr:List (Nat×AV))(ob:List (Nat×AObj))(o:Oper):Option AV:=
 match o.op with
 | .move x=>some (ev fr x)
 | .assign x=>some (ev fr x)
 | .pick c a b=>x1r fr c a b
 | .load t a=>i1r P fr ob t a
 | .nilCheck x=>bif t0v ob (ev fr x)then some (ev fr x)else none
 | .binOp op t x y _=>vBin P fr ob op t x y
 | .unOp op _ x=>vUn P fr op x
 | .convert s d x=>h2v P fr s d x
 | .fieldAddr t x f=>m1v P fr ob t x f
 | .field t x f=>c1w P fr t x f
 | .extract x i=>g1b fr x i
 | .makeFunc fn first captured=>g2b fr fn first captured
 | .call {callee:= .builtin b,args:=as,argTypes:=ts}=>s0n P fr ob b as ts o.type
 | _=>none
omit [Tabs]in
theorem l0a{w:World}{F:Nat→Prop}{ρ:Env}{tm:Array Value}(v:Value):RelAV w F ρ tm (i1t v) v:=by
 unfold i1t;cases h:v.oneCell' with
 | true=>exact .cell _ _ (.d _ _ (.sc v h))
 | false=>exact .junk v
omit [Tabs]in
theorem b0w{w:World}{F:Nat→Prop}{ρ:Env}{tm:Array Value}{x:AV}{b:Bool}{v:Value}(h:RelAV w F ρ tm x v)(hs:j0u x=some b):v= .bool b:=by
 unfold j0u at hs;split at hs
 ·cases hs
  cases h with
  | cell c v h=>cases h with
   | d x v h=>cases h with
    | sc v h=>rfl
 ·cases hs
theorem y0b{N:Nat}{F:Nat→Prop}{ρ:Env}{st:ASt}{a:Act}{w:World}(h:Rel N F ρ st a w){c x:Operand}{b:Bool}(hc:a.eval c= .bool b):
  RelAV w F ρ a.tmps ((ev st.fr x).strip c b) (a.eval x):=by
 have hx:=a0f h x;generalize ev st.fr x=y at hx;unfold AV.strip;split
 ·rename_i t g wn z
  cases hb:(Nat.beq t g&& (wn==b))with
  | false=>exact hx
  | true=>
   simp only [j2s,beq_iff_eq]at hb;obtain⟨h1,rfl⟩:=hb;have e:=j2t h1;subst e;cases hx with
   | whn g want x v h1 h2=>exact h1 hc
 ·exact hx
theorem w0y{N:Nat}{F:Nat→Prop}{ρ:Env}{st:ASt}{a:Act}{w:World}(h:Rel N F ρ st a w){k:Nat}(hp:f0r (lkO st.ob k)=true): ∃u,ρ k=some (.arr u):=by
 have ho:=h.ob k;generalize lkO st.ob k=o at hp ho;cases ho with
 | gone h=>simp [f0r]at hp
 | box=>simp [f0r]at hp
 | any=>simp [f0r]at hp
 | tab=>simp [f0r]at hp
 | it=>simp [f0r]at hp
 | mi=>simp [f0r]at hp
 | mp=>simp [f0r]at hp
 | arr t e n cs u xs hk ho hs hh=>exact⟨u,hk⟩
 | na t e xs ho=>cases ho with
  | arr t e n cs u xs hk ho hs hh=>exact⟨u,hk⟩
theorem k0b{N:Nat}{F:Nat→Prop}{ρ:Env}{st:ASt}{a:Act}{w:World}(h:Rel N F ρ st a w){x:AV}{v:Value}(hx:RelAV w F ρ a.tmps x v)(hp:t0v st.ob x=true):
  ∃b off,v= .pointer (some ⟨b,off,none⟩):=by
 unfold t0v at hp;split at hp
 ·rename_i k off
  have ho:=h.ob k;generalize lkO st.ob k=o at hp ho;cases ho with
  | gone h=>simp [c0n]at hp
  | arr=>simp [c0n]at hp
  | na=>simp [c0n]at hp
  | any=>simp [c0n]at hp
  | tab=>simp [c0n]at hp
  | it=>simp [c0n]at hp
  | mi=>simp [c0n]at hp
  | mp=>simp [c0n]at hp
  | box cs oty b c t hoty hk hb hs hh=>
   cases hx with
   | cell c v hx=>cases hx with
    | ptr k off v hx=>exact⟨b,off,hx b hk⟩
 ·rename_i k e j off
  obtain⟨u,hk⟩:=w0y h hp;cases hx with
  | cell c v hx=>cases hx with
   | elt k e j off v hx=>
    obtain⟨g,n,cap,_,e1⟩:=hx u hk;exact⟨g,_,e1⟩
 ·cases hx with
  | cell c v hx=>cases hx with
   | d x v hx=>cases hx with
    | rp cs b off c hF hc hr=>exact⟨b,off,rfl⟩
 ·cases hp
omit [Tabs]in
theorem m0y{w:World}{F:Nat→Prop}{ρ:Env}{tm:Array Value}{x:AV}{v:Value}(h:RelAV w F ρ tm x v)(hs:h0x x=true):v= .pointer none:=by
 unfold h0x at hs;split at hs
 ·cases h with
  | cell c v h=>cases h with
   | d x v h=>cases h with
    | sc v h=>rfl
 ·cases hs
omit [Tabs]in
theorem h0k: ∀{l:List AV} {cs:List AC},b0l l=some cs→l=cs.map .cell
 | [],cs,h=>by simp only [b0l,j2v]at h;subst h;rfl
 | .cell c::r,cs,h=>by
  simp only [b0l,l2k]at h;obtain⟨l,hl,rfl⟩:=h;simp [h0k hl]
 | .agg _::_,_,h=>by simp [b0l]at h
 | .aggD _::_,_,h=>by simp [b0l]at h
 | .tup _::_,_,h=>by simp [b0l]at h
 | .whn _ _ _::_,_,h=>by simp [b0l]at h
 | .junk::_,_,h=>by simp [b0l]at h
omit [Tabs]in
theorem e1p: ∀{l:List AV} {cs:List Value},d0j l=some cs→l=cs.map fun v=> .cell (.d (.sc v))
 | [],cs,h=>by simp only [d0j,j2v]at h;subst h;rfl
 | .cell (.d (.sc c))::r,cs,h=>by
  simp only [d0j,l2k]at h;obtain⟨l,hl,rfl⟩:=h;simp [e1p hl]
 | .cell (.d (.sl _ _ _))::_,_,h=>by simp [d0j]at h
 | .cell (.d (.rp _))::_,_,h=>by simp [d0j]at h
 | .cell (.own _)::_,_,h=>by simp [d0j]at h
 | .cell (.ptr _ _)::_,_,h=>by simp [d0j]at h
 | .cell (.elt _ _ _ _)::_,_,h=>by simp [d0j]at h
 | .cell (.osl _ _ _ _)::_,_,h=>by simp [d0j]at h
 | .cell (.pn _)::_,_,h=>by simp [d0j]at h
 | .cell (.ifo _ _)::_,_,h=>by simp [d0j]at h
 | .cell (.mpr _)::_,_,h=>by simp [d0j]at h
 | .cell (.fn _ _ _)::_,_,h=>by simp [d0j]at h
 | .cell .junk::_,_,h=>by simp [d0j]at h
 | .agg _::_,_,h=>by simp [d0j]at h
 | .aggD _::_,_,h=>by simp [d0j]at h
 | .tup _::_,_,h=>by simp [d0j]at h
 | .whn _ _ _::_,_,h=>by simp [d0j]at h
 | .junk::_,_,h=>by simp [d0j]at h
theorem v0r{N:Nat}{F:Nat→Prop}{ρ:Env}{st:ASt}{a:Act}{w:World}(h:Rel N F ρ st a w): ∀{xs:List Operand} {vs:List Value},d0j (xs.map (ev st.fr))=some vs→xs.map a.eval=vs
 | [],vs,hh=>by simp only [m2f,d0j,j2v]at hh;subst hh;rfl
 | x::r,vs,hh=>by
  have e:=e1p hh;cases vs with
  | nil=>simp at e
  | cons v vs=>
   simp only [k2l,List.cons.injEq]at e;have h1:=a0f h x;rw [e.1]at h1;have h2:=(a0n (u:=v) h1 rfl).1;have h3:d0j (r.map (ev st.fr))=some vs:=by
    simp only [k2l,e.1,d0j,l2k]at hh;obtain⟨l,hl,he⟩:=hh;simp only [List.cons.injEq,true_and]at he;rw [hl,he]
   simp [h2,v0r h h3]
omit [Tabs]in
theorem l0k{P:Program}{t:TypeId}{f o:Nat}{ft:TypeId}(h:q1h P t f=some (o,ft))(b off:Nat)(w:World):
  (Instr.fieldAt t (.pointer (some ⟨b,off,none⟩)) f).run P w= .ok (.pointer (some ⟨b,off+o,none⟩)) w:=by
 unfold q1h at h;split at h
 ·rename_i fs hu
  split at h
  ·rename_i g hg
   split at h
   ·rename_i s hs
    simp only [j2v,Prod.mk.injEq]at h;obtain⟨rfl,rfl⟩:=h;simp [Instr.fieldAt,run_underlying hu,hg,Instr.sureAddr,fieldPlace,a0l hs,Addr.add_lit]
   ·cases h
  ·cases h
 ·cases h
def VR(P:Program)(F:Nat→Prop)(ρ:Env)(a:Act)(w:World)(o:Oper)(x:AV):Prop:=
 ∃v,(execOp a.eval o).run P w= .ok (.value v) w∧RelAV w F ρ a.tmps x v
section
variable{P:Program}{N:Nat}{F:Nat→Prop}{ρ:Env}{st:ASt}{a:Act}{w:World}
theorem m1e(h:Rel N F ρ st a w){c p q:Operand}{x:AV}(hv:x1r st.fr c p q=some x): ∃v t,a.eval c= .bool t∧v=(if t then a.eval p else a.eval q)∧RelAV w F ρ a.tmps x v:=by
 unfold x1r at hv;split at hv
 ·cases hv
 ·rename_i t h1
  have e1:=b0w (a0f h c) h1;have ht: ∀bp,t=true→j0u ((ev st.fr p).strip c true)=some bp→a.eval p= .bool bp:=fun bp e h2=>b0w (y0b h (x:=p) (e▸e1)) h2;have hf: ∀bq,t=false→j0u ((ev st.fr q).strip c false)=some bq→a.eval q= .bool bq:=fun bq e h2=>b0w (y0b h (x:=q) (e▸e1)) h2;refine⟨_,t,e1,rfl, ?_⟩;split at hv
  ·rename_i bp bq h2 h3
   cases hv;cases t with
   | true=>
    simp only [if_true,ht bp rfl h2,cond_true];exact .cell _ _ (.d _ _ (.sc _ rfl))
   | false=>
    simp only [m2o,if_false,hf bq rfl h3,cond_false];exact .cell _ _ (.d _ _ (.sc _ rfl))
  ·rename_i bp h2 h3
   cases t with
   | true=>
    cases hv;simp only [if_true,ht bp rfl h2];exact .cell _ _ (.d _ _ (.sc _ rfl))
   | false=>cases hv
  ·rename_i bq h2 h3
   cases t with
   | true=>cases hv
   | false=>
    cases hv;simp only [m2o,if_false,hf bq rfl h3];exact .cell _ _ (.d _ _ (.sc _ rfl))
  ·cases hv
theorem o0r(h:Rel N F ρ st a w){t:TypeId}{p:Operand}{x:AV}(hv:i1r P st.fr st.ob t p=some x): ∃v,(Instr.loadAt t (a.eval p)).run P w= .ok v w∧RelAV w F ρ a.tmps x v:=by
 have hp:=a0f h p;generalize a.eval p=pv at hp⊢;unfold i1r at hv;split at hv
 ·rename_i k off he
  rw [he]at hp;split at hv
  ·rename_i cs hcs
   have hob:=h.ob k;rw [hcs]at hob;cases hob with
   | box cs oty b c ty hoty hk hb hs hh=>
    cases hp with
    | cell c' v hp=>cases hp with
     | ptr k off v hp=>
      have e:=hp b hk;subst e;obtain⟨v,hrun,hrel⟩:=i1b (P:=P) (w:=w) (F:=F) (ρ:=ρ) (tm:=a.tmps) (b:=b) (off:=off) (fun i=>c.getD (off+i) undef) hv
       (fun i hi=>by
        simp only [k2t]at hi;simp [World.cell?,hb,j2u,k2r (show off+i<c.size by omega)])
       (fun i hi=>by
        simp only [k2t]at hi;rw [List.getElem_drop];exact hh (off+i) (by omega))
      exact⟨v,by simp [Instr.loadAt,Instr.sureAddr,hrun],hrel⟩
  ·cases hv
 ·rename_i k e j off he
  rw [he]at hp;split at hv
  ·rename_i ty' e' n' cs hcs
   cases hb:Nat.ble (j*e+off) cs.length with
   | false=>rw [hb]at hv;cases hv
   | true=>
   rw [hb,cond_true]at hv;have hle:=k2d hb;have hob:=h.ob k;rw [hcs]at hob;cases hob with
   | arr t e n cs u xs hk ho hs hh=>
    cases hp with
    | cell c' v hp=>cases hp with
     | elt k e j off v hp=>
      obtain⟨g,n2,cap,e1,e2⟩:=hp u hk;subst e1;subst e2;obtain⟨v,hrun,hrel⟩:=x0z (P:=P) (w:=w) (F:=F) (ρ:=ρ) (tm:=a.tmps) (b:=g) (off:=j*e+off) (fun i=>xs.getD (j*e+off+i) undef) hv
       (fun i hi=>by
        simp only [k2t]at hi;have h5:=ho.cells (g:=g) rfl (j*e+off+i) (xs.getD (j*e+off+i) undef) (by
         rw [j2z,j2x (by omega),l2x])
        rw [Addr.add_lit,l2b]at h5;exact h5)
       (fun i hi=>by
        simp only [k2t]at hi;rw [List.getElem_drop];exact hh (j*e+off+i) (by omega))
      exact⟨v,by simp [Instr.loadAt,Instr.sureAddr,hrun],hrel⟩
  ·cases hv
 ·rename_i cs he
  rw [he]at hp;cases hp with
  | cell c' v hp=>cases hp with
   | d y v hp=>cases hp with
    | rp cs b off c hF hc hr=>
     obtain⟨v,hrun,hrel⟩:=x0z (P:=P) (w:=w) (F:=F) (ρ:=ρ) (tm:=a.tmps) (b:=b) (off:=off) c hv hc hr;exact⟨v,by simp [Instr.loadAt,Instr.sureAddr,hrun],hrel⟩
 ·cases hv
omit [Tabs]in
theorem k1q{t:TypeId}(h:f1g P t=true): ∃e,P.underlying t=some (.pointer e):=by
 unfold f1g at h;split at h
 ·exact⟨_,by assumption⟩
 ·cases h
omit [Tabs]in
theorem c1b(d:Nat){t e:TypeId}(hu:P.underlying t=some (.pointer e))(y:Option Addr):(Op.equalIn (d+1) t (.pointer none) (.pointer y)).run P w= .ok y.isNone w:=by
 simp [Op.equalIn,run_underlying hu]
omit [Tabs]in
theorem v0h(d:Nat){t e:TypeId}(hu:P.underlying t=some (.pointer e))(y:Addr):(Op.equalIn (d+1) t (.pointer (some y)) (.pointer none)).run P w= .ok false w:=by
 simp [Op.equalIn,run_underlying hu]
omit [Tabs]in
theorem v0l{t e:TypeId}(hu:P.underlying t=some (.pointer e))(y:Option Addr):(Op.equal t (.pointer none) (.pointer y)).run P w= .ok y.isNone w:=c1b 9999 hu y
omit [Tabs]in
theorem r0s{t e:TypeId}(hu:P.underlying t=some (.pointer e))(y:Addr):(Op.equal t (.pointer (some y)) (.pointer none)).run P w= .ok false w:=v0h 9999 hu y
theorem v1w(h:Rel N F ρ st a w){op:BinOp}{t:TypeId}{p q:Operand}{x:AV}(hv:vBin P st.fr st.ob op t p q=some x):
  ∃v,(do eqGuard op t p q (a.eval p) (a.eval q);binOp op t (a.eval p) (a.eval q):Sem Value).run P w= .ok v w∧RelAV w F ρ a.tmps x v:=by
 have hp:=a0f h p;have hq:=a0f h q;unfold vBin at hv;split at hv
 ·rename_i u v hu hv'
  simp only [l2k]at hv;obtain⟨r,hr,rfl⟩:=hv;rw [(a0n hp hu).1,(a0n hq hv').1];exact⟨r,f0q hr w,l0a r⟩
 ·cases ht:f1g P t with
  | false=>rw [ht]at hv;cases hv
  | true=>
   rw [ht,cond_true]at hv;obtain⟨e,hu⟩:=k1q ht;generalize a.eval p=pv at hp⊢;generalize a.eval q=qv at hq⊢;unfold vNil at hv;cases hc:(t0v st.ob (ev st.fr p)&&h0x (ev st.fr q) || t0v st.ob (ev st.fr q)&&h0x (ev st.fr p))with
   | false=>rw [hc]at hv;cases hv
   | true=>
    rw [hc,cond_true]at hv;simp only [m2g,j2s]at hc;rcases hc with⟨h1,h2⟩ | ⟨h1,h2⟩
    ·obtain⟨b,off,rfl⟩:=k0b h hp h1
     have:=m0y hq h2;subst this;split at hv
     ·cases hv
      exact⟨.bool false,by simp [eqGuard,binOp,r0s hu], .cell _ _ (.d _ _ (.sc _ rfl))⟩
     ·cases hv
      exact⟨.bool true,by simp [eqGuard,binOp,r0s hu], .cell _ _ (.d _ _ (.sc _ rfl))⟩
     ·cases hv
    ·obtain⟨b,off,rfl⟩:=k0b h hq h1
     have:=m0y hp h2;subst this;split at hv
     ·cases hv
      exact⟨.bool false,by simp [eqGuard,binOp,v0l hu], .cell _ _ (.d _ _ (.sc _ rfl))⟩
     ·cases hv
      exact⟨.bool true,by simp [eqGuard,binOp,v0l hu], .cell _ _ (.d _ _ (.sc _ rfl))⟩
     ·cases hv
theorem i1z(h:Rel N F ρ st a w){t:TypeId}{p:Operand}{f:Nat}{x:AV}(hv:m1v P st.fr st.ob t p f=some x):
  ∃v,(Instr.fieldAt t (a.eval p) f).run P w= .ok v w∧RelAV w F ρ a.tmps x v:=by
 have hp:=a0f h p;generalize a.eval p=pv at hp⊢;unfold m1v at hv;split at hv
 ·rename_i o ft hf
  split at hv
  ·rename_i k off he
   rw [he]at hp;cases hb:c0n (lkO st.ob k)with
   | false=>rw [hb]at hv;cases hv
   | true=>
    rw [hb]at hv;cases hv;have hp' :=k0b h hp (by simpa [t0v]using hb);obtain⟨b,off',e⟩:=hp';subst e;refine⟨_,l0k hf b off' w, .cell _ _ (.ptr _ _ _ fun b' hb' => ?_)⟩;cases hp with
    | cell c v hp=>cases hp with
     | ptr k off v hp=>
      have:=hp b' hb';simp only [Value.pointer.injEq,j2v,Addr.mk.injEq,and_true]at this;rw [this.1,this.2]
  ·rename_i k e j off he
   rw [he]at hp;cases hb:f0r (lkO st.ob k)with
   | false=>rw [hb]at hv;cases hv
   | true=>
    rw [hb]at hv;cases hv;obtain⟨u,hk⟩:=w0y h hb;cases hp with
    | cell c v hp=>cases hp with
     | elt k e j off v hp=>
      obtain⟨g,n,cap,e1,e2⟩:=hp u hk;subst e2;refine⟨_,l0k hf g (j*e+off) w, .cell _ _ (.elt _ _ _ _ _ fun u' hu' => ?_)⟩;rw [hk]at hu';cases hu';exact⟨g,n,cap,e1,by rw [Nat.add_assoc]⟩
  ·rename_i cs he
   rw [he]at hp;cases hv;cases hp with
   | cell c v hp=>cases hp with
    | d y v hp=>cases hp with
     | rp cs b off c hF hc hr=>
      refine⟨_,l0k hf b off w, .cell _ _ (.d _ _ (.rp _ _ _ (fun i=>c (o+i)) (fun h=>hF fun e=>h (by rw [e];simp)) (fun i hi=> ?_) fun i hi=> ?_))⟩
      ·simp only [k2t]at hi
       rw [Nat.add_assoc];exact hc (o+i) (by omega)
      ·simp only [k2t]at hi
       rw [List.getElem_drop];exact hr (o+i) (by omega)
  ·cases hv
 ·cases hv
theorem u1f(h:Rel N F ρ st a w){u:TypeId}{y:AV}{v:Value}(ty:TypeId)(hy:RelAV w F ρ a.tmps y v){x:AV}(hv:vLen P st.ob u y=some x):
  ∃r,(Builtin.len_ #[u] ty #[v]).run P w= .ok r w∧RelAV w F ρ a.tmps x r:=by
 unfold vLen at hv;cases hs:t0s P u with
 | false=>rw [hs]at hv;cases hv
 | true=>
  rw [hs,cond_true]at hv;obtain⟨e,hu⟩: ∃e,P.underlying u=some (.slice e):=by
   unfold t0s at hs;split at hs
   ·exact⟨_,by assumption⟩
   ·cases hs
  have key: ∀ad n cap,(Builtin.len_ #[u] ty #[.slice ad n cap]).run P w= .ok (.int .i64 n) w:=fun ad n cap=>by
   simp [Builtin.len_,run_underlying hu,goInt]
  have slK: ∀{e' n:Nat} {cs:List D} {v:Value},RelD w F (.sl e' n cs) v→(Builtin.len_ #[u] ty #[v]).run P w= .ok (.int .i64 n) w:=by
   intro e' n cs v hy;cases hy with
   | nil e' ad cap=>exact key _ _ _
   | sl e' n cs b off cap c hF hl hcap hc hr=>exact key _ _ _
  have arK: ∀{k:Nat} {t' :TypeId} {e' n:Nat} {cs:List D} {v:Value},RelOb w F ρ k (.arr t' e' n cs)→RelAV w F ρ a.tmps (.cell (.own k)) v→(Builtin.len_ #[u] ty #[v]).run P w= .ok (.int .i64 n) w:=by
   intro k t' e' n cs v hob hy;cases hob with
   | arr t e'' n cs u' xs hk ho hs hh=>
    cases hy with
    | cell c v hy=>cases hy with
     | own k v hy=>
      have e1:=hy u' hk;subst e1;rcases ho.2 with⟨rfl,rfl⟩ | ⟨g,cap,cur,rfl,_⟩
      ·exact key _ _ _
      ·exact key _ _ _
  split at hv
  ·cases hv
   cases hy with
   | cell c v hy=>cases hy with
    | d z v hy=>exact⟨_,slK hy, .cell _ _ (.d _ _ (.sc _ rfl))⟩
  ·cases hv
   cases hy with
   | cell c v hy=>cases hy with
    | d z v hy=>cases hy with
     | nl t xs v hy=>exact⟨_,slK hy, .cell _ _ (.d _ _ (.sc _ rfl))⟩
  ·rename_i k
   split at hv
   ·rename_i t' e' n cs hk
    cases hv;have hob:=h.ob k;rw [hk]at hob;exact⟨_,arK hob hy, .cell _ _ (.d _ _ (.sc _ rfl))⟩
   ·rename_i t' e' xs hk
    cases hv;have hob:=h.ob k;rw [hk]at hob;cases hob with
    | na t e xs hob=>exact⟨_,arK hob hy, .cell _ _ (.d _ _ (.sc _ rfl))⟩
   ·cases hv
  ·cases hv
theorem x0o(h:Rel N F ρ st a w){b:Builtin}{as:Array Operand}{ts:Array TypeId}{t:TypeId}{x:AV}(hv:s0n P st.fr st.ob b as ts t=some x):
  ∃v,(builtin b ts t (as.map fun | .const _=>true | _=>false) (as.map a.eval)).run P w= .ok (.value v) w∧RelAV w F ρ a.tmps x v:=by
 unfold s0n at hv;split at hv
 ·rename_i vs hs
  simp only [l2k]at hv;obtain⟨r,hr,rfl⟩:=hv;have e:=v0r h hs;have e' :as.map a.eval=vs.toArray:=by rw [←e];cases as;simp
  rw [e'];unfold w0e at hr;split at hr
  ·rename_i v hp
   cases hr;exact⟨r,f0q hp w,l0a r⟩
  ·cases hr
 ·split at hv
  ·rename_i x' u h1 h2
   have e1:as= #[x']:=by cases as;simp_all
   have e2:ts= #[u]:=by cases ts;simp_all
   subst e1;subst e2;obtain⟨r,hr,hrel⟩:=u1f h t (a0f h x') hv;refine⟨r, ?_,hrel⟩;simp only [builtin,List.map_toArray,k2l,m2f,Sem.run_bind,hr];rfl
  ·cases hv
omit [Tabs]in
theorem e0i{P:Program}{ft:TypeId}{arr:Array Value}{o s:Nat}(ha:g0f P ft=some true)(hs:c0i P ft=some s)(w:World):(part ft arr o).run P w= .ok (.agg (arr.extract o (o+s))) w:=by
 simp [part,k0i ha,a0l hs]
omit [Tabs]in
theorem e0m{P:Program}{ft:TypeId}{arr:Array Value}{o:Nat}(ha:g0f P ft=some false)(ho:o<arr.size)(w:World):(part ft arr o).run P w= .ok (arr.getD o undef) w:=by
 simp [part,k0i ha,j2u,ho]
theorem b1s(h:Rel N F ρ st a w){t:TypeId}{p:Operand}{f:Nat}{x:AV}(hv:c1w P st.fr t p f=some x): ∃v,(Instr.field t (a.eval p) f).run P w= .ok v w∧RelAV w F ρ a.tmps x v:=by
 have hp:=a0f h p;generalize a.eval p=pv at hp⊢;unfold c1w at hv;split at hv
 ·rename_i o ft hf
  unfold w1s at hf;split at hf
  ·rename_i fs hu
   split at hf
   ·rename_i g hg
    cases hf;have hrun: ∀arr:Array Value,(Instr.field t (.agg arr) f).run P w=(part g.type arr g.offset).run P w:=fun arr=>by
     simp [Instr.field,run_underlying hu,hg,asAgg]
    split at hv
    ·rename_i cs he
     rw [he]at hp;cases hp with
     | aggD cs arr hs hh=>
      rw [hrun];unfold e0c at hv;split at hv
      ·rename_i ha
       split at hv
       ·rename_i s hsz
        cases hb:Nat.ble s (cs.drop g.offset).length with
        | false=>rw [hb]at hv;cases hv
        | true=>
         rw [hb]at hv;simp only [cond_true,j2v]at hv;subst hv;have hle:=k2d hb;rw [k2t]at hle;by_cases h0:s=0
         ·subst h0
          exact⟨_,e0i ha hsz w, .aggD _ _ (by simp;omega) fun i hi=>by simp at hi⟩
         ·refine⟨_,e0i ha hsz w, .aggD _ _ (by simp;omega) fun i hi=> ?_⟩
          have hi' :i<s:=by simp only [k2g]at hi;omega
          rw [List.getElem_take,List.getElem_drop];have e1:(arr.extract g.offset (g.offset+s)).getD i undef=arr.getD (g.offset+i) undef:=by
           rw [j2u,j2u,Array.getElem?_extract,if_pos (by omega)]
          rw [e1];exact hh (g.offset+i) (by omega)
       ·cases hv
      ·rename_i ha
       split at hv
       ·rename_i c r hc
        cases hv;have hlt:g.offset<cs.length:=by
         rcases m2q g.offset cs.length with h | h
         ·exact h
         ·rw [m2k h]at hc;cases hc
        refine⟨_,e0m ha (by omega) w, .cell _ _ (.d _ _ ?_)⟩;have h1:=hh g.offset hlt;have e2:cs[g.offset]=c:=by rw [m2d hlt]at hc;cases hc;rfl
        rw [e2]at h1;exact h1
       ·cases hv
      ·cases hv
    ·rename_i cs he
     rw [he]at hp;cases hp with
     | agg cs arr hs hh=>
      rw [hrun];unfold i0h at hv;split at hv
      ·rename_i ha
       split at hv
       ·rename_i s hsz
        cases hb:Nat.ble s (cs.drop g.offset).length with
        | false=>rw [hb]at hv;cases hv
        | true=>
         rw [hb]at hv;simp only [cond_true,j2v]at hv;subst hv;have hle:=k2d hb;rw [k2t]at hle;by_cases h0:s=0
         ·subst h0
          exact⟨_,e0i ha hsz w,b0x (.agg _ _ (by simp;omega) fun i hi=>by simp at hi)⟩
         ·refine⟨_,e0i ha hsz w,b0x (.agg _ _ (by simp;omega) fun i hi=> ?_)⟩
          have hi' :i<s:=by simp only [k2g]at hi;omega
          rw [List.getElem_take,List.getElem_drop];have e1:(arr.extract g.offset (g.offset+s)).getD i undef=arr.getD (g.offset+i) undef:=by
           rw [j2u,j2u,Array.getElem?_extract,if_pos (by omega)]
          rw [e1];exact hh (g.offset+i) (by omega)
       ·cases hv
      ·rename_i ha
       split at hv
       ·rename_i c r hc
        cases hv;have hlt:g.offset<cs.length:=by
         rcases m2q g.offset cs.length with h | h
         ·exact h
         ·rw [m2k h]at hc;cases hc
        refine⟨_,e0m ha (by omega) w, .cell _ _ ?_⟩;have h1:=hh g.offset hlt;have e2:cs[g.offset]=c:=by rw [m2d hlt]at hc;cases hc;rfl
        rw [e2]at h1;exact h1
       ·cases hv
      ·cases hv
    ·cases hv
   ·cases hf
  ·cases hf
 ·cases hv
theorem s1g(h:Rel N F ρ st a w){o:Oper}{x:AV}(hv:val1 P st.fr st.ob o=some x):VR P F ρ a w o x:=by
 obtain⟨dst,op,ty,pos,after,guard⟩:=o;unfold val1 at hv;unfold VR;cases op with
 | move y=>cases hv;exact⟨_,rfl,a0f h y⟩
 | assign y=>cases hv;exact⟨_,rfl,a0f h y⟩
 | pick c p q=>
  obtain⟨v,t,e,rfl,hr⟩:=m1e h hv;exact⟨_,by simp [execOp,e,asBool],hr⟩
 | load t p=>
  obtain⟨v,e,hr⟩:=o0r h hv;exact⟨v,by simp [execOp,e],hr⟩
 | nilCheck p=>
  dsimp only at hv;cases hb:t0v st.ob (ev st.fr p)with
  | false=>rw [hb]at hv;cases hv
  | true=>
   rw [hb]at hv;cases hv;obtain⟨b,off,e⟩:=k0b h (a0f h p) hb;exact⟨_,by simp only [execOp,e];rfl,e▸a0f h p⟩
 | binOp op t p q yt=>
  obtain⟨v,e,hr⟩:=v1w h hv;refine⟨v, ?_,hr⟩;show Sem.run P (do pure (Next.value (←(do eqGuard op t p q (a.eval p) (a.eval q);binOp op t (a.eval p) (a.eval q))))) w=_
  rw [Sem.run_bind,e];rfl
 | unOp op t p=>
  dsimp only at hv;unfold vUn at hv;split at hv
  ·rename_i u hu
   simp only [l2k]at hv;obtain⟨r,hr,rfl⟩:=hv;have e:=(a0n (a0f h p) hu).1;exact⟨r,by simp [execOp,e,f0q hr w],l0a r⟩
  ·cases hv
 | convert s d p=>
  dsimp only at hv;unfold h2v at hv;split at hv
  ·rename_i u hu
   simp only [l2k]at hv;obtain⟨r,hr,rfl⟩:=hv;have e:=(a0n (a0f h p) hu).1;exact⟨r,by simp [execOp,e,f0q hr w],l0a r⟩
  ·cases hv
 | fieldAddr t p f=>
  obtain⟨v,e,hr⟩:=i1z h hv;exact⟨v,by simp [execOp,e],hr⟩
 | field t p f=>
  obtain⟨v,e,hr⟩:=b1s h hv;exact⟨v,by simp [execOp,e],hr⟩
 | extract p i=>
  dsimp only at hv;unfold g1b at hv;have hp:=a0f h p;split at hv
  ·rename_i vs he
   rw [he]at hp;generalize hpv:a.eval p=pv at hp;cases hp with
   | tup vs arr hs hh=>
    obtain⟨hi,e⟩:=k2a.1 hv;have hi' :i<arr.size:=by omega
    have e1:arr.getD i undef=arr[i]:=by simp [j2u,hi']
    have e2:=k2r hi';refine⟨arr[i], ?_,by rw [←e, ←e1];exact hh i hi⟩;simp only [execOp,hpv,Instr.extract,e2];rfl
  ·cases hv
 | makeFunc fn first captured=>
  dsimp only at hv;unfold g2b at hv;split at hv
  ·rename_i fs cs h1 h2
   cases hv;have e1:=h0k h1;have e2:=h0k h2;have l1:first.size=fs.length:=by simpa using congrArg List.length e1
   have l2:captured.size=cs.length:=by simpa using congrArg List.length e2
   refine⟨.func fn (first.map a.eval) (captured.map a.eval),by simp [execOp,Instr.makeFunc], .cell _ _ (.fn _ _ _ _ _ (by simpa using l1) (by simpa using l2) (fun i hi=> ?_) (fun i hi=> ?_))⟩
   ·have hh:=a0f h first[i]
    have e3:ev st.fr first[i]= .cell fs[i]:=by
     have:=congrArg (·[i]?) e1
     simpa [show i<first.size by omega,hi]using this
    rw [e3]at hh;have e4:(first.map a.eval).getD i undef=a.eval first[i]:=by simp [j2u,show i<first.size by omega]
    rw [e4];cases hh with
    | cell c v hh=>exact hh
   ·have hh:=a0f h captured[i]
    have e3:ev st.fr captured[i]= .cell cs[i]:=by
     have:=congrArg (·[i]?) e2
     simpa [show i<captured.size by omega,hi]using this
    rw [e3]at hh;have e4:(captured.map a.eval).getD i undef=a.eval captured[i]:=by simp [j2u,show i<captured.size by omega]
    rw [e4];cases hh with
    | cell c v hh=>exact hh
  ·cases hv
 | call c=>
  obtain⟨callee,args,ats⟩:=c;cases callee with
  | builtin b=>
   obtain⟨v,e,hr⟩:=x0o h hv;refine⟨v, ?_,hr⟩;simp only [execOp,resolve,invoke,Sem.run_bind,Sem.run_pure,Result.andThen_ok];exact e
  | value f=>cases hv
  | invoke r m=>cases hv
 | _=>cases hv
end
end Esp
namespace Esp
open Go
set_option linter.unusedSimpArgs false
set_option linter.unusedVariables false
variable [Tabs]
def AC.okIn(ob:List (Nat×AObj)):AC→Bool
 | .d _=>true
 | .own k=>f0r (lkO ob k)
 | .ptr k _=>c0n (lkO ob k)
 | .elt _ _ _ _=>false
 | .osl _ _ _ _=>false
 | .pn k=>c0n (lkO ob k)
 | .ifo _ _=>false
 | .mpr k=>isMp (lkO ob k)
 | .fn _ _ _=>true
 | .junk=>false
def cellsOf(ob:List (Nat×AObj)):AV→Option (List AC)
 | .cell c=>bif c.okIn ob then some [c]else none
 | .agg cs=>some cs
 | .aggD cs=>some (cs.map .d)
 | _=>none
def RelL(w:World)(F:Nat→Prop)(ρ:Env)(cs:List AC)(arr:Array Value):Prop:=
 arr.size=cs.length∧∀i (h:i<cs.length),RelAC w F ρ cs[i] (arr.getD i undef)
omit [Tabs]in
theorem e1a{w:World}{F:Nat→Prop}{ρ:Env}{ob:List (Nat×AObj)}(hob: ∀k,RelOb w F ρ k (lkO ob k)){c:AC}{v:Value}(h:RelAC w F ρ c v)(hc:c.okIn ob=true):v.oneCell' =true:=by
 cases h with
 | d x v h=>exact h.oneCell
 | own k v h=>
  simp only [AC.okIn]at hc;have ho:=hob k;generalize lkO ob k=o at hc ho;cases ho with
  | arr t e n cs u xs hk ho hs hh=>
   rw [h u hk];rcases ho.2 with⟨rfl,_⟩ | ⟨g,cap,cur,rfl,_⟩<;>rfl
  | na t ee xs ho=>cases ho with
   | arr t e n cs u xs hk ho hs hh=>
    rw [h u hk];rcases ho.2 with⟨rfl,_⟩ | ⟨g,cap,cur,rfl,_⟩<;>rfl
  | gone=>simp [f0r]at hc
  | tab=>simp [f0r]at hc
  | it=>simp [f0r]at hc
  | mi=>simp [f0r]at hc
  | mp=>simp [f0r]at hc
  | any=>simp [f0r]at hc
  | box=>simp [f0r]at hc
 | ptr k off v h=>
  simp only [AC.okIn]at hc;have ho:=hob k;generalize lkO ob k=o at hc ho;cases ho with
  | box cs oty b c t hoty hk hb hs hh=>rw [h b hk];rfl
  | gone=>simp [c0n]at hc
  | na=>simp [c0n]at hc
  | any=>simp [c0n]at hc
  | tab=>simp [c0n]at hc
  | it=>simp [c0n]at hc
  | mi=>simp [c0n]at hc
  | mp=>simp [c0n]at hc
  | arr=>simp [c0n]at hc
 | elt=>simp [AC.okIn]at hc
 | osl=>simp [AC.okIn]at hc
 | ifo=>simp [AC.okIn]at hc
 | mpr k v h=>
  simp only [AC.okIn]at hc;have ho:=hob k;generalize lkO ob k=o at hc ho;cases ho with
  | mp t kt vt l b es clock hk hb hs hh=>rw [h b hk];rfl
  | gone=>simp [isMp]at hc
  | na=>simp [isMp]at hc
  | any=>simp [isMp]at hc
  | tab=>simp [isMp]at hc
  | it=>simp [isMp]at hc
  | mi=>simp [isMp]at hc
  | box=>simp [isMp]at hc
  | arr=>simp [isMp]at hc
 | pn k v h=>
  simp only [AC.okIn]at hc;have ho:=hob k;generalize lkO ob k=o at hc ho;cases ho with
  | box cs oty b c t hoty hk hb hs hh=>rcases h b hk with rfl | rfl<;>rfl
  | gone=>simp [c0n]at hc
  | na=>simp [c0n]at hc
  | any=>simp [c0n]at hc
  | tab=>simp [c0n]at hc
  | it=>simp [c0n]at hc
  | mi=>simp [c0n]at hc
  | mp=>simp [c0n]at hc
  | arr=>simp [c0n]at hc
 | fn=>rfl
 | junk v=>simp [AC.okIn]at hc
omit [Tabs]in
theorem x0d{v:Value}(h:v.oneCell' =true):v.cells= #[v]:=by
 cases v<;>first | rfl | (simp [Value.oneCell']at h)
omit [Tabs]in
theorem f0s{w:World}{F:Nat→Prop}{ρ:Env}{tm:Array Value}{ob:List (Nat×AObj)}(hob: ∀k,RelOb w F ρ k (lkO ob k)){x:AV}{v:Value}{cs:List AC}(h:RelAV w F ρ tm x v)
  (hc:cellsOf ob x=some cs):RelL w F ρ cs v.cells:=by
 cases h with
 | cell c v h=>
  simp only [cellsOf]at hc;cases hk:c.okIn ob with
  | false=>rw [hk]at hc;cases hc
  | true=>
   rw [hk]at hc;cases hc;rw [x0d (e1a hob h hk)];refine⟨rfl,fun i hi=> ?_⟩;obtain rfl:i=0:=by simp at hi;omega
   simpa using h
 | agg cs arr hs h=>
  cases hc;exact⟨hs,h⟩
 | aggD cs arr hs h=>
  cases hc;refine⟨by simpa [Value.cells]using hs,fun i hi=> ?_⟩;simp only [List.getElem_map];exact .d _ _ (h i (by simpa using hi))
 | tup=>cases hc
 | whn=>cases hc
 | junk=>cases hc
def b0a{α:Type}(cs:List α)(off:Nat)(vs:List α):List α:=cs.take off++(vs++cs.drop (off+vs.length))
omit [Tabs]in
theorem a0u{α:Type}(cs:List α)(off:Nat)(vs:List α)(h:off+vs.length≤cs.length):(b0a cs off vs).length=cs.length:=by
 simp [b0a];omega
omit [Tabs]in
theorem c0y{α:Type}(cs:List α)(off:Nat)(vs:List α)(h:off+vs.length≤cs.length)(i:Nat):
  (b0a cs off vs)[i]? =if off≤i∧i<off+vs.length then vs[i - off]? else cs[i]? :=by
 unfold b0a;by_cases h1:i<off
 ·rw [List.getElem?_append_left (by simp;omega),l2y,if_pos h1,if_neg (by omega)]
 ·rw [m2a (by simp;omega)]
  simp only [k2g,show min off cs.length=off by omega];by_cases h2:i<off+vs.length
  ·rw [List.getElem?_append_left (by omega),if_pos ⟨by omega,h2⟩]
  ·rw [m2a (by omega),List.getElem?_drop,if_neg (by omega)]
   congr 1;omega
omit [Tabs]in
theorem a0v{arr:Array Value}{i:Nat}{v:Value}(h:arr[i]? =some v):arr.getD i undef=v:=by
 simp [j2u,h]
omit [Tabs]in
theorem u0x(off:Nat): ∀(l:List Value) (s:Nat) (arr:Array Value) (i:Nat),off+s+l.length≤arr.size→
  ((l.zipIdx s).foldl (fun cs (p:Value×Nat)=>cs.setIfInBounds (off+p.2) p.1) arr).size=arr.size∧
  ((l.zipIdx s).foldl (fun cs (p:Value×Nat)=>cs.setIfInBounds (off+p.2) p.1) arr)[i]? =if off+s≤i∧i<off+s+l.length then l[i - (off+s)]? else arr[i]?
 | [],s,arr,i,_=>⟨rfl,by
   rw [if_neg (fun hc=>by simp at hc;omega)];rfl⟩
 | v::r,s,arr,i,h=>by
  simp only [List.zipIdx_cons,List.foldl_cons,k2i]at h⊢;have ih:=u0x off r (s+1) (arr.setIfInBounds (off+s) v) i (by simp;omega);refine⟨by rw [ih.1];simp, ?_⟩;rw [ih.2];by_cases h1:i=off+s
  ·subst h1
   rw [if_neg (by omega),if_pos (by omega),l2h,if_pos rfl,if_pos (by omega),show off+s - (off+s)=0 by omega];rfl
  ·by_cases h2:off+s≤i∧i<off+s+(r.length+1)
   ·rw [if_pos (by omega),if_pos h2]
    have:i - (off+s)=(i - (off+(s+1)))+1:=by omega
    rw [this];simp
   ·rw [if_neg (by omega),if_neg h2,l2h,if_neg (by omega)]
omit [Tabs]in
theorem u1b(off:Nat)(v:Value)(arr:Array Value):v.cells.zipIdx.foldl (fun cs (c,j)=>cs.setIfInBounds (off+j) c) arr=
  (v.cells.toList.zipIdx 0).foldl (fun cs (p:Value×Nat)=>cs.setIfInBounds (off+p.2) p.1) arr:=by
 rw [←Array.foldl_toList];congr 1;simp [Array.toList_zipIdx]
def i1k(ob:List (Nat×AObj))(place:Nat→Option (Nat×Nat))(cs:List AC):List (Nat×AV)→Option (List AC)
 | []=>some cs
 | (i,v)::rest=>match place i,cellsOf ob v with
  | some (off,size),some vs=>bif Nat.beq vs.length size&&Nat.ble (off+vs.length) cs.length then i1k ob place (b0a cs off vs) rest else none
  | _,_=>none
omit [Tabs]in
theorem k0z{w:World}{F:Nat→Prop}{ρ:Env}{tm:Array Value}{ob:List (Nat×AObj)}(hob: ∀k,RelOb w F ρ k (lkO ob k))(place:Nat→Option (Nat×Nat)):
  ∀(ps:List (Nat×AV)) (qs:List (Nat×Value)) (cs r:List AC) (arr:Array Value),ps.length=qs.length→
   (∀i (h:i<ps.length) (h' :i<qs.length),ps[i].1=qs[i].1∧RelAV w F ρ tm ps[i].2 qs[i].2)→RelL w F ρ cs arr→i1k ob place cs ps=some r→
   ∃arr',Instr.fill place arr qs=some arr' ∧RelL w F ρ r arr'
 | [], [],cs,r,arr,_,_,hr,h=>by
  cases h;exact⟨arr,rfl,hr⟩
 | [],_::_,_,_,_,hl,_,_,_=>by simp at hl
 | _::_, [],_,_,_,hl,_,_,_=>by simp at hl
 | (i,x)::ps,(i',v)::qs,cs,r,arr,hl,hh,hr,h=>by
  have h0:=hh 0 (by simp) (by simp);simp only [List.getElem_cons_zero]at h0;obtain⟨rfl,hx⟩:=h0;simp only [k2i,Nat.add_right_cancel_iff]at hl;unfold i1k at h;unfold Instr.fill;split at h
  ·rename_i off size vs hp hc
   cases hb:(Nat.beq vs.length size&&Nat.ble (off+vs.length) cs.length)with
   | false=>rw [hb]at h;cases h
   | true=>
    rw [hb,cond_true]at h;simp only [j2s]at hb;have e1:=j2t hb.1;have e2:=k2d hb.2;have hv:=f0s hob hx hc;simp only [hp];rw [if_neg (by have:=hv.1;have:=hr.1;simp;omega),u1b];have hfit:off+0+v.cells.toList.length≤arr.size:=by have:=hv.1;have:=hr.1;simp;omega
    refine k0z (tm:=tm) hob place ps qs (b0a cs off vs) r _ hl (fun j hj hj' => ?_) ⟨?_,fun j hj=> ?_⟩ h
    ·have:=hh (j+1) (by simpa using hj) (by simpa using hj')
     simpa using this
    ·rw [(u0x off v.cells.toList 0 arr 0 hfit).1,a0u _ _ _ e2]
     exact hr.1
    ·have hj' :j<cs.length:=by rwa [a0u _ _ _ e2]at hj
     have hg:=(u0x off v.cells.toList 0 arr j hfit).2;have hs:=c0y cs off vs e2 j;rw [j2x hj]at hs;by_cases hin:off≤j∧j<off+vs.length
     ·rw [if_pos hin,j2x (by omega)]at hs
      simp only [j2v]at hs;rw [if_pos (by have:=hv.1;simp;omega)]at hg;have hvj:j - off<v.cells.size:=by have:=hv.1;omega
      have e3:v.cells.toList[j - (off+0)]? =some (v.cells.getD (j - off) undef):=by
       simp [j2u,hvj]
      rw [e3]at hg;rw [a0v hg,hs];exact hv.2 (j - off) (by omega)
     ·rw [if_neg hin,j2x hj']at hs
      simp only [j2v]at hs;rw [if_neg (by have:=hv.1;simp;omega)]at hg;have hvj:j<arr.size:=by have:=hr.1;omega
      rw [k2r hvj]at hg;rw [a0v hg,hs];have e4:arr.getD j undef=arr[j]:=by simp [j2u,hvj]
      rw [←e4];exact hr.2 j hj'
  ·cases h
def i0e(P:Program)(t:TypeId):Option (List Value):=
 match P.info? t with
 | some i=>match i.zero with
  | some z=>bif z.cells.toList.all Value.oneCell' then some z.cells.toList else none
  | none=>none
 | none=>none
omit [Tabs]in
theorem l0f{P:Program}{t:TypeId}{l:List Value}(h:i0e P t=some l): ∃z,(∀w,(zeroValue t).run P w= .ok z w)∧z.cells=l.toArray∧∀v∈l,v.oneCell' =true:=by
 unfold i0e at h;split at h
 ·rename_i i hi
  split at h
  ·rename_i z hz
   cases hb:z.cells.toList.all Value.oneCell' with
   | false=>rw [hb]at h;cases h
   | true=>
    rw [hb]at h;cases h;exact⟨z,fun w=>by simp [zeroValue,typeInfo,hi,hz],by simp,fun v hv=>k2f.1 hb v hv⟩
  ·cases h
 ·cases h
omit [Tabs]in
theorem t0a{w:World}{F:Nat→Prop}{ρ:Env}(l:List Value)(h: ∀v∈l,v.oneCell' =true):RelL w F ρ (l.map fun v=> .d (.sc v)) l.toArray:=by
 refine⟨by simp,fun i hi=> ?_⟩;simp only [k2v]at hi;simp only [List.getElem_map];have:l.toArray.getD i undef=l[i]:=by simp [j2u,hi]
 rw [this];exact .d _ _ (.sc _ (h _ (l2p hi)))
def f0u(P:Program)(fs:List Field):Option (List (Nat×Nat)):=
 match fs with
 | []=>some []
 | f::r=>match c0i P f.type,f0u P r with
  | some s,some l=>some ((f.offset,s)::l)
  | _,_=>none
def n1p(P:Program)(fr:List (Nat×AV))(ob:List (Nat×AObj))(t:TypeId)(parts:Array (Nat×Operand)):Option AV:=
 match i0e P t with
 | some z=>match P.underlying t with
  | some (.struct fs)=>match f0u P fs.toList with
   | some pl=>(i1k ob (fun i=>pl[i]?) (z.map fun v=> .d (.sc v)) (parts.toList.map fun p=>(p.1,ev fr p.2))).map x0t
   | none=>none
  | some (.array _ e)=>match c0i P e with
   | some s=>(i1k ob (fun i=>some (i*s,s)) (z.map fun v=> .d (.sc v)) (parts.toList.map fun p=>(p.1,ev fr p.2))).map x0t
   | none=>none
  | _=>none
 | none=>none
omit [Tabs]in
theorem g0i{P:Program}: ∀{fs:List Field} {pl:List (Nat×Nat)},f0u P fs=some pl→∀w,
  (fs.mapM fun f=>(do pure (f.offset, ←Go.sizeOf f.type):Sem (Nat×Nat))).run P w= .ok pl w
 | [],pl,h,w=>by cases h;rfl
 | f::r,pl,h,w=>by
  unfold f0u at h;split at h
  ·rename_i s l hs hl
   cases h;simp only [List.mapM_cons,Sem.run_bind,Sem.run_pure,Result.andThen_ok,a0l hs,g0i hl w]
  ·cases h
section
variable{P:Program}{N:Nat}{F:Nat→Prop}{ρ:Env}{st:ASt}{a:Act}{w:World}
theorem x0k(h:Rel N F ρ st a w)(parts:List (Nat×Operand)):
  (parts.map fun p=>(p.1,ev st.fr p.2)).length=(parts.map fun p=>(p.1,a.eval p.2)).length∧
  ∀i (h1:i< (parts.map fun p=>(p.1,ev st.fr p.2)).length) (h2:i< (parts.map fun p=>(p.1,a.eval p.2)).length),
   (parts.map fun p=>(p.1,ev st.fr p.2))[i].1=(parts.map fun p=>(p.1,a.eval p.2))[i].1∧RelAV w F ρ a.tmps (parts.map fun p=>(p.1,ev st.fr p.2))[i].2 (parts.map fun p=>(p.1,a.eval p.2))[i].2:=by
 refine⟨by simp,fun i h1 h2=> ?_⟩;simp only [List.getElem_map,true_and];exact a0f h _
theorem h1c(h:Rel N F ρ st a w){t:TypeId}{parts:Array (Nat×Operand)}{x:AV}(hv:n1p P st.fr st.ob t parts=some x):
  ∃v,(Instr.build t (parts.map fun(i,x)=>(i,a.eval x))).run P w= .ok v w∧RelAV w F ρ a.tmps x v:=by
 unfold n1p at hv;have hq:=x0k h parts.toList;have hp:(parts.map fun(i,x)=>(i,a.eval x)).toList=parts.toList.map fun p=>(p.1,a.eval p.2):=by simp
 split at hv
 ·rename_i z hz
  obtain⟨zv,hzr,hzc,hz1⟩:=l0f hz;split at hv
  ·rename_i fs hu
   split at hv
   ·rename_i pl hpl
    simp only [l2k]at hv;obtain⟨r,hr,rfl⟩:=hv;obtain⟨arr,hf,hrel⟩:=k0z (tm:=a.tmps) h.ob _ _ _ _ _ z.toArray hq.1 hq.2 (t0a z hz1) hr;have hm:(fs.mapM fun f=>(do pure (f.offset, ←Go.sizeOf f.type):Sem (Nat×Nat))).run P w= .ok pl.toArray w:=by
     rw [Array.mapM_eq_mapM_toList];simp only [Sem.run_map,g0i hpl w,Result.andThen_ok]
    refine⟨.agg arr, ?_,b0x (.agg _ _ hrel.1 hrel.2)⟩;unfold Instr.build;simp only [Sem.run_bind,hzr,Result.andThen_ok,run_underlying hu,hm,hzc,hp];have hpl' :(fun x:Nat=>pl.toArray[x]?)=fun i:Nat=>pl[i]? :=by funext i;simp
    rw [hpl',hf];rfl
   ·cases hv
  ·rename_i n e hu
   split at hv
   ·rename_i s hs
    simp only [l2k]at hv;obtain⟨r,hr,rfl⟩:=hv;obtain⟨arr,hf,hrel⟩:=k0z (tm:=a.tmps) h.ob _ _ _ _ _ z.toArray hq.1 hq.2 (t0a z hz1) hr;refine⟨.agg arr, ?_,b0x (.agg _ _ hrel.1 hrel.2)⟩;unfold Instr.build;simp only [Sem.run_bind,hzr,Result.andThen_ok,run_underlying hu,a0l hs,hzc,hp,hf];rfl
   ·cases hv
  ·cases hv
 ·cases hv
end
end Esp
namespace Esp
open Go
set_option linter.unusedSimpArgs false
set_option linter.unusedVariables false
variable [Tabs]
def ASt.killF(k:Nat)(fr:List (Nat×AV)):List (Nat×AV):=fr.map fun p=>(p.1,p.2.kill k)
def ASt.setO(k:Nat)(o:AObj)(ob:List (Nat×AObj)):List (Nat×AObj):=(k,o)::(ob.filter fun p=> !Nat.beq p.1 k)
def ASt.killO(k:Nat)(ob:List (Nat×AObj)):List (Nat×AObj):=ob.map fun p=>(p.1,p.2.kill k)
def ASt.newOb(st:ASt)(k:Nat)(o:AObj):ASt:=
 {fr:=ASt.killF k st.fr,ob:=ASt.setO k o (ASt.killO k st.ob)}
omit [Tabs]in
theorem d0i(f:AObj→AObj)(hf:f .gone= .gone): ∀(fr:List (Nat×AObj)) (i:Nat),lkO (fr.map fun p=>(p.1,f p.2)) i=f (lkO fr i)
 | [],_=>hf.symm
 | (j,v)::r,i=>by
  simp only [k2l,lkO];cases Nat.beq i j with
  | true=>rfl
  | false=>simpa using d0i f hf r i
omit [Tabs]in
theorem m0b(d:Nat): ∀(fr:List (Nat×AObj)) (i:Nat),i≠d→lkO (fr.filter fun p=> !Nat.beq p.1 d) i=lkO fr i
 | [],_,_=>rfl
 | (j,v)::r,i,h=>by
  cases hj:Nat.beq j d with
  | true=>
   have:Nat.beq i j=false:=by
    cases hij:Nat.beq i j with
    | false=>rfl
    | true=>exact absurd ((j2t hij).trans (j2t hj)) h
   rw [List.filter_cons_of_neg (by simp [hj])];simp only [lkO,this,cond_false];exact m0b d r i h
  | false=>
   rw [List.filter_cons_of_pos (by simp [hj])];simp only [lkO];cases Nat.beq i j with
   | true=>rfl
   | false=>simpa using m0b d r i h
omit [Tabs]in
theorem a0q(k:Nat)(o:AObj)(ob:List (Nat×AObj)):lkO (ASt.setO k o ob) k=o:=by simp [ASt.setO,lkO]
omit [Tabs]in
theorem a0o(k:Nat)(o:AObj)(ob:List (Nat×AObj))(i:Nat)(h:i≠k):lkO (ASt.setO k o ob) i=lkO ob i:=by
 have hb:Nat.beq i k=false:=by cases hb:Nat.beq i k with | false=>rfl | true=>exact absurd (j2t hb) h
 simp only [ASt.setO,lkO,hb,cond_false];exact m0b k ob i h
omit [Tabs]in
theorem AV.kill_junk(k:Nat):AV.kill k .junk= .junk:=by simp [AV.kill]
def Env.set(ρ:Env)(k:Nat)(l:Option Loc):Env:=fun j=>if j=k then l else ρ j
omit [Tabs]in
theorem Env.set_same(ρ:Env)(k:Nat)(l:Option Loc):ρ.set k l k=l:=by simp [Env.set]
omit [Tabs]in
theorem Env.set_other(ρ:Env)(k:Nat)(l:Option Loc){j:Nat}(h:j≠k):ρ.set k l j=ρ j:=by simp [Env.set,h]
omit [Tabs]in
theorem Env.set_off(ρ:Env)(k:Nat)(l:Option Loc):offK k ρ (ρ.set k l):=fun j h=>Env.set_other ρ k l h
omit [Tabs]in
theorem RelOb.lt{w:World}{F:Nat→Prop}{ρ:Env}{k:Nat}{o:AObj}(h:RelOb w F ρ k o){l:Loc}{b:Nat}(hk:ρ k=some l)(hb:l.blk=some b):b<w.heap.size:=by
 induction h with
 | gone h=>rw [h]at hk;cases hk
 | na t ee xs h ih=>exact ih
 | any o h ih=>exact ih
 | box cs oty b' c t hoty hk' hb' hs hh=>
  rw [hk']at hk;cases hk;cases hb;exact(k2j.1 hb').1
 | arr t e n cs u xs hk' ho hs hh=>
  rw [hk']at hk;cases hk;exact(ho.lt b hb).2
 | tab b o h=>rw [h]at hk;cases hk
 | it s pos b' hk' hb' =>
  rw [hk']at hk;cases hk;cases hb;exact(k2j.1 hb').1
 | mi kt vt l cur b' mo si se la hk' hb' hm=>
  rw [hk']at hk;cases hk;cases hb;exact(k2j.1 hb').1
 | mp t kt vt l b' es c hk' hb' =>
  rw [hk']at hk;cases hk;cases hb;exact(k2j.1 hb').1
omit [Tabs]in
theorem RelOb.through{w w' :World}{F F' :Nat→Prop}{ρ:Env}{k:Nat}{o:AObj}(h:RelOb w F ρ k o)(hF: ∀b,F b→w'.heap[b]? =w.heap[b]?)(hs: ∀b,F b→F' b)
  (hb: ∀l b,ρ k=some l→l.blk=some b→w'.heap[b]? =w.heap[b]?):RelOb w' F' ρ k o:=by
 induction h with
 | gone h=>exact .gone h
 | na t ee xs h ih=>exact .na t ee xs ih
 | any o h ih=>exact .any _ ih
 | box cs oty b c t hoty hk hb' hz hh=>exact .box cs _ b c t hoty hk ((hb _ b hk rfl).trans hb') hz fun i hi=>(hh i hi).mono hF hs fun _ _ h=>h
 | arr t e n cs u xs hk ho hz hh=>
  refine .arr t e n cs u xs hk ?_ hz fun i hi=>(hh i hi).mono hF hs;refine⟨ho.1, ?_⟩;rcases ho.2 with h | ⟨g,cap,cur,rfl,hbg,hg,rest⟩
  ·exact .inl h
  ·exact .inr ⟨g,cap,cur,rfl,hbg,(hb _ g hk rfl).trans hg,rest⟩
 | tab b o hk hfb hb' =>exact .tab b o hk (hs b hfb) ((hF b hfb).trans hb')
 | it s pos b hk hb' =>exact .it s pos b hk ((hb _ b hk rfl).trans hb')
 | mi kt vt l cur b mo si se la hk hb' hm=>exact .mi kt vt l cur b mo si se la hk ((hb _ b hk rfl).trans hb') (hm.mono hF hs)
 | mp t kt vt l b es c hk hb' hz hh dn hd=>exact .mp t kt vt l b es c hk ((hb _ b hk rfl).trans hb') hz (fun i h1 h2=>⟨(hh i h1 h2).1.mono hF hs,(hh i h1 h2).2.mono hF hs⟩) dn hd
section
variable{P:Program}{N:Nat}{F:Nat→Prop}{ρ:Env}{st:ASt}{a:Act}{w w' :World}
theorem Rel.setOb(h:Rel N F ρ st a w)(hos:w'.os=w.os)(htp:w'.tape=w.tape)(hou:w'.output=w.output)(hsz:w.heap.size≤w'.heap.size)(k:Nat)(L:Loc)(o:AObj)
  (hkeep: ∀b,b<w.heap.size→(∀l,ρ k=some l→l.blk≠some b)→w'.heap[b]? =w.heap[b]?)
  (hL: ∀b,L.blk=some b→b<w'.heap.size∧(w.heap.size≤b∨∃l,ρ k=some l∧l.blk=some b))
  (ho:RelOb w' F (ρ.set k (some L)) k o)(hst:1000000≤k→Stab k (ρ k) (some L)):
  Rel N F (ρ.set k (some L)) (st.newOb k o) a w' ∧Fr F ρ w F (ρ.set k (some L)) w' :=by
 have hF: ∀b,F b→w'.heap[b]? =w.heap[b]? :=fun b hb=>hkeep b (h.rw.lt b hb) fun l hl e=>h.rw.dis b hb ⟨k,l,hl,e⟩;have hlive: ∀b,live (ρ.set k (some L)) b→live ρ b∨w.heap.size≤b:=by
  rintro b ⟨j,l,hj,hb⟩;by_cases e:j=k
  ·subst e
   rw [Env.set_same]at hj;cases hj;rcases(hL b hb).2 with h' | ⟨l,hl,hb'⟩
   ·exact .inr h'
   ·exact .inl ⟨j,l,hl,hb'⟩
  ·rw [Env.set_other _ _ _ e]at hj
   exact .inl ⟨j,l,hj,hb⟩
 refine⟨⟨⟨?_, ?_, ?_,h.rw.tab_of hF fun _ h=>h⟩, ?_, ?_,h.sz,h.df⟩,⟨hos,htp,hou,hsz,fun _ hb=>hb, ?_, ?_, ?_⟩⟩
 ·intro b hb hl
  rcases hlive b hl with h' | h'
  ·exact h.rw.dis b hb h'
  ·have:=h.rw.lt b hb;omega
 ·intro b hb
  have:=h.rw.lt b hb;omega
 ·intro i j l l' b hi hj hb hb'
  by_cases e1:i=k<;>by_cases e2:j=k
  ·exact e1.trans e2.symm
  ·subst e1
   rw [Env.set_same]at hi;cases hi;rw [Env.set_other _ _ _ e2]at hj;rcases(hL b hb).2 with h' | ⟨l,hl,hb2⟩
   ·have:=(h.ob j).lt hj hb';omega
   ·exact h.rw.inj _ _ _ _ b hl hj hb2 hb'
  ·subst e2
   rw [Env.set_same]at hj;cases hj;rw [Env.set_other _ _ _ e1]at hi;rcases(hL b hb').2 with h' | ⟨l,hl,hb2⟩
   ·have:=(h.ob i).lt hi hb;omega
   ·exact h.rw.inj _ _ _ _ b hi hl hb hb2
  ·rw [Env.set_other _ _ _ e1]at hi
   rw [Env.set_other _ _ _ e2]at hj;exact h.rw.inj _ _ _ _ b hi hj hb hb'
 ·intro i
  simp only [ASt.newOb,ASt.killF];rw [c0v (AV.kill k) (AV.kill_junk k)];exact((h.fr i).kill (Env.set_off ρ k (some L))).mono hF (fun _ h=>h) (fun _ _ h=>h)
 ·intro j
  by_cases e:j=k
  ·subst e
   simp only [ASt.newOb];rw [a0q];exact ho
  ·simp only [ASt.newOb,ASt.killO]
   rw [a0o _ _ _ _ e,d0i (AObj.kill k) rfl];have h1:=(h.ob j).kill (Env.set_off ρ k (some L)) e;refine h1.through hF (fun _ h=>h) fun l b hl hb=> ?_;rw [Env.set_other _ _ _ e]at hl;exact hkeep b ((h.ob j).lt hl hb) fun l' hl' hb' =>e (h.rw.inj _ _ _ _ b hl hl' hb hb')
 ·intro b hb hl
  exact hkeep b hb fun l hl' e=>hl ⟨k,l,hl',e⟩
 ·rintro b hb (hf | hl)
  ·exact .inl hf
  ·rcases hlive b hl with h' | h'
   ·exact .inr h'
   ·omega
 ·intro j hj
  by_cases e:j=k
  ·subst e
   rw [Env.set_same];exact hst hj
  ·rw [Env.set_other _ _ _ e]
   exact Stab.refl _ _
theorem Rel.setBox(h:Rel N F ρ st a w)(hos:w'.os=w.os)(htp:w'.tape=w.tape)(hou:w'.output=w.output)(hsz:w.heap.size=w'.heap.size)(k:Nat)(o:AObj)
  (hkeep: ∀b,(∀l,ρ k=some l→l.blk≠some b)→w'.heap[b]? =w.heap[b]?)(ho:RelOb w' F ρ k o):
  Rel N F ρ {st with ob:=ASt.setO k o st.ob} a w' ∧Fr F ρ w F ρ w' :=by
 have hF: ∀b,F b→w'.heap[b]? =w.heap[b]? :=fun b hb=>hkeep b fun l hl e=>h.rw.dis b hb ⟨k,l,hl,e⟩;refine⟨⟨⟨h.rw.dis,fun b hb=>hsz▸h.rw.lt b hb,h.rw.inj,h.rw.tab_of hF fun _ h=>h⟩,fun i=>(h.fr i).mono hF (fun _ h=>h) (fun _ _ h=>h), ?_,h.sz,h.df⟩,⟨hos,htp,hou,Nat.le_of_eq hsz,fun _ hb=>hb, ?_,fun b _ hb=>hb,fun _ _=>Stab.refl _ _⟩⟩
 ·intro j
  by_cases e:j=k
  ·subst e
   rw [a0q];exact ho
  ·rw [a0o _ _ _ _ e]
   exact(h.ob j).through hF (fun _ h=>h) fun l b hl hb=>hkeep b fun l' hl' hb' =>e (h.rw.inj _ _ _ _ b hl hl' hb hb')
 ·intro b hb hl
  exact hkeep b fun l hl' e=>hl ⟨k,l,hl',e⟩
omit [Tabs]in
theorem RelL.kill{cs:List AC}{arr:Array Value}{k:Nat}{ρ' :Env}(ho:offK k ρ ρ')(h:RelL w F ρ cs arr):RelL w F ρ' (cs.map (AC.kill k)) arr:=
 ⟨by simpa using h.1,fun i hi=>by simpa using(h.2 i (by simpa using hi)).kill ho⟩
omit [Tabs]in
theorem RelL.grow{cs:List AC}{arr:Array Value}(hF: ∀b,F b→w'.heap[b]? =w.heap[b]?)(h:RelL w F ρ cs arr):RelL w' F ρ cs arr:=
 ⟨h.1,fun i hi=>(h.2 i hi).mono hF (fun _ h=>h) fun _ _ h=>h⟩
inductive Eff where
 | put(d:Tmp)(x:AV)
 | new(k:Nat)(o:AObj)(d:Tmp)(x:AV)
 | upd(k:Nat)(o:AObj)
 | upp(k:Nat)(o:AObj)(d:Tmp)(x:AV)
 deriving Inhabited
def Eff.app:Eff→ASt→ASt
 | .put d x,st=>st.put (some d) x
 | .new k o d x,st=>(st.newOb k o).put (some d) x
 | .upd k o,st=>{st with ob:=ASt.setO k o st.ob}
 | .upp k o d x,st=>ASt.put {st with ob:=ASt.setO k o st.ob} (some d) x
def Eff.key:Eff→Option Nat
 | .new k _ _ _=>some k
 | _=>none
def Eff.touch:Eff→Option Nat
 | .put _ _=>none
 | .new k _ _ _=>some k
 | .upd k _=>some k
 | .upp k _ _ _=>some k
def Eff.dst:Eff→Option Tmp
 | .put d _=>some d
 | .new _ _ d _=>some d
 | .upd _ _=>none
 | .upp _ _ d _=>some d
structure Tch(e:Eff)(ρ:Env)(w:World)(ρ' :Env)(w' :World):Prop where
 off: ∀j,e.key≠some j→ρ' j=ρ j
 keep: ∀b,b<w.heap.size→(∀k l,e.touch=some k→ρ k=some l→l.blk≠some b)→w'.heap[b]? =w.heap[b]?
omit [Tabs]in
theorem Tch.none{e:Eff}{ρ:Env}{w w' :World}(hk: ∀b,b<w.heap.size→w'.heap[b]? =w.heap[b]?):Tch e ρ w ρ w' :=⟨fun _ _=>rfl,fun b hb _=>hk b hb⟩
def OpEff(P:Program)(N:Nat)(o:Oper)(st:ASt)(e:Eff):Prop:=
 o.dst=e.dst∧∀F ρ a w,Rel N F ρ st a w→∃v w' F' ρ',((execOp a.eval o).run P w= .ok (.value v) w' ∨((execOp a.eval o).run P w= .ok .skip w' ∧v=undef))∧
  Rel N F' ρ' (e.app st) (a.put e.dst v) w' ∧Fr F ρ w F' ρ' w' ∧Tch e ρ w ρ' w'
theorem r0n(h:Rel N F ρ st a w){cs:List AC}{arr:Array Value}(t:TypeId)(d:Tmp)(hd:d<N)(hr:RelL w F ρ cs arr)(oty:Option TypeId)(hoty: ∀t',oty=some t' →t=t'):
  ∃ρ',Rel N F ρ' ((st.newOb d (.box (cs.map (AC.kill d)) oty)).put (some d) (.cell (.ptr d 0))) (a.put (some d) (.pointer (some ⟨w.heap.size,0,none⟩))) (w.alloc (.cells arr t))∧Fr F ρ w F ρ' (w.alloc (.cells arr t))∧Tch (.new d (.box (cs.map (AC.kill d)) oty) d (.cell (.ptr d 0))) ρ w ρ' (w.alloc (.cells arr t)):=by
 have hF: ∀b,F b→(w.alloc (.cells arr t)).heap[b]? =w.heap[b]? :=fun b hb=>Go.RowKit.Below.heap_alloc w _ b (h.rw.lt b hb);obtain⟨h1,h2⟩:=h.setOb (w' :=w.alloc (.cells arr t)) rfl rfl rfl (by simp) d (.box w.heap.size) (.box (cs.map (AC.kill d)) oty)
  (fun b hb _=>Go.RowKit.Below.heap_alloc w _ b hb) (fun b hb=>by cases hb;exact⟨by simp, .inl (k2h _)⟩)
  (by
   have hk:=(hr.kill (Env.set_off ρ d (some (.box w.heap.size)))).grow hF;exact .box _ _ w.heap.size arr t hoty (Env.set_same _ _ _) (heap_alloc_new w _) hk.1 hk.2) (fun hk=>absurd (l2s hd h.df.2) (by omega))
 refine⟨_,h1.put d hd (.cell _ _ (.ptr _ _ _ fun b hb=> ?_)),h2,⟨fun j hj=>Env.set_other _ _ _ fun e=>hj (by rw [e];rfl),fun b hb _=>Go.RowKit.Below.heap_alloc w _ b hb⟩⟩;rw [Env.set_same]at hb;cases hb;rfl
def n1d(P:Program)(N:Nat)(d:Option Tmp)(t:TypeId):Option Eff:=
 match d,i0e P t with
 | some d,some z=>bif Nat.blt d N then some (.new d (.box ((z.map fun v=> .d (.sc v)).map (AC.kill d)) (some t)) d (.cell (.ptr d 0)))else none
 | _,_=>none
def sBox(N:Nat)(st:ASt)(d:Option Tmp)(x:Operand):Option Eff:=
 match d,cellsOf st.ob (ev st.fr x)with
 | some d,some cs=>bif Nat.blt d N then some (.new d (.box (cs.map (AC.kill d))) d (.cell (.ptr d 0)))else none
 | _,_=>none
omit [Tabs]in
theorem a0j{a b:Nat}(h:Nat.blt a b=true):a<b:=by have:=k2d (show Nat.ble (a+1) b=true from h);omega
theorem h1v{e:Eff}{o:Oper}{t:TypeId}(ho:o.op= .alloc t)(hs:n1d P N o.dst t=some e):OpEff P N o st e:=by
 obtain⟨dst,op,ty,pos,after,guard⟩:=o;dsimp only at ho hs;subst ho;unfold n1d at hs;split at hs
 ·rename_i d z hz
  cases hd:Nat.blt d N with
  | false=>rw [hd]at hs;cases hs
  | true=>
   rw [hd]at hs;cases hs;refine⟨rfl,fun F ρ a w h=> ?_⟩;obtain⟨zv,hzr,hzc,hz1⟩:=l0f hz;obtain⟨ρ',h1,h2,h3⟩:=r0n h t d (a0j hd) (t0a z hz1) (some t) (fun t' h=>Option.some.inj h);refine⟨_,_,F,ρ', .inl ?_,h1,h2,h3⟩;simp [execOp,Instr.alloc,hzr,newVar,newRow,hzc]
 ·cases hs
theorem t1b{e:Eff}{o:Oper}{t:TypeId}{x:Operand}(ho:o.op= .box t x)(hs:sBox N st o.dst x=some e):OpEff P N o st e:=by
 obtain⟨dst,op,ty,pos,after,guard⟩:=o;dsimp only at ho hs;subst ho;unfold sBox at hs;split at hs
 ·rename_i d cs hc
  cases hd:Nat.blt d N with
  | false=>rw [hd]at hs;cases hs
  | true=>
   rw [hd]at hs;cases hs;refine⟨rfl,fun F ρ a w h=> ?_⟩;obtain⟨ρ',h1,h2,h3⟩:=r0n h t d (a0j hd) (f0s h.ob (a0f h x) hc) none (fun t' h=>by cases h);refine⟨_,_,F,ρ', .inl ?_,h1,h2,h3⟩;simp [execOp,Instr.box,newVar,newRow]
 ·cases hs
def r1i(P:Program)(st:ASt)(t:TypeId)(p x:Operand):Option Eff:=
 match ev st.fr p,cellsOf st.ob (ev st.fr x),c0i P t with
 | .cell (.ptr k off),some vs,some s=>match lkO st.ob k with
  | .box cs ty=>bif Nat.beq vs.length s&&Nat.ble (off+vs.length) cs.length&&vs.all (AC.okIn st.ob)then some (.upd k (.box (b0a cs off vs) ty))else none
  | _=>none
 | _,_,_=>none
theorem i1x{e:Eff}{o:Oper}{t:TypeId}{p x:Operand}(ho:o.op= .store t p x)(hd:o.dst=none)(hs:r1i P st t p x=some e):OpEff P N o st e:=by
 obtain⟨dst,op,ty,pos,after,guard⟩:=o;dsimp only at ho hd;subst ho;subst hd;unfold r1i at hs;split at hs
 ·rename_i k off vs s he hc hz
  split at hs
  ·rename_i cs oty hk
   cases hb:(Nat.beq vs.length s&&Nat.ble (off+vs.length) cs.length&&vs.all (AC.okIn st.ob))with
   | false=>rw [hb]at hs;cases hs
   | true=>
    rw [hb]at hs;cases hs;simp only [j2s]at hb;obtain⟨⟨hb1,hb2⟩,hb3⟩:=hb;have e1:=j2t hb1;have e2:=k2d hb2;refine⟨rfl,fun F ρ a w h=> ?_⟩;have hp:=a0f h p;rw [he]at hp;have hv:=f0s h.ob (a0f h x) hc;have hob:=h.ob k;rw [hk]at hob;cases hob with
    | box cs oty b c ty' hoty hk' hbk hsz hh=>
     have ep:a.eval p= .pointer (some ⟨b,off,none⟩):=by
      generalize a.eval p=pv at hp;cases hp with
      | cell c v hp=>cases hp with
       | ptr k off v hp=>exact hp b hk'
     have hone: ∀u∈(a.eval x).cells.toList,u.oneCell' =true:=by
      intro u hu;obtain⟨i,hi,rfl⟩:=List.getElem_of_mem hu;have hi' :i<vs.length:=by have:=hv.1;simpa [this]using hi
      have:=e1a h.ob (hv.2 i hi') (k2f.1 hb3 _ (l2p hi'));have e:(a.eval x).cells.getD i undef=(a.eval x).cells.toList[i]:=by
       have hi2:i< (a.eval x).cells.size:=by simpa using hi
       simp [j2u,hi2]
      rwa [e]at this
     have hfit:off+0+(a.eval x).cells.toList.length≤c.size:=by have:=hv.1;simp;omega
     have hrun:=run_storeCells_at P b off ty' (a.eval x).cells.toList 0 c w hbk hfit hone;simp only [m2p]at hrun
     let new:Array Value:=(c.toList.take off++(a.eval x).cells.toList++c.toList.drop (off+(a.eval x).cells.toList.length)).toArray
     have hnew:(w.setRow b new).heap[b]? =some (.cells new ty' (0,0)):=setRow_heap w b c new ty' (0,0) hbk;have hlen:(a.eval x).cells.toList.length=vs.length:=by have:=hv.1;simpa using this
     have hget: ∀i,new[i]? =if off≤i∧i<off+vs.length then(a.eval x).cells.toList[i - off]? else c[i]? :=by
      intro i;have:=c0y c.toList off (a.eval x).cells.toList (by simp at hfit⊢;omega) i;rw [←hlen];simpa [new,b0a]using this
     have hF: ∀b',F b' →(w.setRow b new).heap[b']? =w.heap[b']? :=fun b' hb' =>setRow_other w b b' new fun e=>h.rw.dis b' hb' ⟨k,_,hk',by rw [e];rfl⟩;obtain⟨h1,h2⟩:=h.setBox (w' :=w.setRow b new) rfl rfl rfl (by simp [World.setRow]) k (.box (b0a cs off vs) oty)
      (fun b' hb' =>setRow_other w b b' new fun e=>hb' _ hk' (by rw [e];rfl))
      (by
       refine .box _ _ b new ty' hoty hk' hnew ?_ fun i hi=> ?_
       ·rw [a0u _ _ _ e2, ←hsz]
        simp [new];simp at hfit;omega
       ·have hi' :i<cs.length:=by rwa [a0u _ _ _ e2]at hi
        have hs:=c0y cs off vs e2 i;rw [j2x hi]at hs;have hg:=hget i;by_cases hin:off≤i∧i<off+vs.length
        ·rw [if_pos hin,j2x (by omega)]at hs
         simp only [j2v]at hs;rw [if_pos hin]at hg;have hvj:i - off< (a.eval x).cells.size:=by have:=hv.1;omega
         have e3:(a.eval x).cells.toList[i - off]? =some ((a.eval x).cells.getD (i - off) undef):=by
          simp [j2u,hvj]
         rw [e3]at hg;rw [a0v hg,hs];exact(hv.2 (i - off) (by omega)).mono hF (fun _ h=>h) fun _ _ h=>h
        ·rw [if_neg hin,j2x hi']at hs
         simp only [j2v]at hs;rw [if_neg hin]at hg;have hci:i<c.size:=by omega
         rw [k2r hci]at hg;rw [a0v hg,hs];have e4:c.getD i undef=c[i]:=by simp [j2u,hci]
         rw [←e4];exact(hh i hi').mono hF (fun _ h=>h) fun _ _ h=>h)
     refine⟨undef,_,F,ρ, .inr ⟨?_,rfl⟩,h1,h2,⟨fun _ _=>rfl,fun b' hb' hn=>setRow_other w b b' new fun e=>hn k _ rfl hk' (by rw [e];rfl)⟩⟩;have hsize:(a.eval x).cells.size=s:=by have:=hv.1;omega
     simp only [execOp,Instr.storeAt,ep,Instr.sureAddr,storeVar,Sem.run_bind,Sem.run_pure,Result.andThen_ok,a0l hz,hsize,ne_eq,not_true_eq_false,if_false,hrun];rfl
  ·cases hs
 ·cases hs
def reps(z:List Value)(n:Nat):List Value:=(List.range n).map fun i=>z.getD (i%z.length) undef
def k1a(P:Program)(N:Nat)(st:ASt)(d:Option Tmp)(t:TypeId)(len:Nat)(parts:Array (Nat×Operand)):Option Eff:=
 match d,P.underlying t with
 | some d,some (.slice e)=>match c0i P e,i0e P e with
  | some s,some z=>
   bif Nat.blt d N&&Nat.ble (len*s) 16777216&&Nat.blt 0 s&&Nat.beq z.length s then
    match i1k st.ob (fun i=>some (i*s,s)) ((reps z (len*s)).map fun v=> .d (.sc v)) (parts.toList.map fun p=>(p.1,ev st.fr p.2))with
    | some cs=>match allD cs with
     | some ds=>bif Nat.beq ds.length (len*s)then some (.new d (.arr e s len ds) d (.cell (.own d)))else none
     | none=>none
    | none=>none
   else none
  | _,_=>none
 | _,_=>none
theorem h1t{eff:Eff}{o:Oper}{t:TypeId}{len:Nat}{parts:Array (Nat×Operand)}(ho:o.op= .buildSlice t len parts)(hs:k1a P N st o.dst t len parts=some eff):OpEff P N o st eff:=by
 obtain⟨dst,op,ty,pos,after,guard⟩:=o;dsimp only at ho hs;subst ho;unfold k1a at hs;split at hs
 ·rename_i d e hu
  split at hs
  ·rename_i s z hz hzz
   cases hb:(Nat.blt d N&&Nat.ble (len*s) 16777216&&Nat.blt 0 s&&Nat.beq z.length s)with
   | false=>rw [hb]at hs;cases hs
   | true=>
    rw [hb,cond_true]at hs;simp only [j2s]at hb;obtain⟨⟨⟨hb1,hb2⟩,hb3⟩,hb4⟩:=hb;have hdN:=a0j hb1;have hle:=k2d hb2;have hs0:=a0j hb3;have hzl:=j2t hb4;obtain⟨zv,hzr,hzc,hz1⟩:=l0f hzz;split at hs
    ·rename_i cs hf
     split at hs
     ·rename_i ds had
      cases hbl:Nat.beq ds.length (len*s)with
      | false=>rw [hbl]at hs;cases hs
      | true=>
      rw [hbl]at hs;cases hs;have hdl:=j2t hbl;refine⟨rfl,fun F ρ a w h=> ?_⟩;have hq:=x0k h parts.toList;have hp:(parts.map fun(i,x)=>(i,a.eval x)).toList=parts.toList.map fun p=>(p.1,a.eval p.2):=by simp
      have hr1: ∀v∈reps z (len*s),v.oneCell' =true:=by
       intro v hv;simp only [reps,k2s,m2e]at hv;obtain⟨i,hi,rfl⟩:=hv;have:i%z.length<z.length:=Nat.mod_lt _ (by omega);rw [j2z,j2x this];exact hz1 _ (l2p this)
      obtain⟨arr,hfr,hrel⟩:=k0z (tm:=a.tmps) h.ob _ _ _ _ _ (reps z (len*s)).toArray hq.1 hq.2 (t0a _ hr1) hf;have ecs:=g0v had;subst ecs;have hal:arr.size=ds.length:=by simpa using hrel.1
      have hrun:(Instr.buildSlice t len (parts.map fun(i,x)=>(i,a.eval x))).run P w= .ok (.slice (some ⟨w.heap.size,0,none⟩) len len) (w.alloc (.cells arr e)):=by
       unfold Instr.buildSlice;simp only [Sem.run_bind,run_underlying hu,Result.andThen_ok,a0l hz,hp];rw [if_neg (by omega)];by_cases h0:len*s=0
       ·have harr:((Array.range (len*s)).map fun x=>(#[]:Array Value)[x%(#[]:Array Value).size]!)=(reps z (len*s)).toArray:=by simp [h0,reps]
        rw [if_pos h0];simp only [Sem.run_bind,Sem.run_pure,Result.andThen_ok];rw [harr,hfr];rfl
       ·have harr:((Array.range (len*s)).map fun x=>zv.cells[x%zv.cells.size]!)=(reps z (len*s)).toArray:=by
         apply Array.ext';simp only [Array.toList_map,Array.toList_range,reps,hzc];apply List.map_congr_left;intro i _;have hm:i%z.length<z.length:=Nat.mod_lt _ (by omega);simp [hm]
        rw [if_neg h0];simp only [Sem.run_bind,hzr,Sem.run_pure,Result.andThen_ok];rw [harr,hfr];rfl
      have hF: ∀b,F b→(w.alloc (.cells arr e)).heap[b]? =w.heap[b]? :=fun b hb=>Go.RowKit.Below.heap_alloc w _ b (h.rw.lt b hb);have hlm:len≤maxLen:=by
       have:len≤len*s:=Nat.le_mul_of_pos_right len hs0;unfold maxLen;omega
      obtain⟨h1,h2⟩:=h.setOb (w' :=w.alloc (.cells arr e)) rfl rfl rfl (by simp) d (.arr (.slice (some ⟨w.heap.size,0,none⟩) len len)) (.arr e s len ds)
       (fun b hb _=>Go.RowKit.Below.heap_alloc w _ b hb) (fun b hb=>by cases hb;exact⟨by simp, .inl (k2h _)⟩)
       (by
        refine .arr e s len ds _ arr.toList (Env.set_same _ _ _) ⟨by simp;omega, .inr ⟨w.heap.size,len,arr,rfl,k2o _,heap_alloc_new w _,k2h _,hlm,by omega, ?_⟩⟩ (by simpa using hal) fun i hi=> ?_
        ·exact List.take_of_length_le (by simp;omega)
        ·have:=hrel.2 i (by simpa using hi)
         simp only [List.getElem_map]at this;have hi2:i<arr.size:=by omega
         have e5:arr.toList.getD i undef=arr.getD i undef:=by simp [j2u,hi2]
         rw [e5];cases this with
         | d x v hx=>exact hx.mono hF fun _ h=>h) (fun hk=>absurd (l2s hdN h.df.2) (by omega))
      refine⟨.slice (some ⟨w.heap.size,0,none⟩) len len,_,F,_, .inl ?_,h1.put d hdN (.cell _ _ (.own _ _ fun u hu' => ?_)),h2,⟨fun j hj=>Env.set_other _ _ _ fun e=>hj (by rw [e];rfl),fun b hb _=>Go.RowKit.Below.heap_alloc w _ b hb⟩⟩
      ·simp only [execOp,Sem.run_bind,hrun,Result.andThen_ok]
       rfl
      ·rw [Env.set_same]at hu'
       cases hu';rfl
     ·cases hs
    ·cases hs
  ·cases hs
 ·cases hs
end
end Esp

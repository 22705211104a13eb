import Derived.Test.YtcloicgnanjbcaaGreatDoorEvTmpl
import Derived.Test.YtcloicgnanjbcaaGreatDoorEvEff
import Derived.Test.YtcloicgnanjbcaaGreatDoorEvAv
import Derived.Test.YtcloicgnanjbcaaGreatDoorEvRng
noncomputable section
namespace Esp
open Go
set_option linter.unusedSimpArgs false
set_option linter.unusedVariables false
variable [Tabs]
structure ArgM where
 hand:List Nat:= []
 nils:List NilArg:= []
 news:List Nat:= []
 bor:Bool:=false
def a0z:List (Nat×ArgM)→Nat→ArgM
 | [],_=>{}
 | (a,m)::r,f=>bif Nat.beq f a then m else a0z r f
def AC.owns:AC→List Nat
 | .own k=> [k]
 | .mpr k=> [k]
 | _=> []
def AV.owns:AV→List Nat
 | .cell c=>c.owns
 | .agg cs=>cs.flatMap AC.owns
 | _=> []
def AC.reach(ob:List (Nat×AObj)):Nat→AC→List Nat
 | 0,_=> []
 | _+1, .own k=> [k]
 | _+1, .ifo _ k=> [k]
 | _+1, .mpr k=> [k]
 | n+1, .ptr k _=>k::(match lkO ob k with | .box cs _=>cs.flatMap (AC.reach ob n) | _=> [])
 | n+1, .fn _ _ cs=>cs.flatMap (AC.reach ob n)
 | _,_=> []
def AV.reach(ob:List (Nat×AObj)):AV→List Nat
 | .cell c=>c.reach ob 4
 | .agg cs=>cs.flatMap (AC.reach ob 4)
 | _=> []
def q1m(hand:List Nat):Nat→List AV→List Nat
 | _, []=> []
 | i,x::r=>bif memB i hand || memB (i+1000) hand then q1m hand (i+1) r else x.owns++q1m hand (i+1) r
def j1l(M:List (Nat×ArgM)):Bool:=match(a0z M 999999999).hand with | []=>false | _=>true
def b0f(M:List (Nat×ArgM))(st:ASt)(o:Oper):List Nat:=
 match o.op with
 | .buildSlice _ _ ps=>ps.toList.flatMap fun p=>(ev st.fr p.2).owns
 | .convert _ _ x=>(ev st.fr x).owns
 | .makeFunc _ _ cs=>cs.toList.flatMap fun c=>match ev st.fr c with
  | .cell (.ptr k _)=>bif memB k (a0z M 999999995).hand then [k]else []
  | _=> []
 | .indexAddr _ x _=>bif j1l M then []else(ev st.fr x).owns
 | .slice _ x none (some _) none=>bif j1l M then []else(ev st.fr x).owns
 | .slice _ x (some _) none none=>bif j1l M then []else(ev st.fr x).owns
 | .slice _ x _ _ _=>(ev st.fr x).owns
 | .call c=>match b0k st.fr c with
  | some (f,args)=>bif (a0z M f).bor then []else q1m (a0z M f).hand 0 args
  | none=> []
 | _=> []
def numK:Nat→List Nat→List (Nat×Nat)
 | _, []=> []
 | n,k::r=>(n,k)::numK (n+1) r
def newK:List Nat→List Nat→List Nat
 | _, []=> []
 | seen,k::r=>bif memB k seen then newK seen r else k::newK (k::seen) r
def argK(ob:List (Nat×AObj))(args:List AV)(p:Nat):List Nat:=match args[p]? with | some x=>x.reach ob | none=> []
def b2t(ob:List (Nat×AObj))(args:List AV):List Nat→Nat→List Nat→List (Nat×Nat)
 | _,_, []=> []
 | seen,h,p::r=>bif Nat.ble 1000 p then numK (2000000+16*h) (newK seen (argK ob args (p - 1000)))++b2t ob args (argK ob args (p - 1000)++seen) (h+1) r
  else numK (1000000+16*h) (newK seen (argK ob args p))++b2t ob args (argK ob args p++seen) (h+1) r
def j1u(ob:List (Nat×AObj))(args:List AV)(h:Nat)(l:List Nat):List (Nat×Nat):=b2t ob args [] h l
def k1p(args:List AV)(ns:List NilArg):List NilArg:=
 ns.filter fun n=>match args[n.pos]? with
  | some (.cell (.d (.sc (.slice none 0 0))))=>true
  | _=>false
def newM(d:Nat):Nat→List Nat→List (Nat×Nat)
 | _, []=> []
 | i,k::r=>(k,d+2000*i)::newM d (i+1) r
section
variable{ρ:Type}
abbrev Orc(ρ:Type):=FuncId→List AV→List (Nat×AObj)→(AV→List (Nat×AObj)→Option ρ)→Option ρ
def EX(x:AV)(ob:List (Nat×AObj))(e:AEnd)(o:List (Nat×AObj)):Prop:=e= .ret x∧o=ob
def XCall(P:Program)(f:FuncId)(args:List AV)(x:AV):Prop:=∀F ρ (vs:Array Value) w,RelW F ρ w→RelArgs w F ρ args vs→∃v,(callFunc f vs).run P w= .ok (.value v) w∧RelAV w F ρ #[] x v
def u0s(P:Program)(f:FuncId)(args:List AV)(ob:List (Nat×AObj))(R:AEnd→List (Nat×AObj)→Prop):Prop:=
 ∀F ρ (vs:Array Value) w,RelW F ρ w→(∀k,RelOb w F ρ k (lkO ob k))→RelArgs w F ρ args vs→
  ∃v w',(callFunc f vs).run P w= .ok (.value v) w' ∧∃F' ρ' r ob',R r ob' ∧m0k w' F' ρ' r (.returned v)∧RelW F' ρ' w' ∧(∀k,RelOb w' F' ρ' k (lkO ob' k))∧Fr F ρ w F' ρ' w'
def Orc.ok(P:Program)(O:Orc ρ):Prop:=∀f a o k r,O f a o k=some r→(a0p P f=true∧∃x o2,ACalls P f a o (EX x o2)∧k x o2=some r)∨((a0p P f=false∧∃x,XCall P f a x∧x.plain=true∧k x []=some r)∨
 (a0p P f=false∧o≠ []∧ ∃x o2,u0s P f a o (EX x o2)∧k x o2=some r))
theorem q0y{w:World}{F:Nat→Prop}{ρ0:Env}(ks:List Nat)(h:RelW F ρ0 w):RelW F (fun j=>if j∈ks then ρ0 j else none) w:=by
 have hs: ∀j l,(if j∈ks then ρ0 j else none)=some l→ρ0 j=some l:=by
  intro j l hj;split at hj
  ·exact hj
  ·cases hj
 exact⟨fun b hb ⟨j,l,hj,hb'⟩=>h.dis b hb ⟨j,l,hs _ _ hj,hb'⟩,h.lt,fun k k' l l' b hk hk' =>h.inj k k' l l' b (hs _ _ hk) (hs _ _ hk'),h.tab⟩
omit [Tabs]in
theorem f1k{w:World}{F:Nat→Prop}{ρ0:Env}(ks:List Nat):Fr F ρ0 w F (fun j=>if j∈ks then ρ0 j else none) w:=by
 have hs: ∀j l,(if j∈ks then ρ0 j else none)=some l→ρ0 j=some l:=by
  intro j l hj;split at hj
  ·exact hj
  ·cases hj
 refine⟨rfl,rfl,rfl,k2h _,fun _ h=>h,fun _ _ _=>rfl,fun b _ hh=> ?_,fun k _=> ?_⟩
 ·rcases hh with hf | ⟨j,l,hj,hb⟩
  ·exact .inl hf
  ·exact .inr ⟨j,l,hs _ _ hj,hb⟩
 ·split
  ·exact Stab.refl _ _
  ·cases ρ0 k<;>trivial
theorem XCall.xa{P:Program}{f:FuncId}{a:List AV}{x:AV}(h:XCall P f a x)(ob:List (Nat×AObj)):u0s P f a ob (EX x []):=fun F ρ vs w hrw hob hra=>by
 obtain⟨v,h1,h2⟩:=h F ρ vs w hrw hra;have hs: ∀j l,(if j∈([]:List Nat)then ρ j else none)=some l→ρ j=some l:=fun j l hj=>by simp at hj
 refine⟨v,w,h1,F,fun j=>if j∈([]:List Nat)then ρ j else none, .ret x, [],⟨rfl,rfl⟩, ?_,q0y [] hrw,fun k=> .gone (by simp),f1k []⟩
 exact h2.mono (fun _ _=>rfl) (fun _ h=>h) hs
def h1g(P:Program)(N:Nat)(M:List (Nat×ArgM))(O:Orc ρ)(st:ASt)(d:Option Tmp)(f:FuncId)(cargs:List AV)(k:ASt→Option ρ):Option ρ:=
 let md:=a0z M f
 let m:=j1u st.ob cargs 0 md.hand
 let ns:=k1p cargs md.nils
 let nw:=newM (d.getD 0) 0 (ns.map (·.kk)++md.news)
 bif i0i N st.ob m nw ns d&&AV.plainL cargs then O f (e0a m ns 0 cargs) (q0h st.ob m ns) fun x o2=>bif x.plain then k (d0t m nw d x o2 st)else none
 else none
def kBor(N:Nat)(O:Orc ρ)(st:ASt)(d:Option Tmp)(f:FuncId)(cargs:List AV)(k:ASt→Option ρ):Option ρ:=
 match d with
 | none=>none
 | some d=>bif Nat.blt d N&&AV.frozenL (borL st.ob cargs)then O f (borL st.ob cargs) [] fun x o2=>match g1z cargs x o2 with
  | some y=>k (st.put (some d) y)
  | none=>none
  else none
def qXO(P:Program)(M:List (Nat×ArgM))(ops:Array Oper)(i:Nat)(st:ASt):Option (Option Tmp×FuncId×List AV):=
 match opK ops st.fr i with
 | some ⟨d, .call c,_,_,_,_⟩=>match b0k st.fr c with
  | some (f,args)=>bif !a0p P f&& !(a0z M f).hand.isEmpty then some (d,f,args)else none
  | none=>none
 | _=>none
def qExt(P:Program)(N:Nat)(ops:Array Oper)(i:Nat)(st:ASt):Option (Tmp×FuncId×List AV):=
 match opK ops st.fr i with
 | some ⟨some d, .call c,_,_,_,_⟩=>match b0k st.fr c with
  | some (f,args)=>bif !a0p P f&&Nat.blt d N&&AV.plainL args then some (d,f,args)else none
  | none=>none
 | _=>none
def t0e(o:Oper):Bool:=
 match o.op with
 | .call ⟨.value _,_,_⟩=>true
 | _=>false
def ASt.know(st:ASt)(g:Nat)(b:Bool):ASt:={st with fr:=(g, .cell (.d (.sc (.bool b))))::unwF (m0i st.fr 8 g b) st.fr}
def j2k(M:List (Nat×ArgM))(o:Oper):Option (Nat×TypeId):=
 match o.op with
 | .alloc t=>match o.dst with
  | some d=>match(a0z M 999999996).hand with
   | [T,te]=>bif Nat.beq t T then some (d,te)else none
   | _=>none
  | none=>none
 | _=>none
def postB(M:List (Nat×ArgM))(o:Oper)(st:ASt):ASt:=
 match j2k M o with
 | some p=>st.bld p.1 p.2
 | none=>st
def b1c(P:Program)(N:Nat)(M:List (Nat×ArgM))(st:ASt)(o:Oper):Bool:=
 match o.op with
 | .defer c=>match b0k st.fr c with
  | some (g,_)=>memB g (a0z M 999999997).hand&&h2a N o.dst
  | none=>false
 | _=>false
variable(P:Program)(N:Nat)(T:List (TypeId×Ev.Ty))(M:List (Nat×ArgM))(O:Orc ρ)(ops:Array Oper)
def evK(i:Nat)(st:ASt)(k:ASt→Option ρ):Option ρ:=
 match opK ops st.fr i with
 | some o=>match t0e o with
  | true=>match c0q P ops i ((b0f M st o).foldl ASt.freeze st)with
   | some (d,f,cargs)=>bif (a0z M f).bor then kBor N O ((b0f M st o).foldl ASt.freeze st) d f cargs k else h1g P N M O ((b0f M st o).foldl ASt.freeze st) d f cargs k
   | none=>match qXO P M ops i ((b0f M st o).foldl ASt.freeze st)with
    | some (d,f,cargs)=>h1g P N M O ((b0f M st o).foldl ASt.freeze st) d f cargs k
    | none=>match qExt P N ops i ((b0f M st o).foldl ASt.freeze st)with
    | some (d,f,cargs)=>O f cargs [] fun x _=>k (((b0f M st o).foldl ASt.freeze st).put (some d) x)
    | none=>none
  | false=>match opK ops ((b0f M st o).foldl ASt.freeze st).fr i with
   | some o' =>match nxtT N ((b0f M st o).foldl ASt.freeze st) o' with
    | some p=>bif Nat.blt p.pos p.s.size then k (p.st1 ((b0f M st o).foldl ASt.freeze st))else k (p.st0 ((b0f M st o).foldl ASt.freeze st))
    | none=>match nxtM N ((b0f M st o).foldl ASt.freeze st) o' with
    | some p=>rngM p.l (k (p.st0 ((b0f M st o).foldl ASt.freeze st))) fun e r=>k (p.st1 ((b0f M st o).foldl ASt.freeze st) e r)
    | none=>match p1w P N ((b0f M st o).foldl ASt.freeze st) o' with
    | some e=>k (e.app ((b0f M st o).foldl ASt.freeze st))
    | none=>match nilT P N ((b0f M st o).foldl ASt.freeze st) o' with
    | some p=>nilq p.xs (k (((b0f M st o).foldl ASt.freeze st).put (some p.d) (bV (!p.neq)))) (k (((b0f M st o).foldl ASt.freeze st).put (some p.d) (bV p.neq)))
    | none=>bif b1c P N M ((b0f M st o).foldl ASt.freeze st) o' then k (((b0f M st o).foldl ASt.freeze st).put o'.dst .junk)else kOp P N T ((b0f M st o).foldl ASt.freeze st) o' fun e=>k (postB M o' (e.app ((b0f M st o).foldl ASt.freeze st)))
   | none=>none
 | none=>match g1i ops st.fr i with
  | some d=>bif Nat.blt d N then k (st.put (some d) (n1v ops i d))else none
  | none=>none
def p0a:List (Nat×Bool)→Nat→Bool→Bool
 | [],_,_=>false
 | (j,w)::r,g,v=>(Nat.beq j g&& (w==v)) || p0a r g v
def k1x:Nat→List (Nat×Bool)→ASt→Nat→(List (Nat×Bool)→ASt→Option ρ)→Option ρ
 | 0,_,_,_,_=>none
 | d+1,kn,st,g,k=>match lkF st.fr g with
  | .cell (.d (.sc (.bool b)))=>bif b then k ((g,true)::kn) (st.know g true)else k ((g,false)::kn) (st.know g false)
  | .whn g1 w1 _=>k1x d kn st g1 fun kn s=>match lkF s.fr g1 with
   | .cell (.d (.sc (.bool b1)))=>bif b1==w1 then k1x d kn s g k else k kn s
   | _=>k kn s
  | _=>none
def z1t(i:Nat)(kn:List (Nat×Bool))(st:ASt)(k:List (Nat×Bool)→ASt→Option ρ):Option ρ:=
 match ops[i]? with
 | none=>none
 | some o=>match o.guard with
  | none=>evK P N T M O ops i st (k kn)
  | some (j,want)=>match q0k ops j with
   | none=>none
   | some g=>bif p0a kn g (!want)then evK P N T M O ops i st (k kn)else match t1h P N ops o j want st with
    | some e=>k kn (e.app st)
    | none=>k1x 4 kn st g fun kn s=>evK P N T M O ops i s (k kn)
def a1z:(n i:Nat)→List (Nat×Bool)→ASt→(ASt→Option ρ)→Option ρ
 | 0,_,_,st,k=>k st
 | n+1,i,kn,st,k=>z1t P N T M O ops i kn st fun kn s=>a1z n (i+1) kn s k
end
section
variable{ρ:Type}{P:Program}{N:Nat}{T:List (TypeId×Ev.Ty)}{M:List (Nat×ArgM)}{O:Orc ρ}{ops:Array Oper}{st:ASt}{i n:Nat}{r:ρ}{Q:Exit→ASt→Prop}
theorem AOps.freezes{l:List Nat}: ∀(ks:List Nat) {st:ASt},AOps P N ops l (ks.foldl ASt.freeze st) Q→AOps P N ops l st Q
 | [],_,h=>h
 | k::r,st,h=> .freeze k rfl (AOps.freezes r h)
theorem y1o{d:Option Tmp}{f:FuncId}{cargs:List AV}{x:AV}{o2:List (Nat×AObj)}(h:c0q P ops i st=some (d,f,cargs))(m nw:List (Nat×Nat))(ns:List NilArg)(hok:i0i N st.ob m nw ns d=true)(hpl:AV.plainL cargs=true)
  (spec:ACalls P f (e0a m ns 0 cargs) (q0h st.ob m ns) (EX x o2))(hx:x.plain=true)(k:AOps P N ops (List.range' (i+1) n) (d0t m nw d x o2 st) Q):AOps P N ops (List.range' i (n+1)) st Q:=
 .ocall h m nw ns hok rfl rfl hpl spec (fun e o ⟨he,_⟩=>⟨x,he,hx⟩) rfl rfl fun x' ob' ⟨he,ho⟩=>by cases he;subst ho;exact k
omit [Tabs]in
theorem g0z{d:Option Tmp}{f:FuncId}{cargs:List AV}(h:c0q P ops i st=some (d,f,cargs)):a0p P f=true:=by
 unfold c0q at h;split at h
 ·split at h
  ·rename_i f' args' hc
   cases hb:a0p P f' with
   | false=>rw [hb]at h;cases h
   | true=>rw [hb]at h;cases h;exact hb
  ·cases h
 ·cases h
omit [Tabs]in
theorem h1r{d:Nat}{f:FuncId}{cargs:List AV}(h:qExt P N ops i st=some (d,f,cargs)):a0p P f=false:=by
 unfold qExt at h;split at h
 ·split at h
  ·rename_i f' args' hc
   cases hb:(!a0p P f' &&Nat.blt _ N&&AV.plainL args')with
   | false=>rw [hb]at h;cases h
   | true=>
    rw [hb]at h;cases h;simp only [j2s,l2l]at hb;exact hb.1.1
  ·cases h
 ·cases h
theorem m0s{F:Nat→Prop}{ρ:Env}{a:Act}{w:World}(h:Rel N F ρ st a w){c:Call}{f:FuncId}{args:List AV}(hc:b0k st.fr c=some (f,args))(t:TypeId):
  ∃vs:Array Value,(do let d ←resolve a.eval c t;invoke d.target d.args:Sem Next).run P w=(callFunc f vs).run P w∧vs.size=args.length∧∀i (hi:i<args.length),RelAV w F ρ a.tmps args[i] (vs.getD i undef):=by
 unfold b0k at hc;split at hc
 ·rename_i g hg
  split at hc
  ·rename_i f' fs cs he
   cases hc;have hr:=a0f h g;rw [he]at hr;generalize hgv:a.eval g=gv at hr;cases hr with
   | cell _ _ hr=>cases hr with
    | fn _ _ _ vs us h1 h2 hfs hcs=>
     refine⟨vs++c.args.map a.eval++us, ?_,by simp [h1,h2]<;>omega,fun i hi=> ?_⟩
     ·simp only [resolve,hg,hgv,Deferred.ofValue,Sem.run_bind,Sem.run_pure,Result.andThen_ok,invoke]
     ·simp only [j2y,k2v,k2z]at hi
      by_cases hi1:i<fs.length
      ·have e1:(vs++c.args.map a.eval++us).getD i undef=vs.getD i undef:=by
        simp only [j2u];rw [Array.append_assoc,m2b (by omega)]
       rw [e1,l2u (by simpa using hi1),List.getElem_map];exact .cell _ _ (hfs i hi1)
      ·rw [List.getElem_append_right (by simp;omega)]
       by_cases hi2:i - fs.length<c.args.size
       ·have e1:(vs++c.args.map a.eval++us).getD i undef=a.eval c.args[i - fs.length]:=by
         simp only [j2u];rw [Array.append_assoc,Array.getElem?_append_right (by omega),m2b (by simp only [Array.size_map];omega),h1];simp [hi2]
        rw [e1,l2u (by simp;omega)];simp only [List.getElem_map,k2v,Array.getElem_toList];exact a0f h _
       ·have e1:(vs++c.args.map a.eval++us).getD i undef=us.getD (i - fs.length - c.args.size) undef:=by
         simp only [j2u];rw [Array.append_assoc,Array.getElem?_append_right (by omega),Array.getElem?_append_right (by simp;omega),h1];simp
        rw [e1,List.getElem_append_right (by simp;omega)];simp only [List.getElem_map,k2v,k2z];exact .cell _ _ (hcs _ (by omega))
  ·cases hc
 ·cases hc
theorem IEff.ext{d:Nat}{f:FuncId}{cargs:List AV}{x:AV}(h:qExt P N ops i st=some (d,f,cargs))(spec:XCall P f cargs x)(hx:x.plain=true):a0p P f=false∧IEff P N ops i st (.put d x):=by
 unfold qExt at h;split at h
 ·rename_i d' c ty pos after guard ho
  split at h
  ·rename_i f' args' hc
   cases hb:(!a0p P f' &&Nat.blt d' N&&AV.plainL args')with
   | false=>rw [hb]at h;cases h
   | true=>
    rw [hb]at h;cases h;simp only [j2s,l2l]at hb;refine⟨hb.1.1, .of_opK ho (.of_plain rfl hb.1.2 hx fun F ρ a w hr=> ?_)⟩;obtain⟨vs,hrun,hsz,hrel⟩:=m0s (P:=P) hr hc ty;obtain⟨v,h1,h2⟩:=spec F ρ vs w hr.rw ⟨hsz,fun j hj=>(hrel j hj).retm (AV.plainL_get hb.2 j hj)⟩;exact⟨v,hrun.trans h1,h2⟩
  ·cases h
 ·cases h
theorem a1t(hO:O.ok P){k:ASt→Option ρ}{d:Option Tmp}{f:FuncId}{cargs:List AV}(h:c0q P ops i st=some (d,f,cargs))(hk:h1g P N M O st d f cargs k=some r)
  (kk: ∀s,k s=some r→AOps P N ops (List.range' (i+1) n) s Q):AOps P N ops (List.range' i (n+1)) st Q:=by
 unfold h1g at hk;dsimp only at hk;generalize j1u st.ob cargs 0 (a0z M f).hand=m at hk;generalize k1p cargs (a0z M f).nils=ns at hk;generalize newM (d.getD 0) 0 (ns.map (·.kk)++(a0z M f).news)=nw at hk
 cases hb:(i0i N st.ob m nw ns d&&AV.plainL cargs)with
 | false=>rw [hb]at hk;cases hk
 | true=>
  rw [hb,cond_true]at hk;simp only [j2s]at hb;obtain⟨x,o2,h1,h2⟩: ∃x o2,ACalls P f (e0a m ns 0 cargs) (q0h st.ob m ns) (EX x o2)∧(bif x.plain then k (d0t m nw d x o2 st)else none)=some r:=by
   rcases hO _ _ _ _ _ hk with h | h
   ·exact h.2
   ·rcases h with h | h<;>(rw [g0z (by assumption)]at h;cases h.1)
  cases hx:x.plain with
  | false=>rw [hx]at h2;cases h2
  | true=>
   rw [hx,cond_true]at h2;exact y1o h m nw ns hb.1 hb.2 h1 hx (kk _ h2)
theorem c2m{d:Option Tmp}{f:FuncId}{cargs:List AV}{x:AV}{o2:List (Nat×AObj)}(h:qXO P M ops i st=some (d,f,cargs))(m nw:List (Nat×Nat))(ns:List NilArg)(hok:i0i N st.ob m nw ns d=true)(hpl:AV.plainL cargs=true)
  (spec:u0s P f (e0a m ns 0 cargs) (q0h st.ob m ns) (EX x o2))(hx:x.plain=true)(k:AOps P N ops (List.range' (i+1) n) (d0t m nw d x o2 st) Q):AOps P N ops (List.range' i (n+1)) st Q:=by
 rw [l2t];unfold qXO at h;split at h
 ·rename_i d' c ty pos after guard ho
  split at h
  ·rename_i f' args' hc
   cases hb:(!a0p P f' && !(a0z M f').hand.isEmpty)with
   | false=>rw [hb]at h;cases h
   | true=>
    rw [hb]at h;cases h;intro F ρ a w hr;rw [wpOps_cons];obtain⟨e,hw⟩:=b0c hr ho;obtain⟨vs,hrun,hsz,hrel⟩:=m0s (P:=P) hr hc ty;simp only [wpOp,e];rw [if_pos hw];left;have hok' :=hok;simp only [i0i,j2s]at hok';have hom:=t0w hok'.1.1.1.1;have hns:ns.all (fun n=>(fwd m n.kk).isNone)=true:=by
     rw [k2f];intro n hn;have:=k2f.1 hok'.1.2 n hn;simp only [j2s]at this;exact this.1
    obtain⟨e1,e2,hren⟩:=i0q hr (m:=m) (ns:=ns) hom;obtain⟨v,w',hx',F',ρ',rr,ob',hq,hre,hrw,hrob,hfr⟩:=spec F (d0l ρ m ns) vs w e1 (fun k=>e2 k (.inr hns)) ⟨by rw [b0j];exact hsz,fun j hj=>by
     have hj' :j<cargs.length:=by rw [b0j]at hj;exact hj
     rw [h0t _ _ _ _ _ hj' hj];exact m0c hren hns ((hrel j hj').retm (AV.plainL_get hpl j hj'))⟩
    obtain⟨rfl,rfl⟩:=hq;have hrun' :(execOp a.eval ⟨d, .call c,ty,pos,after,guard⟩).run P w= .ok (.value v) w' :=hrun.trans hx';simp only [Oper.wp,Oper.upon,hrun'];obtain⟨h1,h2⟩:=q0r hr hok hrw hrob hfr hre hx;exact k.after h1 h2
  ·cases h
 ·cases h
omit [Tabs]in
theorem p1d{d:Option Tmp}{f:FuncId}{cargs:List AV}(h:qXO P M ops i st=some (d,f,cargs)):a0p P f=false:=by
 unfold qXO at h;split at h
 ·split at h
  ·rename_i f' args' hc
   cases hb:(!a0p P f' && !(a0z M f').hand.isEmpty)with
   | false=>rw [hb]at h;cases h
   | true=>
    rw [hb]at h;cases h;simp only [j2s,l2l]at hb;exact hb.1
  ·cases h
 ·cases h
theorem j1a(hO:O.ok P){k:ASt→Option ρ}{d:Option Tmp}{f:FuncId}{cargs:List AV}(h:qXO P M ops i st=some (d,f,cargs))(hk:h1g P N M O st d f cargs k=some r)
  (kk: ∀s,k s=some r→AOps P N ops (List.range' (i+1) n) s Q):AOps P N ops (List.range' i (n+1)) st Q:=by
 unfold h1g at hk;dsimp only at hk;generalize j1u st.ob cargs 0 (a0z M f).hand=m at hk;generalize k1p cargs (a0z M f).nils=ns at hk;generalize newM (d.getD 0) 0 (ns.map (·.kk)++(a0z M f).news)=nw at hk
 cases hb:(i0i N st.ob m nw ns d&&AV.plainL cargs)with
 | false=>rw [hb]at hk;cases hk
 | true=>
  rw [hb,cond_true]at hk;simp only [j2s]at hb;obtain⟨x,o2,h1,h2⟩: ∃x o2,u0s P f (e0a m ns 0 cargs) (q0h st.ob m ns) (EX x o2)∧(bif x.plain then k (d0t m nw d x o2 st)else none)=some r:=by
   rcases hO _ _ _ _ _ hk with h' | ⟨_,x,h1,_,h3⟩ | h'
   ·rw [p1d h]at h';cases h'.1
   ·exact⟨x, [],h1.xa _,h3⟩
   ·exact h'.2.2
  cases hx:x.plain with
  | false=>rw [hx]at h2;cases h2
  | true=>
   rw [hx,cond_true]at h2;exact c2m h m nw ns hb.1 hb.2 h1 hx (kk _ h2)
omit [Tabs]in
theorem m0q{d:Option Tmp}{f:FuncId}{cargs:List AV}(h:c0q P ops i st=some (d,f,cargs)): ∃c ty pos after guard,opK ops st.fr i=some ⟨d, .call c,ty,pos,after,guard⟩∧b0k st.fr c=some (f,cargs)∧a0p P f=true:=by
 unfold c0q at h;split at h
 ·rename_i d' c ty pos after guard ho
  split at h
  ·rename_i f' args' hc
   cases hb:a0p P f' with
   | false=>rw [hb]at h;cases h
   | true=>
    rw [hb]at h;cases h;exact⟨c,ty,pos,after,guard,ho,hc,hb⟩
  ·cases h
 ·cases h
theorem h1z{d:Tmp}{f:FuncId}{cargs:List AV}(hq:c0q P ops i st=some (some d,f,cargs))(hd:Nat.blt d N=true)(hz:AV.frozenL (borL st.ob cargs)=true){x y:AV}{o2:List (Nat×AObj)}
  (h:ACalls P f (borL st.ob cargs) [] (EX x o2))(hy:g1z cargs x o2=some y):IEff P N ops i st (.put d y):=by
 obtain⟨c,ty,pos,after,guard,ho,hc,he⟩:=m0q hq;unfold g1z at hy;cases hx:(z0j x).scal with
 | true=>rw [hx]at hy;cases hy;exact .borrow ho hc he hz hd h hx
 | false=>
  rw [hx,cond_false]at hy;cases hm:(n0h cargs&&g1y x)with
  | true=>
   rw [hm]at hy;cases hy;rw [j2s]at hm;exact .borrowM ho hc he hz hd h hm.1 hm.2
  | false=>
   rw [hm,cond_false]at hy;split at hy
   ·rename_i k k2 t τ xs
    cases hb:(Nat.beq k k2&&x0e τ)with
    | false=>rw [hb]at hy;cases hy
    | true=>
     rw [hb]at hy;cases hy;rw [j2s]at hb;have e1:=j2t hb.1;subst e1;exact .borrowN ho hc he hz hd h hb.2
   ·cases hy
theorem w0a(hO:O.ok P){d:Tmp}{f:FuncId}{cargs:List AV}{k:AV→Option ρ}(hq:c0q P ops i st=some (some d,f,cargs))(hd:Nat.blt d N=true)(hz:AV.frozenL (borL st.ob cargs)=true)
  (h:O f (borL st.ob cargs) [] (fun x o2=>match g1z cargs x o2 with
   | some y=>k y
   | none=>none)=some r): ∃x,IEff P N ops i st (.put d x)∧k x=some r:=by
 obtain⟨c,ty,pos,after,guard,ho,hc,he⟩:=m0q hq;rcases hO _ _ _ _ _ h with hh | ⟨hh,_⟩ | ⟨hh,_⟩
 ·obtain⟨x,o2,h1,h2⟩:=hh.2
  cases hx:g1z cargs x o2 with
  | none=>rw [hx]at h2;cases h2
  | some y=>rw [hx]at h2;exact⟨_,h1z hq hd hz h1 hx,h2⟩
 ·rw [he]at hh;cases hh
 ·rw [he]at hh;cases hh
theorem h1l(hO:O.ok P){d:Option Tmp}{f:FuncId}{cargs:List AV}{k:ASt→Option ρ}(hq:c0q P ops i st=some (d,f,cargs))(h:kBor N O st d f cargs k=some r)(kk: ∀s,k s=some r→AOps P N ops (List.range' (i+1) n) s Q):AOps P N ops (List.range' i (n+1)) st Q:=by
 unfold kBor at h;split at h
 ·cases h
 ·rename_i d
  cases hb:(Nat.blt d N&&AV.frozenL (borL st.ob cargs))with
  | false=>rw [hb]at h;cases h
  | true=>
   rw [hb,cond_true]at h;rw [j2s]at hb;obtain⟨x,h1,h2⟩:=w0a (k:=fun x=>k (st.put (some d) x)) hO hq hb.1 hb.2 h;rw [l2t];exact .ieff h1 (kk _ h2)
theorem AOps.goes{l:List Nat}{st' :ASt}(hg:Goes N st st')(k:AOps P N ops l st' Q):AOps P N ops l st Q:=fun F ρ a w hr=>by
 obtain⟨F',ρ',h1,h2⟩:=hg F ρ a w hr;exact k.after h1 h2
theorem Goes.postB(M:List (Nat×ArgM))(o:Oper)(st:ASt):Goes N st (postB M o st):=by
 unfold Esp.postB;split
 ·exact Goes.bld _ _ _
 ·exact fun F ρ a w hr=>⟨F,ρ,hr,Fr.refl F ρ w⟩
theorem AOps.defer{d:Option Tmp}{c:Call}{g:FuncId}{args:List AV}{ty:TypeId}{pos}{after}{guard}(ho:opK ops st.fr i=some ⟨d, .defer c,ty,pos,after,guard⟩)(hc:b0k st.fr c=some (g,args))
  (hg:g∈Tabs.okd∧Tabs.fixd=none)(hd:h2a N d=true)(k:AOps P N ops (List.range' (i+1) n) (st.put d .junk) Q):AOps P N ops (List.range' i (n+1)) st Q:=by
 rw [l2t];intro F ρ a w hr;rw [wpOps_cons];obtain⟨e,hw⟩:=b0c hr ho;simp only [wpOp,e];rw [if_pos hw];left;obtain⟨dd,hrun,hpo⟩: ∃dd:Deferred,(execOp a.eval ⟨d, .defer c,ty,pos,after,guard⟩).run P w= .ok (.defer dd) w∧x0n dd:=by
  unfold b0k at hc;split at hc
  ·rename_i q hq
   split at hc
   ·rename_i f' fs cs he
    cases hc;have hr' :=a0f hr q;rw [he]at hr';generalize hgv:a.eval q=gv at hr';cases hr' with
    | cell _ _ hr' =>cases hr' with
     | fn _ _ _ vs us h1 h2 hfs hcs=>
      refine⟨⟨.fn (.func g) us,vs++c.args.map a.eval⟩, ?_,g,hg.1,us,rfl⟩;simp only [execOp,resolve,hq,hgv,Deferred.ofValue,Sem.run_bind,Sem.run_pure,Result.andThen_ok]
   ·cases hc
  ·cases hc
 simp only [Oper.wp,Oper.upon,hrun];have hr2:Rel N F ρ st {a with defers:=dd::a.defers} w:=⟨hr.rw,hr.fr,hr.ob,hr.sz,hr.df.1.cons hg.2 hpo,hr.df.2⟩
 have hr3:Rel N F ρ (st.put d .junk) (({a with defers:=dd::a.defers}:Act).put d undef) w:=by
  cases d with
  | none=>exact hr2
  | some d=>exact hr2.put d (a0j hd) (.junk _)
 exact k.after hr3 (Fr.refl F ρ w)
class DfOk(M:List (Nat×ArgM)):Prop where
 ok: ∀g∈(a0z M 999999997).hand,g∈Tabs.okd∧Tabs.fixd=none
theorem DfOk.none{M:List (Nat×ArgM)}(h:(a0z M 999999997).hand= []):DfOk M:=⟨fun g hg=>by rw [h]at hg;cases hg⟩
omit [Tabs]in
theorem o0s{x:Nat}: ∀{l:List Nat},memB x l=true→x∈l
 | [],h=>by cases h
 | y::l,h=>by
  unfold memB at h;rw [m2g]at h;rcases h with h | h
  ·rw [j2t h];exact List.mem_cons_self ..
  ·exact l2c _ (o0s h)
theorem p0i [DfOk M] (hO:O.ok P){k:ASt→Option ρ}(h:evK P N T M O ops i st k=some r)(kk: ∀s,k s=some r→AOps P N ops (List.range' (i+1) n) s Q):AOps P N ops (List.range' i (n+1)) st Q:=by
 unfold evK at h;split at h
 ·rename_i o ho
  split at h
  ·split at h
   ·rename_i d f cargs hq
    cases hbo:(a0z M f).bor with
    | false=>rw [hbo]at h;exact .freezes _ (a1t hO hq h kk)
    | true=>
     rw [hbo]at h;exact .freezes _ (h1l hO hq h kk)
   ·split at h
    ·rename_i d f cargs hq
     exact .freezes _ (j1a hO hq h kk)
    split at h
    ·rename_i d f cargs hq
     refine .freezes (b0f M st o) ?_;rcases hO _ _ _ _ _ h with hh | ⟨_,x,h1,h2,h3⟩ | ⟨_,ho,_⟩
     ·obtain⟨x,o2,h1,h2⟩:=hh.2
      exfalso;have:a0p P f=false:=by
       unfold qExt at hq;split at hq
       ·split at hq
        ·rename_i f' args' hc
         cases hb:(!a0p P f' &&Nat.blt _ N&&AV.plainL args')with
         | false=>rw [hb]at hq;cases hq
         | true=>
          rw [hb]at hq;cases hq;simp only [j2s,l2l]at hb;exact hb.1.1
        ·cases hq
       ·cases hq
      rw [this]at hh;cases hh.1
     ·rw [l2t]
      exact .ieff (IEff.ext hq h1 h2).2 (kk _ h3)
     ·exact absurd rfl ho
    ·cases h
  ·split at h
   ·rename_i o' ho'
    refine .freezes (b0f M st o) ?_;split at h
    ·rename_i p hp
     cases hb:Nat.blt p.pos p.s.size with
     | true=>
      rw [hb]at h;exact .next ho' hp (fun _=>kk _ h) (fun hn=>absurd (a0j hb) hn)
     | false=>
      rw [hb]at h;refine .next ho' hp (fun hl=> ?_) (fun _=>kk _ h);have:Nat.blt p.pos p.s.size=true:=k2k hl;rw [hb]at this;cases this
    split at h
    ·rename_i p hp
     obtain⟨h0,h1⟩:=s1q h;exact .nextM ho' hp (fun j hj=>kk _ (h1 j hj)) (fun hl=>kk _ (h0 hl))
    split at h
    ·rename_i e he
     rw [l2t];exact .ieff (.of_opK ho' (i1l he)) (kk _ h)
    split at h
    ·rename_i p hp
     obtain⟨h1,h2⟩:=z1p h;exact .nilT ho' hp (fun hx=>kk _ (h1 hx)) (kk _ h2)
    ·cases hdf:b1c P N M ((b0f M st o).foldl ASt.freeze st) o' with
     | false=>
      rw [hdf,cond_false]at h;obtain⟨e,h1,h2⟩:=f0b ho' h;rw [l2t];exact .ieff h1 (.goes (Goes.postB _ _ _) (kk _ h2))
     | true=>
      rw [hdf,cond_true]at h;obtain⟨d',op',ty',pos',after',guard'⟩:=o';unfold b1c at hdf;dsimp only at hdf h;split at hdf
      ·rename_i c
       split at hdf
       ·rename_i g args hg
        rw [j2s]at hdf;exact .defer ho' hg (DfOk.ok _ (o0s hdf.1)) hdf.2 (kk _ h)
       ·cases hdf
      ·cases hdf
   ·cases h
 ·split at h
  ·rename_i d hd
   cases hb:Nat.blt d N with
   | false=>rw [hb]at h;cases h
   | true=>
    rw [hb]at h;rw [l2t];exact .ieff (.skip hd hb) (kk _ h)
  ·cases h
theorem Rel.know{F:Nat→Prop}{ρ:Env}{a:Act}{w:World}{g:Nat}{b:Bool}(h:Rel N F ρ st a w)(hg:lkF st.fr g= .cell (.d (.sc (.bool b)))):Rel N F ρ (st.know g b) a w:=by
 have hv:a.tmps.getD g undef= .bool b:=b0w (h.fr g) (by rw [hg];rfl);have h2:=h.unw _ (l0r h 8 g b hv);refine⟨h2.rw,fun j=> ?_,h2.ob,h2.sz,h2.df⟩;simp only [ASt.know,lkF];cases hb:Nat.beq j g with
 | false=>exact h2.fr j
 | true=>
  rw [j2t hb,hv];exact .cell _ _ (.d _ _ (.sc _ rfl))
theorem i0v{l:List Nat}: ∀(d:Nat) {kn:List (Nat×Bool)} {st:ASt} {g:Nat} {k:List (Nat×Bool)→ASt→Option ρ},k1x d kn st g k=some r→(∀kn s,k kn s=some r→AOps P N ops l s Q)→AOps P N ops l st Q
 | 0,_,_,_,_,h,_=>by cases h
 | d+1,kn,st,g,k,h,kk=>by
  unfold k1x at h;split at h
  ·rename_i b hb
   cases b with
   | true=>exact fun F ρ a w hr=>kk _ _ h F ρ a w (hr.know hb)
   | false=>exact fun F ρ a w hr=>kk _ _ h F ρ a w (hr.know hb)
  ·rename_i g1 w1 x hx
   refine i0v d h fun kn s hs=> ?_;split at hs
   ·rename_i b1 hb1
    cases hc:b1==w1 with
    | true=>rw [hc]at hs;exact i0v d hs kk
    | false=>rw [hc]at hs;exact kk _ _ hs
   ·exact kk _ _ hs
  ·cases h
theorem d1i [DfOk M] (hO:O.ok P){kn:List (Nat×Bool)}{k:List (Nat×Bool)→ASt→Option ρ}(h:z1t P N T M O ops i kn st k=some r)(kk: ∀kn s,k kn s=some r→AOps P N ops (List.range' (i+1) n) s Q):AOps P N ops (List.range' i (n+1)) st Q:=by
 unfold z1t at h;split at h
 ·cases h
 ·rename_i o ho
  split at h
  ·exact p0i hO h (kk kn)
  ·rename_i j want hg
   split at h
   ·cases h
   ·rename_i g hgs
    cases hb:p0a kn g (!want)with
    | true=>rw [hb]at h;exact p0i hO h (kk kn)
    | false=>
     rw [hb,cond_false]at h;split at h
     ·rename_i e he
      rw [l2t];exact .ieff (.of_guard ho hg (f1s he)) (kk _ _ h)
     ·exact i0v 4 h fun kn s hs=>p0i (n:=n) (Q:=Q) hO hs (kk kn)
theorem f0t [DfOk M] (hO:O.ok P): ∀{n i:Nat} {kn:List (Nat×Bool)} {st:ASt} {k:ASt→Option ρ},a1z P N T M O ops n i kn st k=some r→(∀s,k s=some r→Q .normal s)→AOps P N ops (List.range' i n) st Q
 | 0,i,kn,st,k,h,kk=> .done (kk _ h)
 | n+1,i,kn,st,k,h,kk=>d1i hO h fun kn s hs=>f0t hO hs kk
end
section
variable{ρ:Type}
abbrev LOrc(ρ:Type):=Nat→ASt→(Exit→ASt→Option ρ)→Option ρ
abbrev DOrc(ρ:Type):=Array Oper→ASt→(ASt→Option ρ)→Option ρ
variable(P:Program)(N:Nat)(T:List (TypeId×Ev.Ty))(M:List (Nat×ArgM))(O:Orc ρ)(L:LOrc ρ)(D:DOrc ρ)
def f1i(st:ASt)(kk off:Nat)(k:ASt→Option ρ):List Nat→Option ρ
 | []=>none
 | c::r=>match lkO st.ob kk with
  | .box cs ty=>match cs[off]? with
   | some (.d (.sc (.int ki e)))=>bif e==(c:Int)then k {st with ob:=ASt.setO kk (.box (cs.set off (.d (.sc (.int ki (.ofNat c))))) ty) st.ob} else f1i st kk off k r
   | _=>none
  | _=>none
def e1o:List Nat→ASt→ASt
 | kk::off::nk::te::z::r,st=>e1o r (st.adoptB (kk,off,nk,te,z))
 | _,st=>st
def n1m(id:Nat)(st:ASt)(k:ASt→Option ρ):Option ρ:=
 match(a0z M (1600000000+id)).hand with
 | kk::off::cs=>f1i (e1o (a0z M (1700000000+id)).hand st) kk off k cs
 | _=>k (e1o (a0z M (1700000000+id)).hand st)
def evC:(blk:Nat)→Code→ASt→(Exit→ASt→Option ρ)→Option ρ
 | _, .skip,st,k=>k .normal st
 | _, .region id ops draw,st,k=>n1m M id st fun st=>bif draw then D ops st (fun s=>k .normal s)else a1z P N T M O ops ops.size 0 [] st fun s=>k .normal s
 | b, .seq x y,st,k=>evC b x st fun e s=>match e with
  | .normal=>evC b y s k
  | e=>k e s
 | b, .cond c x y,st,k=>match ev st.fr c with
  | .cell (.d (.sc (.bool t)))=>bif t then evC b x st k else evC b y st k
  | _=>none
 | _, .block id x,st,k=>evC id x st fun e s=>match e with
  | .exit j=>bif Nat.beq j id then k .normal s else k (.exit j) s
  | e=>k e s
 | _, .exit id,st,k=>k (.exit id) st
 | _, .ret,st,k=>k .ret st
 | b, .loop _,st,k=>L b st k
 | _,_,_,_=>none
def LoopsOk(L:LOrc ρ):Nat→Code→Prop
 | b, .loop x=>∀st k r,L b st k=some r→AW P N (.loop x) st fun e s=>k e s=some r
 | b, .seq x y=>LoopsOk L b x∧LoopsOk L b y
 | b, .cond _ x y=>LoopsOk L b x∧LoopsOk L b y
 | _, .block id x=>LoopsOk L id x
 | _,_=>True
def DOrc.ok(D:DOrc ρ):Prop:=∀id ops st k r,D ops st k=some r→AW P N (.region id ops true) st fun e s=>e= .normal∧k s=some r
end
section
variable{ρ:Type}{P:Program}{N:Nat}{T:List (TypeId×Ev.Ty)}{M:List (Nat×ArgM)}{O:Orc ρ}{L:LOrc ρ}{D:DOrc ρ}{r:ρ}
theorem AW.goes0{c:Code}{Q:Exit→ASt→Prop}{s s' :ASt}(h:Goes N s s')(k:AW P N c s' Q):AW P N c s Q:=fun F ρ a w hr=>by
 obtain⟨F',ρ',h1,h2⟩:=h F ρ a w hr;exact k.after h1 h2
omit [Tabs]in
theorem z1c{a b:Int}(h:(a==b)=true):a=b:=by simpa using h
theorem m0o{st:ASt}{kk off:Nat}{k:ASt→Option ρ}: ∀{l:List Nat},f1i st kk off k l=some r→∃s,Goes N st s∧k s=some r
 | [],h=>by cases h
 | c::l,h=>by
  unfold f1i at h;split at h
  ·rename_i cs ty hob
   split at h
   ·rename_i ki e hc
    cases hb:e==(c:Int)with
    | false=>rw [hb]at h;exact m0o h
    | true=>
     rw [hb,cond_true]at h;have he:=z1c hb;refine⟨_,fun F ρ0 a w hr=>⟨F,ρ0, ?_,Fr.refl F ρ0 w⟩,h⟩;obtain⟨ho,hcs⟩:=k2a.1 hc;have hset:cs.set off (.d (.sc (.int ki (.ofNat c))))=cs:=by
      subst he;rw [show Int.ofNat c=(c:Int)from rfl, ←hcs]
      exact List.set_getElem_self ho
     rw [hset];refine⟨hr.rw,hr.fr,fun j=> ?_,hr.sz,hr.df⟩;by_cases hj:j=kk
     ·subst hj
      rw [a0q, ←hob];exact hr.ob j
     ·rw [a0o _ _ _ _ hj]
      exact hr.ob j
   ·cases h
  ·cases h
theorem Goes.trans{a b c:ASt}(h:Goes N a b)(k:Goes N b c):Goes N a c:=fun F ρ x w hr=>by
 obtain⟨F1,ρ1,h1,f1⟩:=h F ρ x w hr;obtain⟨F2,ρ2,h2,f2⟩:=k F1 ρ1 x w h1;exact⟨F2,ρ2,h2,f1.trans h1.rw.dis f2⟩
theorem i0s: ∀(l:List Nat) (st:ASt),Goes N st (e1o l st)
 | kk::off::nk::te::z::r,st=>Goes.trans (Goes.adoptB (kk,off,nk,te,z) st) (i0s r _)
 | [],st=>fun F ρ0 a w hr=>⟨F,ρ0,hr,Fr.refl F ρ0 w⟩
 | [_],st=>fun F ρ0 a w hr=>⟨F,ρ0,hr,Fr.refl F ρ0 w⟩
 | [_,_],st=>fun F ρ0 a w hr=>⟨F,ρ0,hr,Fr.refl F ρ0 w⟩
 | [_,_,_],st=>fun F ρ0 a w hr=>⟨F,ρ0,hr,Fr.refl F ρ0 w⟩
 | [_,_,_,_],st=>fun F ρ0 a w hr=>⟨F,ρ0,hr,Fr.refl F ρ0 w⟩
theorem v0u{id:Nat}{st:ASt}{k:ASt→Option ρ}(h:n1m M id st k=some r): ∃s,Goes N st s∧k s=some r:=by
 unfold n1m at h;split at h
 ·obtain⟨s,h1,h2⟩:=m0o (N:=N) h
  exact⟨s,Goes.trans (i0s _ st) h1,h2⟩
 ·exact⟨_,i0s _ st,h⟩
theorem d0z [DfOk M] (hO:O.ok P)(hD:D.ok P N): ∀{c:Code} {b:Nat} {st:ASt} {k:Exit→ASt→Option ρ},LoopsOk P N L b c→evC P N T M O L D b c st k=some r→AW P N c st fun e s=>k e s=some r
 | .skip,b,st,k,_,h=> .skip rfl h
 | .region id ops draw,b,st,k,_,h=>by
  simp only [evC]at h;obtain⟨s0,hg,h⟩:=v0u (N:=N) h;refine AW.goes0 hg ?_;cases draw with
  | true=>exact(hD id ops s0 _ _ h).mono fun e s ⟨he,hs⟩=>by subst he;exact hs
  | false=>exact .region rfl rfl (f0t hO h fun s hs=>hs)
 | .seq x y,b,st,k,hl,h=>by
  simp only [evC]at h;refine .seq rfl ((d0z hO hD hl.1 h).mono fun e s hs=> ?_);cases e with
  | normal=>exact Then.go (d0z hO hD hl.2 hs)
  | _=>exact hs
 | .cond c x y,b,st,k,hl,h=>by
  simp only [evC]at h;split at h
  ·rename_i t ht
   refine .cond (b:=t) rfl (by show j0u (ev st.fr c)=_;rw [ht];rfl) (fun e=> ?_) (fun e=> ?_)
   ·subst e;exact d0z hO hD hl.1 h
   ·subst e;exact d0z hO hD hl.2 h
  ·cases h
 | .block id x,b,st,k,hl,h=>by
  simp only [evC]at h;refine .block rfl ((d0z hO hD (show LoopsOk P N L id x from hl) h).mono fun e s hs=> ?_)
  cases e with
  | exit j=>
   show InBlk id _ (.exit j) s;simp only [InBlk];cases hb:Nat.beq j id with
   | true=>simp only [hb,cond_true]at hs;simpa using hs
   | false=>simp only [hb,cond_false]at hs;simpa using hs
  | _=>exact hs
 | .exit id,b,st,k,_,h=> .exit rfl h
 | .ret,b,st,k,_,h=> .ret rfl h
 | .loop x,b,st,k,hl,h=>hl st k r h
 | .rangeFunc ..,_,_,_,_,h=>by cases h
 | .scope _,_,_,_,_,h=>by cases h
 | .label _,_,_,_,_,h=>by cases h
 | .goto _,_,_,_,_,h=>by cases h
 | .refuse _,_,_,_,_,h=>by cases h
def a0a{S:Type}(step:(S→Option ρ)→S→Option ρ):Nat→S→Option ρ
 | 0,_=>none
 | n+1,s=>step (a0a step n) s
structure Pre where
 fz:List Nat:= []
 ad:List (Nat×Nat×TypeId×Nat):= []
 adb:List (Nat×Nat×Nat×TypeId×Nat):= []
def ASt.adopt(N:Nat)(st:ASt)(p:Nat×Nat×TypeId×Nat):ASt:=
 match lkF st.fr p.1 with
 | .cell (.d (.sc (.slice none 0 0)))=>bif Nat.blt p.2.1 N then{(st.newOb p.2.1 (.arr p.2.2.1 p.2.2.2 0 []))with fr:=setF p.1 (.cell (.own p.2.1)) (st.newOb p.2.1 (.arr p.2.2.1 p.2.2.2 0 [])).fr} else st
 | _=>st
def Pre.app(N:Nat)(p:Pre)(st:ASt):ASt:=p.adb.foldl ASt.adoptB (p.ad.foldl (ASt.adopt N) (p.fz.foldl ASt.freeze st))
theorem AW.freezes{c:Code}{Q:Exit→ASt→Prop}: ∀(ks:List Nat) {st:ASt},AW P N c (ks.foldl ASt.freeze st) Q→AW P N c st Q
 | [],_,h=>h
 | k::r,st,h=> .freeze k rfl (AW.freezes r h)
def d2e(P:Program)(N:Nat)(T:List (TypeId×Ev.Ty))(M:List (Nat×ArgM))(O:Orc ρ)(L:LOrc ρ)(D:DOrc ρ)(b:Nat)(body:Code)(tm xt rt:Tm)(pre:Pre)(rec:tm.den→Option ρ)(kx:xt.den→Option ρ)(kr:rt.den→Option ρ)(s:tm.den):Option ρ:=
 evC P N T M O L D b body (tm.enc s) fun e st' =>match e with
  | .normal=>(tm.dec (pre.app N st')).bind rec
  | .exit j=>bif Nat.beq j b then(xt.dec st').bind kx else none
  | .ret=>(rt.dec st').bind kr
  | _=>none
def a2z(N:Nat)(b n:Nat)(tm xt rt:Tm)(pre:Pre)(step:(tm.den→Option ρ)→(xt.den→Option ρ)→(rt.den→Option ρ)→tm.den→Option ρ)(st:ASt)(k:Exit→ASt→Option ρ):Option ρ:=
 (tm.dec (pre.app N st)).bind fun s=>a0a (fun rec=>step rec (fun x=>k (.exit b) (xt.enc x)) (fun x=>k .ret (rt.enc x))) n s
theorem AW.dec{c:Code}{Q:Exit→ASt→Prop}{t:Tm}{st:ASt}{x:t.den}(h:t.dec st=some x)(k:AW P N c (t.enc x) Q):AW P N c st Q:=by
 intro F ρ a w hr;obtain⟨ρ',h1,h2⟩:=Tm.dec_rel h hr;exact k.after h1 h2
end
section
variable{ρ:Type}{P:Program}{N:Nat}{T:List (TypeId×Ev.Ty)}{M:List (Nat×ArgM)}{O:Orc ρ}{L:LOrc ρ}{D:DOrc ρ}{r:ρ}
theorem Goes.dec{t:Tm}{s:ASt}{x:t.den}(h:t.dec s=some x):Goes N s (t.enc x):=fun F ρ a w hr=>by
 obtain⟨ρ',h1,h2⟩:=Tm.dec_rel h hr;exact⟨F,ρ',h1,h2⟩
theorem Goes.pre(p:Pre)(st:ASt):Goes N st (p.app N st):=by
 have e1: ∀(ks:List Nat) (s:ASt),Goes N s (ks.foldl ASt.freeze s):=fun ks s F ρ a w hr=>Rel.freezes (F:=F) (ρ:=ρ) ks hr;have e2: ∀(l:List (Nat×Nat×TypeId×Nat)) (s:ASt),Goes N s (l.foldl (ASt.adopt N) s):=by
  intro l
  induction l with
  | nil=>exact fun s F ρ a w hr=>⟨F,ρ,hr,Fr.refl F ρ w⟩
  | cons q r ih=>
   intro s;refine Goes.trans (b:=s.adopt N q) (fun F ρ a w hr=> ?_) (ih _);unfold ASt.adopt;split
   ·rename_i hs
    cases hb:Nat.blt q.2.1 N with
    | false=>exact⟨F,ρ,hr,Fr.refl F ρ w⟩
    | true=>
     obtain⟨ρ',h1,h2⟩:=hr.adopt q.1 q.2.1 q.2.2.1 q.2.2.2 hb hs;exact⟨F,ρ',h1,h2⟩
   ·exact⟨F,ρ,hr,Fr.refl F ρ w⟩
 have e3: ∀(l:List (Nat×Nat×Nat×TypeId×Nat)) (s:ASt),Goes N s (l.foldl ASt.adoptB s):=by
  intro l
  induction l with
  | nil=>exact fun s F ρ a w hr=>⟨F,ρ,hr,Fr.refl F ρ w⟩
  | cons q r ih=>exact fun s=>(Goes.adoptB q s).trans (ih _)
 exact(e1 _ _).trans ((e2 _ _).trans (e3 _ _))
theorem AW.goes{c:Code}{Q:Exit→ASt→Prop}{s s' :ASt}(h:Goes N s s')(k:AW P N c s' Q):AW P N c s Q:=fun F ρ a w hr=>by
 obtain⟨F',ρ',h1,h2⟩:=h F ρ a w hr;exact k.after h1 h2
theorem AW.post{c:Code}{Q Q' :Exit→ASt→Prop}{s:ASt}(h:AW P N c s Q)(hq: ∀e s,Q e s→∃s',Goes N s s' ∧Q' e s'):AW P N c s Q' :=by
 intro F ρ a w hr;refine wp_mono (h F ρ a w hr) fun e a' w' ⟨F',ρ',s',h1,h2,h3⟩=> ?_;obtain⟨s2,hg,h4⟩:=hq e s' h1;obtain⟨F2,ρ2,h5,h6⟩:=hg F' ρ' a' w' h2;exact⟨F2,ρ2,s2,h4,h5,h3.trans h2.rw.dis h6⟩
theorem z0s [DfOk M] (hO:O.ok P)(hD:D.ok P N){b n:Nat}{body:Code}{tm xt rt:Tm}{pre:Pre}{step:(tm.den→Option ρ)→(xt.den→Option ρ)→(rt.den→Option ρ)→tm.den→Option ρ}(hl:LoopsOk P N L b body)
  (hs: ∀rec kx kr s,d2e P N T M O L D b body tm xt rt pre rec kx kr s=step rec kx kr s)(st:ASt)(k:Exit→ASt→Option ρ)(r:ρ)(h:a2z N b n tm xt rt pre step st k=some r):
  AW P N (.loop body) st fun e s=>k e s=some r:=by
 unfold a2z at h;simp only [j2w]at h;obtain⟨s0,h1,h2⟩:=h;refine .goes ((Goes.pre pre st).trans (Goes.dec h1)) ?_;refine .loopG (α:={p:Nat×tm.den // a0a (fun rec=>step rec (fun x=>k (.exit b) (xt.enc x)) (fun x=>k .ret (rt.enc x))) p.1 p.2=some r}) rfl (fun p=>tm.enc p.1.2) (fun p=>p.1.1) ⟨(n,s0),h2⟩ rfl fun⟨⟨m,s⟩,hm⟩=> ?_;dsimp only at hm⊢;cases m with
 | zero=>cases hm
 | succ m=>
  simp only [a0a]at hm;rw [←hs]at hm;refine .post (d0z hO hD hl hm) fun e s' he=> ?_;cases e with
  | normal=>
   simp only [j2w]at he;obtain⟨s2,h3,h4⟩:=he;exact⟨s',fun F ρ a w hr=>⟨F,ρ,hr,Fr.refl F ρ w⟩,⟨(m,s2),h4⟩,(Goes.pre pre s').trans (Goes.dec h3),by simp⟩
  | exit j=>
   dsimp only at he;cases hb:Nat.beq j b with
   | false=>rw [hb]at he;cases he
   | true=>
    rw [hb]at he;simp only [cond_true,j2w]at he;obtain⟨s2,h3,h4⟩:=he;rw [j2t hb];exact⟨_,Goes.dec h3,h4⟩
  | ret=>
   simp only [j2w]at he;obtain⟨s2,h3,h4⟩:=he;exact⟨_,Goes.dec h3,h4⟩
  | _=>cases he
inductive RI where
 | v(t:Ev.Ty)
 | ref(x:Ref)
 | opt(t:Ev.Ty)
 | mix(l:List FT)
 deriving Inhabited
def d2v(t:Ev.Ty):Option t.den→AV
 | none=> .cell (.d (.sc (.pointer none)))
 | some x=> .cell (.d (.rp (b0r t x)))
def b2a(t:Ev.Ty):AV→Option (Option t.den)
 | .cell (.d (.rp cs))=>(rd0 t cs).map some
 | .cell (.d (.sc (.pointer none)))=>some none
 | _=>none
def optC{α ρ:Type}(o:Option α)(a:ρ)(b:α→ρ):ρ:=match o with
 | none=>a
 | some x=>b x
structure FnT where
 nargs:Nat
 ins:Tm
 outs:List RI
 obs:List (Nat×OT)
@[reducible] def p0e:List RI→Type→Type
  | [],u=>u
  | .v t::r,u=>t.den×p0e r u
  | .ref _::r,u=>p0e r u
  | .opt t::r,u=>Option t.den×p0e r u
  | .mix l::r,u=>FT.dens l×p0e r u
def g0j:(l:List RI)→{u:Type}→p0e l u→List AV
 | [],_,_=> []
 | .v t::r,_,x=>avOf t x.1::g0j r x.2
 | .ref c::r,_,x=> .cell c.ac::g0j r x
 | .opt t::r,_,x=>d2v t x.1::g0j r x.2
 | .mix l::r,_,x=> .agg (FT.enc l x.1)::g0j r x.2
def p0y:(l:List RI)→{u:Type}→p0e l u→u
 | [],_,x=>x
 | .v _::r,_,x=>p0y r x.2
 | .ref _::r,_,x=>p0y r x
 | .opt _::r,_,x=>p0y r x.2
 | .mix _::r,_,x=>p0y r x.2
def n0f:(l:List RI)→{u:Type}→Option u→List AV→Option (p0e l u)
 | [],_,u, []=>u
 | .v t::r,_,u,x::xs=>(n0e t x).bind fun a=>(n0f r u xs).bind fun b=>some (a,b)
 | .ref c::r,_,u, .cell a::xs=>bif c.is a then n0f r u xs else none
 | .opt t::r,_,u,x::xs=>(b2a t x).bind fun a=>(n0f r u xs).bind fun b=>some (a,b)
 | .mix l::r,_,u, .agg cs::xs=>(FT.dec l cs).bind fun a=>(n0f r u xs).bind fun b=>some (a,b)
 | _,_,_,_=>none
def n0w{ρ:Type}:(l:List RI)→{u:Type}→p0e l u→(List AV→u→Option ρ)→Option ρ
 | [],_,x,k=>k [] x
 | .v t::r,_,x,k=>n0w r x.2 fun l u=>k (avOf t x.1::l) u
 | .ref c::r,_,x,k=>n0w r x fun l u=>k (.cell c.ac::l) u
 | .opt t::r,_,x,k=>optC x.1 (n0w r x.2 fun l u=>k (.cell (.d (.sc (.pointer none)))::l) u) fun y=>n0w r x.2 fun l u=>k (.cell (.d (.rp (b0r t y)))::l) u
 | .mix l::r,_,x,k=>n0w r x.2 fun m u=>k (.agg (FT.enc l x.1)::m) u
omit [Tabs]in
theorem d0s{ρ:Type}: ∀(l:List RI) {u:Type} (x:p0e l u) (k:List AV→u→Option ρ),n0w l x k=k (g0j l x) (p0y l x)
 | [],_,_,_=>rfl
 | .v t::r,_,x,k=>d0s r x.2 _
 | .ref c::r,_,x,k=>d0s r x _
 | .opt t::r,_,(none,x),k=>d0s r x _
 | .opt t::r,_,(some y,x),k=>d0s r x _
 | .mix l::r,_,x,k=>d0s r x.2 _
@[reducible] def FnT.den(t:FnT):Type:=p0e t.outs (x0u t.obs)
def one1:List AV→AV
 | [x]=>x
 | l=> .tup l
def FnT.args(t:FnT)(x:t.ins.den):List AV:=(List.range t.nargs).map fun i=>lkF (t.ins.enc x).fr i
def FnT.ob(t:FnT)(x:t.ins.den):List (Nat×AObj):=(t.ins.enc x).ob
def FnT.res(t:FnT)(y:t.den):AV:=one1 (g0j t.outs y)
def FnT.ob2(t:FnT)(y:t.den):List (Nat×AObj):=oEnc t.obs (p0y t.outs y)
def Contract(P:Program)(f:FuncId)(t:FnT)(nf:t.ins.den→Option t.den):Prop:=∀x y,nf x=some y→ACalls P f (t.args x) (t.ob x) (EX (t.res y) (t.ob2 y))
end
end Esp

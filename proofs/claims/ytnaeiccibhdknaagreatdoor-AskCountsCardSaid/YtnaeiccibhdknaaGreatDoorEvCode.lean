import Derived.Test.YtnaeiccibhdknaaGreatDoorEvRng
set_option linter.unusedSimpArgs false
set_option linter.unusedVariables false
noncomputable section
namespace Esp
open Go
variable [Tabs]
structure ArgM where
 hand:List Nat:=[]
 nils:List NilArg:=[]
 news:List Nat:=[]
 bor:Bool:=false
def a0z:List (Nat×ArgM)->Nat->ArgM
 |[],_=>{}
 |(a,m)::r,f=>bif Nat.beq f a then m else a0z r f
def AC.owns:AC->List Nat
 |.own k=>[k]
 |.mpr k=>[k]
 |_=>[]
def AV.owns:AV->List Nat
 |.cell c=>c.owns
 |.agg cs=>cs.flatMap AC.owns
 |_=>[]
def AC.reach (ob:List (Nat×AObj)):Nat->AC->List Nat
 | 0,_=>[]
 |_+1,.own k=>[k]
 |_+1,.ifo _ k=>[k]
 |_+1,.mpr k=>[k]
 |n+1,.ptr k _=>k::(match lkO ob k with|.box cs _=>cs.flatMap (AC.reach ob n)| _=>[])
 |n+1,.fn _ _ cs=>cs.flatMap (AC.reach ob n)
 |_,_=>[]
def AV.reach (ob:List (Nat×AObj)):AV->List Nat
 |.cell c=>c.reach ob 4
 |.agg cs=>cs.flatMap (AC.reach ob 4)
 |_=>[]
def w1b(hand:List Nat):Nat->List AV->List Nat
 |_,[]=>[]
 |i,x::r=>bif memB i hand || memB (i+1000) hand then w1b hand (i+1) r else x.owns++w1b hand (i+1) r
def p1d(M:List (Nat×ArgM)):Bool:=match(a0z M 999999999).hand with|[]=>false|_=>true
def b0f(M:List (Nat×ArgM))(st:ASt)(o:Oper):List Nat:=
 match o.op with
 |.buildSlice _ _ ps=>ps.toList.flatMap λp=>(ev st.fr p.2).owns
 |.convert _ _ x=>(ev st.fr x).owns
 |.makeFunc _ _ cs=>cs.toList.flatMap λc=>match ev st.fr c with
  |.cell (.ptr k _)=>bif memB k (a0z M 999999995).hand then [k]else []
  |_=>[]
 |.indexAddr _ x _=>bif p1d M then []else(ev st.fr x).owns
 |.slice _ x none (some _) none=>bif p1d M then []else(ev st.fr x).owns
 |.slice _ x (some _) none none=>bif p1d M then []else(ev st.fr x).owns
 |.slice _ x _ _ _=>(ev st.fr x).owns
 |.mapUpdate _ m _ v=>match ev st.fr m,ev st.fr v with
  |_,.cell (.row _ _)=>[]
  |.cell (.mpr kk),_=>match lkO st.ob kk with
   |.mr _ _ _ _ _ _=>[kk]
   |_=>[]
  |_,_=>[]
 |.call c=>match b0u st.fr c with
  |some (f,args)=>bif (a0z M f).bor then []else w1b (a0z M f).hand 0 args
  |none=>[]
 |_=>[]
def numK:Nat->List Nat->List (Nat×Nat)
 |_,[]=>[]
 |n,k::r=>(n,k)::numK (n+1) r
def newK:List Nat->List Nat->List Nat
 |_,[]=>[]
 |seen,k::r=>bif memB k seen then newK seen r else k::newK (k::seen) r
def argK(ob:List (Nat×AObj))(args:List AV)(p:Nat):List Nat:=match args[p]? with|some x=>x.reach ob|none=>[]
def g2z(ob:List (Nat×AObj))(args:List AV):List Nat->Nat->List Nat->List (Nat×Nat)
 |_,_,[]=>[]
 |seen,h,p::r=>bif Nat.ble 1000 p then numK (2000000+16*h) (newK seen (argK ob args (p - 1000)))++g2z ob args (argK ob args (p - 1000)++seen) (h+1) r
  else numK (1000000+16*h) (newK seen (argK ob args p))++g2z ob args (argK ob args p++seen) (h+1) r
def t1e(ob:List (Nat×AObj))(args:List AV)(h:Nat)(l:List Nat):List (Nat×Nat):=g2z ob args [] h l
def r1u(args:List AV)(ns:List NilArg):List NilArg:=
 ns.filter λn=>match args[n.pos]? with
  |some (.cell (.d (.sc (.slice none 0 0))))=>true
  |_=>false
def newM(d:Nat):Nat->List Nat->List (Nat×Nat)
 |_,[]=>[]
 |i,k::r=>(k,d+2000*i)::newM d (i+1) r
section
variable{ρ:Type}
abbrev Orc(ρ:Type):=FuncId->List AV->List (Nat×AObj)->(AV->List (Nat×AObj)->Option ρ)->Option ρ
def EX(x:AV)(ob:List (Nat×AObj))(e:AEnd)(o:List (Nat×AObj)):Prop:=e=.ret x/\o=ob
def XCall(P:Program)(f:FuncId)(args:List AV)(x:AV):Prop:=∀F ρ (vs:Array Value) w,RelW F ρ w->RelArgs w F ρ args vs->∃v,(callFunc f vs).run P w=.ok (.value v) w/\RelAV w F ρ #[] x v
def y0r(P:Program)(f:FuncId)(args:List AV)(ob:List (Nat×AObj))(R:AEnd->List (Nat×AObj)->Prop):Prop:=
 ∀F ρ (vs:Array Value) w,RelW F ρ w->(∀k,RelOb w F ρ k (lkO ob k))->RelArgs w F ρ args vs->
  ∃v w',(callFunc f vs).run P w=.ok (.value v) w' /\∃F' ρ' r bG,R r bG/\p0g w' F' ρ' r (.returned v)/\RelW F' ρ' w' /\(∀k,RelOb w' F' ρ' k (lkO bG k))/\Fr F ρ w F' ρ' w'
def Orc.ok (P:Program)(O:Orc ρ):Prop:=∀f a o k r,O f a o k=some r->(a0m P f=true/\∃x o2,ACalls P f a o (EX x o2)/\k x o2=some r)\/((a0m P f=false/\∃x,XCall P f a x/\x.plain=true/\k x []=some r)\/
 (a0m P f=false/\o≠ []/\ ∃x o2,y0r P f a o (EX x o2)/\k x o2=some r))
theorem l1d{w:World}{F:Nat->Prop}{ρ0:Env}(ks:List Nat)(h:RelW F ρ0 w):RelW F (λj=>if j∈ks then ρ0 j else none) w:=by
 have hs:∀j l,(if j∈ks then ρ0 j else none)=some l->ρ0 j=some l:=by
  intro j l hj;split at hj
  ·exact hj
  ·cases hj
 exact⟨λb hb ⟨j,l,hj,hb'⟩=>h.dis b hb ⟨j,l,hs _ _ hj,hb'⟩,h.lt,λk k' l l' b hk aG=>h.inj k k' l l' b (hs _ _ hk) (hs _ _ aG),h.tab⟩
omit [Tabs]in
theorem x1o{w:World}{F:Nat->Prop}{ρ0:Env}(ks:List Nat):Fr F ρ0 w F (λj=>if j∈ks then ρ0 j else none) w:=by
 have hs:∀j l,(if j∈ks then ρ0 j else none)=some l->ρ0 j=some l:=by
  intro j l hj;split at hj
  ·exact hj
  ·cases hj
 refine⟨rfl,rfl,rfl,r2q _,λ_ h=>h,λ_ _ _=>rfl,λb _ hh=>?_,λk _=>?_⟩
 ·rcases hh with hf|⟨j,l,hj,hb⟩
  ·exact .inl hf
  ·exact .inr ⟨j,l,hs _ _ hj,hb⟩
 ·split
  ·exact Stab.refl _ _
  ·cases ρ0 k<;>trivial
theorem XCall.xa {P:Program}{f:FuncId}{a:List AV}{x:AV}(h:XCall P f a x)(ob:List (Nat×AObj)):y0r P f a ob (EX x []):=λF ρ vs w hrw aH hra=>by
 obtain⟨v,h1,h2⟩:=h F ρ vs w hrw hra;have hs:∀j l,(if j∈([]:List Nat)then ρ j else none)=some l->ρ j=some l:=λj l hj=>by simp at hj
 refine⟨v,w,h1,F,λj=>if j∈([]:List Nat)then ρ j else none,.ret x,[],⟨rfl,rfl⟩,?_,l1d [] hrw,λk=>.gone (by simp),x1o []⟩
 exact h2.mono (λ_ _=>rfl) (λ_ h=>h) hs
def l1k(P:Program)(N:Nat)(M:List (Nat×ArgM))(O:Orc ρ)(st:ASt)(d:Option Tmp)(f:FuncId)(cargs:List AV)(k:ASt->Option ρ):Option ρ:=
 let md:=a0z M f
 let m:=t1e st.ob cargs 0 md.hand
 let ns:=r1u cargs md.nils
 let nw:=newM (d.getD 0) 0 (ns.map (·.kk)++md.news)
 bif k0k N st.ob m nw ns d&&AV.plainL cargs then O f (f0r m ns 0 cargs) (t0o st.ob m ns) λx o2=>bif x.plain then k (f0i m nw d x o2 st)else none
 else none
def kBor(N:Nat)(O:Orc ρ)(st:ASt)(d:Option Tmp)(f:FuncId)(cargs:List AV)(k:ASt->Option ρ):Option ρ:=
 match d with
 |none=>none
 |some d=>bif Nat.blt d N&&AV.frozenL (borL st.ob cargs)then O f (borL st.ob cargs) [] λx o2=>match m1v cargs x o2 with
  |some y=>k (st.put (some d) y)
  |none=>none
  else none
def qXO(P:Program)(M:List (Nat×ArgM))(ops:Array Oper)(i:Nat)(st:ASt):Option (Option Tmp×FuncId×List AV):=
 match opK ops st.fr i with
 |some ⟨d,.call c,_,_,_,_⟩=>match b0u st.fr c with
  |some (f,args)=>bif !a0m P f&& !(a0z M f).hand.isEmpty then some (d,f,args)else none
  |none=>none
 |_=>none
def qExt(P:Program)(N:Nat)(ops:Array Oper)(i:Nat)(st:ASt):Option (Tmp×FuncId×List AV):=
 match opK ops st.fr i with
 |some ⟨some d,.call c,_,_,_,_⟩=>match b0u st.fr c with
  |some (f,args)=>bif !a0m P f&&Nat.blt d N&&AV.plainL args then some (d,f,args)else none
  |none=>none
 |_=>none
def v0x(o:Oper):Bool:=
 match o.op with
 |.call ⟨.value _,_,_⟩=>true
 |_=>false
def ASt.know (st:ASt)(g:Nat)(b:Bool):ASt:={st with fr:=(g,.cell (.d (.sc (.bool b))))::unwF (p0h st.fr 8 g b) st.fr}
def q2w(M:List (Nat×ArgM))(o:Oper):Option (Nat×TypeId):=
 match o.op with
 |.alloc t=>match o.dst with
  |some d=>match(a0z M 999999996).hand with
   |[T,te]=>bif Nat.beq t T then some (d,te)else none
   |_=>none
  |none=>none
 |_=>none
def l2l(M:List (Nat×ArgM))(o:Oper):Option (Nat×TypeId):=
 match o.op with
 |.makeMap _ none=>match o.dst with
  |some d=>match(a0z M 999999991).hand with
   |[d',te]=>bif Nat.beq d d' then some (d,te)else none
   |_=>none
  |none=>none
 |_=>none
def postB(M:List (Nat×ArgM))(o:Oper)(st:ASt):ASt:=
 match q2w M o with
 |some p=>st.bld p.1 p.2
 |none=>match l2l M o with
  |some p=>st.thaw p.2 p.1
  |none=>st
def g1g(P:Program)(N:Nat)(M:List (Nat×ArgM))(st:ASt)(o:Oper):Bool:=
 match o.op with
 |.defer c=>match b0u st.fr c with
  |some (g,_)=>memB g (a0z M 999999997).hand&&m2b N o.dst
  |none=>false
 |_=>false
variable(P:Program)(N:Nat)(T:List (TypeId×Ev.Ty))(M:List (Nat×ArgM))(O:Orc ρ)(ops:Array Oper)
def evK(i:Nat)(st:ASt)(k:ASt->Option ρ):Option ρ:=
 match opK ops st.fr i with
 |some o=>match v0x o with
  |true=>match d0z P ops i ((b0f M st o).foldl ASt.freeze st)with
   |some (d,f,cargs)=>bif (a0z M f).bor then kBor N O ((b0f M st o).foldl ASt.freeze st) d f cargs k else l1k P N M O ((b0f M st o).foldl ASt.freeze st) d f cargs k
   |none=>match qXO P M ops i ((b0f M st o).foldl ASt.freeze st)with
    |some (d,f,cargs)=>l1k P N M O ((b0f M st o).foldl ASt.freeze st) d f cargs k
    |none=>match qExt P N ops i ((b0f M st o).foldl ASt.freeze st)with
    |some (d,f,cargs)=>O f cargs [] λx _=>k (((b0f M st o).foldl ASt.freeze st).put (some d) x)
    |none=>none
  |false=>match opK ops ((b0f M st o).foldl ASt.freeze st).fr i with
   |some o' =>match g2s P N ((b0f M st o).foldl ASt.freeze st) o' with
    |some q=>q.go ((b0f M st o).foldl ASt.freeze st) k
    |none=>match nxtT N ((b0f M st o).foldl ASt.freeze st) o' with
    |some p=>bif Nat.blt p.pos p.s.size then k (p.st1 ((b0f M st o).foldl ASt.freeze st))else k (p.st0 ((b0f M st o).foldl ASt.freeze st))
    |none=>match nxtM N ((b0f M st o).foldl ASt.freeze st) o' with
    |some p=>rngM p.l (k (p.st0 ((b0f M st o).foldl ASt.freeze st))) λe r=>k (p.st1 ((b0f M st o).foldl ASt.freeze st) e r)
    |none=>match u1z P N ((b0f M st o).foldl ASt.freeze st) o' with
    |some e=>k (e.app ((b0f M st o).foldl ASt.freeze st))
    |none=>match nilT P N ((b0f M st o).foldl ASt.freeze st) o' with
    |some p=>nilq p.xs (k (((b0f M st o).foldl ASt.freeze st).put (some p.d) (bV (!p.neq)))) (k (((b0f M st o).foldl ASt.freeze st).put (some p.d) (bV p.neq)))
    |none=>bif g1g P N M ((b0f M st o).foldl ASt.freeze st) o' then k (((b0f M st o).foldl ASt.freeze st).put o'.dst .junk)else kOp P N T ((b0f M st o).foldl ASt.freeze st) o' λe=>k (postB M o' (e.app ((b0f M st o).foldl ASt.freeze st)))
   |none=>none
 |none=>match j1c ops st.fr i with
  |some d=>bif Nat.blt d N then k (st.put (some d) (q1q ops i d))else none
  |none=>none
def r0t:List (Nat×Bool)->Nat->Bool->Bool
 |[],_,_=>false
 |(j,w)::r,g,v=>(Nat.beq j g&& (w==v)) || r0t r g v
def x1y:Nat->List (Nat×Bool)->ASt->Nat->(List (Nat×Bool)->ASt->Option ρ)->Option ρ
 | 0,_,_,_,_=>none
 |d+1,kn,st,g,k=>match lkF st.fr g with
  |.cell (.d (.sc (.bool b)))=>bif b then k ((g,true)::kn) (st.know g true)else k ((g,false)::kn) (st.know g false)
  |.whn g1 w1 _=>x1y d kn st g1 λkn s=>match lkF s.fr g1 with
   |.cell (.d (.sc (.bool b1)))=>bif b1==w1 then x1y d kn s g k else k kn s
   |_=>k kn s
  |_=>none
def g2f(i:Nat)(kn:List (Nat×Bool))(st:ASt)(k:List (Nat×Bool)->ASt->Option ρ):Option ρ:=
 match ops[i]? with
 |none=>none
 |some o=>match o.guard with
  |none=>evK P N T M O ops i st (k kn)
  |some (j,want)=>match t0d ops j with
   |none=>none
   |some g=>bif r0t kn g (!want)then evK P N T M O ops i st (k kn)else match a2e P N ops o j want st with
    |some e=>k kn (e.app st)
    |none=>x1y 4 kn st g λkn s=>evK P N T M O ops i s (k kn)
def h1e:(n i:Nat)->List (Nat×Bool)->ASt->(ASt->Option ρ)->Option ρ
 | 0,_,_,st,k=>k st
 |n+1,i,kn,st,k=>g2f P N T M O ops i kn st λkn s=>h1e n (i+1) kn s k
end
section
variable{ρ:Type}{P:Program}{N:Nat}{T:List (TypeId×Ev.Ty)}{M:List (Nat×ArgM)}{O:Orc ρ}{ops:Array Oper}{st:ASt}{i n:Nat}{r:ρ}{Q:Exit->ASt->Prop}
theorem AOps.freezes {l:List Nat}:∀(ks:List Nat) {st:ASt},AOps P N ops l (ks.foldl ASt.freeze st) Q->AOps P N ops l st Q
 |[],_,h=>h
 |k::r,st,h=>.freeze k rfl (AOps.freezes r h)
theorem f2m{d:Option Tmp}{f:FuncId}{cargs:List AV}{x:AV}{o2:List (Nat×AObj)}(h:d0z P ops i st=some (d,f,cargs))(m nw:List (Nat×Nat))(ns:List NilArg)(bY:k0k N st.ob m nw ns d=true)(b7:AV.plainL cargs=true)
  (spec:ACalls P f (f0r m ns 0 cargs) (t0o st.ob m ns) (EX x o2))(hx:x.plain=true)(k:AOps P N ops (List.range' (i+1) n) (f0i m nw d x o2 st) Q):AOps P N ops (List.range' i (n+1)) st Q:=
 .ocall h m nw ns bY rfl rfl b7 spec (λe o ⟨he,_⟩=>⟨x,he,hx⟩) rfl rfl λx' bG ⟨he,ho⟩=>by cases he;subst ho;exact k
omit [Tabs]in
theorem i0q{d:Option Tmp}{f:FuncId}{cargs:List AV}(h:d0z P ops i st=some (d,f,cargs)):a0m P f=true:=by
 unfold d0z at h;split at h
 ·split at h
  ·rename_i f' args' hc
   cases hb:a0m P f' with
   |false=>rw[hb]at h;cases h
   |true=>rw[hb]at h;cases h;exact hb
  ·cases h
 ·cases h
omit [Tabs]in
theorem m1z{d:Nat}{f:FuncId}{cargs:List AV}(h:qExt P N ops i st=some (d,f,cargs)):a0m P f=false:=by
 unfold qExt at h;split at h
 ·split at h
  ·rename_i f' args' hc
   cases hb:(!a0m P f' &&Nat.blt _ N&&AV.plainL args')with
   |false=>rw[hb]at h;cases h
   |true=>
    rw[hb]at h;cases h;simp only[r2i,s2v]at hb;exact hb.1.1
  ·cases h
 ·cases h
theorem p0a{F:Nat->Prop}{ρ:Env}{a:Act}{w:World}(h:Rel N F ρ st a w){c:Call}{f:FuncId}{args:List AV}(hc:b0u st.fr c=some (f,args))(t:TypeId):
  ∃vs:Array Value,(do let d <-resolve a.eval c t;invoke d.target d.args:Sem Next).run P w=(callFunc f vs).run P w/\vs.size=args.length/\∀i (hi:i<args.length),RelAV w F ρ a.tmps args[i] (vs.getD i undef):=by
 unfold b0u at hc;split at hc
 ·rename_i g hg
  split at hc
  ·rename_i f' fs cs he
   cases hc;have hr:=a0d h g;rw[he]at hr;generalize j7:a.eval g=gv at hr;cases hr with
   |cell _ _ hr=>cases hr with
    |fn _ _ _ vs us h1 h2 kX bE=>
     refine⟨vs++c.args.map a.eval++us,?_,by simp[h1,h2]<;>omega,λi hi=>?_⟩
     ·simp only[resolve,hg,j7,Deferred.ofValue,Sem.run_bind,Sem.run_pure,Result.andThen_ok,invoke]
     ·simp only[r2t,s2k,s2p]at hi
      by_cases fN:i<fs.length
      ·have e1:(vs++c.args.map a.eval++us).getD i undef=vs.getD i undef:=by
        simp only[r2j];rw[Array.append_assoc,t2t (by omega)]
       rw[e1,t2e (by simpa using fN),List.getElem_map];exact .cell _ _ (kX i fN)
      ·rw[List.getElem_append_right (by simp;omega)]
       by_cases hi2:i - fs.length<c.args.size
       ·have e1:(vs++c.args.map a.eval++us).getD i undef=a.eval c.args[i - fs.length]:=by
         simp only[r2j];rw[Array.append_assoc,Array.getElem?_append_right (by omega),t2t (by simp only[Array.size_map];omega),h1];simp[hi2]
        rw[e1,t2e (by simp;omega)];simp only[List.getElem_map,s2k,Array.getElem_toList];exact a0d h _
       ·have e1:(vs++c.args.map a.eval++us).getD i undef=us.getD (i - fs.length - c.args.size) undef:=by
         simp only[r2j];rw[Array.append_assoc,Array.getElem?_append_right (by omega),Array.getElem?_append_right (by simp;omega),h1];simp
        rw[e1,List.getElem_append_right (by simp;omega)];simp only[List.getElem_map,s2k,s2p];exact .cell _ _ (bE _ (by omega))
  ·cases hc
 ·cases hc
theorem IEff.ext {d:Nat}{f:FuncId}{cargs:List AV}{x:AV}(h:qExt P N ops i st=some (d,f,cargs))(spec:XCall P f cargs x)(hx:x.plain=true):a0m P f=false/\IEff P N ops i st (.put d x):=by
 unfold qExt at h;split at h
 ·rename_i d' c ty pos after guard ho
  split at h
  ·rename_i f' args' hc
   cases hb:(!a0m P f' &&Nat.blt d' N&&AV.plainL args')with
   |false=>rw[hb]at h;cases h
   |true=>
    rw[hb]at h;cases h;simp only[r2i,s2v]at hb;refine⟨hb.1.1,.of_opK ho (.of_plain rfl hb.1.2 hx λF ρ a w hr=>?_)⟩;obtain⟨vs,hrun,aR,hrel⟩:=p0a (P:=P) hr hc ty;obtain⟨v,h1,h2⟩:=spec F ρ vs w hr.rw ⟨aR,λj hj=>(hrel j hj).retm (AV.plainL_get hb.2 j hj)⟩;exact⟨v,hrun.trans h1,h2⟩
  ·cases h
 ·cases h
theorem e1g(hO:O.ok P){k:ASt->Option ρ}{d:Option Tmp}{f:FuncId}{cargs:List AV}(h:d0z P ops i st=some (d,f,cargs))(hk:l1k P N M O st d f cargs k=some r)
  (kk:∀s,k s=some r->AOps P N ops (List.range' (i+1) n) s Q):AOps P N ops (List.range' i (n+1)) st Q:=by
 unfold l1k at hk;dsimp only at hk;generalize t1e st.ob cargs 0 (a0z M f).hand=m at hk;generalize r1u cargs (a0z M f).nils=ns at hk;generalize newM (d.getD 0) 0 (ns.map (·.kk)++(a0z M f).news)=nw at hk
 cases hb:(k0k N st.ob m nw ns d&&AV.plainL cargs)with
 |false=>rw[hb]at hk;cases hk
 |true=>
  rw[hb,u2j]at hk;simp only[r2i]at hb;obtain⟨x,o2,h1,h2⟩:∃x o2,ACalls P f (f0r m ns 0 cargs) (t0o st.ob m ns) (EX x o2)/\(bif x.plain then k (f0i m nw d x o2 st)else none)=some r:=by
   rcases hO _ _ _ _ _ hk with h|h
   ·exact h.2
   ·rcases h with h|h<;>(rw[i0q (by assumption)]at h;cases h.1)
  cases hx:x.plain with
  |false=>rw[hx]at h2;cases h2
  |true=>
   rw[hx,u2j]at h2;exact f2m h m nw ns hb.1 hb.2 h1 hx (kk _ h2)
theorem k2m{d:Option Tmp}{f:FuncId}{cargs:List AV}{x:AV}{o2:List (Nat×AObj)}(h:qXO P M ops i st=some (d,f,cargs))(m nw:List (Nat×Nat))(ns:List NilArg)(bY:k0k N st.ob m nw ns d=true)(b7:AV.plainL cargs=true)
  (spec:y0r P f (f0r m ns 0 cargs) (t0o st.ob m ns) (EX x o2))(hx:x.plain=true)(k:AOps P N ops (List.range' (i+1) n) (f0i m nw d x o2 st) Q):AOps P N ops (List.range' i (n+1)) st Q:=by
 rw[t2j];unfold qXO at h;split at h
 ·rename_i d' c ty pos after guard ho
  split at h
  ·rename_i f' args' hc
   cases hb:(!a0m P f' && !(a0z M f').hand.isEmpty)with
   |false=>rw[hb]at h;cases h
   |true=>
    rw[hb]at h;cases h;intro F ρ a w hr;rw[wpOps_cons];obtain⟨e,hw⟩:=a0x hr ho;obtain⟨vs,hrun,aR,hrel⟩:=p0a (P:=P) hr hc ty;simp only[wpOp,e];rw[if_pos hw];left;have hok' :=bY;simp only[k0k,r2i]at hok';have hU:=z0c hok'.1.1.1.1;have dB:ns.all (λn=>(fwd m n.kk).isNone)=true:=by
     rw[s2b];intro n hn;have:=s2b.1 hok'.1.2 n hn;simp only[r2i]at this;exact this.1
    obtain⟨e1,e2,cC⟩:=k0x hr (m:=m) (ns:=ns) hU;obtain⟨v,w',eY,F',ρ',rr,bG,hq,hre,hrw,bR,hfr⟩:=spec F (e0y ρ m ns) vs w e1 (λk=>e2 k (.inr dB)) ⟨by rw[b0n];exact aR,λj hj=>by
     have bN:j<cargs.length:=by rw[b0n]at hj;exact hj
     rw[k0a _ _ _ _ _ bN hj];exact o0n cC dB ((hrel j bN).retm (AV.plainL_get b7 j bN))⟩
    obtain⟨rfl,rfl⟩:=hq;have bD:(execOp a.eval ⟨d,.call c,ty,pos,after,guard⟩).run P w=.ok (.value v) w' :=hrun.trans eY;simp only[Oper.wp,Oper.upon,bD];obtain⟨h1,h2⟩:=v0g hr bY hrw bR hfr hre hx;exact k.after h1 h2
  ·cases h
 ·cases h
omit [Tabs]in
theorem w1z{d:Option Tmp}{f:FuncId}{cargs:List AV}(h:qXO P M ops i st=some (d,f,cargs)):a0m P f=false:=by
 unfold qXO at h;split at h
 ·split at h
  ·rename_i f' args' hc
   cases hb:(!a0m P f' && !(a0z M f').hand.isEmpty)with
   |false=>rw[hb]at h;cases h
   |true=>
    rw[hb]at h;cases h;simp only[r2i,s2v]at hb;exact hb.1
  ·cases h
 ·cases h
theorem x1g(hO:O.ok P){k:ASt->Option ρ}{d:Option Tmp}{f:FuncId}{cargs:List AV}(h:qXO P M ops i st=some (d,f,cargs))(hk:l1k P N M O st d f cargs k=some r)
  (kk:∀s,k s=some r->AOps P N ops (List.range' (i+1) n) s Q):AOps P N ops (List.range' i (n+1)) st Q:=by
 unfold l1k at hk;dsimp only at hk;generalize t1e st.ob cargs 0 (a0z M f).hand=m at hk;generalize r1u cargs (a0z M f).nils=ns at hk;generalize newM (d.getD 0) 0 (ns.map (·.kk)++(a0z M f).news)=nw at hk
 cases hb:(k0k N st.ob m nw ns d&&AV.plainL cargs)with
 |false=>rw[hb]at hk;cases hk
 |true=>
  rw[hb,u2j]at hk;simp only[r2i]at hb;obtain⟨x,o2,h1,h2⟩:∃x o2,y0r P f (f0r m ns 0 cargs) (t0o st.ob m ns) (EX x o2)/\(bif x.plain then k (f0i m nw d x o2 st)else none)=some r:=by
   rcases hO _ _ _ _ _ hk with h'|⟨_,x,h1,_,h3⟩| h'
   ·rw[w1z h]at h';cases h'.1
   ·exact⟨x,[],h1.xa _,h3⟩
   ·exact h'.2.2
  cases hx:x.plain with
  |false=>rw[hx]at h2;cases h2
  |true=>
   rw[hx,u2j]at h2;exact k2m h m nw ns hb.1 hb.2 h1 hx (kk _ h2)
omit [Tabs]in
theorem p0d{d:Option Tmp}{f:FuncId}{cargs:List AV}(h:d0z P ops i st=some (d,f,cargs)):∃c ty pos after guard,opK ops st.fr i=some ⟨d,.call c,ty,pos,after,guard⟩/\b0u st.fr c=some (f,cargs)/\a0m P f=true:=by
 unfold d0z at h;split at h
 ·rename_i d' c ty pos after guard ho
  split at h
  ·rename_i f' args' hc
   cases hb:a0m P f' with
   |false=>rw[hb]at h;cases h
   |true=>
    rw[hb]at h;cases h;exact⟨c,ty,pos,after,guard,ho,hc,hb⟩
  ·cases h
 ·cases h
theorem n1q{d:Tmp}{f:FuncId}{cargs:List AV}(hq:d0z P ops i st=some (some d,f,cargs))(hd:Nat.blt d N=true)(hz:AV.frozenL (borL st.ob cargs)=true){x y:AV}{o2:List (Nat×AObj)}
  (h:ACalls P f (borL st.ob cargs) [] (EX x o2))(hy:m1v cargs x o2=some y):IEff P N ops i st (.put d y):=by
 obtain⟨c,ty,pos,after,guard,ho,hc,he⟩:=p0d hq;unfold m1v at hy;cases hx:(f1i x).scal with
 |true=>rw[hx]at hy;cases hy;exact .borrow ho hc he hz hd h hx
 |false=>
  rw[hx,u2k]at hy;cases hm:(q0h cargs&&n1g x)with
  |true=>
   rw[hm]at hy;cases hy;rw[r2i]at hm;exact .borrowM ho hc he hz hd h hm.1 hm.2
  |false=>
   rw[hm,u2k]at hy;split at hy
   ·rename_i k k2 t τ xs
    cases hb:(Nat.beq k k2&&z0p τ)with
    |false=>rw[hb]at hy;cases hy
    |true=>
     rw[hb]at hy;cases hy;rw[r2i]at hb;have e1:=r2h hb.1;subst e1;exact .borrowN ho hc he hz hd h hb.2
   ·cases hy
theorem c1n(hO:O.ok P){d:Tmp}{f:FuncId}{cargs:List AV}{k:AV->Option ρ}(hq:d0z P ops i st=some (some d,f,cargs))(hd:Nat.blt d N=true)(hz:AV.frozenL (borL st.ob cargs)=true)
  (h:O f (borL st.ob cargs) [] (λx o2=>match m1v cargs x o2 with
   |some y=>k y
   |none=>none)=some r):∃x,IEff P N ops i st (.put d x)/\k x=some r:=by
 obtain⟨c,ty,pos,after,guard,ho,hc,he⟩:=p0d hq;rcases hO _ _ _ _ _ h with hh|⟨hh,_⟩| ⟨hh,_⟩
 ·obtain⟨x,o2,h1,h2⟩:=hh.2
  cases hx:m1v cargs x o2 with
  |none=>rw[hx]at h2;cases h2
  |some y=>rw[hx]at h2;exact⟨_,n1q hq hd hz h1 hx,h2⟩
 ·rw[he]at hh;cases hh
 ·rw[he]at hh;cases hh
theorem l1q(hO:O.ok P){d:Option Tmp}{f:FuncId}{cargs:List AV}{k:ASt->Option ρ}(hq:d0z P ops i st=some (d,f,cargs))(h:kBor N O st d f cargs k=some r)(kk:∀s,k s=some r->AOps P N ops (List.range' (i+1) n) s Q):AOps P N ops (List.range' i (n+1)) st Q:=by
 unfold kBor at h;split at h
 ·cases h
 ·rename_i d
  cases hb:(Nat.blt d N&&AV.frozenL (borL st.ob cargs))with
  |false=>rw[hb]at h;cases h
  |true=>
   rw[hb,u2j]at h;rw[r2i]at hb;obtain⟨x,h1,h2⟩:=c1n (k:=λx=>k (st.put (some d) x)) hO hq hb.1 hb.2 h;rw[t2j];exact .ieff h1 (kk _ h2)
theorem AOps.goes {l:List Nat}{st' :ASt}(hg:Goes N st st')(k:AOps P N ops l st' Q):AOps P N ops l st Q:=λF ρ a w hr=>by
 obtain⟨F',ρ',h1,h2⟩:=hg F ρ a w hr;exact k.after h1 h2
theorem Goes.postB (M:List (Nat×ArgM))(o:Oper)(st:ASt):Goes N st (postB M o st):=by
 unfold Esp.postB;split
 ·exact Goes.bld _ _ _
 ·split
  ·exact Goes.thaw _ _ _
  ·exact λF ρ a w hr=>⟨F,ρ,hr,Fr.refl F ρ w⟩
theorem AOps.defer {d:Option Tmp}{c:Call}{g:FuncId}{args:List AV}{ty:TypeId}{pos}{after}{guard}(ho:opK ops st.fr i=some ⟨d,.defer c,ty,pos,after,guard⟩)(hc:b0u st.fr c=some (g,args))
  (hg:g∈Tabs.okd/\Tabs.fixd=none)(hd:m2b N d=true)(k:AOps P N ops (List.range' (i+1) n) (st.put d .junk) Q):AOps P N ops (List.range' i (n+1)) st Q:=by
 rw[t2j];intro F ρ a w hr;rw[wpOps_cons];obtain⟨e,hw⟩:=a0x hr ho;simp only[wpOp,e];rw[if_pos hw];left;obtain⟨dd,hrun,pI⟩:∃dd:Deferred,(execOp a.eval ⟨d,.defer c,ty,pos,after,guard⟩).run P w=.ok (.defer dd) w/\c1r dd:=by
  unfold b0u at hc;split at hc
  ·rename_i q hq
   split at hc
   ·rename_i f' fs cs he
    cases hc;have hr' :=a0d hr q;rw[he]at hr';generalize j7:a.eval q=gv at hr';cases hr' with
    |cell _ _ hr' =>cases hr' with
     |fn _ _ _ vs us h1 h2 kX bE=>
      refine⟨⟨.fn (.func g) us,vs++c.args.map a.eval⟩,?_,g,hg.1,us,rfl⟩;simp only[execOp,resolve,hq,j7,Deferred.ofValue,Sem.run_bind,Sem.run_pure,Result.andThen_ok]
   ·cases hc
  ·cases hc
 simp only[Oper.wp,Oper.upon,hrun];have hr2:Rel N F ρ st {a with defers:=dd::a.defers} w:=⟨hr.rw,hr.fr,hr.ob,hr.sz,hr.df.1.cons hg.2 pI,hr.df.2⟩
 have oR:Rel N F ρ (st.put d .junk) (({a with defers:=dd::a.defers}:Act).put d undef) w:=by
  cases d with
  |none=>exact hr2
  |some d=>exact hr2.put d (a0e hd) (.junk _)
 exact k.after oR (Fr.refl F ρ w)
class DfOk(M:List (Nat×ArgM)):Prop where
 ok:∀g∈(a0z M 999999997).hand,g∈Tabs.okd/\Tabs.fixd=none
theorem DfOk.none {M:List (Nat×ArgM)}(h:(a0z M 999999997).hand=[]):DfOk M:=⟨λg hg=>by rw[h]at hg;cases hg⟩
omit [Tabs]in
theorem s0f{x:Nat}:∀{l:List Nat},memB x l=true->x∈l
 |[],h=>by cases h
 |y::l,h=>by
  unfold memB at h;rw[u2c]at h;rcases h with h|h
  ·rw[r2h h];exact List.mem_cons_self ..
  ·exact s2x _ (s0f h)
theorem q0v [DfOk M] (hO:O.ok P){k:ASt->Option ρ}(h:evK P N T M O ops i st k=some r)(kk:∀s,k s=some r->AOps P N ops (List.range' (i+1) n) s Q):AOps P N ops (List.range' i (n+1)) st Q:=by
 unfold evK at h;split at h
 ·rename_i o ho
  split at h
  ·split at h
   ·rename_i d f cargs hq
    cases j8:(a0z M f).bor with
    |false=>rw[j8]at h;exact .freezes _ (e1g hO hq h kk)
    |true=>
     rw[j8]at h;exact .freezes _ (l1q hO hq h kk)
   ·split at h
    ·rename_i d f cargs hq
     exact .freezes _ (x1g hO hq h kk)
    split at h
    ·rename_i d f cargs hq
     refine .freezes (b0f M st o) ?_;rcases hO _ _ _ _ _ h with hh|⟨_,x,h1,h2,h3⟩| ⟨_,ho,_⟩
     ·obtain⟨x,o2,h1,h2⟩:=hh.2
      exfalso;have:a0m P f=false:=by
       unfold qExt at hq;split at hq
       ·split at hq
        ·rename_i f' args' hc
         cases hb:(!a0m P f' &&Nat.blt _ N&&AV.plainL args')with
         |false=>rw[hb]at hq;cases hq
         |true=>
          rw[hb]at hq;cases hq;simp only[r2i,s2v]at hb;exact hb.1.1
        ·cases hq
       ·cases hq
      rw[this]at hh;cases hh.1
     ·rw[t2j]
      exact .ieff (IEff.ext hq h1 h2).2 (kk _ h3)
     ·exact absurd rfl ho
    ·cases h
  ·split at h
   ·rename_i o' ho'
    refine .freezes (b0f M st o) ?_;split at h
    ·rename_i q hq
     exact e1w ho' hq h kk
    split at h
    ·rename_i p hp
     cases hb:Nat.blt p.pos p.s.size with
     |true=>
      rw[hb]at h;exact .next ho' hp (λ_=>kk _ h) (λhn=>absurd (a0e hb) hn)
     |false=>
      rw[hb]at h;refine .next ho' hp (λhl=>?_) (λ_=>kk _ h);have:Nat.blt p.pos p.s.size=true:=r2y hl;rw[hb]at this;cases this
    split at h
    ·rename_i p hp
     obtain⟨h0,h1⟩:=a2y h;exact .nextM ho' hp (λj hj=>kk _ (h1 j hj)) (λhl=>kk _ (h0 hl))
    split at h
    ·rename_i e he
     rw[t2j];exact .ieff (.of_opK ho' (m1x he)) (kk _ h)
    split at h
    ·rename_i p hp
     obtain⟨h1,h2⟩:=f2h h;exact .nilT ho' hp (λhx=>kk _ (h1 hx)) (kk _ h2)
    ·cases hdf:g1g P N M ((b0f M st o).foldl ASt.freeze st) o' with
     |false=>
      rw[hdf,u2k]at h;obtain⟨e,h1,h2⟩:=g0t ho' h;rw[t2j];exact .ieff h1 (.goes (Goes.postB _ _ _) (kk _ h2))
     |true=>
      rw[hdf,u2j]at h;obtain⟨d',jq,fJ,pos',after',guard'⟩:=o';unfold g1g at hdf;dsimp only at hdf h;split at hdf
      ·rename_i c
       split at hdf
       ·rename_i g args hg
        rw[r2i]at hdf;exact .defer ho' hg (DfOk.ok _ (s0f hdf.1)) hdf.2 (kk _ h)
       ·cases hdf
      ·cases hdf
   ·cases h
 ·split at h
  ·rename_i d hd
   cases hb:Nat.blt d N with
   |false=>rw[hb]at h;cases h
   |true=>
    rw[hb]at h;rw[t2j];exact .ieff (.skip hd hb) (kk _ h)
  ·cases h
theorem Rel.know {F:Nat->Prop}{ρ:Env}{a:Act}{w:World}{g:Nat}{b:Bool}(h:Rel N F ρ st a w)(hg:lkF st.fr g=.cell (.d (.sc (.bool b)))):Rel N F ρ (st.know g b) a w:=by
 have hv:a.tmps.getD g undef=.bool b:=c0p (h.fr g) (by rw[hg];rfl);have h2:=h.unw _ (n0z h 8 g b hv);refine⟨h2.rw,λj=>?_,h2.ob,h2.sz,h2.df⟩;simp only[ASt.know,lkF];cases hb:Nat.beq j g with
 |false=>exact h2.fr j
 |true=>
  rw[r2h hb,hv];exact .cell _ _ (.d _ _ (.sc _ rfl))
theorem k0v{l:List Nat}:∀(d:Nat) {kn:List (Nat×Bool)} {st:ASt} {g:Nat} {k:List (Nat×Bool)->ASt->Option ρ},x1y d kn st g k=some r->(∀kn s,k kn s=some r->AOps P N ops l s Q)->AOps P N ops l st Q
 | 0,_,_,_,_,h,_=>by cases h
 |d+1,kn,st,g,k,h,kk=>by
  unfold x1y at h;split at h
  ·rename_i b hb
   cases b with
   |true=>exact λF ρ a w hr=>kk _ _ h F ρ a w (hr.know hb)
   |false=>exact λF ρ a w hr=>kk _ _ h F ρ a w (hr.know hb)
  ·rename_i g1 w1 x hx
   refine k0v d h λkn s hs=>?_;split at hs
   ·rename_i b1 dV
    cases hc:b1==w1 with
    |true=>rw[hc]at hs;exact k0v d hs kk
    |false=>rw[hc]at hs;exact kk _ _ hs
   ·exact kk _ _ hs
  ·cases h
theorem f1n [DfOk M] (hO:O.ok P){kn:List (Nat×Bool)}{k:List (Nat×Bool)->ASt->Option ρ}(h:g2f P N T M O ops i kn st k=some r)(kk:∀kn s,k kn s=some r->AOps P N ops (List.range' (i+1) n) s Q):AOps P N ops (List.range' i (n+1)) st Q:=by
 unfold g2f at h;split at h
 ·cases h
 ·rename_i o ho
  split at h
  ·exact q0v hO h (kk kn)
  ·rename_i j want hg
   split at h
   ·cases h
   ·rename_i g gi
    cases hb:r0t kn g (!want)with
    |true=>rw[hb]at h;exact q0v hO h (kk kn)
    |false=>
     rw[hb,u2k]at h;split at h
     ·rename_i e he
      rw[t2j];exact .ieff (.of_guard ho hg (l1i he)) (kk _ _ h)
     ·exact k0v 4 h λkn s hs=>q0v (n:=n) (Q:=Q) hO hs (kk kn)
theorem h0p [DfOk M] (hO:O.ok P):∀{n i:Nat} {kn:List (Nat×Bool)} {st:ASt} {k:ASt->Option ρ},h1e P N T M O ops n i kn st k=some r->(∀s,k s=some r->Q .normal s)->AOps P N ops (List.range' i n) st Q
 | 0,i,kn,st,k,h,kk=>.done (kk _ h)
 |n+1,i,kn,st,k,h,kk=>f1n hO h λkn s hs=>h0p hO hs kk
end
section
variable{ρ:Type}
abbrev LOrc(ρ:Type):=Nat->ASt->(Exit->ASt->Option ρ)->Option ρ
abbrev DOrc(ρ:Type):=Array Oper->ASt->(ASt->Option ρ)->Option ρ
variable(P:Program)(N:Nat)(T:List (TypeId×Ev.Ty))(M:List (Nat×ArgM))(O:Orc ρ)(L:LOrc ρ)(D:DOrc ρ)
def k1i(st:ASt)(kk off:Nat)(k:ASt->Option ρ):List Nat->Option ρ
 |[]=>none
 |c::r=>match lkO st.ob kk with
  |.box cs ty=>match cs[off]? with
   |some (.d (.sc (.int ki e)))=>bif e==(c:Int)then k {st with ob:=ASt.setO kk (.box (cs.set off (.d (.sc (.int ki (.ofNat c))))) ty) st.ob} else k1i st kk off k r
   |_=>none
  |_=>none
def k1k:List Nat->ASt->ASt
 |kk::off::nk::te::z::r,st=>k1k r (st.adoptB (kk,off,nk,te,z))
 |_,st=>st
def x1m(id:Nat)(st:ASt)(k:ASt->Option ρ):Option ρ:=
 match(a0z M (1600000000+id)).hand with
 |kk::off::cs=>k1i (k1k (a0z M (1700000000+id)).hand st) kk off k cs
 |_=>k (k1k (a0z M (1700000000+id)).hand st)
def evC:(blk:Nat)->Code->ASt->(Exit->ASt->Option ρ)->Option ρ
 |_,.skip,st,k=>k .normal st
 |_,.region id ops draw,st,k=>x1m M id st λst=>bif draw then D ops st (λs=>k .normal s)else h1e P N T M O ops ops.size 0 [] st λs=>k .normal s
 |b,.seq x y,st,k=>evC b x st λe s=>match e with
  |.normal=>evC b y s k
  |e=>k e s
 |b,.cond c x y,st,k=>match ev st.fr c with
  |.cell (.d (.sc (.bool t)))=>bif t then evC b x st k else evC b y st k
  |_=>none
 |_,.block id x,st,k=>evC id x st λe s=>match e with
  |.exit j=>bif Nat.beq j id then k .normal s else k (.exit j) s
  |e=>k e s
 |_,.exit id,st,k=>k (.exit id) st
 |_,.ret,st,k=>k .ret st
 |b,.loop _,st,k=>L b st k
 |_,_,_,_=>none
def LoopsOk(L:LOrc ρ):Nat->Code->Prop
 |b,.loop x=>∀st k r,L b st k=some r->AW P N (.loop x) st λe s=>k e s=some r
 |b,.seq x y=>LoopsOk L b x/\LoopsOk L b y
 |b,.cond _ x y=>LoopsOk L b x/\LoopsOk L b y
 |_,.block id x=>LoopsOk L id x
 |_,_=>True
def DOrc.ok (D:DOrc ρ):Prop:=∀id ops st k r,D ops st k=some r->AW P N (.region id ops true) st λe s=>e=.normal/\k s=some r
end
section
variable{ρ:Type}{P:Program}{N:Nat}{T:List (TypeId×Ev.Ty)}{M:List (Nat×ArgM)}{O:Orc ρ}{L:LOrc ρ}{D:DOrc ρ}{r:ρ}
theorem AW.goes0 {c:Code}{Q:Exit->ASt->Prop}{s s' :ASt}(h:Goes N s s')(k:AW P N c s' Q):AW P N c s Q:=λF ρ a w hr=>by
 obtain⟨F',ρ',h1,h2⟩:=h F ρ a w hr;exact k.after h1 h2
omit [Tabs]in
theorem g2u{a b:Int}(h:(a==b)=true):a=b:=by simpa using h
theorem o0y{st:ASt}{kk off:Nat}{k:ASt->Option ρ}:∀{l:List Nat},k1i st kk off k l=some r->∃s,Goes N st s/\k s=some r
 |[],h=>by cases h
 |c::l,h=>by
  unfold k1i at h;split at h
  ·rename_i cs ty aH
   split at h
   ·rename_i ki e hc
    cases hb:e==(c:Int)with
    |false=>rw[hb]at h;exact o0y h
    |true=>
     rw[hb,u2j]at h;have he:=g2u hb;refine⟨_,λF ρ0 a w hr=>⟨F,ρ0,?_,Fr.refl F ρ0 w⟩,h⟩;obtain⟨ho,bE⟩:=r2p.1 hc;have bH:cs.set off (.d (.sc (.int ki (.ofNat c))))=cs:=by
      subst he;rw[show Int.ofNat c=(c:Int)from rfl, <-bE]
      exact List.set_getElem_self ho
     rw[bH];refine⟨hr.rw,hr.fr,λj=>?_,hr.sz,hr.df⟩;by_cases hj:j=kk
     ·subst hj
      rw[a0o, <-aH];exact hr.ob j
     ·rw[a0j _ _ _ _ hj]
      exact hr.ob j
   ·cases h
  ·cases h
theorem Goes.trans {a b c:ASt}(h:Goes N a b)(k:Goes N b c):Goes N a c:=λF ρ x w hr=>by
 obtain⟨F1,ρ1,h1,f1⟩:=h F ρ x w hr;obtain⟨F2,ρ2,h2,f2⟩:=k F1 ρ1 x w h1;exact⟨F2,ρ2,h2,f1.trans h1.rw.dis f2⟩
theorem k0t:∀(l:List Nat) (st:ASt),Goes N st (k1k l st)
 |kk::off::nk::te::z::r,st=>Goes.trans (Goes.adoptB (kk,off,nk,te,z) st) (k0t r _)
 |[],st=>λF ρ0 a w hr=>⟨F,ρ0,hr,Fr.refl F ρ0 w⟩
 |[_],st=>λF ρ0 a w hr=>⟨F,ρ0,hr,Fr.refl F ρ0 w⟩
 |[_,_],st=>λF ρ0 a w hr=>⟨F,ρ0,hr,Fr.refl F ρ0 w⟩
 |[_,_,_],st=>λF ρ0 a w hr=>⟨F,ρ0,hr,Fr.refl F ρ0 w⟩
 |[_,_,_,_],st=>λF ρ0 a w hr=>⟨F,ρ0,hr,Fr.refl F ρ0 w⟩
theorem a1v{id:Nat}{st:ASt}{k:ASt->Option ρ}(h:x1m M id st k=some r):∃s,Goes N st s/\k s=some r:=by
 unfold x1m at h;split at h
 ·obtain⟨s,h1,h2⟩:=o0y (N:=N) h
  exact⟨s,Goes.trans (k0t _ st) h1,h2⟩
 ·exact⟨_,k0t _ st,h⟩
theorem f0s [DfOk M] (hO:O.ok P)(hD:D.ok P N):∀{c:Code} {b:Nat} {st:ASt} {k:Exit->ASt->Option ρ},LoopsOk P N L b c->evC P N T M O L D b c st k=some r->AW P N c st λe s=>k e s=some r
 |.skip,b,st,k,_,h=>.skip rfl h
 |.region id ops draw,b,st,k,_,h=>by
  simp only[evC]at h;obtain⟨s0,hg,h⟩:=a1v (N:=N) h;refine AW.goes0 hg ?_;cases draw with
  |true=>exact(hD id ops s0 _ _ h).mono λe s ⟨he,hs⟩=>by subst he;exact hs
  |false=>exact .region rfl rfl (h0p hO h λs hs=>hs)
 |.seq x y,b,st,k,hl,h=>by
  simp only[evC]at h;refine .seq rfl ((f0s hO hD hl.1 h).mono λe s hs=>?_);cases e with
  |normal=>exact Then.go (f0s hO hD hl.2 hs)
  |_=>exact hs
 |.cond c x y,b,st,k,hl,h=>by
  simp only[evC]at h;split at h
  ·rename_i t ht
   refine .cond (b:=t) rfl (by show n0c (ev st.fr c)=_;rw[ht];rfl) (λe=>?_) (λe=>?_)
   ·subst e;exact f0s hO hD hl.1 h
   ·subst e;exact f0s hO hD hl.2 h
  ·cases h
 |.block id x,b,st,k,hl,h=>by
  simp only[evC]at h;refine .block rfl ((f0s hO hD (show LoopsOk P N L id x from hl) h).mono λe s hs=>?_)
  cases e with
  |exit j=>
   show a2m id _ (.exit j) s;simp only[a2m];cases hb:Nat.beq j id with
   |true=>simp only[hb,u2j]at hs;simpa using hs
   |false=>simp only[hb,u2k]at hs;simpa using hs
  |_=>exact hs
 |.exit id,b,st,k,_,h=>.exit rfl h
 |.ret,b,st,k,_,h=>.ret rfl h
 |.loop x,b,st,k,hl,h=>hl st k r h
 |.rangeFunc ..,_,_,_,_,h=>by cases h
 |.scope _,_,_,_,_,h=>by cases h
 |.label _,_,_,_,_,h=>by cases h
 |.goto _,_,_,_,_,h=>by cases h
 |.refuse _,_,_,_,_,h=>by cases h
def a0a{S:Type}(step:(S->Option ρ)->S->Option ρ):Nat->S->Option ρ
 | 0,_=>none
 |n+1,s=>step (a0a step n) s
structure Pre where
 fz:List Nat:=[]
 ad:List (Nat×Nat×TypeId×Nat):=[]
 adb:List (Nat×Nat×Nat×TypeId×Nat):=[]
def ASt.adopt (N:Nat)(st:ASt)(p:Nat×Nat×TypeId×Nat):ASt:=
 match lkF st.fr p.1 with
 |.cell (.d (.sc (.slice none 0 0)))=>bif Nat.blt p.2.1 N then{(st.newOb p.2.1 (.arr p.2.2.1 p.2.2.2 0 []))with fr:=setF p.1 (.cell (.own p.2.1)) (st.newOb p.2.1 (.arr p.2.2.1 p.2.2.2 0 [])).fr} else st
 |_=>st
def Pre.app (N:Nat)(p:Pre)(st:ASt):ASt:=p.adb.foldl ASt.adoptB (p.ad.foldl (ASt.adopt N) (p.fz.foldl ASt.freeze st))
theorem AW.freezes {c:Code}{Q:Exit->ASt->Prop}:∀(ks:List Nat) {st:ASt},AW P N c (ks.foldl ASt.freeze st) Q->AW P N c st Q
 |[],_,h=>h
 |k::r,st,h=>.freeze k rfl (AW.freezes r h)
def o2d(P:Program)(N:Nat)(T:List (TypeId×Ev.Ty))(M:List (Nat×ArgM))(O:Orc ρ)(L:LOrc ρ)(D:DOrc ρ)(b:Nat)(body:Code)(tm xt rt:Tm)(pre:Pre)(rec:tm.den->Option ρ)(kx:xt.den->Option ρ)(kr:rt.den->Option ρ)(s:tm.den):Option ρ:=
 evC P N T M O L D b body (tm.enc s) λe st' =>match e with
  |.normal=>(tm.dec (pre.app N st')).bind rec
  |.exit j=>bif Nat.beq j b then(xt.dec st').bind kx else none
  |.ret=>(rt.dec st').bind kr
  |_=>none
def f2w(N:Nat)(b n:Nat)(tm xt rt:Tm)(pre:Pre)(step:(tm.den->Option ρ)->(xt.den->Option ρ)->(rt.den->Option ρ)->tm.den->Option ρ)(st:ASt)(k:Exit->ASt->Option ρ):Option ρ:=
 (tm.dec (pre.app N st)).bind λs=>a0a (λrec=>step rec (λx=>k (.exit b) (xt.enc x)) (λx=>k .ret (rt.enc x))) n s
end
section
variable{ρ:Type}{P:Program}{N:Nat}{T:List (TypeId×Ev.Ty)}{M:List (Nat×ArgM)}{O:Orc ρ}{L:LOrc ρ}{D:DOrc ρ}{r:ρ}
theorem Goes.dec {t:Tm}{s:ASt}{x:t.den}(h:t.dec s=some x):Goes N s (t.enc x):=λF ρ a w hr=>by
 obtain⟨ρ',h1,h2⟩:=Tm.dec_rel h hr;exact⟨F,ρ',h1,h2⟩
theorem Goes.pre (p:Pre)(st:ASt):Goes N st (p.app N st):=by
 have e1:∀(ks:List Nat) (s:ASt),Goes N s (ks.foldl ASt.freeze s):=λks s F ρ a w hr=>Rel.freezes (F:=F) (ρ:=ρ) ks hr;have e2:∀(l:List (Nat×Nat×TypeId×Nat)) (s:ASt),Goes N s (l.foldl (ASt.adopt N) s):=by
  intro l
  induction l with
  |nil=>exact λs F ρ a w hr=>⟨F,ρ,hr,Fr.refl F ρ w⟩
  |cons q r ih=>
   intro s;refine Goes.trans (b:=s.adopt N q) (λF ρ a w hr=>?_) (ih _);unfold ASt.adopt;split
   ·rename_i hs
    cases hb:Nat.blt q.2.1 N with
    |false=>exact⟨F,ρ,hr,Fr.refl F ρ w⟩
    |true=>
     obtain⟨ρ',h1,h2⟩:=hr.adopt q.1 q.2.1 q.2.2.1 q.2.2.2 hb hs;exact⟨F,ρ',h1,h2⟩
   ·exact⟨F,ρ,hr,Fr.refl F ρ w⟩
 have e3:∀(l:List (Nat×Nat×Nat×TypeId×Nat)) (s:ASt),Goes N s (l.foldl ASt.adoptB s):=by
  intro l
  induction l with
  |nil=>exact λs F ρ a w hr=>⟨F,ρ,hr,Fr.refl F ρ w⟩
  |cons q r ih=>exact λs=>(Goes.adoptB q s).trans (ih _)
 exact(e1 _ _).trans ((e2 _ _).trans (e3 _ _))
theorem AW.goes {c:Code}{Q:Exit->ASt->Prop}{s s' :ASt}(h:Goes N s s')(k:AW P N c s' Q):AW P N c s Q:=λF ρ a w hr=>by
 obtain⟨F',ρ',h1,h2⟩:=h F ρ a w hr;exact k.after h1 h2
theorem AW.post {c:Code}{Q Q' :Exit->ASt->Prop}{s:ASt}(h:AW P N c s Q)(hq:∀e s,Q e s->∃s',Goes N s s' /\Q' e s'):AW P N c s Q' :=by
 intro F ρ a w hr;refine wp_mono (h F ρ a w hr) λe a' w' ⟨F',ρ',s',h1,h2,h3⟩=>?_;obtain⟨s2,hg,h4⟩:=hq e s' h1;obtain⟨F2,ρ2,h5,h6⟩:=hg F' ρ' a' w' h2;exact⟨F2,ρ2,s2,h4,h5,h3.trans h2.rw.dis h6⟩
theorem e1t [DfOk M] (hO:O.ok P)(hD:D.ok P N){b n:Nat}{body:Code}{tm xt rt:Tm}{pre:Pre}{step:(tm.den->Option ρ)->(xt.den->Option ρ)->(rt.den->Option ρ)->tm.den->Option ρ}(hl:LoopsOk P N L b body)
  (hs:∀rec kx kr s,o2d P N T M O L D b body tm xt rt pre rec kx kr s=step rec kx kr s)(st:ASt)(k:Exit->ASt->Option ρ)(r:ρ)(h:f2w N b n tm xt rt pre step st k=some r):
  AW P N (.loop body) st λe s=>k e s=some r:=by
 unfold f2w at h;simp only[r2m]at h;obtain⟨s0,h1,h2⟩:=h;refine .goes ((Goes.pre pre st).trans (Goes.dec h1)) ?_;refine .loopG (α:={p:Nat×tm.den // a0a (λrec=>step rec (λx=>k (.exit b) (xt.enc x)) (λx=>k .ret (rt.enc x))) p.1 p.2=some r}) rfl (λp=>tm.enc p.1.2) (λp=>p.1.1) ⟨(n,s0),h2⟩ rfl λ⟨⟨m,s⟩,hm⟩=>?_;dsimp only at hm⊢;cases m with
 |zero=>cases hm
 |succ m=>
  simp only[a0a]at hm;rw [<-hs]at hm;refine .post (f0s hO hD hl hm) λe s' he=>?_;cases e with
  |normal=>
   simp only[r2m]at he;obtain⟨s2,h3,h4⟩:=he;exact⟨s',λF ρ a w hr=>⟨F,ρ,hr,Fr.refl F ρ w⟩,⟨(m,s2),h4⟩,(Goes.pre pre s').trans (Goes.dec h3),by simp⟩
  |exit j=>
   dsimp only at he;cases hb:Nat.beq j b with
   |false=>rw[hb]at he;cases he
   |true=>
    rw[hb]at he;simp only[u2j,r2m]at he;obtain⟨s2,h3,h4⟩:=he;rw[r2h hb];exact⟨_,Goes.dec h3,h4⟩
  |ret=>
   simp only[r2m]at he;obtain⟨s2,h3,h4⟩:=he;exact⟨_,Goes.dec h3,h4⟩
  |_=>cases he
inductive RI where
 |v(t:Ev.Ty)
 |ref(x:Ref)
 |opt(t:Ev.Ty)
 |mix(l:List FT)
 deriving Inhabited
def m2z(t:Ev.Ty):Option t.den->AV
 |none=>.cell (.d (.sc (.pointer none)))
 |some x=>.cell (.d (.rp (c0k t x)))
def f2o(t:Ev.Ty):AV->Option (Option t.den)
 |.cell (.d (.rp cs))=>(rd0 t cs).map some
 |.cell (.d (.sc (.pointer none)))=>some none
 |_=>none
def optC{α ρ:Type}(o:Option α)(a:ρ)(b:α->ρ):ρ:=match o with
 |none=>a
 |some x=>b x
structure FnT where
 nargs:Nat
 ins:Tm
 outs:List RI
 obs:List (Nat×OT)
@[reducible] def q0t:List RI->Type->Type
  |[],u=>u
  |.v t::r,u=>t.den×q0t r u
  |.ref _::r,u=>q0t r u
  |.opt t::r,u=>Option t.den×q0t r u
  |.mix l::r,u=>FT.dens l×q0t r u
def i0o:(l:List RI)->{u:Type}->q0t l u->List AV
 |[],_,_=>[]
 |.v t::r,_,x=>avOf t x.1::i0o r x.2
 |.ref c::r,_,x=>.cell c.ac::i0o r x
 |.opt t::r,_,x=>m2z t x.1::i0o r x.2
 |.mix l::r,_,x=>.agg (FT.enc l x.1)::i0o r x.2
def r0o:(l:List RI)->{u:Type}->q0t l u->u
 |[],_,x=>x
 |.v _::r,_,x=>r0o r x.2
 |.ref _::r,_,x=>r0o r x
 |.opt _::r,_,x=>r0o r x.2
 |.mix _::r,_,x=>r0o r x.2
def p0v:(l:List RI)->{u:Type}->Option u->List AV->Option (q0t l u)
 |[],_,u,[]=>u
 |.v t::r,_,u,x::xs=>(m0p t x).bind λa=>(p0v r u xs).bind λb=>some (a,b)
 |.ref c::r,_,u,.cell a::xs=>bif c.is a then p0v r u xs else none
 |.opt t::r,_,u,x::xs=>(f2o t x).bind λa=>(p0v r u xs).bind λb=>some (a,b)
 |.mix l::r,_,u,.agg cs::xs=>(FT.dec l cs).bind λa=>(p0v r u xs).bind λb=>some (a,b)
 |_,_,_,_=>none
def r0z{ρ:Type}:(l:List RI)->{u:Type}->q0t l u->(List AV->u->Option ρ)->Option ρ
 |[],_,x,k=>k [] x
 |.v t::r,_,x,k=>r0z r x.2 λl u=>k (avOf t x.1::l) u
 |.ref c::r,_,x,k=>r0z r x λl u=>k (.cell c.ac::l) u
 |.opt t::r,_,x,k=>optC x.1 (r0z r x.2 λl u=>k (.cell (.d (.sc (.pointer none)))::l) u) λy=>r0z r x.2 λl u=>k (.cell (.d (.rp (c0k t y)))::l) u
 |.mix l::r,_,x,k=>r0z r x.2 λm u=>k (.agg (FT.enc l x.1)::m) u
omit [Tabs]in
theorem f0m{ρ:Type}:∀(l:List RI) {u:Type} (x:q0t l u) (k:List AV->u->Option ρ),r0z l x k=k (i0o l x) (r0o l x)
 |[],_,_,_=>rfl
 |.v t::r,_,x,k=>f0m r x.2 _
 |.ref c::r,_,x,k=>f0m r x _
 |.opt t::r,_,(none,x),k=>f0m r x _
 |.opt t::r,_,(some y,x),k=>f0m r x _
 |.mix l::r,_,x,k=>f0m r x.2 _
@[reducible] def FnT.den (t:FnT):Type:=q0t t.outs (b1d t.obs)
def one1:List AV->AV
 |[x]=>x
 |l=>.tup l
def FnT.args (t:FnT)(x:t.ins.den):List AV:=(List.range t.nargs).map λi=>lkF (t.ins.enc x).fr i
def FnT.ob (t:FnT)(x:t.ins.den):List (Nat×AObj):=(t.ins.enc x).ob
def FnT.res (t:FnT)(y:t.den):AV:=one1 (i0o t.outs y)
def FnT.ob2 (t:FnT)(y:t.den):List (Nat×AObj):=oEnc t.obs (r0o t.outs y)
def Contract(P:Program)(f:FuncId)(t:FnT)(nf:t.ins.den->Option t.den):Prop:=∀x y,nf x=some y->ACalls P f (t.args x) (t.ob x) (EX (t.res y) (t.ob2 y))
end
end Esp

import Derived.Test.YtcloicgnanjbcaaGreatDoorPTL
import Derived.Test.YtcloicgnanjbcaaGreatDoorPRX
import Derived.Test.YtcloicgnanjbcaaGreatDoorEvSortL
noncomputable section
namespace Pure
open Esp Ev Go
set_option linter.unusedSimpArgs false
set_option linter.unusedVariables false
theorem c0f(q:Query):Ev.Query.mk q.dots q.arrows q.wher q.items q.dist=q:=rfl
theorem b0r(g:Graph):Ev.Graph.mk g.nodes g.edges g.next=g:=rfl
theorem k0b(a:Ev.Arrow):Ev.Arrow.mk a.name a.type a.back a.many=a:=rfl
theorem g0n(x:Ev.Node):Ev.Node.mk x.id x.labels x.props=x:=rfl
def dotB(d:Ev.Dot)(x:Ev.Node):Bool:=seq d.label ⟨#[]⟩ || hasL x.labels d.label
theorem k0x(q:Query)(g:Graph)(R:List (List (Ev.Pair×Bool)))(n k:Nat)(d:Ev.Dot)(x:Ev.Node)(hd:q.dots[k]? =some d)(hl:x.labels.length≤100)(hn:200≤n):
  q18z n ((k:Int),x,(q,g,R,()),())=some (dotB d x,(q,g,R,()),()):=by
 unfold q18z dotB
 dsimp only
 rw [a0z hd,Option.bind_some]
 cases h:seq d.label ⟨#[]⟩with
 | true=>rfl
 | false=>rw [cond_false,x0u _ _ n hl hn];rfl
def fitL:List Ev.Dot→List Int→ByteArray→Int→Bool
 | d::r,y::s,nm,x=>(seq d.name ⟨#[]⟩ || (!seq d.name nm || (y==x)))&&fitL r s nm x
 | _,_,_,_=>true
theorem d1o{ρ:Type}(n:Nat)(q:Query)(g:Graph)(R:List (List (Ev.Pair×Bool)))
  (kx:(Ev.Query×Ev.Graph×(List (List (Ev.Pair×Bool)))×Unit)×(List Int)×Unit→Option ρ)(kr:Bool×(Ev.Query×Ev.Graph×(List (List (Ev.Pair×Bool)))×Unit)×(List Int)×Unit→Option ρ)
  (k:Nat)(hk:k≤1000)(d:Ev.Dot)(hd:q.dots[k]? =some d)(f:List Int)(x:Int)(hx:f[k]? =some x):
  ∀(r p:List Ev.Dot) (s t:List Int),q.dots.take k=p++r→f.take k=t++s→p.length=t.length→r.length=s.length→∀fuel,r.length<fuel→
   a0k (fun rc=>m0w n rc kx kr) fuel ((k:Int),(k:Int),(p.length:Int),(q,g,R,()),f,())=bif fitL r s d.name x then kx ((q,g,R,()),f,())else kr (false,(q,g,R,()),f,())
 | [],p,s,t,h1,h2,h3,h4,fuel,hf=>by
  obtain⟨m,rfl⟩: ∃m,fuel=m+1:=⟨fuel - 1,by omega⟩
  have hkl:=(List.getElem?_eq_some_iff.1 hd).1
  have e:p.length=k:=by
   have:=congrArg List.length h1
   rw [List.length_take,List.append_nil]at this
   omega
  rw [a0k]
  unfold m0w
  dsimp only
  rw [decide_eq_false (by omega),cond_false]
  rfl
 | d0::r,p,s,t,h1,h2,h3,h4,fuel,hf=>by
  obtain⟨m,rfl⟩: ∃m,fuel=m+1:=⟨fuel - 1,by omega⟩
  have hkl:=(List.getElem?_eq_some_iff.1 hd).1
  obtain⟨y,s,rfl⟩: ∃y s',s=y::s' :=by
   cases s with
   | nil=>simp at h4
   | cons y s' =>exact⟨y,s',rfl⟩
  have hlt:p.length<k:=by
   have:=congrArg List.length h1
   rw [List.length_take,List.length_append,List.length_cons]at this
   omega
  have e1:q.dots[p.length]? =some d0:=by
   rw [←List.getElem?_take_of_lt hlt,h1]
   simp
  have e2:f[p.length]? =some y:=by
   rw [←List.getElem?_take_of_lt hlt,h2,h3]
   simp
  have ih:=d1o n q g R kx kr k hk d hd f x hx r (p++ [d0]) s (t++ [y]) (by rw [h1];simp) (by rw [h2];simp) (by simp [h3]) (by simpa using h4) m (by simp at hf;omega)
  rw [List.length_append,List.length_singleton,Int.natCast_add]at ih
  rw [a0k]
  unfold m0w
  dsimp only
  rw [decide_eq_true (by omega),cond_true,a0z e1,a0z hd,a0z hx,a0z e2]
  simp only [Option.bind_some,Int.toNat_natCast,e2,hx,c0f,b0r]
  rw [b0i (by omega) (by omega)]
  unfold fitL
  cases hn0:seq d0.name ⟨#[]⟩with
  | true=>simp only [Bool.not_true,cond_false,Bool.true_or,Bool.true_and];exact ih
  | false=>
   cases hn1:seq d0.name d.name with
   | false=>simp only [Bool.not_false,cond_true,cond_false,Bool.true_or,Bool.false_or,Bool.true_and];exact ih
   | true=>
    cases hyx:(y==x)with
    | true=>
     rw [show((y:Int) !=x)=false by simpa [bne]using hyx]
     simp only [Bool.not_false,Bool.not_true,cond_true,cond_false,Bool.true_or,Bool.false_or,Bool.or_true,Bool.true_and];exact ih
    | false=>
     rw [show((y:Int) !=x)=true by simp [bne,hyx]]
     rfl
theorem h0n(n:Nat)(q:Query)(g:Graph)(R:List (List (Ev.Pair×Bool)))(k:Nat)(hk:k≤1000)(d:Ev.Dot)(hd:q.dots[k]? =some d)(f:List Int)(x:Int)(hx:f[k]? =some x)(hn:1100≤n):
  q16z n ((k:Int),(q,g,R,()),f,())=some (fitL (q.dots.take k) (f.take k) d.name x,(q,g,R,()),f,()):=by
 have hkl:=(List.getElem?_eq_some_iff.1 hd).1
 have hfl:=(List.getElem?_eq_some_iff.1 hx).1
 unfold q16z
 dsimp only
 have:=d1o n q g R (fun(o19,o20,_)=>some (true,((Ev.Query.mk o19.1.dots o19.1.arrows o19.1.wher o19.1.items o19.1.dist),(Ev.Graph.mk o19.2.1.nodes o19.2.1.edges o19.2.1.next),o19.2.2.1,()),o20,())) (fun(v21,o22,o23,_)=>some (v21,((Ev.Query.mk o22.1.dots o22.1.arrows o22.1.wher o22.1.items o22.1.dist),(Ev.Graph.mk o22.2.1.nodes o22.2.1.edges o22.2.1.next),o22.2.2.1,()),o23,())) k hk d hd f x hx (q.dots.take k) [] (f.take k) [] rfl rfl rfl (by simp;omega) n (by simp;omega)
 refine(Eq.trans ?_ this).trans ?_
 ·rfl
 ·cases fitL (q.dots.take k) (f.take k) d.name x<;>rfl
def push(s:List (List Int)×Bool)(w:List Int):List (List Int)×Bool:=if s.1.length=2000 then(s.1,true)else(s.1++ [w],s.2)
def e0p(s:List (List Int)×Bool)(W:List (List Int)):List (List Int)×Bool:=W.foldl push s
theorem a1c(s:List (List Int)×Bool)(V W:List (List Int)):e0p s (V++W)=e0p (e0p s V) W:=List.foldl_append
theorem v1k{s:List (List Int)×Bool}(h:s.1.length≤2000)(w:List Int):(push s w).1.length≤2000:=by
 unfold push
 split
 ·exact h
 ·simp;omega
theorem g0w: ∀(W:List (List Int)) {s:List (List Int)×Bool},s.1.length≤2000→(e0p s W).1.length≤2000
 | [],s,h=>h
 | w::r,s,h=>g0w r (v1k h w)
theorem m1i: ∀(W:List (List Int)) (s:List (List Int)×Bool),s.1.length≤2000→(s.1.length+W.length≤2000→e0p s W=(s.1++W,s.2))∧(2000<s.1.length+W.length→(e0p s W).2=true)
 | [],s,h=>⟨fun _=>by simp [e0p],fun h2=>by simp at h2;omega⟩
 | w::r,s,h=>by
  have ih:=m1i r (push s w) (v1k h w)
  have hst: ∀(W:List (List Int)) (s:List (List Int)×Bool),s.2=true→(e0p s W).2=true:=by
   intro W
   induction W with
   | nil=>exact fun s h=>h
   | cons w r ih=>exact fun s h=>ih _ (by unfold push;split;rfl;exact h)
  rw [List.length_cons]
  constructor
  ·intro h2
   have e:push s w=(s.1++ [w],s.2):=by unfold push;rw [if_neg (by omega)]
   have:=ih.1 (by rw [e];simp;omega)
   show e0p (push s w) r=_
   rw [this,e]
   simp
  ·intro h2
   show(e0p (push s w) r).2=true
   by_cases h3:s.1.length=2000
   ·exact hst r _ (by unfold push;rw [if_pos h3])
   ·have e:push s w=(s.1++ [w],s.2):=by unfold push;rw [if_neg h3]
    exact ih.2 (by rw [e];simp;omega)
end Pure
namespace Pure
open Esp Ev Go
set_option linter.unusedSimpArgs false
set_option linter.unusedVariables false
theorem m0i{α:Type}(m:List α)(j:Nat)(y:α)(h:j<m.length):(m.set j y).take (j+1)=m.take j++ [y]:=by
 rw [List.take_add_one,List.take_set_of_le (Nat.le_refl j)]
 simp [h]
structure Agr(N k:Nat)(ds es f:List Int):Prop where
 len:f.length=2*N - 1
 d:f.take k=ds
 e:(f.drop N).take (k - 1)=es
structure Mid(N k:Nat)(ds es f:List Int):Prop where
 len:f.length=2*N - 1
 d:f.take (k+1)=ds
 e:(f.drop N).take (k - 1)=es
theorem Agr.dot{N k:Nat}{ds es f:List Int}(h:Agr N k ds es f)(hk:k<N)(x:Int):Mid N k (ds++ [x]) es (f.set k x):=by
 refine⟨by simp [h.len], ?_, ?_⟩
 ·rw [m0i _ _ _ (by rw [h.len];omega),h.d]
 ·rw [List.drop_set,if_pos hk]
  exact h.e
theorem Mid.back{N k:Nat}{ds es f:List Int}{x:Int}(h:Mid N k (ds++ [x]) es f)(hk:k<N):Agr N k ds es f:=by
 refine⟨h.len, ?_,h.e⟩
 have hd:=h.d
 have hl:(ds++ [x]).length=k+1:=by rw [←hd,List.length_take,h.len];omega
 have h2:f.take k=(f.take (k+1)).take k:=by rw [List.take_take,Nat.min_eq_left (by omega)]
 rw [h2,hd]
 rw [List.length_append,List.length_singleton]at hl
 rw [show k=ds.length by omega]
 simp
theorem Mid.edge{N k:Nat}{ds es f:List Int}(h:Mid N k ds es f)(h1:1≤k)(hk:k<N)(y:Int):Agr N (k+1) ds (es++ [y]) (f.set (N+k - 1) y):=by
 refine⟨by simp [h.len], ?_, ?_⟩
 ·rw [List.take_set_of_le (by omega),h.d]
 ·rw [List.drop_set,if_neg (by omega),show N+k - 1 - N=k - 1 by omega,show k+1 - 1=k - 1+1 by omega,m0i _ _ _ (by rw [List.length_drop,h.len];omega),h.e]
theorem Agr.mid{N k:Nat}{ds es f:List Int}{y:Int}(h:Agr N (k+1) ds (es++ [y]) f)(h1:1≤k)(hk:k<N):Mid N k ds es f:=by
 refine⟨h.len,h.d, ?_⟩
 have he:=h.e
 have hl:(es++ [y]).length=k:=by rw [←he,List.length_take,List.length_drop,h.len];omega
 have h2:(f.drop N).take (k - 1)=((f.drop N).take (k+1 - 1)).take (k - 1):=by rw [List.take_take,Nat.min_eq_left (by omega)]
 rw [h2,he]
 rw [List.length_append,List.length_singleton]at hl
 rw [show k - 1=es.length by omega]
 simp
abbrev c2m:=Int×(Ev.Query×Ev.Graph×(List (List (Ev.Pair×Bool)))×Unit)×(List Int)×Unit×(List (List Int))×(Bool×Unit)×Unit→Option ((Ev.Query×Ev.Graph×(List (List (Ev.Pair×Bool)))×Unit)×(List Int)×Unit×(List (List Int))×(Bool×Unit)×Unit)
def WOk(q:Query)(g:Graph)(R:List (List (Ev.Pair×Bool)))(self:c2m)(k:Nat)(ds es:List Int)(W:List (List Int)):Prop:=
 ∀(f:List Int) (s:List (List Int)×Bool),Agr q.dots.length k ds es f→s.1.length≤2000→∃f',Agr q.dots.length k ds es f' ∧
  self ((k:Int),(q,g,R,()),f,(),s.1,(s.2,()),())=some ((q,g,R,()),f',(),(e0p s W).1,((e0p s W).2,()),())
def okE(a:Ev.Arrow)(fr tg:Int)(y:Ev.Edg):Bool:=(((y.src:Int)==fr)&& ((y.dst:Int)==tg))&& ((seq a.type ⟨#[]⟩) || (seq y.type a.type))
theorem l0w{ρ:Type}(q:Query)(g:Graph)(R:List (List (Ev.Pair×Bool)))(self:c2m)(n:Nat)
  (k:Nat)(h1:1≤k)(hk:k<q.dots.length)(hN:q.dots.length≤1000)(a:Ev.Arrow)(fr tg:Int)(v83:List Ev.Node)(v84 v85:Int)(ds es:List Int)(Wn:Int→List (List Int)):
  ∀(l:List Ev.Edg) (i:Int),(∀y∈l,okE a fr tg y=true→WOk q g R self (k+1) ds (es++ [y.id]) (Wn y.id))→ ∀(f:List Int) (s:List (List Int)×Bool),Mid q.dots.length k ds es f→s.1.length≤2000→
   ∃f',Mid q.dots.length k ds es f' ∧∀(kr:Unit→Option ρ) (K:(Int×Int×Int×Int×(List Ev.Node)×Int×Int×(Ev.Arrow×Unit)×(Ev.Query×Ev.Graph×(List (List (Ev.Pair×Bool)))×Unit)×Unit×(List (List Int))×(Bool×Unit)×(List Int)×Unit)→Option ρ),a0i (o0x self n kr) K i l ((k:Int),(q.dots.length:Int),fr,tg,v83,v84,v85,(a,()),(q,g,R,()),(),s.1,(s.2,()),f,())
    =K ((k:Int),(q.dots.length:Int),fr,tg,v83,v84,v85,(a,()),(q,g,R,()),(),(e0p s (((l.filter (okE a fr tg)).map Ev.Edg.id).flatMap Wn)).1,((e0p s (((l.filter (okE a fr tg)).map Ev.Edg.id).flatMap Wn)).2,()),f',())
 | [],i,hw,f,s,hm,hs=>⟨f,hm,fun kr K=>by rw [a0i];rfl⟩
 | y::r,i,hw,f,s,hm,hs=>by
  by_cases hy:okE a fr tg y=true
  ·have hL:f[q.dots.length+k - 1]? ≠none:=by
    rw [Ne,List.getElem?_eq_none_iff,hm.len]
    omega
   obtain⟨z,hz⟩:=Option.ne_none_iff_exists'.1 hL
   obtain⟨f1,a1,e1⟩:=hw y (by simp) hy (f.set (q.dots.length+k - 1) y.id) s (hm.edge h1 hk y.id) hs
   obtain⟨f2,a2,e2⟩:=l0w (ρ:=ρ) q g R self n k h1 hk hN a fr tg v83 v84 v85 ds es Wn r (i+1) (fun x hx=>hw x (by simp [hx])) f1 (e0p s (Wn y.id)) (a1.mid h1 hk) (g0w _ hs)
   refine⟨f2,a2,fun kr K=> ?_⟩
   have e2:=e2 kr K
   rw [List.filter_cons_of_pos hy,List.map_cons,List.flatMap_cons,a1c]
   rw [a0i]
   unfold o0x at e2⊢
   unfold okE at hy
   dsimp only
   rw [hy,cond_true,b0i (x:=(q.dots.length:Int)+k) (by omega) (by omega),b0i (x:=(q.dots.length:Int)+k - 1) (by omega) (by omega),show((q.dots.length:Int)+k - 1)=((q.dots.length+k - 1:Nat):Int)by omega,a0z hz,Int.toNat_natCast,hz]
   simp only [Option.bind_some,c0f,b0r,k0b]
   rw [b0i (by omega) (by omega),show((k:Int)+1)=((k+1:Nat):Int)by omega,e1,Option.bind_some]
   exact e2
  ·have hy' :okE a fr tg y=false:=by simpa using hy
   obtain⟨f2,a2,e2⟩:=l0w (ρ:=ρ) q g R self n k h1 hk hN a fr tg v83 v84 v85 ds es Wn r (i+1) (fun x hx=>hw x (by simp [hx])) f s hm hs
   refine⟨f2,a2,fun kr K=> ?_⟩
   have e2:=e2 kr K
   rw [List.filter_cons_of_neg hy]
   rw [a0i]
   unfold o0x at e2⊢
   unfold okE at hy'
   dsimp only
   rw [hy',cond_false]
   exact e2
def r0g(g:Graph)(a:Ev.Arrow)(ks:List Ev.Pair)(fr tg:Int):List Int:=
 bif a.many then(bif decide (Ev.Pair.mk fr tg∈ks)then [0]else [])else((g.edges.filter (okE a fr tg)).map Ev.Edg.id)
def n0e(g:Graph)(a:Ev.Arrow)(ks:List Ev.Pair)(x y:Int):List Int:=bif a.back then r0g g a ks y x else r0g g a ks x y
def BOk(q:Query)(g:Graph)(R:List (List (Ev.Pair×Bool)))(self:c2m)(k:Nat)(ds es:List Int)(x:Int)(W:List (List Int)):Prop:=
 (k=0∧WOk q g R self 1 (ds++ [x]) es W)∨
 (1≤k∧∃a ks last Wn,q.arrows[k - 1]? =some a∧(a.many=true→R[k - 1]? =some (tr ks))∧ds[k - 1]? =some last∧W=(n0e g a ks last x).flatMap Wn∧∀e∈n0e g a ks last x,WOk q g R self (k+1) (ds++ [x]) (es++ [e]) (Wn e))
end Pure
namespace Pure
open Esp Ev Go
set_option linter.unusedSimpArgs false
set_option linter.unusedVariables false
theorem e1p{ρ:Type}(q:Query)(g:Graph)(R:List (List (Ev.Pair×Bool)))(self:c2m)(n:Nat)(hn:1100≤n)
  (kx:(Ev.Query×Ev.Graph×(List (List (Ev.Pair×Bool)))×Unit)×Unit×(List (List Int))×(Bool×Unit)×(List Int)×Unit→Option ρ)(kr:Unit→Option ρ)
  (k:Nat)(hk:k<q.dots.length)(hN:q.dots.length≤1000)(d:Ev.Dot)(hd:q.dots[k]? =some d)(ds es:List Int)(hds:ds.length=k)
  (h40:g.nodes.length≤40)(h60:g.edges.length≤60)(hlab: ∀x∈g.nodes,x.labels.length≤100)(Wx:Ev.Node→List (List Int))
  (hb: ∀x∈g.nodes,(dotB d x&&fitL (q.dots.take k) ds d.name x.id)=true→BOk q g R self k ds es x.id (Wx x)):
  ∀(r p:List Ev.Node),g.nodes=p++r→∀(f:List Int) (s:List (List Int)×Bool) (fuel:Nat),Agr q.dots.length k ds es f→s.1.length≤2000→r.length<fuel→
   ∃f',Agr q.dots.length k ds es f' ∧a0k (fun rc=>e0n self n rc kx kr) fuel ((k:Int),(q.dots.length:Int),g.nodes,(g.nodes.length:Int),(p.length:Int),(q,g,R,()),(),s.1,(s.2,()),f,())
    =kx ((q,g,R,()),(),(e0p s (r.flatMap fun x=>bif dotB d x&&fitL (q.dots.take k) ds d.name x.id then Wx x else [])).1,((e0p s (r.flatMap fun x=>bif dotB d x&&fitL (q.dots.take k) ds d.name x.id then Wx x else [])).2,()),f',())
 | [],p,hp,f,s,fuel,ha,hs,hf=>by
  obtain⟨m,rfl⟩: ∃m,fuel=m+1:=⟨fuel - 1,by omega⟩
  refine⟨f,ha, ?_⟩
  rw [a0k]
  unfold e0n
  dsimp only
  rw [decide_eq_false (by rw [hp];simp),cond_false]
  rfl
 | x::r,p,hp,f,s,fuel,ha,hs,hf=>by
  obtain⟨m,rfl⟩: ∃m,fuel=m+1:=⟨fuel - 1,by omega⟩
  have hxm:x∈g.nodes:=by rw [hp];simp
  have hx:g.nodes[p.length]? =some x:=by rw [hp];simp
  have hlt:p.length<g.nodes.length:=(List.getElem?_eq_some_iff.1 hx).1
  have hfl:k<f.length:=by rw [ha.len];omega
  obtain⟨z,hz⟩: ∃z,f[k]? =some z:=⟨f[k],by simp [hfl]⟩
  have hmid:=ha.dot hk x.id
  have hf1:(f.set k x.id)[k]? =some x.id:=by simp [hfl]
  have htk:(f.set k x.id).take k=ds:=by rw [List.take_set_of_le (Nat.le_refl k),ha.d]
  have IH:=fun f s=>e1p q g R self n hn kx kr k hk hN d hd ds es hds h40 h60 hlab Wx hb r (p++ [x]) (by rw [hp];simp) f s m
  rw [List.length_append,List.length_singleton,Int.natCast_add]at IH
  have hrm:r.length<m:=by simp at hf;omega
  have hw:IntKind.wrap .i64 ((p.length:Int)+1)=(p.length:Int)+1:=b0i (by omega) (by omega)
  rw [List.flatMap_cons,a0k]
  generalize a0k (fun rc=>e0n self n rc kx kr) m=I at IH⊢
  cases hdx:dotB d x with
  | false=>
   obtain⟨f2,a2,e2⟩:=IH f s ha hs hrm
   refine⟨f2,a2, ?_⟩
   unfold e0n
   dsimp only
   rw [decide_eq_true (by omega),cond_true,a0z hx,Option.bind_some]
   simp only [c0f,b0r,g0n]
   rw [k0x q g R n k d x hd (hlab x hxm) (by omega),Option.bind_some]
   dsimp only
   rw [hdx,Bool.not_false,cond_true,hw,Bool.false_and,cond_false,List.nil_append]
   exact e2
  | true=>
   cases hfx:fitL (q.dots.take k) ds d.name x.id with
   | false=>
    obtain⟨f2,a2,e2⟩:=IH (f.set k x.id) s (hmid.back hk) hs hrm
    refine⟨f2,a2, ?_⟩
    unfold e0n
    dsimp only
    rw [decide_eq_true (by omega),cond_true,a0z hx,Option.bind_some]
    simp only [c0f,b0r,g0n]
    rw [k0x q g R n k d x hd (hlab x hxm) (by omega),Option.bind_some]
    dsimp only
    rw [hdx,Bool.not_true,cond_false,a0z hz,Option.bind_some,Int.toNat_natCast,hz,Option.bind_some,h0n n q g R k (by omega) d hd _ x.id hf1 hn,Option.bind_some,htk,hfx]
    dsimp only
    rw [Bool.not_false,cond_true,hw,Bool.true_and,cond_false,List.nil_append]
    exact e2
   | true=>
    rw [Bool.true_and,cond_true,a1c]
    have hB:=hb x hxm (by rw [hdx,hfx];rfl)
    rcases hB with⟨hk0,hW⟩ | ⟨hk1,a,ks,last,Wn,ea,eR,el,eW,hW⟩
    ·subst hk0
     obtain⟨f1,a1,e1⟩:=hW (f.set 0 x.id) s ⟨hmid.len,hmid.d,hmid.e⟩ hs
     have a1' :Mid q.dots.length 0 (ds++ [x.id]) es f1:=⟨a1.len,a1.d,a1.e⟩
     obtain⟨f2,a2,e2⟩:=IH f1 (e0p s (Wx x)) (a1'.back hk) (g0w _ hs) hrm
     refine⟨f2,a2, ?_⟩
     unfold e0n
     dsimp only
     rw [decide_eq_true (by omega),cond_true,a0z hx,Option.bind_some]
     simp only [c0f,b0r,g0n]
     rw [k0x q g R n 0 d x hd (hlab x hxm) (by omega),Option.bind_some]
     dsimp only
     rw [hdx,Bool.not_true,cond_false,a0z hz,Option.bind_some,Int.toNat_natCast,hz,Option.bind_some,h0n n q g R 0 (by omega) d hd _ x.id hf1 hn,Option.bind_some,htk,hfx]
     rw [Bool.not_true,cond_false,show(((0:Nat):Int)==0)=true from rfl,cond_true]
     rw [show(((1:Nat):Int))=1 from rfl]at e1
     rw [e1,Option.bind_some]
     rw [hw]
     exact e2
    ·have hlast:(f.set k x.id)[k - 1]? =some last:=by
      have:=congrArg (fun l:List Int=>l[k - 1]?) hmid.d
      replace this:((f.set k x.id).take (k+1))[k - 1]? =(ds++ [x.id])[k - 1]? :=this
      rw [List.getElem?_take_of_lt (by omega),List.getElem?_append_left (by omega),el]at this
      exact this
     have hwk:IntKind.wrap .i64 ((k:Int) - 1)=((k - 1:Nat):Int):=by rw [b0i (by omega) (by omega)];omega
     have hwE:IntKind.wrap .i64 (IntKind.wrap .i64 ((q.dots.length:Int)+k) - 1)=((q.dots.length+k - 1:Nat):Int):=by rw [b0i (x:=(q.dots.length:Int)+k) (by omega) (by omega),b0i (by omega) (by omega)];omega
     have hw1:IntKind.wrap .i64 ((k:Int)+1)=((k+1:Nat):Int):=by rw [b0i (by omega) (by omega)];omega
     have hk0:((k:Int)==0)=false:=by rw [beq_eq_false_iff_ne];omega
     obtain⟨zE,hzE⟩: ∃z,(f.set k x.id)[q.dots.length+k - 1]? =some z:=by
      have:q.dots.length+k - 1< (f.set k x.id).length:=by rw [hmid.len];omega
      exact⟨_,List.getElem?_eq_getElem this⟩
     unfold n0e at eW hW
     cases hbk:a.back<;>cases hmy:a.many<;>rw [hbk]at eW hW<;>simp only [cond_true,cond_false]at eW hW<;>unfold r0g at eW hW<;>rw [hmy]at eW hW<;>simp only [cond_true,cond_false]at eW hW
     ·obtain⟨f1,a1,e1⟩:=l0w q g R self n (ρ:=ρ) k hk1 hk hN a last x.id g.nodes (g.nodes.length:Int) (p.length:Int) (ds++ [x.id]) es Wn g.edges 0 (fun y hy hok=>hW _ (List.mem_map.2 ⟨y,List.mem_filter.2 ⟨hy,hok⟩,rfl⟩)) (f.set k x.id) s hmid hs
      obtain⟨f2,a2,e2⟩:=IH f1 (e0p s (Wx x)) (a1.back hk) (g0w _ hs) hrm
      refine⟨f2,a2, ?_⟩
      unfold e0n
      dsimp only
      rw [decide_eq_true (by omega),cond_true,a0z hx,Option.bind_some]
      simp only [c0f,b0r,g0n]
      rw [k0x q g R n k d x hd (hlab x hxm) (by omega),Option.bind_some]
      dsimp only
      rw [hdx,Bool.not_true,cond_false,a0z hz,Option.bind_some,Int.toNat_natCast,hz,Option.bind_some,h0n n q g R k (by omega) d hd _ x.id hf1 hn,Option.bind_some,htk,hfx]
      dsimp only
      rw [Bool.not_true,cond_false,hk0,cond_false,hwk,a0z ea,Option.bind_some,a0z hlast,Option.bind_some,Int.toNat_natCast,hlast,Option.bind_some]
      simp only [k0b]
      rw [hbk,cond_false,hmy,cond_false]
      rw [l0k self n _ _ g.edges n _ _ _ _ _ _ _ _ _ _ _ _ _ (by omega) (by omega)]
      rw [←eW]at e1
      rw [e1]
      dsimp only
      rw [hw]
      exact e2
     ·by_cases hmem:Ev.Pair.mk last x.id∈ks
      ·rw [decide_eq_true hmem]at eW hW
       simp only [cond_true,List.flatMap_cons,List.flatMap_nil,List.append_nil]at eW
       obtain⟨f1,a1,e1⟩:=hW 0 (by simp) ((f.set k x.id).set (q.dots.length+k - 1) 0) s (hmid.edge hk1 hk 0) hs
       obtain⟨f2,a2,e2⟩:=IH f1 (e0p s (Wx x)) ((a1.mid hk1 hk).back hk) (g0w _ hs) hrm
       refine⟨f2,a2, ?_⟩
       unfold e0n
       dsimp only
       rw [decide_eq_true (by omega),cond_true,a0z hx,Option.bind_some]
       simp only [c0f,b0r,g0n]
       rw [k0x q g R n k d x hd (hlab x hxm) (by omega),Option.bind_some]
       dsimp only
       rw [hdx,Bool.not_true,cond_false,a0z hz,Option.bind_some,Int.toNat_natCast,hz,Option.bind_some,h0n n q g R k (by omega) d hd _ x.id hf1 hn,Option.bind_some,htk,hfx]
       dsimp only
       rw [Bool.not_true,cond_false,hk0,cond_false,hwk,a0z ea,Option.bind_some,a0z hlast,Option.bind_some,Int.toNat_natCast,hlast,Option.bind_some]
       simp only [k0b]
       rw [hbk,cond_false,hmy,cond_true]
       rw [a0z (eR hmy),Option.bind_some,a1x,decide_eq_true hmem,cond_true,hwE,a0z hzE,Option.bind_some,Int.toNat_natCast,hzE,Option.bind_some,hw1,e1,Option.bind_some,hw, ←eW]
       exact e2
      ·rw [decide_eq_false hmem]at eW
       simp only [cond_false,List.flatMap_nil]at eW
       obtain⟨f2,a2,e2⟩:=IH (f.set k x.id) s (hmid.back hk) hs hrm
       refine⟨f2,a2, ?_⟩
       unfold e0n
       dsimp only
       rw [decide_eq_true (by omega),cond_true,a0z hx,Option.bind_some]
       simp only [c0f,b0r,g0n]
       rw [k0x q g R n k d x hd (hlab x hxm) (by omega),Option.bind_some]
       dsimp only
       rw [hdx,Bool.not_true,cond_false,a0z hz,Option.bind_some,Int.toNat_natCast,hz,Option.bind_some,h0n n q g R k (by omega) d hd _ x.id hf1 hn,Option.bind_some,htk,hfx]
       dsimp only
       rw [Bool.not_true,cond_false,hk0,cond_false,hwk,a0z ea,Option.bind_some,a0z hlast,Option.bind_some,Int.toNat_natCast,hlast,Option.bind_some]
       simp only [k0b]
       rw [hbk,cond_false,hmy,cond_true]
       rw [a0z (eR hmy),Option.bind_some,a1x,decide_eq_false hmem,cond_false,hw,eW]
       exact e2
     ·obtain⟨f1,a1,e1⟩:=l0w q g R self n (ρ:=ρ) k hk1 hk hN a x.id last g.nodes (g.nodes.length:Int) (p.length:Int) (ds++ [x.id]) es Wn g.edges 0 (fun y hy hok=>hW _ (List.mem_map.2 ⟨y,List.mem_filter.2 ⟨hy,hok⟩,rfl⟩)) (f.set k x.id) s hmid hs
      obtain⟨f2,a2,e2⟩:=IH f1 (e0p s (Wx x)) (a1.back hk) (g0w _ hs) hrm
      refine⟨f2,a2, ?_⟩
      unfold e0n
      dsimp only
      rw [decide_eq_true (by omega),cond_true,a0z hx,Option.bind_some]
      simp only [c0f,b0r,g0n]
      rw [k0x q g R n k d x hd (hlab x hxm) (by omega),Option.bind_some]
      dsimp only
      rw [hdx,Bool.not_true,cond_false,a0z hz,Option.bind_some,Int.toNat_natCast,hz,Option.bind_some,h0n n q g R k (by omega) d hd _ x.id hf1 hn,Option.bind_some,htk,hfx]
      dsimp only
      rw [Bool.not_true,cond_false,hk0,cond_false,hwk,a0z ea,Option.bind_some,a0z hlast,Option.bind_some,Int.toNat_natCast,hlast,Option.bind_some]
      simp only [k0b]
      rw [hbk,cond_true,hmy,cond_false]
      rw [l0k self n _ _ g.edges n _ _ _ _ _ _ _ _ _ _ _ _ _ (by omega) (by omega)]
      rw [←eW]at e1
      rw [e1]
      dsimp only
      rw [hw]
      exact e2
     ·by_cases hmem:Ev.Pair.mk x.id last∈ks
      ·rw [decide_eq_true hmem]at eW hW
       simp only [cond_true,List.flatMap_cons,List.flatMap_nil,List.append_nil]at eW
       obtain⟨f1,a1,e1⟩:=hW 0 (by simp) ((f.set k x.id).set (q.dots.length+k - 1) 0) s (hmid.edge hk1 hk 0) hs
       obtain⟨f2,a2,e2⟩:=IH f1 (e0p s (Wx x)) ((a1.mid hk1 hk).back hk) (g0w _ hs) hrm
       refine⟨f2,a2, ?_⟩
       unfold e0n
       dsimp only
       rw [decide_eq_true (by omega),cond_true,a0z hx,Option.bind_some]
       simp only [c0f,b0r,g0n]
       rw [k0x q g R n k d x hd (hlab x hxm) (by omega),Option.bind_some]
       dsimp only
       rw [hdx,Bool.not_true,cond_false,a0z hz,Option.bind_some,Int.toNat_natCast,hz,Option.bind_some,h0n n q g R k (by omega) d hd _ x.id hf1 hn,Option.bind_some,htk,hfx]
       dsimp only
       rw [Bool.not_true,cond_false,hk0,cond_false,hwk,a0z ea,Option.bind_some,a0z hlast,Option.bind_some,Int.toNat_natCast,hlast,Option.bind_some]
       simp only [k0b]
       rw [hbk,cond_true,hmy,cond_true]
       rw [a0z (eR hmy),Option.bind_some,a1x,decide_eq_true hmem,cond_true,hwE,a0z hzE,Option.bind_some,Int.toNat_natCast,hzE,Option.bind_some,hw1,e1,Option.bind_some,hw, ←eW]
       exact e2
      ·rw [decide_eq_false hmem]at eW
       simp only [cond_false,List.flatMap_nil]at eW
       obtain⟨f2,a2,e2⟩:=IH (f.set k x.id) s (hmid.back hk) hs hrm
       refine⟨f2,a2, ?_⟩
       unfold e0n
       dsimp only
       rw [decide_eq_true (by omega),cond_true,a0z hx,Option.bind_some]
       simp only [c0f,b0r,g0n]
       rw [k0x q g R n k d x hd (hlab x hxm) (by omega),Option.bind_some]
       dsimp only
       rw [hdx,Bool.not_true,cond_false,a0z hz,Option.bind_some,Int.toNat_natCast,hz,Option.bind_some,h0n n q g R k (by omega) d hd _ x.id hf1 hn,Option.bind_some,htk,hfx]
       dsimp only
       rw [Bool.not_true,cond_false,hk0,cond_false,hwk,a0z ea,Option.bind_some,a0z hlast,Option.bind_some,Int.toNat_natCast,hlast,Option.bind_some]
       simp only [k0b]
       rw [hbk,cond_true,hmy,cond_true]
       rw [a0z (eR hmy),Option.bind_some,a1x,decide_eq_false hmem,cond_false,hw,eW]
       exact e2
end Pure
namespace Pure
open Esp Ev Go
set_option linter.unusedSimpArgs false
set_option linter.unusedVariables false
theorem k2k(f:List Int)(s:List (List Int)×Bool)(hs:s.1.length≤2000)(hf:f.length≤1000):q46z (f,(),s.1,(s.2,()),())=some (f,(),(push s f).1,((push s f).2,()),()):=by
 unfold q46z push
 dsimp only
 by_cases h:s.1.length=2000
 ·rw [if_pos h,show((s.1.length:Int)==2000)=true by rw [h];rfl,cond_true]
 ·rw [if_neg h,show((s.1.length:Int)==2000)=false by rw [beq_eq_false_iff_ne];omega,cond_false,d1z f hf,Option.bind_some]
  dsimp only
  rw [h0j]
  unfold room
  rw [Bool.and_eq_true]
  constructor<;>exact Nat.ble_eq_true_of_le (by simp;omega)
def AOk(g:Graph)(f:List Int):Prop:=∀x∈f,x∈g.nodes.map Ev.Node.id∨x∈g.edges.map Ev.Edg.id∨x=0
theorem AOk.app{g:Graph}{a b:List Int}(ha:AOk g a)(hb:AOk g b):AOk g (a++b):=by
 intro x hx
 rcases List.mem_append.1 hx with h | h
 ·exact ha x h
 ·exact hb x h
theorem AOk.one{g:Graph}{y:Int}(h:y∈g.nodes.map Ev.Node.id∨y∈g.edges.map Ev.Edg.id∨y=0):AOk g [y]:=by
 intro x hx
 rw [List.mem_singleton]at hx
 rw [hx]
 exact h
def u0k(q:Query)(g:Graph)(R:List (List (Ev.Pair×Bool)))(N0:Nat)(pass:List Int→Bool):Prop:=
 ∀(f:List Int),f.length=2*q.dots.length - 1→AOk g f→∀n,N0≤n→∃y:Envr,q19z n ((q,g,R,()),f,())=some (y,(q,g,R,()),f,())∧q29z n (y,q.wher,())=some (pass f,())
theorem v1p(y:Envr):Envr.mk (Graph.mk y.g.nodes y.g.edges y.g.next) y.at_=y:=rfl
def finF(pass:List Int→Bool)(ds es:List Int):List (List Int):=bif pass (ds++es)then [ds++es]else []
theorem b2p{q:Query}{g:Graph}{R:List (List (Ev.Pair×Bool))}{N0:Nat}{pass:List Int→Bool}(hp:u0k q g R N0 pass)(hN:q.dots.length≤100)(h1:1≤q.dots.length)(ds es:List Int)(hd:AOk g ds)(he:AOk g es)(m:Nat)(hm:N0+1≤m):
  WOk q g R (q6z m) q.dots.length ds es (finF pass ds es):=by
 intro f s ha hs
 obtain⟨n,rfl⟩: ∃n,m=n+1:=⟨m - 1,by omega⟩
 have ef:f=ds++es:=by
  have e2:=ha.e
  rw [List.take_of_length_le (by rw [List.length_drop,ha.len];omega)]at e2
  rw [←ha.d, ←e2,List.take_append_drop]
 obtain⟨y,ey,ep⟩:=hp f ha.len (by rw [ef];exact hd.app he) n (by omega)
 refine⟨f,ha, ?_⟩
 rw [q6z]
 unfold a2e
 dsimp only
 rw [show((q.dots.length:Int)==(q.dots.length:Int))=true from beq_self_eq_true _,cond_true]
 simp only [c0f,b0r,ey,Option.bind_some,v1p,ep,q0e]
 unfold finF
 rw [←ef]
 cases hpf:pass f with
 | false=>rfl
 | true=>
  rw [cond_true,cond_true,k2k f s hs (by rw [ha.len];omega)]
  rfl
def j0m(g:Graph)(fin:List Int→List Int→List (List Int)):List (Ev.Dot×Ev.Arrow×List Ev.Pair)→List Ev.Dot→List Int→List Int→List (List Int)
 | [],_,ds,es=>fin ds es
 | (d,a,ks)::r,pre,ds,es=>g.nodes.flatMap fun x=>bif dotB d x&&fitL pre ds d.name x.id then(n0e g a ks (ds.getLast?.getD 0) x.id).flatMap (fun e=>j0m g fin r (pre++ [d]) (ds++ [x.id]) (es++ [e]))else []
def x0y(g:Graph)(fin:List Int→List Int→List (List Int))(d:Ev.Dot)(rem:List (Ev.Dot×Ev.Arrow×List Ev.Pair)):List (List Int):=
 g.nodes.flatMap fun x=>bif dotB d x&&fitL [] [] d.name x.id then j0m g fin rem [d] [x.id] []else []
theorem t1z{q:Query}{g:Graph}{R:List (List (Ev.Pair×Bool))}(n:Nat)(hn:1100≤n)(k:Nat)(hk:k<q.dots.length)(hN:q.dots.length≤100)(d:Ev.Dot)(hd:q.dots[k]? =some d)(ds es:List Int)(hds:ds.length=k)
  (h40:g.nodes.length≤40)(h60:g.edges.length≤60)(hlab: ∀x∈g.nodes,x.labels.length≤100)(Wx:Ev.Node→List (List Int))
  (hb: ∀x∈g.nodes,(dotB d x&&fitL (q.dots.take k) ds d.name x.id)=true→BOk q g R (q6z n) k ds es x.id (Wx x)):
  WOk q g R (q6z (n+1)) k ds es (g.nodes.flatMap fun x=>bif dotB d x&&fitL (q.dots.take k) ds d.name x.id then Wx x else []):=by
 intro f s ha hs
 rw [q6z]
 unfold a2e
 dsimp only
 rw [show((k:Int)==(q.dots.length:Int))=false by rw [beq_eq_false_iff_ne];omega,cond_false]
 obtain⟨f',a',e'⟩:=e1p q g R (q6z n) n hn (fun(o131,o132,o133,o134,o135,_)=>some (((Ev.Query.mk o131.1.dots o131.1.arrows o131.1.wher o131.1.items o131.1.dist),(Ev.Graph.mk o131.2.1.nodes o131.2.1.edges o131.2.1.next),o131.2.2.1,()),o135,(()),o133,(o134.1,()),())) (fun(_)=>none) k hk (by omega) d hd ds es hds h40 h60 hlab Wx hb g.nodes [] rfl f s n ha hs (by omega)
 exact⟨f',a',e'⟩
theorem a2n{g:Graph}{a:Ev.Arrow}{ks:List Ev.Pair}{x y e:Int}(h:e∈n0e g a ks x y):e∈g.edges.map Ev.Edg.id∨e=0:=by
 have key: ∀{fr tg:Int},e∈r0g g a ks fr tg→e∈g.edges.map Ev.Edg.id∨e=0:=by
  intro fr tg h
  unfold r0g at h
  cases hm:a.many with
  | true=>
   rw [hm,cond_true]at h
   cases hd:decide (Ev.Pair.mk fr tg∈ks)with
   | true=>rw [hd,cond_true,List.mem_singleton]at h;exact .inr h
   | false=>rw [hd,cond_false]at h;cases h
  | false=>
   rw [hm,cond_false]at h
   obtain⟨z,hz,rfl⟩:=List.mem_map.1 h
   exact .inl (List.mem_map.2 ⟨z,(List.mem_filter.1 hz).1,rfl⟩)
 unfold n0e at h
 cases hb:a.back with
 | true=>rw [hb,cond_true]at h;exact key h
 | false=>rw [hb,cond_false]at h;exact key h
theorem i1m{q:Query}{g:Graph}{R:List (List (Ev.Pair×Bool))}{N0:Nat}{pass:List Int→Bool}(hp:u0k q g R N0 pass)(hN0:1100≤N0)(hN:q.dots.length≤100)
  (h40:g.nodes.length≤40)(h60:g.edges.length≤60)(hlab: ∀x∈g.nodes,x.labels.length≤100):
  ∀(rem:List (Ev.Dot×Ev.Arrow×List Ev.Pair)) (pre:List Ev.Dot) (ar:List Ev.Arrow) (ds es:List Int),q.dots=pre++rem.map (fun z=>z.1)→q.arrows=ar++rem.map (fun z=>z.2.1)→pre.length=ar.length+1→ds.length=pre.length→AOk g ds→AOk g es→
   (∀j z,rem[j]? =some z→z.2.1.many=true→R[ar.length+j]? =some (tr z.2.2))→ ∀m,N0+1+rem.length≤m→WOk q g R (q6z m) pre.length ds es (j0m g (finF pass) rem pre ds es)
 | [],pre,ar,ds,es,h1,h2,h3,h4,h5,h6,h7,m,hm=>by
  have e:pre=q.dots:=by rw [h1];simp
  rw [j0m,e]
  exact b2p hp hN (by rw [←e];omega) ds es h5 h6 m (by simpa using hm)
 | (d,a,ks)::r,pre,ar,ds,es,h1,h2,h3,h4,h5,h6,h7,m,hm=>by
  obtain⟨n,rfl⟩: ∃n,m=n+1:=⟨m - 1,by omega⟩
  rw [List.length_cons]at hm
  have hl:pre.length<q.dots.length:=by rw [h1];simp
  have ed:q.dots[pre.length]? =some d:=by rw [h1];simp
  have ea:q.arrows[pre.length - 1]? =some a:=by rw [h2,show pre.length - 1=ar.length by omega];simp
  have et:q.dots.take pre.length=pre:=by rw [h1];simp
  have:=t1z (R:=R) n (by omega) pre.length hl hN d ed ds es h4 h40 h60 hlab (fun x=>(n0e g a ks (ds.getLast?.getD 0) x.id).flatMap (fun e=>j0m g (finF pass) r (pre++ [d]) (ds++ [x.id]) (es++ [e]))) ?_
  ·rw [et]at this
   exact this
  ·intro x hx hc
   refine .inr ⟨by omega,a,ks,ds.getLast?.getD 0,fun e=>j0m g (finF pass) r (pre++ [d]) (ds++ [x.id]) (es++ [e]),ea,fun hm=> ?_, ?_,rfl,fun e he=> ?_⟩
   ·have:=h7 0 (d,a,ks) rfl hm
    rw [show pre.length - 1=ar.length by omega]
    exact this
   ·rw [show pre.length - 1=ds.length - 1 by omega,List.getLast?_eq_getElem?,List.getElem?_eq_getElem (by omega)]
    rfl
   ·have hw:=i1m hp hN0 hN h40 h60 hlab r (pre++ [d]) (ar++ [a]) (ds++ [x.id]) (es++ [e]) (by rw [h1];simp) (by rw [h2];simp) (by simp;omega) (by simp [h4])
     (h5.app (AOk.one (.inl (List.mem_map.2 ⟨x,hx,rfl⟩))))
     (h6.app (AOk.one (.inr (a2n he))))
     (by intro j z hz hm;have:=h7 (j+1) z (by simpa using hz) hm;rw [List.length_append,List.length_singleton,show ar.length+1+j=ar.length+(j+1)by omega];exact this) n (by omega)
    rw [List.length_append,List.length_singleton]at hw
    exact hw
theorem c2z{q:Query}{g:Graph}{R:List (List (Ev.Pair×Bool))}{N0:Nat}{pass:List Int→Bool}(hp:u0k q g R N0 pass)(hN0:1100≤N0)(hN:q.dots.length≤100)
  (h40:g.nodes.length≤40)(h60:g.edges.length≤60)(hlab: ∀x∈g.nodes,x.labels.length≤100)(d:Ev.Dot)(rem:List (Ev.Dot×Ev.Arrow×List Ev.Pair))(h1:q.dots=d::rem.map (fun z=>z.1))(h2:q.arrows=rem.map (fun z=>z.2.1))
  (h7: ∀(j:Nat) (z:Ev.Dot×Ev.Arrow×List Ev.Pair),rem[j]? =some z→z.2.1.many=true→R[j]? =some (tr z.2.2))(m:Nat)(hm:N0+2+rem.length≤m):
  WOk q g R (q6z m) 0 [] [] (x0y g (finF pass) d rem):=by
 obtain⟨n,rfl⟩: ∃n,m=n+1:=⟨m - 1,by omega⟩
 have:=t1z (R:=R) n (by omega) 0 (by rw [h1];simp) hN d (by rw [h1];rfl) [] [] rfl h40 h60 hlab (fun x=>j0m g (finF pass) rem [d] [x.id] []) ?_
 ·exact this
 ·intro x hx hc
  refine .inl ⟨rfl, ?_⟩
  exact i1m hp hN0 hN h40 h60 hlab rem [d] [] [x.id] [] (by rw [h1];rfl) (by rw [h2];rfl) rfl rfl (by intro y hy;rw [List.mem_singleton]at hy;subst hy;exact .inl (List.mem_map.2 ⟨x,hx,rfl⟩)) (by intro y hy;cases hy)
   (by intro j z hz hm;rw [List.length_nil,Nat.zero_add];exact h7 j z hz hm) n (by omega)
end Pure
namespace Pure
open Esp Ev Go
set_option linter.unusedSimpArgs false
set_option linter.unusedVariables false
def envD:List Ev.Dot→List Int→List (ByteArray×Int)→List (ByteArray×Int)
 | d::r,y::s,at_=>envD r s (bif !(seq d.name ⟨#[]⟩)then(bif y !=0 then b0s .str .i64 at_ d.name y else at_)else at_)
 | _,_,at_=>at_
def envA:List Ev.Arrow→List Int→List (ByteArray×Int)→List (ByteArray×Int)
 | a::r,y::s,at_=>envA r s (bif !(seq a.name ⟨#[]⟩)then b0s .str .i64 at_ a.name y else at_)
 | _,_,at_=>at_
theorem g2f{ρ:Type}(n:Nat)(kr:Unit→Option ρ)(K:((Ev.Envr×Unit)×(List (ByteArray×Int))×(Ev.Query×Ev.Graph×(List (List (Ev.Pair×Bool)))×Unit)×(List Int)×Unit)→Option ρ)(e:Envr)(q:Query)(g:Graph)(R:List (List (Ev.Pair×Bool)))(f:List Int):
  ∀(l:List Ev.Dot) (t s:List Int) (at_:List (ByteArray×Int)),f=t++s→l.length≤s.length→a0i (p0t n kr) K (t.length:Int) l ((e,()),at_,(q,g,R,()),f,())=K ((e,()),envD l s at_,(q,g,R,()),f,())
 | [],t,s,at_,hf,hl=>by rw [a0i,envD];intro a b c d h;cases h
 | d::r,t,s,at_,hf,hl=>by
  obtain⟨y,s,rfl⟩: ∃y s',s=y::s' :=by
   cases s with
   | nil=>simp at hl
   | cons y s' =>exact⟨y,s',rfl⟩
  have hy:f[t.length]? =some y:=by rw [hf];simp
  have ih:=fun at_=>g2f n kr K e q g R f r (t++ [y]) s at_ (by rw [hf];simp) (by simpa using hl)
  rw [List.length_append,List.length_singleton,Int.natCast_add]at ih
  rw [a0i,envD]
  unfold p0t at ih⊢
  dsimp only
  cases hn:seq d.name ⟨#[]⟩with
  | true=>rw [Bool.not_true,cond_false,cond_false];exact ih _
  | false=>
   rw [Bool.not_false,cond_true,cond_true,a0z hy,Option.bind_some,Int.toNat_natCast,hy,Option.bind_some]
   cases h0:(y !=0)with
   | true=>rw [cond_true,cond_true,Option.bind_some,Option.bind_some];exact ih _
   | false=>rw [cond_false,cond_false];exact ih _
theorem h2d{ρ:Type}(n:Nat)(kr:Unit→Option ρ)(K:((Ev.Envr×Unit)×(List (ByteArray×Int))×(Ev.Query×Ev.Graph×(List (List (Ev.Pair×Bool)))×Unit)×(List Int)×Unit)→Option ρ)(e:Envr)(q:Query)(hN:q.dots.length≤100)(g:Graph)(R:List (List (Ev.Pair×Bool)))(f:List Int)(h0:f.length≤1000):
  ∀(l:List Ev.Arrow) (t s:List Int) (at_:List (ByteArray×Int)),f=t++s→q.dots.length≤t.length→l.length≤s.length→a0i (k0f n kr) K ((t.length:Int) - q.dots.length) l ((e,()),at_,(q,g,R,()),f,())=K ((e,()),envA l s at_,(q,g,R,()),f,())
 | [],t,s,at_,hf,ht,hl=>by rw [a0i,envA];intro a b c d h;cases h
 | d::r,t,s,at_,hf,ht,hl=>by
  obtain⟨y,s,rfl⟩: ∃y s',s=y::s' :=by
   cases s with
   | nil=>simp at hl
   | cons y s' =>exact⟨y,s',rfl⟩
  have hy:f[t.length]? =some y:=by rw [hf];simp
  have htl:t.length≤1000:=by rw [hf]at h0;simp at h0;omega
  have ih:=fun at_=>h2d n kr K e q hN g R f h0 r (t++ [y]) s at_ (by rw [hf];simp) (by simp;omega) (by simpa using hl)
  rw [List.length_append,List.length_singleton,Int.natCast_add,show((t.length:Int)+((1:Nat):Int) - (q.dots.length:Int))=(t.length:Int) - q.dots.length+1 by omega]at ih
  rw [a0i,envA]
  unfold k0f at ih⊢
  dsimp only
  cases hn:seq d.name ⟨#[]⟩with
  | true=>rw [Bool.not_true,cond_false,cond_false];exact ih _
  | false=>
   rw [Bool.not_false,cond_true,cond_true,b0i (by omega) (by omega),show((q.dots.length:Int)+((t.length:Int) - q.dots.length))=(t.length:Int)by omega,a0z hy,Option.bind_some,Int.toNat_natCast,hy,Option.bind_some]
   exact ih _
theorem k2o{ρ:Type}(n:Nat)(kr:Unit→Option ρ)(K:((Ev.Envr×Unit)×(List (ByteArray×Int))×(Ev.Query×Ev.Graph×(List (List (Ev.Pair×Bool)))×Unit)×(List Int)×Unit)→Option ρ)(e:Envr)(q:Query)(hN:q.dots.length≤100)(g:Graph)(R:List (List (Ev.Pair×Bool)))(f:List Int)(h0:f.length≤1000)
  (l:List Ev.Arrow)(t s:List Int)(at_:List (ByteArray×Int))(hf:f=t++s)(ht:q.dots.length≤t.length)(hl:l.length≤s.length)(i:Int)(hi:i=(t.length:Int) - q.dots.length):a0i (k0f n kr) K i l ((e,()),at_,(q,g,R,()),f,())=K ((e,()),envA l s at_,(q,g,R,()),f,()):=by
 subst hi
 exact h2d n kr K e q hN g R f h0 l t s at_ hf ht hl
def q0r(q:Query)(g:Graph)(f:List Int):Envr:=⟨g,envA q.arrows (f.drop q.dots.length) (envD q.dots f [])⟩
theorem s1y(q:Query)(g:Graph)(R:List (List (Ev.Pair×Bool)))(f:List Int)(hN:q.dots.length≤100)(ha:q.arrows.length+1=q.dots.length)(hf:f.length=2*q.dots.length - 1)(n:Nat)(hn:200≤n):
  q19z n ((q,g,R,()),f,())=some (q0r q g f,(q,g,R,()),f,()):=by
 unfold q19z
 dsimp only
 rw [l0c n _ _ q.dots n _ _ _ _ (by omega) (by omega)]
 refine Eq.trans (g2f n _ _ ⟨⟨[], [],0⟩, []⟩ q g R f q.dots [] f [] rfl (by omega)) ?_
 dsimp only
 rw [k0q n _ _ q.arrows n _ _ _ _ (by omega) (by omega)]
 refine Eq.trans (k2o n _ _ ⟨⟨[], [],0⟩, []⟩ q hN g R f (by omega) q.arrows (f.take q.dots.length) (f.drop q.dots.length) (envD q.dots f []) (List.take_append_drop _ _).symm (by rw [List.length_take];omega) (by rw [List.length_drop];omega) 0 (by rw [List.length_take];omega)) ?_
 rfl
theorem l1r{at_:List (ByteArray×Int)}{s:ByteArray}{v:Int}(hv:wfI .i64 v)(h:atOk at_):atOk (b0s .str .i64 at_ s v):=by
 induction at_ with
 | nil=>
  intro q hq
  have:q=(s,v):=by simpa [b0s]using hq
  subst this
  exact hv
 | cons y a ih=>
  intro q hq
  rw [b0s]at hq
  cases hk:c0l .str s y.1 with
  | true=>
   rw [hk,cond_true]at hq
   rcases List.mem_cons.1 hq with rfl | hq
   ·exact hv
   ·exact h q (by simp [hq])
  | false=>
   rw [hk,cond_false]at hq
   rcases List.mem_cons.1 hq with rfl | hq
   ·exact h _ (by simp)
   ·exact ih (fun z hz=>h z (by simp [hz])) q hq
theorem t1g: ∀(l:List Ev.Dot) (s:List Int) (at_:List (ByteArray×Int)),(∀x∈s,wfI .i64 x)→atOk at_→atOk (envD l s at_)
 | [],s,at_,hs,h=>by rw [envD];exact h;intro a b c d h;cases h
 | d::r, [],at_,hs,h=>by rw [envD];exact h;intro a b c d _ h;cases h
 | d::r,y::s,at_,hs,h=>by
  rw [envD]
  refine t1g r s _ (fun x hx=>hs x (by simp [hx])) ?_
  cases (!(seq d.name ⟨#[]⟩))with
  | false=>exact h
  | true=>
   cases (y !=0)with
   | false=>exact h
   | true=>exact l1r (hs y (by simp)) h
theorem p1a: ∀(l:List Ev.Arrow) (s:List Int) (at_:List (ByteArray×Int)),(∀x∈s,wfI .i64 x)→atOk at_→atOk (envA l s at_)
 | [],s,at_,hs,h=>by rw [envA];exact h;intro a b c d h;cases h
 | d::r, [],at_,hs,h=>by rw [envA];exact h;intro a b c d _ h;cases h
 | d::r,y::s,at_,hs,h=>by
  rw [envA]
  refine p1a r s _ (fun x hx=>hs x (by simp [hx])) ?_
  cases (!(seq d.name ⟨#[]⟩))with
  | false=>exact h
  | true=>exact l1r (hs y (by simp)) h
end Pure
namespace Pure
open Esp Ev Go
set_option linter.unusedSimpArgs false
set_option linter.unusedVariables false
def allF(A:List Int):Nat→List (List Int)
 | 0=> [[]]
 | n+1=>A.flatMap fun x=>(allF A n).map fun l=>x::l
theorem m1d(A:List Int): ∀f:List Int,(∀x∈f,x∈A)→f∈allF A f.length
 | [],_=>by simp [allF]
 | x::r,h=>List.mem_flatMap.2 ⟨x,h x (by simp),List.mem_map.2 ⟨r,m1d A r fun y hy=>h y (by simp [hy]),rfl⟩⟩
def d2t(q:Query)(g:Graph)(f:List Int):Bool:=q.wher.all fun t=>((tval g (q0r q g f).at_ t).kind==1)&& ((tval g (q0r q g f).at_ t).n==1)
theorem e1k(n:Nat)(e:Envr)(w:List Term)(V:Term→Val)(h: ∀t∈w,q35z n (e,t,())=some (V t,()))(hl:w.length≤1000)(hn:w.length<n):
  q29z n (e,w,())=some (w.all fun t=>((V t).kind==1)&& ((V t).n==1),()):=by
 have key: ∀(l:List Term) (i:Int),(∀t∈l,q35z n (e,t,())=some (V t,()))→a0i (ρ:=Bool×Unit) (p0l n (fun(v11,_)=>some (v11,()))) (fun(o6,_)=>some (true,())) i l ((e,()),())=some (l.all fun t=>((V t).kind==1)&& ((V t).n==1),()):=by
  intro l
  induction l with
  | nil=>intro i _;rfl
  | cons t r ih=>
   intro i hh
   have ih:=ih (i+1) fun t ht=>hh t (by simp [ht])
   rw [a0i]
   unfold p0l at ih⊢
   dsimp only
   rw [Term.eta2,v1p,hh t (by simp),Option.bind_some]
   dsimp only
   unfold q64z
   rw [Option.bind_some,List.all_cons]
   dsimp only
   rw [Val.eta]
   cases hk:((V t).kind==1)with
   | false=>rw [Bool.not_false,Bool.true_or,cond_true];rfl
   | true=>
    cases hv:((V t).n==1)with
    | false=>rfl
    | true=>rw [Bool.not_true,Bool.false_or,cond_false,Bool.true_and,Bool.true_and];exact ih
 unfold q29z
 dsimp only
 rw [m0p n _ _ w n _ (by omega) hn]
 exact key w 0 h
theorem l2j{q:Query}{g:Graph}(hg:GOk g)(b:List (ByteArray×Bool))(ht: ∀t∈q.wher,tOk t)(hc: ∀t∈q.wher,tchk b t 1=0)(hw:q.wher.length≤1)(hN:q.dots.length≤100)(ha:q.arrows.length+1=q.dots.length):
  ∃N0,1100≤N0∧∀R,u0k q g R N0 (d2t q g):=by
 have hwf: ∀f,AOk g f→∀x∈f,wfI .i64 x:=by
  intro f hf x hx
  rcases hf x hx with h | h | h
  ·obtain⟨y,hy,rfl⟩:=List.mem_map.1 h
   exact(hg.ok.1.2 y hy).1
  ·obtain⟨y,hy,rfl⟩:=List.mem_map.1 h
   exact(hg.ok.2.1.2 y hy).1
  ·rw [h];unfold wfI;decide
 have hA: ∀f,AOk g f→∃N,∀n,N≤n→∀t∈q.wher,q35z n (q0r q g f,t,())=some (tval g (q0r q g f).at_ t,()):=by
  intro f hf
  refine c2f q.wher fun t h=> ?_
  have hat:atOk (q0r q g f).at_:=p1a _ _ _ (fun x hx=>hwf f hf x (List.mem_of_mem_drop hx)) (t1g _ _ _ (hwf f hf) (fun p hp=>by cases hp))
  exact(e2t hg hat b t 1 (ht t h) (hc t h)).1
 obtain⟨N1,h1⟩:=c2f (p:=fun n (f:List Int)=>AOk g f→∀t∈q.wher,q35z n (q0r q g f,t,())=some (tval g (q0r q g f).at_ t,()))
  (allF (g.nodes.map Ev.Node.id++(g.edges.map Ev.Edg.id++ [0])) (2*q.dots.length - 1)) (fun f _=>by
   by_cases hf:AOk g f
   ·obtain⟨N,h⟩:=hA f hf
    exact⟨N,fun n hn _=>h n hn⟩
   ·exact⟨0,fun n _ h=>absurd h hf⟩)
 refine⟨N1+1100,by omega,fun R f hl hf n hn=>⟨q0r q g f,s1y q g R f hN ha hl n (by omega), ?_⟩⟩
 have hm:=m1d (g.nodes.map Ev.Node.id++(g.edges.map Ev.Edg.id++ [0])) f fun x hx=>by
  rcases hf x hx with h | h | h
  ·exact List.mem_append_left _ h
  ·exact List.mem_append_right _ (List.mem_append_left _ h)
  ·rw [h];simp
 rw [hl]at hm
 exact e1k n _ q.wher _ (h1 n (by omega) f hm hf) (by omega) (by omega)
def rsK(n:Nat)(g:Graph)(kind:ByteArray):List Ev.Pair:=(((c0t n (g,kind,())).getD ([],())).1).map fun z=>z.1
theorem i1s(n:Nat)(hn:100100≤n)(g:Graph)(kind:ByteArray)(hc:chkG g=0):c0t n (g,kind,())=some (tr (rsK n g kind),())∧ ∀k,k∈rsK n g kind↔Rc (stp kind g.edges) k.p k.q:=by
 obtain⟨ks,h1,h2,h3,h4⟩:=r2z n hn g kind hc
 have e:rsK n g kind=ks:=by
  unfold rsK
  rw [h4]
  show(tr ks).map _=ks
  unfold tr
  rw [List.map_map]
  exact List.map_id' ks
 rw [e]
 exact⟨h4,h2⟩
def rk(n:Nat)(g:Graph)(a:Ev.Arrow):List Ev.Pair:=bif a.many then rsK n g a.type else []
theorem j1a{ρ:Type}(n:Nat)(hn:100100≤n)(q:Query)(g:Graph)(hc:chkG g=0)(kr:Unit→Option ρ)(K:((Ev.Graph×Unit)×(Ev.Query×Ev.Graph×Unit)×(List (List (Ev.Pair×Bool)))×Unit)→Option ρ):
  ∀(l:List Ev.Arrow) (i:Int) (o:List (List (Ev.Pair×Bool))),o.length+l.length≤1000→a0i (f0i n kr) K i l ((g,()),(q,g,()),o,())=K ((g,()),(q,g,()),o++l.map (fun a=>tr (rk n g a)),())
 | [],i,o,h=>by rw [a0i,List.map_nil,List.append_nil]
 | a::r,i,o,h=>by
  rw [List.length_cons]at h
  have ih:=fun z=>j1a n hn q g hc kr K r (i+1) (o++ [z]) (by simp;omega)
  rw [a0i,List.map_cons]
  unfold f0i at ih⊢
  dsimp only
  unfold rk
  cases hm:a.many with
  | true=>
   rw [cond_true,b0r,(i1s n hn g a.type hc).1,Option.bind_some]
   dsimp only
   rw [h0j (d0d (by simp;omega) (by omega)),ih (tr (rsK n g a.type)),List.append_assoc]
   rfl
  | false=>
   rw [cond_false,h0j (d0d (by simp;omega) (by omega)),ih [],List.append_assoc]
   rfl
theorem t2r(n:Nat)(hn:100100≤n)(q:Query)(g:Graph)(hc:chkG g=0)(ha:q.arrows.length≤100):f0j n (q,g,())=some ((q,g,q.arrows.map (fun a=>tr (rk n g a)),()),()):=by
 unfold f0j
 dsimp only
 rw [d0m n _ _ q.arrows n _ _ _ (by omega) (by omega)]
 refine Eq.trans (j1a n hn q g hc _ _ q.arrows 0 [] (by simp;omega)) ?_
 rfl
def t0t(n:Nat)(g:Graph)(ds:List Ev.Dot)(ar:List Ev.Arrow):List (Ev.Dot×Ev.Arrow×List Ev.Pair):=(ds.zip ar).map fun z=>(z.1,z.2,rk n g z.2)
def k0c(n:Nat)(q:Query)(g:Graph)(pass:List Int→Bool):List (List Int):=
 match q.dots with
 | []=> []
 | d::r=>x0y g (finF pass) d (t0t n g r q.arrows)
theorem l1v(g:Graph)(pass:List Int→Bool): ∀(rem:List (Ev.Dot×Ev.Arrow×List Ev.Pair)) (pre:List Ev.Dot) (ds es:List Int),∀w∈j0m g (finF pass) rem pre ds es,w.length=ds.length+es.length+2*rem.length
 | [],pre,ds,es,w,h=>by
  rw [j0m]at h
  unfold finF at h
  cases hp:pass (ds++es)with
  | true=>rw [hp,cond_true,List.mem_singleton]at h;rw [h];simp
  | false=>rw [hp,cond_false]at h;cases h
 | (d,a,ks)::r,pre,ds,es,w,h=>by
  rw [j0m]at h
  obtain⟨x,hx,h⟩:=List.mem_flatMap.1 h
  cases hc:dotB d x&&fitL pre ds d.name x.id with
  | false=>rw [hc,cond_false]at h;cases h
  | true=>
   rw [hc,cond_true]at h
   obtain⟨e,he,h⟩:=List.mem_flatMap.1 h
   rw [l1v g pass r _ _ _ w h]
   simp
   omega
theorem a1g(g:Graph)(pass:List Int→Bool)(d:Ev.Dot)(rem:List (Ev.Dot×Ev.Arrow×List Ev.Pair))(w:List Int)(h:w∈x0y g (finF pass) d rem):w.length=1+2*rem.length:=by
 obtain⟨x,hx,h⟩:=List.mem_flatMap.1 h
 cases hc:dotB d x&&fitL [] [] d.name x.id with
 | false=>rw [hc,cond_false]at h;cases h
 | true=>
  rw [hc,cond_true]at h
  rw [l1v g pass rem _ _ _ w h]
  simp
theorem x1g{α β:Type}: ∀(l:List α) (m:List β),l.length=m.length→(l.zip m).map (fun z=>z.1)=l∧(l.zip m).map (fun z=>z.2)=m
 | [], [],_=>⟨rfl,rfl⟩
 | [],y::m,h=>by simp at h
 | x::l, [],h=>by simp at h
 | x::l,y::m,h=>by
  have ih:=x1g l m (by simpa using h)
  simp only [List.zip_cons_cons,List.map_cons,ih.1,ih.2,and_self]
theorem j0s(q:Query)(g:Graph)(hc:chkG g=0)(pass:List Int→Bool)(N0:Nat)(hN0:1100≤N0)(hp: ∀R,u0k q g R N0 pass)(hN:q.dots.length≤100)(h1:1≤q.dots.length)(ha:q.arrows.length+1=q.dots.length)(n:Nat)(hn:N0+110000≤n)(hq:q47z n (q,())=some (0,())):
  b0p n (q,g,())=bif decide ((k0c n q g pass).length≤2000)then some (h0u ltLL (k0c n q g pass),0,())else some ([],10,()):=by
 obtain⟨h40,h60,hnod,_⟩:=f0d hc
 have hlab: ∀x∈g.nodes,x.labels.length≤100:=by
  intro x hx
  have:=(c1r hnod x hx).1
  unfold labE at this
  cases hb:decide ((x.labels.length:Int) >4)with
  | true=>rw [hb]at this;cases this
  | false=>have:=of_decide_eq_false hb;omega
 obtain⟨d,r,hd⟩: ∃d r,q.dots=d::r:=by
  cases hq:q.dots with
  | nil=>rw [hq]at h1;simp at h1
  | cons d r=>exact⟨d,r,rfl⟩
 have hlr:r.length=q.arrows.length:=by rw [hd]at ha;simp at ha;omega
 have hz:=x1g r q.arrows hlr
 have hr1:(t0t n g r q.arrows).map (fun z=>z.1)=r:=by unfold t0t;rw [List.map_map];exact hz.1
 have hr2:(t0t n g r q.arrows).map (fun z=>z.2.1)=q.arrows:=by unfold t0t;rw [List.map_map];exact hz.2
 have hrl:(t0t n g r q.arrows).length=r.length:=by rw [←List.length_map (f:=fun z=>z.1),hr1]
 have hW:k0c n q g pass=x0y g (finF pass) d (t0t n g r q.arrows):=by unfold k0c;rw [hd]
 have hE: ∀w∈k0c n q g pass,w.length≤1000000:=by
  intro w hw
  rw [hW]at hw
  rw [a1g g pass d _ w hw,hrl]
  rw [hd]at hN
  simp at hN
  omega
 obtain⟨f',_,ew⟩:=c2z (R:=q.arrows.map (fun a=>tr (rk n g a))) (hp _) hN0 hN h40 h60 hlab d (t0t n g r q.arrows) (by rw [hr1,hd]) hr2.symm (fun j z hz hm=>by
  have e:=congrArg (fun l=>l[j]?) hr2
  rw [List.getElem?_map,hz]at e
  rw [List.getElem?_map, ←e]
  show some (tr (rk n g z.2.1))=some (tr z.2.2)
  have:z∈t0t n g r q.arrows:=List.mem_of_getElem? hz
  obtain⟨y,_,rfl⟩:=List.mem_map.1 this
  rfl) n (by rw [hrl];rw [hd]at hN;simp at hN;omega) (List.replicate (2*q.dots.length - 1) 0) ([],false) ⟨by simp,rfl,by rw [Nat.zero_sub,List.take_zero]⟩ (by simp)
 rw [←hW]at ew
 unfold b0p
 dsimp only
 rw [c0f,hq,Option.bind_some]
 dsimp only
 rw [show((0:Int) !=0)=false from rfl,cond_false,b0r,s0i g n (by omega),Option.bind_some,hc]
 dsimp only
 rw [show((0:Int) !=0)=false from rfl,cond_false,t2r n (by omega) q g hc (by omega),Option.bind_some]
 dsimp only
 unfold q5z
 dsimp only
 rw [b0i (by omega) (by omega)]
 unfold cnt?
 rw [if_pos (by omega),Option.bind_some,show((q.dots.length:Int)+(q.arrows.length:Int)).toNat=2*q.dots.length - 1 by omega,h0j (d0d (by omega) (by omega)),c0f,b0r]
 rw [show(0:Int)=((0:Nat):Int)from rfl]at ew⊢
 rw [ew,Option.bind_some]
 dsimp only
 rw [Option.bind_some]
 dsimp only
 have hpe:=m1i (k0c n q g pass) ([],false) (by simp)
 rw [List.length_nil,Nat.zero_add,List.nil_append]at hpe
 cases hle:decide ((k0c n q g pass).length≤2000)with
 | true=>
  have hle:=of_decide_eq_true hle
  rw [hpe.1 hle]
  dsimp only
  rw [cond_false,t1f _ (by omega) hE]
  rfl
 | false=>
  have hle:=of_decide_eq_false hle
  rw [hpe.2 (by omega)]
  rfl
end Pure
namespace Pure
open Esp Ev Go
set_option linter.unusedSimpArgs false
set_option linter.unusedVariables false
theorem y1t(a b:Int):Pure.cmpI a b=Esp.cmpI a b:=by
 unfold Pure.cmpI Esp.cmpI
 by_cases h:a<b
 ·simp [h]
 ·by_cases h2:a>b<;>simp [h,h2]
theorem m1r(n:Nat)(x y:List Int)(hy:y.length≤1000000): ∀(r:List Int) (t s:List Int),y=t++s→x.length=t.length+r.length→
  a0i (ρ:=Int×Unit) (l0d n (fun(v13,_)=>some (v13,()))) (fun(v11,v12,_)=>bif decide (((v11.length:Int):Int)< (v12.length:Int))then some ((-1),())else some (0,())) (t.length:Int) r (x,y,())=some (h0b r s,())
 | [],t, [],h1,h2=>by
  rw [a0i]
  dsimp only
  rw [decide_eq_false (by rw [h2,h1];simp),cond_false]
  rfl
 | [],t,b::s,h1,h2=>by
  rw [a0i]
  dsimp only
  rw [decide_eq_true (by rw [h2,h1];simp;omega),cond_true]
  rfl
 | a::r,t, [],h1,h2=>by
  rw [a0i]
  unfold l0d
  dsimp only
  rw [decide_eq_true (by rw [h1];simp),cond_true]
  rfl
 | a::r,t,b::s,h1,h2=>by
  have ih:=m1r n x y hy r (t++ [b]) s (by rw [h1];simp) (by rw [h2];simp;omega)
  rw [List.length_append,List.length_singleton,Int.natCast_add]at ih
  have hb:y[t.length]? =some b:=by rw [h1];simp
  rw [a0i,h0b]
  unfold l0d at ih⊢
  dsimp only
  rw [decide_eq_false (by rw [h1];simp;omega),cond_false,a0z hb,Option.bind_some,f0p,Option.bind_some,y1t]
  dsimp only
  by_cases hc:Esp.cmpI a b=0
  ·rw [if_neg (by simpa using hc),show(Esp.cmpI a b !=0)=false by simp [hc],cond_false]
   exact ih
  ·rw [if_pos hc,show(Esp.cmpI a b !=0)=true by simpa using hc,cond_true]
theorem n0o(n:Nat)(x y:List Int)(hx:x.length≤1000)(hy:y.length≤1000)(hn:1100≤n):q11z n (x,y,())=some (h0b x y,()):=by
 unfold q11z
 dsimp only
 rw [k0m n _ _ x n _ _ (by omega) (by omega)]
 exact m1r n x y (by omega) x [] y rfl (by simp)
theorem e2n{ρ:Type}(n:Nat)(hn:1100≤n)(l:List (List Int))(hs:l.Pairwise (fun x y=>ltLL y x=false))(hl:l.length≤1000000)(hr: ∀w∈l,w.length≤1000)(t:List Int)(ht:t.length≤1000)
  (kx:(List (List Int))×(List Int)×Int×Int×Unit→Option ρ)(kr:Unit→Option ρ):
  ∀(fuel i j:Nat),i≤j→j≤l.length→j - i<fuel→(∀(q:Nat) x,l[q]? =some x→q<i→ltLL x t=true)→(∀(q:Nat) x,l[q]? =some x→j≤q→ltLL x t=false)→
   ∃k:Nat,a0k (fun rc=>e1f n rc kx kr) fuel (l,t,(l.length:Int),(i:Int),(j:Int),())=kx (l,t,(l.length:Int),(k:Int),())∧k≤l.length∧(∀(q:Nat) x,l[q]? =some x→q<k→ltLL x t=true)∧(∀(q:Nat) x,l[q]? =some x→k≤q→ltLL x t=false):=by
 intro fuel
 induction fuel with
 | zero=>intro i j _ _ hf;omega
 | succ m ih=>
  intro i j hij hj hf h1 h2
  rw [a0k]
  unfold e1f at ih⊢
  dsimp only
  by_cases hlt:i<j
  ·have hh:((i:Int)+(j:Int)) / 2=(((i+j) / 2:Nat):Int):=by omega
   rw [decide_eq_true (by omega),cond_true,half (by omega) (by omega) (by omega),hh]
   have hq:(i+j) / 2<l.length:=by omega
   rw [a0z (List.getElem?_eq_getElem hq),Option.bind_some,n0o n _ t (hr _ (List.getElem_mem hq)) ht hn,Option.bind_some]
   dsimp only
   have hp:=List.pairwise_iff_getElem.1 hs
   have el:decide (h0b l[(i+j) / 2] t<0)=ltLL l[(i+j) / 2] t:=rfl
   rw [el]
   cases hx:ltLL l[(i+j) / 2] t with
   | true=>
    rw [cond_true,b0i (by omega) (by omega)]
    refine ih ((i+j) / 2+1) j (by omega) hj (by omega) (fun q x hqx hlt2=> ?_) h2
    obtain⟨hql,rfl⟩:=List.getElem?_eq_some_iff.1 hqx
    by_cases hqe:q=(i+j) / 2
    ·subst hqe;exact hx
    ·have:=hp q ((i+j) / 2) hql hq (by omega)
     cases hz:ltLL l[q] t with
     | true=>rfl
     | false=>rw [ltLL_ok.ntrans _ _ _ this hz]at hx;cases hx
   | false=>
    rw [cond_false]
    refine ih i ((i+j) / 2) (by omega) (by omega) (by omega) h1 fun q x hqx hle=> ?_
    obtain⟨hql,rfl⟩:=List.getElem?_eq_some_iff.1 hqx
    by_cases hqe:q=(i+j) / 2
    ·subst hqe;exact hx
    ·have:=hp ((i+j) / 2) q hq hql (by omega)
     exact ltLL_ok.ntrans _ _ _ this hx
  ·have hije:i=j:=by omega
   subst hije
   rw [decide_eq_false (by omega),cond_false]
   exact⟨i,rfl,hj,h1,h2⟩
theorem u0f: ∀x:List Int,h0b x x=0
 | []=>rfl
 | a::r=>by rw [h0b,if_neg (by rw [cmpI_0.2 rfl];simp),u0f r]
theorem s2c(n:Nat)(l:List (List Int))(hs:l.Pairwise (fun x y=>ltLL y x=false))(hl:l.length≤1000000)(hr: ∀w∈l,w.length≤1000)(t:List Int)(ht:t.length≤1000)(hm:t∈l)(hn:l.length+1100≤n):
  ∃k:Nat,q3z n (l,t,())=some ((k:Int),true,()):=by
 unfold q3z
 dsimp only
 obtain⟨k,e,hk,h1,h2⟩:=e2n n (by omega) l hs hl hr t ht (fun(v10,v11,v12,v13,_)=>(bif decide ((v13:Int)<v12)then(ix v10 v13).bind fun x14=>(q11z n (x14,v11,())).bind fun(y15,_)=>some (v13,(y15:Int)==0,())else some (v13,false,()))) (fun(_)=>none) n 0 l.length (by omega) (by omega) (by omega)
  (fun q x _ h=>by omega) (fun q x hq h=>by have:=(List.getElem?_eq_some_iff.1 hq).1;omega)
 obtain⟨q,hq,hqe⟩:=List.getElem_of_mem hm
 have hkq:k≤q:=by
  cases Nat.lt_or_ge q k with
  | inr h=>exact h
  | inl h=>
   have:=h1 q _ (List.getElem?_eq_getElem hq) h
   rw [hqe,ltLL_ok.irrefl]at this
   cases this
 have hkl:k<l.length:=by omega
 have hkt:l[k]=t:=by
  have e1:=h2 k _ (List.getElem?_eq_getElem hkl) (Nat.le_refl k)
  by_cases hqk:k=q
  ·subst hqk;exact hqe
  ·have e2:=List.pairwise_iff_getElem.1 hs k q hkl hq (by omega)
   rw [hqe]at e2
   exact ltLL_ok.anti _ _ e1 e2
 refine⟨k,Eq.trans e ?_⟩
 dsimp only
 rw [decide_eq_true (by omega),cond_true,a0z (List.getElem?_eq_getElem hkl),Option.bind_some,hkt,n0o n t t ht ht (by omega),u0f]
 rfl
end Pure
namespace Pure
open Esp Ev Go
set_option linter.unusedSimpArgs false
set_option linter.unusedVariables false
theorem t2q{b:List (ByteArray×Bool)}: ∀{l:List Term},whF b l=0→∀t∈l,tchk b t 1=0
 | [],_,t,ht=>by cases ht
 | x::r,h,t,ht=>by
  rw [whF]at h
  cases hx:(tchk b x 1 !=0)with
  | true=>rw [hx,cond_true]at h;rw [h]at hx;cases hx
  | false=>
   rw [hx,cond_false]at h
   rcases List.mem_cons.1 ht with rfl | ht
   ·simpa [bne]using hx
   ·exact t2q h t ht
theorem h2f{q:Query}(h:chkQ q=0):(1≤q.dots.length∧q.dots.length≤5)∧q.wher.length≤1∧q.arrows.length+1=q.dots.length∧q.dots.all dtB=true∧q.arrows.all arB=true∧∃b,nmA q.arrows (nmD q.dots [])=some b∧∀t∈q.wher,tchk b t 1=0:=by
 unfold chkQ at h
 cases hb:((((decide (((q.dots.length:Int):Int)<1)) || (decide (((q.dots.length:Int):Int) >5))) || (decide (((q.items.length:Int):Int)<1))) || (decide (((q.items.length:Int):Int) >5))) || (decide (((q.wher.length:Int):Int) >1))with
 | true=>rw [hb,cond_true]at h;cases h
 | false=>
  rw [hb,cond_false]at h
  simp only [Bool.or_eq_false_iff,decide_eq_false_iff_not]at hb
  cases ha:((q.arrows.length:Int) !=(q.dots.length:Int) - 1)with
  | true=>rw [ha,cond_true]at h;cases h
  | false=>
   rw [ha,cond_false]at h
   have ha:(q.arrows.length:Int)=(q.dots.length:Int) - 1:=by simpa [bne]using ha
   cases hd:q.dots.all dtB with
   | false=>rw [hd]at h;cases h
   | true=>
    cases hr:q.arrows.all arB with
    | false=>rw [hd,hr]at h;cases h
    | true=>
     rw [hd,hr]at h
     cases hn:nmA q.arrows (nmD q.dots [])with
     | none=>rw [hn]at h;cases h
     | some b=>
      rw [hn]at h
      simp only [Bool.not_true,cond_false]at h
      cases hw:(whF b q.wher !=0)with
      | true=>rw [hw,cond_true]at h;rw [h]at hw;cases hw
      | false=>exact⟨by omega,by omega,by omega,rfl,rfl,b,rfl,t2q (by simpa [bne]using hw)⟩
end Pure
namespace Pure
open Esp Ev Go
set_option linter.unusedSimpArgs false
set_option linter.unusedVariables false
theorem v1e(k:Ev.Pair):Rc (stp ⟨#[]⟩ line3G.edges) k.p k.q↔k∈p123:=by
 have e: ∀{a b:Int},stp ⟨#[]⟩ line3G.edges a b↔(a=1∧b=2)∨(a=2∧b=3):=by
  intro a b
  unfold stp
  constructor
  ·rintro⟨x,hx,_,rfl,rfl⟩
   simp only [line3G,List.mem_cons,List.not_mem_nil,or_false]at hx
   rcases hx with rfl | rfl<;>simp
  ·rintro(⟨rfl,rfl⟩ | ⟨rfl,rfl⟩)
   ·exact⟨.mk 4 1 2 ⟨#[75]⟩ [],by simp [line3G],by kernel_rfl,rfl,rfl⟩
   ·exact⟨.mk 5 2 3 ⟨#[75]⟩ [],by simp [line3G],by kernel_rfl,rfl,rfl⟩
 obtain⟨p,q⟩:=k
 have hm:Ev.Pair.mk p q∈p123↔(p=1∧q=2)∨(p=1∧q=3)∨(p=2∧q=3):=by simp [p123]
 rw [hm]
 constructor
 ·intro w
  have: ∀{a b:Int},W (stp ⟨#[]⟩ line3G.edges) (fun _=>True) a b→(a=1∧b=2)∨(a=1∧b=3)∨(a=2∧b=3):=by
   intro a b w
   induction w with
   | one h=>have:=e.1 h;omega
   | two _ _ _ i j=>omega
  exact this w
 ·rintro(⟨rfl,rfl⟩ | ⟨rfl,rfl⟩ | ⟨rfl,rfl⟩)
  ·exact .one (e.2 (by simp))
  ·exact Rc.trans (c:=2) (.one (e.2 (.inl ⟨rfl,rfl⟩))) (.one (e.2 (.inr ⟨rfl,rfl⟩)))
  ·exact .one (e.2 (by simp))
def v2:Val:=((q26z (2,())).getD (.mk 0 0 ⟨#[]⟩ [],())).1
def t2:Term:=((q23z ((⟨#[60]⟩:ByteArray),([(Ev.Term.mk 2 (Ev.Val.mk 0 0 (⟨#[]⟩:ByteArray) ([]:List Ev.Val)) (⟨#[97]⟩:ByteArray) ([]:List Ev.Term)),(Ev.Term.mk 1 (Ev.Val.mk v2.kind v2.n v2.s v2.l) (⟨#[]⟩:ByteArray) ([]:List Ev.Term))]:List Ev.Term),())).getD (.mk 0 (.mk 0 0 ⟨#[]⟩ []) ⟨#[]⟩ [],())).1
def q3:Query:=(Ev.Query.mk ([(Ev.Dot.mk (⟨#[97]⟩:ByteArray) (⟨#[]⟩:ByteArray)),(Ev.Dot.mk (⟨#[]⟩:ByteArray) (⟨#[]⟩:ByteArray))]:List Ev.Dot) ([(Ev.Arrow.mk (⟨#[]⟩:ByteArray) (⟨#[]⟩:ByteArray) false true)]:List Ev.Arrow) ([(Ev.Term.mk t2.kind (Ev.Val.mk t2.v.kind t2.v.n t2.v.s t2.v.l) t2.name t2.a)]:List Ev.Term) ([(Ev.Item.mk (⟨#[110]⟩:ByteArray) (⟨#[]⟩:ByteArray) (Ev.Term.mk 2 (Ev.Val.mk 0 0 (⟨#[]⟩:ByteArray) ([]:List Ev.Val)) (⟨#[97]⟩:ByteArray) ([]:List Ev.Term)))]:List Ev.Item) false)
theorem i2k:chkQ q3=0:=by kernel_rfl
theorem s1w:gOk line3G:=by
 unfold gOk line3G
 simp [nOk,eOk,maxLen,wfI]
 decide
theorem g1l(g:Graph)(a:Ev.Arrow)(ks ks' :List Ev.Pair)(h: ∀k,k∈ks↔k∈ks')(x y:Int):n0e g a ks x y=n0e g a ks' x y:=by
 have: ∀fr tg,r0g g a ks fr tg=r0g g a ks' fr tg:=by
  intro fr tg
  unfold r0g
  rw [decide_eq_decide.2 (h (Ev.Pair.mk fr tg))]
 unfold n0e
 rw [this,this]
theorem t1m(g:Graph)(fin:List Int→List Int→List (List Int))(d d2:Ev.Dot)(a:Ev.Arrow)(ks ks' :List Ev.Pair)(h: ∀k,k∈ks↔k∈ks'):x0y g fin d [(d2,a,ks)]=x0y g fin d [(d2,a,ks')]:=by
 unfold x0y j0m j0m
 simp only [g1l g a ks ks' h]
theorem w3:x0y line3G (finF (d2t q3 line3G)) (Ev.Dot.mk ⟨#[97]⟩ ⟨#[]⟩) [(Ev.Dot.mk ⟨#[]⟩ ⟨#[]⟩,Ev.Arrow.mk ⟨#[]⟩ ⟨#[]⟩ false true,p123)]= [[1,2,0], [1,3,0]]:=by kernel_rfl
theorem eqf3(n:Nat):q4z (n+100) ([[1,2,0], [1,3,0]], [[1,2,0], [1,3,0]],())=some (true,()):=by kernel_rfl
theorem n1q: ∃N,∀n,N≤n→q14z n ()=some (true,()):=by
 have ht: ∀t∈q3.wher,tOk t:=by
  have e:q3.wher= [.mk 4 (.mk 0 0 ⟨#[]⟩ []) ⟨#[60]⟩ [.mk 2 (.mk 0 0 ⟨#[]⟩ []) ⟨#[97]⟩ [], .mk 1 v2 ⟨#[]⟩ []]]:=by kernel_rfl
  rw [e]
  intro t h
  rw [List.mem_singleton]at h
  subst h
  have ev:v2= .mk 2 2 ⟨#[]⟩ []:=by kernel_rfl
  rw [ev]
  simp [tOk,tOks,vOk,vOks,maxLen,wfI]
  decide
 obtain⟨⟨h1,h5⟩,hw,ha,_,_,b,_,hc⟩:=h2f i2k
 obtain⟨N0,h0,hp⟩:=l2j ⟨s1w,q0m⟩ b ht hc hw (by omega) ha
 refine⟨N0+110100,fun n hn=> ?_⟩
 have em:=j0s q3 line3G q0m (d2t q3 line3G) N0 h0 hp (by omega) h1 ha n (by omega) (by rw [h0q q3 n (by omega),i2k])
 have ew:k0c n q3 line3G (d2t q3 line3G)= [[1,2,0], [1,3,0]]:=
  (t1m line3G _ _ _ _ (rsK n line3G ⟨#[]⟩) p123 (fun k=>((i1s n (by omega) line3G ⟨#[]⟩ q0m).2 k).trans (v1e k))).trans w3
 rw [ew,decide_eq_true (by simp),cond_true,i1u ltLL_ok (.refl _) (by decide)]at em
 obtain⟨m,rfl⟩: ∃m,n=m+100:=⟨n - 100,by omega⟩
 unfold q14z
 dsimp only
 rw [show q26z (2,())=some (v2,())from rfl,Option.bind_some]
 dsimp only
 rw [show q23z _=some (t2,())from rfl,Option.bind_some]
 dsimp only
 rw [c2h,Option.bind_some]
 refine Eq.trans (congrArg (fun z=>Option.bind z _) em) ?_
 rw [Option.bind_some]
 dsimp only
 rw [show((0:Int)==0)=true from rfl,cond_true,eqf3]
 rfl
end Pure

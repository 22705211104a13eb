import Derived.Test.YtcloicgnanjbcaaGreatDoorPTL
import Derived.Test.YtcloicgnanjbcaaGreatDoorPRX
import Derived.Test.YtcloicgnanjbcaaGreatDoorEvSortL
noncomputable section
namespace Pure
open Esp Ev Go
set_option linter.unusedSimpArgs false
set_option linter.unusedVariables false
theorem b0t(q:Query):Ev.Query.mk q.dots q.arrows q.wher q.items q.dist=q:=rfl
theorem b0u(g:Graph):Ev.Graph.mk g.nodes g.edges g.next=g:=rfl
theorem i0n(a:Ev.Arrow):Ev.Arrow.mk a.name a.type a.back a.many=a:=rfl
theorem g0b(x:Ev.Node):Ev.Node.mk x.id x.labels x.props=x:=rfl
def dotB(d:Ev.Dot)(x:Ev.Node):Bool:=seq d.label ⟨#[]⟩ || hasL x.labels d.label
theorem k0n(q:Query)(g:Graph)(R:List t3t)(n k:Nat)(d:Ev.Dot)(x:Ev.Node)(hd:q.dots[k]? =some d)(hl:x.labels.length≤100)(hn:200≤n):
  q53z n ((k:Int),x,(q,g,R,()),())=some (dotB d x,(q,g,R,()),()):=by
 unfold q53z dotB;dsimp only;rw [a0k hd,j2r];cases h:seq d.label ⟨#[]⟩with
 | true=>rfl
 | false=>rw [cond_false,i0s _ _ n hl hn];rfl
def fitL:List Ev.Dot→List Int→ByteArray→Int→Bool
 | d::r,y::s,nm,x=>(seq d.name ⟨#[]⟩ || (!seq d.name nm || (y==x)))&&fitL r s nm x
 | _,_,_,_=>true
theorem v0m{ρ:Type}(n:Nat)(q:Query)(g:Graph)(R:List t3t)
  (kx:t1t×t0t×Unit→Option ρ)(kr:Bool×t1t×t0t×Unit→Option ρ)
  (k:Nat)(hk:k≤1000)(d:Ev.Dot)(hd:q.dots[k]? =some d)(f:List Int)(x:Int)(hx:f[k]? =some x):
  ∀(r p:List Ev.Dot) (s t:List Int),q.dots.take k=p++r→f.take k=t++s→p.length=t.length→r.length=s.length→∀fuel,r.length<fuel→
   a0a (fun rc=>p0n n rc kx kr) fuel ((k:Int),(k:Int),(p.length:Int),(q,g,R,()),f,())=bif fitL r s d.name x then kx ((q,g,R,()),f,())else kr (false,(q,g,R,()),f,())
 | [],p,s,t,h1,h2,h3,h4,fuel,hf=>by
  obtain⟨m,rfl⟩: ∃m,fuel=m+1:=⟨fuel - 1,by omega⟩;have hkl:=(k2a.1 hd).1;have e:p.length=k:=by
   have:=congrArg List.length h1;rw [k2g,l2a]at this;omega
  rw [a0a];unfold p0n;dsimp only;rw [decide_eq_false (by omega),cond_false];rfl
 | d0::r,p,s,t,h1,h2,h3,h4,fuel,hf=>by
  obtain⟨m,rfl⟩: ∃m,fuel=m+1:=⟨fuel - 1,by omega⟩;have hkl:=(k2a.1 hd).1;obtain⟨y,s,rfl⟩: ∃y s',s=y::s' :=by
   cases s with
   | nil=>simp at h4
   | cons y s' =>exact⟨y,s',rfl⟩
  have hlt:p.length<k:=by
   have:=congrArg List.length h1;rw [k2g,j2y,k2i]at this;omega
  have e1:q.dots[p.length]? =some d0:=by
   rw [←o2r hlt,h1];simp
  have e2:f[p.length]? =some y:=by
   rw [←o2r hlt,h2,h3];simp
  have ih:=v0m n q g R kx kr k hk d hd f x hx r (p++ [d0]) s (t++ [y]) (by rw [h1];simp) (by rw [h2];simp) (by simp [h3]) (by simpa using h4) m (by simp at hf;omega);rw [j2y,k2u,m2l]at ih;rw [a0a];unfold p0n;dsimp only;rw [decide_eq_true (by omega),cond_true,a0k e1,a0k hd,a0k hx,a0k e2];simp only [j2r,k2z,e2,hx,b0t,b0u];rw [a0h (by omega) (by omega)];unfold fitL;cases hn0:seq d0.name ⟨#[]⟩with
  | true=>simp only [k2e,cond_false,l2c,l2g];exact ih
  | false=>
   cases hn1:seq d0.name d.name with
   | false=>simp only [k2w,cond_true,cond_false,l2c,k2m,l2g];exact ih
   | true=>
    cases hyx:(y==x)with
    | true=>
     rw [show((y:Int) !=x)=false by simpa [bne]using hyx];simp only [k2w,k2e,cond_true,cond_false,l2c,k2m,l2s,l2g];exact ih
    | false=>
     rw [show((y:Int) !=x)=true by simp [bne,hyx]];rfl
theorem g0l(n:Nat)(q:Query)(g:Graph)(R:List t3t)(k:Nat)(hk:k≤1000)(d:Ev.Dot)(hd:q.dots[k]? =some d)(f:List Int)(x:Int)(hx:f[k]? =some x)(hn:1100≤n):
  q46z n ((k:Int),(q,g,R,()),f,())=some (fitL (q.dots.take k) (f.take k) d.name x,(q,g,R,()),f,()):=by
 have hkl:=(k2a.1 hd).1;have hfl:=(k2a.1 hx).1;unfold q46z;dsimp only;have:=v0m n q g R (fun(o19,o20,_)=>some (true,((Ev.Query.mk o19.1.dots o19.1.arrows o19.1.wher o19.1.items o19.1.dist),(Ev.Graph.mk o19.2.1.nodes o19.2.1.edges o19.2.1.next),o19.2.2.1,()),o20,())) (fun(v21,o22,o23,_)=>some (v21,((Ev.Query.mk o22.1.dots o22.1.arrows o22.1.wher o22.1.items o22.1.dist),(Ev.Graph.mk o22.2.1.nodes o22.2.1.edges o22.2.1.next),o22.2.2.1,()),o23,())) k hk d hd f x hx (q.dots.take k) [] (f.take k) [] rfl rfl rfl (by simp;omega) n (by simp;omega);refine(Eq.trans ?_ this).trans ?_
 ·rfl
 ·cases fitL (q.dots.take k) (f.take k) d.name x<;>rfl
def push(s:List t0t×Bool)(w:List Int):List t0t×Bool:=if s.1.length=2000 then(s.1,true)else(s.1++ [w],s.2)
def e0d(s:List t0t×Bool)(W:List t0t):List t0t×Bool:=W.foldl push s
theorem w0m(s:List t0t×Bool)(V W:List t0t):e0d s (V++W)=e0d (e0d s V) W:=List.foldl_append
theorem o1k{s:List t0t×Bool}(h:s.1.length≤2000)(w:List Int):(push s w).1.length≤2000:=by
 unfold push;split
 ·exact h
 ·simp;omega
theorem f0m: ∀(W:List t0t) {s:List t0t×Bool},s.1.length≤2000→(e0d s W).1.length≤2000
 | [],s,h=>h
 | w::r,s,h=>f0m r (o1k h w)
theorem g1n: ∀(W:List t0t) (s:List t0t×Bool),s.1.length≤2000→(s.1.length+W.length≤2000→e0d s W=(s.1++W,s.2))∧(2000<s.1.length+W.length→(e0d s W).2=true)
 | [],s,h=>⟨fun _=>by simp [e0d],fun h2=>by simp at h2;omega⟩
 | w::r,s,h=>by
  have ih:=g1n r (push s w) (o1k h w);have hst: ∀(W:List t0t) (s:List t0t×Bool),s.2=true→(e0d s W).2=true:=by
   intro W
   induction W with
   | nil=>exact fun s h=>h
   | cons w r ih=>exact fun s h=>ih _ (by unfold push;split;rfl;exact h)
  rw [k2i];constructor
  ·intro h2
   have e:push s w=(s.1++ [w],s.2):=by unfold push;rw [if_neg (by omega)]
   have:=ih.1 (by rw [e];simp;omega);show e0d (push s w) r=_;rw [this,e];simp
  ·intro h2
   show(e0d (push s w) r).2=true;by_cases h3:s.1.length=2000
   ·exact hst r _ (by unfold push;rw [if_pos h3])
   ·have e:push s w=(s.1++ [w],s.2):=by unfold push;rw [if_neg h3]
    exact ih.2 (by rw [e];simp;omega)
end Pure
namespace Pure
open Esp Ev Go
set_option linter.unusedSimpArgs false
set_option linter.unusedVariables false
theorem l0b{α:Type}(m:List α)(j:Nat)(y:α)(h:j<m.length):(m.set j y).take (j+1)=m.take j++ [y]:=by
 rw [List.take_add_one,p2p (k2h j)];simp [h]
structure Agr(N k:Nat)(ds es f:List Int):Prop where
 len:f.length=2*N - 1
 d:f.take k=ds
 e:(f.drop N).take (k - 1)=es
structure Mid(N k:Nat)(ds es f:List Int):Prop where
 len:f.length=2*N - 1
 d:f.take (k+1)=ds
 e:(f.drop N).take (k - 1)=es
theorem Agr.dot{N k:Nat}{ds es f:List Int}(h:Agr N k ds es f)(hk:k<N)(x:Int):Mid N k (ds++ [x]) es (f.set k x):=by
 refine⟨by simp [h.len], ?_, ?_⟩
 ·rw [l0b _ _ _ (by rw [h.len];omega),h.d]
 ·rw [List.drop_set,if_pos hk]
  exact h.e
theorem Mid.back{N k:Nat}{ds es f:List Int}{x:Int}(h:Mid N k (ds++ [x]) es f)(hk:k<N):Agr N k ds es f:=by
 refine⟨h.len, ?_,h.e⟩;have hd:=h.d;have hl:(ds++ [x]).length=k+1:=by rw [←hd,k2g,h.len];omega
 have h2:f.take k=(f.take (k+1)).take k:=by rw [q2x,p2k (by omega)]
 rw [h2,hd];rw [j2y,k2u]at hl;rw [show k=ds.length by omega];simp
theorem Mid.edge{N k:Nat}{ds es f:List Int}(h:Mid N k ds es f)(h1:1≤k)(hk:k<N)(y:Int):Agr N (k+1) ds (es++ [y]) (f.set (N+k - 1) y):=by
 refine⟨by simp [h.len], ?_, ?_⟩
 ·rw [p2p (by omega),h.d]
 ·rw [List.drop_set,if_neg (by omega),show N+k - 1 - N=k - 1 by omega,show k+1 - 1=k - 1+1 by omega,l0b _ _ _ (by rw [k2t,h.len];omega),h.e]
theorem Agr.mid{N k:Nat}{ds es f:List Int}{y:Int}(h:Agr N (k+1) ds (es++ [y]) f)(h1:1≤k)(hk:k<N):Mid N k ds es f:=by
 refine⟨h.len,h.d, ?_⟩;have he:=h.e;have hl:(es++ [y]).length=k:=by rw [←he,k2g,k2t,h.len];omega
 have h2:(f.drop N).take (k - 1)=((f.drop N).take (k+1 - 1)).take (k - 1):=by rw [q2x,p2k (by omega)]
 rw [h2,he];rw [j2y,k2u]at hl;rw [show k - 1=es.length by omega];simp
abbrev t1e:=Int×t1t×t0t×Unit×(List t0t)×t12t×Unit→Option t14t
def WOk(q:Query)(g:Graph)(R:List t3t)(self:t1e)(k:Nat)(ds es:List Int)(W:List t0t):Prop:=
 ∀(f:List Int) (s:List t0t×Bool),Agr q.dots.length k ds es f→s.1.length≤2000→∃f',Agr q.dots.length k ds es f' ∧
  self ((k:Int),(q,g,R,()),f,(),s.1,(s.2,()),())=some ((q,g,R,()),f',(),(e0d s W).1,((e0d s W).2,()),())
def okE(a:Ev.Arrow)(fr tg:Int)(y:Ev.Edg):Bool:=(((y.src:Int)==fr)&& ((y.dst:Int)==tg))&& ((seq a.type ⟨#[]⟩) || (seq y.type a.type))
theorem j0b{ρ:Type}(q:Query)(g:Graph)(R:List t3t)(self:t1e)(n:Nat)
  (k:Nat)(h1:1≤k)(hk:k<q.dots.length)(hN:q.dots.length≤1000)(a:Ev.Arrow)(fr tg:Int)(v83:List Ev.Node)(v84 v85:Int)(ds es:List Int)(Wn:Int→List t0t):
  ∀(l:List Ev.Edg) (i:Int),(∀y∈l,okE a fr tg y=true→WOk q g R self (k+1) ds (es++ [y.id]) (Wn y.id))→ ∀(f:List Int) (s:List t0t×Bool),Mid q.dots.length k ds es f→s.1.length≤2000→
   ∃f',Mid q.dots.length k ds es f' ∧∀(kr:Unit→Option ρ) (K:t18t→Option ρ),a0c (k0l self n kr) K i l ((k:Int),(q.dots.length:Int),fr,tg,v83,v84,v85,(a,()),(q,g,R,()),(),s.1,(s.2,()),f,())
    =K ((k:Int),(q.dots.length:Int),fr,tg,v83,v84,v85,(a,()),(q,g,R,()),(),(e0d s (((l.filter (okE a fr tg)).map Ev.Edg.id).flatMap Wn)).1,((e0d s (((l.filter (okE a fr tg)).map Ev.Edg.id).flatMap Wn)).2,()),f',())
 | [],i,hw,f,s,hm,hs=>⟨f,hm,fun kr K=>by rw [a0c];rfl⟩
 | y::r,i,hw,f,s,hm,hs=>by
  by_cases hy:okE a fr tg y=true
  ·have hL:f[q.dots.length+k - 1]? ≠none:=by
    rw [Ne,List.getElem?_eq_none_iff,hm.len];omega
   obtain⟨z,hz⟩:=Option.ne_none_iff_exists'.1 hL;obtain⟨f1,a1,e1⟩:=hw y (by simp) hy (f.set (q.dots.length+k - 1) y.id) s (hm.edge h1 hk y.id) hs;obtain⟨f2,a2,e2⟩:=j0b (ρ:=ρ) q g R self n k h1 hk hN a fr tg v83 v84 v85 ds es Wn r (i+1) (fun x hx=>hw x (by simp [hx])) f1 (e0d s (Wn y.id)) (a1.mid h1 hk) (f0m _ hs);refine⟨f2,a2,fun kr K=> ?_⟩;have e2:=e2 kr K;rw [o2v hy,k2l,k2n,w0m];rw [a0c];unfold k0l at e2⊢;unfold okE at hy;dsimp only;rw [hy,cond_true,a0h (x:=(q.dots.length:Int)+k) (by omega) (by omega),a0h (x:=(q.dots.length:Int)+k - 1) (by omega) (by omega),show((q.dots.length:Int)+k - 1)=((q.dots.length+k - 1:Nat):Int)by omega,a0k hz,k2z,hz];simp only [j2r,b0t,b0u,i0n];rw [a0h (by omega) (by omega),show((k:Int)+1)=((k+1:Nat):Int)by omega,e1,j2r];exact e2
  ·have hy' :okE a fr tg y=false:=by simpa using hy
   obtain⟨f2,a2,e2⟩:=j0b (ρ:=ρ) q g R self n k h1 hk hN a fr tg v83 v84 v85 ds es Wn r (i+1) (fun x hx=>hw x (by simp [hx])) f s hm hs;refine⟨f2,a2,fun kr K=> ?_⟩;have e2:=e2 kr K;rw [o2w hy];rw [a0c];unfold k0l at e2⊢;unfold okE at hy';dsimp only;rw [hy',cond_false];exact e2
def l0v(g:Graph)(a:Ev.Arrow)(ks:List Ev.Pair)(fr tg:Int):List Int:=
 bif a.many then(bif decide (Ev.Pair.mk fr tg∈ks)then [0]else [])else((g.edges.filter (okE a fr tg)).map Ev.Edg.id)
def e0t(g:Graph)(a:Ev.Arrow)(ks:List Ev.Pair)(x y:Int):List Int:=bif a.back then l0v g a ks y x else l0v g a ks x y
def BOk(q:Query)(g:Graph)(R:List t3t)(self:t1e)(k:Nat)(ds es:List Int)(x:Int)(W:List t0t):Prop:=
 (k=0∧WOk q g R self 1 (ds++ [x]) es W)∨
 (1≤k∧∃a ks last Wn,q.arrows[k - 1]? =some a∧(a.many=true→R[k - 1]? =some (tr ks))∧ds[k - 1]? =some last∧W=(e0t g a ks last x).flatMap Wn∧∀e∈e0t g a ks last x,WOk q g R self (k+1) (ds++ [x]) (es++ [e]) (Wn e))
end Pure
namespace Pure
open Esp Ev Go
set_option linter.unusedSimpArgs false
set_option linter.unusedVariables false
theorem x0o{ρ:Type}(q:Query)(g:Graph)(R:List t3t)(self:t1e)(n:Nat)(hn:1100≤n)
  (kx:t1t×Unit×(List t0t)×t12t×t0t×Unit→Option ρ)(kr:Unit→Option ρ)
  (k:Nat)(hk:k<q.dots.length)(hN:q.dots.length≤1000)(d:Ev.Dot)(hd:q.dots[k]? =some d)(ds es:List Int)(hds:ds.length=k)
  (h40:g.nodes.length≤40)(h60:g.edges.length≤60)(hlab: ∀x∈g.nodes,x.labels.length≤100)(Wx:Ev.Node→List t0t)
  (hb: ∀x∈g.nodes,(dotB d x&&fitL (q.dots.take k) ds d.name x.id)=true→BOk q g R self k ds es x.id (Wx x)):
  ∀(r p:List Ev.Node),g.nodes=p++r→∀(f:List Int) (s:List t0t×Bool) (fuel:Nat),Agr q.dots.length k ds es f→s.1.length≤2000→r.length<fuel→
   ∃f',Agr q.dots.length k ds es f' ∧a0a (fun rc=>e0i self n rc kx kr) fuel ((k:Int),(q.dots.length:Int),g.nodes,(g.nodes.length:Int),(p.length:Int),(q,g,R,()),(),s.1,(s.2,()),f,())
    =kx ((q,g,R,()),(),(e0d s (r.flatMap fun x=>bif dotB d x&&fitL (q.dots.take k) ds d.name x.id then Wx x else [])).1,((e0d s (r.flatMap fun x=>bif dotB d x&&fitL (q.dots.take k) ds d.name x.id then Wx x else [])).2,()),f',())
 | [],p,hp,f,s,fuel,ha,hs,hf=>by
  obtain⟨m,rfl⟩: ∃m,fuel=m+1:=⟨fuel - 1,by omega⟩;refine⟨f,ha, ?_⟩;rw [a0a];unfold e0i;dsimp only;rw [decide_eq_false (by rw [hp];simp),cond_false];rfl
 | x::r,p,hp,f,s,fuel,ha,hs,hf=>by
  obtain⟨m,rfl⟩: ∃m,fuel=m+1:=⟨fuel - 1,by omega⟩;have hxm:x∈g.nodes:=by rw [hp];simp
  have hx:g.nodes[p.length]? =some x:=by rw [hp];simp
  have hlt:p.length<g.nodes.length:=(k2a.1 hx).1;have hfl:k<f.length:=by rw [ha.len];omega
  obtain⟨z,hz⟩: ∃z,f[k]? =some z:=⟨f[k],by simp [hfl]⟩;have hmid:=ha.dot hk x.id;have hf1:(f.set k x.id)[k]? =some x.id:=by simp [hfl]
  have htk:(f.set k x.id).take k=ds:=by rw [p2p (k2h k),ha.d]
  have IH:=fun f s=>x0o q g R self n hn kx kr k hk hN d hd ds es hds h40 h60 hlab Wx hb r (p++ [x]) (by rw [hp];simp) f s m;rw [j2y,k2u,m2l]at IH;have hrm:r.length<m:=by simp at hf;omega
  have hw:IntKind.wrap .i64 ((p.length:Int)+1)=(p.length:Int)+1:=a0h (by omega) (by omega);rw [k2n,a0a];generalize a0a (fun rc=>e0i self n rc kx kr) m=I at IH⊢;cases hdx:dotB d x with
  | false=>
   obtain⟨f2,a2,e2⟩:=IH f s ha hs hrm;refine⟨f2,a2, ?_⟩;unfold e0i;dsimp only;rw [decide_eq_true (by omega),cond_true,a0k hx,j2r];simp only [b0t,b0u,g0b];rw [k0n q g R n k d x hd (hlab x hxm) (by omega),j2r];dsimp only;rw [hdx,k2w,cond_true,hw,m2d,cond_false,l2l];exact e2
  | true=>
   cases hfx:fitL (q.dots.take k) ds d.name x.id with
   | false=>
    obtain⟨f2,a2,e2⟩:=IH (f.set k x.id) s (hmid.back hk) hs hrm;refine⟨f2,a2, ?_⟩;unfold e0i;dsimp only;rw [decide_eq_true (by omega),cond_true,a0k hx,j2r];simp only [b0t,b0u,g0b];rw [k0n q g R n k d x hd (hlab x hxm) (by omega),j2r];dsimp only;rw [hdx,k2e,cond_false,a0k hz,j2r,k2z,hz,j2r,g0l n q g R k (by omega) d hd _ x.id hf1 hn,j2r,htk,hfx];dsimp only;rw [k2w,cond_true,hw,l2g,cond_false,l2l];exact e2
   | true=>
    rw [l2g,cond_true,w0m];have hB:=hb x hxm (by rw [hdx,hfx];rfl);rcases hB with⟨hk0,hW⟩ | ⟨hk1,a,ks,last,Wn,ea,eR,el,eW,hW⟩
    ·subst hk0
     obtain⟨f1,a1,e1⟩:=hW (f.set 0 x.id) s ⟨hmid.len,hmid.d,hmid.e⟩ hs;have a1' :Mid q.dots.length 0 (ds++ [x.id]) es f1:=⟨a1.len,a1.d,a1.e⟩;obtain⟨f2,a2,e2⟩:=IH f1 (e0d s (Wx x)) (a1'.back hk) (f0m _ hs) hrm;refine⟨f2,a2, ?_⟩;unfold e0i;dsimp only;rw [decide_eq_true (by omega),cond_true,a0k hx,j2r];simp only [b0t,b0u,g0b];rw [k0n q g R n 0 d x hd (hlab x hxm) (by omega),j2r];dsimp only;rw [hdx,k2e,cond_false,a0k hz,j2r,k2z,hz,j2r,g0l n q g R 0 (by omega) d hd _ x.id hf1 hn,j2r,htk,hfx];rw [k2e,cond_false,show(((0:Nat):Int)==0)=true from rfl,cond_true]
     rw [show(((1:Nat):Int))=1 from rfl]at e1
     rw [e1,j2r];rw [hw];exact e2
    ·have hlast:(f.set k x.id)[k - 1]? =some last:=by
      have:=congrArg (fun l:List Int=>l[k - 1]?) hmid.d;replace this:((f.set k x.id).take (k+1))[k - 1]? =(ds++ [x.id])[k - 1]? :=this;rw [o2r (by omega),m2q (by omega),el]at this;exact this
     have hwk:IntKind.wrap .i64 ((k:Int) - 1)=((k - 1:Nat):Int):=by rw [a0h (by omega) (by omega)];omega
     have hwE:IntKind.wrap .i64 (IntKind.wrap .i64 ((q.dots.length:Int)+k) - 1)=((q.dots.length+k - 1:Nat):Int):=by rw [a0h (x:=(q.dots.length:Int)+k) (by omega) (by omega),a0h (by omega) (by omega)];omega
     have hw1:IntKind.wrap .i64 ((k:Int)+1)=((k+1:Nat):Int):=by rw [a0h (by omega) (by omega)];omega
     have hk0:((k:Int)==0)=false:=by rw [beq_eq_false_iff_ne];omega
     obtain⟨zE,hzE⟩: ∃z,(f.set k x.id)[q.dots.length+k - 1]? =some z:=by
      have:q.dots.length+k - 1< (f.set k x.id).length:=by rw [hmid.len];omega
      exact⟨_,j2x this⟩
     unfold e0t at eW hW;cases hbk:a.back<;>cases hmy:a.many<;>rw [hbk]at eW hW<;>simp only [cond_true,cond_false]at eW hW<;>unfold l0v at eW hW<;>rw [hmy]at eW hW<;>simp only [cond_true,cond_false]at eW hW
     ·obtain⟨f1,a1,e1⟩:=j0b q g R self n (ρ:=ρ) k hk1 hk hN a last x.id g.nodes (g.nodes.length:Int) (p.length:Int) (ds++ [x.id]) es Wn g.edges 0 (fun y hy hok=>hW _ (k2s.2 ⟨y,n2f.2 ⟨hy,hok⟩,rfl⟩)) (f.set k x.id) s hmid hs
      obtain⟨f2,a2,e2⟩:=IH f1 (e0d s (Wx x)) (a1.back hk) (f0m _ hs) hrm;refine⟨f2,a2, ?_⟩;unfold e0i;dsimp only;rw [decide_eq_true (by omega),cond_true,a0k hx,j2r];simp only [b0t,b0u,g0b];rw [k0n q g R n k d x hd (hlab x hxm) (by omega),j2r];dsimp only;rw [hdx,k2e,cond_false,a0k hz,j2r,k2z,hz,j2r,g0l n q g R k (by omega) d hd _ x.id hf1 hn,j2r,htk,hfx];dsimp only;rw [k2e,cond_false,hk0,cond_false,hwk,a0k ea,j2r,a0k hlast,j2r,k2z,hlast,j2r];simp only [i0n];rw [hbk,cond_false,hmy,cond_false];rw [e1a self n _ _ g.edges n _ _ _ _ _ _ _ _ _ _ _ _ _ (by omega) (by omega)];rw [←eW]at e1;rw [e1];dsimp only;rw [hw];exact e2
     ·by_cases hmem:Ev.Pair.mk last x.id∈ks
      ·rw [decide_eq_true hmem]at eW hW
       simp only [cond_true,k2n,m2v,l2a]at eW;obtain⟨f1,a1,e1⟩:=hW 0 (by simp) ((f.set k x.id).set (q.dots.length+k - 1) 0) s (hmid.edge hk1 hk 0) hs;obtain⟨f2,a2,e2⟩:=IH f1 (e0d s (Wx x)) ((a1.mid hk1 hk).back hk) (f0m _ hs) hrm;refine⟨f2,a2, ?_⟩;unfold e0i;dsimp only;rw [decide_eq_true (by omega),cond_true,a0k hx,j2r];simp only [b0t,b0u,g0b];rw [k0n q g R n k d x hd (hlab x hxm) (by omega),j2r];dsimp only;rw [hdx,k2e,cond_false,a0k hz,j2r,k2z,hz,j2r,g0l n q g R k (by omega) d hd _ x.id hf1 hn,j2r,htk,hfx];dsimp only;rw [k2e,cond_false,hk0,cond_false,hwk,a0k ea,j2r,a0k hlast,j2r,k2z,hlast,j2r];simp only [i0n];rw [hbk,cond_false,hmy,cond_true];rw [a0k (eR hmy),j2r,j0r,decide_eq_true hmem,cond_true,hwE,a0k hzE,j2r,k2z,hzE,j2r,hw1,e1,j2r,hw, ←eW];exact e2
      ·rw [decide_eq_false hmem]at eW
       simp only [cond_false,m2v]at eW;obtain⟨f2,a2,e2⟩:=IH (f.set k x.id) s (hmid.back hk) hs hrm;refine⟨f2,a2, ?_⟩;unfold e0i;dsimp only;rw [decide_eq_true (by omega),cond_true,a0k hx,j2r];simp only [b0t,b0u,g0b];rw [k0n q g R n k d x hd (hlab x hxm) (by omega),j2r];dsimp only;rw [hdx,k2e,cond_false,a0k hz,j2r,k2z,hz,j2r,g0l n q g R k (by omega) d hd _ x.id hf1 hn,j2r,htk,hfx];dsimp only;rw [k2e,cond_false,hk0,cond_false,hwk,a0k ea,j2r,a0k hlast,j2r,k2z,hlast,j2r];simp only [i0n];rw [hbk,cond_false,hmy,cond_true];rw [a0k (eR hmy),j2r,j0r,decide_eq_false hmem,cond_false,hw,eW];exact e2
     ·obtain⟨f1,a1,e1⟩:=j0b q g R self n (ρ:=ρ) k hk1 hk hN a x.id last g.nodes (g.nodes.length:Int) (p.length:Int) (ds++ [x.id]) es Wn g.edges 0 (fun y hy hok=>hW _ (k2s.2 ⟨y,n2f.2 ⟨hy,hok⟩,rfl⟩)) (f.set k x.id) s hmid hs
      obtain⟨f2,a2,e2⟩:=IH f1 (e0d s (Wx x)) (a1.back hk) (f0m _ hs) hrm;refine⟨f2,a2, ?_⟩;unfold e0i;dsimp only;rw [decide_eq_true (by omega),cond_true,a0k hx,j2r];simp only [b0t,b0u,g0b];rw [k0n q g R n k d x hd (hlab x hxm) (by omega),j2r];dsimp only;rw [hdx,k2e,cond_false,a0k hz,j2r,k2z,hz,j2r,g0l n q g R k (by omega) d hd _ x.id hf1 hn,j2r,htk,hfx];dsimp only;rw [k2e,cond_false,hk0,cond_false,hwk,a0k ea,j2r,a0k hlast,j2r,k2z,hlast,j2r];simp only [i0n];rw [hbk,cond_true,hmy,cond_false];rw [e1a self n _ _ g.edges n _ _ _ _ _ _ _ _ _ _ _ _ _ (by omega) (by omega)];rw [←eW]at e1;rw [e1];dsimp only;rw [hw];exact e2
     ·by_cases hmem:Ev.Pair.mk x.id last∈ks
      ·rw [decide_eq_true hmem]at eW hW
       simp only [cond_true,k2n,m2v,l2a]at eW;obtain⟨f1,a1,e1⟩:=hW 0 (by simp) ((f.set k x.id).set (q.dots.length+k - 1) 0) s (hmid.edge hk1 hk 0) hs;obtain⟨f2,a2,e2⟩:=IH f1 (e0d s (Wx x)) ((a1.mid hk1 hk).back hk) (f0m _ hs) hrm;refine⟨f2,a2, ?_⟩;unfold e0i;dsimp only;rw [decide_eq_true (by omega),cond_true,a0k hx,j2r];simp only [b0t,b0u,g0b];rw [k0n q g R n k d x hd (hlab x hxm) (by omega),j2r];dsimp only;rw [hdx,k2e,cond_false,a0k hz,j2r,k2z,hz,j2r,g0l n q g R k (by omega) d hd _ x.id hf1 hn,j2r,htk,hfx];dsimp only;rw [k2e,cond_false,hk0,cond_false,hwk,a0k ea,j2r,a0k hlast,j2r,k2z,hlast,j2r];simp only [i0n];rw [hbk,cond_true,hmy,cond_true];rw [a0k (eR hmy),j2r,j0r,decide_eq_true hmem,cond_true,hwE,a0k hzE,j2r,k2z,hzE,j2r,hw1,e1,j2r,hw, ←eW];exact e2
      ·rw [decide_eq_false hmem]at eW
       simp only [cond_false,m2v]at eW;obtain⟨f2,a2,e2⟩:=IH (f.set k x.id) s (hmid.back hk) hs hrm;refine⟨f2,a2, ?_⟩;unfold e0i;dsimp only;rw [decide_eq_true (by omega),cond_true,a0k hx,j2r];simp only [b0t,b0u,g0b];rw [k0n q g R n k d x hd (hlab x hxm) (by omega),j2r];dsimp only;rw [hdx,k2e,cond_false,a0k hz,j2r,k2z,hz,j2r,g0l n q g R k (by omega) d hd _ x.id hf1 hn,j2r,htk,hfx];dsimp only;rw [k2e,cond_false,hk0,cond_false,hwk,a0k ea,j2r,a0k hlast,j2r,k2z,hlast,j2r];simp only [i0n];rw [hbk,cond_true,hmy,cond_true];rw [a0k (eR hmy),j2r,j0r,decide_eq_false hmem,cond_false,hw,eW];exact e2
end Pure
namespace Pure
open Esp Ev Go
set_option linter.unusedSimpArgs false
set_option linter.unusedVariables false
theorem x1n(f:List Int)(s:List t0t×Bool)(hs:s.1.length≤2000)(hf:f.length≤1000):q84z (f,(),s.1,(s.2,()),())=some (f,(),(push s f).1,((push s f).2,()),()):=by
 unfold q84z push;dsimp only;by_cases h:s.1.length=2000
 ·rw [if_pos h,show((s.1.length:Int)==2000)=true by rw [h];rfl,cond_true]
 ·rw [if_neg h,show((s.1.length:Int)==2000)=false by rw [beq_eq_false_iff_ne];omega,cond_false,y0r f hf,j2r]
  dsimp only;rw [d0l];unfold room;rw [j2s];constructor<;>exact k2k (by simp;omega)
def AOk(g:Graph)(f:List Int):Prop:=∀x∈f,x∈g.nodes.map Ev.Node.id∨x∈g.edges.map Ev.Edg.id∨x=0
theorem AOk.app{g:Graph}{a b:List Int}(ha:AOk g a)(hb:AOk g b):AOk g (a++b):=by
 intro x hx;rcases l2y.1 hx with h | h
 ·exact ha x h
 ·exact hb x h
theorem AOk.one{g:Graph}{y:Int}(h:y∈g.nodes.map Ev.Node.id∨y∈g.edges.map Ev.Edg.id∨y=0):AOk g [y]:=by
 intro x hx;rw [l2t]at hx;rw [hx];exact h
def v0j(q:Query)(g:Graph)(R:List t3t)(N0:Nat)(pass:List Int→Bool):Prop:=
 ∀(f:List Int),f.length=2*q.dots.length - 1→AOk g f→∀n,N0≤n→∃y:Envr,q54z n ((q,g,R,()),f,())=some (y,(q,g,R,()),f,())∧q70z n (y,q.wher,())=some (pass f,())
theorem n1o(y:Envr):Envr.mk (Graph.mk y.g.nodes y.g.edges y.g.next) y.at_=y:=rfl
def finF(pass:List Int→Bool)(ds es:List Int):List t0t:=bif pass (ds++es)then [ds++es]else []
theorem u1b{q:Query}{g:Graph}{R:List t3t}{N0:Nat}{pass:List Int→Bool}(hp:v0j q g R N0 pass)(hN:q.dots.length≤100)(h1:1≤q.dots.length)(ds es:List Int)(hd:AOk g ds)(he:AOk g es)(m:Nat)(hm:N0+1≤m):
  WOk q g R (q6z m) q.dots.length ds es (finF pass ds es):=by
 intro f s ha hs;obtain⟨n,rfl⟩: ∃n,m=n+1:=⟨m - 1,by omega⟩;have ef:f=ds++es:=by
  have e2:=ha.e;rw [n2q (by rw [k2t,ha.len];omega)]at e2;rw [←ha.d, ←e2,n2b]
 obtain⟨y,ey,ep⟩:=hp f ha.len (by rw [ef];exact hd.app he) n (by omega);refine⟨f,ha, ?_⟩;rw [q6z];unfold u1s;dsimp only;rw [show((q.dots.length:Int)==(q.dots.length:Int))=true from beq_self_eq_true _,cond_true]
 simp only [b0t,b0u,ey,j2r,n1o,ep,x0c];unfold finF;rw [←ef];cases hpf:pass f with
 | false=>rfl
 | true=>
  rw [cond_true,cond_true,x1n f s hs (by rw [ha.len];omega)];rfl
def g0h(g:Graph)(fin:List Int→List Int→List t0t):List t13t→List Ev.Dot→List Int→List Int→List t0t
 | [],_,ds,es=>fin ds es
 | (d,a,ks)::r,pre,ds,es=>g.nodes.flatMap fun x=>bif dotB d x&&fitL pre ds d.name x.id then(e0t g a ks (ds.getLast?.getD 0) x.id).flatMap (fun e=>g0h g fin r (pre++ [d]) (ds++ [x.id]) (es++ [e]))else []
def p0j(g:Graph)(fin:List Int→List Int→List t0t)(d:Ev.Dot)(rem:List t13t):List t0t:=
 g.nodes.flatMap fun x=>bif dotB d x&&fitL [] [] d.name x.id then g0h g fin rem [d] [x.id] []else []
theorem p1l{q:Query}{g:Graph}{R:List t3t}(n:Nat)(hn:1100≤n)(k:Nat)(hk:k<q.dots.length)(hN:q.dots.length≤100)(d:Ev.Dot)(hd:q.dots[k]? =some d)(ds es:List Int)(hds:ds.length=k)
  (h40:g.nodes.length≤40)(h60:g.edges.length≤60)(hlab: ∀x∈g.nodes,x.labels.length≤100)(Wx:Ev.Node→List t0t)
  (hb: ∀x∈g.nodes,(dotB d x&&fitL (q.dots.take k) ds d.name x.id)=true→BOk q g R (q6z n) k ds es x.id (Wx x)):
  WOk q g R (q6z (n+1)) k ds es (g.nodes.flatMap fun x=>bif dotB d x&&fitL (q.dots.take k) ds d.name x.id then Wx x else []):=by
 intro f s ha hs;rw [q6z];unfold u1s;dsimp only;rw [show((k:Int)==(q.dots.length:Int))=false by rw [beq_eq_false_iff_ne];omega,cond_false];obtain⟨f',a',e'⟩:=x0o q g R (q6z n) n hn (fun(o131,o132,o133,o134,o135,_)=>some (((Ev.Query.mk o131.1.dots o131.1.arrows o131.1.wher o131.1.items o131.1.dist),(Ev.Graph.mk o131.2.1.nodes o131.2.1.edges o131.2.1.next),o131.2.2.1,()),o135,(()),o133,(o134.1,()),())) (fun(_)=>none) k hk (by omega) d hd ds es hds h40 h60 hlab Wx hb g.nodes [] rfl f s n ha hs (by omega);exact⟨f',a',e'⟩
theorem u1t{g:Graph}{a:Ev.Arrow}{ks:List Ev.Pair}{x y e:Int}(h:e∈e0t g a ks x y):e∈g.edges.map Ev.Edg.id∨e=0:=by
 have key: ∀{fr tg:Int},e∈l0v g a ks fr tg→e∈g.edges.map Ev.Edg.id∨e=0:=by
  intro fr tg h;unfold l0v at h;cases hm:a.many with
  | true=>
   rw [hm,cond_true]at h;cases hd:decide (Ev.Pair.mk fr tg∈ks)with
   | true=>rw [hd,cond_true,l2t]at h;exact .inr h
   | false=>rw [hd,cond_false]at h;cases h
  | false=>
   rw [hm,cond_false]at h;obtain⟨z,hz,rfl⟩:=k2s.1 h;exact .inl (k2s.2 ⟨z,(n2f.1 hz).1,rfl⟩)
 unfold e0t at h;cases hb:a.back with
 | true=>rw [hb,cond_true]at h;exact key h
 | false=>rw [hb,cond_false]at h;exact key h
theorem f1h{q:Query}{g:Graph}{R:List t3t}{N0:Nat}{pass:List Int→Bool}(hp:v0j q g R N0 pass)(hN0:1100≤N0)(hN:q.dots.length≤100)
  (h40:g.nodes.length≤40)(h60:g.edges.length≤60)(hlab: ∀x∈g.nodes,x.labels.length≤100):
  ∀(rem:List t13t) (pre:List Ev.Dot) (ar:List Ev.Arrow) (ds es:List Int),q.dots=pre++rem.map (fun z=>z.1)→q.arrows=ar++rem.map (fun z=>z.2.1)→pre.length=ar.length+1→ds.length=pre.length→AOk g ds→AOk g es→
   (∀j z,rem[j]? =some z→z.2.1.many=true→R[ar.length+j]? =some (tr z.2.2))→ ∀m,N0+1+rem.length≤m→WOk q g R (q6z m) pre.length ds es (g0h g (finF pass) rem pre ds es)
 | [],pre,ar,ds,es,h1,h2,h3,h4,h5,h6,h7,m,hm=>by
  have e:pre=q.dots:=by rw [h1];simp
  rw [g0h,e];exact u1b hp hN (by rw [←e];omega) ds es h5 h6 m (by simpa using hm)
 | (d,a,ks)::r,pre,ar,ds,es,h1,h2,h3,h4,h5,h6,h7,m,hm=>by
  obtain⟨n,rfl⟩: ∃n,m=n+1:=⟨m - 1,by omega⟩;rw [k2i]at hm;have hl:pre.length<q.dots.length:=by rw [h1];simp
  have ed:q.dots[pre.length]? =some d:=by rw [h1];simp
  have ea:q.arrows[pre.length - 1]? =some a:=by rw [h2,show pre.length - 1=ar.length by omega];simp
  have et:q.dots.take pre.length=pre:=by rw [h1];simp
  have:=p1l (R:=R) n (by omega) pre.length hl hN d ed ds es h4 h40 h60 hlab (fun x=>(e0t g a ks (ds.getLast?.getD 0) x.id).flatMap (fun e=>g0h g (finF pass) r (pre++ [d]) (ds++ [x.id]) (es++ [e]))) ?_
  ·rw [et]at this
   exact this
  ·intro x hx hc
   refine .inr ⟨by omega,a,ks,ds.getLast?.getD 0,fun e=>g0h g (finF pass) r (pre++ [d]) (ds++ [x.id]) (es++ [e]),ea,fun hm=> ?_, ?_,rfl,fun e he=> ?_⟩
   ·have:=h7 0 (d,a,ks) rfl hm
    rw [show pre.length - 1=ar.length by omega];exact this
   ·rw [show pre.length - 1=ds.length - 1 by omega,q2b,j2x (by omega)]
    rfl
   ·have hw:=f1h hp hN0 hN h40 h60 hlab r (pre++ [d]) (ar++ [a]) (ds++ [x.id]) (es++ [e]) (by rw [h1];simp) (by rw [h2];simp) (by simp;omega) (by simp [h4])
     (h5.app (AOk.one (.inl (k2s.2 ⟨x,hx,rfl⟩))))
     (h6.app (AOk.one (.inr (u1t he))))
     (by intro j z hz hm;have:=h7 (j+1) z (by simpa using hz) hm;rw [j2y,k2u,show ar.length+1+j=ar.length+(j+1)by omega];exact this) n (by omega)
    rw [j2y,k2u]at hw;exact hw
theorem t1a{q:Query}{g:Graph}{R:List t3t}{N0:Nat}{pass:List Int→Bool}(hp:v0j q g R N0 pass)(hN0:1100≤N0)(hN:q.dots.length≤100)
  (h40:g.nodes.length≤40)(h60:g.edges.length≤60)(hlab: ∀x∈g.nodes,x.labels.length≤100)(d:Ev.Dot)(rem:List t13t)(h1:q.dots=d::rem.map (fun z=>z.1))(h2:q.arrows=rem.map (fun z=>z.2.1))
  (h7: ∀(j:Nat) (z:Ev.Dot×Ev.Arrow×List Ev.Pair),rem[j]? =some z→z.2.1.many=true→R[j]? =some (tr z.2.2))(m:Nat)(hm:N0+2+rem.length≤m):
  WOk q g R (q6z m) 0 [] [] (p0j g (finF pass) d rem):=by
 obtain⟨n,rfl⟩: ∃n,m=n+1:=⟨m - 1,by omega⟩;have:=p1l (R:=R) n (by omega) 0 (by rw [h1];simp) hN d (by rw [h1];rfl) [] [] rfl h40 h60 hlab (fun x=>g0h g (finF pass) rem [d] [x.id] []) ?_
 ·exact this
 ·intro x hx hc
  refine .inl ⟨rfl, ?_⟩;exact f1h hp hN0 hN h40 h60 hlab rem [d] [] [x.id] [] (by rw [h1];rfl) (by rw [h2];rfl) rfl rfl (by intro y hy;rw [l2t]at hy;subst hy;exact .inl (k2s.2 ⟨x,hx,rfl⟩)) (by intro y hy;cases hy)
   (by intro j z hz hm;rw [l2v,l2d];exact h7 j z hz hm) n (by omega)
end Pure
namespace Pure
open Esp Ev Go
set_option linter.unusedSimpArgs false
set_option linter.unusedVariables false
def envD:List Ev.Dot→List Int→List t2t→List t2t
 | d::r,y::s,at_=>envD r s (bif !(seq d.name ⟨#[]⟩)then(bif y !=0 then a0e .str .i64 at_ d.name y else at_)else at_)
 | _,_,at_=>at_
def envA:List Ev.Arrow→List Int→List t2t→List t2t
 | a::r,y::s,at_=>envA r s (bif !(seq a.name ⟨#[]⟩)then a0e .str .i64 at_ a.name y else at_)
 | _,_,at_=>at_
theorem w1c{ρ:Type}(n:Nat)(kr:Unit→Option ρ)(K:t21t→Option ρ)(e:Envr)(q:Query)(g:Graph)(R:List t3t)(f:List Int):
  ∀(l:List Ev.Dot) (t s:List Int) (at_:List t2t),f=t++s→l.length≤s.length→a0c (j0j n kr) K (t.length:Int) l ((e,()),at_,(q,g,R,()),f,())=K ((e,()),envD l s at_,(q,g,R,()),f,())
 | [],t,s,at_,hf,hl=>by rw [a0c,envD];intro a b c d h;cases h
 | d::r,t,s,at_,hf,hl=>by
  obtain⟨y,s,rfl⟩: ∃y s',s=y::s' :=by
   cases s with
   | nil=>simp at hl
   | cons y s' =>exact⟨y,s',rfl⟩
  have hy:f[t.length]? =some y:=by rw [hf];simp
  have ih:=fun at_=>w1c n kr K e q g R f r (t++ [y]) s at_ (by rw [hf];simp) (by simpa using hl);rw [j2y,k2u,m2l]at ih;rw [a0c,envD];unfold j0j at ih⊢;dsimp only;cases hn:seq d.name ⟨#[]⟩with
  | true=>rw [k2e,cond_false,cond_false];exact ih _
  | false=>
   rw [k2w,cond_true,cond_true,a0k hy,j2r,k2z,hy,j2r];cases h0:(y !=0)with
   | true=>rw [cond_true,cond_true,j2r,j2r];exact ih _
   | false=>rw [cond_false,cond_false];exact ih _
theorem w1m{ρ:Type}(n:Nat)(kr:Unit→Option ρ)(K:t21t→Option ρ)(e:Envr)(q:Query)(hN:q.dots.length≤100)(g:Graph)(R:List t3t)(f:List Int)(h0:f.length≤1000):
  ∀(l:List Ev.Arrow) (t s:List Int) (at_:List t2t),f=t++s→q.dots.length≤t.length→l.length≤s.length→a0c (g0w n kr) K ((t.length:Int) - q.dots.length) l ((e,()),at_,(q,g,R,()),f,())=K ((e,()),envA l s at_,(q,g,R,()),f,())
 | [],t,s,at_,hf,ht,hl=>by rw [a0c,envA];intro a b c d h;cases h
 | d::r,t,s,at_,hf,ht,hl=>by
  obtain⟨y,s,rfl⟩: ∃y s',s=y::s' :=by
   cases s with
   | nil=>simp at hl
   | cons y s' =>exact⟨y,s',rfl⟩
  have hy:f[t.length]? =some y:=by rw [hf];simp
  have htl:t.length≤1000:=by rw [hf]at h0;simp at h0;omega
  have ih:=fun at_=>w1m n kr K e q hN g R f h0 r (t++ [y]) s at_ (by rw [hf];simp) (by simp;omega) (by simpa using hl);rw [j2y,k2u,m2l,show((t.length:Int)+((1:Nat):Int) - (q.dots.length:Int))=(t.length:Int) - q.dots.length+1 by omega]at ih;rw [a0c,envA];unfold g0w at ih⊢;dsimp only;cases hn:seq d.name ⟨#[]⟩with
  | true=>rw [k2e,cond_false,cond_false];exact ih _
  | false=>
   rw [k2w,cond_true,cond_true,a0h (by omega) (by omega),show((q.dots.length:Int)+((t.length:Int) - q.dots.length))=(t.length:Int)by omega,a0k hy,j2r,k2z,hy,j2r];exact ih _
theorem y1w{ρ:Type}(n:Nat)(kr:Unit→Option ρ)(K:t21t→Option ρ)(e:Envr)(q:Query)(hN:q.dots.length≤100)(g:Graph)(R:List t3t)(f:List Int)(h0:f.length≤1000)
  (l:List Ev.Arrow)(t s:List Int)(at_:List t2t)(hf:f=t++s)(ht:q.dots.length≤t.length)(hl:l.length≤s.length)(i:Int)(hi:i=(t.length:Int) - q.dots.length):a0c (g0w n kr) K i l ((e,()),at_,(q,g,R,()),f,())=K ((e,()),envA l s at_,(q,g,R,()),f,()):=by
 subst hi;exact w1m n kr K e q hN g R f h0 l t s at_ hf ht hl
def q0f(q:Query)(g:Graph)(f:List Int):Envr:=⟨g,envA q.arrows (f.drop q.dots.length) (envD q.dots f [])⟩
theorem a2i(q:Query)(g:Graph)(R:List t3t)(f:List Int)(hN:q.dots.length≤100)(ha:q.arrows.length+1=q.dots.length)(hf:f.length=2*q.dots.length - 1)(n:Nat)(hn:200≤n):
  q54z n ((q,g,R,()),f,())=some (q0f q g f,(q,g,R,()),f,()):=by
 unfold q54z;dsimp only;rw [k1z n _ _ q.dots n _ _ _ _ (by omega) (by omega)];refine Eq.trans (w1c n _ _ ⟨⟨[], [],0⟩, []⟩ q g R f q.dots [] f [] rfl (by omega)) ?_;dsimp only;rw [k1o n _ _ q.arrows n _ _ _ _ (by omega) (by omega)];refine Eq.trans (y1w n _ _ ⟨⟨[], [],0⟩, []⟩ q hN g R f (by omega) q.arrows (f.take q.dots.length) (f.drop q.dots.length) (envD q.dots f []) (n2b _ _).symm (by rw [k2g];omega) (by rw [k2t];omega) 0 (by rw [k2g];omega)) ?_;rfl
theorem t0q{at_:List t2t}{s:ByteArray}{v:Int}(hv:wfI .i64 v)(h:atOk at_):atOk (a0e .str .i64 at_ s v):=by
 induction at_ with
 | nil=>
  intro q hq;have:q=(s,v):=by simpa [a0e]using hq
  subst this;exact hv
 | cons y a ih=>
  intro q hq;rw [a0e]at hq;cases hk:b0g .str s y.1 with
  | true=>
   rw [hk,cond_true]at hq;rcases k2b.1 hq with rfl | hq
   ·exact hv
   ·exact h q (by simp [hq])
  | false=>
   rw [hk,cond_false]at hq;rcases k2b.1 hq with rfl | hq
   ·exact h _ (by simp)
   ·exact ih (fun z hz=>h z (by simp [hz])) q hq
theorem l1e: ∀(l:List Ev.Dot) (s:List Int) (at_:List t2t),(∀x∈s,wfI .i64 x)→atOk at_→atOk (envD l s at_)
 | [],s,at_,hs,h=>by rw [envD];exact h;intro a b c d h;cases h
 | d::r, [],at_,hs,h=>by rw [envD];exact h;intro a b c d _ h;cases h
 | d::r,y::s,at_,hs,h=>by
  rw [envD];refine l1e r s _ (fun x hx=>hs x (by simp [hx])) ?_;cases (!(seq d.name ⟨#[]⟩))with
  | false=>exact h
  | true=>
   cases (y !=0)with
   | false=>exact h
   | true=>exact t0q (hs y (by simp)) h
theorem a1w: ∀(l:List Ev.Arrow) (s:List Int) (at_:List t2t),(∀x∈s,wfI .i64 x)→atOk at_→atOk (envA l s at_)
 | [],s,at_,hs,h=>by rw [envA];exact h;intro a b c d h;cases h
 | d::r, [],at_,hs,h=>by rw [envA];exact h;intro a b c d _ h;cases h
 | d::r,y::s,at_,hs,h=>by
  rw [envA];refine a1w r s _ (fun x hx=>hs x (by simp [hx])) ?_;cases (!(seq d.name ⟨#[]⟩))with
  | false=>exact h
  | true=>exact t0q (hs y (by simp)) h
end Pure
namespace Pure
open Esp Ev Go
set_option linter.unusedSimpArgs false
set_option linter.unusedVariables false
def allF(A:List Int):Nat→List t0t
 | 0=> [[]]
 | n+1=>A.flatMap fun x=>(allF A n).map fun l=>x::l
theorem u0g(A:List Int): ∀f:List Int,(∀x∈f,x∈A)→f∈allF A f.length
 | [],_=>by simp [allF]
 | x::r,h=>m2w.2 ⟨x,h x (by simp),k2s.2 ⟨r,u0g A r fun y hy=>h y (by simp [hy]),rfl⟩⟩
def e0r(q:Query)(g:Graph)(f:List Int):Bool:=q.wher.all fun t=>((tval g (q0f q g f).at_ t).kind==1)&& ((tval g (q0f q g f).at_ t).n==1)
theorem p1c(n:Nat)(e:Envr)(w:List Term)(V:Term→Val)(h: ∀t∈w,q72z n (e,t,())=some (V t,()))(hl:w.length≤1000)(hn:w.length<n):
  q70z n (e,w,())=some (w.all fun t=>((V t).kind==1)&& ((V t).n==1),()):=by
 have key: ∀(l:List Term) (i:Int),(∀t∈l,q72z n (e,t,())=some (V t,()))→a0c (ρ:=Bool×Unit) (k0i n (fun(v11,_)=>some (v11,()))) (fun(o6,_)=>some (true,())) i l ((e,()),())=some (l.all fun t=>((V t).kind==1)&& ((V t).n==1),()):=by
  intro l
  induction l with
  | nil=>intro i _;rfl
  | cons t r ih=>
   intro i hh;have ih:=ih (i+1) fun t ht=>hh t (by simp [ht]);rw [a0c];unfold k0i at ih⊢;dsimp only;rw [Term.eta2,n1o,hh t (by simp),j2r];dsimp only;unfold y0s;rw [j2r,m2s];dsimp only;rw [Val.eta];cases hk:((V t).kind==1)with
   | false=>rw [k2w,l2c,cond_true];rfl
   | true=>
    cases hv:((V t).n==1)with
    | false=>rfl
    | true=>rw [k2e,k2m,cond_false,l2g,l2g];exact ih
 unfold q70z;dsimp only;rw [o1x n _ _ w n _ (by omega) hn];exact key w 0 h
theorem l1x{q:Query}{g:Graph}(hg:GOk g)(b:List t6t)(ht: ∀t∈q.wher,tOk t)(hc: ∀t∈q.wher,tchk b t 1=0)(hw:q.wher.length≤1)(hN:q.dots.length≤100)(ha:q.arrows.length+1=q.dots.length):
  ∃N0,1100≤N0∧∀R,v0j q g R N0 (e0r q g):=by
 have hwf: ∀f,AOk g f→∀x∈f,wfI .i64 x:=by
  intro f hf x hx;rcases hf x hx with h | h | h
  ·obtain⟨y,hy,rfl⟩:=k2s.1 h
   exact(hg.ok.1.2 y hy).1
  ·obtain⟨y,hy,rfl⟩:=k2s.1 h
   exact(hg.ok.2.1.2 y hy).1
  ·rw [h];unfold wfI;decide
 have hA: ∀f,AOk g f→∃N,∀n,N≤n→∀t∈q.wher,q72z n (q0f q g f,t,())=some (tval g (q0f q g f).at_ t,()):=by
  intro f hf;refine c1s q.wher fun t h=> ?_;have hat:atOk (q0f q g f).at_:=a1w _ _ _ (fun x hx=>hwf f hf x (p2l hx)) (l1e _ _ _ (hwf f hf) (fun p hp=>by cases hp));exact(t0y hg hat b t 1 (ht t h) (hc t h)).1
 obtain⟨N1,h1⟩:=c1s (p:=fun n (f:List Int)=>AOk g f→∀t∈q.wher,q72z n (q0f q g f,t,())=some (tval g (q0f q g f).at_ t,()))
  (allF (g.nodes.map Ev.Node.id++(g.edges.map Ev.Edg.id++ [0])) (2*q.dots.length - 1)) (fun f _=>by
   by_cases hf:AOk g f
   ·obtain⟨N,h⟩:=hA f hf
    exact⟨N,fun n hn _=>h n hn⟩
   ·exact⟨0,fun n _ h=>absurd h hf⟩)
 refine⟨N1+1100,by omega,fun R f hl hf n hn=>⟨q0f q g f,a2i q g R f hN ha hl n (by omega), ?_⟩⟩;have hm:=u0g (g.nodes.map Ev.Node.id++(g.edges.map Ev.Edg.id++ [0])) f fun x hx=>by
  rcases hf x hx with h | h | h
  ·exact n2j _ h
  ·exact p2c _ (n2j _ h)
  ·rw [h];simp
 rw [hl]at hm;exact p1c n _ q.wher _ (h1 n (by omega) f hm hf) (by omega) (by omega)
def rsK(n:Nat)(g:Graph)(kind:ByteArray):List Ev.Pair:=(((f0g n (g,kind,())).getD ([],())).1).map fun z=>z.1
theorem o1c(n:Nat)(hn:100100≤n)(g:Graph)(kind:ByteArray)(hc:chkG g=0):f0g n (g,kind,())=some (tr (rsK n g kind),())∧ ∀k,k∈rsK n g kind↔Rc (stp kind g.edges) k.p k.q:=by
 obtain⟨ks,h1,h2,h3,h4⟩:=h2f n hn g kind hc;have e:rsK n g kind=ks:=by
  unfold rsK;rw [h4];show(tr ks).map _=ks;unfold tr;rw [m2t];exact List.map_id' ks
 rw [e];exact⟨h4,h2⟩
def rk(n:Nat)(g:Graph)(a:Ev.Arrow):List Ev.Pair:=bif a.many then rsK n g a.type else []
theorem f1z{ρ:Type}(n:Nat)(hn:100100≤n)(q:Query)(g:Graph)(hc:chkG g=0)(kr:Unit→Option ρ)(K:(t7t×t25t×(List t3t)×Unit)→Option ρ):
  ∀(l:List Ev.Arrow) (i:Int) (o:List t3t),o.length+l.length≤1000→a0c (d0c n kr) K i l ((g,()),(q,g,()),o,())=K ((g,()),(q,g,()),o++l.map (fun a=>tr (rk n g a)),())
 | [],i,o,h=>by rw [a0c,m2m,l2a]
 | a::r,i,o,h=>by
  rw [k2i]at h;have ih:=fun z=>f1z n hn q g hc kr K r (i+1) (o++ [z]) (by simp;omega);rw [a0c,k2l];unfold d0c at ih⊢;dsimp only;unfold rk;cases hm:a.many with
  | true=>
   rw [cond_true,b0u,(o1c n hn g a.type hc).1,j2r];dsimp only;rw [d0l (d0m (by simp;omega) (by omega)),ih (tr (rsK n g a.type)),l2o];rfl
  | false=>
   rw [cond_false,d0l (d0m (by simp;omega) (by omega)),ih [],l2o];rfl
theorem d2m(n:Nat)(hn:100100≤n)(q:Query)(g:Graph)(hc:chkG g=0)(ha:q.arrows.length≤100):k0t n (q,g,())=some ((q,g,q.arrows.map (fun a=>tr (rk n g a)),()),()):=by
 unfold k0t;dsimp only;rw [q0k n _ _ q.arrows n _ _ _ (by omega) (by omega)];refine Eq.trans (f1z n hn q g hc _ _ q.arrows 0 [] (by simp;omega)) ?_;rfl
def o0d(n:Nat)(g:Graph)(ds:List Ev.Dot)(ar:List Ev.Arrow):List t13t:=(ds.zip ar).map fun z=>(z.1,z.2,rk n g z.2)
def f0f(n:Nat)(q:Query)(g:Graph)(pass:List Int→Bool):List t0t:=
 match q.dots with
 | []=> []
 | d::r=>p0j g (finF pass) d (o0d n g r q.arrows)
theorem d1r(g:Graph)(pass:List Int→Bool): ∀(rem:List t13t) (pre:List Ev.Dot) (ds es:List Int),∀w∈g0h g (finF pass) rem pre ds es,w.length=ds.length+es.length+2*rem.length
 | [],pre,ds,es,w,h=>by
  rw [g0h]at h;unfold finF at h;cases hp:pass (ds++es)with
  | true=>rw [hp,cond_true,l2t]at h;rw [h];simp
  | false=>rw [hp,cond_false]at h;cases h
 | (d,a,ks)::r,pre,ds,es,w,h=>by
  rw [g0h]at h;obtain⟨x,hx,h⟩:=m2w.1 h;cases hc:dotB d x&&fitL pre ds d.name x.id with
  | false=>rw [hc,cond_false]at h;cases h
  | true=>
   rw [hc,cond_true]at h;obtain⟨e,he,h⟩:=m2w.1 h;rw [d1r g pass r _ _ _ w h];simp;omega
theorem z0b(g:Graph)(pass:List Int→Bool)(d:Ev.Dot)(rem:List t13t)(w:List Int)(h:w∈p0j g (finF pass) d rem):w.length=1+2*rem.length:=by
 obtain⟨x,hx,h⟩:=m2w.1 h;cases hc:dotB d x&&fitL [] [] d.name x.id with
 | false=>rw [hc,cond_false]at h;cases h
 | true=>
  rw [hc,cond_true]at h;rw [d1r g pass rem _ _ _ w h];simp
theorem d1k{α β:Type}: ∀(l:List α) (m:List β),l.length=m.length→(l.zip m).map (fun z=>z.1)=l∧(l.zip m).map (fun z=>z.2)=m
 | [], [],_=>⟨rfl,rfl⟩
 | [],y::m,h=>by simp at h
 | x::l, [],h=>by simp at h
 | x::l,y::m,h=>by
  have ih:=d1k l m (by simpa using h);simp only [List.zip_cons_cons,k2l,ih.1,ih.2,and_self]
theorem n0u(q:Query)(g:Graph)(hc:chkG g=0)(pass:List Int→Bool)(N0:Nat)(hN0:1100≤N0)(hp: ∀R,v0j q g R N0 pass)(hN:q.dots.length≤100)(h1:1≤q.dots.length)(ha:q.arrows.length+1=q.dots.length)(n:Nat)(hn:N0+110000≤n)(hq:q85z n (q,())=some (0,())):
  d0f n (q,g,())=bif decide ((f0f n q g pass).length≤2000)then some (g0g ltLL (f0f n q g pass),0,())else some ([],10,()):=by
 obtain⟨h40,h60,hnod,_⟩:=f0i hc;have hlab: ∀x∈g.nodes,x.labels.length≤100:=by
  intro x hx;have:=(f1f hnod x hx).1;unfold labE at this;cases hb:decide ((x.labels.length:Int) >4)with
  | true=>rw [hb]at this;cases this
  | false=>have:=of_decide_eq_false hb;omega
 obtain⟨d,r,hd⟩: ∃d r,q.dots=d::r:=by
  cases hq:q.dots with
  | nil=>rw [hq]at h1;simp at h1
  | cons d r=>exact⟨d,r,rfl⟩
 have hlr:r.length=q.arrows.length:=by rw [hd]at ha;simp at ha;omega
 have hz:=d1k r q.arrows hlr;have hr1:(o0d n g r q.arrows).map (fun z=>z.1)=r:=by unfold o0d;rw [m2t];exact hz.1
 have hr2:(o0d n g r q.arrows).map (fun z=>z.2.1)=q.arrows:=by unfold o0d;rw [m2t];exact hz.2
 have hrl:(o0d n g r q.arrows).length=r.length:=by rw [←k2v (f:=fun z=>z.1),hr1]
 have hW:f0f n q g pass=p0j g (finF pass) d (o0d n g r q.arrows):=by unfold f0f;rw [hd]
 have hE: ∀w∈f0f n q g pass,w.length≤1000000:=by
  intro w hw;rw [hW]at hw;rw [z0b g pass d _ w hw,hrl];rw [hd]at hN;simp at hN;omega
 obtain⟨f',_,ew⟩:=t1a (R:=q.arrows.map (fun a=>tr (rk n g a))) (hp _) hN0 hN h40 h60 hlab d (o0d n g r q.arrows) (by rw [hr1,hd]) hr2.symm (fun j z hz hm=>by
  have e:=congrArg (fun l=>l[j]?) hr2;rw [l2f,hz]at e;rw [l2f, ←e];show some (tr (rk n g z.2.1))=some (tr z.2.2);have:z∈o0d n g r q.arrows:=n2k hz;obtain⟨y,_,rfl⟩:=k2s.1 this;rfl) n (by rw [hrl];rw [hd]at hN;simp at hN;omega) (List.replicate (2*q.dots.length - 1) 0) ([],false) ⟨by simp,rfl,by rw [Nat.zero_sub,o2g]⟩ (by simp)
 rw [←hW]at ew;unfold d0f;dsimp only;rw [b0t,hq,j2r];dsimp only;rw [show((0:Int) !=0)=false from rfl,cond_false,b0u,y0d g n (by omega),j2r,hc]
 dsimp only;rw [show((0:Int) !=0)=false from rfl,cond_false,d2m n (by omega) q g hc (by omega),j2r]
 dsimp only;unfold q5z;dsimp only;rw [a0h (by omega) (by omega)];unfold cnt?;rw [if_pos (by omega),j2r,show((q.dots.length:Int)+(q.arrows.length:Int)).toNat=2*q.dots.length - 1 by omega,d0l (d0m (by omega) (by omega)),b0t,b0u];rw [show(0:Int)=((0:Nat):Int)from rfl]at ew⊢
 rw [ew,j2r];dsimp only;rw [j2r];dsimp only;have hpe:=g1n (f0f n q g pass) ([],false) (by simp);rw [l2v,l2d,l2l]at hpe;cases hle:decide ((f0f n q g pass).length≤2000)with
 | true=>
  have hle:=of_decide_eq_true hle;rw [hpe.1 hle];dsimp only;rw [cond_false,q1w _ (by omega) hE];rfl
 | false=>
  have hle:=of_decide_eq_false hle;rw [hpe.2 (by omega)];rfl
end Pure
namespace Pure
open Esp Ev Go
set_option linter.unusedSimpArgs false
set_option linter.unusedVariables false
theorem p0q(n:Nat)(hn:100≤n)(a b:List Int)(ha:a.length≤400)(hb:b.length≤400):q26z n ([a,b],())=some (a++b,()):=by
 unfold q26z;dsimp only;rw [n1j n _ _ [a,b] n _ _ (by simp) (by simp;omega)];rw [a0c];unfold x0d;dsimp only;rw [a0h (by omega) (by omega),decide_eq_false (by omega),cond_false,a0c];dsimp only;rw [a0h (by omega) (by omega),decide_eq_false (by omega),cond_false,a0c];have hg:q14z (0+(a.length:Int)+(b.length:Int),())=some ([],()):=by
  unfold q14z;dsimp only;rw [decide_eq_false (by omega),cond_false,a0h (by omega) (by omega)];by_cases h:0+(a.length:Int)+(b.length:Int) - 0>0
  ·rw [decide_eq_true h,cond_true,d0l (by decide),d0l (by rw [j2s];exact⟨rfl,d0m (by omega) (by omega)⟩)]
   unfold cut?;rw [if_pos ⟨by omega,by rw [p2d];omega⟩];rfl
  ·rw [decide_eq_false h,cond_false]
 dsimp only;rw [hg,j2r];dsimp only;rw [n1g n _ _ [a,b] n _ (by simp) (by simp;omega)];rw [a0c];unfold w0a;dsimp only;rw [d0l (d0m (by simp;omega) (by omega)),a0c];dsimp only;rw [d0l (d0m (by simp;omega) (by omega)),a0c];rfl
end Pure
namespace Pure
open Esp Ev Go
set_option linter.unusedSimpArgs false
set_option linter.unusedVariables false
theorem f2z{b:List t6t}: ∀{l:List Term},whF b l=0→∀t∈l,tchk b t 1=0
 | [],_,t,ht=>by cases ht
 | x::r,h,t,ht=>by
  rw [whF]at h;cases hx:(tchk b x 1 !=0)with
  | true=>rw [hx,cond_true]at h;rw [h]at hx;cases hx
  | false=>
   rw [hx,cond_false]at h;rcases k2b.1 ht with rfl | ht
   ·simpa [bne]using hx
   ·exact f2z h t ht
theorem o1l{q:Query}(h:chkQ q=0):(1≤q.dots.length∧q.dots.length≤5)∧q.wher.length≤1∧q.arrows.length+1=q.dots.length∧q.dots.all dtB=true∧q.arrows.all arB=true∧∃b,nmA q.arrows (nmD q.dots [])=some b∧∀t∈q.wher,tchk b t 1=0:=by
 unfold chkQ at h;cases hb:((((decide (((q.dots.length:Int):Int)<1)) || (decide (((q.dots.length:Int):Int) >5))) || (decide (((q.items.length:Int):Int)<1))) || (decide (((q.items.length:Int):Int) >5))) || (decide (((q.wher.length:Int):Int) >1))with
 | true=>rw [hb,cond_true]at h;cases h
 | false=>
  rw [hb,cond_false]at h;simp only [k2c,decide_eq_false_iff_not]at hb;cases ha:((q.arrows.length:Int) !=(q.dots.length:Int) - 1)with
  | true=>rw [ha,cond_true]at h;cases h
  | false=>
   rw [ha,cond_false]at h;have ha:(q.arrows.length:Int)=(q.dots.length:Int) - 1:=by simpa [bne]using ha
   cases hd:q.dots.all dtB with
   | false=>rw [hd]at h;cases h
   | true=>
    cases hr:q.arrows.all arB with
    | false=>rw [hd,hr]at h;cases h
    | true=>
     rw [hd,hr]at h;cases hn:nmA q.arrows (nmD q.dots [])with
     | none=>rw [hn]at h;cases h
     | some b=>
      rw [hn]at h;simp only [k2e,cond_false]at h;cases hw:(whF b q.wher !=0)with
      | true=>rw [hw,cond_true]at h;rw [h]at hw;cases hw
      | false=>exact⟨by omega,by omega,by omega,rfl,rfl,b,rfl,f2z (by simpa [bne]using hw)⟩
end Pure
namespace Pure
open Esp Ev Go
set_option linter.unusedSimpArgs false
set_option linter.unusedVariables false
theorem r1u(k:Ev.Pair):Rc (stp ⟨#[]⟩ line3G.edges) k.p k.q↔k∈p123:=by
 have e: ∀{a b:Int},stp ⟨#[]⟩ line3G.edges a b↔(a=1∧b=2)∨(a=2∧b=3):=by
  intro a b;unfold stp;constructor
  ·rintro⟨x,hx,_,rfl,rfl⟩
   simp only [line3G,k2b,l2i,or_false]at hx;rcases hx with rfl | rfl<;>simp
  ·rintro(⟨rfl,rfl⟩ | ⟨rfl,rfl⟩)
   ·exact⟨.mk 4 1 2 ⟨#[75]⟩ [],by simp [line3G],by kernel_rfl,rfl,rfl⟩
   ·exact⟨.mk 5 2 3 ⟨#[75]⟩ [],by simp [line3G],by kernel_rfl,rfl,rfl⟩
 obtain⟨p,q⟩:=k;have hm:Ev.Pair.mk p q∈p123↔(p=1∧q=2)∨(p=1∧q=3)∨(p=2∧q=3):=by simp [p123]
 rw [hm];constructor
 ·intro w
  have: ∀{a b:Int},W (stp ⟨#[]⟩ line3G.edges) (fun _=>True) a b→(a=1∧b=2)∨(a=1∧b=3)∨(a=2∧b=3):=by
   intro a b w
   induction w with
   | one h=>have:=e.1 h;omega
   | two _ _ _ i j=>omega
  exact this w
 ·rintro(⟨rfl,rfl⟩ | ⟨rfl,rfl⟩ | ⟨rfl,rfl⟩)
  ·exact .one (e.2 (by simp))
  ·exact Rc.trans (c:=2) (.one (e.2 (.inl ⟨rfl,rfl⟩))) (.one (e.2 (.inr ⟨rfl,rfl⟩)))
  ·exact .one (e.2 (by simp))
def v2:Val:=((q68z (2,())).getD (.mk 0 0 ⟨#[]⟩ [],())).1
def t2:Term:=((q58z ((⟨#[60]⟩:ByteArray),([(Ev.Term.mk 2 (Ev.Val.mk 0 0 (⟨#[]⟩:ByteArray) ([]:List Ev.Val)) (⟨#[97]⟩:ByteArray) ([]:List Ev.Term)),(Ev.Term.mk 1 (Ev.Val.mk v2.kind v2.n v2.s v2.l) (⟨#[]⟩:ByteArray) ([]:List Ev.Term))]:List Ev.Term),())).getD (.mk 0 (.mk 0 0 ⟨#[]⟩ []) ⟨#[]⟩ [],())).1
def q3:Query:=(Ev.Query.mk ([(Ev.Dot.mk (⟨#[97]⟩:ByteArray) (⟨#[]⟩:ByteArray)),(Ev.Dot.mk (⟨#[]⟩:ByteArray) (⟨#[]⟩:ByteArray))]:List Ev.Dot) ([(Ev.Arrow.mk (⟨#[]⟩:ByteArray) (⟨#[]⟩:ByteArray) false true)]:List Ev.Arrow) ([(Ev.Term.mk t2.kind (Ev.Val.mk t2.v.kind t2.v.n t2.v.s t2.v.l) t2.name t2.a)]:List Ev.Term) ([(Ev.Item.mk (⟨#[110]⟩:ByteArray) (⟨#[]⟩:ByteArray) (Ev.Term.mk 2 (Ev.Val.mk 0 0 (⟨#[]⟩:ByteArray) ([]:List Ev.Val)) (⟨#[97]⟩:ByteArray) ([]:List Ev.Term)))]:List Ev.Item) false)
theorem w1r:chkQ q3=0:=by kernel_rfl
theorem k1c:gOk line3G:=by
 unfold gOk line3G;simp [nOk,eOk,maxLen,wfI]
 decide
theorem o0k(g:Graph)(a:Ev.Arrow)(ks ks' :List Ev.Pair)(h: ∀k,k∈ks↔k∈ks')(x y:Int):e0t g a ks x y=e0t g a ks' x y:=by
 have: ∀fr tg,l0v g a ks fr tg=l0v g a ks' fr tg:=by
  intro fr tg;unfold l0v;rw [decide_eq_decide.2 (h (Ev.Pair.mk fr tg))]
 unfold e0t;rw [this,this]
theorem o1e(g:Graph)(fin:List Int→List Int→List t0t)(d d2:Ev.Dot)(a:Ev.Arrow)(ks ks' :List Ev.Pair)(h: ∀k,k∈ks↔k∈ks'):p0j g fin d [(d2,a,ks)]=p0j g fin d [(d2,a,ks')]:=by
 unfold p0j g0h g0h;simp only [o0k g a ks ks' h]
theorem w3:p0j line3G (finF (e0r q3 line3G)) (Ev.Dot.mk ⟨#[97]⟩ ⟨#[]⟩) [(Ev.Dot.mk ⟨#[]⟩ ⟨#[]⟩,Ev.Arrow.mk ⟨#[]⟩ ⟨#[]⟩ false true,p123)]= [[1,2,0], [1,3,0]]:=by kernel_rfl
theorem eqf3(n:Nat):q3z (n+100) ([[1,2,0], [1,3,0]], [[1,2,0], [1,3,0]],())=some (true,()):=by kernel_rfl
theorem i1t: ∃N,∀n,N≤n→q33z n ()=some (true,()):=by
 have ht: ∀t∈q3.wher,tOk t:=by
  have e:q3.wher= [.mk 4 (.mk 0 0 ⟨#[]⟩ []) ⟨#[60]⟩ [.mk 2 (.mk 0 0 ⟨#[]⟩ []) ⟨#[97]⟩ [], .mk 1 v2 ⟨#[]⟩ []]]:=by kernel_rfl
  rw [e];intro t h;rw [l2t]at h;subst h;have ev:v2= .mk 2 2 ⟨#[]⟩ []:=by kernel_rfl
  rw [ev];simp [tOk,tOks,vOk,vOks,maxLen,wfI]
  decide
 obtain⟨⟨h1,h5⟩,hw,ha,_,_,b,_,hc⟩:=o1l w1r;obtain⟨N0,h0,hp⟩:=l1x ⟨k1c,p0k⟩ b ht hc hw (by omega) ha;refine⟨N0+110100,fun n hn=> ?_⟩;have em:=n0u q3 line3G p0k (e0r q3 line3G) N0 h0 hp (by omega) h1 ha n (by omega) (by rw [k0b q3 n (by omega),w1r]);have ew:f0f n q3 line3G (e0r q3 line3G)= [[1,2,0], [1,3,0]]:=
  (o1e line3G _ _ _ _ (rsK n line3G ⟨#[]⟩) p123 (fun k=>((o1c n (by omega) line3G ⟨#[]⟩ p0k).2 k).trans (r1u k))).trans w3
 rw [ew,decide_eq_true (by simp),cond_true,e1w ltLL_ok (.refl _) (by decide)]at em;obtain⟨m,rfl⟩: ∃m,n=m+100:=⟨n - 100,by omega⟩;unfold q33z;dsimp only;rw [show q68z (2,())=some (v2,())from rfl,j2r]
 dsimp only;rw [show q58z _=some (t2,())from rfl,j2r]
 dsimp only;rw [u1x,j2r];refine Eq.trans (congrArg (fun z=>Option.bind z _) em) ?_;rw [j2r];dsimp only;rw [show((0:Int)==0)=true from rfl,cond_true,eqf3]
 rfl
end Pure

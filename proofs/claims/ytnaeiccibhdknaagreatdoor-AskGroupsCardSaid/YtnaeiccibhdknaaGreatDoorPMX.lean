import Derived.Test.YtnaeiccibhdknaaGreatDoorPRX
set_option linter.unusedSimpArgs false
set_option linter.unusedVariables false
noncomputable section
namespace Pure
open Esp Ev Go
theorem f0a(q:Query):Query.mk q.dots q.arrows q.wher q.items q.dist=q:=rfl
theorem f0b(g:Graph):Graph.mk g.nodes g.edges g.next=g:=rfl
theorem x0o(a:Ev.Arrow):Ev.Arrow.mk a.name a.type a.back a.many=a:=rfl
theorem w1v(x:Ev.Node):Ev.Node.mk x.id x.labels x.props=x:=rfl
def dotB(d:Ev.Dot)(x:Ev.Node):Bool:=seq d.label zb0 || hasL x.labels d.label
theorem d2g(q:Query)(g:Graph)(R:List Y7)(n k:Nat)(d:Ev.Dot)(x:Ev.Node)(hd:q.dots[k]?=some d)(hl:x.labels.length<=100)(hn:200<=n):
  q54z n ((k:Int),x,(q,g,R,()),())=some (dotB d x,(q,g,R,()),()):=by
 unfold q54z dotB;dsimp only;rw[a0r hd,q2u];cases h:seq d.label zb0 with
 |true=>rfl
 |false=>rw[u2b,y0s _ _ n hl hn];rfl
def fitL:List Ev.Dot->List Int->Bt->Int->Bool
 |d::r,y::s,nm,x=>(seq d.name zb0 || (!seq d.name nm || (y==x)))&&fitL r s nm x
 |_,_,_,_=>true
theorem c1p{ρ:Type}(n:Nat)(q:Query)(g:Graph)(R:List Y7)
  (kx:Y0×Y2×Unit->Option ρ)(kr:Bool×Y0×Y2×Unit->Option ρ)
  (k:Nat)(hk:k<=1000)(d:Ev.Dot)(hd:q.dots[k]?=some d)(f:List Int)(x:Int)(hx:f[k]?=some x):
  ∀(r p:List Ev.Dot) (s t:List Int),q.dots.take k=p++r->f.take k=t++s->p.length=t.length->r.length=s.length->∀fuel,r.length<fuel->
   a0a (λrc=>r0a n rc kx kr) fuel ((k:Int),(k:Int),(p.length:Int),(q,g,R,()),f,())=bif fitL r s d.name x then kx ((q,g,R,()),f,())else kr (false,(q,g,R,()),f,())
 |[],p,s,t,h1,h2,h3,h4,fuel,hf=>by
  obtain⟨m,rfl⟩:∃m,fuel=m+1:=⟨fuel - 1,by omega⟩;have eS:=(r2e.1 hd).1;have e:p.length=k:=by
   have:=congrArg List.length h1;rw[r2u,r2p]at this;omega
  rw[a0a];unfold r0a;dsimp only;rw[decide_eq_false (by omega),u2b];rfl
 |d0::r,p,s,t,h1,h2,h3,h4,fuel,hf=>by
  obtain⟨m,rfl⟩:∃m,fuel=m+1:=⟨fuel - 1,by omega⟩;have eS:=(r2e.1 hd).1;obtain⟨y,s,rfl⟩:∃y s',s=y::s' :=by
   cases s with
   |nil=>simp at h4
   |cons y s' =>exact⟨y,s',rfl⟩
  have aJ:p.length<k:=by
   have:=congrArg List.length h1;rw[r2u,r2j,r2m]at this;omega
  have e1:q.dots[p.length]?=some d0:=by
   rw [<-List.getElem?_take_of_lt aJ,h1];simp
  have e2:f[p.length]?=some y:=by
   rw [<-List.getElem?_take_of_lt aJ,h2,h3];simp
  have ih:=c1p n q g R kx kr k hk d hd f x hx r (p++ [d0]) s (t++ [y]) (by rw[h1];simp) (by rw[h2];simp) (by simp[h3]) (by simpa using h4) m (by simp at hf;omega);rw[r2j,s2v,Int.natCast_add]at ih;rw[a0a];unfold r0a;dsimp only;rw[decide_eq_true (by omega),u2a,a0r e1,a0r hd,a0r hx,a0r e2];simp only[q2u,Int.toNat_natCast,e2,hx,f0a,f0b];rw[a0f (by omega) (by omega)];unfold fitL;cases iG:seq d0.name zb0 with
  |true=>simp only[s2i,u2b,s2o,s2x];exact ih
  |false=>
   cases hn1:seq d0.name d.name with
   |false=>simp only[t2b,u2a,u2b,s2o,s2e,s2x];exact ih
   |true=>
    cases hyx:(y==x)with
    |true=>
     rw[show((y:Int) !=x)=false by simpa[bne]using hyx];simp only[t2b,s2i,u2a,u2b,s2o,s2e,t2c,s2x];exact ih
    |false=>
     rw[show((y:Int) !=x)=true by simp[bne,hyx]];rfl
theorem r1n(n:Nat)(q:Query)(g:Graph)(R:List Y7)(k:Nat)(hk:k<=1000)(d:Ev.Dot)(hd:q.dots[k]?=some d)(f:List Int)(x:Int)(hx:f[k]?=some x)(hn:1100<=n):
  q43z n ((k:Int),(q,g,R,()),f,())=some (fitL (q.dots.take k) (f.take k) d.name x,(q,g,R,()),f,()):=by
 have eS:=(r2e.1 hd).1;have bT:=(r2e.1 hx).1;unfold q43z;dsimp only;have:=c1p n q g R (λ(o19,lZ,_)=>some (true,((Query.mk o19.1.dots o19.1.arrows o19.1.wher o19.1.items o19.1.dist),(Graph.mk o19.2.1.nodes o19.2.1.edges o19.2.1.next),o19.2.2.1,()),lZ,())) (λ(v21,o22,qq,_)=>some (v21,((Query.mk o22.1.dots o22.1.arrows o22.1.wher o22.1.items o22.1.dist),(Graph.mk o22.2.1.nodes o22.2.1.edges o22.2.1.next),o22.2.2.1,()),qq,())) k hk d hd f x hx (q.dots.take k) [] (f.take k) [] rfl rfl rfl (by simp;omega) n (by simp;omega);refine(Eq.trans ?_ this).trans ?_
 ·rfl
 ·cases fitL (q.dots.take k) (f.take k) d.name x<;>rfl
def push(s:List Y2×Bool)(w:List Int):List Y2×Bool:=if s.1.length=2000 then(s.1,true)else(s.1++ [w],s.2)
def b0c(s:List Y2×Bool)(W:List Y2):List Y2×Bool:=W.foldl push s
theorem j0c(s:List Y2×Bool)(V W:List Y2):b0c s (V++W)=b0c (b0c s V) W:=List.foldl_append
theorem t1d{s:List Y2×Bool}(h:s.1.length<=2000)(w:List Int):(push s w).1.length<=2000:=by
 unfold push;split
 ·exact h
 ·simp;omega
theorem h0p:∀(W:List Y2) {s:List Y2×Bool},s.1.length<=2000->(b0c s W).1.length<=2000
 |[],s,h=>h
 |w::r,s,h=>h0p r (t1d h w)
theorem k1e:∀(W:List Y2) (s:List Y2×Bool),s.1.length<=2000->(s.1.length+W.length<=2000->b0c s W=(s.1++W,s.2))/\(2000<s.1.length+W.length->(b0c s W).2=true)
 |[],s,h=>⟨λ_=>by simp[b0c],λh2=>by simp at h2;omega⟩
 |w::r,s,h=>by
  have ih:=k1e r (push s w) (t1d h w);have hst:∀(W:List Y2) (s:List Y2×Bool),s.2=true->(b0c s W).2=true:=by
   intro W
   induction W with
   |nil=>exact λs h=>h
   |cons w r ih=>exact λs h=>ih _ (by unfold push;split;rfl;exact h)
  rw[r2m];constructor
  ·intro h2
   have e:push s w=(s.1++ [w],s.2):=by unfold push;rw[if_neg (by omega)]
   have:=ih.1 (by rw[e];simp;omega);show b0c (push s w) r=_;rw[this,e];simp
  ·intro h2
   show(b0c (push s w) r).2=true;by_cases h3:s.1.length=2000
   ·exact hst r _ (by unfold push;rw[if_pos h3])
   ·have e:push s w=(s.1++ [w],s.2):=by unfold push;rw[if_neg h3]
    exact ih.2 (by rw[e];simp;omega)
theorem l0v{α:Type}(m:List α)(j:Nat)(y:α)(h:j<m.length):(m.set j y).take (j+1)=m.take j++ [y]:=by
 rw[List.take_add_one,List.take_set_of_le (r2f j)];simp[h]
structure Agr(N k:Nat)(ds es f:List Int):Prop where
 len:f.length=2*N - 1
 d:f.take k=ds
 e:(f.drop N).take (k - 1)=es
structure Mid(N k:Nat)(ds es f:List Int):Prop where
 len:f.length=2*N - 1
 d:f.take (k+1)=ds
 e:(f.drop N).take (k - 1)=es
theorem Agr.dot {N k:Nat}{ds es f:List Int}(h:Agr N k ds es f)(hk:k<N)(x:Int):Mid N k (ds++ [x]) es (f.set k x):=by
 refine⟨by simp[h.len],?_,?_⟩
 ·rw[l0v _ _ _ (by rw[h.len];omega),h.d]
 ·rw[List.drop_set,if_pos hk]
  exact h.e
theorem Mid.back {N k:Nat}{ds es f:List Int}{x:Int}(h:Mid N k (ds++ [x]) es f)(hk:k<N):Agr N k ds es f:=by
 refine⟨h.len,?_,h.e⟩;have hd:=h.d;have hl:(ds++ [x]).length=k+1:=by rw [<-hd,r2u,h.len];omega
 have h2:f.take k=(f.take (k+1)).take k:=by rw[List.take_take,Nat.min_eq_left (by omega)]
 rw[h2,hd];rw[r2j,s2v]at hl;rw[show k=ds.length by omega];simp
theorem Mid.edge {N k:Nat}{ds es f:List Int}(h:Mid N k ds es f)(h1:1<=k)(hk:k<N)(y:Int):Agr N (k+1) ds (es++ [y]) (f.set (N+k - 1) y):=by
 refine⟨by simp[h.len],?_,?_⟩
 ·rw[List.take_set_of_le (by omega),h.d]
 ·rw[List.drop_set,if_neg (by omega),show N+k - 1 - N=k - 1 by omega,show k+1 - 1=k - 1+1 by omega,l0v _ _ _ (by rw[s2a,h.len];omega),h.e]
theorem Agr.mid {N k:Nat}{ds es f:List Int}{y:Int}(h:Agr N (k+1) ds (es++ [y]) f)(h1:1<=k)(hk:k<N):Mid N k ds es f:=by
 refine⟨h.len,h.d,?_⟩;have he:=h.e;have hl:(es++ [y]).length=k:=by rw [<-he,r2u,s2a,h.len];omega
 have h2:(f.drop N).take (k - 1)=((f.drop N).take (k+1 - 1)).take (k - 1):=by rw[List.take_take,Nat.min_eq_left (by omega)]
 rw[h2,he];rw[r2j,s2v]at hl;rw[show k - 1=es.length by omega];simp
abbrev b2g:=Int×Y0×Y2×Unit×Y25×Y11×Unit->Option Y14
def WOk(q:Query)(g:Graph)(R:List Y7)(self:b2g)(k:Nat)(ds es:List Int)(W:List Y2):Prop:=
 ∀(f:List Int) (s:List Y2×Bool),Agr q.dots.length k ds es f->s.1.length<=2000->∃f',Agr q.dots.length k ds es f' /\
  self ((k:Int),(q,g,R,()),f,(),s.1,(s.2,()),())=some ((q,g,R,()),f',(),(b0c s W).1,((b0c s W).2,()),())
def okE(a:Ev.Arrow)(fr tg:Int)(y:Edg):Bool:=(((y.src:Int)==fr)&& ((y.dst:Int)==tg))&& ((seq a.type zb0) || (seq y.type a.type))
theorem d0v{ρ:Type}(q:Query)(g:Graph)(R:List Y7)(self:b2g)(n:Nat)
  (k:Nat)(h1:1<=k)(hk:k<q.dots.length)(hN:q.dots.length<=1000)(a:Ev.Arrow)(fr tg:Int)(v83:List Ev.Node)(v84 v85:Int)(ds es:List Int)(Wn:Int->List Y2):
  ∀(l:List Edg) (i:Int),(∀y∈l,okE a fr tg y=true->WOk q g R self (k+1) ds (es++ [y.id]) (Wn y.id))-> ∀(f:List Int) (s:List Y2×Bool),Mid q.dots.length k ds es f->s.1.length<=2000->
   ∃f',Mid q.dots.length k ds es f' /\∀(kr:Unit->Option ρ) (K:Y23->Option ρ),a0b (j0m self n kr) K i l ((k:Int),(q.dots.length:Int),fr,tg,v83,v84,v85,(a,()),(q,g,R,()),(),s.1,(s.2,()),f,())
    =K ((k:Int),(q.dots.length:Int),fr,tg,v83,v84,v85,(a,()),(q,g,R,()),(),(b0c s (((l.filter (okE a fr tg)).map Edg.id).flatMap Wn)).1,((b0c s (((l.filter (okE a fr tg)).map Edg.id).flatMap Wn)).2,()),f',())
 |[],i,hw,f,s,hm,hs=>⟨f,hm,λkr K=>by rw[a0b];rfl⟩
 |y::r,i,hw,f,s,hm,hs=>by
  by_cases hy:okE a fr tg y=true
  ·have hL:f[q.dots.length+k - 1]? ≠none:=by
    rw[Ne,List.getElem?_eq_none_iff,hm.len];omega
   obtain⟨z,hz⟩:=Option.ne_none_iff_exists'.1 hL;obtain⟨f1,a1,e1⟩:=hw y (by simp) hy (f.set (q.dots.length+k - 1) y.id) s (hm.edge h1 hk y.id) hs;obtain⟨f2,a2,e2⟩:=d0v (ρ:=ρ) q g R self n k h1 hk hN a fr tg v83 v84 v85 ds es Wn r (i+1) (λx hx=>hw x (by simp[hx])) f1 (b0c s (Wn y.id)) (a1.mid h1 hk) (h0p _ hs);refine⟨f2,a2,λkr K=>?_⟩;have e2:=e2 kr K;rw[t2j hy,r2k,s2b,j0c];rw[a0b];unfold j0m at e2⊢;unfold okE at hy;dsimp only;rw[hy,u2a,a0f (x:=(q.dots.length:Int)+k) (by omega) (by omega),a0f (x:=(q.dots.length:Int)+k - 1) (by omega) (by omega),show((q.dots.length:Int)+k - 1)=((q.dots.length+k - 1:Nat):Int)by omega,a0r hz,Int.toNat_natCast,hz];simp only[q2u,f0a,f0b,x0o];rw[a0f (by omega) (by omega),show((k:Int)+1)=((k+1:Nat):Int)by omega,e1,q2u];exact e2
  ·have dT:okE a fr tg y=false:=by simpa using hy
   obtain⟨f2,a2,e2⟩:=d0v (ρ:=ρ) q g R self n k h1 hk hN a fr tg v83 v84 v85 ds es Wn r (i+1) (λx hx=>hw x (by simp[hx])) f s hm hs;refine⟨f2,a2,λkr K=>?_⟩;have e2:=e2 kr K;rw[t2d hy];rw[a0b];unfold j0m at e2⊢;unfold okE at dT;dsimp only;rw[dT,u2b];exact e2
def s0d(g:Graph)(a:Ev.Arrow)(ks:List Ev.Pair)(fr tg:Int):List Int:=
 bif a.many then(bif decide (Ev.Pair.mk fr tg∈ks)then [0]else [])else((g.edges.filter (okE a fr tg)).map Edg.id)
def k0n(g:Graph)(a:Ev.Arrow)(ks:List Ev.Pair)(x y:Int):List Int:=bif a.back then s0d g a ks y x else s0d g a ks x y
def BOk(q:Query)(g:Graph)(R:List Y7)(self:b2g)(k:Nat)(ds es:List Int)(x:Int)(W:List Y2):Prop:=
 (k=0/\WOk q g R self 1 (ds++ [x]) es W)\/
 (1<=k/\∃a ks last Wn,q.arrows[k - 1]?=some a/\(a.many=true->R[k - 1]?=some (tr ks))/\ds[k - 1]?=some last/\W=(k0n g a ks last x).flatMap Wn/\∀e∈k0n g a ks last x,WOk q g R self (k+1) (ds++ [x]) (es++ [e]) (Wn e))
theorem i0u{ρ:Type}(q:Query)(g:Graph)(R:List Y7)(self:b2g)(n:Nat)(hn:1100<=n)
  (kx:Y0×Unit×Y25×Y11×Y2×Unit->Option ρ)(kr:Unit->Option ρ)
  (k:Nat)(hk:k<q.dots.length)(hN:q.dots.length<=1000)(d:Ev.Dot)(hd:q.dots[k]?=some d)(ds es:List Int)(eA:ds.length=k)
  (bW:g.nodes.length<=40)(bR:g.edges.length<=60)(bF:∀x∈g.nodes,x.labels.length<=100)(Wx:Ev.Node->List Y2)
  (hb:∀x∈g.nodes,(dotB d x&&fitL (q.dots.take k) ds d.name x.id)=true->BOk q g R self k ds es x.id (Wx x)):
  ∀(r p:List Ev.Node),g.nodes=p++r->∀(f:List Int) (s:List Y2×Bool) (fuel:Nat),Agr q.dots.length k ds es f->s.1.length<=2000->r.length<fuel->
   ∃f',Agr q.dots.length k ds es f' /\a0a (λrc=>l0h self n rc kx kr) fuel ((k:Int),(q.dots.length:Int),g.nodes,(g.nodes.length:Int),(p.length:Int),(q,g,R,()),(),s.1,(s.2,()),f,())
    =kx ((q,g,R,()),(),(b0c s (r.flatMap λx=>bif dotB d x&&fitL (q.dots.take k) ds d.name x.id then Wx x else [])).1,((b0c s (r.flatMap λx=>bif dotB d x&&fitL (q.dots.take k) ds d.name x.id then Wx x else [])).2,()),f',())
 |[],p,hp,f,s,fuel,ha,hs,hf=>by
  obtain⟨m,rfl⟩:∃m,fuel=m+1:=⟨fuel - 1,by omega⟩;refine⟨f,ha,?_⟩;rw[a0a];unfold l0h;dsimp only;rw[decide_eq_false (by rw[hp];simp),u2b];rfl
 |x::r,p,hp,f,s,fuel,ha,hs,hf=>by
  obtain⟨m,rfl⟩:∃m,fuel=m+1:=⟨fuel - 1,by omega⟩;have kl:x∈g.nodes:=by rw[hp];simp
  have hx:g.nodes[p.length]?=some x:=by rw[hp];simp
  have aJ:p.length<g.nodes.length:=(r2e.1 hx).1;have bT:k<f.length:=by rw[ha.len];omega
  obtain⟨z,hz⟩:∃z,f[k]?=some z:=⟨f[k],by simp[bT]⟩;have hmid:=ha.dot hk x.id;have hf1:(f.set k x.id)[k]?=some x.id:=by simp[bT]
  have j7:(f.set k x.id).take k=ds:=by rw[List.take_set_of_le (r2f k),ha.d]
  have IH:=λf s=>i0u q g R self n hn kx kr k hk hN d hd ds es eA bW bR bF Wx hb r (p++ [x]) (by rw[hp];simp) f s m;rw[r2j,s2v,Int.natCast_add]at IH;have c8:r.length<m:=by simp at hf;omega
  have hw:wI ((p.length:Int)+1)=(p.length:Int)+1:=a0f (by omega) (by omega);rw[s2b,a0a];generalize a0a (λrc=>l0h self n rc kx kr) m=I at IH⊢;have two:∀b:Bool,b=false\/b=true:=by decide
  unfold l0h;dsimp only;rw[decide_eq_true (by omega),u2a,a0r hx,q2u];simp only[f0a,f0b,w1v];rw[d2g q g R n k d x hd (bF x kl) (by omega),q2u];dsimp only;rcases two (dotB d x)with dM|dM
  ·obtain⟨f2,a2,e2⟩:=IH f s ha hs c8
   refine⟨f2,a2,?_⟩;rw[dM,t2b,u2a,hw,t2x,u2b,r2z];exact e2
  ·rw[dM,s2i,u2b,a0r hz,q2u,Int.toNat_natCast,hz,q2u,r1n n q g R k (by omega) d hd _ x.id hf1 hn,q2u,j7]
   dsimp only;rcases two (fitL (q.dots.take k) ds d.name x.id)with fB|fB
   ·obtain⟨f2,a2,e2⟩:=IH (f.set k x.id) s (hmid.back hk) hs c8
    refine⟨f2,a2,?_⟩;rw[fB,t2b,u2a,hw,s2x,u2b,r2z];exact e2
   ·rw[fB,s2i,u2b,s2x,u2a,j0c]
    have hB:=hb x kl (by rw[dM,fB];rfl);rcases hB with⟨dV,hW⟩| ⟨b6,a,ks,last,Wn,ea,eR,el,eW,hW⟩
    ·subst dV
     obtain⟨f1,a1,e1⟩:=hW (f.set 0 x.id) s ⟨hmid.len,hmid.d,hmid.e⟩ hs;have a1' :Mid q.dots.length 0 (ds++ [x.id]) es f1:=⟨a1.len,a1.d,a1.e⟩;obtain⟨f2,a2,e2⟩:=IH f1 (b0c s (Wx x)) (a1'.back hk) (h0p _ hs) c8;refine⟨f2,a2,?_⟩;rw[show(((0:Nat):Int)==0)=true from rfl,u2a]
     rw[show(((1:Nat):Int))=1 from rfl]at e1
     rw[e1,q2u];rw[hw];exact e2
    ·have bX:(f.set k x.id)[k - 1]?=some last:=by
      have:=congrArg (λl:List Int=>l[k - 1]?) hmid.d;replace this:((f.set k x.id).take (k+1))[k - 1]?=(ds++ [x.id])[k - 1]?:=this;rw[List.getElem?_take_of_lt (by omega),s2l (by omega),el]at this;exact this
     have kg:wI ((k:Int) - 1)=((k - 1:Nat):Int):=by rw[a0f (by omega) (by omega)];omega
     have j4:wI (wI ((q.dots.length:Int)+k) - 1)=((q.dots.length+k - 1:Nat):Int):=by rw[a0f (x:=(q.dots.length:Int)+k) (by omega) (by omega),a0f (by omega) (by omega)];omega
     have eK:wI ((k:Int)+1)=((k+1:Nat):Int):=by rw[a0f (by omega) (by omega)];omega
     have dV:((k:Int)==0)=false:=by rw[beq_eq_false_iff_ne];omega
     obtain⟨zE,eO⟩:∃z,(f.set k x.id)[q.dots.length+k - 1]?=some z:=by
      have:q.dots.length+k - 1<(f.set k x.id).length:=by rw[hmid.len];omega
      exact⟨_,q2y this⟩
     unfold k0n at eW hW;rw[dV,u2b,kg,a0r ea,q2u,a0r bX,q2u,Int.toNat_natCast,bX,q2u];simp only[x0o];rcases two a.back with b7|b7<;>rcases two a.many with cG|cG<;>rw[b7]at eW hW<;>simp only[u2a,u2b]at eW hW<;>unfold s0d at eW hW<;>rw[cG]at eW hW<;>simp only[u2a,u2b]at eW hW
     ·obtain⟨f1,a1,e1⟩:=d0v q g R self n (ρ:=ρ) k b6 hk hN a last x.id g.nodes (g.nodes.length:Int) (p.length:Int) (ds++ [x.id]) es Wn g.edges 0 (λy hy bY=>hW _ (r2s.2 ⟨y,t2a.2 ⟨hy,bY⟩,rfl⟩)) (f.set k x.id) s hmid hs
      obtain⟨f2,a2,e2⟩:=IH f1 (b0c s (Wx x)) (a1.back hk) (h0p _ hs) c8;refine⟨f2,a2,?_⟩;rw[b7,u2b,cG,u2b];rw[c1b self n _ _ g.edges n _ _ _ _ _ _ _ _ _ _ _ _ _ (by omega) (by omega)];rw [<-eW]at e1;rw[e1];dsimp only;rw[hw];exact e2
     ·by_cases aS:Ev.Pair.mk last x.id∈ks
      ·rw[decide_eq_true aS]at eW hW
       simp only[u2a,s2b,List.flatMap_nil,r2p]at eW;obtain⟨f1,a1,e1⟩:=hW 0 (by simp) ((f.set k x.id).set (q.dots.length+k - 1) 0) s (hmid.edge b6 hk 0) hs;obtain⟨f2,a2,e2⟩:=IH f1 (b0c s (Wx x)) ((a1.mid b6 hk).back hk) (h0p _ hs) c8;refine⟨f2,a2,?_⟩;rw[b7,u2b,cG,u2a];rw[a0r (eR cG),q2u,n0k,decide_eq_true aS,u2a,j4,a0r eO,q2u,Int.toNat_natCast,eO,q2u,eK,e1,q2u,hw, <-eW];exact e2
      ·rw[decide_eq_false aS]at eW
       simp only[u2b,List.flatMap_nil]at eW;obtain⟨f2,a2,e2⟩:=IH (f.set k x.id) s (hmid.back hk) hs c8;refine⟨f2,a2,?_⟩;rw[b7,u2b,cG,u2a];rw[a0r (eR cG),q2u,n0k,decide_eq_false aS,u2b,hw,eW];exact e2
     ·obtain⟨f1,a1,e1⟩:=d0v q g R self n (ρ:=ρ) k b6 hk hN a x.id last g.nodes (g.nodes.length:Int) (p.length:Int) (ds++ [x.id]) es Wn g.edges 0 (λy hy bY=>hW _ (r2s.2 ⟨y,t2a.2 ⟨hy,bY⟩,rfl⟩)) (f.set k x.id) s hmid hs
      obtain⟨f2,a2,e2⟩:=IH f1 (b0c s (Wx x)) (a1.back hk) (h0p _ hs) c8;refine⟨f2,a2,?_⟩;rw[b7,u2a,cG,u2b];rw[c1b self n _ _ g.edges n _ _ _ _ _ _ _ _ _ _ _ _ _ (by omega) (by omega)];rw [<-eW]at e1;rw[e1];dsimp only;rw[hw];exact e2
     ·by_cases aS:Ev.Pair.mk x.id last∈ks
      ·rw[decide_eq_true aS]at eW hW
       simp only[u2a,s2b,List.flatMap_nil,r2p]at eW;obtain⟨f1,a1,e1⟩:=hW 0 (by simp) ((f.set k x.id).set (q.dots.length+k - 1) 0) s (hmid.edge b6 hk 0) hs;obtain⟨f2,a2,e2⟩:=IH f1 (b0c s (Wx x)) ((a1.mid b6 hk).back hk) (h0p _ hs) c8;refine⟨f2,a2,?_⟩;rw[b7,u2a,cG,u2a];rw[a0r (eR cG),q2u,n0k,decide_eq_true aS,u2a,j4,a0r eO,q2u,Int.toNat_natCast,eO,q2u,eK,e1,q2u,hw, <-eW];exact e2
      ·rw[decide_eq_false aS]at eW
       simp only[u2b,List.flatMap_nil]at eW;obtain⟨f2,a2,e2⟩:=IH (f.set k x.id) s (hmid.back hk) hs c8;refine⟨f2,a2,?_⟩;rw[b7,u2a,cG,u2a];rw[a0r (eR cG),q2u,n0k,decide_eq_false aS,u2b,hw,eW];exact e2
theorem h2o(f:List Int)(s:List Y2×Bool)(hs:s.1.length<=2000)(hf:f.length<=1000):q92z (f,(),s.1,(s.2,()),())=some (f,(),(push s f).1,((push s f).2,()),()):=by
 unfold q92z push;dsimp only;by_cases h:s.1.length=2000
 ·rw[if_pos h,show((s.1.length:Int)==2000)=true by rw[h];rfl,u2a]
 ·rw[if_neg h,show((s.1.length:Int)==2000)=false by rw[beq_eq_false_iff_ne];omega,u2b,c1t f hf,q2u]
  dsimp only;rw[b0z];unfold room;rw[q2w];constructor<;>exact r2n (by simp;omega)
def AOk(g:Graph)(f:List Int):Prop:=∀x∈f,x∈g.nodes.map Ev.Node.id\/x∈g.edges.map Edg.id\/x=0
theorem AOk.app {g:Graph}{a b:List Int}(ha:AOk g a)(hb:AOk g b):AOk g (a++b):=by
 intro x hx;rcases r2x.1 hx with h|h
 ·exact ha x h
 ·exact hb x h
theorem AOk.one {g:Graph}{y:Int}(h:y∈g.nodes.map Ev.Node.id\/y∈g.edges.map Edg.id\/y=0):AOk g [y]:=by
 intro x hx;rw[r2w]at hx;rw[hx];exact h
def m0d(q:Query)(g:Graph)(R:List Y7)(N0:Nat)(pass:List Int->Bool):Prop:=
 ∀(f:List Int),f.length=2*q.dots.length - 1->AOk g f->∀n,N0<=n->∃y:Envr,q55z n ((q,g,R,()),f,())=some (y,(q,g,R,()),f,())/\q68z n (y,q.wher,())=some (pass f,())
theorem f1u(y:Envr):Envr.mk (Graph.mk y.g.nodes y.g.edges y.g.next) y.at_=y:=rfl
def finF(pass:List Int->Bool)(ds es:List Int):List Y2:=bif pass (ds++es)then [ds++es]else []
theorem y0m{q:Query}{g:Graph}{R:List Y7}{N0:Nat}{pass:List Int->Bool}(hp:m0d q g R N0 pass)(hN:q.dots.length<=100)(h1:1<=q.dots.length)(ds es:List Int)(hd:AOk g ds)(he:AOk g es)(m:Nat)(hm:N0+1<=m):
  WOk q g R (q21z m) q.dots.length ds es (finF pass ds es):=by
 intro f s ha hs;obtain⟨n,rfl⟩:∃n,m=n+1:=⟨m - 1,by omega⟩;have ef:f=ds++es:=by
  have e2:=ha.e;rw[List.take_of_length_le (by rw[s2a,ha.len];omega)]at e2;rw [<-ha.d, <-e2,t2q]
 obtain⟨y,ey,ep⟩:=hp f ha.len (by rw[ef];exact hd.app he) n (by omega);refine⟨f,ha,?_⟩;rw[q21z];unfold u0z;dsimp only;rw[show((q.dots.length:Int)==(q.dots.length:Int))=true from beq_self_eq_true _,u2a]
 simp only[f0a,f0b,ey,q2u,f1u,ep,a0p];unfold finF;rw [<-ef];cases oo:pass f with
 |false=>rfl
 |true=>
  rw[u2a,u2a,h2o f s hs (by rw[ha.len];omega)];rfl
def f0f(g:Graph)(fin:List Int->List Int->List Y2):List Y16->List Ev.Dot->List Int->List Int->List Y2
 |[],_,ds,es=>fin ds es
 |(d,a,ks)::r,pre,ds,es=>g.nodes.flatMap λx=>bif dotB d x&&fitL pre ds d.name x.id then(k0n g a ks (ds.getLast?.getD 0) x.id).flatMap (λe=>f0f g fin r (pre++ [d]) (ds++ [x.id]) (es++ [e]))else []
def t0c(g:Graph)(fin:List Int->List Int->List Y2)(d:Ev.Dot)(rem:List Y16):List Y2:=
 g.nodes.flatMap λx=>bif dotB d x&&fitL [] [] d.name x.id then f0f g fin rem [d] [x.id] []else []
theorem r0c{q:Query}{g:Graph}{R:List Y7}(n:Nat)(hn:1100<=n)(k:Nat)(hk:k<q.dots.length)(hN:q.dots.length<=100)(d:Ev.Dot)(hd:q.dots[k]?=some d)(ds es:List Int)(eA:ds.length=k)
  (bW:g.nodes.length<=40)(bR:g.edges.length<=60)(bF:∀x∈g.nodes,x.labels.length<=100)(Wx:Ev.Node->List Y2)
  (hb:∀x∈g.nodes,(dotB d x&&fitL (q.dots.take k) ds d.name x.id)=true->BOk q g R (q21z n) k ds es x.id (Wx x)):
  WOk q g R (q21z (n+1)) k ds es (g.nodes.flatMap λx=>bif dotB d x&&fitL (q.dots.take k) ds d.name x.id then Wx x else []):=by
 intro f s ha hs;rw[q21z];unfold u0z;dsimp only;rw[show((k:Int)==(q.dots.length:Int))=false by rw[beq_eq_false_iff_ne];omega,u2b];obtain⟨f',a',e'⟩:=i0u q g R (q21z n) n hn (λ(o131,o0,ny,o134,mb,_)=>some (((Query.mk o131.1.dots o131.1.arrows o131.1.wher o131.1.items o131.1.dist),(Graph.mk o131.2.1.nodes o131.2.1.edges o131.2.1.next),o131.2.2.1,()),mb,(()),ny,(o134.1,()),())) (λ(_)=>none) k hk (by omega) d hd ds es eA bW bR bF Wx hb g.nodes [] rfl f s n ha hs (by omega);exact⟨f',a',e'⟩
theorem x0x{g:Graph}{a:Ev.Arrow}{ks:List Ev.Pair}{x y e:Int}(h:e∈k0n g a ks x y):e∈g.edges.map Edg.id\/e=0:=by
 have key:∀{fr tg:Int},e∈s0d g a ks fr tg->e∈g.edges.map Edg.id\/e=0:=by
  intro fr tg h;unfold s0d at h;cases hm:a.many with
  |true=>
   rw[hm,u2a]at h;cases hd:decide (Ev.Pair.mk fr tg∈ks)with
   |true=>rw[hd,u2a,r2w]at h;exact .inr h
   |false=>rw[hd,u2b]at h;cases h
  |false=>
   rw[hm,u2b]at h;obtain⟨z,hz,rfl⟩:=r2s.1 h;exact .inl (r2s.2 ⟨z,(t2a.1 hz).1,rfl⟩)
 unfold k0n at h;cases hb:a.back with
 |true=>rw[hb,u2a]at h;exact key h
 |false=>rw[hb,u2b]at h;exact key h
theorem m0j{q:Query}{g:Graph}{R:List Y7}{N0:Nat}{pass:List Int->Bool}(hp:m0d q g R N0 pass)(hN0:1100<=N0)(hN:q.dots.length<=100)
  (bW:g.nodes.length<=40)(bR:g.edges.length<=60)(bF:∀x∈g.nodes,x.labels.length<=100):
  ∀(rem:List Y16) (pre:List Ev.Dot) (ar:List Ev.Arrow) (ds es:List Int),q.dots=pre++rem.map (λz=>z.1)->q.arrows=ar++rem.map (λz=>z.2.1)->pre.length=ar.length+1->ds.length=pre.length->AOk g ds->AOk g es->
   (∀j z,rem[j]?=some z->z.2.1.many=true->R[ar.length+j]?=some (tr z.2.2))-> ∀m,N0+1+rem.length<=m->WOk q g R (q21z m) pre.length ds es (f0f g (finF pass) rem pre ds es)
 |[],pre,ar,ds,es,h1,h2,h3,h4,h5,h6,h7,m,hm=>by
  have e:pre=q.dots:=by rw[h1];simp
  rw[f0f,e];exact y0m hp hN (by rw [<-e];omega) ds es h5 h6 m (by simpa using hm)
 |(d,a,ks)::r,pre,ar,ds,es,h1,h2,h3,h4,h5,h6,h7,m,hm=>by
  obtain⟨n,rfl⟩:∃n,m=n+1:=⟨m - 1,by omega⟩;rw[r2m]at hm;have hl:pre.length<q.dots.length:=by rw[h1];simp
  have ed:q.dots[pre.length]?=some d:=by rw[h1];simp
  have ea:q.arrows[pre.length - 1]?=some a:=by rw[h2,show pre.length - 1=ar.length by omega];simp
  have et:q.dots.take pre.length=pre:=by rw[h1];simp
  have:=r0c (R:=R) n (by omega) pre.length hl hN d ed ds es h4 bW bR bF (λx=>(k0n g a ks (ds.getLast?.getD 0) x.id).flatMap (λe=>f0f g (finF pass) r (pre++ [d]) (ds++ [x.id]) (es++ [e]))) ?_
  ·rw[et]at this
   exact this
  ·intro x hx hc
   refine .inr ⟨by omega,a,ks,ds.getLast?.getD 0,λe=>f0f g (finF pass) r (pre++ [d]) (ds++ [x.id]) (es++ [e]),ea,λhm=>?_,?_,rfl,λe he=>?_⟩
   ·have:=h7 0 (d,a,ks) rfl hm
    rw[show pre.length - 1=ar.length by omega];exact this
   ·rw[show pre.length - 1=ds.length - 1 by omega,List.getLast?_eq_getElem?,q2y (by omega)]
    rfl
   ·have hw:=m0j hp hN0 hN bW bR bF r (pre++ [d]) (ar++ [a]) (ds++ [x.id]) (es++ [e]) (by rw[h1];simp) (by rw[h2];simp) (by simp;omega) (by simp[h4])
     (h5.app (AOk.one (.inl (r2s.2 ⟨x,hx,rfl⟩))))
     (h6.app (AOk.one (.inr (x0x he))))
     (by intro j z hz hm;have:=h7 (j+1) z (by simpa using hz) hm;rw[r2j,s2v,show ar.length+1+j=ar.length+(j+1)by omega];exact this) n (by omega)
    rw[r2j,s2v]at hw;exact hw
theorem v0q{q:Query}{g:Graph}{R:List Y7}{N0:Nat}{pass:List Int->Bool}(hp:m0d q g R N0 pass)(hN0:1100<=N0)(hN:q.dots.length<=100)
  (bW:g.nodes.length<=40)(bR:g.edges.length<=60)(bF:∀x∈g.nodes,x.labels.length<=100)(d:Ev.Dot)(rem:List Y16)(h1:q.dots=d::rem.map (λz=>z.1))(h2:q.arrows=rem.map (λz=>z.2.1))
  (h7:∀(j:Nat) (z:Ev.Dot×Ev.Arrow×List Ev.Pair),rem[j]?=some z->z.2.1.many=true->R[j]?=some (tr z.2.2))(m:Nat)(hm:N0+2+rem.length<=m):
  WOk q g R (q21z m) 0 [] [] (t0c g (finF pass) d rem):=by
 obtain⟨n,rfl⟩:∃n,m=n+1:=⟨m - 1,by omega⟩;have:=r0c (R:=R) n (by omega) 0 (by rw[h1];simp) hN d (by rw[h1];rfl) [] [] rfl bW bR bF (λx=>f0f g (finF pass) rem [d] [x.id] []) ?_
 ·exact this
 ·intro x hx hc
  refine .inl ⟨rfl,?_⟩;exact m0j hp hN0 hN bW bR bF rem [d] [] [x.id] [] (by rw[h1];rfl) (by rw[h2];rfl) rfl rfl (by intro y hy;rw[r2w]at hy;subst hy;exact .inl (r2s.2 ⟨x,hx,rfl⟩)) (by intro y hy;cases hy)
   (by intro j z hz hm;rw[List.length_nil,s2j];exact h7 j z hz hm) n (by omega)
def envD:List Ev.Dot->List Int->List Y27->List Y27
 |d::r,y::s,at_=>envD r s (bif !(seq d.name zb0)then(bif y !=0 then b0d .str .i64 at_ d.name y else at_)else at_)
 |_,_,at_=>at_
def envA:List Ev.Arrow->List Int->List Y27->List Y27
 |a::r,y::s,at_=>envA r s (bif !(seq a.name zb0)then b0d .str .i64 at_ a.name y else at_)
 |_,_,at_=>at_
theorem d2p{ρ:Type}(n:Nat)(kr:Unit->Option ρ)(K:Y19->Option ρ)(e:Envr)(q:Query)(g:Graph)(R:List Y7)(f:List Int):
  ∀(l:List Ev.Dot) (t s:List Int) (at_:List Y27),f=t++s->l.length<=s.length->a0b (m0e n kr) K (t.length:Int) l ((e,()),at_,(q,g,R,()),f,())=K ((e,()),envD l s at_,(q,g,R,()),f,())
 |[],t,s,at_,hf,hl=>by rw[a0b,envD];intro a b c d h;cases h
 |d::r,t,s,at_,hf,hl=>by
  obtain⟨y,s,rfl⟩:∃y s',s=y::s' :=by
   cases s with
   |nil=>simp at hl
   |cons y s' =>exact⟨y,s',rfl⟩
  have hy:f[t.length]?=some y:=by rw[hf];simp
  have ih:=λat_=>d2p n kr K e q g R f r (t++ [y]) s at_ (by rw[hf];simp) (by simpa using hl);rw[r2j,s2v,Int.natCast_add]at ih;rw[a0b,envD];unfold m0e at ih⊢;dsimp only;cases hn:seq d.name zb0 with
  |true=>rw[s2i,u2b,u2b];exact ih _
  |false=>
   rw[t2b,u2a,u2a,a0r hy,q2u,Int.toNat_natCast,hy,q2u];cases h0:(y !=0)with
   |true=>rw[u2a,u2a,q2u,q2u];exact ih _
   |false=>rw[u2b,u2b];exact ih _
theorem e2m{ρ:Type}(n:Nat)(kr:Unit->Option ρ)(K:Y19->Option ρ)(e:Envr)(q:Query)(hN:q.dots.length<=100)(g:Graph)(R:List Y7)(f:List Int)(h0:f.length<=1000):
  ∀(l:List Ev.Arrow) (t s:List Int) (at_:List Y27),f=t++s->q.dots.length<=t.length->l.length<=s.length->a0b (j0b n kr) K ((t.length:Int) - q.dots.length) l ((e,()),at_,(q,g,R,()),f,())=K ((e,()),envA l s at_,(q,g,R,()),f,())
 |[],t,s,at_,hf,ht,hl=>by rw[a0b,envA];intro a b c d h;cases h
 |d::r,t,s,at_,hf,ht,hl=>by
  obtain⟨y,s,rfl⟩:∃y s',s=y::s' :=by
   cases s with
   |nil=>simp at hl
   |cons y s' =>exact⟨y,s',rfl⟩
  have hy:f[t.length]?=some y:=by rw[hf];simp
  have htl:t.length<=1000:=by rw[hf]at h0;simp at h0;omega
  have ih:=λat_=>e2m n kr K e q hN g R f h0 r (t++ [y]) s at_ (by rw[hf];simp) (by simp;omega) (by simpa using hl);rw[r2j,s2v,Int.natCast_add,show((t.length:Int)+((1:Nat):Int) - (q.dots.length:Int))=(t.length:Int) - q.dots.length+1 by omega]at ih;rw[a0b,envA];unfold j0b at ih⊢;dsimp only;cases hn:seq d.name zb0 with
  |true=>rw[s2i,u2b,u2b];exact ih _
  |false=>
   rw[t2b,u2a,u2a,a0f (by omega) (by omega),show((q.dots.length:Int)+((t.length:Int) - q.dots.length))=(t.length:Int)by omega,a0r hy,q2u,Int.toNat_natCast,hy,q2u];exact ih _
theorem g2f{ρ:Type}(n:Nat)(kr:Unit->Option ρ)(K:Y19->Option ρ)(e:Envr)(q:Query)(hN:q.dots.length<=100)(g:Graph)(R:List Y7)(f:List Int)(h0:f.length<=1000)
  (l:List Ev.Arrow)(t s:List Int)(at_:List Y27)(hf:f=t++s)(ht:q.dots.length<=t.length)(hl:l.length<=s.length)(i:Int)(hi:i=(t.length:Int) - q.dots.length):a0b (j0b n kr) K i l ((e,()),at_,(q,g,R,()),f,())=K ((e,()),envA l s at_,(q,g,R,()),f,()):=by
 subst hi;exact e2m n kr K e q hN g R f h0 l t s at_ hf ht hl
def j0l(q:Query)(g:Graph)(f:List Int):Envr:=⟨g,envA q.arrows (f.drop q.dots.length) (envD q.dots f [])⟩
theorem o1r(q:Query)(g:Graph)(R:List Y7)(f:List Int)(hN:q.dots.length<=100)(ha:q.arrows.length+1=q.dots.length)(hf:f.length=2*q.dots.length - 1)(n:Nat)(hn:200<=n):
  q55z n ((q,g,R,()),f,())=some (j0l q g f,(q,g,R,()),f,()):=by
 unfold q55z;dsimp only;rw[q1v n _ _ q.dots n _ _ _ _ (by omega) (by omega)];refine Eq.trans (d2p n _ _ ⟨⟨[],[],0⟩,[]⟩ q g R f q.dots [] f [] rfl (by omega)) ?_;dsimp only;rw[p1g n _ _ q.arrows n _ _ _ _ (by omega) (by omega)];refine Eq.trans (g2f n _ _ ⟨⟨[],[],0⟩,[]⟩ q hN g R f (by omega) q.arrows (f.take q.dots.length) (f.drop q.dots.length) (envD q.dots f []) (t2q _ _).symm (by rw[r2u];omega) (by rw[s2a];omega) 0 (by rw[r2u];omega)) ?_;rfl
theorem k1b{at_:List Y27}{s:Bt}{v:Int}(hv:wfI .i64 v)(h:atOk at_):atOk (b0d .str .i64 at_ s v):=by
 induction at_ with
 |nil=>
  intro q hq;have:q=(s,v):=by simpa[b0d]using hq
  subst this;exact hv
 |cons y a ih=>
  intro q hq;rw[b0d]at hq;cases hk:b0o .str s y.1 with
  |true=>
   rw[hk,u2a]at hq;rcases r2g.1 hq with rfl|hq
   ·exact hv
   ·exact h q (by simp[hq])
  |false=>
   rw[hk,u2b]at hq;rcases r2g.1 hq with rfl|hq
   ·exact h _ (by simp)
   ·exact ih (λz hz=>h z (by simp[hz])) q hq
theorem h1j:∀(l:List Ev.Dot) (s:List Int) (at_:List Y27),(∀x∈s,wfI .i64 x)->atOk at_->atOk (envD l s at_)
 |[],s,at_,hs,h=>by rw[envD];exact h;intro a b c d h;cases h
 |d::r,[],at_,hs,h=>by rw[envD];exact h;intro a b c d _ h;cases h
 |d::r,y::s,at_,hs,h=>by
  rw[envD];refine h1j r s _ (λx hx=>hs x (by simp[hx])) ?_;cases (!(seq d.name zb0))with
  |false=>exact h
  |true=>
   cases (y !=0)with
   |false=>exact h
   |true=>exact k1b (hs y (by simp)) h
theorem h1v:∀(l:List Ev.Arrow) (s:List Int) (at_:List Y27),(∀x∈s,wfI .i64 x)->atOk at_->atOk (envA l s at_)
 |[],s,at_,hs,h=>by rw[envA];exact h;intro a b c d h;cases h
 |d::r,[],at_,hs,h=>by rw[envA];exact h;intro a b c d _ h;cases h
 |d::r,y::s,at_,hs,h=>by
  rw[envA];refine h1v r s _ (λx hx=>hs x (by simp[hx])) ?_;cases (!(seq d.name zb0))with
  |false=>exact h
  |true=>exact k1b (hs y (by simp)) h
def allF(A:List Int):Nat->List Y2
 | 0=>[[]]
 |n+1=>A.flatMap λx=>(allF A n).map λl=>x::l
theorem w0v(A:List Int):∀f:List Int,(∀x∈f,x∈A)->f∈allF A f.length
 |[],_=>by simp[allF]
 |x::r,h=>List.mem_flatMap.2 ⟨x,h x (by simp),r2s.2 ⟨r,w0v A r λy hy=>h y (by simp[hy]),rfl⟩⟩
def p0u(q:Query)(g:Graph)(f:List Int):Bool:=q.wher.all λt=>((tval g (j0l q g f).at_ t).kind==1)&& ((tval g (j0l q g f).at_ t).n==1)
theorem q1p(n:Nat)(e:Envr)(w:List Term)(V:Term->Val)(h:∀t∈w,q72z n (e,t,())=some (V t,()))(hl:w.length<=1000)(hn:w.length<n):
  q68z n (e,w,())=some (w.all λt=>((V t).kind==1)&& ((V t).n==1),()):=by
 have key:∀(l:List Term) (i:Int),(∀t∈l,q72z n (e,t,())=some (V t,()))->a0b (ρ:=Bool×Unit) (m0l n (λ(v11,_)=>some (v11,()))) (λ(o6,_)=>some (true,())) i l ((e,()),())=some (l.all λt=>((V t).kind==1)&& ((V t).n==1),()):=by
  intro l
  induction l with
  |nil=>intro i _;rfl
  |cons t r ih=>
   intro i hh;have ih:=ih (i+1) λt ht=>hh t (by simp[ht]);rw[a0b];unfold m0l at ih⊢;dsimp only;rw[Term.eta2,f1u,hh t (by simp),q2u];dsimp only;unfold d1b;rw[q2u,List.all_cons];dsimp only;rw[Val.eta];cases hk:((V t).kind==1)with
   |false=>rw[t2b,s2o,u2a];rfl
   |true=>
    cases hv:((V t).n==1)with
    |false=>rfl
    |true=>rw[s2i,s2e,u2b,s2x,s2x];exact ih
 unfold q68z;dsimp only;rw[o1j n _ _ w n _ (by omega) hn];exact key w 0 h
theorem p1i{q:Query}{g:Graph}(hg:GOk g)(b:List Y22)(ht:∀t∈q.wher,tOk t)(hc:∀t∈q.wher,tchk b t 1=0)(hw:q.wher.length<=1)(hN:q.dots.length<=100)(ha:q.arrows.length+1=q.dots.length):
  ∃N0,1100<=N0/\∀R,m0d q g R N0 (p0u q g):=by
 have jV:∀f,AOk g f->∀x∈f,wfI .i64 x:=by
  intro f hf x hx;rcases hf x hx with h|h|h
  ·obtain⟨y,hy,rfl⟩:=r2s.1 h
   exact(hg.ok.1.2 y hy).1
  ·obtain⟨y,hy,rfl⟩:=r2s.1 h
   exact(hg.ok.2.1.2 y hy).1
  ·rw[h];unfold wfI;decide
 have hA:∀f,AOk g f->∃N,∀n,N<=n->∀t∈q.wher,q72z n (j0l q g f,t,())=some (tval g (j0l q g f).at_ t,()):=by
  intro f hf;refine m1s q.wher λt h=>?_;have lf:atOk (j0l q g f).at_:=h1v _ _ _ (λx hx=>jV f hf x (List.mem_of_mem_drop hx)) (h1j _ _ _ (jV f hf) (λp hp=>by cases hp));exact(v0n hg lf b t 1 (ht t h) (hc t h)).1
 obtain⟨N1,h1⟩:=m1s (p:=λn (f:List Int)=>AOk g f->∀t∈q.wher,q72z n (j0l q g f,t,())=some (tval g (j0l q g f).at_ t,()))
  (allF (g.nodes.map Ev.Node.id++(g.edges.map Edg.id++ [0])) (2*q.dots.length - 1)) (λf _=>by
   by_cases hf:AOk g f
   ·obtain⟨N,h⟩:=hA f hf
    exact⟨N,λn hn _=>h n hn⟩
   ·exact⟨0,λn _ h=>absurd h hf⟩)
 refine⟨N1+1100,by omega,λR f hl hf n hn=>⟨j0l q g f,o1r q g R f hN ha hl n (by omega),?_⟩⟩;have hm:=w0v (g.nodes.map Ev.Node.id++(g.edges.map Edg.id++ [0])) f λx hx=>by
  rcases hf x hx with h|h|h
  ·exact List.mem_append_left _ h
  ·exact List.mem_append_right _ (List.mem_append_left _ h)
  ·rw[h];simp
 rw[hl]at hm;exact q1p n _ q.wher _ (h1 n (by omega) f hm hf) (by omega) (by omega)
def rsK(n:Nat)(g:Graph)(kind:Bt):List Ev.Pair:=(((h0a n (g,kind,())).getD ([],())).1).map λz=>z.1
theorem u1h(n:Nat)(hn:100100<=n)(g:Graph)(kind:Bt)(hc:chkG g=0):h0a n (g,kind,())=some (tr (rsK n g kind),())/\ ∀k,k∈rsK n g kind↔Rc (stp kind g.edges) k.p k.q:=by
 obtain⟨ks,h1,h2,h3,h4⟩:=l2t n hn g kind hc;have e:rsK n g kind=ks:=by
  unfold rsK;rw[h4];show(tr ks).map _=ks;unfold tr;rw[List.map_map];exact List.map_id' ks
 rw[e];exact⟨h4,h2⟩
def rk(n:Nat)(g:Graph)(a:Ev.Arrow):List Ev.Pair:=bif a.many then rsK n g a.type else []
theorem k1i{ρ:Type}(n:Nat)(hn:100100<=n)(q:Query)(g:Graph)(hc:chkG g=0)(kr:Unit->Option ρ)(K:Y34->Option ρ):
  ∀(l:List Ev.Arrow) (i:Int) (o:List Y7),o.length+l.length<=1000->a0b (e0u n kr) K i l ((g,()),(q,g,()),o,())=K ((g,()),(q,g,()),o++l.map (λa=>tr (rk n g a)),())
 |[],i,o,h=>by rw[a0b,t2k,r2p]
 |a::r,i,o,h=>by
  rw[r2m]at h;have ih:=λz=>k1i n hn q g hc kr K r (i+1) (o++ [z]) (by simp;omega);rw[a0b,r2k];unfold e0u at ih⊢;dsimp only;unfold rk;cases hm:a.many with
  |true=>
   rw[u2a,f0b,(u1h n hn g a.type hc).1,q2u];dsimp only;rw[b0z (e0l (by simp;omega) (by omega)),ih (tr (rsK n g a.type)),s2g];rfl
  |false=>
   rw[u2b,b0z (e0l (by simp;omega) (by omega)),ih [],s2g];rfl
theorem e2a(n:Nat)(hn:100100<=n)(q:Query)(g:Graph)(hc:chkG g=0)(ha:q.arrows.length<=100):i0q n (q,g,())=some ((q,g,q.arrows.map (λa=>tr (rk n g a)),()),()):=by
 unfold i0q;dsimp only;rw[t0k n _ _ q.arrows n _ _ _ (by omega) (by omega)];refine Eq.trans (k1i n hn q g hc _ _ q.arrows 0 [] (by simp;omega)) ?_;rfl
def i0k(n:Nat)(g:Graph)(ds:List Ev.Dot)(ar:List Ev.Arrow):List Y16:=(ds.zip ar).map λz=>(z.1,z.2,rk n g z.2)
def h0q(n:Nat)(q:Query)(g:Graph)(pass:List Int->Bool):List Y2:=
 match q.dots with
 |[]=>[]
 |d::r=>t0c g (finF pass) d (i0k n g r q.arrows)
theorem i1c(g:Graph)(pass:List Int->Bool):∀(rem:List Y16) (pre:List Ev.Dot) (ds es:List Int),∀w∈f0f g (finF pass) rem pre ds es,w.length=ds.length+es.length+2*rem.length
 |[],pre,ds,es,w,h=>by
  rw[f0f]at h;unfold finF at h;cases hp:pass (ds++es)with
  |true=>rw[hp,u2a,r2w]at h;rw[h];simp
  |false=>rw[hp,u2b]at h;cases h
 |(d,a,ks)::r,pre,ds,es,w,h=>by
  rw[f0f]at h;obtain⟨x,hx,h⟩:=List.mem_flatMap.1 h;cases hc:dotB d x&&fitL pre ds d.name x.id with
  |false=>rw[hc,u2b]at h;cases h
  |true=>
   rw[hc,u2a]at h;obtain⟨e,he,h⟩:=List.mem_flatMap.1 h;rw[i1c g pass r _ _ _ w h];simp;omega
theorem x1r(g:Graph)(pass:List Int->Bool)(d:Ev.Dot)(rem:List Y16)(w:List Int)(h:w∈t0c g (finF pass) d rem):w.length=1+2*rem.length:=by
 obtain⟨x,hx,h⟩:=List.mem_flatMap.1 h;cases hc:dotB d x&&fitL [] [] d.name x.id with
 |false=>rw[hc,u2b]at h;cases h
 |true=>
  rw[hc,u2a]at h;rw[i1c g pass rem _ _ _ w h];simp
theorem f1e{α β:Type}:∀(l:List α) (m:List β),l.length=m.length->(l.zip m).map (λz=>z.1)=l/\(l.zip m).map (λz=>z.2)=m
 |[],[],_=>⟨rfl,rfl⟩
 |[],y::m,h=>by simp at h
 |x::l,[],h=>by simp at h
 |x::l,y::m,h=>by
  have ih:=f1e l m (by simpa using h);simp only[List.zip_cons_cons,r2k,ih.1,ih.2,and_self]
theorem f1a(q:Query)(g:Graph)(hc:chkG g=0)(pass:List Int->Bool)(N0:Nat)(hN0:1100<=N0)(hp:∀R,m0d q g R N0 pass)(hN:q.dots.length<=100)(h1:1<=q.dots.length)(ha:q.arrows.length+1=q.dots.length)(n:Nat)(hn:N0+110000<=n)(hq:q93z n (q,())=some (0,())):
  c0t n (q,g,())=bif decide ((h0q n q g pass).length<=2000)then some (i0j ltLL (h0q n q g pass),0,())else some ([],10,()):=by
 obtain⟨bW,bR,iT,_⟩:=i0f hc;have bF:∀x∈g.nodes,x.labels.length<=100:=by
  intro x hx;have:=(i1n iT x hx).1;unfold labE at this;cases hb:decide ((x.labels.length:Int) >4)with
  |true=>rw[hb]at this;cases this
  |false=>have:=of_decide_eq_false hb;omega
 obtain⟨d,r,hd⟩:∃d r,q.dots=d::r:=by
  cases hq:q.dots with
  |nil=>rw[hq]at h1;simp at h1
  |cons d r=>exact⟨d,r,rfl⟩
 have mM:r.length=q.arrows.length:=by rw[hd]at ha;simp at ha;omega
 have hz:=f1e r q.arrows mM;have hr1:(i0k n g r q.arrows).map (λz=>z.1)=r:=by unfold i0k;rw[List.map_map];exact hz.1
 have hr2:(i0k n g r q.arrows).map (λz=>z.2.1)=q.arrows:=by unfold i0k;rw[List.map_map];exact hz.2
 have hZ:(i0k n g r q.arrows).length=r.length:=by rw [<-s2c (f:=λz=>z.1),hr1]
 have hW:h0q n q g pass=t0c g (finF pass) d (i0k n g r q.arrows):=by unfold h0q;rw[hd]
 have hE:∀w∈h0q n q g pass,w.length<=1000000:=by
  intro w hw;rw[hW]at hw;rw[x1r g pass d _ w hw,hZ];rw[hd]at hN;simp at hN;omega
 obtain⟨f',_,ew⟩:=v0q (R:=q.arrows.map (λa=>tr (rk n g a))) (hp _) hN0 hN bW bR bF d (i0k n g r q.arrows) (by rw[hr1,hd]) hr2.symm (λj z hz hm=>by
  have e:=congrArg (λl=>l[j]?) hr2;rw[s2p,hz]at e;rw[s2p, <-e];show some (tr (rk n g z.2.1))=some (tr z.2.2);have:z∈i0k n g r q.arrows:=r2l hz;obtain⟨y,_,rfl⟩:=r2s.1 this;rfl) n (by rw[hZ];rw[hd]at hN;simp at hN;omega) (List.replicate (2*q.dots.length - 1) 0) ([],false) ⟨by simp,rfl,by rw[Nat.zero_sub,List.take_zero]⟩ (by simp)
 rw [<-hW]at ew;unfold c0t;dsimp only;rw[f0a,hq,q2u];dsimp only;rw[show((0:Int) !=0)=false from rfl,u2b,f0b,r0i g n (by omega),q2u,hc]
 dsimp only;rw[show((0:Int) !=0)=false from rfl,u2b,e2a n (by omega) q g hc (by omega),q2u]
 dsimp only;unfold q20z;dsimp only;rw[a0f (by omega) (by omega)];unfold cnt?;rw[if_pos (by omega),q2u,show((q.dots.length:Int)+(q.arrows.length:Int)).toNat=2*q.dots.length - 1 by omega,b0z (e0l (by omega) (by omega)),f0a,f0b];rw[show(0:Int)=((0:Nat):Int)from rfl]at ew⊢
 rw[ew,q2u];dsimp only;rw[q2u];dsimp only;have hpe:=k1e (h0q n q g pass) ([],false) (by simp);rw[List.length_nil,s2j,r2z]at hpe;cases hle:decide ((h0q n q g pass).length<=2000)with
 |true=>
  have hle:=of_decide_eq_true hle;rw[hpe.1 hle];dsimp only;rw[u2b,o1m _ (by omega) hE];rfl
 |false=>
  have hle:=of_decide_eq_false hle;rw[hpe.2 (by omega)];rfl
theorem o2i{b:List Y22}:∀{l:List Term},whF b l=0->∀t∈l,tchk b t 1=0
 |[],_,t,ht=>by cases ht
 |x::r,h,t,ht=>by
  rw[whF]at h;cases hx:(tchk b x 1 !=0)with
  |true=>rw[hx,u2a]at h;rw[h]at hx;cases hx
  |false=>
   rw[hx,u2b]at h;rcases r2g.1 ht with rfl|ht
   ·simpa[bne]using hx
   ·exact o2i h t ht
theorem k1v{q:Query}(h:chkQ q=0):(1<=q.dots.length/\q.dots.length<=5)/\q.wher.length<=1/\q.arrows.length+1=q.dots.length/\q.dots.all dtB=true/\q.arrows.all arB=true/\∃b,nmA q.arrows (nmD q.dots [])=some b/\∀t∈q.wher,tchk b t 1=0:=by
 unfold chkQ at h;cases hb:((((decide (((q.dots.length:Int):Int)<1)) || (decide (((q.dots.length:Int):Int) >5))) || (decide (((q.items.length:Int):Int)<1))) || (decide (((q.items.length:Int):Int) >5))) || (decide (((q.wher.length:Int):Int) >1))with
 |true=>rw[hb,u2a]at h;cases h
 |false=>
  rw[hb,u2b]at h;simp only[r2o,decide_eq_false_iff_not]at hb;cases ha:((q.arrows.length:Int) !=(q.dots.length:Int) - 1)with
  |true=>rw[ha,u2a]at h;cases h
  |false=>
   rw[ha,u2b]at h;have ha:(q.arrows.length:Int)=(q.dots.length:Int) - 1:=by simpa[bne]using ha
   cases hd:q.dots.all dtB with
   |false=>rw[hd]at h;cases h
   |true=>
    cases hr:q.arrows.all arB with
    |false=>rw[hd,hr]at h;cases h
    |true=>
     rw[hd,hr]at h;cases hn:nmA q.arrows (nmD q.dots [])with
     |none=>rw[hn]at h;cases h
     |some b=>
      rw[hn]at h;simp only[s2i,u2b]at h;cases hw:(whF b q.wher !=0)with
      |true=>rw[hw,u2a]at h;rw[h]at hw;cases hw
      |false=>exact⟨by omega,by omega,by omega,rfl,rfl,b,rfl,o2i (by simpa[bne]using hw)⟩
theorem v1c(a b:Bt):b0o .str a b=true↔a=b:=by
 show(a.data==b.data)=true↔a=b;rw[beq_iff_eq];exact⟨λh=>by cases a;cases b;cases h;rfl,λh=>by rw[h]⟩
end Pure

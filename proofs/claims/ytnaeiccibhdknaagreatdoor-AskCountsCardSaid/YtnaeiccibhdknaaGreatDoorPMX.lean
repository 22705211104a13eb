import Derived.Test.YtnaeiccibhdknaaGreatDoorPRX
set_option linter.unusedSimpArgs false
set_option linter.unusedVariables false
noncomputable section
namespace Pure
open Esp Ev Go
theorem e0z(q:Query):Query.mk q.dots q.arrows q.wher q.items q.dist=q:=rfl
theorem e0x(g:Graph):Graph.mk g.nodes g.edges g.next=g:=rfl
theorem y0u(a:Ev.Arrow):Ev.Arrow.mk a.name a.type a.back a.many=a:=rfl
theorem t1n(x:Ev.Node):Ev.Node.mk x.id x.labels x.props=x:=rfl
def dotB(d:Ev.Dot)(x:Ev.Node):Bool:=seq d.label zb0 || hasL x.labels d.label
theorem e2c(q:Query)(g:Graph)(R:List Y7)(n k:Nat)(d:Ev.Dot)(x:Ev.Node)(hd:q.dots[k]?=some d)(hl:x.labels.length<=100)(hn:200<=n):
  q55z n ((k:Int),x,(q,g,R,()),())=some (dotB d x,(q,g,R,()),()):=by
 unfold q55z dotB;dsimp only;rw[a0r hd,r2g];cases h:seq d.label zb0 with
 |true=>rfl
 |false=>rw[u2k,x0d _ _ n hl hn];rfl
def fitL:List Ev.Dot->List Int->Bt->Int->Bool
 |d::r,y::s,nm,x=>(seq d.name zb0 || (!seq d.name nm || (y==x)))&&fitL r s nm x
 |_,_,_,_=>true
theorem a1r{ρ:Type}(n:Nat)(q:Query)(g:Graph)(R:List Y7)
  (kx:Y0×Y2×Unit->Option ρ)(kr:Bool×Y0×Y2×Unit->Option ρ)
  (k:Nat)(hk:k<=1000)(d:Ev.Dot)(hd:q.dots[k]?=some d)(f:List Int)(x:Int)(hx:f[k]?=some x):
  ∀(r p:List Ev.Dot) (s t:List Int),q.dots.take k=p++r->f.take k=t++s->p.length=t.length->r.length=s.length->∀fuel,r.length<fuel->
   a0a (λrc=>s0m n rc kx kr) fuel ((k:Int),(k:Int),(p.length:Int),(q,g,R,()),f,())=bif fitL r s d.name x then kx ((q,g,R,()),f,())else kr (false,(q,g,R,()),f,())
 |[],p,s,t,h1,h2,h3,h4,fuel,hf=>by
  obtain⟨m,rfl⟩:∃m,fuel=m+1:=⟨fuel - 1,by omega⟩;have eQ:=(r2p.1 hd).1;have e:p.length=k:=by
   have:=congrArg List.length h1;rw[s2g,s2a]at this;omega
  rw[a0a];unfold s0m;dsimp only;rw[decide_eq_false (by omega),u2k];rfl
 |d0::r,p,s,t,h1,h2,h3,h4,fuel,hf=>by
  obtain⟨m,rfl⟩:∃m,fuel=m+1:=⟨fuel - 1,by omega⟩;have eQ:=(r2p.1 hd).1;obtain⟨y,s,rfl⟩:∃y s',s=y::s' :=by
   cases s with
   |nil=>simp at h4
   |cons y s' =>exact⟨y,s',rfl⟩
  have aJ:p.length<k:=by
   have:=congrArg List.length h1;rw[s2g,r2t,r2w]at this;omega
  have e1:q.dots[p.length]?=some d0:=by
   rw [<-List.getElem?_take_of_lt aJ,h1];simp
  have e2:f[p.length]?=some y:=by
   rw [<-List.getElem?_take_of_lt aJ,h2,h3];simp
  have ih:=a1r n q g R kx kr k hk d hd f x hx r (p++ [d0]) s (t++ [y]) (by rw[h1];simp) (by rw[h2];simp) (by simp[h3]) (by simpa using h4) m (by simp at hf;omega);rw[r2t,s2y,Int.natCast_add]at ih;rw[a0a];unfold s0m;dsimp only;rw[decide_eq_true (by omega),u2j,a0r e1,a0r hd,a0r hx,a0r e2];simp only[r2g,Int.toNat_natCast,e2,hx,e0z,e0x];rw[a0f (by omega) (by omega)];unfold fitL;cases jf:seq d0.name zb0 with
  |true=>simp only[s2l,u2k,t2d,t2k];exact ih
  |false=>
   cases hn1:seq d0.name d.name with
   |false=>simp only[t2m,u2j,u2k,t2d,s2q,t2k];exact ih
   |true=>
    cases hyx:(y==x)with
    |true=>
     rw[show((y:Int) !=x)=false by simpa[bne]using hyx];simp only[t2m,s2l,u2j,u2k,t2d,s2q,t2n,t2k];exact ih
    |false=>
     rw[show((y:Int) !=x)=true by simp[bne,hyx]];rfl
theorem r1f(n:Nat)(q:Query)(g:Graph)(R:List Y7)(k:Nat)(hk:k<=1000)(d:Ev.Dot)(hd:q.dots[k]?=some d)(f:List Int)(x:Int)(hx:f[k]?=some x)(hn:1100<=n):
  q44z n ((k:Int),(q,g,R,()),f,())=some (fitL (q.dots.take k) (f.take k) d.name x,(q,g,R,()),f,()):=by
 have eQ:=(r2p.1 hd).1;have bS:=(r2p.1 hx).1;unfold q44z;dsimp only;have:=a1r n q g R (λ(o19,me,_)=>some (true,((Query.mk o19.1.dots o19.1.arrows o19.1.wher o19.1.items o19.1.dist),(Graph.mk o19.2.1.nodes o19.2.1.edges o19.2.1.next),o19.2.2.1,()),me,())) (λ(v21,o22,oL,_)=>some (v21,((Query.mk o22.1.dots o22.1.arrows o22.1.wher o22.1.items o22.1.dist),(Graph.mk o22.2.1.nodes o22.2.1.edges o22.2.1.next),o22.2.2.1,()),oL,())) k hk d hd f x hx (q.dots.take k) [] (f.take k) [] rfl rfl rfl (by simp;omega) n (by simp;omega);refine(Eq.trans ?_ this).trans ?_
 ·rfl
 ·cases fitL (q.dots.take k) (f.take k) d.name x<;>rfl
def push(s:List Y2×Bool)(w:List Int):List Y2×Bool:=if s.1.length=2000 then(s.1,true)else(s.1++ [w],s.2)
def b0c(s:List Y2×Bool)(W:List Y2):List Y2×Bool:=W.foldl push s
theorem i0z(s:List Y2×Bool)(V W:List Y2):b0c s (V++W)=b0c (b0c s V) W:=List.foldl_append
theorem w1h{s:List Y2×Bool}(h:s.1.length<=2000)(w:List Int):(push s w).1.length<=2000:=by
 unfold push;split
 ·exact h
 ·simp;omega
theorem h0y:∀(W:List Y2) {s:List Y2×Bool},s.1.length<=2000->(b0c s W).1.length<=2000
 |[],s,h=>h
 |w::r,s,h=>h0y r (w1h h w)
theorem i1d:∀(W:List Y2) (s:List Y2×Bool),s.1.length<=2000->(s.1.length+W.length<=2000->b0c s W=(s.1++W,s.2))/\(2000<s.1.length+W.length->(b0c s W).2=true)
 |[],s,h=>⟨λ_=>by simp[b0c],λh2=>by simp at h2;omega⟩
 |w::r,s,h=>by
  have ih:=i1d r (push s w) (w1h h w);have hst:∀(W:List Y2) (s:List Y2×Bool),s.2=true->(b0c s W).2=true:=by
   intro W
   induction W with
   |nil=>exact λs h=>h
   |cons w r ih=>exact λs h=>ih _ (by unfold push;split;rfl;exact h)
  rw[r2w];constructor
  ·intro h2
   have e:push s w=(s.1++ [w],s.2):=by unfold push;rw[if_neg (by omega)]
   have:=ih.1 (by rw[e];simp;omega);show b0c (push s w) r=_;rw[this,e];simp
  ·intro h2
   show(b0c (push s w) r).2=true;by_cases h3:s.1.length=2000
   ·exact hst r _ (by unfold push;rw[if_pos h3])
   ·have e:push s w=(s.1++ [w],s.2):=by unfold push;rw[if_neg h3]
    exact ih.2 (by rw[e];simp;omega)
theorem l0h{α:Type}(m:List α)(j:Nat)(y:α)(h:j<m.length):(m.set j y).take (j+1)=m.take j++ [y]:=by
 rw[List.take_add_one,List.take_set_of_le (r2q j)];simp[h]
structure Agr(N k:Nat)(ds es f:List Int):Prop where
 len:f.length=2*N - 1
 d:f.take k=ds
 e:(f.drop N).take (k - 1)=es
structure Mid(N k:Nat)(ds es f:List Int):Prop where
 len:f.length=2*N - 1
 d:f.take (k+1)=ds
 e:(f.drop N).take (k - 1)=es
theorem Agr.dot {N k:Nat}{ds es f:List Int}(h:Agr N k ds es f)(hk:k<N)(x:Int):Mid N k (ds++ [x]) es (f.set k x):=by
 refine⟨by simp[h.len],?_,?_⟩
 ·rw[l0h _ _ _ (by rw[h.len];omega),h.d]
 ·rw[List.drop_set,if_pos hk]
  exact h.e
theorem Mid.back {N k:Nat}{ds es f:List Int}{x:Int}(h:Mid N k (ds++ [x]) es f)(hk:k<N):Agr N k ds es f:=by
 refine⟨h.len,?_,h.e⟩;have hd:=h.d;have hl:(ds++ [x]).length=k+1:=by rw [<-hd,s2g,h.len];omega
 have h2:f.take k=(f.take (k+1)).take k:=by rw[List.take_take,Nat.min_eq_left (by omega)]
 rw[h2,hd];rw[r2t,s2y]at hl;rw[show k=ds.length by omega];simp
theorem Mid.edge {N k:Nat}{ds es f:List Int}(h:Mid N k ds es f)(h1:1<=k)(hk:k<N)(y:Int):Agr N (k+1) ds (es++ [y]) (f.set (N+k - 1) y):=by
 refine⟨by simp[h.len],?_,?_⟩
 ·rw[List.take_set_of_le (by omega),h.d]
 ·rw[List.drop_set,if_neg (by omega),show N+k - 1 - N=k - 1 by omega,show k+1 - 1=k - 1+1 by omega,l0h _ _ _ (by rw[s2n,h.len];omega),h.e]
theorem Agr.mid {N k:Nat}{ds es f:List Int}{y:Int}(h:Agr N (k+1) ds (es++ [y]) f)(h1:1<=k)(hk:k<N):Mid N k ds es f:=by
 refine⟨h.len,h.d,?_⟩;have he:=h.e;have hl:(es++ [y]).length=k:=by rw [<-he,s2g,s2n,h.len];omega
 have h2:(f.drop N).take (k - 1)=((f.drop N).take (k+1 - 1)).take (k - 1):=by rw[List.take_take,Nat.min_eq_left (by omega)]
 rw[h2,he];rw[r2t,s2y]at hl;rw[show k - 1=es.length by omega];simp
abbrev z1u:=Int×Y0×Y2×Unit×Y30×Y11×Unit->Option Y14
def WOk(q:Query)(g:Graph)(R:List Y7)(self:z1u)(k:Nat)(ds es:List Int)(W:List Y2):Prop:=
 ∀(f:List Int) (s:List Y2×Bool),Agr q.dots.length k ds es f->s.1.length<=2000->∃f',Agr q.dots.length k ds es f' /\
  self ((k:Int),(q,g,R,()),f,(),s.1,(s.2,()),())=some ((q,g,R,()),f',(),(b0c s W).1,((b0c s W).2,()),())
def okE(a:Ev.Arrow)(fr tg:Int)(y:Edg):Bool:=(((y.src:Int)==fr)&& ((y.dst:Int)==tg))&& ((seq a.type zb0) || (seq y.type a.type))
theorem d0l{ρ:Type}(q:Query)(g:Graph)(R:List Y7)(self:z1u)(n:Nat)
  (k:Nat)(h1:1<=k)(hk:k<q.dots.length)(hN:q.dots.length<=1000)(a:Ev.Arrow)(fr tg:Int)(v83:List Ev.Node)(v84 v85:Int)(ds es:List Int)(Wn:Int->List Y2):
  ∀(l:List Edg) (i:Int),(∀y∈l,okE a fr tg y=true->WOk q g R self (k+1) ds (es++ [y.id]) (Wn y.id))-> ∀(f:List Int) (s:List Y2×Bool),Mid q.dots.length k ds es f->s.1.length<=2000->
   ∃f',Mid q.dots.length k ds es f' /\∀(kr:Unit->Option ρ) (K:Y24->Option ρ),a0b (j0j self n kr) K i l ((k:Int),(q.dots.length:Int),fr,tg,v83,v84,v85,(a,()),(q,g,R,()),(),s.1,(s.2,()),f,())
    =K ((k:Int),(q.dots.length:Int),fr,tg,v83,v84,v85,(a,()),(q,g,R,()),(),(b0c s (((l.filter (okE a fr tg)).map Edg.id).flatMap Wn)).1,((b0c s (((l.filter (okE a fr tg)).map Edg.id).flatMap Wn)).2,()),f',())
 |[],i,hw,f,s,hm,hs=>⟨f,hm,λkr K=>by rw[a0b];rfl⟩
 |y::r,i,hw,f,s,hm,hs=>by
  by_cases hy:okE a fr tg y=true
  ·have hL:f[q.dots.length+k - 1]? ≠none:=by
    rw[Ne,List.getElem?_eq_none_iff,hm.len];omega
   obtain⟨z,hz⟩:=Option.ne_none_iff_exists'.1 hL;obtain⟨f1,a1,e1⟩:=hw y (by simp) hy (f.set (q.dots.length+k - 1) y.id) s (hm.edge h1 hk y.id) hs;obtain⟨f2,a2,e2⟩:=d0l (ρ:=ρ) q g R self n k h1 hk hN a fr tg v83 v84 v85 ds es Wn r (i+1) (λx hx=>hw x (by simp[hx])) f1 (b0c s (Wn y.id)) (a1.mid h1 hk) (h0y _ hs);refine⟨f2,a2,λkr K=>?_⟩;have e2:=e2 kr K;rw[List.filter_cons_of_pos hy,r2z,s2o,i0z];rw[a0b];unfold j0j at e2⊢;unfold okE at hy;dsimp only;rw[hy,u2j,a0f (x:=(q.dots.length:Int)+k) (by omega) (by omega),a0f (x:=(q.dots.length:Int)+k - 1) (by omega) (by omega),show((q.dots.length:Int)+k - 1)=((q.dots.length+k - 1:Nat):Int)by omega,a0r hz,Int.toNat_natCast,hz];simp only[r2g,e0z,e0x,y0u];rw[a0f (by omega) (by omega),show((k:Int)+1)=((k+1:Nat):Int)by omega,e1,r2g];exact e2
  ·have dS:okE a fr tg y=false:=by simpa using hy
   obtain⟨f2,a2,e2⟩:=d0l (ρ:=ρ) q g R self n k h1 hk hN a fr tg v83 v84 v85 ds es Wn r (i+1) (λx hx=>hw x (by simp[hx])) f s hm hs;refine⟨f2,a2,λkr K=>?_⟩;have e2:=e2 kr K;rw[List.filter_cons_of_neg hy];rw[a0b];unfold j0j at e2⊢;unfold okE at dS;dsimp only;rw[dS,u2k];exact e2
def r0w(g:Graph)(a:Ev.Arrow)(ks:List Ev.Pair)(fr tg:Int):List Int:=
 bif a.many then(bif decide (Ev.Pair.mk fr tg∈ks)then [0]else [])else((g.edges.filter (okE a fr tg)).map Edg.id)
def k0h(g:Graph)(a:Ev.Arrow)(ks:List Ev.Pair)(x y:Int):List Int:=bif a.back then r0w g a ks y x else r0w g a ks x y
def BOk(q:Query)(g:Graph)(R:List Y7)(self:z1u)(k:Nat)(ds es:List Int)(x:Int)(W:List Y2):Prop:=
 (k=0/\WOk q g R self 1 (ds++ [x]) es W)\/
 (1<=k/\∃a ks last Wn,q.arrows[k - 1]?=some a/\(a.many=true->R[k - 1]?=some (tr ks))/\ds[k - 1]?=some last/\W=(k0h g a ks last x).flatMap Wn/\∀e∈k0h g a ks last x,WOk q g R self (k+1) (ds++ [x]) (es++ [e]) (Wn e))
theorem j0p{ρ:Type}(q:Query)(g:Graph)(R:List Y7)(self:z1u)(n:Nat)(hn:1100<=n)
  (kx:Y0×Unit×Y30×Y11×Y2×Unit->Option ρ)(kr:Unit->Option ρ)
  (k:Nat)(hk:k<q.dots.length)(hN:q.dots.length<=1000)(d:Ev.Dot)(hd:q.dots[k]?=some d)(ds es:List Int)(dY:ds.length=k)
  (bX:g.nodes.length<=40)(bQ:g.edges.length<=60)(bF:∀x∈g.nodes,x.labels.length<=100)(Wx:Ev.Node->List Y2)
  (hb:∀x∈g.nodes,(dotB d x&&fitL (q.dots.take k) ds d.name x.id)=true->BOk q g R self k ds es x.id (Wx x)):
  ∀(r p:List Ev.Node),g.nodes=p++r->∀(f:List Int) (s:List Y2×Bool) (fuel:Nat),Agr q.dots.length k ds es f->s.1.length<=2000->r.length<fuel->
   ∃f',Agr q.dots.length k ds es f' /\a0a (λrc=>l0e self n rc kx kr) fuel ((k:Int),(q.dots.length:Int),g.nodes,(g.nodes.length:Int),(p.length:Int),(q,g,R,()),(),s.1,(s.2,()),f,())
    =kx ((q,g,R,()),(),(b0c s (r.flatMap λx=>bif dotB d x&&fitL (q.dots.take k) ds d.name x.id then Wx x else [])).1,((b0c s (r.flatMap λx=>bif dotB d x&&fitL (q.dots.take k) ds d.name x.id then Wx x else [])).2,()),f',())
 |[],p,hp,f,s,fuel,ha,hs,hf=>by
  obtain⟨m,rfl⟩:∃m,fuel=m+1:=⟨fuel - 1,by omega⟩;refine⟨f,ha,?_⟩;rw[a0a];unfold l0e;dsimp only;rw[decide_eq_false (by rw[hp];simp),u2k];rfl
 |x::r,p,hp,f,s,fuel,ha,hs,hf=>by
  obtain⟨m,rfl⟩:∃m,fuel=m+1:=⟨fuel - 1,by omega⟩;have kh:x∈g.nodes:=by rw[hp];simp
  have hx:g.nodes[p.length]?=some x:=by rw[hp];simp
  have aJ:p.length<g.nodes.length:=(r2p.1 hx).1;have bS:k<f.length:=by rw[ha.len];omega
  obtain⟨z,hz⟩:∃z,f[k]?=some z:=⟨f[k],by simp[bS]⟩;have hmid:=ha.dot hk x.id;have hf1:(f.set k x.id)[k]?=some x.id:=by simp[bS]
  have ku:(f.set k x.id).take k=ds:=by rw[List.take_set_of_le (r2q k),ha.d]
  have IH:=λf s=>j0p q g R self n hn kx kr k hk hN d hd ds es dY bX bQ bF Wx hb r (p++ [x]) (by rw[hp];simp) f s m;rw[r2t,s2y,Int.natCast_add]at IH;have dE:r.length<m:=by simp at hf;omega
  have hw:wI ((p.length:Int)+1)=(p.length:Int)+1:=a0f (by omega) (by omega);rw[s2o,a0a];generalize a0a (λrc=>l0e self n rc kx kr) m=I at IH⊢;have two:∀b:Bool,b=false\/b=true:=by decide
  unfold l0e;dsimp only;rw[decide_eq_true (by omega),u2j,a0r hx,r2g];simp only[e0z,e0x,t1n];rw[e2c q g R n k d x hd (bF x kh) (by omega),r2g];dsimp only;rcases two (dotB d x)with dR|dR
  ·obtain⟨f2,a2,e2⟩:=IH f s ha hs dE
   refine⟨f2,a2,?_⟩;rw[dR,t2m,u2j,hw,u2i,u2k,s2m];exact e2
  ·rw[dR,s2l,u2k,a0r hz,r2g,Int.toNat_natCast,hz,r2g,r1f n q g R k (by omega) d hd _ x.id hf1 hn,r2g,ku]
   dsimp only;rcases two (fitL (q.dots.take k) ds d.name x.id)with fy|fy
   ·obtain⟨f2,a2,e2⟩:=IH (f.set k x.id) s (hmid.back hk) hs dE
    refine⟨f2,a2,?_⟩;rw[fy,t2m,u2j,hw,t2k,u2k,s2m];exact e2
   ·rw[fy,s2l,u2k,t2k,u2j,i0z]
    have hB:=hb x kh (by rw[dR,fy];rfl);rcases hB with⟨dU,hW⟩| ⟨b6,a,ks,last,Wn,ea,eR,el,eW,hW⟩
    ·subst dU
     obtain⟨f1,a1,e1⟩:=hW (f.set 0 x.id) s ⟨hmid.len,hmid.d,hmid.e⟩ hs;have a1' :Mid q.dots.length 0 (ds++ [x.id]) es f1:=⟨a1.len,a1.d,a1.e⟩;obtain⟨f2,a2,e2⟩:=IH f1 (b0c s (Wx x)) (a1'.back hk) (h0y _ hs) dE;refine⟨f2,a2,?_⟩;rw[show(((0:Nat):Int)==0)=true from rfl,u2j]
     rw[show(((1:Nat):Int))=1 from rfl]at e1
     rw[e1,r2g];rw[hw];exact e2
    ·have bW:(f.set k x.id)[k - 1]?=some last:=by
      have:=congrArg (λl:List Int=>l[k - 1]?) hmid.d;replace this:((f.set k x.id).take (k+1))[k - 1]?=(ds++ [x.id])[k - 1]?:=this;rw[List.getElem?_take_of_lt (by omega),s2w (by omega),el]at this;exact this
     have jN:wI ((k:Int) - 1)=((k - 1:Nat):Int):=by rw[a0f (by omega) (by omega)];omega
     have jY:wI (wI ((q.dots.length:Int)+k) - 1)=((q.dots.length+k - 1:Nat):Int):=by rw[a0f (x:=(q.dots.length:Int)+k) (by omega) (by omega),a0f (by omega) (by omega)];omega
     have eF:wI ((k:Int)+1)=((k+1:Nat):Int):=by rw[a0f (by omega) (by omega)];omega
     have dU:((k:Int)==0)=false:=by rw[beq_eq_false_iff_ne];omega
     obtain⟨zE,eP⟩:∃z,(f.set k x.id)[q.dots.length+k - 1]?=some z:=by
      have:q.dots.length+k - 1<(f.set k x.id).length:=by rw[hmid.len];omega
      exact⟨_,r2k this⟩
     unfold k0h at eW hW;rw[dU,u2k,jN,a0r ea,r2g,a0r bW,r2g,Int.toNat_natCast,bW,r2g];simp only[y0u];rcases two a.back with cA|cA<;>rcases two a.many with cF|cF<;>rw[cA]at eW hW<;>simp only[u2j,u2k]at eW hW<;>unfold r0w at eW hW<;>rw[cF]at eW hW<;>simp only[u2j,u2k]at eW hW
     ·obtain⟨f1,a1,e1⟩:=d0l q g R self n (ρ:=ρ) k b6 hk hN a last x.id g.nodes (g.nodes.length:Int) (p.length:Int) (ds++ [x.id]) es Wn g.edges 0 (λy hy bY=>hW _ (s2c.2 ⟨y,t2s.2 ⟨hy,bY⟩,rfl⟩)) (f.set k x.id) s hmid hs
      obtain⟨f2,a2,e2⟩:=IH f1 (b0c s (Wx x)) (a1.back hk) (h0y _ hs) dE;refine⟨f2,a2,?_⟩;rw[cA,u2k,cF,u2k];rw[b1a self n _ _ g.edges n _ _ _ _ _ _ _ _ _ _ _ _ _ (by omega) (by omega)];rw [<-eW]at e1;rw[e1];dsimp only;rw[hw];exact e2
     ·by_cases aX:Ev.Pair.mk last x.id∈ks
      ·rw[decide_eq_true aX]at eW hW
       simp only[u2j,s2o,List.flatMap_nil,s2a]at eW;obtain⟨f1,a1,e1⟩:=hW 0 (by simp) ((f.set k x.id).set (q.dots.length+k - 1) 0) s (hmid.edge b6 hk 0) hs;obtain⟨f2,a2,e2⟩:=IH f1 (b0c s (Wx x)) ((a1.mid b6 hk).back hk) (h0y _ hs) dE;refine⟨f2,a2,?_⟩;rw[cA,u2k,cF,u2j];rw[a0r (eR cF),r2g,m0s,decide_eq_true aX,u2j,jY,a0r eP,r2g,Int.toNat_natCast,eP,r2g,eF,e1,r2g,hw, <-eW];exact e2
      ·rw[decide_eq_false aX]at eW
       simp only[u2k,List.flatMap_nil]at eW;obtain⟨f2,a2,e2⟩:=IH (f.set k x.id) s (hmid.back hk) hs dE;refine⟨f2,a2,?_⟩;rw[cA,u2k,cF,u2j];rw[a0r (eR cF),r2g,m0s,decide_eq_false aX,u2k,hw,eW];exact e2
     ·obtain⟨f1,a1,e1⟩:=d0l q g R self n (ρ:=ρ) k b6 hk hN a x.id last g.nodes (g.nodes.length:Int) (p.length:Int) (ds++ [x.id]) es Wn g.edges 0 (λy hy bY=>hW _ (s2c.2 ⟨y,t2s.2 ⟨hy,bY⟩,rfl⟩)) (f.set k x.id) s hmid hs
      obtain⟨f2,a2,e2⟩:=IH f1 (b0c s (Wx x)) (a1.back hk) (h0y _ hs) dE;refine⟨f2,a2,?_⟩;rw[cA,u2j,cF,u2k];rw[b1a self n _ _ g.edges n _ _ _ _ _ _ _ _ _ _ _ _ _ (by omega) (by omega)];rw [<-eW]at e1;rw[e1];dsimp only;rw[hw];exact e2
     ·by_cases aX:Ev.Pair.mk x.id last∈ks
      ·rw[decide_eq_true aX]at eW hW
       simp only[u2j,s2o,List.flatMap_nil,s2a]at eW;obtain⟨f1,a1,e1⟩:=hW 0 (by simp) ((f.set k x.id).set (q.dots.length+k - 1) 0) s (hmid.edge b6 hk 0) hs;obtain⟨f2,a2,e2⟩:=IH f1 (b0c s (Wx x)) ((a1.mid b6 hk).back hk) (h0y _ hs) dE;refine⟨f2,a2,?_⟩;rw[cA,u2j,cF,u2j];rw[a0r (eR cF),r2g,m0s,decide_eq_true aX,u2j,jY,a0r eP,r2g,Int.toNat_natCast,eP,r2g,eF,e1,r2g,hw, <-eW];exact e2
      ·rw[decide_eq_false aX]at eW
       simp only[u2k,List.flatMap_nil]at eW;obtain⟨f2,a2,e2⟩:=IH (f.set k x.id) s (hmid.back hk) hs dE;refine⟨f2,a2,?_⟩;rw[cA,u2j,cF,u2j];rw[a0r (eR cF),r2g,m0s,decide_eq_false aX,u2k,hw,eW];exact e2
theorem g2b(f:List Int)(s:List Y2×Bool)(hs:s.1.length<=2000)(hf:f.length<=1000):q95z (f,(),s.1,(s.2,()),())=some (f,(),(push s f).1,((push s f).2,()),()):=by
 unfold q95z push;dsimp only;by_cases h:s.1.length=2000
 ·rw[if_pos h,show((s.1.length:Int)==2000)=true by rw[h];rfl,u2j]
 ·rw[if_neg h,show((s.1.length:Int)==2000)=false by rw[beq_eq_false_iff_ne];omega,u2k,d1f f hf,r2g]
  dsimp only;rw[b0v];unfold room;rw[r2i];constructor<;>exact r2y (by simp;omega)
def AOk(g:Graph)(f:List Int):Prop:=∀x∈f,x∈g.nodes.map Ev.Node.id\/x∈g.edges.map Edg.id\/x=0
theorem AOk.app {g:Graph}{a b:List Int}(ha:AOk g a)(hb:AOk g b):AOk g (a++b):=by
 intro x hx;rcases s2j.1 hx with h|h
 ·exact ha x h
 ·exact hb x h
theorem AOk.one {g:Graph}{y:Int}(h:y∈g.nodes.map Ev.Node.id\/y∈g.edges.map Edg.id\/y=0):AOk g [y]:=by
 intro x hx;rw[s2e]at hx;rw[hx];exact h
def m0l(q:Query)(g:Graph)(R:List Y7)(N0:Nat)(pass:List Int->Bool):Prop:=
 ∀(f:List Int),f.length=2*q.dots.length - 1->AOk g f->∀n,N0<=n->∃y:Envr,q56z n ((q,g,R,()),f,())=some (y,(q,g,R,()),f,())/\q69z n (y,q.wher,())=some (pass f,())
theorem f1y(y:Envr):Envr.mk (Graph.mk y.g.nodes y.g.edges y.g.next) y.at_=y:=rfl
def finF(pass:List Int->Bool)(ds es:List Int):List Y2:=bif pass (ds++es)then [ds++es]else []
theorem y0h{q:Query}{g:Graph}{R:List Y7}{N0:Nat}{pass:List Int->Bool}(hp:m0l q g R N0 pass)(hN:q.dots.length<=100)(h1:1<=q.dots.length)(ds es:List Int)(hd:AOk g ds)(he:AOk g es)(m:Nat)(hm:N0+1<=m):
  WOk q g R (q21z m) q.dots.length ds es (finF pass ds es):=by
 intro f s ha hs;obtain⟨n,rfl⟩:∃n,m=n+1:=⟨m - 1,by omega⟩;have ef:f=ds++es:=by
  have e2:=ha.e;rw[List.take_of_length_le (by rw[s2n,ha.len];omega)]at e2;rw [<-ha.d, <-e2,t2z]
 obtain⟨y,ey,ep⟩:=hp f ha.len (by rw[ef];exact hd.app he) n (by omega);refine⟨f,ha,?_⟩;rw[q21z];unfold t0y;dsimp only;rw[show((q.dots.length:Int)==(q.dots.length:Int))=true from beq_self_eq_true _,u2j]
 simp only[e0z,e0x,ey,r2g,f1y,ep,a0p];unfold finF;rw [<-ef];cases nH:pass f with
 |false=>rfl
 |true=>
  rw[u2j,u2j,g2b f s hs (by rw[ha.len];omega)];rfl
def e0v(g:Graph)(fin:List Int->List Int->List Y2):List Y16->List Ev.Dot->List Int->List Int->List Y2
 |[],_,ds,es=>fin ds es
 |(d,a,ks)::r,pre,ds,es=>g.nodes.flatMap λx=>bif dotB d x&&fitL pre ds d.name x.id then(k0h g a ks (ds.getLast?.getD 0) x.id).flatMap (λe=>e0v g fin r (pre++ [d]) (ds++ [x.id]) (es++ [e]))else []
def t0i(g:Graph)(fin:List Int->List Int->List Y2)(d:Ev.Dot)(rem:List Y16):List Y2:=
 g.nodes.flatMap λx=>bif dotB d x&&fitL [] [] d.name x.id then e0v g fin rem [d] [x.id] []else []
theorem s0e{q:Query}{g:Graph}{R:List Y7}(n:Nat)(hn:1100<=n)(k:Nat)(hk:k<q.dots.length)(hN:q.dots.length<=100)(d:Ev.Dot)(hd:q.dots[k]?=some d)(ds es:List Int)(dY:ds.length=k)
  (bX:g.nodes.length<=40)(bQ:g.edges.length<=60)(bF:∀x∈g.nodes,x.labels.length<=100)(Wx:Ev.Node->List Y2)
  (hb:∀x∈g.nodes,(dotB d x&&fitL (q.dots.take k) ds d.name x.id)=true->BOk q g R (q21z n) k ds es x.id (Wx x)):
  WOk q g R (q21z (n+1)) k ds es (g.nodes.flatMap λx=>bif dotB d x&&fitL (q.dots.take k) ds d.name x.id then Wx x else []):=by
 intro f s ha hs;rw[q21z];unfold t0y;dsimp only;rw[show((k:Int)==(q.dots.length:Int))=false by rw[beq_eq_false_iff_ne];omega,u2k];obtain⟨f',a',e'⟩:=j0p q g R (q21z n) n hn (λ(o131,oF,lL,o134,lR,_)=>some (((Query.mk o131.1.dots o131.1.arrows o131.1.wher o131.1.items o131.1.dist),(Graph.mk o131.2.1.nodes o131.2.1.edges o131.2.1.next),o131.2.2.1,()),lR,(()),lL,(o134.1,()),())) (λ(_)=>none) k hk (by omega) d hd ds es dY bX bQ bF Wx hb g.nodes [] rfl f s n ha hs (by omega);exact⟨f',a',e'⟩
theorem y0s{g:Graph}{a:Ev.Arrow}{ks:List Ev.Pair}{x y e:Int}(h:e∈k0h g a ks x y):e∈g.edges.map Edg.id\/e=0:=by
 have key:∀{fr tg:Int},e∈r0w g a ks fr tg->e∈g.edges.map Edg.id\/e=0:=by
  intro fr tg h;unfold r0w at h;cases hm:a.many with
  |true=>
   rw[hm,u2j]at h;cases hd:decide (Ev.Pair.mk fr tg∈ks)with
   |true=>rw[hd,u2j,s2e]at h;exact .inr h
   |false=>rw[hd,u2k]at h;cases h
  |false=>
   rw[hm,u2k]at h;obtain⟨z,hz,rfl⟩:=s2c.1 h;exact .inl (s2c.2 ⟨z,(t2s.1 hz).1,rfl⟩)
 unfold k0h at h;cases hb:a.back with
 |true=>rw[hb,u2j]at h;exact key h
 |false=>rw[hb,u2k]at h;exact key h
theorem m0w{q:Query}{g:Graph}{R:List Y7}{N0:Nat}{pass:List Int->Bool}(hp:m0l q g R N0 pass)(hN0:1100<=N0)(hN:q.dots.length<=100)
  (bX:g.nodes.length<=40)(bQ:g.edges.length<=60)(bF:∀x∈g.nodes,x.labels.length<=100):
  ∀(rem:List Y16) (pre:List Ev.Dot) (ar:List Ev.Arrow) (ds es:List Int),q.dots=pre++rem.map (λz=>z.1)->q.arrows=ar++rem.map (λz=>z.2.1)->pre.length=ar.length+1->ds.length=pre.length->AOk g ds->AOk g es->
   (∀j z,rem[j]?=some z->z.2.1.many=true->R[ar.length+j]?=some (tr z.2.2))-> ∀m,N0+1+rem.length<=m->WOk q g R (q21z m) pre.length ds es (e0v g (finF pass) rem pre ds es)
 |[],pre,ar,ds,es,h1,h2,h3,h4,h5,h6,h7,m,hm=>by
  have e:pre=q.dots:=by rw[h1];simp
  rw[e0v,e];exact y0h hp hN (by rw [<-e];omega) ds es h5 h6 m (by simpa using hm)
 |(d,a,ks)::r,pre,ar,ds,es,h1,h2,h3,h4,h5,h6,h7,m,hm=>by
  obtain⟨n,rfl⟩:∃n,m=n+1:=⟨m - 1,by omega⟩;rw[r2w]at hm;have hl:pre.length<q.dots.length:=by rw[h1];simp
  have ed:q.dots[pre.length]?=some d:=by rw[h1];simp
  have ea:q.arrows[pre.length - 1]?=some a:=by rw[h2,show pre.length - 1=ar.length by omega];simp
  have et:q.dots.take pre.length=pre:=by rw[h1];simp
  have:=s0e (R:=R) n (by omega) pre.length hl hN d ed ds es h4 bX bQ bF (λx=>(k0h g a ks (ds.getLast?.getD 0) x.id).flatMap (λe=>e0v g (finF pass) r (pre++ [d]) (ds++ [x.id]) (es++ [e]))) ?_
  ·rw[et]at this
   exact this
  ·intro x hx hc
   refine .inr ⟨by omega,a,ks,ds.getLast?.getD 0,λe=>e0v g (finF pass) r (pre++ [d]) (ds++ [x.id]) (es++ [e]),ea,λhm=>?_,?_,rfl,λe he=>?_⟩
   ·have:=h7 0 (d,a,ks) rfl hm
    rw[show pre.length - 1=ar.length by omega];exact this
   ·rw[show pre.length - 1=ds.length - 1 by omega,List.getLast?_eq_getElem?,r2k (by omega)]
    rfl
   ·have hw:=m0w hp hN0 hN bX bQ bF r (pre++ [d]) (ar++ [a]) (ds++ [x.id]) (es++ [e]) (by rw[h1];simp) (by rw[h2];simp) (by simp;omega) (by simp[h4])
     (h5.app (AOk.one (.inl (s2c.2 ⟨x,hx,rfl⟩))))
     (h6.app (AOk.one (.inr (y0s he))))
     (by intro j z hz hm;have:=h7 (j+1) z (by simpa using hz) hm;rw[r2t,s2y,show ar.length+1+j=ar.length+(j+1)by omega];exact this) n (by omega)
    rw[r2t,s2y]at hw;exact hw
theorem x0n{q:Query}{g:Graph}{R:List Y7}{N0:Nat}{pass:List Int->Bool}(hp:m0l q g R N0 pass)(hN0:1100<=N0)(hN:q.dots.length<=100)
  (bX:g.nodes.length<=40)(bQ:g.edges.length<=60)(bF:∀x∈g.nodes,x.labels.length<=100)(d:Ev.Dot)(rem:List Y16)(h1:q.dots=d::rem.map (λz=>z.1))(h2:q.arrows=rem.map (λz=>z.2.1))
  (h7:∀(j:Nat) (z:Ev.Dot×Ev.Arrow×List Ev.Pair),rem[j]?=some z->z.2.1.many=true->R[j]?=some (tr z.2.2))(m:Nat)(hm:N0+2+rem.length<=m):
  WOk q g R (q21z m) 0 [] [] (t0i g (finF pass) d rem):=by
 obtain⟨n,rfl⟩:∃n,m=n+1:=⟨m - 1,by omega⟩;have:=s0e (R:=R) n (by omega) 0 (by rw[h1];simp) hN d (by rw[h1];rfl) [] [] rfl bX bQ bF (λx=>e0v g (finF pass) rem [d] [x.id] []) ?_
 ·exact this
 ·intro x hx hc
  refine .inl ⟨rfl,?_⟩;exact m0w hp hN0 hN bX bQ bF rem [d] [] [x.id] [] (by rw[h1];rfl) (by rw[h2];rfl) rfl rfl (by intro y hy;rw[s2e]at hy;subst hy;exact .inl (s2c.2 ⟨x,hx,rfl⟩)) (by intro y hy;cases hy)
   (by intro j z hz hm;rw[List.length_nil,s2u];exact h7 j z hz hm) n (by omega)
def envD:List Ev.Dot->List Int->List Y27->List Y27
 |d::r,y::s,at_=>envD r s (bif !(seq d.name zb0)then(bif y !=0 then b0d .str .i64 at_ d.name y else at_)else at_)
 |_,_,at_=>at_
def envA:List Ev.Arrow->List Int->List Y27->List Y27
 |a::r,y::s,at_=>envA r s (bif !(seq a.name zb0)then b0d .str .i64 at_ a.name y else at_)
 |_,_,at_=>at_
theorem d2i{ρ:Type}(n:Nat)(kr:Unit->Option ρ)(K:Y18->Option ρ)(e:Envr)(q:Query)(g:Graph)(R:List Y7)(f:List Int):
  ∀(l:List Ev.Dot) (t s:List Int) (at_:List Y27),f=t++s->l.length<=s.length->a0b (l0r n kr) K (t.length:Int) l ((e,()),at_,(q,g,R,()),f,())=K ((e,()),envD l s at_,(q,g,R,()),f,())
 |[],t,s,at_,hf,hl=>by rw[a0b,envD];intro a b c d h;cases h
 |d::r,t,s,at_,hf,hl=>by
  obtain⟨y,s,rfl⟩:∃y s',s=y::s' :=by
   cases s with
   |nil=>simp at hl
   |cons y s' =>exact⟨y,s',rfl⟩
  have hy:f[t.length]?=some y:=by rw[hf];simp
  have ih:=λat_=>d2i n kr K e q g R f r (t++ [y]) s at_ (by rw[hf];simp) (by simpa using hl);rw[r2t,s2y,Int.natCast_add]at ih;rw[a0b,envD];unfold l0r at ih⊢;dsimp only;cases hn:seq d.name zb0 with
  |true=>rw[s2l,u2k,u2k];exact ih _
  |false=>
   rw[t2m,u2j,u2j,a0r hy,r2g,Int.toNat_natCast,hy,r2g];cases h0:(y !=0)with
   |true=>rw[u2j,u2j,r2g,r2g];exact ih _
   |false=>rw[u2k,u2k];exact ih _
theorem e2f{ρ:Type}(n:Nat)(kr:Unit->Option ρ)(K:Y18->Option ρ)(e:Envr)(q:Query)(hN:q.dots.length<=100)(g:Graph)(R:List Y7)(f:List Int)(h0:f.length<=1000):
  ∀(l:List Ev.Arrow) (t s:List Int) (at_:List Y27),f=t++s->q.dots.length<=t.length->l.length<=s.length->a0b (j0o n kr) K ((t.length:Int) - q.dots.length) l ((e,()),at_,(q,g,R,()),f,())=K ((e,()),envA l s at_,(q,g,R,()),f,())
 |[],t,s,at_,hf,ht,hl=>by rw[a0b,envA];intro a b c d h;cases h
 |d::r,t,s,at_,hf,ht,hl=>by
  obtain⟨y,s,rfl⟩:∃y s',s=y::s' :=by
   cases s with
   |nil=>simp at hl
   |cons y s' =>exact⟨y,s',rfl⟩
  have hy:f[t.length]?=some y:=by rw[hf];simp
  have htl:t.length<=1000:=by rw[hf]at h0;simp at h0;omega
  have ih:=λat_=>e2f n kr K e q hN g R f h0 r (t++ [y]) s at_ (by rw[hf];simp) (by simp;omega) (by simpa using hl);rw[r2t,s2y,Int.natCast_add,show((t.length:Int)+((1:Nat):Int) - (q.dots.length:Int))=(t.length:Int) - q.dots.length+1 by omega]at ih;rw[a0b,envA];unfold j0o at ih⊢;dsimp only;cases hn:seq d.name zb0 with
  |true=>rw[s2l,u2k,u2k];exact ih _
  |false=>
   rw[t2m,u2j,u2j,a0f (by omega) (by omega),show((q.dots.length:Int)+((t.length:Int) - q.dots.length))=(t.length:Int)by omega,a0r hy,r2g,Int.toNat_natCast,hy,r2g];exact ih _
theorem k2a{ρ:Type}(n:Nat)(kr:Unit->Option ρ)(K:Y18->Option ρ)(e:Envr)(q:Query)(hN:q.dots.length<=100)(g:Graph)(R:List Y7)(f:List Int)(h0:f.length<=1000)
  (l:List Ev.Arrow)(t s:List Int)(at_:List Y27)(hf:f=t++s)(ht:q.dots.length<=t.length)(hl:l.length<=s.length)(i:Int)(hi:i=(t.length:Int) - q.dots.length):a0b (j0o n kr) K i l ((e,()),at_,(q,g,R,()),f,())=K ((e,()),envA l s at_,(q,g,R,()),f,()):=by
 subst hi;exact e2f n kr K e q hN g R f h0 l t s at_ hf ht hl
def j0l(q:Query)(g:Graph)(f:List Int):Envr:=⟨g,envA q.arrows (f.drop q.dots.length) (envD q.dots f [])⟩
theorem w1r(q:Query)(g:Graph)(R:List Y7)(f:List Int)(hN:q.dots.length<=100)(ha:q.arrows.length+1=q.dots.length)(hf:f.length=2*q.dots.length - 1)(n:Nat)(hn:200<=n):
  q56z n ((q,g,R,()),f,())=some (j0l q g f,(q,g,R,()),f,()):=by
 unfold q56z;dsimp only;rw[v1u n _ _ q.dots n _ _ _ _ (by omega) (by omega)];refine Eq.trans (d2i n _ _ ⟨⟨[],[],0⟩,[]⟩ q g R f q.dots [] f [] rfl (by omega)) ?_;dsimp only;rw[u1o n _ _ q.arrows n _ _ _ _ (by omega) (by omega)];refine Eq.trans (k2a n _ _ ⟨⟨[],[],0⟩,[]⟩ q hN g R f (by omega) q.arrows (f.take q.dots.length) (f.drop q.dots.length) (envD q.dots f []) (t2z _ _).symm (by rw[s2g];omega) (by rw[s2n];omega) 0 (by rw[s2g];omega)) ?_;rfl
theorem l1g{at_:List Y27}{s:Bt}{v:Int}(hv:wfI .i64 v)(h:atOk at_):atOk (b0d .str .i64 at_ s v):=by
 induction at_ with
 |nil=>
  intro q hq;have:q=(s,v):=by simpa[b0d]using hq
  subst this;exact hv
 |cons y a ih=>
  intro q hq;rw[b0d]at hq;cases hk:b0l .str s y.1 with
  |true=>
   rw[hk,u2j]at hq;rcases r2s.1 hq with rfl|hq
   ·exact hv
   ·exact h q (by simp[hq])
  |false=>
   rw[hk,u2k]at hq;rcases r2s.1 hq with rfl|hq
   ·exact h _ (by simp)
   ·exact ih (λz hz=>h z (by simp[hz])) q hq
theorem g1j:∀(l:List Ev.Dot) (s:List Int) (at_:List Y27),(∀x∈s,wfI .i64 x)->atOk at_->atOk (envD l s at_)
 |[],s,at_,hs,h=>by rw[envD];exact h;intro a b c d h;cases h
 |d::r,[],at_,hs,h=>by rw[envD];exact h;intro a b c d _ h;cases h
 |d::r,y::s,at_,hs,h=>by
  rw[envD];refine g1j r s _ (λx hx=>hs x (by simp[hx])) ?_;cases (!(seq d.name zb0))with
  |false=>exact h
  |true=>
   cases (y !=0)with
   |false=>exact h
   |true=>exact l1g (hs y (by simp)) h
theorem g1u:∀(l:List Ev.Arrow) (s:List Int) (at_:List Y27),(∀x∈s,wfI .i64 x)->atOk at_->atOk (envA l s at_)
 |[],s,at_,hs,h=>by rw[envA];exact h;intro a b c d h;cases h
 |d::r,[],at_,hs,h=>by rw[envA];exact h;intro a b c d _ h;cases h
 |d::r,y::s,at_,hs,h=>by
  rw[envA];refine g1u r s _ (λx hx=>hs x (by simp[hx])) ?_;cases (!(seq d.name zb0))with
  |false=>exact h
  |true=>exact l1g (hs y (by simp)) h
def allF(A:List Int):Nat->List Y2
 | 0=>[[]]
 |n+1=>A.flatMap λx=>(allF A n).map λl=>x::l
theorem v0k(A:List Int):∀f:List Int,(∀x∈f,x∈A)->f∈allF A f.length
 |[],_=>by simp[allF]
 |x::r,h=>List.mem_flatMap.2 ⟨x,h x (by simp),s2c.2 ⟨r,v0k A r λy hy=>h y (by simp[hy]),rfl⟩⟩
def p0s(q:Query)(g:Graph)(f:List Int):Bool:=q.wher.all λt=>((tval g (j0l q g f).at_ t).kind==1)&& ((tval g (j0l q g f).at_ t).n==1)
theorem q1x(n:Nat)(e:Envr)(w:List Term)(V:Term->Val)(h:∀t∈w,q74z n (e,t,())=some (V t,()))(hl:w.length<=1000)(hn:w.length<n):
  q69z n (e,w,())=some (w.all λt=>((V t).kind==1)&& ((V t).n==1),()):=by
 have key:∀(l:List Term) (i:Int),(∀t∈l,q74z n (e,t,())=some (V t,()))->a0b (ρ:=Bool×Unit) (m0f n (λ(v11,_)=>some (v11,()))) (λ(o6,_)=>some (true,())) i l ((e,()),())=some (l.all λt=>((V t).kind==1)&& ((V t).n==1),()):=by
  intro l
  induction l with
  |nil=>intro i _;rfl
  |cons t r ih=>
   intro i hh;have ih:=ih (i+1) λt ht=>hh t (by simp[ht]);rw[a0b];unfold m0f at ih⊢;dsimp only;rw[Term.eta2,f1y,hh t (by simp),r2g];dsimp only;unfold c1k;rw[r2g,List.all_cons];dsimp only;rw[Val.eta];cases hk:((V t).kind==1)with
   |false=>rw[t2m,t2d,u2j];rfl
   |true=>
    cases hv:((V t).n==1)with
    |false=>rfl
    |true=>rw[s2l,s2q,u2k,t2k,t2k];exact ih
 unfold q69z;dsimp only;rw[w1o n _ _ w n _ (by omega) hn];exact key w 0 h
theorem o1w{q:Query}{g:Graph}(hg:GOk g)(b:List Y21)(ht:∀t∈q.wher,tOk t)(hc:∀t∈q.wher,tchk b t 1=0)(hw:q.wher.length<=1)(hN:q.dots.length<=100)(ha:q.arrows.length+1=q.dots.length):
  ∃N0,1100<=N0/\∀R,m0l q g R N0 (p0s q g):=by
 have jA:∀f,AOk g f->∀x∈f,wfI .i64 x:=by
  intro f hf x hx;rcases hf x hx with h|h|h
  ·obtain⟨y,hy,rfl⟩:=s2c.1 h
   exact(hg.ok.1.2 y hy).1
  ·obtain⟨y,hy,rfl⟩:=s2c.1 h
   exact(hg.ok.2.1.2 y hy).1
  ·rw[h];unfold wfI;decide
 have hA:∀f,AOk g f->∃N,∀n,N<=n->∀t∈q.wher,q74z n (j0l q g f,t,())=some (tval g (j0l q g f).at_ t,()):=by
  intro f hf;refine m1t q.wher λt h=>?_;have kI:atOk (j0l q g f).at_:=g1u _ _ _ (λx hx=>jA f hf x (List.mem_of_mem_drop hx)) (g1j _ _ _ (jA f hf) (λp hp=>by cases hp));exact(z0e hg kI b t 1 (ht t h) (hc t h)).1
 obtain⟨N1,h1⟩:=m1t (p:=λn (f:List Int)=>AOk g f->∀t∈q.wher,q74z n (j0l q g f,t,())=some (tval g (j0l q g f).at_ t,()))
  (allF (g.nodes.map Ev.Node.id++(g.edges.map Edg.id++ [0])) (2*q.dots.length - 1)) (λf _=>by
   by_cases hf:AOk g f
   ·obtain⟨N,h⟩:=hA f hf
    exact⟨N,λn hn _=>h n hn⟩
   ·exact⟨0,λn _ h=>absurd h hf⟩)
 refine⟨N1+1100,by omega,λR f hl hf n hn=>⟨j0l q g f,w1r q g R f hN ha hl n (by omega),?_⟩⟩;have hm:=v0k (g.nodes.map Ev.Node.id++(g.edges.map Edg.id++ [0])) f λx hx=>by
  rcases hf x hx with h|h|h
  ·exact List.mem_append_left _ h
  ·exact List.mem_append_right _ (List.mem_append_left _ h)
  ·rw[h];simp
 rw[hl]at hm;exact q1x n _ q.wher _ (h1 n (by omega) f hm hf) (by omega) (by omega)
def rsK(n:Nat)(g:Graph)(kind:Bt):List Ev.Pair:=(((g0o n (g,kind,())).getD ([],())).1).map λz=>z.1
theorem s1p(n:Nat)(hn:100100<=n)(g:Graph)(kind:Bt)(hc:chkG g=0):g0o n (g,kind,())=some (tr (rsK n g kind),())/\ ∀k,k∈rsK n g kind↔Rc (stp kind g.edges) k.p k.q:=by
 obtain⟨ks,h1,h2,h3,h4⟩:=p2g n hn g kind hc;have e:rsK n g kind=ks:=by
  unfold rsK;rw[h4];show(tr ks).map _=ks;unfold tr;rw[List.map_map];exact List.map_id' ks
 rw[e];exact⟨h4,h2⟩
def rk(n:Nat)(g:Graph)(a:Ev.Arrow):List Ev.Pair:=bif a.many then rsK n g a.type else []
theorem i1f{ρ:Type}(n:Nat)(hn:100100<=n)(q:Query)(g:Graph)(hc:chkG g=0)(kr:Unit->Option ρ)(K:Y34->Option ρ):
  ∀(l:List Ev.Arrow) (i:Int) (o:List Y7),o.length+l.length<=1000->a0b (e0p n kr) K i l ((g,()),(q,g,()),o,())=K ((g,()),(q,g,()),o++l.map (λa=>tr (rk n g a)),())
 |[],i,o,h=>by rw[a0b,t2u,s2a]
 |a::r,i,o,h=>by
  rw[r2w]at h;have ih:=λz=>i1f n hn q g hc kr K r (i+1) (o++ [z]) (by simp;omega);rw[a0b,r2z];unfold e0p at ih⊢;dsimp only;unfold rk;cases hm:a.many with
  |true=>
   rw[u2j,e0x,(s1p n hn g a.type hc).1,r2g];dsimp only;rw[b0v (e0c (by simp;omega) (by omega)),ih (tr (rsK n g a.type)),s2t];rfl
  |false=>
   rw[u2k,b0v (e0c (by simp;omega) (by omega)),ih [],s2t];rfl
theorem e2i(n:Nat)(hn:100100<=n)(q:Query)(g:Graph)(hc:chkG g=0)(ha:q.arrows.length<=100):i0r n (q,g,())=some ((q,g,q.arrows.map (λa=>tr (rk n g a)),()),()):=by
 unfold i0r;dsimp only;rw[t0f n _ _ q.arrows n _ _ _ (by omega) (by omega)];refine Eq.trans (i1f n hn q g hc _ _ q.arrows 0 [] (by simp;omega)) ?_;rfl
def i0f(n:Nat)(g:Graph)(ds:List Ev.Dot)(ar:List Ev.Arrow):List Y16:=(ds.zip ar).map λz=>(z.1,z.2,rk n g z.2)
def h0o(n:Nat)(q:Query)(g:Graph)(pass:List Int->Bool):List Y2:=
 match q.dots with
 |[]=>[]
 |d::r=>t0i g (finF pass) d (i0f n g r q.arrows)
theorem j1f(g:Graph)(pass:List Int->Bool):∀(rem:List Y16) (pre:List Ev.Dot) (ds es:List Int),∀w∈e0v g (finF pass) rem pre ds es,w.length=ds.length+es.length+2*rem.length
 |[],pre,ds,es,w,h=>by
  rw[e0v]at h;unfold finF at h;cases hp:pass (ds++es)with
  |true=>rw[hp,u2j,s2e]at h;rw[h];simp
  |false=>rw[hp,u2k]at h;cases h
 |(d,a,ks)::r,pre,ds,es,w,h=>by
  rw[e0v]at h;obtain⟨x,hx,h⟩:=List.mem_flatMap.1 h;cases hc:dotB d x&&fitL pre ds d.name x.id with
  |false=>rw[hc,u2k]at h;cases h
  |true=>
   rw[hc,u2j]at h;obtain⟨e,he,h⟩:=List.mem_flatMap.1 h;rw[j1f g pass r _ _ _ w h];simp;omega
theorem v1x(g:Graph)(pass:List Int->Bool)(d:Ev.Dot)(rem:List Y16)(w:List Int)(h:w∈t0i g (finF pass) d rem):w.length=1+2*rem.length:=by
 obtain⟨x,hx,h⟩:=List.mem_flatMap.1 h;cases hc:dotB d x&&fitL [] [] d.name x.id with
 |false=>rw[hc,u2k]at h;cases h
 |true=>
  rw[hc,u2j]at h;rw[j1f g pass rem _ _ _ w h];simp
theorem e1m{α β:Type}:∀(l:List α) (m:List β),l.length=m.length->(l.zip m).map (λz=>z.1)=l/\(l.zip m).map (λz=>z.2)=m
 |[],[],_=>⟨rfl,rfl⟩
 |[],y::m,h=>by simp at h
 |x::l,[],h=>by simp at h
 |x::l,y::m,h=>by
  have ih:=e1m l m (by simpa using h);simp only[List.zip_cons_cons,r2z,ih.1,ih.2,and_self]
theorem h1k(q:Query)(g:Graph)(hc:chkG g=0)(pass:List Int->Bool)(N0:Nat)(hN0:1100<=N0)(hp:∀R,m0l q g R N0 pass)(hN:q.dots.length<=100)(h1:1<=q.dots.length)(ha:q.arrows.length+1=q.dots.length)(n:Nat)(hn:N0+110000<=n)(hq:q96z n (q,())=some (0,())):
  c0n n (q,g,())=bif decide ((h0o n q g pass).length<=2000)then some (i0p ltLL (h0o n q g pass),0,())else some ([],10,()):=by
 obtain⟨bX,bQ,iw,_⟩:=i0a hc;have bF:∀x∈g.nodes,x.labels.length<=100:=by
  intro x hx;have:=(k1x iw x hx).1;unfold labE at this;cases hb:decide ((x.labels.length:Int) >4)with
  |true=>rw[hb]at this;cases this
  |false=>have:=of_decide_eq_false hb;omega
 obtain⟨d,r,hd⟩:∃d r,q.dots=d::r:=by
  cases hq:q.dots with
  |nil=>rw[hq]at h1;simp at h1
  |cons d r=>exact⟨d,r,rfl⟩
 have lT:r.length=q.arrows.length:=by rw[hd]at ha;simp at ha;omega
 have hz:=e1m r q.arrows lT;have hr1:(i0f n g r q.arrows).map (λz=>z.1)=r:=by unfold i0f;rw[List.map_map];exact hz.1
 have hr2:(i0f n g r q.arrows).map (λz=>z.2.1)=q.arrows:=by unfold i0f;rw[List.map_map];exact hz.2
 have gU:(i0f n g r q.arrows).length=r.length:=by rw [<-s2k (f:=λz=>z.1),hr1]
 have hW:h0o n q g pass=t0i g (finF pass) d (i0f n g r q.arrows):=by unfold h0o;rw[hd]
 have hE:∀w∈h0o n q g pass,w.length<=1000000:=by
  intro w hw;rw[hW]at hw;rw[v1x g pass d _ w hw,gU];rw[hd]at hN;simp at hN;omega
 obtain⟨f',_,ew⟩:=x0n (R:=q.arrows.map (λa=>tr (rk n g a))) (hp _) hN0 hN bX bQ bF d (i0f n g r q.arrows) (by rw[hr1,hd]) hr2.symm (λj z hz hm=>by
  have e:=congrArg (λl=>l[j]?) hr2;rw[t2a,hz]at e;rw[t2a, <-e];show some (tr (rk n g z.2.1))=some (tr z.2.2);have:z∈i0f n g r q.arrows:=r2v hz;obtain⟨y,_,rfl⟩:=s2c.1 this;rfl) n (by rw[gU];rw[hd]at hN;simp at hN;omega) (List.replicate (2*q.dots.length - 1) 0) ([],false) ⟨by simp,rfl,by rw[Nat.zero_sub,List.take_zero]⟩ (by simp)
 rw [<-hW]at ew;unfold c0n;dsimp only;rw[e0z,hq,r2g];dsimp only;rw[show((0:Int) !=0)=false from rfl,u2k,e0x,r0j g n (by omega),r2g,hc]
 dsimp only;rw[show((0:Int) !=0)=false from rfl,u2k,e2i n (by omega) q g hc (by omega),r2g]
 dsimp only;unfold q20z;dsimp only;rw[a0f (by omega) (by omega)];unfold cnt?;rw[if_pos (by omega),r2g,show((q.dots.length:Int)+(q.arrows.length:Int)).toNat=2*q.dots.length - 1 by omega,b0v (e0c (by omega) (by omega)),e0z,e0x];rw[show(0:Int)=((0:Nat):Int)from rfl]at ew⊢
 rw[ew,r2g];dsimp only;rw[r2g];dsimp only;have hpe:=i1d (h0o n q g pass) ([],false) (by simp);rw[List.length_nil,s2u,s2m]at hpe;cases hle:decide ((h0o n q g pass).length<=2000)with
 |true=>
  have hle:=of_decide_eq_true hle;rw[hpe.1 hle];dsimp only;rw[u2k,r1g _ (by omega) hE];rfl
 |false=>
  have hle:=of_decide_eq_false hle;rw[hpe.2 (by omega)];rfl
theorem l2h{b:List Y21}:∀{l:List Term},whF b l=0->∀t∈l,tchk b t 1=0
 |[],_,t,ht=>by cases ht
 |x::r,h,t,ht=>by
  rw[whF]at h;cases hx:(tchk b x 1 !=0)with
  |true=>rw[hx,u2j]at h;rw[h]at hx;cases hx
  |false=>
   rw[hx,u2k]at h;rcases r2s.1 ht with rfl|ht
   ·simpa[bne]using hx
   ·exact l2h h t ht
theorem k1h{q:Query}(h:chkQ q=0):(1<=q.dots.length/\q.dots.length<=5)/\q.wher.length<=1/\q.arrows.length+1=q.dots.length/\q.dots.all dtB=true/\q.arrows.all arB=true/\∃b,nmA q.arrows (nmD q.dots [])=some b/\∀t∈q.wher,tchk b t 1=0:=by
 unfold chkQ at h;cases hb:((((decide (((q.dots.length:Int):Int)<1)) || (decide (((q.dots.length:Int):Int) >5))) || (decide (((q.items.length:Int):Int)<1))) || (decide (((q.items.length:Int):Int) >5))) || (decide (((q.wher.length:Int):Int) >1))with
 |true=>rw[hb,u2j]at h;cases h
 |false=>
  rw[hb,u2k]at h;simp only[r2x,decide_eq_false_iff_not]at hb;cases ha:((q.arrows.length:Int) !=(q.dots.length:Int) - 1)with
  |true=>rw[ha,u2j]at h;cases h
  |false=>
   rw[ha,u2k]at h;have ha:(q.arrows.length:Int)=(q.dots.length:Int) - 1:=by simpa[bne]using ha
   cases hd:q.dots.all dtB with
   |false=>rw[hd]at h;cases h
   |true=>
    cases hr:q.arrows.all arB with
    |false=>rw[hd,hr]at h;cases h
    |true=>
     rw[hd,hr]at h;cases hn:nmA q.arrows (nmD q.dots [])with
     |none=>rw[hn]at h;cases h
     |some b=>
      rw[hn]at h;simp only[s2l,u2k]at h;cases hw:(whF b q.wher !=0)with
      |true=>rw[hw,u2j]at h;rw[h]at hw;cases hw
      |false=>exact⟨by omega,by omega,by omega,rfl,rfl,b,rfl,l2h (by simpa[bne]using hw)⟩
theorem w1y(a b:Bt):b0l .str a b=true↔a=b:=by
 show(a.data==b.data)=true↔a=b;rw[beq_iff_eq];exact⟨λh=>by cases a;cases b;cases h;rfl,λh=>by rw[h]⟩
end Pure

import Derived.Test.YtcloicgnanjbcaaGreatDoorPTL
import Derived.Test.YtcloicgnanjbcaaGreatDoorPRX
import Derived.Test.YtcloicgnanjbcaaGreatDoorEvSortL
noncomputable section
namespace Pure
open Esp Ev Go
set_option linter.unusedSimpArgs false
set_option linter.unusedVariables false
theorem b0t(q:Query):Ev.Query.mk q.dots q.arrows q.wher q.items q.dist=q:=rfl
theorem b0v(g:Graph):Ev.Graph.mk g.nodes g.edges g.next=g:=rfl
theorem i0w(a:Ev.Arrow):Ev.Arrow.mk a.name a.type a.back a.many=a:=rfl
theorem f0p(x:Ev.Node):Ev.Node.mk x.id x.labels x.props=x:=rfl
def dotB(d:Ev.Dot)(x:Ev.Node):Bool:=seq d.label ⟨#[]⟩ || hasL x.labels d.label
theorem k0k(q:Query)(g:Graph)(R:List Y3)(n k:Nat)(d:Ev.Dot)(x:Ev.Node)(hd:q.dots[k]? =some d)(hl:x.labels.length≤100)(hn:200≤n):
  q53z n ((k:Int),x,(q,g,R,()),())=some (dotB d x,(q,g,R,()),()):=by
 unfold q53z dotB;dsimp only;rw [a0k hd,j2r];cases h:seq d.label ⟨#[]⟩with
 | true=>rfl
 | false=>rw [cond_false,i0m _ _ n hl hn];rfl
def fitL:List Ev.Dot→List Int→ByteArray→Int→Bool
 | d::r,y::s,nm,x=>(seq d.name ⟨#[]⟩ || (!seq d.name nm || (y==x)))&&fitL r s nm x
 | _,_,_,_=>true
theorem y0x{ρ:Type}(n:Nat)(q:Query)(g:Graph)(R:List Y3)
  (kx:Y1×Y0×Unit→Option ρ)(kr:Bool×Y1×Y0×Unit→Option ρ)
  (k:Nat)(hk:k≤1000)(d:Ev.Dot)(hd:q.dots[k]? =some d)(f:List Int)(x:Int)(hx:f[k]? =some x):
  ∀(r p:List Ev.Dot) (s t:List Int),q.dots.take k=p++r→f.take k=t++s→p.length=t.length→r.length=s.length→∀fuel,r.length<fuel→
   a0a (fun rc=>p0b n rc kx kr) fuel ((k:Int),(k:Int),(p.length:Int),(q,g,R,()),f,())=bif fitL r s d.name x then kx ((q,g,R,()),f,())else kr (false,(q,g,R,()),f,())
 | [],p,s,t,h1,h2,h3,h4,fuel,hf=>by
  obtain⟨m,rfl⟩: ∃m,fuel=m+1:=⟨fuel - 1,by omega⟩;have hkl:=(k2a.1 hd).1;have e:p.length=k:=by
   have:=congrArg List.length h1;rw [k2g,k2y]at this;omega
  rw [a0a];unfold p0b;dsimp only;rw [decide_eq_false (by omega),cond_false];rfl
 | d0::r,p,s,t,h1,h2,h3,h4,fuel,hf=>by
  obtain⟨m,rfl⟩: ∃m,fuel=m+1:=⟨fuel - 1,by omega⟩;have hkl:=(k2a.1 hd).1;obtain⟨y,s,rfl⟩: ∃y s',s=y::s' :=by
   cases s with
   | nil=>simp at h4
   | cons y s' =>exact⟨y,s',rfl⟩
  have hlt:p.length<k:=by
   have:=congrArg List.length h1;rw [k2g,j2y,k2i]at this;omega
  have e1:q.dots[p.length]? =some d0:=by
   rw [←List.getElem?_take_of_lt hlt,h1];simp
  have e2:f[p.length]? =some y:=by
   rw [←List.getElem?_take_of_lt hlt,h2,h3];simp
  have ih:=y0x n q g R kx kr k hk d hd f x hx r (p++ [d0]) s (t++ [y]) (by rw [h1];simp) (by rw [h2];simp) (by simp [h3]) (by simpa using h4) m (by simp at hf;omega);rw [j2y,k2u,Int.natCast_add]at ih;rw [a0a];unfold p0b;dsimp only;rw [decide_eq_true (by omega),cond_true,a0k e1,a0k hd,a0k hx,a0k e2];simp only [j2r,Int.toNat_natCast,e2,hx,b0t,b0v];rw [a0h (by omega) (by omega)];unfold fitL;cases hn0:seq d0.name ⟨#[]⟩with
  | true=>simp only [k2e,cond_false,l2a,l2e];exact ih
  | false=>
   cases hn1:seq d0.name d.name with
   | false=>simp only [k2w,cond_true,cond_false,l2a,k2m,l2e];exact ih
   | true=>
    cases hyx:(y==x)with
    | true=>
     rw [show((y:Int) !=x)=false by simpa [bne]using hyx];simp only [k2w,k2e,cond_true,cond_false,l2a,k2m,l2q,l2e];exact ih
    | false=>
     rw [show((y:Int) !=x)=true by simp [bne,hyx]];rfl
theorem g0l(n:Nat)(q:Query)(g:Graph)(R:List Y3)(k:Nat)(hk:k≤1000)(d:Ev.Dot)(hd:q.dots[k]? =some d)(f:List Int)(x:Int)(hx:f[k]? =some x)(hn:1100≤n):
  q46z n ((k:Int),(q,g,R,()),f,())=some (fitL (q.dots.take k) (f.take k) d.name x,(q,g,R,()),f,()):=by
 have hkl:=(k2a.1 hd).1;have hfl:=(k2a.1 hx).1;unfold q46z;dsimp only;have:=y0x n q g R (fun(o19,o20,_)=>some (true,((Ev.Query.mk o19.1.dots o19.1.arrows o19.1.wher o19.1.items o19.1.dist),(Ev.Graph.mk o19.2.1.nodes o19.2.1.edges o19.2.1.next),o19.2.2.1,()),o20,())) (fun(v21,o22,o23,_)=>some (v21,((Ev.Query.mk o22.1.dots o22.1.arrows o22.1.wher o22.1.items o22.1.dist),(Ev.Graph.mk o22.2.1.nodes o22.2.1.edges o22.2.1.next),o22.2.2.1,()),o23,())) k hk d hd f x hx (q.dots.take k) [] (f.take k) [] rfl rfl rfl (by simp;omega) n (by simp;omega);refine(Eq.trans ?_ this).trans ?_
 ·rfl
 ·cases fitL (q.dots.take k) (f.take k) d.name x<;>rfl
def push(s:List Y0×Bool)(w:List Int):List Y0×Bool:=if s.1.length=2000 then(s.1,true)else(s.1++ [w],s.2)
def e0b(s:List Y0×Bool)(W:List Y0):List Y0×Bool:=W.foldl push s
theorem v0g(s:List Y0×Bool)(V W:List Y0):e0b s (V++W)=e0b (e0b s V) W:=List.foldl_append
theorem q1l{s:List Y0×Bool}(h:s.1.length≤2000)(w:List Int):(push s w).1.length≤2000:=by
 unfold push;split
 ·exact h
 ·simp;omega
theorem g0a: ∀(W:List Y0) {s:List Y0×Bool},s.1.length≤2000→(e0b s W).1.length≤2000
 | [],s,h=>h
 | w::r,s,h=>g0a r (q1l h w)
theorem e1k: ∀(W:List Y0) (s:List Y0×Bool),s.1.length≤2000→(s.1.length+W.length≤2000→e0b s W=(s.1++W,s.2))∧(2000<s.1.length+W.length→(e0b s W).2=true)
 | [],s,h=>⟨fun _=>by simp [e0b],fun h2=>by simp at h2;omega⟩
 | w::r,s,h=>by
  have ih:=e1k r (push s w) (q1l h w);have hst: ∀(W:List Y0) (s:List Y0×Bool),s.2=true→(e0b s W).2=true:=by
   intro W
   induction W with
   | nil=>exact fun s h=>h
   | cons w r ih=>exact fun s h=>ih _ (by unfold push;split;rfl;exact h)
  rw [k2i];constructor
  ·intro h2
   have e:push s w=(s.1++ [w],s.2):=by unfold push;rw [if_neg (by omega)]
   have:=ih.1 (by rw [e];simp;omega);show e0b (push s w) r=_;rw [this,e];simp
  ·intro h2
   show(e0b (push s w) r).2=true;by_cases h3:s.1.length=2000
   ·exact hst r _ (by unfold push;rw [if_pos h3])
   ·have e:push s w=(s.1++ [w],s.2):=by unfold push;rw [if_neg h3]
    exact ih.2 (by rw [e];simp;omega)
end Pure
namespace Pure
open Esp Ev Go
set_option linter.unusedSimpArgs false
set_option linter.unusedVariables false
theorem j0r{α:Type}(m:List α)(j:Nat)(y:α)(h:j<m.length):(m.set j y).take (j+1)=m.take j++ [y]:=by
 rw [List.take_add_one,List.take_set_of_le (k2h j)];simp [h]
structure Agr(N k:Nat)(ds es f:List Int):Prop where
 len:f.length=2*N - 1
 d:f.take k=ds
 e:(f.drop N).take (k - 1)=es
structure Mid(N k:Nat)(ds es f:List Int):Prop where
 len:f.length=2*N - 1
 d:f.take (k+1)=ds
 e:(f.drop N).take (k - 1)=es
theorem Agr.dot{N k:Nat}{ds es f:List Int}(h:Agr N k ds es f)(hk:k<N)(x:Int):Mid N k (ds++ [x]) es (f.set k x):=by
 refine⟨by simp [h.len], ?_, ?_⟩
 ·rw [j0r _ _ _ (by rw [h.len];omega),h.d]
 ·rw [List.drop_set,if_pos hk]
  exact h.e
theorem Mid.back{N k:Nat}{ds es f:List Int}{x:Int}(h:Mid N k (ds++ [x]) es f)(hk:k<N):Agr N k ds es f:=by
 refine⟨h.len, ?_,h.e⟩;have hd:=h.d;have hl:(ds++ [x]).length=k+1:=by rw [←hd,k2g,h.len];omega
 have h2:f.take k=(f.take (k+1)).take k:=by rw [List.take_take,Nat.min_eq_left (by omega)]
 rw [h2,hd];rw [j2y,k2u]at hl;rw [show k=ds.length by omega];simp
theorem Mid.edge{N k:Nat}{ds es f:List Int}(h:Mid N k ds es f)(h1:1≤k)(hk:k<N)(y:Int):Agr N (k+1) ds (es++ [y]) (f.set (N+k - 1) y):=by
 refine⟨by simp [h.len], ?_, ?_⟩
 ·rw [List.take_set_of_le (by omega),h.d]
 ·rw [List.drop_set,if_neg (by omega),show N+k - 1 - N=k - 1 by omega,show k+1 - 1=k - 1+1 by omega,j0r _ _ _ (by rw [k2t,h.len];omega),h.e]
theorem Agr.mid{N k:Nat}{ds es f:List Int}{y:Int}(h:Agr N (k+1) ds (es++ [y]) f)(h1:1≤k)(hk:k<N):Mid N k ds es f:=by
 refine⟨h.len,h.d, ?_⟩;have he:=h.e;have hl:(es++ [y]).length=k:=by rw [←he,k2g,k2t,h.len];omega
 have h2:(f.drop N).take (k - 1)=((f.drop N).take (k+1 - 1)).take (k - 1):=by rw [List.take_take,Nat.min_eq_left (by omega)]
 rw [h2,he];rw [j2y,k2u]at hl;rw [show k - 1=es.length by omega];simp
abbrev v1p:=Int×Y1×Y0×Unit×Y8×Y13×Unit→Option Y23
def WOk(q:Query)(g:Graph)(R:List Y3)(self:v1p)(k:Nat)(ds es:List Int)(W:List Y0):Prop:=
 ∀(f:List Int) (s:List Y0×Bool),Agr q.dots.length k ds es f→s.1.length≤2000→∃f',Agr q.dots.length k ds es f' ∧
  self ((k:Int),(q,g,R,()),f,(),s.1,(s.2,()),())=some ((q,g,R,()),f',(),(e0b s W).1,((e0b s W).2,()),())
def okE(a:Ev.Arrow)(fr tg:Int)(y:Ev.Edg):Bool:=(((y.src:Int)==fr)&& ((y.dst:Int)==tg))&& ((seq a.type ⟨#[]⟩) || (seq y.type a.type))
theorem l0b{ρ:Type}(q:Query)(g:Graph)(R:List Y3)(self:v1p)(n:Nat)
  (k:Nat)(h1:1≤k)(hk:k<q.dots.length)(hN:q.dots.length≤1000)(a:Ev.Arrow)(fr tg:Int)(v83:List Ev.Node)(v84 v85:Int)(ds es:List Int)(Wn:Int→List Y0):
  ∀(l:List Ev.Edg) (i:Int),(∀y∈l,okE a fr tg y=true→WOk q g R self (k+1) ds (es++ [y.id]) (Wn y.id))→ ∀(f:List Int) (s:List Y0×Bool),Mid q.dots.length k ds es f→s.1.length≤2000→
   ∃f',Mid q.dots.length k ds es f' ∧∀(kr:Unit→Option ρ) (K:Y22→Option ρ),a0c (k0o self n kr) K i l ((k:Int),(q.dots.length:Int),fr,tg,v83,v84,v85,(a,()),(q,g,R,()),(),s.1,(s.2,()),f,())
    =K ((k:Int),(q.dots.length:Int),fr,tg,v83,v84,v85,(a,()),(q,g,R,()),(),(e0b s (((l.filter (okE a fr tg)).map Ev.Edg.id).flatMap Wn)).1,((e0b s (((l.filter (okE a fr tg)).map Ev.Edg.id).flatMap Wn)).2,()),f',())
 | [],i,hw,f,s,hm,hs=>⟨f,hm,fun kr K=>by rw [a0c];rfl⟩
 | y::r,i,hw,f,s,hm,hs=>by
  by_cases hy:okE a fr tg y=true
  ·have hL:f[q.dots.length+k - 1]? ≠none:=by
    rw [Ne,List.getElem?_eq_none_iff,hm.len];omega
   obtain⟨z,hz⟩:=Option.ne_none_iff_exists'.1 hL;obtain⟨f1,a1,e1⟩:=hw y (by simp) hy (f.set (q.dots.length+k - 1) y.id) s (hm.edge h1 hk y.id) hs;obtain⟨f2,a2,e2⟩:=l0b (ρ:=ρ) q g R self n k h1 hk hN a fr tg v83 v84 v85 ds es Wn r (i+1) (fun x hx=>hw x (by simp [hx])) f1 (e0b s (Wn y.id)) (a1.mid h1 hk) (g0a _ hs);refine⟨f2,a2,fun kr K=> ?_⟩;have e2:=e2 kr K;rw [List.filter_cons_of_pos hy,k2l,k2n,v0g];rw [a0c];unfold k0o at e2⊢;unfold okE at hy;dsimp only;rw [hy,cond_true,a0h (x:=(q.dots.length:Int)+k) (by omega) (by omega),a0h (x:=(q.dots.length:Int)+k - 1) (by omega) (by omega),show((q.dots.length:Int)+k - 1)=((q.dots.length+k - 1:Nat):Int)by omega,a0k hz,Int.toNat_natCast,hz];simp only [j2r,b0t,b0v,i0w];rw [a0h (by omega) (by omega),show((k:Int)+1)=((k+1:Nat):Int)by omega,e1,j2r];exact e2
  ·have hy' :okE a fr tg y=false:=by simpa using hy
   obtain⟨f2,a2,e2⟩:=l0b (ρ:=ρ) q g R self n k h1 hk hN a fr tg v83 v84 v85 ds es Wn r (i+1) (fun x hx=>hw x (by simp [hx])) f s hm hs;refine⟨f2,a2,fun kr K=> ?_⟩;have e2:=e2 kr K;rw [List.filter_cons_of_neg hy];rw [a0c];unfold k0o at e2⊢;unfold okE at hy';dsimp only;rw [hy',cond_false];exact e2
def l0x(g:Graph)(a:Ev.Arrow)(ks:List Ev.Pair)(fr tg:Int):List Int:=
 bif a.many then(bif decide (Ev.Pair.mk fr tg∈ks)then [0]else [])else((g.edges.filter (okE a fr tg)).map Ev.Edg.id)
def e0s(g:Graph)(a:Ev.Arrow)(ks:List Ev.Pair)(x y:Int):List Int:=bif a.back then l0x g a ks y x else l0x g a ks x y
def BOk(q:Query)(g:Graph)(R:List Y3)(self:v1p)(k:Nat)(ds es:List Int)(x:Int)(W:List Y0):Prop:=
 (k=0∧WOk q g R self 1 (ds++ [x]) es W)∨
 (1≤k∧∃a ks last Wn,q.arrows[k - 1]? =some a∧(a.many=true→R[k - 1]? =some (tr ks))∧ds[k - 1]? =some last∧W=(e0s g a ks last x).flatMap Wn∧∀e∈e0s g a ks last x,WOk q g R self (k+1) (ds++ [x]) (es++ [e]) (Wn e))
end Pure
namespace Pure
open Esp Ev Go
set_option linter.unusedSimpArgs false
set_option linter.unusedVariables false
theorem y0e{ρ:Type}(q:Query)(g:Graph)(R:List Y3)(self:v1p)(n:Nat)(hn:1100≤n)
  (kx:Y1×Unit×Y8×Y13×Y0×Unit→Option ρ)(kr:Unit→Option ρ)
  (k:Nat)(hk:k<q.dots.length)(hN:q.dots.length≤1000)(d:Ev.Dot)(hd:q.dots[k]? =some d)(ds es:List Int)(hds:ds.length=k)
  (h40:g.nodes.length≤40)(h60:g.edges.length≤60)(hlab: ∀x∈g.nodes,x.labels.length≤100)(Wx:Ev.Node→List Y0)
  (hb: ∀x∈g.nodes,(dotB d x&&fitL (q.dots.take k) ds d.name x.id)=true→BOk q g R self k ds es x.id (Wx x)):
  ∀(r p:List Ev.Node),g.nodes=p++r→∀(f:List Int) (s:List Y0×Bool) (fuel:Nat),Agr q.dots.length k ds es f→s.1.length≤2000→r.length<fuel→
   ∃f',Agr q.dots.length k ds es f' ∧a0a (fun rc=>e0h self n rc kx kr) fuel ((k:Int),(q.dots.length:Int),g.nodes,(g.nodes.length:Int),(p.length:Int),(q,g,R,()),(),s.1,(s.2,()),f,())
    =kx ((q,g,R,()),(),(e0b s (r.flatMap fun x=>bif dotB d x&&fitL (q.dots.take k) ds d.name x.id then Wx x else [])).1,((e0b s (r.flatMap fun x=>bif dotB d x&&fitL (q.dots.take k) ds d.name x.id then Wx x else [])).2,()),f',())
 | [],p,hp,f,s,fuel,ha,hs,hf=>by
  obtain⟨m,rfl⟩: ∃m,fuel=m+1:=⟨fuel - 1,by omega⟩;refine⟨f,ha, ?_⟩;rw [a0a];unfold e0h;dsimp only;rw [decide_eq_false (by rw [hp];simp),cond_false];rfl
 | x::r,p,hp,f,s,fuel,ha,hs,hf=>by
  obtain⟨m,rfl⟩: ∃m,fuel=m+1:=⟨fuel - 1,by omega⟩;have hxm:x∈g.nodes:=by rw [hp];simp
  have hx:g.nodes[p.length]? =some x:=by rw [hp];simp
  have hlt:p.length<g.nodes.length:=(k2a.1 hx).1;have hfl:k<f.length:=by rw [ha.len];omega
  obtain⟨z,hz⟩: ∃z,f[k]? =some z:=⟨f[k],by simp [hfl]⟩;have hmid:=ha.dot hk x.id;have hf1:(f.set k x.id)[k]? =some x.id:=by simp [hfl]
  have htk:(f.set k x.id).take k=ds:=by rw [List.take_set_of_le (k2h k),ha.d]
  have IH:=fun f s=>y0e q g R self n hn kx kr k hk hN d hd ds es hds h40 h60 hlab Wx hb r (p++ [x]) (by rw [hp];simp) f s m;rw [j2y,k2u,Int.natCast_add]at IH;have hrm:r.length<m:=by simp at hf;omega
  have hw:IntKind.wrap .i64 ((p.length:Int)+1)=(p.length:Int)+1:=a0h (by omega) (by omega);rw [k2n,a0a];generalize a0a (fun rc=>e0h self n rc kx kr) m=I at IH⊢;cases hdx:dotB d x with
  | false=>
   obtain⟨f2,a2,e2⟩:=IH f s ha hs hrm;refine⟨f2,a2, ?_⟩;unfold e0h;dsimp only;rw [decide_eq_true (by omega),cond_true,a0k hx,j2r];simp only [b0t,b0v,f0p];rw [k0k q g R n k d x hd (hlab x hxm) (by omega),j2r];dsimp only;rw [hdx,k2w,cond_true,hw,l2z,cond_false,l2j];exact e2
  | true=>
   cases hfx:fitL (q.dots.take k) ds d.name x.id with
   | false=>
    obtain⟨f2,a2,e2⟩:=IH (f.set k x.id) s (hmid.back hk) hs hrm;refine⟨f2,a2, ?_⟩;unfold e0h;dsimp only;rw [decide_eq_true (by omega),cond_true,a0k hx,j2r];simp only [b0t,b0v,f0p];rw [k0k q g R n k d x hd (hlab x hxm) (by omega),j2r];dsimp only;rw [hdx,k2e,cond_false,a0k hz,j2r,Int.toNat_natCast,hz,j2r,g0l n q g R k (by omega) d hd _ x.id hf1 hn,j2r,htk,hfx];dsimp only;rw [k2w,cond_true,hw,l2e,cond_false,l2j];exact e2
   | true=>
    rw [l2e,cond_true,v0g];have hB:=hb x hxm (by rw [hdx,hfx];rfl);rcases hB with⟨hk0,hW⟩ | ⟨hk1,a,ks,last,Wn,ea,eR,el,eW,hW⟩
    ·subst hk0
     obtain⟨f1,a1,e1⟩:=hW (f.set 0 x.id) s ⟨hmid.len,hmid.d,hmid.e⟩ hs;have a1' :Mid q.dots.length 0 (ds++ [x.id]) es f1:=⟨a1.len,a1.d,a1.e⟩;obtain⟨f2,a2,e2⟩:=IH f1 (e0b s (Wx x)) (a1'.back hk) (g0a _ hs) hrm;refine⟨f2,a2, ?_⟩;unfold e0h;dsimp only;rw [decide_eq_true (by omega),cond_true,a0k hx,j2r];simp only [b0t,b0v,f0p];rw [k0k q g R n 0 d x hd (hlab x hxm) (by omega),j2r];dsimp only;rw [hdx,k2e,cond_false,a0k hz,j2r,Int.toNat_natCast,hz,j2r,g0l n q g R 0 (by omega) d hd _ x.id hf1 hn,j2r,htk,hfx];rw [k2e,cond_false,show(((0:Nat):Int)==0)=true from rfl,cond_true]
     rw [show(((1:Nat):Int))=1 from rfl]at e1
     rw [e1,j2r];rw [hw];exact e2
    ·have hlast:(f.set k x.id)[k - 1]? =some last:=by
      have:=congrArg (fun l:List Int=>l[k - 1]?) hmid.d;replace this:((f.set k x.id).take (k+1))[k - 1]? =(ds++ [x.id])[k - 1]? :=this;rw [List.getElem?_take_of_lt (by omega),List.getElem?_append_left (by omega),el]at this;exact this
     have hwk:IntKind.wrap .i64 ((k:Int) - 1)=((k - 1:Nat):Int):=by rw [a0h (by omega) (by omega)];omega
     have hwE:IntKind.wrap .i64 (IntKind.wrap .i64 ((q.dots.length:Int)+k) - 1)=((q.dots.length+k - 1:Nat):Int):=by rw [a0h (x:=(q.dots.length:Int)+k) (by omega) (by omega),a0h (by omega) (by omega)];omega
     have hw1:IntKind.wrap .i64 ((k:Int)+1)=((k+1:Nat):Int):=by rw [a0h (by omega) (by omega)];omega
     have hk0:((k:Int)==0)=false:=by rw [beq_eq_false_iff_ne];omega
     obtain⟨zE,hzE⟩: ∃z,(f.set k x.id)[q.dots.length+k - 1]? =some z:=by
      have:q.dots.length+k - 1< (f.set k x.id).length:=by rw [hmid.len];omega
      exact⟨_,j2x this⟩
     unfold e0s at eW hW;cases hbk:a.back<;>cases hmy:a.many<;>rw [hbk]at eW hW<;>simp only [cond_true,cond_false]at eW hW<;>unfold l0x at eW hW<;>rw [hmy]at eW hW<;>simp only [cond_true,cond_false]at eW hW
     ·obtain⟨f1,a1,e1⟩:=l0b q g R self n (ρ:=ρ) k hk1 hk hN a last x.id g.nodes (g.nodes.length:Int) (p.length:Int) (ds++ [x.id]) es Wn g.edges 0 (fun y hy hok=>hW _ (k2s.2 ⟨y,List.mem_filter.2 ⟨hy,hok⟩,rfl⟩)) (f.set k x.id) s hmid hs
      obtain⟨f2,a2,e2⟩:=IH f1 (e0b s (Wx x)) (a1.back hk) (g0a _ hs) hrm;refine⟨f2,a2, ?_⟩;unfold e0h;dsimp only;rw [decide_eq_true (by omega),cond_true,a0k hx,j2r];simp only [b0t,b0v,f0p];rw [k0k q g R n k d x hd (hlab x hxm) (by omega),j2r];dsimp only;rw [hdx,k2e,cond_false,a0k hz,j2r,Int.toNat_natCast,hz,j2r,g0l n q g R k (by omega) d hd _ x.id hf1 hn,j2r,htk,hfx];dsimp only;rw [k2e,cond_false,hk0,cond_false,hwk,a0k ea,j2r,a0k hlast,j2r,Int.toNat_natCast,hlast,j2r];simp only [i0w];rw [hbk,cond_false,hmy,cond_false];rw [f1p self n _ _ g.edges n _ _ _ _ _ _ _ _ _ _ _ _ _ (by omega) (by omega)];rw [←eW]at e1;rw [e1];dsimp only;rw [hw];exact e2
     ·by_cases hmem:Ev.Pair.mk last x.id∈ks
      ·rw [decide_eq_true hmem]at eW hW
       simp only [cond_true,k2n,m2i,k2y]at eW;obtain⟨f1,a1,e1⟩:=hW 0 (by simp) ((f.set k x.id).set (q.dots.length+k - 1) 0) s (hmid.edge hk1 hk 0) hs;obtain⟨f2,a2,e2⟩:=IH f1 (e0b s (Wx x)) ((a1.mid hk1 hk).back hk) (g0a _ hs) hrm;refine⟨f2,a2, ?_⟩;unfold e0h;dsimp only;rw [decide_eq_true (by omega),cond_true,a0k hx,j2r];simp only [b0t,b0v,f0p];rw [k0k q g R n k d x hd (hlab x hxm) (by omega),j2r];dsimp only;rw [hdx,k2e,cond_false,a0k hz,j2r,Int.toNat_natCast,hz,j2r,g0l n q g R k (by omega) d hd _ x.id hf1 hn,j2r,htk,hfx];dsimp only;rw [k2e,cond_false,hk0,cond_false,hwk,a0k ea,j2r,a0k hlast,j2r,Int.toNat_natCast,hlast,j2r];simp only [i0w];rw [hbk,cond_false,hmy,cond_true];rw [a0k (eR hmy),j2r,j0d,decide_eq_true hmem,cond_true,hwE,a0k hzE,j2r,Int.toNat_natCast,hzE,j2r,hw1,e1,j2r,hw, ←eW];exact e2
      ·rw [decide_eq_false hmem]at eW
       simp only [cond_false,m2i]at eW;obtain⟨f2,a2,e2⟩:=IH (f.set k x.id) s (hmid.back hk) hs hrm;refine⟨f2,a2, ?_⟩;unfold e0h;dsimp only;rw [decide_eq_true (by omega),cond_true,a0k hx,j2r];simp only [b0t,b0v,f0p];rw [k0k q g R n k d x hd (hlab x hxm) (by omega),j2r];dsimp only;rw [hdx,k2e,cond_false,a0k hz,j2r,Int.toNat_natCast,hz,j2r,g0l n q g R k (by omega) d hd _ x.id hf1 hn,j2r,htk,hfx];dsimp only;rw [k2e,cond_false,hk0,cond_false,hwk,a0k ea,j2r,a0k hlast,j2r,Int.toNat_natCast,hlast,j2r];simp only [i0w];rw [hbk,cond_false,hmy,cond_true];rw [a0k (eR hmy),j2r,j0d,decide_eq_false hmem,cond_false,hw,eW];exact e2
     ·obtain⟨f1,a1,e1⟩:=l0b q g R self n (ρ:=ρ) k hk1 hk hN a x.id last g.nodes (g.nodes.length:Int) (p.length:Int) (ds++ [x.id]) es Wn g.edges 0 (fun y hy hok=>hW _ (k2s.2 ⟨y,List.mem_filter.2 ⟨hy,hok⟩,rfl⟩)) (f.set k x.id) s hmid hs
      obtain⟨f2,a2,e2⟩:=IH f1 (e0b s (Wx x)) (a1.back hk) (g0a _ hs) hrm;refine⟨f2,a2, ?_⟩;unfold e0h;dsimp only;rw [decide_eq_true (by omega),cond_true,a0k hx,j2r];simp only [b0t,b0v,f0p];rw [k0k q g R n k d x hd (hlab x hxm) (by omega),j2r];dsimp only;rw [hdx,k2e,cond_false,a0k hz,j2r,Int.toNat_natCast,hz,j2r,g0l n q g R k (by omega) d hd _ x.id hf1 hn,j2r,htk,hfx];dsimp only;rw [k2e,cond_false,hk0,cond_false,hwk,a0k ea,j2r,a0k hlast,j2r,Int.toNat_natCast,hlast,j2r];simp only [i0w];rw [hbk,cond_true,hmy,cond_false];rw [f1p self n _ _ g.edges n _ _ _ _ _ _ _ _ _ _ _ _ _ (by omega) (by omega)];rw [←eW]at e1;rw [e1];dsimp only;rw [hw];exact e2
     ·by_cases hmem:Ev.Pair.mk x.id last∈ks
      ·rw [decide_eq_true hmem]at eW hW
       simp only [cond_true,k2n,m2i,k2y]at eW;obtain⟨f1,a1,e1⟩:=hW 0 (by simp) ((f.set k x.id).set (q.dots.length+k - 1) 0) s (hmid.edge hk1 hk 0) hs;obtain⟨f2,a2,e2⟩:=IH f1 (e0b s (Wx x)) ((a1.mid hk1 hk).back hk) (g0a _ hs) hrm;refine⟨f2,a2, ?_⟩;unfold e0h;dsimp only;rw [decide_eq_true (by omega),cond_true,a0k hx,j2r];simp only [b0t,b0v,f0p];rw [k0k q g R n k d x hd (hlab x hxm) (by omega),j2r];dsimp only;rw [hdx,k2e,cond_false,a0k hz,j2r,Int.toNat_natCast,hz,j2r,g0l n q g R k (by omega) d hd _ x.id hf1 hn,j2r,htk,hfx];dsimp only;rw [k2e,cond_false,hk0,cond_false,hwk,a0k ea,j2r,a0k hlast,j2r,Int.toNat_natCast,hlast,j2r];simp only [i0w];rw [hbk,cond_true,hmy,cond_true];rw [a0k (eR hmy),j2r,j0d,decide_eq_true hmem,cond_true,hwE,a0k hzE,j2r,Int.toNat_natCast,hzE,j2r,hw1,e1,j2r,hw, ←eW];exact e2
      ·rw [decide_eq_false hmem]at eW
       simp only [cond_false,m2i]at eW;obtain⟨f2,a2,e2⟩:=IH (f.set k x.id) s (hmid.back hk) hs hrm;refine⟨f2,a2, ?_⟩;unfold e0h;dsimp only;rw [decide_eq_true (by omega),cond_true,a0k hx,j2r];simp only [b0t,b0v,f0p];rw [k0k q g R n k d x hd (hlab x hxm) (by omega),j2r];dsimp only;rw [hdx,k2e,cond_false,a0k hz,j2r,Int.toNat_natCast,hz,j2r,g0l n q g R k (by omega) d hd _ x.id hf1 hn,j2r,htk,hfx];dsimp only;rw [k2e,cond_false,hk0,cond_false,hwk,a0k ea,j2r,a0k hlast,j2r,Int.toNat_natCast,hlast,j2r];simp only [i0w];rw [hbk,cond_true,hmy,cond_true];rw [a0k (eR hmy),j2r,j0d,decide_eq_false hmem,cond_false,hw,eW];exact e2
end Pure
namespace Pure
open Esp Ev Go
set_option linter.unusedSimpArgs false
set_option linter.unusedVariables false
theorem a2d(f:List Int)(s:List Y0×Bool)(hs:s.1.length≤2000)(hf:f.length≤1000):q84z (f,(),s.1,(s.2,()),())=some (f,(),(push s f).1,((push s f).2,()),()):=by
 unfold q84z push;dsimp only;by_cases h:s.1.length=2000
 ·rw [if_pos h,show((s.1.length:Int)==2000)=true by rw [h];rfl,cond_true]
 ·rw [if_neg h,show((s.1.length:Int)==2000)=false by rw [beq_eq_false_iff_ne];omega,cond_false,v0t f hf,j2r]
  dsimp only;rw [d0h];unfold room;rw [j2s];constructor<;>exact k2k (by simp;omega)
def AOk(g:Graph)(f:List Int):Prop:=∀x∈f,x∈g.nodes.map Ev.Node.id∨x∈g.edges.map Ev.Edg.id∨x=0
theorem AOk.app{g:Graph}{a b:List Int}(ha:AOk g a)(hb:AOk g b):AOk g (a++b):=by
 intro x hx;rcases l2v.1 hx with h | h
 ·exact ha x h
 ·exact hb x h
theorem AOk.one{g:Graph}{y:Int}(h:y∈g.nodes.map Ev.Node.id∨y∈g.edges.map Ev.Edg.id∨y=0):AOk g [y]:=by
 intro x hx;rw [l2r]at hx;rw [hx];exact h
def w0v(q:Query)(g:Graph)(R:List Y3)(N0:Nat)(pass:List Int→Bool):Prop:=
 ∀(f:List Int),f.length=2*q.dots.length - 1→AOk g f→∀n,N0≤n→∃y:Envr,q54z n ((q,g,R,()),f,())=some (y,(q,g,R,()),f,())∧q70z n (y,q.wher,())=some (pass f,())
theorem k1l(y:Envr):Envr.mk (Graph.mk y.g.nodes y.g.edges y.g.next) y.at_=y:=rfl
def finF(pass:List Int→Bool)(ds es:List Int):List Y0:=bif pass (ds++es)then [ds++es]else []
theorem v1c{q:Query}{g:Graph}{R:List Y3}{N0:Nat}{pass:List Int→Bool}(hp:w0v q g R N0 pass)(hN:q.dots.length≤100)(h1:1≤q.dots.length)(ds es:List Int)(hd:AOk g ds)(he:AOk g es)(m:Nat)(hm:N0+1≤m):
  WOk q g R (q6z m) q.dots.length ds es (finF pass ds es):=by
 intro f s ha hs;obtain⟨n,rfl⟩: ∃n,m=n+1:=⟨m - 1,by omega⟩;have ef:f=ds++es:=by
  have e2:=ha.e;rw [List.take_of_length_le (by rw [k2t,ha.len];omega)]at e2;rw [←ha.d, ←e2,List.take_append_drop]
 obtain⟨y,ey,ep⟩:=hp f ha.len (by rw [ef];exact hd.app he) n (by omega);refine⟨f,ha, ?_⟩;rw [q6z];unfold s1a;dsimp only;rw [show((q.dots.length:Int)==(q.dots.length:Int))=true from beq_self_eq_true _,cond_true]
 simp only [b0t,b0v,ey,j2r,k1l,ep,w0u];unfold finF;rw [←ef];cases hpf:pass f with
 | false=>rfl
 | true=>
  rw [cond_true,cond_true,a2d f s hs (by rw [ha.len];omega)];rfl
def g0g(g:Graph)(fin:List Int→List Int→List Y0):List Y15→List Ev.Dot→List Int→List Int→List Y0
 | [],_,ds,es=>fin ds es
 | (d,a,ks)::r,pre,ds,es=>g.nodes.flatMap fun x=>bif dotB d x&&fitL pre ds d.name x.id then(e0s g a ks (ds.getLast?.getD 0) x.id).flatMap (fun e=>g0g g fin r (pre++ [d]) (ds++ [x.id]) (es++ [e]))else []
def p0m(g:Graph)(fin:List Int→List Int→List Y0)(d:Ev.Dot)(rem:List Y15):List Y0:=
 g.nodes.flatMap fun x=>bif dotB d x&&fitL [] [] d.name x.id then g0g g fin rem [d] [x.id] []else []
theorem m1o{q:Query}{g:Graph}{R:List Y3}(n:Nat)(hn:1100≤n)(k:Nat)(hk:k<q.dots.length)(hN:q.dots.length≤100)(d:Ev.Dot)(hd:q.dots[k]? =some d)(ds es:List Int)(hds:ds.length=k)
  (h40:g.nodes.length≤40)(h60:g.edges.length≤60)(hlab: ∀x∈g.nodes,x.labels.length≤100)(Wx:Ev.Node→List Y0)
  (hb: ∀x∈g.nodes,(dotB d x&&fitL (q.dots.take k) ds d.name x.id)=true→BOk q g R (q6z n) k ds es x.id (Wx x)):
  WOk q g R (q6z (n+1)) k ds es (g.nodes.flatMap fun x=>bif dotB d x&&fitL (q.dots.take k) ds d.name x.id then Wx x else []):=by
 intro f s ha hs;rw [q6z];unfold s1a;dsimp only;rw [show((k:Int)==(q.dots.length:Int))=false by rw [beq_eq_false_iff_ne];omega,cond_false];obtain⟨f',a',e'⟩:=y0e q g R (q6z n) n hn (fun(o131,o132,o133,o134,o135,_)=>some (((Ev.Query.mk o131.1.dots o131.1.arrows o131.1.wher o131.1.items o131.1.dist),(Ev.Graph.mk o131.2.1.nodes o131.2.1.edges o131.2.1.next),o131.2.2.1,()),o135,(()),o133,(o134.1,()),())) (fun(_)=>none) k hk (by omega) d hd ds es hds h40 h60 hlab Wx hb g.nodes [] rfl f s n ha hs (by omega);exact⟨f',a',e'⟩
theorem s1t{g:Graph}{a:Ev.Arrow}{ks:List Ev.Pair}{x y e:Int}(h:e∈e0s g a ks x y):e∈g.edges.map Ev.Edg.id∨e=0:=by
 have key: ∀{fr tg:Int},e∈l0x g a ks fr tg→e∈g.edges.map Ev.Edg.id∨e=0:=by
  intro fr tg h;unfold l0x at h;cases hm:a.many with
  | true=>
   rw [hm,cond_true]at h;cases hd:decide (Ev.Pair.mk fr tg∈ks)with
   | true=>rw [hd,cond_true,l2r]at h;exact .inr h
   | false=>rw [hd,cond_false]at h;cases h
  | false=>
   rw [hm,cond_false]at h;obtain⟨z,hz,rfl⟩:=k2s.1 h;exact .inl (k2s.2 ⟨z,(List.mem_filter.1 hz).1,rfl⟩)
 unfold e0s at h;cases hb:a.back with
 | true=>rw [hb,cond_true]at h;exact key h
 | false=>rw [hb,cond_false]at h;exact key h
theorem f1x{q:Query}{g:Graph}{R:List Y3}{N0:Nat}{pass:List Int→Bool}(hp:w0v q g R N0 pass)(hN0:1100≤N0)(hN:q.dots.length≤100)
  (h40:g.nodes.length≤40)(h60:g.edges.length≤60)(hlab: ∀x∈g.nodes,x.labels.length≤100):
  ∀(rem:List Y15) (pre:List Ev.Dot) (ar:List Ev.Arrow) (ds es:List Int),q.dots=pre++rem.map (fun z=>z.1)→q.arrows=ar++rem.map (fun z=>z.2.1)→pre.length=ar.length+1→ds.length=pre.length→AOk g ds→AOk g es→
   (∀j z,rem[j]? =some z→z.2.1.many=true→R[ar.length+j]? =some (tr z.2.2))→ ∀m,N0+1+rem.length≤m→WOk q g R (q6z m) pre.length ds es (g0g g (finF pass) rem pre ds es)
 | [],pre,ar,ds,es,h1,h2,h3,h4,h5,h6,h7,m,hm=>by
  have e:pre=q.dots:=by rw [h1];simp
  rw [g0g,e];exact v1c hp hN (by rw [←e];omega) ds es h5 h6 m (by simpa using hm)
 | (d,a,ks)::r,pre,ar,ds,es,h1,h2,h3,h4,h5,h6,h7,m,hm=>by
  obtain⟨n,rfl⟩: ∃n,m=n+1:=⟨m - 1,by omega⟩;rw [k2i]at hm;have hl:pre.length<q.dots.length:=by rw [h1];simp
  have ed:q.dots[pre.length]? =some d:=by rw [h1];simp
  have ea:q.arrows[pre.length - 1]? =some a:=by rw [h2,show pre.length - 1=ar.length by omega];simp
  have et:q.dots.take pre.length=pre:=by rw [h1];simp
  have:=m1o (R:=R) n (by omega) pre.length hl hN d ed ds es h4 h40 h60 hlab (fun x=>(e0s g a ks (ds.getLast?.getD 0) x.id).flatMap (fun e=>g0g g (finF pass) r (pre++ [d]) (ds++ [x.id]) (es++ [e]))) ?_
  ·rw [et]at this
   exact this
  ·intro x hx hc
   refine .inr ⟨by omega,a,ks,ds.getLast?.getD 0,fun e=>g0g g (finF pass) r (pre++ [d]) (ds++ [x.id]) (es++ [e]),ea,fun hm=> ?_, ?_,rfl,fun e he=> ?_⟩
   ·have:=h7 0 (d,a,ks) rfl hm
    rw [show pre.length - 1=ar.length by omega];exact this
   ·rw [show pre.length - 1=ds.length - 1 by omega,List.getLast?_eq_getElem?,j2x (by omega)]
    rfl
   ·have hw:=f1x hp hN0 hN h40 h60 hlab r (pre++ [d]) (ar++ [a]) (ds++ [x.id]) (es++ [e]) (by rw [h1];simp) (by rw [h2];simp) (by simp;omega) (by simp [h4])
     (h5.app (AOk.one (.inl (k2s.2 ⟨x,hx,rfl⟩))))
     (h6.app (AOk.one (.inr (s1t he))))
     (by intro j z hz hm;have:=h7 (j+1) z (by simpa using hz) hm;rw [j2y,k2u,show ar.length+1+j=ar.length+(j+1)by omega];exact this) n (by omega)
    rw [j2y,k2u]at hw;exact hw
theorem u1n{q:Query}{g:Graph}{R:List Y3}{N0:Nat}{pass:List Int→Bool}(hp:w0v q g R N0 pass)(hN0:1100≤N0)(hN:q.dots.length≤100)
  (h40:g.nodes.length≤40)(h60:g.edges.length≤60)(hlab: ∀x∈g.nodes,x.labels.length≤100)(d:Ev.Dot)(rem:List Y15)(h1:q.dots=d::rem.map (fun z=>z.1))(h2:q.arrows=rem.map (fun z=>z.2.1))
  (h7: ∀(j:Nat) (z:Ev.Dot×Ev.Arrow×List Ev.Pair),rem[j]? =some z→z.2.1.many=true→R[j]? =some (tr z.2.2))(m:Nat)(hm:N0+2+rem.length≤m):
  WOk q g R (q6z m) 0 [] [] (p0m g (finF pass) d rem):=by
 obtain⟨n,rfl⟩: ∃n,m=n+1:=⟨m - 1,by omega⟩;have:=m1o (R:=R) n (by omega) 0 (by rw [h1];simp) hN d (by rw [h1];rfl) [] [] rfl h40 h60 hlab (fun x=>g0g g (finF pass) rem [d] [x.id] []) ?_
 ·exact this
 ·intro x hx hc
  refine .inl ⟨rfl, ?_⟩;exact f1x hp hN0 hN h40 h60 hlab rem [d] [] [x.id] [] (by rw [h1];rfl) (by rw [h2];rfl) rfl rfl (by intro y hy;rw [l2r]at hy;subst hy;exact .inl (k2s.2 ⟨x,hx,rfl⟩)) (by intro y hy;cases hy)
   (by intro j z hz hm;rw [List.length_nil,l2b];exact h7 j z hz hm) n (by omega)
end Pure
namespace Pure
open Esp Ev Go
set_option linter.unusedSimpArgs false
set_option linter.unusedVariables false
def envD:List Ev.Dot→List Int→List Y2→List Y2
 | d::r,y::s,at_=>envD r s (bif !(seq d.name ⟨#[]⟩)then(bif y !=0 then a0e .str .i64 at_ d.name y else at_)else at_)
 | _,_,at_=>at_
def envA:List Ev.Arrow→List Int→List Y2→List Y2
 | a::r,y::s,at_=>envA r s (bif !(seq a.name ⟨#[]⟩)then a0e .str .i64 at_ a.name y else at_)
 | _,_,at_=>at_
theorem w1b{ρ:Type}(n:Nat)(kr:Unit→Option ρ)(K:Y32→Option ρ)(e:Envr)(q:Query)(g:Graph)(R:List Y3)(f:List Int):
  ∀(l:List Ev.Dot) (t s:List Int) (at_:List Y2),f=t++s→l.length≤s.length→a0c (j0a n kr) K (t.length:Int) l ((e,()),at_,(q,g,R,()),f,())=K ((e,()),envD l s at_,(q,g,R,()),f,())
 | [],t,s,at_,hf,hl=>by rw [a0c,envD];intro a b c d h;cases h
 | d::r,t,s,at_,hf,hl=>by
  obtain⟨y,s,rfl⟩: ∃y s',s=y::s' :=by
   cases s with
   | nil=>simp at hl
   | cons y s' =>exact⟨y,s',rfl⟩
  have hy:f[t.length]? =some y:=by rw [hf];simp
  have ih:=fun at_=>w1b n kr K e q g R f r (t++ [y]) s at_ (by rw [hf];simp) (by simpa using hl);rw [j2y,k2u,Int.natCast_add]at ih;rw [a0c,envD];unfold j0a at ih⊢;dsimp only;cases hn:seq d.name ⟨#[]⟩with
  | true=>rw [k2e,cond_false,cond_false];exact ih _
  | false=>
   rw [k2w,cond_true,cond_true,a0k hy,j2r,Int.toNat_natCast,hy,j2r];cases h0:(y !=0)with
   | true=>rw [cond_true,cond_true,j2r,j2r];exact ih _
   | false=>rw [cond_false,cond_false];exact ih _
theorem w1j{ρ:Type}(n:Nat)(kr:Unit→Option ρ)(K:Y32→Option ρ)(e:Envr)(q:Query)(hN:q.dots.length≤100)(g:Graph)(R:List Y3)(f:List Int)(h0:f.length≤1000):
  ∀(l:List Ev.Arrow) (t s:List Int) (at_:List Y2),f=t++s→q.dots.length≤t.length→l.length≤s.length→a0c (h0l n kr) K ((t.length:Int) - q.dots.length) l ((e,()),at_,(q,g,R,()),f,())=K ((e,()),envA l s at_,(q,g,R,()),f,())
 | [],t,s,at_,hf,ht,hl=>by rw [a0c,envA];intro a b c d h;cases h
 | d::r,t,s,at_,hf,ht,hl=>by
  obtain⟨y,s,rfl⟩: ∃y s',s=y::s' :=by
   cases s with
   | nil=>simp at hl
   | cons y s' =>exact⟨y,s',rfl⟩
  have hy:f[t.length]? =some y:=by rw [hf];simp
  have htl:t.length≤1000:=by rw [hf]at h0;simp at h0;omega
  have ih:=fun at_=>w1j n kr K e q hN g R f h0 r (t++ [y]) s at_ (by rw [hf];simp) (by simp;omega) (by simpa using hl);rw [j2y,k2u,Int.natCast_add,show((t.length:Int)+((1:Nat):Int) - (q.dots.length:Int))=(t.length:Int) - q.dots.length+1 by omega]at ih;rw [a0c,envA];unfold h0l at ih⊢;dsimp only;cases hn:seq d.name ⟨#[]⟩with
  | true=>rw [k2e,cond_false,cond_false];exact ih _
  | false=>
   rw [k2w,cond_true,cond_true,a0h (by omega) (by omega),show((q.dots.length:Int)+((t.length:Int) - q.dots.length))=(t.length:Int)by omega,a0k hy,j2r,Int.toNat_natCast,hy,j2r];exact ih _
theorem y1t{ρ:Type}(n:Nat)(kr:Unit→Option ρ)(K:Y32→Option ρ)(e:Envr)(q:Query)(hN:q.dots.length≤100)(g:Graph)(R:List Y3)(f:List Int)(h0:f.length≤1000)
  (l:List Ev.Arrow)(t s:List Int)(at_:List Y2)(hf:f=t++s)(ht:q.dots.length≤t.length)(hl:l.length≤s.length)(i:Int)(hi:i=(t.length:Int) - q.dots.length):a0c (h0l n kr) K i l ((e,()),at_,(q,g,R,()),f,())=K ((e,()),envA l s at_,(q,g,R,()),f,()):=by
 subst hi;exact w1j n kr K e q hN g R f h0 l t s at_ hf ht hl
def q0g(q:Query)(g:Graph)(f:List Int):Envr:=⟨g,envA q.arrows (f.drop q.dots.length) (envD q.dots f [])⟩
theorem b2q(q:Query)(g:Graph)(R:List Y3)(f:List Int)(hN:q.dots.length≤100)(ha:q.arrows.length+1=q.dots.length)(hf:f.length=2*q.dots.length - 1)(n:Nat)(hn:200≤n):
  q54z n ((q,g,R,()),f,())=some (q0g q g f,(q,g,R,()),f,()):=by
 unfold q54z;dsimp only;rw [m1t n _ _ q.dots n _ _ _ _ (by omega) (by omega)];refine Eq.trans (w1b n _ _ ⟨⟨[], [],0⟩, []⟩ q g R f q.dots [] f [] rfl (by omega)) ?_;dsimp only;rw [n1c n _ _ q.arrows n _ _ _ _ (by omega) (by omega)];refine Eq.trans (y1t n _ _ ⟨⟨[], [],0⟩, []⟩ q hN g R f (by omega) q.arrows (f.take q.dots.length) (f.drop q.dots.length) (envD q.dots f []) (List.take_append_drop _ _).symm (by rw [k2g];omega) (by rw [k2t];omega) 0 (by rw [k2g];omega)) ?_;rfl
theorem s0o{at_:List Y2}{s:ByteArray}{v:Int}(hv:wfI .i64 v)(h:atOk at_):atOk (a0e .str .i64 at_ s v):=by
 induction at_ with
 | nil=>
  intro q hq;have:q=(s,v):=by simpa [a0e]using hq
  subst this;exact hv
 | cons y a ih=>
  intro q hq;rw [a0e]at hq;cases hk:b0g .str s y.1 with
  | true=>
   rw [hk,cond_true]at hq;rcases k2b.1 hq with rfl | hq
   ·exact hv
   ·exact h q (by simp [hq])
  | false=>
   rw [hk,cond_false]at hq;rcases k2b.1 hq with rfl | hq
   ·exact h _ (by simp)
   ·exact ih (fun z hz=>h z (by simp [hz])) q hq
theorem k1b: ∀(l:List Ev.Dot) (s:List Int) (at_:List Y2),(∀x∈s,wfI .i64 x)→atOk at_→atOk (envD l s at_)
 | [],s,at_,hs,h=>by rw [envD];exact h;intro a b c d h;cases h
 | d::r, [],at_,hs,h=>by rw [envD];exact h;intro a b c d _ h;cases h
 | d::r,y::s,at_,hs,h=>by
  rw [envD];refine k1b r s _ (fun x hx=>hs x (by simp [hx])) ?_;cases (!(seq d.name ⟨#[]⟩))with
  | false=>exact h
  | true=>
   cases (y !=0)with
   | false=>exact h
   | true=>exact s0o (hs y (by simp)) h
theorem c1g: ∀(l:List Ev.Arrow) (s:List Int) (at_:List Y2),(∀x∈s,wfI .i64 x)→atOk at_→atOk (envA l s at_)
 | [],s,at_,hs,h=>by rw [envA];exact h;intro a b c d h;cases h
 | d::r, [],at_,hs,h=>by rw [envA];exact h;intro a b c d _ h;cases h
 | d::r,y::s,at_,hs,h=>by
  rw [envA];refine c1g r s _ (fun x hx=>hs x (by simp [hx])) ?_;cases (!(seq d.name ⟨#[]⟩))with
  | false=>exact h
  | true=>exact s0o (hs y (by simp)) h
end Pure
namespace Pure
open Esp Ev Go
set_option linter.unusedSimpArgs false
set_option linter.unusedVariables false
def allF(A:List Int):Nat→List Y0
 | 0=> [[]]
 | n+1=>A.flatMap fun x=>(allF A n).map fun l=>x::l
theorem u0h(A:List Int): ∀f:List Int,(∀x∈f,x∈A)→f∈allF A f.length
 | [],_=>by simp [allF]
 | x::r,h=>List.mem_flatMap.2 ⟨x,h x (by simp),k2s.2 ⟨r,u0h A r fun y hy=>h y (by simp [hy]),rfl⟩⟩
def e0u(q:Query)(g:Graph)(f:List Int):Bool:=q.wher.all fun t=>((tval g (q0g q g f).at_ t).kind==1)&& ((tval g (q0g q g f).at_ t).n==1)
theorem l1p(n:Nat)(e:Envr)(w:List Term)(V:Term→Val)(h: ∀t∈w,q72z n (e,t,())=some (V t,()))(hl:w.length≤1000)(hn:w.length<n):
  q70z n (e,w,())=some (w.all fun t=>((V t).kind==1)&& ((V t).n==1),()):=by
 have key: ∀(l:List Term) (i:Int),(∀t∈l,q72z n (e,t,())=some (V t,()))→a0c (ρ:=Bool×Unit) (k0l n (fun(v11,_)=>some (v11,()))) (fun(o6,_)=>some (true,())) i l ((e,()),())=some (l.all fun t=>((V t).kind==1)&& ((V t).n==1),()):=by
  intro l
  induction l with
  | nil=>intro i _;rfl
  | cons t r ih=>
   intro i hh;have ih:=ih (i+1) fun t ht=>hh t (by simp [ht]);rw [a0c];unfold k0l at ih⊢;dsimp only;rw [Term.eta2,k1l,hh t (by simp),j2r];dsimp only;unfold v0f;rw [j2r,List.all_cons];dsimp only;rw [Val.eta];cases hk:((V t).kind==1)with
   | false=>rw [k2w,l2a,cond_true];rfl
   | true=>
    cases hv:((V t).n==1)with
    | false=>rfl
    | true=>rw [k2e,k2m,cond_false,l2e,l2e];exact ih
 unfold q70z;dsimp only;rw [k1j n _ _ w n _ (by omega) hn];exact key w 0 h
theorem p1o{q:Query}{g:Graph}(hg:GOk g)(b:List Y6)(ht: ∀t∈q.wher,tOk t)(hc: ∀t∈q.wher,tchk b t 1=0)(hw:q.wher.length≤1)(hN:q.dots.length≤100)(ha:q.arrows.length+1=q.dots.length):
  ∃N0,1100≤N0∧∀R,w0v q g R N0 (e0u q g):=by
 have hwf: ∀f,AOk g f→∀x∈f,wfI .i64 x:=by
  intro f hf x hx;rcases hf x hx with h | h | h
  ·obtain⟨y,hy,rfl⟩:=k2s.1 h
   exact(hg.ok.1.2 y hy).1
  ·obtain⟨y,hy,rfl⟩:=k2s.1 h
   exact(hg.ok.2.1.2 y hy).1
  ·rw [h];unfold wfI;decide
 have hA: ∀f,AOk g f→∃N,∀n,N≤n→∀t∈q.wher,q72z n (q0g q g f,t,())=some (tval g (q0g q g f).at_ t,()):=by
  intro f hf;refine c1n q.wher fun t h=> ?_;have hat:atOk (q0g q g f).at_:=c1g _ _ _ (fun x hx=>hwf f hf x (List.mem_of_mem_drop hx)) (k1b _ _ _ (hwf f hf) (fun p hp=>by cases hp));exact(t0f hg hat b t 1 (ht t h) (hc t h)).1
 obtain⟨N1,h1⟩:=c1n (p:=fun n (f:List Int)=>AOk g f→∀t∈q.wher,q72z n (q0g q g f,t,())=some (tval g (q0g q g f).at_ t,()))
  (allF (g.nodes.map Ev.Node.id++(g.edges.map Ev.Edg.id++ [0])) (2*q.dots.length - 1)) (fun f _=>by
   by_cases hf:AOk g f
   ·obtain⟨N,h⟩:=hA f hf
    exact⟨N,fun n hn _=>h n hn⟩
   ·exact⟨0,fun n _ h=>absurd h hf⟩)
 refine⟨N1+1100,by omega,fun R f hl hf n hn=>⟨q0g q g f,b2q q g R f hN ha hl n (by omega), ?_⟩⟩;have hm:=u0h (g.nodes.map Ev.Node.id++(g.edges.map Ev.Edg.id++ [0])) f fun x hx=>by
  rcases hf x hx with h | h | h
  ·exact List.mem_append_left _ h
  ·exact List.mem_append_right _ (List.mem_append_left _ h)
  ·rw [h];simp
 rw [hl]at hm;exact l1p n _ q.wher _ (h1 n (by omega) f hm hf) (by omega) (by omega)
def rsK(n:Nat)(g:Graph)(kind:ByteArray):List Ev.Pair:=(((f0k n (g,kind,())).getD ([],())).1).map fun z=>z.1
theorem l1i(n:Nat)(hn:100100≤n)(g:Graph)(kind:ByteArray)(hc:chkG g=0):f0k n (g,kind,())=some (tr (rsK n g kind),())∧ ∀k,k∈rsK n g kind↔Rc (stp kind g.edges) k.p k.q:=by
 obtain⟨ks,h1,h2,h3,h4⟩:=f2s n hn g kind hc;have e:rsK n g kind=ks:=by
  unfold rsK;rw [h4];show(tr ks).map _=ks;unfold tr;rw [List.map_map];exact List.map_id' ks
 rw [e];exact⟨h4,h2⟩
def rk(n:Nat)(g:Graph)(a:Ev.Arrow):List Ev.Pair:=bif a.many then rsK n g a.type else []
theorem d1q{ρ:Type}(n:Nat)(hn:100100≤n)(q:Query)(g:Graph)(hc:chkG g=0)(kr:Unit→Option ρ)(K:(Y7×Y28×Y21×Unit)→Option ρ):
  ∀(l:List Ev.Arrow) (i:Int) (o:List Y3),o.length+l.length≤1000→a0c (d0b n kr) K i l ((g,()),(q,g,()),o,())=K ((g,()),(q,g,()),o++l.map (fun a=>tr (rk n g a)),())
 | [],i,o,h=>by rw [a0c,m2f,k2y]
 | a::r,i,o,h=>by
  rw [k2i]at h;have ih:=fun z=>d1q n hn q g hc kr K r (i+1) (o++ [z]) (by simp;omega);rw [a0c,k2l];unfold d0b at ih⊢;dsimp only;unfold rk;cases hm:a.many with
  | true=>
   rw [cond_true,b0v,(l1i n hn g a.type hc).1,j2r];dsimp only;rw [d0h (d0k (by simp;omega) (by omega)),ih (tr (rsK n g a.type)),l2m];rfl
  | false=>
   rw [cond_false,d0h (d0k (by simp;omega) (by omega)),ih [],l2m];rfl
theorem c2f(n:Nat)(hn:100100≤n)(q:Query)(g:Graph)(hc:chkG g=0)(ha:q.arrows.length≤100):j0n n (q,g,())=some ((q,g,q.arrows.map (fun a=>tr (rk n g a)),()),()):=by
 unfold j0n;dsimp only;rw [q0i n _ _ q.arrows n _ _ _ (by omega) (by omega)];refine Eq.trans (d1q n hn q g hc _ _ q.arrows 0 [] (by simp;omega)) ?_;rfl
def p0f(n:Nat)(g:Graph)(ds:List Ev.Dot)(ar:List Ev.Arrow):List Y15:=(ds.zip ar).map fun z=>(z.1,z.2,rk n g z.2)
def f0e(n:Nat)(q:Query)(g:Graph)(pass:List Int→Bool):List Y0:=
 match q.dots with
 | []=> []
 | d::r=>p0m g (finF pass) d (p0f n g r q.arrows)
theorem f1q(g:Graph)(pass:List Int→Bool): ∀(rem:List Y15) (pre:List Ev.Dot) (ds es:List Int),∀w∈g0g g (finF pass) rem pre ds es,w.length=ds.length+es.length+2*rem.length
 | [],pre,ds,es,w,h=>by
  rw [g0g]at h;unfold finF at h;cases hp:pass (ds++es)with
  | true=>rw [hp,cond_true,l2r]at h;rw [h];simp
  | false=>rw [hp,cond_false]at h;cases h
 | (d,a,ks)::r,pre,ds,es,w,h=>by
  rw [g0g]at h;obtain⟨x,hx,h⟩:=List.mem_flatMap.1 h;cases hc:dotB d x&&fitL pre ds d.name x.id with
  | false=>rw [hc,cond_false]at h;cases h
  | true=>
   rw [hc,cond_true]at h;obtain⟨e,he,h⟩:=List.mem_flatMap.1 h;rw [f1q g pass r _ _ _ w h];simp;omega
theorem y0a(g:Graph)(pass:List Int→Bool)(d:Ev.Dot)(rem:List Y15)(w:List Int)(h:w∈p0m g (finF pass) d rem):w.length=1+2*rem.length:=by
 obtain⟨x,hx,h⟩:=List.mem_flatMap.1 h;cases hc:dotB d x&&fitL [] [] d.name x.id with
 | false=>rw [hc,cond_false]at h;cases h
 | true=>
  rw [hc,cond_true]at h;rw [f1q g pass rem _ _ _ w h];simp
theorem z0i{α β:Type}: ∀(l:List α) (m:List β),l.length=m.length→(l.zip m).map (fun z=>z.1)=l∧(l.zip m).map (fun z=>z.2)=m
 | [], [],_=>⟨rfl,rfl⟩
 | [],y::m,h=>by simp at h
 | x::l, [],h=>by simp at h
 | x::l,y::m,h=>by
  have ih:=z0i l m (by simpa using h);simp only [List.zip_cons_cons,k2l,ih.1,ih.2,and_self]
theorem o0q(q:Query)(g:Graph)(hc:chkG g=0)(pass:List Int→Bool)(N0:Nat)(hN0:1100≤N0)(hp: ∀R,w0v q g R N0 pass)(hN:q.dots.length≤100)(h1:1≤q.dots.length)(ha:q.arrows.length+1=q.dots.length)(n:Nat)(hn:N0+110000≤n)(hq:q85z n (q,())=some (0,())):
  d0g n (q,g,())=bif decide ((f0e n q g pass).length≤2000)then some (g0h ltLL (f0e n q g pass),0,())else some ([],10,()):=by
 obtain⟨h40,h60,hnod,_⟩:=f0c hc;have hlab: ∀x∈g.nodes,x.labels.length≤100:=by
  intro x hx;have:=(f1y hnod x hx).1;unfold labE at this;cases hb:decide ((x.labels.length:Int) >4)with
  | true=>rw [hb]at this;cases this
  | false=>have:=of_decide_eq_false hb;omega
 obtain⟨d,r,hd⟩: ∃d r,q.dots=d::r:=by
  cases hq:q.dots with
  | nil=>rw [hq]at h1;simp at h1
  | cons d r=>exact⟨d,r,rfl⟩
 have hlr:r.length=q.arrows.length:=by rw [hd]at ha;simp at ha;omega
 have hz:=z0i r q.arrows hlr;have hr1:(p0f n g r q.arrows).map (fun z=>z.1)=r:=by unfold p0f;rw [List.map_map];exact hz.1
 have hr2:(p0f n g r q.arrows).map (fun z=>z.2.1)=q.arrows:=by unfold p0f;rw [List.map_map];exact hz.2
 have hrl:(p0f n g r q.arrows).length=r.length:=by rw [←k2v (f:=fun z=>z.1),hr1]
 have hW:f0e n q g pass=p0m g (finF pass) d (p0f n g r q.arrows):=by unfold f0e;rw [hd]
 have hE: ∀w∈f0e n q g pass,w.length≤1000000:=by
  intro w hw;rw [hW]at hw;rw [y0a g pass d _ w hw,hrl];rw [hd]at hN;simp at hN;omega
 obtain⟨f',_,ew⟩:=u1n (R:=q.arrows.map (fun a=>tr (rk n g a))) (hp _) hN0 hN h40 h60 hlab d (p0f n g r q.arrows) (by rw [hr1,hd]) hr2.symm (fun j z hz hm=>by
  have e:=congrArg (fun l=>l[j]?) hr2;rw [l2d,hz]at e;rw [l2d, ←e];show some (tr (rk n g z.2.1))=some (tr z.2.2);have:z∈p0f n g r q.arrows:=List.mem_of_getElem? hz;obtain⟨y,_,rfl⟩:=k2s.1 this;rfl) n (by rw [hrl];rw [hd]at hN;simp at hN;omega) (List.replicate (2*q.dots.length - 1) 0) ([],false) ⟨by simp,rfl,by rw [Nat.zero_sub,List.take_zero]⟩ (by simp)
 rw [←hW]at ew;unfold d0g;dsimp only;rw [b0t,hq,j2r];dsimp only;rw [show((0:Int) !=0)=false from rfl,cond_false,b0v,v0k g n (by omega),j2r,hc]
 dsimp only;rw [show((0:Int) !=0)=false from rfl,cond_false,c2f n (by omega) q g hc (by omega),j2r]
 dsimp only;unfold q5z;dsimp only;rw [a0h (by omega) (by omega)];unfold cnt?;rw [if_pos (by omega),j2r,show((q.dots.length:Int)+(q.arrows.length:Int)).toNat=2*q.dots.length - 1 by omega,d0h (d0k (by omega) (by omega)),b0t,b0v];rw [show(0:Int)=((0:Nat):Int)from rfl]at ew⊢
 rw [ew,j2r];dsimp only;rw [j2r];dsimp only;have hpe:=e1k (f0e n q g pass) ([],false) (by simp);rw [List.length_nil,l2b,l2j]at hpe;cases hle:decide ((f0e n q g pass).length≤2000)with
 | true=>
  have hle:=of_decide_eq_true hle;rw [hpe.1 hle];dsimp only;rw [cond_false,j1j _ (by omega) hE];rfl
 | false=>
  have hle:=of_decide_eq_false hle;rw [hpe.2 (by omega)];rfl
end Pure
namespace Pure
open Esp Ev Go
set_option linter.unusedSimpArgs false
set_option linter.unusedVariables false
theorem p0v(n:Nat)(hn:100≤n)(a b:List Int)(ha:a.length≤400)(hb:b.length≤400):q26z n ([a,b],())=some (a++b,()):=by
 unfold q26z;dsimp only;rw [q1j n _ _ [a,b] n _ _ (by simp) (by simp;omega)];rw [a0c];unfold y0i;dsimp only;rw [a0h (by omega) (by omega),decide_eq_false (by omega),cond_false,a0c];dsimp only;rw [a0h (by omega) (by omega),decide_eq_false (by omega),cond_false,a0c];have hg:q14z (0+(a.length:Int)+(b.length:Int),())=some ([],()):=by
  unfold q14z;dsimp only;rw [decide_eq_false (by omega),cond_false,a0h (by omega) (by omega)];by_cases h:0+(a.length:Int)+(b.length:Int) - 0>0
  ·rw [decide_eq_true h,cond_true,d0h (by decide),d0h (by rw [j2s];exact⟨rfl,d0k (by omega) (by omega)⟩)]
   unfold cut?;rw [if_pos ⟨by omega,by rw [List.length_replicate];omega⟩];rfl
  ·rw [decide_eq_false h,cond_false]
 dsimp only;rw [hg,j2r];dsimp only;rw [l1s n _ _ [a,b] n _ (by simp) (by simp;omega)];rw [a0c];unfold y0m;dsimp only;rw [d0h (d0k (by simp;omega) (by omega)),a0c];dsimp only;rw [d0h (d0k (by simp;omega) (by omega)),a0c];rfl
end Pure
namespace Pure
open Esp Ev Go
set_option linter.unusedSimpArgs false
set_option linter.unusedVariables false
theorem g2j{b:List Y6}: ∀{l:List Term},whF b l=0→∀t∈l,tchk b t 1=0
 | [],_,t,ht=>by cases ht
 | x::r,h,t,ht=>by
  rw [whF]at h;cases hx:(tchk b x 1 !=0)with
  | true=>rw [hx,cond_true]at h;rw [h]at hx;cases hx
  | false=>
   rw [hx,cond_false]at h;rcases k2b.1 ht with rfl | ht
   ·simpa [bne]using hx
   ·exact g2j h t ht
theorem n1q{q:Query}(h:chkQ q=0):(1≤q.dots.length∧q.dots.length≤5)∧q.wher.length≤1∧q.arrows.length+1=q.dots.length∧q.dots.all dtB=true∧q.arrows.all arB=true∧∃b,nmA q.arrows (nmD q.dots [])=some b∧∀t∈q.wher,tchk b t 1=0:=by
 unfold chkQ at h;cases hb:((((decide (((q.dots.length:Int):Int)<1)) || (decide (((q.dots.length:Int):Int) >5))) || (decide (((q.items.length:Int):Int)<1))) || (decide (((q.items.length:Int):Int) >5))) || (decide (((q.wher.length:Int):Int) >1))with
 | true=>rw [hb,cond_true]at h;cases h
 | false=>
  rw [hb,cond_false]at h;simp only [k2c,decide_eq_false_iff_not]at hb;cases ha:((q.arrows.length:Int) !=(q.dots.length:Int) - 1)with
  | true=>rw [ha,cond_true]at h;cases h
  | false=>
   rw [ha,cond_false]at h;have ha:(q.arrows.length:Int)=(q.dots.length:Int) - 1:=by simpa [bne]using ha
   cases hd:q.dots.all dtB with
   | false=>rw [hd]at h;cases h
   | true=>
    cases hr:q.arrows.all arB with
    | false=>rw [hd,hr]at h;cases h
    | true=>
     rw [hd,hr]at h;cases hn:nmA q.arrows (nmD q.dots [])with
     | none=>rw [hn]at h;cases h
     | some b=>
      rw [hn]at h;simp only [k2e,cond_false]at h;cases hw:(whF b q.wher !=0)with
      | true=>rw [hw,cond_true]at h;rw [h]at hw;cases hw
      | false=>exact⟨by omega,by omega,by omega,rfl,rfl,b,rfl,g2j (by simpa [bne]using hw)⟩
end Pure
namespace Pure
open Esp Ev Go
set_option linter.unusedSimpArgs false
set_option linter.unusedVariables false
theorem j1f(k:Ev.Pair):Rc (stp ⟨#[]⟩ line3G.edges) k.p k.q↔k∈p123:=by
 have e: ∀{a b:Int},stp ⟨#[]⟩ line3G.edges a b↔(a=1∧b=2)∨(a=2∧b=3):=by
  intro a b;unfold stp;constructor
  ·rintro⟨x,hx,_,rfl,rfl⟩
   simp only [line3G,k2b,l2g,or_false]at hx;rcases hx with rfl | rfl<;>simp
  ·rintro(⟨rfl,rfl⟩ | ⟨rfl,rfl⟩)
   ·exact⟨.mk 4 1 2 ⟨#[75]⟩ [],by simp [line3G],by kernel_rfl,rfl,rfl⟩
   ·exact⟨.mk 5 2 3 ⟨#[75]⟩ [],by simp [line3G],by kernel_rfl,rfl,rfl⟩
 obtain⟨p,q⟩:=k;have hm:Ev.Pair.mk p q∈p123↔(p=1∧q=2)∨(p=1∧q=3)∨(p=2∧q=3):=by simp [p123]
 rw [hm];constructor
 ·intro w
  have: ∀{a b:Int},W (stp ⟨#[]⟩ line3G.edges) (fun _=>True) a b→(a=1∧b=2)∨(a=1∧b=3)∨(a=2∧b=3):=by
   intro a b w
   induction w with
   | one h=>have:=e.1 h;omega
   | two _ _ _ i j=>omega
  exact this w
 ·rintro(⟨rfl,rfl⟩ | ⟨rfl,rfl⟩ | ⟨rfl,rfl⟩)
  ·exact .one (e.2 (by simp))
  ·exact Rc.trans (c:=2) (.one (e.2 (.inl ⟨rfl,rfl⟩))) (.one (e.2 (.inr ⟨rfl,rfl⟩)))
  ·exact .one (e.2 (by simp))
def v2:Val:=((q68z (2,())).getD (.mk 0 0 ⟨#[]⟩ [],())).1
def t2:Term:=((q58z ((⟨#[60]⟩:ByteArray),([(Ev.Term.mk 2 (Ev.Val.mk 0 0 (⟨#[]⟩:ByteArray) ([]:List Ev.Val)) (⟨#[97]⟩:ByteArray) ([]:List Ev.Term)),(Ev.Term.mk 1 (Ev.Val.mk v2.kind v2.n v2.s v2.l) (⟨#[]⟩:ByteArray) ([]:List Ev.Term))]:List Ev.Term),())).getD (.mk 0 (.mk 0 0 ⟨#[]⟩ []) ⟨#[]⟩ [],())).1
def q3:Query:=(Ev.Query.mk ([(Ev.Dot.mk (⟨#[97]⟩:ByteArray) (⟨#[]⟩:ByteArray)),(Ev.Dot.mk (⟨#[]⟩:ByteArray) (⟨#[]⟩:ByteArray))]:List Ev.Dot) ([(Ev.Arrow.mk (⟨#[]⟩:ByteArray) (⟨#[]⟩:ByteArray) false true)]:List Ev.Arrow) ([(Ev.Term.mk t2.kind (Ev.Val.mk t2.v.kind t2.v.n t2.v.s t2.v.l) t2.name t2.a)]:List Ev.Term) ([(Ev.Item.mk (⟨#[110]⟩:ByteArray) (⟨#[]⟩:ByteArray) (Ev.Term.mk 2 (Ev.Val.mk 0 0 (⟨#[]⟩:ByteArray) ([]:List Ev.Val)) (⟨#[97]⟩:ByteArray) ([]:List Ev.Term)))]:List Ev.Item) false)
theorem w1y:chkQ q3=0:=by kernel_rfl
theorem p1m:gOk line3G:=by
 unfold gOk line3G;simp [nOk,eOk,maxLen,wfI]
 decide
theorem p0w(g:Graph)(a:Ev.Arrow)(ks ks' :List Ev.Pair)(h: ∀k,k∈ks↔k∈ks')(x y:Int):e0s g a ks x y=e0s g a ks' x y:=by
 have: ∀fr tg,l0x g a ks fr tg=l0x g a ks' fr tg:=by
  intro fr tg;unfold l0x;rw [decide_eq_decide.2 (h (Ev.Pair.mk fr tg))]
 unfold e0s;rw [this,this]
theorem n1t(g:Graph)(fin:List Int→List Int→List Y0)(d d2:Ev.Dot)(a:Ev.Arrow)(ks ks' :List Ev.Pair)(h: ∀k,k∈ks↔k∈ks'):p0m g fin d [(d2,a,ks)]=p0m g fin d [(d2,a,ks')]:=by
 unfold p0m g0g g0g;simp only [p0w g a ks ks' h]
theorem w3:p0m line3G (finF (e0u q3 line3G)) (Ev.Dot.mk ⟨#[97]⟩ ⟨#[]⟩) [(Ev.Dot.mk ⟨#[]⟩ ⟨#[]⟩,Ev.Arrow.mk ⟨#[]⟩ ⟨#[]⟩ false true,p123)]= [[1,2,0], [1,3,0]]:=by kernel_rfl
theorem eqf3(n:Nat):q3z (n+100) ([[1,2,0], [1,3,0]], [[1,2,0], [1,3,0]],())=some (true,()):=by kernel_rfl
theorem h1f: ∃N,∀n,N≤n→q33z n ()=some (true,()):=by
 have ht: ∀t∈q3.wher,tOk t:=by
  have e:q3.wher= [.mk 4 (.mk 0 0 ⟨#[]⟩ []) ⟨#[60]⟩ [.mk 2 (.mk 0 0 ⟨#[]⟩ []) ⟨#[97]⟩ [], .mk 1 v2 ⟨#[]⟩ []]]:=by kernel_rfl
  rw [e];intro t h;rw [l2r]at h;subst h;have ev:v2= .mk 2 2 ⟨#[]⟩ []:=by kernel_rfl
  rw [ev];simp [tOk,tOks,vOk,vOks,maxLen,wfI]
  decide
 obtain⟨⟨h1,h5⟩,hw,ha,_,_,b,_,hc⟩:=n1q w1y;obtain⟨N0,h0,hp⟩:=p1o ⟨p1m,n0x⟩ b ht hc hw (by omega) ha;refine⟨N0+110100,fun n hn=> ?_⟩;have em:=o0q q3 line3G n0x (e0u q3 line3G) N0 h0 hp (by omega) h1 ha n (by omega) (by rw [j0q q3 n (by omega),w1y]);have ew:f0e n q3 line3G (e0u q3 line3G)= [[1,2,0], [1,3,0]]:=
  (n1t line3G _ _ _ _ (rsK n line3G ⟨#[]⟩) p123 (fun k=>((l1i n (by omega) line3G ⟨#[]⟩ n0x).2 k).trans (j1f k))).trans w3
 rw [ew,decide_eq_true (by simp),cond_true,f1l ltLL_ok (.refl _) (by decide)]at em;obtain⟨m,rfl⟩: ∃m,n=m+100:=⟨n - 100,by omega⟩;unfold q33z;dsimp only;rw [show q68z (2,())=some (v2,())from rfl,j2r]
 dsimp only;rw [show q58z _=some (t2,())from rfl,j2r]
 dsimp only;rw [u1j,j2r];refine Eq.trans (congrArg (fun z=>Option.bind z _) em) ?_;rw [j2r];dsimp only;rw [show((0:Int)==0)=true from rfl,cond_true,eqf3]
 rfl
end Pure

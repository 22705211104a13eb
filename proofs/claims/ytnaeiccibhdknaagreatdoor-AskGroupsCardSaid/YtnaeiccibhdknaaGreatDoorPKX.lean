import Derived.Test.YtnaeiccibhdknaaGreatDoorPBX
set_option linter.unusedSimpArgs false
set_option linter.unusedVariables false
noncomputable section
namespace Pure.Ak
open Esp Ev Go
def push(rw:List Int->List Val)(s:List Cnt×Int)(w:List Int):List Cnt×Int:=(if s.2+1<=2000 then s.1++ [Cnt.mk (rw w) 1]else s.1,s.2+1)
def b0c(rw:List Int->List Val)(s:List Cnt×Int)(W:List Y2):List Cnt×Int:=W.foldl (push rw) s
theorem j0c(rw:List Int->List Val)(s:List Cnt×Int)(V W:List Y2):b0c rw s (V++W)=b0c rw (b0c rw s V) W:=List.foldl_append
structure POk(s:List Cnt×Int)(m:Nat):Prop where
 a:(s.1.length:Int)<=2000
 b:(s.1.length:Int)<=s.2
 c:s.2+m<=1000000000000000000
theorem POk.le {s:List Cnt×Int}{m k:Nat}(h:POk s m)(hk:k<=m):POk s k:=⟨h.a,h.b,by have:=h.c;omega⟩
theorem POk.one {rw:List Int->List Val}{s:List Cnt×Int}{w:List Int}{m:Nat}(h:POk s (m+1)):POk (push rw s w) m:=by
 have a:=h.a;have b:=h.b;have c:=h.c;unfold push;refine⟨?_,?_,?_⟩<;>dsimp only<;>(try split)<;>(try simp only[List.length_append,List.length_singleton])<;>omega
theorem POk.many {rw:List Int->List Val}:∀(V:List Y2) {s:List Cnt×Int} {m:Nat},POk s (V.length+m)->POk (b0c rw s V) m
 |[],s,m,h=>h.le (by omega)
 |w::r,s,m,h=>POk.many r (POk.one (h.le (by simp;omega)))
theorem POk.l {s:List Cnt×Int}{V W:List Y2}(h:POk s (V++W).length):POk s V.length:=h.le (by simp)
theorem POk.r {rw:List Int->List Val}{s:List Cnt×Int}{V W:List Y2}(h:POk s (V++W).length):POk (b0c rw s V) W.length:=POk.many V (by rw[r2j]at h;exact h)
theorem c1w(rw:List Int->List Val):∀(W:List Y2) (s:List Cnt×Int),(b0c rw s W).2=s.2+W.length
 |[],s=>by simp[b0c]
 |w::r,s=>by
  have:=c1w rw r (push rw s w);rw[show b0c rw s (w::r)=b0c rw (push rw s w) r from rfl,this,r2m]
  unfold push;dsimp only;omega
theorem v0i(rw:List Int->List Val):∀(W:List Y2) (s:List Cnt×Int),s.2+W.length<=2000->(b0c rw s W).1=s.1++W.map (λw=>Cnt.mk (rw w) 1)
 |[],s,h=>by simp[b0c]
 |w::r,s,h=>by
  rw[r2m]at h;have e:push rw s w=(s.1++ [Cnt.mk (rw w) 1],s.2+1):=by unfold push;rw[if_pos (by omega)]
  have:=v0i rw r (push rw s w) (by rw[e];dsimp only;omega);rw[show b0c rw s (w::r)=b0c rw (push rw s w) r from rfl,this,e]
  simp
abbrev i1z:=Int×Y0×Y2×Y5×Unit×Y3×Y4×Unit×Unit->Option Y13
def WOk(q:Query)(g:Graph)(R:List Y7)(rw:List Int->List Val)(self:i1z)(k:Nat)(ds es:List Int)(W:List Y2):Prop:=
 ∀(f:List Int) (s:List Cnt×Int),Agr q.dots.length k ds es f->POk s W.length->∃f',Agr q.dots.length k ds es f' /\
  self ((k:Int),(q,g,R,()),f,(s.2,()),(),s.1,(q,()),(),())=some ((q,g,R,()),f',((b0c rw s W).2,()),(),(b0c rw s W).1,(q,()),(),())
theorem d0v{ρ:Type}(q:Query)(g:Graph)(R:List Y7)(rw:List Int->List Val)(self:i1z)(n:Nat)
  (k:Nat)(h1:1<=k)(hk:k<q.dots.length)(hN:q.dots.length<=1000)(a:Ev.Arrow)(fr tg:Int)(v83:List Ev.Node)(v84 v85:Int)(ds es:List Int)(Wn:Int->List Y2):
  ∀(l:List Edg) (i:Int),(∀y∈l,okE a fr tg y=true->WOk q g R rw self (k+1) ds (es++ [y.id]) (Wn y.id))-> ∀(f:List Int) (s:List Cnt×Int),Mid q.dots.length k ds es f->POk s ((((l.filter (okE a fr tg)).map Edg.id).flatMap Wn).length)->
   ∃f',Mid q.dots.length k ds es f' /\∀(kr:Unit->Option ρ) (K:Y21->Option ρ),a0b (j0r self n kr) K i l ((k:Int),(q.dots.length:Int),fr,tg,v83,v84,v85,(a,()),(q,g,R,()),(s.2,()),(),s.1,(q,()),(),f,())
    =K ((k:Int),(q.dots.length:Int),fr,tg,v83,v84,v85,(a,()),(q,g,R,()),((b0c rw s (((l.filter (okE a fr tg)).map Edg.id).flatMap Wn)).2,()),(),(b0c rw s (((l.filter (okE a fr tg)).map Edg.id).flatMap Wn)).1,(q,()),(),f',())
 |[],i,hw,f,s,hm,hs=>⟨f,hm,λkr K=>by rw[a0b];rfl⟩
 |y::r,i,hw,f,s,hm,hs=>by
  by_cases hy:okE a fr tg y=true
  ·have hL:f[q.dots.length+k - 1]? ≠none:=by
    rw[Ne,List.getElem?_eq_none_iff,hm.len];omega
   obtain⟨z,hz⟩:=Option.ne_none_iff_exists'.1 hL;rw[t2j hy,r2k,s2b]at hs;obtain⟨f1,a1,e1⟩:=hw y (by simp) hy (f.set (q.dots.length+k - 1) y.id) s (hm.edge h1 hk y.id) hs.l;obtain⟨f2,a2,e2⟩:=d0v (ρ:=ρ) q g R rw self n k h1 hk hN a fr tg v83 v84 v85 ds es Wn r (i+1) (λx hx=>hw x (by simp[hx])) f1 (b0c rw s (Wn y.id)) (a1.mid h1 hk) hs.r;refine⟨f2,a2,λkr K=>?_⟩;have e2:=e2 kr K;rw[t2j hy,r2k,s2b,j0c];rw[a0b];unfold j0r at e2⊢;unfold okE at hy;dsimp only;rw[hy,u2a,a0f (x:=(q.dots.length:Int)+k) (by omega) (by omega),a0f (x:=(q.dots.length:Int)+k - 1) (by omega) (by omega),show((q.dots.length:Int)+k - 1)=((q.dots.length+k - 1:Nat):Int)by omega,a0r hz,Int.toNat_natCast,hz];simp only[q2u,f0a,f0b,x0o];rw[a0f (by omega) (by omega),show((k:Int)+1)=((k+1:Nat):Int)by omega,e1,q2u];exact e2
  ·have dT:okE a fr tg y=false:=by simpa using hy
   rw[t2d hy]at hs;obtain⟨f2,a2,e2⟩:=d0v (ρ:=ρ) q g R rw self n k h1 hk hN a fr tg v83 v84 v85 ds es Wn r (i+1) (λx hx=>hw x (by simp[hx])) f s hm hs;refine⟨f2,a2,λkr K=>?_⟩;have e2:=e2 kr K;rw[t2d hy];rw[a0b];unfold j0r at e2⊢;unfold okE at dT;dsimp only;rw[dT,u2b];exact e2
def BOk(q:Query)(g:Graph)(R:List Y7)(rw:List Int->List Val)(self:i1z)(k:Nat)(ds es:List Int)(x:Int)(W:List Y2):Prop:=
 (k=0/\WOk q g R rw self 1 (ds++ [x]) es W)\/
 (1<=k/\∃a ks last Wn,q.arrows[k - 1]?=some a/\(a.many=true->R[k - 1]?=some (tr ks))/\ds[k - 1]?=some last/\W=(k0n g a ks last x).flatMap Wn/\∀e∈k0n g a ks last x,WOk q g R rw self (k+1) (ds++ [x]) (es++ [e]) (Wn e))
theorem i0u{ρ:Type}(q:Query)(g:Graph)(R:List Y7)(rw:List Int->List Val)(self:i1z)(n:Nat)(hn:1100<=n)
  (kx:Y0×Y5×Unit×Y3×Y4×Unit×Y2×Unit->Option ρ)(kr:Unit->Option ρ)
  (k:Nat)(hk:k<q.dots.length)(hN:q.dots.length<=1000)(d:Ev.Dot)(hd:q.dots[k]?=some d)(ds es:List Int)(eA:ds.length=k)
  (bW:g.nodes.length<=40)(bR:g.edges.length<=60)(bF:∀x∈g.nodes,x.labels.length<=100)(Wx:Ev.Node->List Y2)
  (hb:∀x∈g.nodes,(dotB d x&&fitL (q.dots.take k) ds d.name x.id)=true->BOk q g R rw self k ds es x.id (Wx x)):
  ∀(r p:List Ev.Node),g.nodes=p++r->∀(f:List Int) (s:List Cnt×Int) (fuel:Nat),Agr q.dots.length k ds es f->POk s ((r.flatMap λx=>bif dotB d x&&fitL (q.dots.take k) ds d.name x.id then Wx x else []).length)->r.length<fuel->
   ∃f',Agr q.dots.length k ds es f' /\a0a (λrc=>l0f self n rc kx kr) fuel ((k:Int),(q.dots.length:Int),g.nodes,(g.nodes.length:Int),(p.length:Int),(q,g,R,()),(s.2,()),(),s.1,(q,()),(),f,())
    =kx ((q,g,R,()),((b0c rw s (r.flatMap λx=>bif dotB d x&&fitL (q.dots.take k) ds d.name x.id then Wx x else [])).2,()),(),(b0c rw s (r.flatMap λx=>bif dotB d x&&fitL (q.dots.take k) ds d.name x.id then Wx x else [])).1,(q,()),(),f',())
 |[],p,hp,f,s,fuel,ha,hs,hf=>by
  obtain⟨m,rfl⟩:∃m,fuel=m+1:=⟨fuel - 1,by omega⟩;refine⟨f,ha,?_⟩;rw[a0a];unfold l0f;dsimp only;rw[decide_eq_false (by rw[hp];simp),u2b];rfl
 |x::r,p,hp,f,s,fuel,ha,hs,hf=>by
  obtain⟨m,rfl⟩:∃m,fuel=m+1:=⟨fuel - 1,by omega⟩;have kl:x∈g.nodes:=by rw[hp];simp
  have hx:g.nodes[p.length]?=some x:=by rw[hp];simp
  have aJ:p.length<g.nodes.length:=(r2e.1 hx).1;have bT:k<f.length:=by rw[ha.len];omega
  obtain⟨z,hz⟩:∃z,f[k]?=some z:=⟨f[k],by simp[bT]⟩;have hmid:=ha.dot hk x.id;have hf1:(f.set k x.id)[k]?=some x.id:=by simp[bT]
  have j7:(f.set k x.id).take k=ds:=by rw[List.take_set_of_le (r2f k),ha.d]
  have IH:=λf s=>i0u q g R rw self n hn kx kr k hk hN d hd ds es eA bW bR bF Wx hb r (p++ [x]) (by rw[hp];simp) f s m;rw[r2j,s2v,Int.natCast_add]at IH;have c8:r.length<m:=by simp at hf;omega
  have hw:wI ((p.length:Int)+1)=(p.length:Int)+1:=a0f (by omega) (by omega);rw[s2b]at hs;rw[s2b,a0a];generalize a0a (λrc=>l0f self n rc kx kr) m=I at IH⊢;have two:∀b:Bool,b=false\/b=true:=by decide
  unfold l0f;dsimp only;rw[decide_eq_true (by omega),u2a,a0r hx,q2u];simp only[f0a,f0b,w1v];rw[d2g q g R n k d x hd (bF x kl) (by omega),q2u];dsimp only;rcases two (dotB d x)with dM|dM
  ·rw[dM,t2x,u2b,r2z]at hs
   obtain⟨f2,a2,e2⟩:=IH f s ha hs c8;refine⟨f2,a2,?_⟩;rw[dM,t2b,u2a,hw,t2x,u2b,r2z];exact e2
  ·rw[dM,s2i,u2b,a0r hz,q2u,Int.toNat_natCast,hz,q2u,r1n n q g R k (by omega) d hd _ x.id hf1 hn,q2u,j7]
   dsimp only;rcases two (fitL (q.dots.take k) ds d.name x.id)with fB|fB
   ·rw[dM,fB,s2x,u2b,r2z]at hs
    obtain⟨f2,a2,e2⟩:=IH (f.set k x.id) s (hmid.back hk) hs c8;refine⟨f2,a2,?_⟩;rw[fB,t2b,u2a,hw,s2x,u2b,r2z];exact e2
   ·rw[dM,fB,s2x,u2a]at hs
    rw[fB,s2i,u2b,s2x,u2a,j0c];have hB:=hb x kl (by rw[dM,fB];rfl);rcases hB with⟨dV,hW⟩| ⟨b6,a,ks,last,Wn,ea,eR,el,eW,hW⟩
    ·subst dV
     obtain⟨f1,a1,e1⟩:=hW (f.set 0 x.id) s ⟨hmid.len,hmid.d,hmid.e⟩ hs.l;have a1' :Mid q.dots.length 0 (ds++ [x.id]) es f1:=⟨a1.len,a1.d,a1.e⟩;obtain⟨f2,a2,e2⟩:=IH f1 (b0c rw s (Wx x)) (a1'.back hk) hs.r c8;refine⟨f2,a2,?_⟩;rw[show(((0:Nat):Int)==0)=true from rfl,u2a]
     rw[show(((1:Nat):Int))=1 from rfl]at e1
     rw[e1,q2u];rw[hw];exact e2
    ·have bX:(f.set k x.id)[k - 1]?=some last:=by
      have:=congrArg (λl:List Int=>l[k - 1]?) hmid.d;replace this:((f.set k x.id).take (k+1))[k - 1]?=(ds++ [x.id])[k - 1]?:=this;rw[List.getElem?_take_of_lt (by omega),s2l (by omega),el]at this;exact this
     have kg:wI ((k:Int) - 1)=((k - 1:Nat):Int):=by rw[a0f (by omega) (by omega)];omega
     have j4:wI (wI ((q.dots.length:Int)+k) - 1)=((q.dots.length+k - 1:Nat):Int):=by rw[a0f (x:=(q.dots.length:Int)+k) (by omega) (by omega),a0f (by omega) (by omega)];omega
     have eK:wI ((k:Int)+1)=((k+1:Nat):Int):=by rw[a0f (by omega) (by omega)];omega
     have dV:((k:Int)==0)=false:=by rw[beq_eq_false_iff_ne];omega
     obtain⟨zE,eO⟩:∃z,(f.set k x.id)[q.dots.length+k - 1]?=some z:=by
      have:q.dots.length+k - 1<(f.set k x.id).length:=by rw[hmid.len];omega
      exact⟨_,q2y this⟩
     unfold k0n at eW hW;rw[dV,u2b,kg,a0r ea,q2u,a0r bX,q2u,Int.toNat_natCast,bX,q2u];simp only[x0o];rcases two a.back with b7|b7<;>rcases two a.many with cG|cG<;>rw[b7]at eW hW<;>simp only[u2a,u2b]at eW hW<;>unfold s0d at eW hW<;>rw[cG]at eW hW<;>simp only[u2a,u2b]at eW hW
     ·obtain⟨f1,a1,e1⟩:=d0v q g R rw self n (ρ:=ρ) k b6 hk hN a last x.id g.nodes (g.nodes.length:Int) (p.length:Int) (ds++ [x.id]) es Wn g.edges 0 (λy hy bY=>hW _ (r2s.2 ⟨y,t2a.2 ⟨hy,bY⟩,rfl⟩)) (f.set k x.id) s hmid (by rw [<-eW];exact hs.l)
      obtain⟨f2,a2,e2⟩:=IH f1 (b0c rw s (Wx x)) (a1.back hk) hs.r c8;refine⟨f2,a2,?_⟩;rw[b7,u2b,cG,u2b];rw[b1n self n _ _ g.edges n _ _ _ _ _ _ _ _ _ _ _ _ _ _ _ (by omega) (by omega)];rw [<-eW]at e1;rw[e1];dsimp only;rw[hw];exact e2
     ·by_cases aS:Ev.Pair.mk last x.id∈ks
      ·rw[decide_eq_true aS]at eW hW
       simp only[u2a,s2b,List.flatMap_nil,r2p]at eW;obtain⟨f1,a1,e1⟩:=hW 0 (by simp) ((f.set k x.id).set (q.dots.length+k - 1) 0) s (hmid.edge b6 hk 0) (by rw [<-eW];exact hs.l);obtain⟨f2,a2,e2⟩:=IH f1 (b0c rw s (Wx x)) ((a1.mid b6 hk).back hk) hs.r c8;refine⟨f2,a2,?_⟩;rw[b7,u2b,cG,u2a];rw[a0r (eR cG),q2u,n0k,decide_eq_true aS,u2a,j4,a0r eO,q2u,Int.toNat_natCast,eO,q2u,eK,e1,q2u,hw, <-eW];exact e2
      ·rw[decide_eq_false aS]at eW
       simp only[u2b,List.flatMap_nil]at eW;obtain⟨f2,a2,e2⟩:=IH (f.set k x.id) s (hmid.back hk) (by rw[eW,r2z]at hs;exact hs) c8;refine⟨f2,a2,?_⟩;rw[b7,u2b,cG,u2a];rw[a0r (eR cG),q2u,n0k,decide_eq_false aS,u2b,hw,eW];exact e2
     ·obtain⟨f1,a1,e1⟩:=d0v q g R rw self n (ρ:=ρ) k b6 hk hN a x.id last g.nodes (g.nodes.length:Int) (p.length:Int) (ds++ [x.id]) es Wn g.edges 0 (λy hy bY=>hW _ (r2s.2 ⟨y,t2a.2 ⟨hy,bY⟩,rfl⟩)) (f.set k x.id) s hmid (by rw [<-eW];exact hs.l)
      obtain⟨f2,a2,e2⟩:=IH f1 (b0c rw s (Wx x)) (a1.back hk) hs.r c8;refine⟨f2,a2,?_⟩;rw[b7,u2a,cG,u2b];rw[b1n self n _ _ g.edges n _ _ _ _ _ _ _ _ _ _ _ _ _ _ _ (by omega) (by omega)];rw [<-eW]at e1;rw[e1];dsimp only;rw[hw];exact e2
     ·by_cases aS:Ev.Pair.mk x.id last∈ks
      ·rw[decide_eq_true aS]at eW hW
       simp only[u2a,s2b,List.flatMap_nil,r2p]at eW;obtain⟨f1,a1,e1⟩:=hW 0 (by simp) ((f.set k x.id).set (q.dots.length+k - 1) 0) s (hmid.edge b6 hk 0) (by rw [<-eW];exact hs.l);obtain⟨f2,a2,e2⟩:=IH f1 (b0c rw s (Wx x)) ((a1.mid b6 hk).back hk) hs.r c8;refine⟨f2,a2,?_⟩;rw[b7,u2a,cG,u2a];rw[a0r (eR cG),q2u,n0k,decide_eq_true aS,u2a,j4,a0r eO,q2u,Int.toNat_natCast,eO,q2u,eK,e1,q2u,hw, <-eW];exact e2
      ·rw[decide_eq_false aS]at eW
       simp only[u2b,List.flatMap_nil]at eW;obtain⟨f2,a2,e2⟩:=IH (f.set k x.id) s (hmid.back hk) (by rw[eW,r2z]at hs;exact hs) c8;refine⟨f2,a2,?_⟩;rw[b7,u2a,cG,u2a];rw[a0r (eR cG),q2u,n0k,decide_eq_false aS,u2b,hw,eW];exact e2
def l1y(q:Query)(g:Graph)(R:List Y7)(N0:Nat)(rw:List Int->List Val):Prop:=
 ∀(f:List Int),f.length=2*q.dots.length - 1->AOk g f->∀n,N0<=n->∃y:Envr,q55z n ((q,g,R,()),f,())=some (y,(q,g,R,()),f,())/\c0c n (q,y,())=some (rw f,())
theorem f2s{q:Query}{g:Graph}{R:List Y7}{N0:Nat}{rw:List Int->List Val}(hr:l1y q g R N0 rw)(f:List Int)(s:List Cnt×Int)(hs:POk s 1)(hl:f.length=2*q.dots.length - 1)(hf:AOk g f)(n:Nat)(hn:N0<=n):
  b0r n (f,(s.2,()),(),s.1,(q,()),(),(q,g,R,()),())=some (f,((push rw s f).2,()),(),(push rw s f).1,(q,()),(),(q,g,R,()),()):=by
 obtain⟨y,e1,e2⟩:=hr f hl hf n hn;have ha:=hs.a;have hb:=hs.b;have hc:=hs.c;unfold b0r push;dsimp only;rw[a0f (x:=s.2+1) (by omega) (by omega)];by_cases h:s.2+1<=2000
 ·have hk:room (s.1++ [Cnt.mk (rw f) 1]).length 32=true:=by
   unfold room;rw[q2w];constructor<;>exact r2n (by simp;omega)
  rw[decide_eq_true h,u2a,if_pos h];simp only[e1,e2,q2u,b0z hk,a0p]
 ·rw[decide_eq_false h,u2b,if_neg h]
theorem y0m{q:Query}{g:Graph}{R:List Y7}{N0:Nat}{pass:List Int->Bool}{rw:List Int->List Val}(hp:m0d q g R N0 pass)(hr:l1y q g R N0 rw)(hN:q.dots.length<=100)(h1:1<=q.dots.length)(ds es:List Int)(hd:AOk g ds)(he:AOk g es)(m:Nat)(hm:N0+1<=m):
  WOk q g R rw (q25z m) q.dots.length ds es (finF pass ds es):=by
 intro f s ha hs;obtain⟨n,rfl⟩:∃n,m=n+1:=⟨m - 1,by omega⟩;have ef:f=ds++es:=by
  have e2:=ha.e;rw[List.take_of_length_le (by rw[s2a,ha.len];omega)]at e2;rw [<-ha.d, <-e2,t2q]
 obtain⟨y,ey,ep⟩:=hp f ha.len (by rw[ef];exact hd.app he) n (by omega);refine⟨f,ha,?_⟩;rw[q25z];unfold u0h;dsimp only;rw[show((q.dots.length:Int)==(q.dots.length:Int))=true from beq_self_eq_true _,u2a]
 simp only[f0a,f0b,ey,q2u,f1u,ep,a0p];unfold finF;rw [<-ef];cases oo:pass f with
 |false=>rfl
 |true=>
  unfold finF at hs;rw [<-ef,oo,u2a]at hs;rw[u2a,u2a,f2s hr f s hs ha.len (by rw[ef];exact hd.app he) n (by omega)];rfl
theorem r0c{q:Query}{g:Graph}{R:List Y7}{rw:List Int->List Val}(n:Nat)(hn:1100<=n)(k:Nat)(hk:k<q.dots.length)(hN:q.dots.length<=100)(d:Ev.Dot)(hd:q.dots[k]?=some d)(ds es:List Int)(eA:ds.length=k)
  (bW:g.nodes.length<=40)(bR:g.edges.length<=60)(bF:∀x∈g.nodes,x.labels.length<=100)(Wx:Ev.Node->List Y2)
  (hb:∀x∈g.nodes,(dotB d x&&fitL (q.dots.take k) ds d.name x.id)=true->BOk q g R rw (q25z n) k ds es x.id (Wx x)):
  WOk q g R rw (q25z (n+1)) k ds es (g.nodes.flatMap λx=>bif dotB d x&&fitL (q.dots.take k) ds d.name x.id then Wx x else []):=by
 intro f s ha hs;rw[q25z];unfold u0h;dsimp only;rw[show((k:Int)==(q.dots.length:Int))=false by rw[beq_eq_false_iff_ne];omega,u2b];obtain⟨f',a',e'⟩:=i0u q g R rw (q25z n) n hn (λ(o164,o165,oW,mg,o168,qD,nc,_)=>some (((Query.mk o164.1.dots o164.1.arrows o164.1.wher o164.1.items o164.1.dist),(Graph.mk o164.2.1.nodes o164.2.1.edges o164.2.1.next),o164.2.2.1,()),nc,(o165.1,()),(()),mg,((Query.mk o168.1.dots o168.1.arrows o168.1.wher o168.1.items o168.1.dist),()),(()),())) (λ(_)=>none) k hk (by omega) d hd ds es eA bW bR bF Wx hb g.nodes [] rfl f s n ha hs (by omega);exact⟨f',a',e'⟩
theorem m0j{q:Query}{g:Graph}{R:List Y7}{N0:Nat}{pass:List Int->Bool}{rw:List Int->List Val}(hp:m0d q g R N0 pass)(hr:l1y q g R N0 rw)(hN0:1100<=N0)(hN:q.dots.length<=100)
  (bW:g.nodes.length<=40)(bR:g.edges.length<=60)(bF:∀x∈g.nodes,x.labels.length<=100):
  ∀(rem:List Y16) (pre:List Ev.Dot) (ar:List Ev.Arrow) (ds es:List Int),q.dots=pre++rem.map (λz=>z.1)->q.arrows=ar++rem.map (λz=>z.2.1)->pre.length=ar.length+1->ds.length=pre.length->AOk g ds->AOk g es->
   (∀j z,rem[j]?=some z->z.2.1.many=true->R[ar.length+j]?=some (tr z.2.2))-> ∀m,N0+1+rem.length<=m->WOk q g R rw (q25z m) pre.length ds es (f0f g (finF pass) rem pre ds es)
 |[],pre,ar,ds,es,h1,h2,h3,h4,h5,h6,h7,m,hm=>by
  have e:pre=q.dots:=by rw[h1];simp
  rw[f0f,e];exact y0m hp hr hN (by rw [<-e];omega) ds es h5 h6 m (by simpa using hm)
 |(d,a,ks)::r,pre,ar,ds,es,h1,h2,h3,h4,h5,h6,h7,m,hm=>by
  obtain⟨n,rfl⟩:∃n,m=n+1:=⟨m - 1,by omega⟩;rw[r2m]at hm;have hl:pre.length<q.dots.length:=by rw[h1];simp
  have ed:q.dots[pre.length]?=some d:=by rw[h1];simp
  have ea:q.arrows[pre.length - 1]?=some a:=by rw[h2,show pre.length - 1=ar.length by omega];simp
  have et:q.dots.take pre.length=pre:=by rw[h1];simp
  have:=r0c (R:=R) (rw:=rw) n (by omega) pre.length hl hN d ed ds es h4 bW bR bF (λx=>(k0n g a ks (ds.getLast?.getD 0) x.id).flatMap (λe=>f0f g (finF pass) r (pre++ [d]) (ds++ [x.id]) (es++ [e]))) ?_
  ·rw[et]at this
   exact this
  ·intro x hx hc
   refine .inr ⟨by omega,a,ks,ds.getLast?.getD 0,λe=>f0f g (finF pass) r (pre++ [d]) (ds++ [x.id]) (es++ [e]),ea,λhm=>?_,?_,rfl,λe he=>?_⟩
   ·have:=h7 0 (d,a,ks) rfl hm
    rw[show pre.length - 1=ar.length by omega];exact this
   ·rw[show pre.length - 1=ds.length - 1 by omega,List.getLast?_eq_getElem?,q2y (by omega)]
    rfl
   ·have hw:=m0j hp hr hN0 hN bW bR bF r (pre++ [d]) (ar++ [a]) (ds++ [x.id]) (es++ [e]) (by rw[h1];simp) (by rw[h2];simp) (by simp;omega) (by simp[h4])
     (h5.app (AOk.one (.inl (r2s.2 ⟨x,hx,rfl⟩))))
     (h6.app (AOk.one (.inr (x0x he))))
     (by intro j z hz hm;have:=h7 (j+1) z (by simpa using hz) hm;rw[r2j,s2v,show ar.length+1+j=ar.length+(j+1)by omega];exact this) n (by omega)
    rw[r2j,s2v]at hw;exact hw
theorem v0q{q:Query}{g:Graph}{R:List Y7}{N0:Nat}{pass:List Int->Bool}{rw:List Int->List Val}(hp:m0d q g R N0 pass)(hr:l1y q g R N0 rw)(hN0:1100<=N0)(hN:q.dots.length<=100)
  (bW:g.nodes.length<=40)(bR:g.edges.length<=60)(bF:∀x∈g.nodes,x.labels.length<=100)(d:Ev.Dot)(rem:List Y16)(h1:q.dots=d::rem.map (λz=>z.1))(h2:q.arrows=rem.map (λz=>z.2.1))
  (h7:∀(j:Nat) (z:Ev.Dot×Ev.Arrow×List Ev.Pair),rem[j]?=some z->z.2.1.many=true->R[j]?=some (tr z.2.2))(m:Nat)(hm:N0+2+rem.length<=m):
  WOk q g R rw (q25z m) 0 [] [] (t0c g (finF pass) d rem):=by
 obtain⟨n,rfl⟩:∃n,m=n+1:=⟨m - 1,by omega⟩;have:=r0c (R:=R) (rw:=rw) n (by omega) 0 (by rw[h1];simp) hN d (by rw[h1];rfl) [] [] rfl bW bR bF (λx=>f0f g (finF pass) rem [d] [x.id] []) ?_
 ·exact this
 ·intro x hx hc
  refine .inl ⟨rfl,?_⟩;exact m0j hp hr hN0 hN bW bR bF rem [d] [] [x.id] [] (by rw[h1];rfl) (by rw[h2];rfl) rfl rfl (by intro y hy;rw[r2w]at hy;subst hy;exact .inl (r2s.2 ⟨x,hx,rfl⟩)) (by intro y hy;cases hy)
   (by intro j z hz hm;rw[List.length_nil,s2j];exact h7 j z hz hm) n (by omega)
theorem j2w{b:List Y22}:∀{l:List Ev.Item} {s:List Y22},itF b l s=0->∀x∈l,tchk b x.t 1=0/\hasL aggs x.agg=true
 |[],_,_=>λx hx=>by cases hx
 |i::r,s,h=>by
  rw[itF]at h;cases h1:p0p i.name with
  |false=>rw[h1]at h;cases h
  |true=>
  rw[h1,s2i,u2b]at h;cases h2:hasL aggs i.agg with
  |false=>rw[h2]at h;cases h
  |true=>
  rw[h2,s2i,u2b]at h;cases h3:a0k .str .bool false s i.name with
  |true=>rw[h3]at h;cases h
  |false=>
  rw[h3,u2b]at h;cases h4:tchk b i.t 1 !=0 with
  |true=>rw[h4,u2a]at h;rw[h]at h4;cases h4
  |false=>
  rw[h4,u2b]at h;intro x hx;rcases r2g.1 hx with rfl|hx
  ·exact⟨by simpa using h4,h2⟩
  ·exact j2w h x hx
theorem y0a{q:Query}(h:chkQ q=0):(1<=q.items.length/\q.items.length<=5)/\ ∃b,nmA q.arrows (nmD q.dots [])=some b/\itF b q.items []=0/\∀t∈q.wher,tchk b t 1=0:=by
 have h0:=h;unfold chkQ at h;cases hb:((((decide (((q.dots.length:Int):Int)<1)) || (decide (((q.dots.length:Int):Int) >5))) || (decide (((q.items.length:Int):Int)<1))) || (decide (((q.items.length:Int):Int) >5))) || (decide (((q.wher.length:Int):Int) >1))with
 |true=>rw[hb,u2a]at h;cases h
 |false=>
  rw[hb,u2b]at h;simp only[r2o,decide_eq_false_iff_not]at hb;refine⟨by omega,?_⟩;obtain⟨_,_,_,_,_,b,eb,ew⟩:=k1v h0;refine⟨b,eb,?_,ew⟩;cases h1:(((q.arrows.length:Int):Int) !=(q.dots.length:Int) - 1)with
  |true=>rw[h1]at h;cases h
  |false=>
  rw[h1,u2b]at h;cases h2:q.dots.all dtB with
  |false=>rw[h2]at h;cases h
  |true=>
  rw[h2,s2i,u2b]at h;cases h3:q.arrows.all arB with
  |false=>rw[h3]at h;cases h
  |true=>
  rw[h3,s2i,u2b,eb]at h;dsimp only at h;cases h4:whF b q.wher !=0 with
  |true=>rw[h4,u2a]at h;rw[h]at h4;cases h4
  |false=>rw[h4,u2b]at h;exact h
def rowV(q:Query)(g:Graph)(f:List Int):List Val:=q.items.map λx=>tval g (j0l q g f).at_ x.t
theorem h1x{ρ:Type}(n:Nat)(kr:Unit->Option ρ)(K:Y24×List Val×Unit->Option ρ)(e:Envr)(V:Term->Val):∀(l:List Ev.Item) (i:Int) (o:List Val),(∀x∈l,q72z n (e,x.t,())=some (V x.t,()))->o.length+l.length<=1000->
  a0b (e0x n kr) K i l ((e,()),o,())=K ((e,()),o++l.map (λx=>V x.t),())
 |[],i,o,h,hl=>by rw[a0b,t2k,r2p]
 |x::r,i,o,h,hl=>by
  rw[r2m]at hl;rw[a0b];unfold e0x;dsimp only;rw[Term.eta2,h x (by simp),q2u];dsimp only;rw[Val.eta,b0z (e0l (by simp;omega) (by omega))];have ih:=h1x n kr K e V r (i+1) (o++ [V x.t]) (λy hy=>h y (by simp[hy])) (by simp;omega);unfold e0x at ih;rw[ih,r2k,s2g];rfl
theorem k2c(q:Query)(e:Envr)(V:Term->Val)(n:Nat)(h:∀x∈q.items,q72z n (e,x.t,())=some (V x.t,()))(hl:q.items.length<=100)(hn:200<=n):c0c n (q,e,())=some (q.items.map (λx=>V x.t),()):=by
 unfold c0c;dsimp only;rw[a1s n _ _ q.items n _ _ (by omega) (by omega),h1x n _ _ e V q.items 0 [] h (by simp;omega)];rfl
theorem at_f{q:Query}{g:Graph}(hg:GOk g){f:List Int}(hf:AOk g f):atOk (j0l q g f).at_:=by
 have jV:∀x∈f,wfI .i64 x:=by
  intro x hx;rcases hf x hx with h|h|h
  ·obtain⟨y,hy,rfl⟩:=r2s.1 h
   exact(hg.ok.1.2 y hy).1
  ·obtain⟨y,hy,rfl⟩:=r2s.1 h
   exact(hg.ok.2.1.2 y hy).1
  ·rw[h];unfold wfI;decide
 exact h1v _ _ _ (λx hx=>jV x (List.mem_of_mem_drop hx)) (h1j _ _ _ jV (λp hp=>by cases hp))
theorem v1j{q:Query}{g:Graph}(hg:GOk g)(b:List Y22)(ht:∀x∈q.items,tOk x.t)(hc:∀x∈q.items,tchk b x.t 1=0)(hl:q.items.length<=100)(hN:q.dots.length<=100)(ha:q.arrows.length+1=q.dots.length):
  (∃N0,∀R,l1y q g R N0 (rowV q g))/\ ∀f,AOk g f->∀v∈rowV q g f,Right v 1:=by
 constructor
 ·have hA:∀f,AOk g f->∃N,∀n,N<=n->∀x∈q.items,q72z n (j0l q g f,x.t,())=some (tval g (j0l q g f).at_ x.t,()):=by
   intro f hf;exact m1s q.items λx h=>(v0n hg (at_f hg hf) b x.t 1 (ht x h) (hc x h)).1
  obtain⟨N1,h1⟩:=m1s (p:=λn (f:List Int)=>AOk g f->∀x∈q.items,q72z n (j0l q g f,x.t,())=some (tval g (j0l q g f).at_ x.t,()))
   (allF (g.nodes.map Ev.Node.id++(g.edges.map Edg.id++ [0])) (2*q.dots.length - 1)) (λf _=>by
    by_cases hf:AOk g f
    ·obtain⟨N,h⟩:=hA f hf
     exact⟨N,λn hn _=>h n hn⟩
    ·exact⟨0,λn _ h=>absurd h hf⟩)
  refine⟨N1+1100,λR f nU hf n hn=>⟨j0l q g f,o1r q g R f hN ha nU n (by omega),?_⟩⟩;have hm:=w0v (g.nodes.map Ev.Node.id++(g.edges.map Edg.id++ [0])) f λx hx=>by
   rcases hf x hx with h|h|h
   ·exact List.mem_append_left _ h
   ·exact List.mem_append_right _ (List.mem_append_left _ h)
   ·rw[h];simp
  rw[nU]at hm;exact k2c q _ (tval g (j0l q g f).at_) n (h1 n (by omega) f hm hf) hl (by omega)
 ·intro f hf v hv
  obtain⟨x,hx,rfl⟩:=r2s.1 hv;exact(v0n hg (at_f hg hf) b x.t 1 (ht x hx) (hc x hx)).2
theorem q0i{α β:Type}(f:α->List β)(b:Nat):∀(l:List α),(∀x∈l,(f x).length<=b)->(l.flatMap f).length<=l.length*b
 |[],_=>by simp
 |x::r,h=>by
  rw[s2b,r2j,r2m,t2m,Nat.one_mul];have h1:=h x (by simp);have h2:=q0i f b r λy hy=>h y (by simp[hy]);omega
theorem a2j{g:Graph}(bR:g.edges.length<=60)(a:Ev.Arrow)(ks:List Ev.Pair)(x y:Int):(k0n g a ks x y).length<=60:=by
 have key:∀fr tg,(s0d g a ks fr tg).length<=60:=by
  intro fr tg;unfold s0d;cases a.many with
  |true=>
   rw[u2a];cases decide (Ev.Pair.mk fr tg∈ks)<;>simp
  |false=>
   rw[u2b,s2c];exact t2f (List.length_filter_le _ _) bR
 unfold k0n;cases a.back with
 |true=>exact key _ _
 |false=>exact key _ _
theorem c1x{g:Graph}(bW:g.nodes.length<=40)(bR:g.edges.length<=60)(pass:List Int->Bool):∀(rem:List Y16) (pre:List Ev.Dot) (ds es:List Int),(f0f g (finF pass) rem pre ds es).length<=2400 ^ rem.length
 |[],pre,ds,es=>by
  rw[f0f];unfold finF;cases pass (ds++es)<;>simp
 |(d,a,ks)::r,pre,ds,es=>by
  rw[f0f,r2m,Nat.pow_succ];refine t2f (q0i _ (60*2400 ^ r.length) _ λx hx=>?_) ?_
  ·cases dotB d x&&fitL pre ds d.name x.id with
   |false=>rw[u2b];simp
   |true=>
    rw[u2a];refine t2f (q0i _ (2400 ^ r.length) _ λe he=>c1x bW bR pass r _ _ _) ?_;exact s2t _ (a2j bR a ks _ _)
  ·have:=s2t (60*2400 ^ r.length) bW
   generalize 2400 ^ r.length=z at*;omega
theorem n1m{g:Graph}(bW:g.nodes.length<=40)(bR:g.edges.length<=60)(pass:List Int->Bool)(d:Ev.Dot)(rem:List Y16)(hr:rem.length<=4):(t0c g (finF pass) d rem).length<=1400000000000000:=by
 unfold t0c;refine t2f (q0i _ (2400 ^ 4) _ λx hx=>?_) ?_
 ·cases dotB d x&&fitL [] [] d.name x.id with
  |false=>rw[u2b];simp
  |true=>
   rw[u2a];exact t2f (c1x bW bR pass rem _ _ _) (Nat.pow_le_pow_right (by omega) hr)
 ·have:=s2t (2400 ^ 4) bW
  omega
def c0o(q:Query)(g:Graph)(W:List Y2):List Cnt:=W.map λw=>Cnt.mk (rowV q g w) 1
theorem c2a(q:Query)(g:Graph)(n:Nat)(hn:400<=n)(h:chkQ q≠0):g0m n (q,g,())=some ([],chkQ q,()):=by
 unfold g0m;dsimp only;rw[f0x q n hn,q2u];dsimp only;rw[show(chkQ q !=0)=true by simpa[bne]using h,u2a]
theorem h2s{q:Query}{g:Graph}(hg:GOk g)(hq:chkQ q=0)(hw:∀t∈q.wher,tOk t)(hi:∀x∈q.items,tOk x.t):∃N,∀n,N<=n->
  g0m n (q,g,())=bif decide ((h0q n q g (p0u q g)).length<=2000)then(b1a n (c0o q g (h0q n q g (p0u q g)),())).bind λz=>(h0o n (q,z.1,())).bind λy=>some (y.1,0,())else some ([],10,()):=by
 obtain⟨⟨h1,h5⟩,kQ,ha,gY,har,_⟩:=k1v hq;obtain⟨⟨fh,n9⟩,b,eb,ei,ew⟩:=y0a hq;obtain⟨N1,hN1,hp⟩:=p1i hg b hw ew kQ (by omega) ha;obtain⟨⟨N2,hr⟩,_⟩:=v1j (q:=q) hg b hi (λx hx=>(j2w ei x hx).1) (by omega) (by omega) ha;obtain⟨bW,bR,iT,_⟩:=i0f hg.cg;have bF:∀x∈g.nodes,x.labels.length<=100:=by
  intro x hx;have:=(i1n iT x hx).1;unfold labE at this;cases hb:decide ((x.labels.length:Int) >4)with
  |true=>rw[hb]at this;cases this
  |false=>have:=of_decide_eq_false hb;omega
 obtain⟨d,r,hd⟩:∃d r,q.dots=d::r:=by
  cases hq:q.dots with
  |nil=>rw[hq]at h1;simp at h1
  |cons d r=>exact⟨d,r,rfl⟩
 have mM:r.length=q.arrows.length:=by rw[hd]at ha;simp at ha;omega
 refine⟨N1+N2+200000,λn hn=>?_⟩;have hz:=f1e r q.arrows mM;have hr1:(i0k n g r q.arrows).map (λz=>z.1)=r:=by unfold i0k;rw[List.map_map];exact hz.1
 have hr2:(i0k n g r q.arrows).map (λz=>z.2.1)=q.arrows:=by unfold i0k;rw[List.map_map];exact hz.2
 have hZ:(i0k n g r q.arrows).length=r.length:=by rw [<-s2c (f:=λz=>z.1),hr1]
 have hW:h0q n q g (p0u q g)=t0c g (finF (p0u q g)) d (i0k n g r q.arrows):=by unfold h0q;rw[hd]
 have hc:(h0q n q g (p0u q g)).length<=1400000000000000:=by
  rw[hW];refine n1m bW bR _ d _ ?_;rw[hZ];rw[hd]at h5;simp at h5;omega
 have jz:∀R,m0d q g R (N1+N2) (p0u q g):=λR f hl hf n hn=>hp R f hl hf n (by omega);have hr' :∀R,l1y q g R (N1+N2) (rowV q g):=λR f hl hf n hn=>hr R f hl hf n (by omega);obtain⟨f',_,ew⟩:=v0q (R:=q.arrows.map (λa=>tr (rk n g a))) (jz _) (hr' _) (by omega) (by omega) bW bR bF d (i0k n g r q.arrows) (by rw[hr1,hd]) hr2.symm (λj z hz hm=>by
  have e:=congrArg (λl=>l[j]?) hr2;rw[s2p,hz]at e;rw[s2p, <-e];show some (tr (rk n g z.2.1))=some (tr z.2.2);have:z∈i0k n g r q.arrows:=r2l hz;obtain⟨y,_,rfl⟩:=r2s.1 this;rfl) n (by rw[hZ];rw[hd]at h5;simp at h5;omega) (List.replicate (2*q.dots.length - 1) 0) ([],0) ⟨by simp,rfl,by rw[Nat.zero_sub,List.take_zero]⟩ ⟨by simp,by simp,by rw [<-hW];omega⟩
 rw [<-hW]at ew;unfold g0m;dsimp only;rw[f0x q n (by omega),q2u,hq];dsimp only;rw[show((0:Int) !=0)=false from rfl,u2b,r0i g n (by omega),q2u,hg.cg]
 dsimp only;rw[show((0:Int) !=0)=false from rfl,u2b,e2a n (by omega) q g hg.cg (by omega),q2u]
 dsimp only;unfold q24z;dsimp only;rw[a0f (by omega) (by omega)];unfold cnt?;rw[if_pos (by omega),q2u,show((q.dots.length:Int)+(q.arrows.length:Int)).toNat=2*q.dots.length - 1 by omega,b0z (e0l (by omega) (by omega)),f0a,f0b];rw[show(0:Int)=((0:Nat):Int)from rfl]at ew⊢
 rw[ew,q2u];dsimp only;rw[q2u];dsimp only;rw[c1w];cases hle:decide ((h0q n q g (p0u q g)).length<=2000)with
 |true=>
  have hle:=of_decide_eq_true hle;rw[decide_eq_false (by simp;omega),u2b,u2a,v0i _ _ _ (by simp;omega),r2z];rfl
 |false=>
  have hle:=of_decide_eq_false hle;rw[decide_eq_true (by simp;omega),u2a];rfl
def WOK(w:Int×Int×Unit):Prop:=(0<=w.1/\w.1<18446744073709551616)/\(0<=w.2.1/\w.2.1<18446744073709551616)
theorem l2w(x:Int):0<=IntKind.wrap .u64 x/\IntKind.wrap .u64 x<18446744073709551616:=by
 have e:IntKind.wrap .u64 x=x%18446744073709551616:=rfl;rw[e];omega
theorem w0c{x y:Int}{c:Int}(hx:0<=x/\x<18446744073709551616)(hy:0<=y/\y<18446744073709551616)(hc:c=0\/c=1):∃z d,x0k (x,y,c,())=some (z,d,())/\(0<=z/\z<18446744073709551616)/\(d=0\/d=1):=by
 unfold x0k;dsimp only;rw[r2n (by omega),u2a];refine⟨_,_,rfl,⟨by omega,?_⟩,?_⟩
 ·have:=Nat.mod_lt (x.toNat+y.toNat+c.toNat) (show 0<18446744073709551616 by omega)
  omega
 ·have:(x.toNat+y.toNat+c.toNat) / 18446744073709551616<2:=by omega
  omega
theorem z0c{x y:Int}{c:Int}(hc:c=0\/c=1):∃z d,w0h (x,y,c,())=some (z,d,())/\(0<=z/\z<18446744073709551616)/\(d=0\/d=1):=by
 unfold w0h;dsimp only;rw[r2n (by omega),u2a];refine⟨_,_,rfl,⟨by omega,?_⟩,?_⟩
 ·have:=Nat.mod_lt (x.toNat+18446744073709551616 - y.toNat - c.toNat) (show 0<18446744073709551616 by omega)
  omega
 ·cases Nat.blt x.toNat (y.toNat+c.toNat)with
  |true=>exact .inr rfl
  |false=>exact .inl rfl
theorem f2z(a b:Int){w:Int×Int×Unit}(h:WOK w):∃w',q78z (a,b,w,())=some (w',())/\WOK w' :=by
 unfold q78z q66z;dsimp only;simp only[q2u];cases decide (a<0)with
 |true=>
  rw[u2a];obtain⟨z,d,e,hz,hd⟩:=z0c (x:=w.2.1) (y:=IntKind.wrap .u64 (IntKind.wrap .u64 (0 - IntKind.wrap .u64 a)*IntKind.wrap .u64 b)) (c:=0) (.inl rfl);rw[u2a,e,q2u];dsimp only;generalize IntKind.wrap .u64 (IntKind.wrap .u64 (IntKind.wrap .u64 (_*_)+_)+_)=y;obtain⟨z2,d2,e2,cR,gM⟩:=z0c (x:=w.1) (y:=y) hd;rw[e2,q2u];exact⟨_,rfl,cR,hz⟩
 |false=>
  rw[u2b];obtain⟨z,d,e,hz,hd⟩:=w0c (x:=w.2.1) (y:=IntKind.wrap .u64 (IntKind.wrap .u64 a*IntKind.wrap .u64 b)) (c:=0) h.2 (l2w _) (.inl rfl);rw[u2b,e,q2u];dsimp only;obtain⟨z2,d2,e2,cR,gM⟩:=w0c (x:=w.1) (y:=_) h.1 (l2w _) hd;rw[e2,q2u];exact⟨_,rfl,cR,hz⟩
def wadd(a b:Int)(w:Int×Int×Unit):Int×Int×Unit:=((q78z (a,b,w,())).getD (w,())).1
theorem t1a(a b:Int){w:Int×Int×Unit}(h:WOK w):q78z (a,b,w,())=some (wadd a b w,())/\WOK (wadd a b w):=by
 obtain⟨w',e,hw⟩:=f2z a b h;unfold wadd;rw[e];exact⟨rfl,hw⟩
abbrev minS:Bt:=zb19
abbrev maxS:Bt:=zb20
abbrev cntS:Bt:=zb8
abbrev sumS:Bt:=zb24
def m1m(ag:Bt)(v w:Val):Val:=bif (((w.kind:Int)==0) || ((seq ag minS)&& (decide ((ordV v w:Int)<0)))) || ((seq ag maxS)&& (!(decide ((ordV v w:Int)<0))))then v else w
def h0b(ag:Bt)(s:Int×Val×Y18)(c:Cnt):Int×Val×Y18:=
 match c.r with
 |[]=>s
 |v::_=>bif v.kind==0 then s else(wI (s.1+c.n),m1m ag v s.2.1,bif v.kind==2 then wadd v.n c.n s.2.2 else s.2.2)
def f0c(ag:Bt)(col:List Cnt):Int×Val×Y18:=col.foldl (h0b ag) (0,zV,(0,0,()))
def i0l(ag:Bt)(col:List Cnt):Val:=
 bif seq ag cntS then Val.mk 2 (f0c ag col).1 zb0 []else
 bif seq ag sumS then(bif ((f0c ag col).2.2.1:Int)==(IntKind.wrap .u64 (bshr .i64 (wI ((f0c ag col).2.2.2.1)) 63))then Val.mk 2 (wI ((f0c ag col).2.2.2.1)) zb0 []else zV)else(f0c ag col).2.1
def t0i(K:Nat)(col:List Cnt):Prop:=∀c∈col,∃v,c.r=[v]/\Right v 1/\vSz v+6<=K
def SOk(s:Int×Val×Y18):Prop:=wfI .i64 s.1/\Right s.2.1 1/\WOK s.2.2
theorem m2b(x:Int): -9223372036854775808<=wI x/\wI x<=9223372036854775807:=by
 simp only[wI,IntKind.wrap,IntKind.bits,IntKind.signed];constructor<;>simp<;>(try split)<;>omega
theorem v1k(x:Int):wfI .i64 (wI x):=by
 have ng:IntKind.i64.min= -9223372036854775808:=rfl;have mv:IntKind.i64.max=9223372036854775807:=rfl;show(decide (IntKind.i64.min<=wI x)&&decide (wI x<=IntKind.i64.max))=true;rw[ng,mv,q2w,decide_eq_true_iff,decide_eq_true_iff];exact m2b x
theorem i1k(ag:Bt){s:Int×Val×Y18}(h:SOk s){c:Cnt}{v:Val}(hc:c.r=[v])(hv:Right v 1):SOk (h0b ag s c):=by
 unfold h0b;rw[hc];dsimp only;cases v.kind==0 with
 |true=>exact h
 |false=>
  rw[u2b];refine⟨v1k _,?_,?_⟩
  ·show Right (m1m ag v s.2.1) 1
   unfold m1m;cases (((s.2.1.kind:Int)==0) || ((seq ag minS)&& (decide ((ordV v s.2.1:Int)<0)))) || ((seq ag maxS)&& (!(decide ((ordV v s.2.1:Int)<0))))with
   |true=>exact hv
   |false=>exact h.2.1
  ·show WOK (bif v.kind==2 then wadd v.n c.n s.2.2 else s.2.2)
   cases v.kind==2 with
   |true=>exact(t1a _ _ h.2.2).2
   |false=>exact h.2.2
theorem j1o(ag:Bt){K:Nat}:∀(col:List Cnt) {s:Int×Val×Y18},SOk s->t0i K col->SOk (col.foldl (h0b ag) s)
 |[],s,h,_=>h
 |c::r,s,h,hc=>by
  obtain⟨v,e,hv,_⟩:=hc c (by simp);exact j1o ag r (i1k ag h e hv) λd hd=>hc d (by simp[hd])
theorem m2j:SOk (0,zV,(0,0,())):=⟨by unfold wfI;decide,.null 1,⟨by decide,by decide⟩,⟨by decide,by decide⟩⟩
theorem u1w{ρ:Type}(n:Nat)(ag:Bt)(kr:Unit->Option ρ)(i:Int)(c:Cnt)(s:Int×Val×Y18)(h:SOk s){v:Val}(e:c.r=[v])(hv:Right v 1)(hK:vSz v+6<=n)(rec:Y39->Option ρ):
  f0h n kr i c (ag,s.1,(zV,()),(s.2.1,()),s.2.2,()) rec=rec (ag,(h0b ag s c).1,(zV,()),((h0b ag s c).2.1,()),(h0b ag s c).2.2,()):=by
 have ew:=t1a v.n c.n h.2.2;unfold f0h h0b;dsimp only;rw[e,show ix [v] 0=some v from rfl,q2u]
 simp only[Val.eta];cases hk:(v.kind==0)with
 |true=>rfl
 |false=>
  rw[u2b,u2b,j0a v s.2.1 n (b0i hv) hK];cases h2:(v.kind==2)with
  |true=>
   rw[u2a,ew.1,q2u,q2u];dsimp only;unfold m1m;cases ((((s.2.1.kind:Int)==0) || ((seq ag minS)&& (decide ((ordV v s.2.1:Int)<0)))) || ((seq ag maxS)&& (!(decide ((ordV v s.2.1:Int)<0)))))<;>rfl
  |false=>
   rw[u2b,q2u];dsimp only;unfold m1m;cases ((((s.2.1.kind:Int)==0) || ((seq ag minS)&& (decide ((ordV v s.2.1:Int)<0)))) || ((seq ag maxS)&& (!(decide ((ordV v s.2.1:Int)<0)))))<;>rfl
theorem z0i{ρ:Type}(n:Nat)(ag:Bt)(kr:Unit->Option ρ)(K:Y39->Option ρ):∀(col:List Cnt) (i:Int) (s:Int×Val×Y18),SOk s->t0i n col->
  a0b (f0h n kr) K i col (ag,s.1,(zV,()),(s.2.1,()),s.2.2,())=K (ag,(col.foldl (h0b ag) s).1,(zV,()),((col.foldl (h0b ag) s).2.1,()),(col.foldl (h0b ag) s).2.2,())
 |[],i,s,h,hc=>by rw[a0b];rfl
 |c::r,i,s,h,hc=>by
  obtain⟨v,e,hv,hK⟩:=hc c (by simp);rw[a0b,List.foldl_cons,u1w n ag kr i c s h e hv hK];exact z0i n ag kr K r (i+1) (h0b ag s c) (i1k ag h e hv) λd hd=>hc d (by simp[hd])
theorem l1b(n:Nat)(ag:Bt)(col:List Cnt)(hc:t0i n col)(hl:col.length<=100000)(hn:col.length+100<=n):l0t n (ag,col,())=some (i0l ag col,())/\Right (i0l ag col) 1:=by
 have hS:SOk (f0c ag col):=j1o ag col m2j hc;constructor
 ·unfold l0t
  dsimp only;rw[x0u n _ _ col n _ _ _ _ _ (by omega) (by omega)];refine(z0i n ag _ _ col 0 (0,zV,(0,0,())) m2j hc).trans ?_;show _=some (i0l ag col,());unfold i0l;dsimp only;show(bif seq ag cntS then some (Val.mk 2 (f0c ag col).1 zb0 [],())else _)=_
  cases seq ag cntS with
  |true=>rfl
  |false=>
   rw[u2b,u2b];cases seq ag sumS with
   |true=>
    rw[u2a,u2a];unfold q67z;rw[q2u];dsimp only;show(bif ((f0c ag col).2.2.1:Int)==(IntKind.wrap .u64 (bshr .i64 (wI ((f0c ag col).2.2.2.1)) 63))then _ else _)=_
    cases ((f0c ag col).2.2.1:Int)==(IntKind.wrap .u64 (bshr .i64 (wI ((f0c ag col).2.2.2.1)) 63))<;>rfl
   |false=>
    rw[u2b,u2b];have:=q0w (f0c ag col).2.1 1 n (by omega) (by omega) (by omega) (s0i hS.2.1);rw[show(col.foldl (h0b ag) (0,zV,(0,0,()))).2.1=(f0c ag col).2.1 from rfl]
    simp only[Val.eta,this,q2u]
 ·unfold i0l
  cases seq ag cntS with
  |true=>exact .int _ 1 hS.1
  |false=>
   rw[u2b];cases seq ag sumS with
   |true=>
    rw[u2a];cases ((f0c ag col).2.2.1:Int)==(IntKind.wrap .u64 (bshr .i64 (wI ((f0c ag col).2.2.2.1)) 63))with
    |true=>exact .int _ 1 (v1k _)
    |false=>exact .null 1
   |false=>exact hS.2.1
theorem v1m(n:Nat):q69z n=b1a n:=rfl
def p0q:List Ev.Item->Int->List Int
 |[],_=>[]
 |x::r,i=>bif seq x.agg zb0 then i::p0q r (i+1)else p0q r (i+1)
def p0o:List Ev.Item->Int->List Int
 |[],_=>[]
 |x::r,i=>bif seq x.agg zb0 then p0o r (i+1)else i::p0o r (i+1)
theorem z0y:∀(l:List Ev.Item) (i:Int),(p0q l i).length+(p0o l i).length=l.length
 |[],i=>rfl
 |x::r,i=>by
  have:=z0y r (i+1);rw[p0q,p0o];cases seq x.agg zb0<;>simp<;>omega
theorem n0u{ρ:Type}(n:Nat)(kr:Unit->Option ρ)(z:List Cnt)(q:Query)(K:(Y3×Y4×Y2×Y2×Unit)->Option ρ):∀(l:List Ev.Item) (i:Int) (ks ag:List Int),ks.length+ag.length+l.length<=1000->
  a0b (d0p n kr) K i l (z,(q,()),ks,ag,())=K (z,(q,()),ks++p0q l i,ag++p0o l i,())
 |[],i,ks,ag,h=>by rw[a0b,p0q,p0o,r2p,r2p]
 |x::r,i,ks,ag,h=>by
  rw[r2m]at h;have ih1:=n0u n kr z q K r (i+1) (ks++ [i]) ag (by simp;omega);have ih2:=n0u n kr z q K r (i+1) ks (ag++ [i]) (by simp;omega);rw[a0b,p0q,p0o];generalize a0b (d0p n kr) K (i+1) r=R at ih1 ih2⊢;unfold d0p;dsimp only;cases seq x.agg zb0 with
  |true=>
   rw[u2a,u2a,u2a,b0z (e0l (by simp;omega) (by omega)),ih1,s2g];rfl
  |false=>
   rw[u2b,u2b,u2b,b0z (e0l (by simp;omega) (by omega)),ih2,s2g];rfl
theorem t1c(n:Nat):∀(l:List Ev.Item) (i:Int),0<=i->∃j:Int,a0b (ρ:=Int×Unit) (p0y n (λ(v7,_)=>some (v7,()))) (λ_=>some ((-1),())) i l ()=some (j,())/\decide (j>=0)=l.any (λx=> !(seq x.agg zb0))
 |[],i,h=>⟨-1,rfl,rfl⟩
 |x::r,i,h=>by
  obtain⟨j,e,hj⟩:=t1c n r (i+1) (by omega);rw[a0b,List.any_cons];generalize a0b (p0y n _) _ (i+1) r=R at e⊢;unfold p0y q75z;dsimp only;rw[q2u];dsimp only;cases seq x.agg zb0 with
  |true=>exact⟨j,e,by rw[hj];rfl⟩
  |false=>exact⟨i,rfl,by rw[decide_eq_true (by omega)];rfl⟩
def grpB(q:Query):Bool:=q.items.any (λx=> !(seq x.agg zb0))
theorem n1s(q:Query)(n:Nat)(hl:q.items.length<=100)(hn:200<=n):q86z n (q,())=some (grpB q,()):=by
 unfold q86z q6z q9z;dsimp only;rw[y1t n _ _ q.items n (by omega) (by omega)];obtain⟨j,e,hj⟩:=t1c n q.items 0 (by omega);refine(congrArg (λo=>Option.bind (Option.bind o _) _) e).trans ?_;rw[q2u,q2u];dsimp only;rw[hj];rfl
def atI(r:List Val)(k:Int):Val:=(r[k.toNat]?).getD zV
theorem m1p{r:List Val}{k:Int}(h0:0<=k)(h1:k<r.length):ix r k=some (atI r k):=by
 obtain⟨j,rfl⟩:=Int.eq_ofNat_of_zero_le h0;have hj:j<r.length:=by omega
 unfold atI;rw[Int.toNat_natCast,q2y hj];exact a0r (q2y hj)
def keyV(ks:List Int)(r:List Val):List Val:=ks.map (atI r)
theorem i1s{ρ:Type}(n:Nat)(kr:Unit->Option ρ)(r:List Val)(K:(Y9×Y9×Unit)->Option ρ):∀(ks:List Int) (i:Int) (o:List Val),(∀k∈ks,0<=k/\k<r.length)->o.length+ks.length<=1000->
  a0b (g0z n kr) K i ks (r,o,())=K (r,o++keyV ks r,())
 |[],i,o,h,hl=>by rw[a0b,keyV,t2k,r2p]
 |k::ks,i,o,h,hl=>by
  rw[r2m]at hl;have ih:=i1s n kr r K ks (i+1) (o++ [atI r k]) (λj hj=>h j (by simp[hj])) (by simp;omega);have hk:=h k (by simp);rw[a0b];generalize a0b (g0z n kr) K (i+1) ks=R at ih⊢;unfold g0z;dsimp only;rw[m1p hk.1 hk.2,q2u,Val.eta,b0z (e0l (by simp;omega) (by omega)),ih,keyV,keyV,r2k,s2g];rfl
theorem n2o(n:Nat)(hn:200<=n)(r:List Val)(ks:List Int)(h:∀k∈ks,0<=k/\k<r.length)(hl:ks.length<=100):c2s n (r,ks,())=some (keyV ks r,()):=by
 unfold c2s;dsimp only;rw[n1z n _ _ ks n _ _ (by omega) (by omega),i1s n _ r _ ks 0 [] h (by simp;omega)];rfl
def c2u(l:List Val):Bt:=⟨(i0i l).toArray⟩
theorem c1a{ρ:Type}(n:Nat)(hn:40<=n)(kr:Unit->Option ρ)(K:Y43->Option ρ):∀(l:List Val) (i:Int) (o:List UInt8),(∀v∈l,Right v 1)->o.length+(i0i l).length<=140737488355328->
  a0b (f0j n kr) K i l (bi o,())=K (bi (o++i0i l),())
 |[],i,o,h,hl=>by rw[a0b,i0i,r2p]
 |v::r,i,o,h,hl=>by
  rw[i0i,r2j]at hl;have ih:=c1a n hn kr K r (i+1) (o++putL v) (λx hx=>h x (by simp[hx])) (by simp;omega);rw[a0b];generalize a0b (f0j n kr) K (i+1) r=R at ih⊢;unfold f0j;dsimp only;rw[Val.eta,n2q (h v (by simp)) n o (by omega) (by omega) (by omega) (by omega),q2u];dsimp only;rw[ih,i0i,s2g]
theorem a2m(n:Nat)(hn:200<=n)(l:List Val)(h:∀v∈l,Right v 1)(hl:l.length<=30):q0m n (l,())=some (c2u l,()):=by
 have h2:(i0i l).length<=140737488355328:=by
  have h3:=j1u l (top 1) λx hx=>i2i (h x hx);have h4:top 1=3552671230843\/top 1<=4000000000000:=.inr (by decide);have h5:l.length*top 1<=30*4000000000000:=Nat.mul_le_mul hl (by omega);omega
 unfold q0m;dsimp only;rw[x0s n _ _ l n _ (by omega) (by omega),show([]:List Int)=bi []from rfl,c1a n (by omega) _ _ l 0 [] h (by simpa using h2)]
 dsimp only;rw[r2z,l2p];rfl
abbrev GMap:=List (Bt×List Cnt)
abbrev gget(m:GMap)(s:Bt):List Cnt:=a0k .str (.lst .cnt) ([]:List Cnt) m s
abbrev gput(m:GMap)(s:Bt)(r:List Cnt):GMap:=b0d .str (.lst .cnt) m s r
theorem n0v(a b:Bt):b0o .str a b=seq a b:=by
 cases h:seq a b with
 |true=>exact(v1c a b).2 ((a0g a b).1 h)
 |false=>
  cases h2:b0o .str a b with
  |false=>rfl
  |true=>
   rw[(v1c a b).1 h2,b0f]at h;cases h
theorem t0y{vt:Ev.Ty}(z:vt.den)(k:Bt)(v:vt.den)(s:Bt):∀l:List (Bt×vt.den),a0k .str vt z (b0d .str vt l k v) s=bif seq s k then v else a0k .str vt z l s
 |[]=>by
  show(bif b0o .str s k then v else z)=bif seq s k then v else z
  rw[n0v]
 |p::r=>by
  rw[b0d];cases hk:b0o .str k p.1 with
  |true=>
   rw[n0v]at hk;have:=(a0g _ _).1 hk;rw[u2a,a0k,a0k,n0v,n0v, <-this];cases seq s k<;>rfl
  |false=>
   rw[u2b,a0k,a0k,t0y z k v s r,n0v];cases h1:seq s p.1 with
   |false=>rfl
   |true=>
    cases h2:seq s k with
    |false=>rfl
    |true=>
     rw[n0v]at hk;rw[(a0g _ _).1 h1]at h2;rw[(a0g _ _).1 h2,b0f]at hk;cases hk
theorem w0n(k:Bt)(v:List Cnt)(s:Bt)(l:GMap):gget (gput l k v) s=bif seq s k then v else gget l s:=t0y (vt:=.lst .cnt) [] k v s l
def nmC(ks:List Int)(c:Cnt):Bt:=c2u (keyV ks c.r)
abbrev GS:=List Bt×GMap
def s0x(ks:List Int)(s:GS)(c:Cnt):GS:=(bif (gget s.2 (nmC ks c)).isEmpty then s.1++ [nmC ks c]else s.1,gput s.2 (nmC ks c) (gget s.2 (nmC ks c)++ [c]))
def b0y(ks:List Int)(p:List Cnt)(s:Bt):List Cnt:=p.filter λc=>seq s (nmC ks c)
structure GOf(ks:List Int)(p:List Cnt)(s:GS):Prop where
 m:∀nm,gget s.2 nm=b0y ks p nm
 nd:s.1.Nodup
 i:∀nm,nm∈s.1↔ ∃c∈p,nmC ks c=nm
 l:s.1.length<=p.length
theorem GOf.step {ks:List Int}{p:List Cnt}{s:GS}(h:GOf ks p s)(c:Cnt):GOf ks (p++ [c]) (s0x ks s c):=by
 have hm:=h.m (nmC ks c);have he:(gget s.2 (nmC ks c)).isEmpty=true↔nmC ks c∉s.1:=by
  rw[hm,h.i,List.isEmpty_iff];unfold b0y;rw[List.filter_eq_nil_iff];constructor
  ·rintro h1 ⟨d,hd,e⟩
   exact h1 d hd ((a0g _ _).2 e.symm)
  ·intro h1 d hd e
   exact h1 ⟨d,hd,((a0g _ _).1 e).symm⟩
 unfold s0x;refine⟨λnm=>?_,?_,λnm=>?_,?_⟩
 ·dsimp only
  rw[w0n,h.m,h.m];unfold b0y;rw[List.filter_append];cases hs:seq nm (nmC ks c)with
  |true=>
   have e1:[c].filter (λc=>seq nm (nmC ks c))=[c]:=by simp[hs]
   rw[u2a,e1, <-(a0g _ _).1 hs]
  |false=>
   have e1:[c].filter (λc=>seq nm (nmC ks c))=[]:=by simp[hs]
   rw[u2b,e1,r2p]
 ·dsimp only
  cases hb:(gget s.2 (nmC ks c)).isEmpty with
  |true=>
   rw[u2a,List.nodup_append];refine⟨h.nd,by simp,λx hx y hy e=>?_⟩;rw[r2w]at hy;exact he.1 hb (hy▸e▸hx)
  |false=>exact h.nd
 ·dsimp only
  cases hb:(gget s.2 (nmC ks c)).isEmpty with
  |true=>
   rw[u2a,r2x,h.i];constructor
   ·rintro(⟨d,hd,e⟩| hx)
    ·exact⟨d,by simp[hd],e⟩
    ·exact⟨c,by simp,(r2w.1 hx).symm⟩
   ·rintro⟨d,hd,e⟩
    rcases r2x.1 hd with hd|hd
    ·exact .inl ⟨d,hd,e⟩
    ·rw[r2w.1 hd]at e
     exact .inr (by simp[e])
  |false=>
   have hin:nmC ks c∈s.1:=by
    by_cases h1:nmC ks c∈s.1
    ·exact h1
    ·rw[he.2 h1]at hb;cases hb
   rw[u2b,h.i];constructor
   ·rintro⟨d,hd,e⟩
    exact⟨d,by simp[hd],e⟩
   ·rintro⟨d,hd,e⟩
    rcases r2x.1 hd with hd|hd
    ·exact⟨d,hd,e⟩
    ·rw[r2w.1 hd]at e
     exact(h.i nm).1 (e▸hin)
 ·dsimp only
  have:=h.l;cases (gget s.2 (nmC ks c)).isEmpty<;>simp<;>omega
theorem GOf.all {ks:List Int}:∀(l:List Cnt) {p:List Cnt} {s:GS},GOf ks p s->GOf ks (p++l) (l.foldl (s0x ks) s)
 |[],p,s,h=>by rw[r2p];exact h
 |c::r,p,s,h=>by
  have:=GOf.all r (h.step c);rw[s2g]at this;exact this
def RowR(m:Nat)(r:List Val):Prop:=r.length=m/\∀v∈r,Right v 1
theorem l1u{m:Nat}{ks:List Int}{r:List Val}(h:RowR m r):∀v∈keyV ks r,Right v 1:=by
 intro v hv;obtain⟨k,_,rfl⟩:=r2s.1 hv;unfold atI;cases e:r[k.toNat]? with
 |none=>exact .null 1
 |some x=>exact h.2 x (r2l e)
theorem c2r{ρ:Type}(n:Nat)(hn:200<=n)(kr:Unit->Option ρ)(z:List Cnt)(q:Query)(ks ag:List Int)(m:Nat)(fx:∀k∈ks,0<=k/\k<(m:Int))(eS:ks.length<=30)(i:Int)(p:List Cnt)(s:GS)(h:GOf ks p s)(hp:p.length<=100000)(c:Cnt)(hc:RowR m c.r)
  (rec:(Y3×Y2×Y4×Y2×Y15×GMap×Unit)->Option ρ):
  d0n n kr i c (z,ks,(q,()),ag,s.1,s.2,()) rec=rec (z,ks,(q,()),ag,(s0x ks s c).1,(s0x ks s c).2,()):=by
 have hl:(gget s.2 (nmC ks c)).length<=100000:=by
  rw[h.m];exact t2f (List.length_filter_le _ _) hp
 have r1:room (s.1++ [nmC ks c]).length 16=true:=d1e (by have:=h.l;simp;omega) (by omega);have r2:room (gget s.2 (nmC ks c)++ [c]).length 32=true:=d1e (by simp;omega) (by omega);unfold d0n;dsimp only;rw[n2o n hn c.r ks (λk hk=>by rw[hc.1];exact fx k hk) (by omega),q2u];dsimp only;rw[a2m n hn (keyV ks c.r) (l1u hc) (by unfold keyV;rw[s2c];exact eS),q2u];dsimp only;rw[show c2u (keyV ks c.r)=nmC ks c from rfl,c1r]
 rw[show a0k .str (.lst .cnt) [] s.2 (nmC ks c)=gget s.2 (nmC ks c)from rfl]
 rw[r2,r2n (j1v (kt:=.str) (vt:=.lst .cnt) (nmC ks c) s.2),Bool.and_self,u2a,u2a,t2v,u2a,u2a];unfold s0x;cases (gget s.2 (nmC ks c)).isEmpty with
 |true=>rw[u2a,u2a,b0z r1]
 |false=>rw[u2b,u2b]
theorem i1e{ρ:Type}(n:Nat)(hn:200<=n)(kr:Unit->Option ρ)(z:List Cnt)(q:Query)(ks ag:List Int)(m:Nat)(fx:∀k∈ks,0<=k/\k<(m:Int))(eS:ks.length<=30)
  (K:(Y3×Y2×Y4×Y2×Y15×GMap×Unit)->Option ρ):∀(l:List Cnt) (i:Int) (p:List Cnt) (s:GS),GOf ks p s->p.length+l.length<=100000->(∀c∈l,RowR m c.r)->
   a0b (d0n n kr) K i l (z,ks,(q,()),ag,s.1,s.2,())=K (z,ks,(q,()),ag,(l.foldl (s0x ks) s).1,(l.foldl (s0x ks) s).2,())
 |[],i,p,s,h,hl,hc=>by rw[a0b];rfl
 |c::r,i,p,s,h,hl,hc=>by
  rw[r2m]at hl;rw[a0b,List.foldl_cons,c2r n hn kr z q ks ag m fx eS i p s h (by omega) c (hc c (by simp))];exact i1e n hn kr z q ks ag m fx eS K r (i+1) (p++ [c]) (s0x ks s c) (h.step c) (by simp;omega) λd hd=>hc d (by simp[hd])
def grp(ks:List Int)(z:List Cnt):GS:=z.foldl (s0x ks) ([],[])
theorem k1p(ks:List Int)(z:List Cnt):GOf ks z (grp ks z):=by
 have:=GOf.all (ks:=ks) z (p:=[]) (s:=([],[])) ⟨λnm=>rfl,by simp,λnm=>by simp,by simp⟩;exact this
def setM(ks:List Int)(f:Int->Val)(o:List Val):List Val:=ks.foldl (λo k=>o.set k.toNat (f k)) o
theorem q0f(f:Int->Val):∀(ks:List Int) (o:List Val),(setM ks f o).length=o.length
 |[],o=>rfl
 |k::ks,o=>by
  have:=q0f f ks (o.set k.toNat (f k));rw[List.length_set]at this;exact this
theorem o0a{f:Int->Val}:∀(ks:List Int) {o:List Val},(∀v∈o,Right v 1)->(∀k∈ks,Right (f k) 1)-> ∀v∈setM ks f o,Right v 1
 |[],o,h,hf=>h
 |k::ks,o,h,hf=>by
  refine o0a ks (o:=o.set k.toNat (f k)) (λv hv=>?_) (λj hj=>hf j (by simp[hj]));rcases List.mem_or_eq_of_mem_set hv with h1|h1
  ·exact h v h1
  ·rw[h1];exact hf k (by simp)
theorem s0h{ρ:Type}(n:Nat)(kr:Unit->Option ρ)(v51 lg:List Int)(m:GMap)(nm:Bt)(r0:Cnt)(rs:List Cnt)(v56:List Bt)(jh v58:Int)(q:Query)(out:List Cnt)(M:Nat)(h0:r0.r.length=M)(K:_->Option ρ):∀(ks:List Int) (i:Int) (row:List Val),(∀k∈ks,0<=k/\k<(M:Int))->row.length=M->
  a0b (d0u n kr) K i ks (v51,lg,m,nm,r0::rs,v56,jh,v58,(q,()),out,row,())=K (v51,lg,m,nm,r0::rs,v56,jh,v58,(q,()),out,setM ks (atI r0.r) row,())
 |[],i,row,hk,hr=>by rw[a0b];rfl
 |k::ks,i,row,hk,hr=>by
  have h1:=hk k (by simp);have ih:=s0h n kr v51 lg m nm r0 rs v56 jh v58 q out M h0 K ks (i+1) (row.set k.toNat (atI r0.r k)) (λj hj=>hk j (by simp[hj])) (by simp[hr]);rw[a0b];generalize a0b (d0u n kr) K (i+1) ks=R at ih⊢;unfold d0u;dsimp only;have aJ:k.toNat<row.length:=by omega
  rw[show ix (r0::rs) 0=some r0 from rfl,q2u,m1p h1.1 (by omega),q2u,m1p (r:=row) h1.1 (by omega),q2u,q2y aJ,q2u,Val.eta,ih]
  rfl
def b0n(x:Int)(l:List Cnt):List Cnt:=l.map λc=>Cnt.mk [atI c.r x] c.n
theorem k1z{ρ:Type}(n:Nat)(kr:Unit->Option ρ)(a1 a2:List Int)(m:GMap)(nm:Bt)(x:Int)(ns:List Bt)(b1 b2:Int)(ag:List Int)(b3 b4:Int)(q:Query)(out:List Cnt)(row:List Val)(M:Nat)(hx:0<=x/\x<(M:Int))(K:_->Option ρ):∀(l:List Cnt) (i:Int) (col:List Cnt),(∀c∈l,RowR M c.r)->col.length+l.length<=100000->
  a0b (b0t n kr) K i l (a1,a2,m,nm,x,ns,b1,b2,ag,b3,b4,(q,()),out,col,row,())=K (a1,a2,m,nm,x,ns,b1,b2,ag,b3,b4,(q,()),out,col++b0n x l,row,())
 |[],i,col,hc,hl=>by rw[a0b,b0n,t2k,r2p]
 |c::l,i,col,hc,hl=>by
  rw[r2m]at hl;have h1:=hc c (by simp);have ih:=k1z n kr a1 a2 m nm x ns b1 b2 ag b3 b4 q out row M hx K l (i+1) (col++ [Cnt.mk [atI c.r x] c.n]) (λd hd=>hc d (by simp[hd])) (by simp;omega);rw[a0b];generalize a0b (b0t n kr) K (i+1) l=R at ih⊢;unfold b0t;dsimp only;rw[m1p hx.1 (by rw[h1.1];exact hx.2),q2u,Val.eta,b0z (d1e (by simp;omega) (by omega)),ih,b0n,b0n,r2k,s2g];rfl
def n1v(q:Query)(k:Int):Bt:=((q.items[k.toNat]?).map Ev.Item.agg).getD zb0
theorem i1i{M K:Nat}{x:Int}(hx:0<=x/\x<(M:Int)){l:List Cnt}(hl:∀c∈l,RowR M c.r/\lSz c.r+6<=K):t0i K (b0n x l):=by
 intro c hc;obtain⟨d,hd,rfl⟩:=r2s.1 hc;obtain⟨h1,h2⟩:=hl d hd;have hm:atI d.r x∈d.r:=by
  have:=m1p (r:=d.r) hx.1 (by rw[h1.1];exact hx.2);exact p2r this
 refine⟨atI d.r x,rfl,h1.2 _ hm,?_⟩;have:=i0t hm;omega
theorem x0e{ρ:Type}(n K:Nat)(hK:K<=n)(a1 a2:List Int)(m:GMap)(nm:Bt)(ns:List Bt)(b1 b2:Int)(ag:List Int)(q:Query)(out:List Cnt)(cP:∀k∈ag,0<=k/\k<(q.items.length:Int))(ij:ag.length<=1000)(hz:∀c∈gget m nm,RowR q.items.length c.r/\lSz c.r+6<=K)(cI:(gget m nm).length<=50000)(hn:100200<=n)
  (kx:_->Option ρ)(kr:Unit->Option ρ):∀(r p:List Int),ag=p++r->∀(fuel:Nat) (row:List Val),r.length<fuel->row.length=q.items.length->
   a0a (λrc=>c0b n rc kx kr) fuel (a1,a2,m,nm,ns,b1,b2,ag,(ag.length:Int),(p.length:Int),(q,()),out,row,())=kx (a1,a2,m,ns,b1,b2,(q,()),out,setM r (λk=>i0l (n1v q k) (b0n k (gget m nm))) row,())
 |[],p,hp,fuel,row,hf,hr=>by
  obtain⟨f,rfl⟩:∃f,fuel=f+1:=⟨fuel - 1,by omega⟩;rw[a0a];unfold c0b;dsimp only;rw[decide_eq_false (by rw[hp];simp),u2b];rfl
 |k::r,p,hp,fuel,row,hf,hr=>by
  obtain⟨f,rfl⟩:∃f,fuel=f+1:=⟨fuel - 1,by omega⟩;have hk:ag[p.length]?=some k:=by rw[hp];simp
  have pO:k∈ag:=by rw[hp];simp
  have aJ:p.length<ag.length:=(r2e.1 hk).1;have h1:=cP k pO;have hit:k.toNat<q.items.length:=by omega
  have pb:ix q.items k=some q.items[k.toNat]:=by
   have:=a0r (q2y hit);rwa[Int.toNat_of_nonneg h1.1]at this
  have i7:n1v q k=(q.items[k.toNat]).agg:=by
   unfold n1v;rw[q2y hit];rfl
  have lH:=i1i h1 hz;have bU:(b0n k (gget m nm)).length=(gget m nm).length:=by unfold b0n;rw[s2c]
  have ke:=(l1b n (n1v q k) (b0n k (gget m nm)) (λc hc=>by obtain⟨v,e1,e2,e3⟩:=lH c hc;exact⟨v,e1,e2,by omega⟩) (by omega) (by omega)).1;have cB:k.toNat<row.length:=by omega
  have ih:=x0e n K hK a1 a2 m nm ns b1 b2 ag q out cP ij hz cI hn kx kr r (p++ [k]) (by rw[hp];simp) f (row.set k.toNat (i0l (n1v q k) (b0n k (gget m nm)))) (by simp at hf;omega) (by rw[List.length_set];exact hr);rw[r2j,s2v,Int.natCast_add]at ih;have hw:wI ((p.length:Int)+1)=(p.length:Int)+1:=a0f (by omega) (by omega);rw[a0a];generalize a0a (λrc=>c0b n rc kx kr) f=I at ih⊢;unfold c0b;dsimp only;rw[decide_eq_true (by omega),u2a,a0r hk,q2u];rw[show a0k .str (.lst .cnt) ([]:List Cnt) m nm=gget m nm from rfl]
  rw[t0o n _ _ (gget m nm) n _ _ _ _ _ _ _ _ _ _ _ _ _ _ _ (by omega) (by omega)];rw[k1z n _ a1 a2 m nm k ns b1 b2 ag _ _ q out row q.items.length h1 _ (gget m nm) 0 [] (λc hc=>(hz c hc).1) (by simp;omega)];dsimp only;rw[r2z,pb,q2u, <-i7,ke,q2u];dsimp only;rw[m1p (r:=row) h1.1 (by omega),q2u,q2y cB,q2u,Val.eta,hw];exact ih
def zs(q:Query):List Val:=List.replicate q.items.length zV
def d0g(q:Query)(ks ag:List Int)(rows:List Cnt):List Val:=
 setM ag (λk=>i0l (n1v q k) (b0n k rows)) (match rows with|[]=>zs q|c::_=>setM ks (atI c.r) (zs q))
theorem r0x{ρ:Type}(n K:Nat)(hK:K<=n)(ks ag:List Int)(m:GMap)(names:List Bt)(q:Query)(fx:∀k∈ks,0<=k/\k<(q.items.length:Int))(eS:ks.length<=1000)(cP:∀k∈ag,0<=k/\k<(q.items.length:Int))(ij:ag.length<=1000)(hq:q.items.length<=1000)
  (hz:∀nm,∀c∈gget m nm,RowR q.items.length c.r/\lSz c.r+6<=K)(cI:∀nm,(gget m nm).length<=50000)(bP:names.length<=50000)(hn:100200<=n)
  (kx:_->Option ρ)(kr:Unit->Option ρ):∀(r p:List Bt),names=p++r->∀(fuel:Nat) (out:List Cnt),r.length<fuel->out.length+r.length<=100000->
   a0a (λrc=>c0f n rc kx kr) fuel (ks,ag,m,names,(names.length:Int),(p.length:Int),(q,()),out,())=kx ((q,()),out++r.map (λs=>Cnt.mk (d0g q ks ag (gget m s)) 1),())
 |[],p,hp,fuel,out,hf,ho=>by
  obtain⟨f,rfl⟩:∃f,fuel=f+1:=⟨fuel - 1,by omega⟩;rw[a0a];unfold c0f;dsimp only;rw[decide_eq_false (by rw[hp];simp),u2b,t2k,r2p]
 |s::r,p,hp,fuel,out,hf,ho=>by
  obtain⟨f,rfl⟩:∃f,fuel=f+1:=⟨fuel - 1,by omega⟩;have hk:names[p.length]?=some s:=by rw[hp];simp
  have aJ:p.length<names.length:=(r2e.1 hk).1;rw[r2m]at ho;have ih:=r0x n K hK ks ag m names q fx eS cP ij hq hz cI bP hn kx kr r (p++ [s]) (by rw[hp];simp) f (out++ [Cnt.mk (d0g q ks ag (gget m s)) 1]) (by simp at hf;omega) (by simp;omega);rw[r2j,s2v,Int.natCast_add]at ih;have hw:wI ((p.length:Int)+1)=(p.length:Int)+1:=a0f (by omega) (by omega);have cF:∀y:Cnt,room (out++ [y]).length 32=true:=λy=>d1e (by simp;omega) (by omega);rw[a0a];generalize a0a (λrc=>c0f n rc kx kr) f=I at ih⊢;rw[r2k,List.append_cons];unfold c0f;dsimp only;rw[decide_eq_true (by omega),u2a,a0r hk,q2u];unfold cnt?;rw[if_pos (by omega),q2u,Int.toNat_natCast,b0z (e0l (by omega) (by omega))];rw[show a0k .str (.lst .cnt) ([]:List Cnt) m s=gget m s from rfl]
  have jb:(zs q).length=q.items.length:=by unfold zs;rw[List.length_replicate]
  rw[show List.replicate q.items.length (Val.mk 0 0 zb0 [])=zs q from rfl]
  cases hg:gget m s with
  |nil=>
   rw[decide_eq_false (by simp),u2b];have:=x0e n K hK ks ag m s names (names.length:Int) (p.length:Int) ag q out cP ij (hz s) (cI s) hn (λ(v152,iX,v154,iD,iV,v157,ja,fm,fH,_)=>ck (room (fm++([(Cnt.mk fH 1)]:List Cnt)).length 32) (I (v152,iX,v154,iD,iV,wI (v157+1),ja,fm++([(Cnt.mk fH 1)]:List Cnt),()))) (λ_=>none) ag [] rfl n (zs q) (by omega) jb;refine this.trans ?_;dsimp only;rw[b0z (cF _),hw];unfold d0g at ih⊢;rw[hg]at ih⊢;exact ih
  |cons c rs=>
   rw[decide_eq_true (by simp),u2a];rw[w0y n _ _ ks n _ _ _ _ _ _ _ _ _ _ _ (by omega) (by omega)];have hcr:=(hz s c (by rw[hg];simp)).1;rw[s0h n _ ks ag m s c rs names _ _ q out q.items.length hcr.1 _ ks 0 (zs q) fx jb];dsimp only;have:=x0e n K hK ks ag m s names (names.length:Int) (p.length:Int) ag q out cP ij (hz s) (cI s) hn (λ(v152,iX,v154,iD,iV,v157,ja,fm,fH,_)=>ck (room (fm++([(Cnt.mk fH 1)]:List Cnt)).length 32) (I (v152,iX,v154,iD,iV,wI (v157+1),ja,fm++([(Cnt.mk fH 1)]:List Cnt),()))) (λ_=>none) ag [] rfl n (setM ks (atI c.r) (zs q)) (by omega) (by rw[q0f];exact jb);refine this.trans ?_;dsimp only;rw[b0z (cF _),hw];unfold d0g at ih⊢;rw[hg]at ih⊢;exact ih
theorem a1j{ρ:Type}(n:Nat)(kx:_->Option ρ)(kr:Unit->Option ρ):∀(r p:List Cnt) (fuel:Nat),r.length<fuel->p.length+r.length<=100000->
  a0a (λrc=>a0o n rc kx kr) fuel (((p.length+r.length:Nat):Int),(p.length:Int),p.map (λc=>Cnt.mk c.r 1)++r,())=kx ((p++r).map (λc=>Cnt.mk c.r 1),())
 |[],p,fuel,hf,hl=>by
  obtain⟨f,rfl⟩:∃f,fuel=f+1:=⟨fuel - 1,by omega⟩;rw[a0a];unfold a0o;dsimp only;rw[decide_eq_false (by simp),u2b,r2p,r2p]
 |c::r,p,fuel,hf,hl=>by
  obtain⟨f,rfl⟩:∃f,fuel=f+1:=⟨fuel - 1,by omega⟩;rw[r2m]at hl;have ih:=a1j n kx kr r (p++ [c]) f (by simp at hf;omega) (by simp;omega);have hk:(p.map (λc=>Cnt.mk c.r 1)++c::r)[p.length]?=some c:=by
   rw[s2q (by simp)];simp
  rw[a0a];generalize a0a (λrc=>a0o n rc kx kr) f=I at ih⊢;unfold a0o;dsimp only;rw[decide_eq_true (by simp;omega),u2a,a0r hk,q2u,Int.toNat_natCast,hk,q2u,a0f (by omega) (by omega)];have e1:(p.map (λc=>Cnt.mk c.r 1)++c::r).set p.length (Cnt.mk c.r 1)=(p++ [c]).map (λc=>Cnt.mk c.r 1)++r:=by
   rw[List.set_append_right _ _ (by simp)];simp
  rw[e1];have e2:(((p++ [c]).length+r.length:Nat):Int)=((p.length+(c::r).length:Nat):Int):=by simp;omega
  have e3:(((p++ [c]).length:Nat):Int)=(p.length:Int)+1:=by simp
  rw[e2,e3,s2g]at ih;exact ih
theorem w0w:∀(l:List Ev.Item) (i:Int),(∀k∈p0q l i,i<=k/\k<i+l.length)/\(∀k∈p0o l i,i<=k/\k<i+l.length)
 |[],i=>⟨(λk h=>by simp[p0q]at h),(λk h=>by simp[p0o]at h)⟩
 |x::r,i=>by
  obtain⟨h1,h2⟩:=w0w r (i+1);rw[p0q,p0o,r2m];cases seq x.agg zb0 with
  |true=>
   rw[u2a,u2a];refine⟨λk hk=>?_,λk hk=>?_⟩
   ·rcases r2g.1 hk with rfl|hk
    ·omega
    ·have:=h1 k hk;omega
   ·have:=h2 k hk;omega
  |false=>
   rw[u2b,u2b];refine⟨λk hk=>?_,λk hk=>?_⟩
   ·have:=h1 k hk;omega
   ·rcases r2g.1 hk with rfl|hk
    ·omega
    ·have:=h2 k hk;omega
def ksQ(q:Query):List Int:=p0q q.items 0
def agQ(q:Query):List Int:=p0o q.items 0
def outs(q:Query)(z:List Cnt):List Cnt:=
 bif grpB q then(bif ((ksQ q).length==0)&& (z.length==0)then [Cnt.mk (d0g q (ksQ q) (agQ q) []) 1]else(grp (ksQ q) z).1.map λs=>Cnt.mk (d0g q (ksQ q) (agQ q) (gget (grp (ksQ q) z).2 s)) 1)else z
def ones(l:List Cnt):List Cnt:=l.map λc=>Cnt.mk c.r 1
def fin(q:Query)(o:List Cnt):List Cnt:=bif q.dist then ones o else o
theorem s1n(q:Query)(o:List Cnt)(n:Nat)(hl:o.length<=100000)(hn:100200<=n):
  (bif q.dist then a0a (λl7=>a0o n l7 (λ(o9,_)=>some (o9,())) (λ(_)=>none)) (n) ((o.length:Int),0,o,())else some (o,()))=some (fin q o,()):=by
 unfold fin;cases q.dist with
 |false=>rfl
 |true=>
  rw[u2a,u2a];have:=a1j n (λ((o9,_):List Cnt×Unit)=>some (o9,())) (λ_=>none) o [] n (by omega) (by simpa using hl);rw[List.length_nil,s2j,t2k,r2z]at this;exact this
theorem f2u(q:Query)(z o:List Cnt)(n K:Nat)(hq:q.items.length<=30)(hz:∀c∈z,RowR q.items.length c.r/\lSz c.r+6<=K)(cI:z.length<=20000)(hK:K<=n)(hn:200200<=n)
  (hg:b1a n (outs q z,())=some (o,()))(iB:o.length<=100000):h0o n (q,z,())=some (fin q o,()):=by
 have hlen:=z0y q.items 0;obtain⟨b6,eI⟩:=w0w q.items 0;have fx:∀k∈ksQ q,0<=k/\k<(q.items.length:Int):=λk hk=>by have:=b6 k hk;omega
 have cP:∀k∈agQ q,0<=k/\k<(q.items.length:Int):=λk hk=>by have:=eI k hk;omega
 have eS:(ksQ q).length<=30:=by unfold ksQ;omega
 have ij:(agQ q).length<=30:=by unfold agQ;omega
 unfold h0o;dsimp only;rw[n1s q n (by omega) (by omega),q2u];dsimp only;cases hgr:grpB q with
 |false=>
  have e:outs q z=z:=by unfold outs;rw[hgr];rfl
  rw[e]at hg;rw[t2b,u2a,v1m,hg,q2u];exact s1n q o n iB (by omega)
 |true=>
  rw[s2i,u2b];rw[w0a n _ _ q.items n _ _ _ _ (by omega) (by omega),n0u n _ z q _ q.items 0 [] [] (by simp;omega)];dsimp only;rw[r2z,r2z,show p0q q.items 0=ksQ q from rfl,show p0o q.items 0=agQ q from rfl]
  rw[y0x n _ _ z n _ _ _ _ _ _ (by omega) (by omega)];refine(i1e n (by omega) _ z q (ksQ q) (agQ q) q.items.length fx (by omega) _ z 0 [] ([],[]) ⟨λnm=>rfl,by simp,λnm=>by simp,by simp⟩ (by simp;omega) (λc hc=>(hz c hc).1)).trans ?_;rw[show z.foldl (s0x (ksQ q)) ([],[])=grp (ksQ q) z from rfl]
  have hG:=k1p (ksQ q) z;dsimp only;have hb:((((ksQ q).length:Int)==0)&& (((z.length:Int))==0))=(((ksQ q).length==0)&& (z.length==0)):=by
   congr 1
   ·rw[Bool.eq_iff_iff,beq_iff_eq,beq_iff_eq];omega
   ·rw[Bool.eq_iff_iff,beq_iff_eq,beq_iff_eq];omega
  rw[hb];have aS:∀nm,∀c∈gget (grp (ksQ q) z).2 nm,c∈z:=by
   intro nm c hc;rw[hG.m]at hc;exact(t2a.1 hc).1
  have kX:∀nm,(gget (grp (ksQ q) z).2 nm).length<=20000:=by
   intro nm;rw[hG.m];exact t2f (List.length_filter_le _ _) cI
  cases hs:((ksQ q).length==0)&& (z.length==0)with
  |true=>
   have e:outs q z=[Cnt.mk (d0g q (ksQ q) (agQ q) []) 1]:=by unfold outs;rw[hgr,hs];rfl
   have hm2:∀nm,gget (gput (grp (ksQ q) z).2 zb0 []) nm=[]\/gget (gput (grp (ksQ q) z).2 zb0 []) nm=gget (grp (ksQ q) z).2 nm:=by
    intro nm;rw[w0n];cases seq nm zb0 with
    |true=>exact .inl rfl
    |false=>exact .inr rfl
   rw[u2a];have:=r0x n K hK (ksQ q) (agQ q) (gput (grp (ksQ q) z).2 zb0 []) [zb0] q fx (by omega) cP (by omega) (by omega) (λnm c hc=>by
     rcases hm2 nm with h|h
     ·rw[h]at hc;cases hc
     ·rw[h]at hc;exact hz c (aS nm c hc)) (λnm=>by
     rcases hm2 nm with h|h
     ·rw[h];simp
     ·rw[h];have:=kX nm;omega) (by simp) (by omega) (λ(o162,jj,_)=>
 (q69z n (jj,())).bind λ(o164,_)=>
 (bif o162.1.dist then
 a0a (λfA=>a0o n fA (λ(o165,_)=>some (o165,())) (λ(_)=>none)) (n) ((o164.length:Int),0,o164,())
 else some (o164,()))) (λ_=>none) [zb0] [] rfl n [] (by simp;omega) (by simp)
   refine this.trans ?_;dsimp only;have e2:gget (gput (grp (ksQ q) z).2 zb0 []) zb0=[]:=by rw[w0n,b0f];rfl
   rw[r2z,r2k,t2k,e2, <-e,v1m,hg,q2u];exact s1n q o n iB (by omega)
  |false=>
   have e:outs q z=(grp (ksQ q) z).1.map λs=>Cnt.mk (d0g q (ksQ q) (agQ q) (gget (grp (ksQ q) z).2 s)) 1:=by unfold outs;rw[hgr,hs];rfl
   rw[u2b];have bP:=hG.l;have:=r0x n K hK (ksQ q) (agQ q) (grp (ksQ q) z).2 (grp (ksQ q) z).1 q fx (by omega) cP (by omega) (by omega) (λnm c hc=>hz c (aS nm c hc)) (λnm=>by have:=kX nm;omega) (by omega) (by omega) (λ(o162,jj,_)=>
 (q69z n (jj,())).bind λ(o164,_)=>
 (bif o162.1.dist then
 a0a (λfA=>a0o n fA (λ(o165,_)=>some (o165,())) (λ(_)=>none)) (n) ((o164.length:Int),0,o164,())
 else some (o164,()))) (λ_=>none) (grp (ksQ q) z).1 [] rfl n [] (by omega) (by simp;omega)
   refine this.trans ?_;dsimp only;rw[r2z, <-e,v1m,hg,q2u];exact s1n q o n iB (by omega)
theorem c2e{q:Query}{K:Nat}{k:Int}(hk:0<=k/\k<(q.items.length:Int)){rows:List Cnt}(h:∀c∈rows,RowR q.items.length c.r/\lSz c.r+6<=K):t0i K (b0n k rows):=i1i hk h
theorem e1g(ag:Bt){K:Nat}{col:List Cnt}(hc:t0i K col)(hl:col.length<=100000):Right (i0l ag col) 1:=
 (l1b (K+col.length+100) ag col (λc h=>by obtain⟨v,e1,e2,e3⟩:=hc c h;exact⟨v,e1,e2,by omega⟩) hl (by omega)).2
theorem q1s{m:Nat}{r:List Val}(h:RowR m r)(k:Int):Right (atI r k) 1:=by
 unfold atI;cases e:r[k.toNat]? with
 |none=>exact .null 1
 |some x=>exact h.2 x (r2l e)
theorem k1r(q:Query):∀v∈zs q,Right v 1:=by
 intro v hv;rw[(List.mem_replicate.1 hv).2];exact .null 1
theorem p0e{q:Query}{K:Nat}(ks:List Int){ag:List Int}{rows:List Cnt}(cP:∀k∈ag,0<=k/\k<(q.items.length:Int))(h:∀c∈rows,RowR q.items.length c.r/\lSz c.r+6<=K)(hl:rows.length<=100000):RowR q.items.length (d0g q ks ag rows):=by
 unfold d0g;constructor
 ·rw[q0f]
  cases rows with
  |nil=>simp[zs]
  |cons c r=>dsimp only;rw[q0f];simp[zs]
 ·refine o0a ag ?_ λk hk=>e1g _ (c2e (cP k hk) h) (by unfold b0n;rw[s2c];exact hl)
  cases rows with
  |nil=>exact k1r q
  |cons c r=>exact o0a ks (k1r q) λk _=>q1s (h c (by simp)).1 k
theorem m1e{q:Query}{z:List Cnt}{K:Nat}(hz:∀c∈z,RowR q.items.length c.r/\lSz c.r+6<=K)(cI:z.length<=20000):(∀c∈outs q z,RowR q.items.length c.r)/\(outs q z).length<=z.length+1:=by
 obtain⟨b6,eI⟩:=w0w q.items 0;have cP:∀k∈agQ q,0<=k/\k<(q.items.length:Int):=λk hk=>by have:=eI k hk;omega
 have hG:=k1p (ksQ q) z;unfold outs;cases grpB q with
 |false=>exact⟨λc hc=>(hz c hc).1,by rw[u2b];omega⟩
 |true=>
  rw[u2a];cases ((ksQ q).length==0)&& (z.length==0)with
  |true=>
   rw[u2a];refine⟨λc hc=>?_,by simp⟩;rw[r2w.1 hc];exact p0e (K:=K) (ksQ q) cP (λc hc=>by cases hc) (by simp)
  |false=>
   rw[u2b];refine⟨λc hc=>?_,by rw[s2c];have:=hG.l;omega⟩;obtain⟨s,hs,rfl⟩:=r2s.1 hc;dsimp only;rw[hG.m];exact p0e (ksQ q) cP (λc hc=>hz c (t2a.1 hc).1) (t2f (List.length_filter_le _ _) (by omega))
theorem z1t(g:Graph)(a:Ev.Arrow)(ks ks' :List Ev.Pair)(h:∀k,k∈ks↔k∈ks')(x y:Int):k0n g a ks x y=k0n g a ks' x y:=by
 have key:∀fr tg,s0d g a ks fr tg=s0d g a ks' fr tg:=by
  intro fr tg;unfold s0d;rw[show decide (Ev.Pair.mk fr tg∈ks)=decide (Ev.Pair.mk fr tg∈ks')from decide_eq_decide.2 (h _)]
 unfold k0n;rw[key,key]
theorem t1n(g:Graph)(fin:List Int->List Int->List Y2)(f1 f2:Ev.Arrow->List Ev.Pair)(h:∀a k,k∈f1 a↔k∈f2 a):∀(l:List (Ev.Dot×Ev.Arrow)) (pre:List Ev.Dot) (ds es:List Int),
  f0f g fin (l.map λz=>(z.1,z.2,f1 z.2)) pre ds es=f0f g fin (l.map λz=>(z.1,z.2,f2 z.2)) pre ds es
 |[],pre,ds,es=>rfl
 |(d,a)::r,pre,ds,es=>by
  rw[r2k,r2k,f0f,f0f];congr 1;funext x;rw[z1t g a _ _ (h a)];cases dotB d x&&fitL pre ds d.name x.id with
  |false=>rfl
  |true=>
   rw[u2a,u2a];congr 1;funext e;exact t1n g fin f1 f2 h r _ _ _
theorem t0q{q:Query}{g:Graph}(hc:chkG g=0)(pass:List Int->Bool){n m:Nat}(hn:100100<=n)(hm:100100<=m):h0q n q g pass=h0q m q g pass:=by
 have hk:∀a k,k∈rk n g a↔k∈rk m g a:=by
  intro a k;unfold rk;cases a.many with
  |false=>rfl
  |true=>rw[u2a,u2a,(u1h n hn g a.type hc).2,(u1h m hm g a.type hc).2]
 unfold h0q;cases q.dots with
 |nil=>rfl
 |cons d r=>
  dsimp only;unfold t0c i0k;congr 1;funext x;rw[t1n g (finF pass) _ _ hk]
theorem a1w(g:Graph)(pass:List Int->Bool):∀(rem:List Y16) (pre:List Ev.Dot) (ds es:List Int),AOk g ds->AOk g es->∀w∈f0f g (finF pass) rem pre ds es,AOk g w
 |[],pre,ds,es,hd,he,w,h=>by
  rw[f0f]at h;unfold finF at h;cases hp:pass (ds++es)with
  |true=>rw[hp,u2a,r2w]at h;rw[h];exact hd.app he
  |false=>rw[hp,u2b]at h;cases h
 |(d,a,ks)::r,pre,ds,es,hd,he,w,h=>by
  rw[f0f]at h;obtain⟨x,hx,h⟩:=List.mem_flatMap.1 h;cases hc:dotB d x&&fitL pre ds d.name x.id with
  |false=>rw[hc,u2b]at h;cases h
  |true=>
   rw[hc,u2a]at h;obtain⟨e,pQ,h⟩:=List.mem_flatMap.1 h;exact a1w g pass r _ _ _ (hd.app (AOk.one (.inl (r2s.2 ⟨x,hx,rfl⟩)))) (he.app (AOk.one (.inr (x0x pQ)))) w h
theorem o1u{n:Nat}{q:Query}{g:Graph}{pass:List Int->Bool}:∀w∈h0q n q g pass,AOk g w:=by
 intro w h;unfold h0q at h;cases hd:q.dots with
 |nil=>rw[hd]at h;cases h
 |cons d r=>
  rw[hd]at h;dsimp only at h;unfold t0c at h;obtain⟨x,hx,h⟩:=List.mem_flatMap.1 h;cases hc:dotB d x&&fitL [] [] d.name x.id with
  |false=>rw[hc,u2b]at h;cases h
  |true=>
   rw[hc,u2a]at h;exact a1w g pass _ _ _ _ (AOk.one (.inl (r2s.2 ⟨x,hx,rfl⟩))) (by intro y hy;cases hy) w h
theorem j1y:∀{l:List Val},(∀v∈l,chk v 1=0)->chks l 1=0
 |[],_=>rfl
 |v::r,h=>by
  rw[chks,h v (by simp),show((0:Int) !=0)=false from rfl,u2b]
  exact j1y λx hx=>h x (by simp[hx])
theorem p2d:∀{l:List Cnt},(∀c∈l,0<=c.n)-> ∀r,0<=cf l r
 |[],_,r=>by simp[cf]
 |c::l,h,r=>by
  have h1:=h c (by simp);have h2:=p2d (l:=l) (λd hd=>h d (by simp[hd])) r;rw[cf];cases ordL c.r r==0<;>simp<;>omega
structure Gath(l o:List Cnt):Prop where
 cb:CB o
 cf:∀w,cf o w=cf l w
 r:∀c∈o,∃d∈l,d.r=c.r
 len:o.length<=l.length
theorem Gath.uniq {l o o' :List Cnt}(h:Gath l o)(h' :Gath l o'):o=o' :=k2g h.cb h'.cb λw=>by rw[h.cf,h'.cf]
theorem Gath.n {l o:List Cnt}(h:Gath l o){M:Int}(hM:0<=M)(hn:∀c∈l,0<=c.n/\c.n<=M):∀c∈o,0<c.n/\c.n<=l.length*M:=by
 intro c hc;have e:c.n=Pure.cf l c.r:=by rw [<-h.cf,s0l h.cb.1 hc]
 have h1:=p2d (λd hd=>(hn d hd).1) c.r;have h2:=x0g hM c.r (l:=l) λd hd=>⟨by have:=(hn d hd).1;omega,(hn d hd).2⟩;have h3:=h.cb.2 c hc;rw [<-e]at h1 h2;generalize (l.length:Int)*M=y at*;omega
theorem j1f(l:List Cnt)(m:Nat)(hm:m<=30)(hr:∀c∈l,RowR m c.r)(hn:∀c∈l,0<=c.n/\c.n<=4000000)(hl:l.length<=20000):
  ∃o,Gath l o/\WB o/\RB (bSz l+6) o/\∀n,20000*(bSz l+6)+30000<=n->b1a n (l,())=some (o,()):=by
 have hD:∀c∈l,DR (bSz l+6) c/\chks c.r 1=0/\ -4000000<=c.n/\c.n<=4000000:=λc hc=>
  ⟨⟨by have:=(hr c hc).1;omega,λv hv=>b0i ((hr c hc).2 v hv),by have:=o0i hc;omega⟩,j1y λv hv=>s0i ((hr c hc).2 v hv),by have:=(hn c hc).1;omega,(hn c hc).2⟩
 have key:=λn hn2=>o1k l n (bSz l+6) 4000000 (by omega) hD (by omega) (by omega) hn2;obtain⟨o,e,a1,a2,a3,a4⟩:=key (l.length+(bSz l+6)+1100) (r2f _);have G:Gath l o:=⟨a1,a2,a3,a4⟩;refine⟨o,G,λc hc=>?_,λc hc=>?_,λn hn2=>?_⟩
 ·obtain⟨d,hd,e1⟩:=a3 c hc
  have h1:=G.n (M:=4000000) (by omega) hn c hc;have h2:=v1k c.n;rw[a0f (by omega) (by omega)]at h2;refine⟨⟨?_,λv hv=>?_⟩,h2⟩
  ·rw [<-e1,(hr d hd).1]
   unfold maxLen;omega
  ·rw [<-e1]at hv
   exact b0i ((hr d hd).2 v hv)
 ·obtain⟨d,hd,e1⟩:=a3 c hc
  rw [<-e1];have:=o0i hd;omega
 ·obtain⟨o',e',b1,b2,b3,b4⟩:=key n (by omega)
  rw[e',Gath.uniq ⟨b1,b2,b3,b4⟩ G]
theorem k2i{q:Query}{z:List Cnt}{M:Int}(hM:1<=M)(h:∀c∈z,0<=c.n/\c.n<=M):∀c∈outs q z,0<=c.n/\c.n<=M:=by
 unfold outs;cases grpB q with
 |false=>exact h
 |true=>
  rw[u2a];cases ((ksQ q).length==0)&& (z.length==0)with
  |true=>
   intro c hc;rw[u2a]at hc;rw[r2w.1 hc];exact⟨by dsimp only;omega,hM⟩
  |false=>
   intro c hc;obtain⟨s,hs,rfl⟩:=r2s.1 hc;exact⟨by dsimp only;omega,hM⟩
theorem z1k{q:Query}{z:List Cnt}(h:z.length<=2000):(outs q z).length<=2000:=by
 have hG:=k1p (ksQ q) z;unfold outs;cases grpB q with
 |false=>exact h
 |true=>
  rw[u2a];cases ((ksQ q).length==0)&& (z.length==0)with
  |true=>simp
  |false=>rw[u2b,s2c];have:=hG.l;omega
noncomputable abbrev wayS(q:Query)(g:Graph):List Y2:=h0q 100100 q g (p0u q g)
structure ZOf(q:Query)(g:Graph)(z:List Cnt):Prop where
 g:Gath (c0o q g (wayS q g)) z
 r:∀c∈z,RowR q.items.length c.r
 len:z.length<=2000
 n:∀c∈z,0<c.n/\c.n<=2000
structure OOf(q:Query)(z o:List Cnt):Prop where
 g:Gath (outs q z) o
 r:∀c∈o,RowR q.items.length c.r
 len:o.length<=2000
 n:∀c∈o,0<c.n/\c.n<=4000000
 wb:WB o
theorem d2s{q:Query}{g:Graph}(hg:GOk g)(hq:chkQ q=0)(hw:∀t∈q.wher,tOk t)(hi:∀x∈q.items,tOk x.t)(hl:(wayS q g).length<=2000):
  ∃z o,ZOf q g z/\OOf q z o/\∃N,∀n,N<=n->g0m n (q,g,())=some (fin q o,0,()):=by
 obtain⟨⟨h1,h5⟩,kQ,ha,gY,har,_⟩:=k1v hq;obtain⟨⟨fh,n9⟩,b,eb,ei,ew⟩:=y0a hq;obtain⟨_,e9⟩:=v1j (q:=q) hg b hi (λx hx=>(j2w ei x hx).1) (by omega) (by omega) ha;obtain⟨N1,mL⟩:=h2s hg hq hw hi;have hAl:(c0o q g (wayS q g)).length<=2000:=by unfold c0o;rw[s2c];exact hl
 have hAr:∀c∈c0o q g (wayS q g),RowR q.items.length c.r:=by
  intro c hc;obtain⟨w,hw,rfl⟩:=r2s.1 hc;exact⟨by unfold rowV;rw[s2c],e9 w (o1u w hw)⟩
 have hAn:∀c∈c0o q g (wayS q g),0<=c.n/\c.n<=1:=by
  intro c hc;obtain⟨w,hw,rfl⟩:=r2s.1 hc;exact⟨by dsimp only;omega,by dsimp only;omega⟩
 obtain⟨z,zg,zw,zr,ze⟩:=j1f (c0o q g (wayS q g)) q.items.length (by omega) hAr (λc hc=>⟨(hAn c hc).1,by have:=(hAn c hc).2;omega⟩) (by omega);have fF:∀c∈z,RowR q.items.length c.r:=by
  intro c hc;obtain⟨d,hd,e⟩:=zg.r c hc;rw [<-e];exact hAr d hd
 have cI:z.length<=2000:=by have:=zg.len;omega
 have gT:∀c∈z,0<c.n/\c.n<=2000:=by
  intro c hc;have:=zg.n (M:=1) (by omega) hAn c hc;omega
 have kI:∀c∈z,RowR q.items.length c.r/\lSz c.r+6<=bSz (c0o q g (wayS q g))+6:=λc hc=>⟨fF c hc,zr c hc⟩;obtain⟨cC,_⟩:=m1e (q:=q) kI (by omega);have iB:=z1k (q:=q) cI;have iM:=k2i (q:=q) (M:=2000) (by omega) (λc hc=>⟨by have:=(gT c hc).1;omega,(gT c hc).2⟩);obtain⟨o,og,ow,orb,oe⟩:=j1f (outs q z) q.items.length (by omega) cC (λc hc=>⟨(iM c hc).1,by have:=(iM c hc).2;omega⟩) (by omega);refine⟨z,o,⟨zg,fF,cI,gT⟩,⟨og,λc hc=>?_,by have:=og.len;omega,λc hc=>?_,ow⟩,N1+20000*(bSz (c0o q g (wayS q g))+6)+20000*(bSz (outs q z)+6)+300000,λn hn=>?_⟩
 ·obtain⟨d,hd,e⟩:=og.r c hc
  rw [<-e];exact cC d hd
 ·have h2:=og.n (M:=2000) (by omega) iM c hc
  omega
 ·rw[mL n (by omega),t0q hg.cg (p0u q g) (n:=n) (m:=100100) (by omega) (r2f _)]
  rw[decide_eq_true hl,u2a,ze n (by omega),q2u];dsimp only;rw[f2u q z o n (bSz (c0o q g (wayS q g))+6) (by omega) kI (by omega) (by omega) (by omega) (oe n (by omega)) (by have:=og.len;omega),q2u]
theorem Gath.self {l:List Cnt}(h:CB l):Gath l l:=⟨h,λ_=>rfl,λc hc=>⟨c,hc,rfl⟩,r2f _⟩
theorem n2f(r:List Val){n:Int}(h:n≠0):CB [Cnt.mk r n]:=⟨by simp[k0t],by simpa using h⟩
theorem r1g{q:Query}{g:Graph}(hg:GOk g)(hq:chkQ q=0)(hw:∀t∈q.wher,tOk t)(hi:∀x∈q.items,tOk x.t)(hl:(wayS q g).length<=2000){z o:List Cnt}(hz:Gath (c0o q g (wayS q g)) z)(ho:Gath (outs q z) o):
  ∃N,∀n,N<=n->g0m n (q,g,())=some (fin q o,0,()):=by
 obtain⟨z',o',h1,h2,N,h3⟩:=d2s hg hq hw hi hl;have e1:z' =z:=h1.g.uniq hz;subst e1;have e2:o' =o:=h2.g.uniq ho;subst e2;exact⟨N,h3⟩
def numV(n:Int):Val:=.mk 2 n zb0 []
theorem y1n{r:List Val}{n:Int}(hr:r.length<=30)(hv:∀v∈r,Right v 1)(hn:wfI .i64 n):∃N,∀m,N<=m->q38z m ([Cnt.mk r n],[Cnt.mk r n],())=some (true,()):=
 ⟨bSz [Cnt.mk r n]+2100,λm hm=>c2x _ m (λc hc=>by
  rw[r2w.1 hc];exact⟨⟨by dsimp only;unfold maxLen;omega,λv cN=>b0i (hv v cN)⟩,hn⟩) (by simp) hm⟩
def g3:Graph:=Graph.mk [Ev.Node.mk 1 [] [],Ev.Node.mk 2 [] [],Ev.Node.mk 3 [⟨#[65]⟩] []] [Edg.mk 4 1 2 zb22 [],Edg.mk 5 2 3 zb22 []] 6
theorem r1q:gOk g3:=by
 unfold gOk g3;simp[nOk,eOk,maxLen,wfI]
 decide
def q0:Query:=Query.mk [Ev.Dot.mk ⟨#[97]⟩ zb0] [] [] [Ev.Item.mk ⟨#[110]⟩ zb8 (Term.mk 4 (Val.mk 0 0 zb0 []) zb5 [Term.mk 2 (Val.mk 0 0 zb0 []) ⟨#[97]⟩ []])] false
theorem x1x(n:Nat):q94z (n+1000) (zb30,())=some (q0,0,0,()):=by kernel_rfl
theorem m2z:chkQ q0=0:=by kernel_rfl
def z0:List Cnt:=[Cnt.mk [numV 1] 1,Cnt.mk [numV 2] 1,Cnt.mk [numV 3] 1]
theorem f2b:c0o q0 g3 (wayS q0 g3)=z0:=by kernel_rfl
theorem j2l:(wayS q0 g3).length=3:=by kernel_rfl
theorem i2r:outs q0 z0=[Cnt.mk [numV 3] 1]:=by kernel_rfl
theorem q2t:CB z0:=by
 have e1:ordL [numV 1] [numV 2]= -1:=by kernel_rfl
 have e2:ordL [numV 1] [numV 3]= -1:=by kernel_rfl
 have e3:ordL [numV 2] [numV 3]= -1:=by kernel_rfl
 constructor
 ·unfold k0t z0
  simp[e1,e2,e3]
 ·unfold z0
  simp
theorem c2j:∃N,∀n,N<=n->q52z n ()=some (true,()):=by
 have hi:∀x∈q0.items,tOk x.t:=by
  intro x hx;have e:q0.items=[Ev.Item.mk ⟨#[110]⟩ zb8 (Term.mk 4 (Val.mk 0 0 zb0 []) zb5 [Term.mk 2 (Val.mk 0 0 zb0 []) ⟨#[97]⟩ []])]:=rfl;rw[e,r2w]at hx;subst hx;simp[tOk,tOks,vOk,vOks,wfI,maxLen]
  decide
 obtain⟨N1,h1⟩:=r1g ⟨r1q,by kernel_rfl⟩ m2z (by intro t ht;cases ht) hi (by rw[j2l];omega) (z:=z0) (o:=[Cnt.mk [numV 3] 1]) (by rw[f2b];exact Gath.self q2t) (by rw[i2r];exact Gath.self (n2f _ (by omega)));obtain⟨N2,h2⟩:=y1n (r:=[numV 3]) (n:=1) (by simp) (by intro v hv;rw[r2w.1 hv];exact .int 3 1 (by unfold wfI;decide)) (by unfold wfI;decide);refine⟨N1+N2+1000,λn hn=>?_⟩;have hp:=x1x (n - 1000);rw[show n - 1000+1000=n by omega]at hp;unfold q52z q53z;rw[q2u];dsimp only;unfold w0g;dsimp only;rw[hp,q2u];dsimp only;rw[show((0:Int) !=0)=false from rfl,u2b]
 have h1:=h1 n (by omega);rw[show fin q0 [Cnt.mk [numV 3] 1]=[Cnt.mk [numV 3] 1]from rfl]at h1
 unfold g3 at h1;rw[h1,q2u,q2u];dsimp only;rw[show(((0:Int)==0)&& ((0:Int)==0))=true from rfl,u2a]
 unfold q65z;rw[q2u];show((q38z n ([Cnt.mk [numV 3] 1],[Cnt.mk [numV 3] 1],())).bind λx=>some (x.1,()))=some (true,());rw[h2 n (by omega)];rfl
theorem a2b(q:Query)(g:Graph)(n:Nat)(hn:400<=n)(h:chkQ q≠0):c0t n (q,g,())=some ([],chkQ q,()):=by
 unfold c0t;dsimp only
 first|rw[f0a,f0x q n hn,q2u]| rw[f0x q n hn,q2u]
 dsimp only;rw[show(chkQ q !=0)=true by simpa[bne]using h,u2a]
theorem a2z(q:Query)(g:Graph)(n:Nat)(hn:400<=n)(hq:chkQ q=0)(h:chkG g≠0):c0t n (q,g,())=some ([],chkG g,()):=by
 unfold c0t;dsimp only
 first|rw[f0a,f0x q n hn,q2u,hq]| rw[f0x q n hn,q2u,hq]
 dsimp only;rw[show((0:Int) !=0)=false from rfl,u2b,f0b,r0i g n (by omega),q2u]
 dsimp only;rw[show(chkG g !=0)=true by simpa[bne]using h,u2a]
theorem q1n{q:Query}{g:Graph}(hg:GOk g)(hq:chkQ q=0)(hw:∀t∈q.wher,tOk t):∃N,∀n,N<=n->c0t n (q,g,())=bif decide ((wayS q g).length<=2000)then some (i0j ltLL (wayS q g),0,())else some ([],10,()):=by
 obtain⟨⟨h1,h5⟩,kQ,ha,gY,har,_⟩:=k1v hq;obtain⟨_,b,eb,ei,ew⟩:=y0a hq;obtain⟨N1,hN1,hp⟩:=p1i hg b hw ew kQ (by omega) ha;refine⟨N1+300000,λn hn=>?_⟩;rw[f1a q g hg.cg (p0u q g) N1 hN1 hp (by omega) h1 ha n (by omega) (by rw[f0x q n (by omega),hq]),t0q hg.cg (p0u q g) (n:=n) (m:=100100) (by omega) (r2f _)]
def sm(f:List Val->Int):List Cnt->Int
 |[]=>0
 |c::l=>c.n*f c.r+sm f l
def ne0(r:List Val)(c:Cnt):Bool:= !(ordL c.r r==0)
theorem m0p(f:List Val->Int)(r:List Val):∀l:List Cnt,sm f l=cf l r*f r+sm f (l.filter (ne0 r))
 |[]=>by simp[sm,cf]
 |c::l=>by
  rw[sm,cf,m0p f r l];cases h:ordL c.r r==0 with
  |true=>
   have e:c.r=r:=(h0k _ _).1 h;rw[t2d (by simp[ne0,h]),e,u2a,Int.add_mul];omega
  |false=>
   rw[t2j (by simp[ne0,h]),sm,u2b,Int.zero_add];omega
theorem p1c(r w:List Val):∀l:List Cnt,cf (l.filter (ne0 r)) w=bif ordL r w==0 then 0 else cf l w
 |[]=>by cases ordL r w==0<;>rfl
 |c::l=>by
  have ih:=p1c r w l;cases h:ordL c.r r==0 with
  |true=>
   have e:c.r=r:=(h0k _ _).1 h;rw[t2d (by simp[ne0,h]),ih,cf,e];cases ordL r w==0<;>simp
  |false=>
   rw[t2j (by simp[ne0,h]),cf,ih,cf];cases h2:ordL r w==0 with
   |true=>
    have e:r=w:=(h0k _ _).1 h2;subst e;rw[h];simp
   |false=>simp
theorem u1n(c:Cnt)(l:List Cnt):((c::l).filter (ne0 c.r)).length<=l.length:=by
 have h:ordL c.r c.r==0:=(h0k _ _).2 rfl;rw[t2d (by simp[ne0,h])];exact List.length_filter_le _ _
theorem a2v(f:List Val->Int):∀(k:Nat) (a b:List Cnt),a.length+b.length<=k->(∀w,cf a w=cf b w)->sm f a=sm f b
 | 0,a,b,h,hc=>by
  rw[r2q (show a.length=0 by omega),r2q (show b.length=0 by omega)]
 |k+1,[],[],h,hc=>rfl
 |k+1,c::a,b,h,hc=>by
  have h1:=u1n c a;have h2:=List.length_filter_le (ne0 c.r) b;rw[m0p f c.r (c::a),m0p f c.r b,hc c.r,a2v f k ((c::a).filter (ne0 c.r)) (b.filter (ne0 c.r)) (by rw[r2m]at h;omega) (λw=>by rw[p1c,p1c,hc])]
 |k+1,[],c::b,h,hc=>by
  have h1:=u1n c b;rw[m0p f c.r [],m0p f c.r (c::b),hc c.r,a2v f k (([]:List Cnt).filter (ne0 c.r)) ((c::b).filter (ne0 c.r)) (by rw[r2m]at h;simp only[List.filter_nil,List.length_nil]at h⊢;omega) (λw=>by rw[p1c,p1c,hc])]
def tot(l:List Cnt):Int:=sm (λ_=>1) l
theorem c0v(c:Cnt)(l:List Cnt):tot (c::l)=c.n+tot l:=by unfold tot;rw[sm];omega
def sumL:List Int->Int
 |[]=>0
 |x::r=>x+sumL r
theorem l1a{α:Type}(f g:α->Int):∀l:List α,sumL (l.map λx=>f x+g x)=sumL (l.map f)+sumL (l.map g)
 |[]=>rfl
 |x::r=>by rw[r2k,r2k,r2k,sumL,sumL,sumL,l1a f g r];omega
theorem t0a{α:Type}(f:α->Int):∀l:List α,(∀x∈l,f x=0)->sumL (l.map f)=0
 |[],_=>rfl
 |x::r,h=>by rw[r2k,sumL,h x (by simp),t0a f r λy hy=>h y (by simp[hy])];rfl
theorem k1g(n:Int)(x:Bt):∀l:List Bt,l.Nodup->x∈l->sumL (l.map λs=>bif seq s x then n else 0)=n
 |[],_,h=>by cases h
 |s::r,hd,h=>by
  obtain⟨h1,h2⟩:=List.nodup_cons.1 hd;rw[r2k,sumL];cases hs:seq s x with
  |true=>
   have e:=(a0g _ _).1 hs;rw[u2a,t0a]
   ·omega
   ·intro y hy
    cases hy2:seq y x with
    |false=>rfl
    |true=>exact absurd (((a0g _ _).1 hy2).trans e.symm▸hy) h1
  |false=>
   rw[u2b,k1g n x r h2 ?_]
   ·omega
   ·rcases r2g.1 h with rfl|h
    ·rw[b0f]at hs;cases hs
    ·exact h
theorem k1n(ks:List Int)(names:List Bt)(hn:names.Nodup):∀z:List Cnt,(∀c∈z,nmC ks c∈names)->sumL (names.map λs=>tot (b0y ks z s))=tot z
 |[],_=>t0a _ _ λs _=>rfl
 |c::z,h=>by
  have ih:=k1n ks names hn z λd hd=>h d (by simp[hd]);have e:∀s,tot (b0y ks (c::z) s)=(bif seq s (nmC ks c)then c.n else 0)+tot (b0y ks z s):=by
   intro s;unfold b0y;cases hs:seq s (nmC ks c)with
   |true=>rw[t2j (by simpa using hs),c0v];rfl
   |false=>rw[t2d (by simp[hs]),u2b];omega
  rw[c0v, <-ih,show(λs=>tot (b0y ks (c::z) s))=λs=>(bif seq s (nmC ks c)then c.n else 0)+tot (b0y ks z s)from funext e,l1a,k1g _ _ _ hn (h c (by simp))]
theorem n1j{names:List Bt}(row:Bt->List Val):names.Nodup->(∀s∈names,∀s' ∈names,row s=row s' ->s=s')-> ∀s0∈names,cf (names.map λs=>Cnt.mk (row s) 1) (row s0)=1:=by
 induction names with
 |nil=>intro _ _ s0 h;cases h
 |cons s r ih=>
  intro hd hi s0 h0;obtain⟨h1,h2⟩:=List.nodup_cons.1 hd;rw[r2k,cf];dsimp only;by_cases e:s=s0
  ·subst e
   rw[(h0k _ _).2 rfl,u2a,s0v]
   ·rfl
   ·intro c hc
    obtain⟨y,hy,rfl⟩:=r2s.1 hc;intro he;exact h1 (hi y (by simp[hy]) s (by simp) he▸hy)
  ·have aU:(ordL (row s) (row s0)==0)=false:=by
    cases h:ordL (row s) (row s0)==0 with
    |false=>rfl
    |true=>exact absurd (hi s (by simp) s0 h0 ((h0k _ _).1 h)) e
   rw[aU,u2b,Int.zero_add];exact ih h2 (λa ha b hb=>hi a (by simp[ha]) b (by simp[hb])) s0 (by
    rcases r2g.1 h0 with rfl|h
    ·exact absurd rfl e
    ·exact h)
def nuls(p:List Cnt):Prop:=∀c∈p,∀v,c.r=[v]->v.kind=0
structure Best(ag:Bt)(p:List Cnt)(b:Val):Prop where
 z:b.kind=0->b=zV/\nuls p
 m:b.kind≠0->∃c∈p,c.r=[b]
 x:seq ag maxS=true->b.kind≠0->∀c∈p,∀v,c.r=[v]->v.kind≠0->ordV v b<=0
theorem f2f{a b c:Val}(h1:ordV a b<=0)(h2:ordV b c<=0):ordV a c<=0:=by
 by_cases e1:ordV a b=0
 ·rw[(h0g _ _).1 e1];exact h2
 ·by_cases e2:ordV b c=0
  ·rw [<-(h0g _ _).1 e2];exact h1
  ·have:=u0i a b c (by omega) (by omega)
   omega
theorem Best.step {ag:Bt}(cP:seq ag maxS=true->seq ag minS=false){p:List Cnt}{s:Int×Val×Y18}(h:Best ag p s.2.1){c:Cnt}{v:Val}(e:c.r=[v]):Best ag (p++ [c]) (h0b ag s c).2.1:=by
 unfold h0b;rw[e];dsimp only;have last:∀d∈p++ [c],∀w,d.r=[w]->d∈p\/w=v:=by
  intro d hd w hw;rcases r2x.1 hd with hd|hd
  ·exact .inl hd
  ·rw[r2w.1 hd,e]at hw
   cases hw;exact .inr rfl
 cases hk:v.kind==0 with
 |true=>
  have hv:v.kind=0:=by simpa using hk
  rw[u2a];refine⟨λh0=>⟨(h.z h0).1,λd hd w hw=>?_⟩,λh0=>?_,λhx h0 d hd w hw gf=>?_⟩
  ·rcases last d hd w hw with h1|h1
   ·exact(h.z h0).2 d h1 w hw
   ·rw[h1];exact hv
  ·obtain⟨d,hd,e2⟩:=h.m h0
   exact⟨d,by simp[hd],e2⟩
  ·rcases last d hd w hw with h1|h1
   ·exact h.x hx h0 d h1 w hw gf
   ·rw[h1]at gf;exact absurd hv gf
 |false=>
  have hv:v.kind≠0:=by simpa using hk
  rw[u2b];dsimp only;unfold m1m;cases ht:((((s.2.1.kind:Int)==0) || ((seq ag minS)&& (decide ((ordV v s.2.1:Int)<0)))) || ((seq ag maxS)&& (!(decide ((ordV v s.2.1:Int)<0)))))with
  |true=>
   rw[u2a];refine⟨λh0=>absurd h0 hv,λ_=>⟨c,by simp,e⟩,λhx _ d hd w hw gf=>?_⟩;rcases last d hd w hw with h1|h1
   ·rw[hx,cP hx,t2x,s2y,s2x,t2n]at ht
    rcases ht with h2|h2
    ·exact absurd ((h.z (by simpa using h2)).2 d h1 w hw) gf
    ·have h3:¬ordV v s.2.1<0:=by simpa using h2
     by_cases h4:s.2.1.kind=0
     ·exact absurd ((h.z h4).2 d h1 w hw) gf
     ·refine f2f (h.x hx h4 d h1 w hw gf) ?_
      have:=i1f v s.2.1;omega
   ·rw[h1,a1m];omega
  |false=>
   rw[u2b];have hb:s.2.1.kind≠0:=by
    intro h0;rw[h0]at ht;simp at ht
   refine⟨λh0=>absurd h0 hb,λ_=>?_,λhx _ d hd w hw gf=>?_⟩
   ·obtain⟨d,hd,e2⟩:=h.m hb
    exact⟨d,by simp[hd],e2⟩
   ·rcases last d hd w hw with h1|h1
    ·exact h.x hx hb d h1 w hw gf
    ·rw[hx,s2x]at ht
     simp only[r2o,Bool.not_eq_false',decide_eq_true_iff]at ht;rw[h1];have:=ht.2;omega
theorem Best.all {ag:Bt}(cP:seq ag maxS=true->seq ag minS=false){K:Nat}:∀(l:List Cnt) {p:List Cnt} {s:Int×Val×Y18},Best ag p s.2.1->t0i K l->Best ag (p++l) (l.foldl (h0b ag) s).2.1
 |[],p,s,h,_=>by rw[r2p];exact h
 |c::r,p,s,h,hc=>by
  obtain⟨v,e,_⟩:=hc c (by simp);have:=Best.all cP r (h.step cP e) λd hd=>hc d (by simp[hd]);rw[s2g]at this;exact this
theorem e1l{ag:Bt}(cP:seq ag maxS=true->seq ag minS=false){K:Nat}{l:List Cnt}(hc:t0i K l):Best ag l (f0c ag l).2.1:=by
 have h0:Best ag [] zV:=⟨λ_=>⟨rfl,λc h=>by cases h⟩,λh=>absurd rfl h,λ_ h=>absurd rfl h⟩;exact Best.all cP l (p:=[]) (s:=(0,zV,(0,0,()))) h0 hc
def cntN:List Cnt->Int
 |[]=>0
 |c::l=>(match c.r with|[]=>0|v::_=>bif v.kind==0 then 0 else c.n)+cntN l
theorem q0t:∀{l:List Cnt},(∀c∈l,0<c.n)->0<=cntN l/\cntN l<=tot l
 |[],_=>⟨t2z _,t2z _⟩
 |c::l,h=>by
  have h1:=h c (by simp);have h2:=q0t (l:=l) λd hd=>h d (by simp[hd]);rw[cntN,c0v];cases c.r with
  |nil=>dsimp only;omega
  |cons v r=>
   dsimp only;cases v.kind==0<;>simp<;>omega
theorem b1o{K:Nat}:∀{l:List Cnt},t0i K l->(∀c∈l,0<c.n)->(cntN l=0↔nuls l)
 |[],_,_=>⟨(λ_ c h=>by cases h),(λ_=>rfl)⟩
 |c::l,hc,h=>by
  obtain⟨v,e,_⟩:=hc c (by simp);have h1:=h c (by simp);have h2:=(q0t (l:=l) λd hd=>h d (by simp[hd])).1;have ih:=b1o (l:=l) (λd hd=>hc d (by simp[hd])) λd hd=>h d (by simp[hd]);rw[cntN,e];dsimp only;cases hk:v.kind==0 with
  |true=>
   have hv:v.kind=0:=by simpa using hk
   rw[u2a,Int.zero_add,ih];constructor
   ·intro hn d hd w hw
    rcases r2g.1 hd with rfl|hd
    ·rw[e]at hw;cases hw;exact hv
    ·exact hn d hd w hw
   ·exact λhn d hd=>hn d (by simp[hd])
  |false=>
   rw[u2b];constructor
   ·intro h3;omega
   ·intro hn
    have:=hn c (by simp) v e;rw[this]at hk;cases hk
theorem w0t(ag:Bt){K:Nat}:∀(l:List Cnt) (s:Int×Val×Y18),t0i K l->(∀c∈l,0<c.n)->0<=s.1->s.1+tot l<=1000000000->(l.foldl (h0b ag) s).1=s.1+cntN l
 |[],s,_,_,_,_=>by rw[cntN];show s.1=_;omega
 |c::l,s,hc,h,h0,hb=>by
  obtain⟨v,e,_⟩:=hc c (by simp);have h1:=h c (by simp);have h2:=q0t (l:=l) λd hd=>h d (by simp[hd]);rw[c0v]at hb;rw[List.foldl_cons,cntN,e];have hs:(h0b ag s c).1=bif v.kind==0 then s.1 else s.1+c.n:=by
   unfold h0b;rw[e];dsimp only;cases v.kind==0 with
   |true=>rfl
   |false=>
    rw[u2b,u2b];exact a0f (by omega) (by omega)
  have ih:=w0t ag l (h0b ag s c) (λd hd=>hc d (by simp[hd])) (λd hd=>h d (by simp[hd])) (by rw[hs];cases v.kind==0<;>simp<;>omega) (by rw[hs];cases v.kind==0<;>simp<;>omega);rw[ih,hs];dsimp only;cases v.kind==0<;>simp<;>omega
def s1s(t s:Term):List Ev.Item:=[Ev.Item.mk ⟨#[107]⟩ zb0 t,Ev.Item.mk ⟨#[110]⟩ cntS (Term.mk 1 (Val.mk 2 1 zb0 []) zb0 []),Ev.Item.mk ⟨#[108,111]⟩ minS s,Ev.Item.mk ⟨#[104,105]⟩ maxS s,Ev.Item.mk ⟨#[109]⟩ cntS s]
def gQ(q:Query)(t s:Term):Query:=Query.mk q.dots q.arrows q.wher (s1s t s) false
theorem q2n(q:Query)(t s:Term):ksQ (gQ q t s)=[0]:=by kernel_rfl
theorem q2a(q:Query)(t s:Term):agQ (gQ q t s)=[1,2,3,4]:=by kernel_rfl
theorem m2o(q:Query)(t s:Term):grpB (gQ q t s)=true:=by kernel_rfl
theorem o2u(q:Query)(t s:Term)(c:Cnt)(R:List Cnt):d0g (gQ q t s) [0] [1,2,3,4] (c::R)=[atI c.r 0,i0l cntS (b0n 1 (c::R)),i0l minS (b0n 2 (c::R)),i0l maxS (b0n 3 (c::R)),i0l cntS (b0n 4 (c::R))]:=by kernel_rfl
def RowG(r:List Val):Prop:=∃k v,r=[k,numV 1,v,v,v]
theorem m2i{q:Query}{t s:Term}{g:Graph}{W:List Y2}:∀c∈c0o (gQ q t s) g W,RowG c.r:=by
 intro c hc;obtain⟨w,hw,rfl⟩:=r2s.1 hc;exact⟨_,_,rfl⟩
theorem p2g{R:List Cnt}(h:∀c∈R,RowG c.r):b0n 3 R=b0n 2 R/\b0n 4 R=b0n 2 R:=by
 unfold b0n;constructor<;>(refine List.map_congr_left λc hc=>?_;obtain⟨k,v,e⟩:=h c hc;rw[e];rfl)
theorem y0d(x:Int):∀R:List Cnt,tot (b0n x R)=tot R
 |[]=>rfl
 |c::R=>by
  have:=y0d x R;unfold b0n at this⊢;rw[r2k,c0v,c0v,this]
theorem j1k:∀{R:List Cnt},(∀c∈R,RowG c.r)->cntN (b0n 1 R)=tot R
 |[],_=>rfl
 |c::R,h=>by
  have ih:=j1k (R:=R) λd hd=>h d (by simp[hd]);obtain⟨k,v,e⟩:=h c (by simp);unfold b0n at ih⊢;rw[r2k,cntN,ih,c0v,e];rfl
theorem d1i(col:List Cnt):i0l cntS col=numV (f0c cntS col).1:=by kernel_rfl
theorem c1n(col:List Cnt):i0l minS col=(f0c minS col).2.1:=by kernel_rfl
theorem q1y(col:List Cnt):i0l maxS col=(f0c maxS col).2.1:=by kernel_rfl
structure RowP(N:Int)(r:List Val):Prop where
 p:∃k lo hi M,r=[k,numV N,lo,hi,numV M]/\ordV lo hi<=0/\(M=0↔lo.kind=0)/\M<=N
theorem t1v{q:Query}{t s:Term}{K:Nat}{c:Cnt}{R:List Cnt}(hg:∀d∈c::R,RowG d.r)(hr:∀d∈c::R,RowR 5 d.r/\lSz d.r+6<=K)(hn:∀d∈c::R,0<d.n)(ht:tot (c::R)<=4000000):
  RowP (tot (c::R)) (d0g (gQ q t s) [0] [1,2,3,4] (c::R))/\atI (d0g (gQ q t s) [0] [1,2,3,4] (c::R)) 0=atI c.r 0:=by
 rw[o2u];refine⟨⟨atI c.r 0,i0l minS (b0n 2 (c::R)),i0l maxS (b0n 3 (c::R)),cntN (b0n 2 (c::R)),?_,?_,?_,?_⟩,rfl⟩
 all_goals
  have e3:=(p2g hg).1;have e4:=(p2g hg).2;have c1:=i1i (M:=5) (K:=K) (x:=1) (by omega) hr;have c2:=i1i (M:=5) (K:=K) (x:=2) (by omega) hr;have n1:∀x,∀d∈b0n x (c::R),0<d.n:=by
   intro x d hd;obtain⟨y,hy,rfl⟩:=r2s.1 hd;exact hn y hy
 ·have f1:=w0t cntS (b0n 1 (c::R)) (0,zV,(0,0,())) c1 (n1 1) (t2z _) (by rw[y0d];show 0+_<=_;omega)
  have f2:=w0t cntS (b0n 2 (c::R)) (0,zV,(0,0,())) c2 (n1 2) (t2z _) (by rw[y0d];show 0+_<=_;omega);rw[e4,d1i,d1i];rw[show(f0c cntS (b0n 1 (c::R))).1=tot (c::R)by
   refine f1.trans ?_;rw[j1k hg];show 0+_=_;omega]
  rw[show(f0c cntS (b0n 2 (c::R))).1=cntN (b0n 2 (c::R))by
   refine f2.trans ?_;show 0+_=_;omega]
 ·rw[e3,c1n,q1y]
  have b1:=e1l (ag:=minS) (λh=>by rw[show seq minS maxS=false by kernel_rfl]at h;cases h) c2;have b2:=e1l (ag:=maxS) (λ_=>by kernel_rfl) c2;by_cases h0:(f0c minS (b0n 2 (c::R))).2.1.kind=0
  ·by_cases h1:(f0c maxS (b0n 2 (c::R))).2.1.kind=0
   ·rw[(b1.z h0).1,(b2.z h1).1,a1m]
    omega
   ·obtain⟨d,hd,e⟩:=b2.m h1
    exact absurd ((b1.z h0).2 d hd _ e) h1
  ·obtain⟨d,hd,e⟩:=b1.m h0
   by_cases h1:(f0c maxS (b0n 2 (c::R))).2.1.kind=0
   ·exact absurd ((b2.z h1).2 d hd _ e) h0
   ·exact b2.x (by kernel_rfl) h1 d hd _ e h0
 ·rw[c1n,b1o c2 (n1 2)]
  have b1:=e1l (ag:=minS) (λh=>by rw[show seq minS maxS=false by kernel_rfl]at h;cases h) c2;constructor
  ·intro hz
   by_cases h0:(f0c minS (b0n 2 (c::R))).2.1.kind=0
   ·exact h0
   ·obtain⟨d,hd,e⟩:=b1.m h0
    exact hz d hd _ e
  ·exact λh0=>(b1.z h0).2
 ·have:=(q0t (n1 2)).2
  rw[y0d]at this;exact this
def rowN(r:List Val):Int:=(atI r 1).n
theorem RowP.n {N:Int}{r:List Val}(h:RowP N r):rowN r=N:=by
 obtain⟨k,lo,hi,M,e,_⟩:=h.p;rw[e];rfl
theorem x1l{q:Query}{t s:Term}{g:Graph}{z o:List Cnt}(hz:ZOf (gQ q t s) g z)(ho:OOf (gQ q t s) z o):
  (∀c∈o,c.n=1/\∃N,RowP N c.r/\0<=N/\N<=4000000)/\sm rowN o=((wayS q g).length:Int):=by
 have qI:∀c∈z,RowG c.r:=by
  intro c hc;obtain⟨d,hd,e⟩:=hz.g.r c hc;rw [<-e];exact m2i d hd
 have kI:∀c∈z,RowR 5 c.r/\lSz c.r+6<=bSz z+6:=λc hc=>⟨hz.r c hc,by have:=o0i hc;omega⟩;have qt:tot z=((wayS q g).length:Int):=by
  have h1:tot z=tot (c0o (gQ q t s) g (wayS (gQ q t s) g)):=a2v _ _ z _ (r2f _) hz.g.cf;rw[h1];show tot (c0o (gQ q t s) g (wayS q g))=_;unfold c0o;generalize wayS q g=W
  induction W with
  |nil=>rfl
  |cons w r ih=>rw[List.map_cons,c0v,ih,List.length_cons];dsimp only;omega
 have ou:((wayS q g).length:Int)<=2000*2000:=by
  have h2:∀l:List Cnt,(∀c∈l,c.n<=2000)->tot l<=(l.length:Int)*2000:=by
   intro l
   induction l with
   |nil=>intro _;exact t2z _
   |cons c l ih=>
    intro h;have h3:=ih λd hd=>h d (by simp[hd]);have h4:=h c (by simp);rw[c0v,r2m,Int.natCast_add,Int.add_mul];omega
  have h3:=h2 z λc hc=>(hz.n c hc).2;have h4:=hz.len;have h5:(z.length:Int)*2000<=2000*2000:=by omega
  omega
 have hG:=k1p [0] z;have gT:∀c∈z,0<c.n:=λc hc=>(hz.n c hc).1;have pF:∀l:List Cnt,(∀c∈l,0<c.n)->0<=tot l:=λl h=>by have:=q0t h;omega
 have jJ:∀(p:Cnt->Bool) (l:List Cnt),(∀c∈l,0<c.n)->tot (l.filter p)<=tot l:=by
  intro p l
  induction l with
  |nil=>intro _;exact t2z _
  |cons c l ih=>
   intro h;have h3:=ih λd hd=>h d (by simp[hd]);have h4:=h c (by simp);cases hp:p c with
   |true=>rw[t2j hp,c0v,c0v];omega
   |false=>rw[t2d (by simp[hp]),c0v];omega
 have fD:outs (gQ q t s) z=(grp [0] z).1.map λnm=>Cnt.mk (d0g (gQ q t s) [0] [1,2,3,4] (b0y [0] z nm)) 1:=by
  unfold outs;rw[m2o,q2n,q2a,u2a];show(bif false then _ else _)=_
  rw[u2b];refine List.map_congr_left λnm _=>?_;rw[hG.m]
 have cB:∀nm∈(grp [0] z).1,RowP (tot (b0y [0] z nm)) (d0g (gQ q t s) [0] [1,2,3,4] (b0y [0] z nm))/\c2u [atI (d0g (gQ q t s) [0] [1,2,3,4] (b0y [0] z nm)) 0]=nm:=by
  intro nm gV;obtain⟨c,hc,e⟩:=(hG.i nm).1 gV;have aS:∀d∈b0y [0] z nm,d∈z/\nm=nmC [0] d:=λd hd=>⟨(t2a.1 hd).1,(a0g _ _).1 (t2a.1 hd).2⟩;have dJ:c∈b0y [0] z nm:=t2a.2 ⟨hc,(a0g _ _).2 e.symm⟩;have ht:=jJ (λc=>seq nm (nmC [0] c)) z gT;cases hR:b0y [0] z nm with
  |nil=>rw[hR]at dJ;cases dJ
  |cons d R=>
   rw[hR]at aS;have ht2:tot (d::R)<=4000000:=by
    rw [<-hR];unfold b0y;omega
   have:=t1v (q:=q) (t:=t) (s:=s) (K:=bSz z+6) (c:=d) (R:=R) (λx hx=>qI x (aS x hx).1) (λx hx=>kI x (aS x hx).1) (λx hx=>gT x (aS x hx).1) (by omega);refine⟨this.1,?_⟩;rw[this.2,(aS d (by simp)).2];rfl
 have l5:∀a∈(grp [0] z).1,∀b∈(grp [0] z).1,d0g (gQ q t s) [0] [1,2,3,4] (b0y [0] z a)=d0g (gQ q t s) [0] [1,2,3,4] (b0y [0] z b)->a=b:=by
  intro a ha b hb e;rw [<-(cB a ha).2, <-(cB b hb).2,e]
 constructor
 ·intro c hc
  obtain⟨d,hd,e⟩:=ho.g.r c hc;rw[fD]at hd;obtain⟨nm,gV,rfl⟩:=r2s.1 hd;dsimp only at e;have h1:c.n=cf o c.r:=(s0l ho.g.cb.1 hc).symm;rw[ho.g.cf,fD, <-e,n1j (λnm=>d0g (gQ q t s) [0] [1,2,3,4] (b0y [0] z nm)) hG.nd l5 nm gV]at h1;refine⟨h1,tot (b0y [0] z nm),e▸(cB nm gV).1,pF _ λx hx=>gT x (t2a.1 hx).1,?_⟩;have:=jJ (λc=>seq nm (nmC [0] c)) z gT;unfold b0y;omega
 ·rw[a2v rowN _ o _ (r2f _) ho.g.cf,fD, <-qt, <-k1n [0] (grp [0] z).1 hG.nd z λc hc=>(hG.i _).2 ⟨c,hc,rfl⟩]
  have key:∀l:List Bt,(∀nm∈l,nm∈(grp [0] z).1)->sm rowN (l.map λnm=>Cnt.mk (d0g (gQ q t s) [0] [1,2,3,4] (b0y [0] z nm)) 1)=sumL (l.map λs=>tot (b0y [0] z s)):=by
   intro l
   induction l with
   |nil=>intro _;rfl
   |cons a l ih=>
    intro h;rw[r2k,r2k,sm,sumL,ih λb hb=>h b (by simp[hb])];dsimp only;rw[(cB a (h a (by simp))).1.n];omega
  exact key _ λ_ h=>h
theorem a2s{ρ:Type}(n:Nat)(kr:Bool×Unit->Option ρ)(i:Int)(c:Cnt)(l:List Y2)(a:Int)(hc:c.n=1){N:Int}(h:RowP N c.r)(h0:0<=N)(hN:N<=4000000)(ha:0<=a/\a<=100000000000)(hr:∀v∈c.r,Right v 1)(hK:lSz c.r+6<=n)(rec:(Y25×Int×Unit)->Option ρ):
  i0p n kr i c (l,a,()) rec=rec (l,a+N,()):=by
 obtain⟨k,lo,hi,M,e,h1,h2,h3⟩:=h.p;have jM:lo∈c.r:=by rw[e];simp
 have hs:=i0t jM;have hM:(!(((M:Int)==0)==((lo.kind:Int)==0)))=false:=by
  cases hm:(M:Int)==0 with
  |true=>
   have:=h2.1 (by simpa using hm);rw[this];rfl
  |false=>
   have h4:lo.kind≠0:=λh=>by
    rw[h2.2 h]at hm;cases hm
   rw[show((lo.kind:Int)==0)=false by simpa using h4];rfl
 unfold i0p;dsimp only;rw[hc,e];rw[show(((1:Int) !=1) || ((([k,numV N,lo,hi,numV M].length:Nat):Int) !=5))=false from rfl,u2b]
 rw[show ix [k,numV N,lo,hi,numV M] 1=some (numV N)from rfl,show ix [k,numV N,lo,hi,numV M] 2=some lo from rfl,show ix [k,numV N,lo,hi,numV M] 3=some hi from rfl,show ix [k,numV N,lo,hi,numV M] 4=some (numV M)from rfl]
 simp only[q2u,Val.eta];rw[j0a lo hi n (b0i (hr lo jM)) (by omega),q2u];dsimp only;rw[decide_eq_false (by omega),u2b];rw[show(numV M).n=M from rfl,show(numV N).n=N from rfl,hM,u2b,decide_eq_false (by omega),u2b,a0f (by omega) (by omega)]
theorem l1f{ρ:Type}(n:Nat)(kr:Bool×Unit->Option ρ)(l:List Y2)(K:(Y25×Int×Unit)->Option ρ):∀(o:List Cnt) (i a:Int),(∀c∈o,c.n=1/\∃N,RowP N c.r/\0<=N/\N<=4000000)->(∀c∈o,(∀v∈c.r,Right v 1)/\lSz c.r+6<=n)->0<=a->a+4000000*(o.length:Int)<=100000000000->
  a0b (i0p n kr) K i o (l,a,())=K (l,a+sm rowN o,())
 |[],i,a,h,hr,h0,hb=>by rw[a0b,sm,Int.add_zero]
 |c::o,i,a,h,hr,h0,hb=>by
  rw[r2m]at hb;obtain⟨h1,N,h2,h3,h4⟩:=h c (by simp);obtain⟨h5,h6⟩:=hr c (by simp);rw[a0b,a2s n kr i c l a h1 h2 h3 h4 (by omega) h5 h6,l1f n kr l K o (i+1) (a+N) (λd hd=>h d (by simp[hd])) (λd hd=>hr d (by simp[hd])) (by omega) (by omega),sm,h1,h2.n,Int.one_mul,Int.add_assoc]
theorem AskGroups_ok{q:Query}{g:Graph}{s:Term}(hg:gOk g)(ht:∀t∈q.wher,tOk t)(hi:∀x∈q.items,tOk x.t)(hs:tOk s):∃N,∀n,N<=n->q30z n (q,g,s,())=some (true,()):=by
 obtain⟨N1,hm⟩:=c2j;have early:∀n,N1<=n->∀e:Int,c0t n (q,g,())=some ([],e,())->e≠0->q30z n (q,g,s,())=some (true,()):=by
  intro n hn e he h0;unfold q30z;dsimp only;rw[he,q2u];dsimp only;rw[hm n hn,q2u];dsimp only;rw[show(e !=0)=true by simpa[bne]using h0,t2c,s2o,u2a,q2u]
 by_cases hq:chkQ q=0
 ·by_cases hc:chkG g=0
  ·have hG:GOk g:=⟨hg,hc⟩
   obtain⟨⟨fh,n9⟩,_⟩:=y0a hq;obtain⟨N2,bA⟩:=q1n hG hq ht;by_cases hl:(wayS q g).length<=2000
   ·obtain⟨x,its,ex⟩:∃x its,q.items=x::its:=by
     cases he:q.items with
     |nil=>rw[he]at fh;simp at fh
     |cons x its=>exact⟨x,its,rfl⟩
    have qz:tOk x.t:=hi x (by rw[ex];simp);have start:∀n,N1+N2<=n->q30z n (q,g,s,())=(g0m n (gQ q x.t s,g,())).bind λy=>bif (y.2.1:Int) !=0 then some (true,())else a0a (λnb=>y0p n nb (λ(v34,v35,_)=>some ((v35:Int)==(v34.length:Int),())) (λ(v36,_)=>some (v36,()))) (n) (i0j ltLL (wayS q g),0,y.1,(y.1.length:Int),0,()):=by
     intro n hn;unfold q30z;dsimp only;rw[bA n (by omega),decide_eq_true hl,u2a,q2u];dsimp only;rw[hm n (by omega),q2u];dsimp only;rw[decide_eq_false (by omega),show(((!true) || ((0:Int) !=0)) || false)=false from rfl,u2b]
     unfold q65z;rw[ex,show ix (x::its) 0=some x from rfl,q2u,q2u]
     dsimp only;simp only[Val.eta,Term.eta];rfl
    by_cases mO:chkQ (gQ q x.t s)=0
    ·have qC:∀y∈(gQ q x.t s).items,tOk y.t:=by
      intro y hy;have hy:y∈s1s x.t s:=hy;unfold s1s at hy;simp only[r2g,List.not_mem_nil,or_false]at hy;rcases hy with rfl|rfl|rfl|rfl|rfl
      ·exact qz
      ·simp[tOk,tOks,vOk,vOks,wfI,maxLen]
       decide
      ·exact hs
      ·exact hs
      ·exact hs
     obtain⟨z,o,hz,ho,N3,h3⟩:=d2s (q:=gQ q x.t s) hG mO ht qC hl;obtain⟨h4,h5⟩:=x1l hz ho;refine⟨N1+N2+N3+bSz o+10000,λn hn=>?_⟩;rw[start n (by omega),h3 n (by omega),q2u];dsimp only;rw[show((0:Int) !=0)=false from rfl,u2b,show fin (gQ q x.t s) o=o from rfl]
     have iB:=ho.len;rw[x1d n _ _ o n _ _ (by omega) (by omega)];rw[l1f n _ _ _ o 0 0 h4 (λc hc=>⟨(ho.r c hc).2,by have:=o0i hc;omega⟩) (t2z _) (by omega)];dsimp only;rw[h5,o0w,Int.zero_add,beq_self_eq_true]
    ·refine⟨N1+N2+400,λn hn=>?_⟩
     rw[start n (by omega),c2a (gQ q x.t s) g n (by omega) mO,q2u];dsimp only;rw[show(chkQ (gQ q x.t s) !=0)=true by simpa[bne]using mO,u2a]
   ·refine⟨N1+N2,λn hn=>early n (by omega) 10 ?_ (by omega)⟩
    rw[bA n (by omega),decide_eq_false hl,u2b]
  ·exact⟨N1+400,λn hn=>early n (by omega) (chkG g) (a2z q g n (by omega) hq hc) hc⟩
 ·exact⟨N1+400,λn hn=>early n (by omega) (chkQ q) (a2b q g n (by omega) hq) hq⟩
end Pure.Ak

import Derived.Test.YtnaeiccibhdknaaGreatDoorPBX
set_option linter.unusedSimpArgs false
set_option linter.unusedVariables false
noncomputable section
namespace Pure.Ak
open Esp Ev Go
def push(rw:List Int->List Val)(s:List Cnt×Int)(w:List Int):List Cnt×Int:=(if s.2+1<=2000 then s.1++ [Cnt.mk (rw w) 1]else s.1,s.2+1)
def b0c(rw:List Int->List Val)(s:List Cnt×Int)(W:List Y2):List Cnt×Int:=W.foldl (push rw) s
theorem i0z(rw:List Int->List Val)(s:List Cnt×Int)(V W:List Y2):b0c rw s (V++W)=b0c rw (b0c rw s V) W:=List.foldl_append
structure POk(s:List Cnt×Int)(m:Nat):Prop where
 a:(s.1.length:Int)<=2000
 b:(s.1.length:Int)<=s.2
 c:s.2+m<=1000000000000000000
theorem POk.le {s:List Cnt×Int}{m k:Nat}(h:POk s m)(hk:k<=m):POk s k:=⟨h.a,h.b,by have:=h.c;omega⟩
theorem POk.one {rw:List Int->List Val}{s:List Cnt×Int}{w:List Int}{m:Nat}(h:POk s (m+1)):POk (push rw s w) m:=by
 have a:=h.a;have b:=h.b;have c:=h.c;unfold push;refine⟨?_,?_,?_⟩<;>dsimp only<;>(try split)<;>(try simp only[List.length_append,List.length_singleton])<;>omega
theorem POk.many {rw:List Int->List Val}:∀(V:List Y2) {s:List Cnt×Int} {m:Nat},POk s (V.length+m)->POk (b0c rw s V) m
 |[],s,m,h=>h.le (by omega)
 |w::r,s,m,h=>POk.many r (POk.one (h.le (by simp;omega)))
theorem POk.l {s:List Cnt×Int}{V W:List Y2}(h:POk s (V++W).length):POk s V.length:=h.le (by simp)
theorem POk.r {rw:List Int->List Val}{s:List Cnt×Int}{V W:List Y2}(h:POk s (V++W).length):POk (b0c rw s V) W.length:=POk.many V (by rw[r2t]at h;exact h)
theorem c1a(rw:List Int->List Val):∀(W:List Y2) (s:List Cnt×Int),(b0c rw s W).2=s.2+W.length
 |[],s=>by simp[b0c]
 |w::r,s=>by
  have:=c1a rw r (push rw s w);rw[show b0c rw s (w::r)=b0c rw (push rw s w) r from rfl,this,r2w]
  unfold push;dsimp only;omega
theorem v0e(rw:List Int->List Val):∀(W:List Y2) (s:List Cnt×Int),s.2+W.length<=2000->(b0c rw s W).1=s.1++W.map (λw=>Cnt.mk (rw w) 1)
 |[],s,h=>by simp[b0c]
 |w::r,s,h=>by
  rw[r2w]at h;have e:push rw s w=(s.1++ [Cnt.mk (rw w) 1],s.2+1):=by unfold push;rw[if_pos (by omega)]
  have:=v0e rw r (push rw s w) (by rw[e];dsimp only;omega);rw[show b0c rw s (w::r)=b0c rw (push rw s w) r from rfl,this,e]
  simp
abbrev j1m:=Int×Y0×Y2×Y5×Unit×Y3×Y4×Unit×Unit->Option Y13
def WOk(q:Query)(g:Graph)(R:List Y7)(rw:List Int->List Val)(self:j1m)(k:Nat)(ds es:List Int)(W:List Y2):Prop:=
 ∀(f:List Int) (s:List Cnt×Int),Agr q.dots.length k ds es f->POk s W.length->∃f',Agr q.dots.length k ds es f' /\
  self ((k:Int),(q,g,R,()),f,(s.2,()),(),s.1,(q,()),(),())=some ((q,g,R,()),f',((b0c rw s W).2,()),(),(b0c rw s W).1,(q,()),(),())
theorem d0l{ρ:Type}(q:Query)(g:Graph)(R:List Y7)(rw:List Int->List Val)(self:j1m)(n:Nat)
  (k:Nat)(h1:1<=k)(hk:k<q.dots.length)(hN:q.dots.length<=1000)(a:Ev.Arrow)(fr tg:Int)(v83:List Ev.Node)(v84 v85:Int)(ds es:List Int)(Wn:Int->List Y2):
  ∀(l:List Edg) (i:Int),(∀y∈l,okE a fr tg y=true->WOk q g R rw self (k+1) ds (es++ [y.id]) (Wn y.id))-> ∀(f:List Int) (s:List Cnt×Int),Mid q.dots.length k ds es f->POk s ((((l.filter (okE a fr tg)).map Edg.id).flatMap Wn).length)->
   ∃f',Mid q.dots.length k ds es f' /\∀(kr:Unit->Option ρ) (K:Y23->Option ρ),a0b (j0q self n kr) K i l ((k:Int),(q.dots.length:Int),fr,tg,v83,v84,v85,(a,()),(q,g,R,()),(s.2,()),(),s.1,(q,()),(),f,())
    =K ((k:Int),(q.dots.length:Int),fr,tg,v83,v84,v85,(a,()),(q,g,R,()),((b0c rw s (((l.filter (okE a fr tg)).map Edg.id).flatMap Wn)).2,()),(),(b0c rw s (((l.filter (okE a fr tg)).map Edg.id).flatMap Wn)).1,(q,()),(),f',())
 |[],i,hw,f,s,hm,hs=>⟨f,hm,λkr K=>by rw[a0b];rfl⟩
 |y::r,i,hw,f,s,hm,hs=>by
  by_cases hy:okE a fr tg y=true
  ·have hL:f[q.dots.length+k - 1]? ≠none:=by
    rw[Ne,List.getElem?_eq_none_iff,hm.len];omega
   obtain⟨z,hz⟩:=Option.ne_none_iff_exists'.1 hL;rw[List.filter_cons_of_pos hy,r2z,s2o]at hs;obtain⟨f1,a1,e1⟩:=hw y (by simp) hy (f.set (q.dots.length+k - 1) y.id) s (hm.edge h1 hk y.id) hs.l;obtain⟨f2,a2,e2⟩:=d0l (ρ:=ρ) q g R rw self n k h1 hk hN a fr tg v83 v84 v85 ds es Wn r (i+1) (λx hx=>hw x (by simp[hx])) f1 (b0c rw s (Wn y.id)) (a1.mid h1 hk) hs.r;refine⟨f2,a2,λkr K=>?_⟩;have e2:=e2 kr K;rw[List.filter_cons_of_pos hy,r2z,s2o,i0z];rw[a0b];unfold j0q at e2⊢;unfold okE at hy;dsimp only;rw[hy,u2j,a0f (x:=(q.dots.length:Int)+k) (by omega) (by omega),a0f (x:=(q.dots.length:Int)+k - 1) (by omega) (by omega),show((q.dots.length:Int)+k - 1)=((q.dots.length+k - 1:Nat):Int)by omega,a0r hz,Int.toNat_natCast,hz];simp only[r2g,e0z,e0x,y0u];rw[a0f (by omega) (by omega),show((k:Int)+1)=((k+1:Nat):Int)by omega,e1,r2g];exact e2
  ·have dS:okE a fr tg y=false:=by simpa using hy
   rw[List.filter_cons_of_neg hy]at hs;obtain⟨f2,a2,e2⟩:=d0l (ρ:=ρ) q g R rw self n k h1 hk hN a fr tg v83 v84 v85 ds es Wn r (i+1) (λx hx=>hw x (by simp[hx])) f s hm hs;refine⟨f2,a2,λkr K=>?_⟩;have e2:=e2 kr K;rw[List.filter_cons_of_neg hy];rw[a0b];unfold j0q at e2⊢;unfold okE at dS;dsimp only;rw[dS,u2k];exact e2
def BOk(q:Query)(g:Graph)(R:List Y7)(rw:List Int->List Val)(self:j1m)(k:Nat)(ds es:List Int)(x:Int)(W:List Y2):Prop:=
 (k=0/\WOk q g R rw self 1 (ds++ [x]) es W)\/
 (1<=k/\∃a ks last Wn,q.arrows[k - 1]?=some a/\(a.many=true->R[k - 1]?=some (tr ks))/\ds[k - 1]?=some last/\W=(k0h g a ks last x).flatMap Wn/\∀e∈k0h g a ks last x,WOk q g R rw self (k+1) (ds++ [x]) (es++ [e]) (Wn e))
theorem j0p{ρ:Type}(q:Query)(g:Graph)(R:List Y7)(rw:List Int->List Val)(self:j1m)(n:Nat)(hn:1100<=n)
  (kx:Y0×Y5×Unit×Y3×Y4×Unit×Y2×Unit->Option ρ)(kr:Unit->Option ρ)
  (k:Nat)(hk:k<q.dots.length)(hN:q.dots.length<=1000)(d:Ev.Dot)(hd:q.dots[k]?=some d)(ds es:List Int)(dY:ds.length=k)
  (bX:g.nodes.length<=40)(bQ:g.edges.length<=60)(bF:∀x∈g.nodes,x.labels.length<=100)(Wx:Ev.Node->List Y2)
  (hb:∀x∈g.nodes,(dotB d x&&fitL (q.dots.take k) ds d.name x.id)=true->BOk q g R rw self k ds es x.id (Wx x)):
  ∀(r p:List Ev.Node),g.nodes=p++r->∀(f:List Int) (s:List Cnt×Int) (fuel:Nat),Agr q.dots.length k ds es f->POk s ((r.flatMap λx=>bif dotB d x&&fitL (q.dots.take k) ds d.name x.id then Wx x else []).length)->r.length<fuel->
   ∃f',Agr q.dots.length k ds es f' /\a0a (λrc=>l0g self n rc kx kr) fuel ((k:Int),(q.dots.length:Int),g.nodes,(g.nodes.length:Int),(p.length:Int),(q,g,R,()),(s.2,()),(),s.1,(q,()),(),f,())
    =kx ((q,g,R,()),((b0c rw s (r.flatMap λx=>bif dotB d x&&fitL (q.dots.take k) ds d.name x.id then Wx x else [])).2,()),(),(b0c rw s (r.flatMap λx=>bif dotB d x&&fitL (q.dots.take k) ds d.name x.id then Wx x else [])).1,(q,()),(),f',())
 |[],p,hp,f,s,fuel,ha,hs,hf=>by
  obtain⟨m,rfl⟩:∃m,fuel=m+1:=⟨fuel - 1,by omega⟩;refine⟨f,ha,?_⟩;rw[a0a];unfold l0g;dsimp only;rw[decide_eq_false (by rw[hp];simp),u2k];rfl
 |x::r,p,hp,f,s,fuel,ha,hs,hf=>by
  obtain⟨m,rfl⟩:∃m,fuel=m+1:=⟨fuel - 1,by omega⟩;have kh:x∈g.nodes:=by rw[hp];simp
  have hx:g.nodes[p.length]?=some x:=by rw[hp];simp
  have aJ:p.length<g.nodes.length:=(r2p.1 hx).1;have bS:k<f.length:=by rw[ha.len];omega
  obtain⟨z,hz⟩:∃z,f[k]?=some z:=⟨f[k],by simp[bS]⟩;have hmid:=ha.dot hk x.id;have hf1:(f.set k x.id)[k]?=some x.id:=by simp[bS]
  have ku:(f.set k x.id).take k=ds:=by rw[List.take_set_of_le (r2q k),ha.d]
  have IH:=λf s=>j0p q g R rw self n hn kx kr k hk hN d hd ds es dY bX bQ bF Wx hb r (p++ [x]) (by rw[hp];simp) f s m;rw[r2t,s2y,Int.natCast_add]at IH;have dE:r.length<m:=by simp at hf;omega
  have hw:wI ((p.length:Int)+1)=(p.length:Int)+1:=a0f (by omega) (by omega);rw[s2o]at hs;rw[s2o,a0a];generalize a0a (λrc=>l0g self n rc kx kr) m=I at IH⊢;have two:∀b:Bool,b=false\/b=true:=by decide
  unfold l0g;dsimp only;rw[decide_eq_true (by omega),u2j,a0r hx,r2g];simp only[e0z,e0x,t1n];rw[e2c q g R n k d x hd (bF x kh) (by omega),r2g];dsimp only;rcases two (dotB d x)with dR|dR
  ·rw[dR,u2i,u2k,s2m]at hs
   obtain⟨f2,a2,e2⟩:=IH f s ha hs dE;refine⟨f2,a2,?_⟩;rw[dR,t2m,u2j,hw,u2i,u2k,s2m];exact e2
  ·rw[dR,s2l,u2k,a0r hz,r2g,Int.toNat_natCast,hz,r2g,r1f n q g R k (by omega) d hd _ x.id hf1 hn,r2g,ku]
   dsimp only;rcases two (fitL (q.dots.take k) ds d.name x.id)with fy|fy
   ·rw[dR,fy,t2k,u2k,s2m]at hs
    obtain⟨f2,a2,e2⟩:=IH (f.set k x.id) s (hmid.back hk) hs dE;refine⟨f2,a2,?_⟩;rw[fy,t2m,u2j,hw,t2k,u2k,s2m];exact e2
   ·rw[dR,fy,t2k,u2j]at hs
    rw[fy,s2l,u2k,t2k,u2j,i0z];have hB:=hb x kh (by rw[dR,fy];rfl);rcases hB with⟨dU,hW⟩| ⟨b6,a,ks,last,Wn,ea,eR,el,eW,hW⟩
    ·subst dU
     obtain⟨f1,a1,e1⟩:=hW (f.set 0 x.id) s ⟨hmid.len,hmid.d,hmid.e⟩ hs.l;have a1' :Mid q.dots.length 0 (ds++ [x.id]) es f1:=⟨a1.len,a1.d,a1.e⟩;obtain⟨f2,a2,e2⟩:=IH f1 (b0c rw s (Wx x)) (a1'.back hk) hs.r dE;refine⟨f2,a2,?_⟩;rw[show(((0:Nat):Int)==0)=true from rfl,u2j]
     rw[show(((1:Nat):Int))=1 from rfl]at e1
     rw[e1,r2g];rw[hw];exact e2
    ·have bW:(f.set k x.id)[k - 1]?=some last:=by
      have:=congrArg (λl:List Int=>l[k - 1]?) hmid.d;replace this:((f.set k x.id).take (k+1))[k - 1]?=(ds++ [x.id])[k - 1]?:=this;rw[List.getElem?_take_of_lt (by omega),s2w (by omega),el]at this;exact this
     have jN:wI ((k:Int) - 1)=((k - 1:Nat):Int):=by rw[a0f (by omega) (by omega)];omega
     have jY:wI (wI ((q.dots.length:Int)+k) - 1)=((q.dots.length+k - 1:Nat):Int):=by rw[a0f (x:=(q.dots.length:Int)+k) (by omega) (by omega),a0f (by omega) (by omega)];omega
     have eF:wI ((k:Int)+1)=((k+1:Nat):Int):=by rw[a0f (by omega) (by omega)];omega
     have dU:((k:Int)==0)=false:=by rw[beq_eq_false_iff_ne];omega
     obtain⟨zE,eP⟩:∃z,(f.set k x.id)[q.dots.length+k - 1]?=some z:=by
      have:q.dots.length+k - 1<(f.set k x.id).length:=by rw[hmid.len];omega
      exact⟨_,r2k this⟩
     unfold k0h at eW hW;rw[dU,u2k,jN,a0r ea,r2g,a0r bW,r2g,Int.toNat_natCast,bW,r2g];simp only[y0u];rcases two a.back with cA|cA<;>rcases two a.many with cF|cF<;>rw[cA]at eW hW<;>simp only[u2j,u2k]at eW hW<;>unfold r0w at eW hW<;>rw[cF]at eW hW<;>simp only[u2j,u2k]at eW hW
     ·obtain⟨f1,a1,e1⟩:=d0l q g R rw self n (ρ:=ρ) k b6 hk hN a last x.id g.nodes (g.nodes.length:Int) (p.length:Int) (ds++ [x.id]) es Wn g.edges 0 (λy hy bY=>hW _ (s2c.2 ⟨y,t2s.2 ⟨hy,bY⟩,rfl⟩)) (f.set k x.id) s hmid (by rw [<-eW];exact hs.l)
      obtain⟨f2,a2,e2⟩:=IH f1 (b0c rw s (Wx x)) (a1.back hk) hs.r dE;refine⟨f2,a2,?_⟩;rw[cA,u2k,cF,u2k];rw[a1t self n _ _ g.edges n _ _ _ _ _ _ _ _ _ _ _ _ _ _ _ (by omega) (by omega)];rw [<-eW]at e1;rw[e1];dsimp only;rw[hw];exact e2
     ·by_cases aX:Ev.Pair.mk last x.id∈ks
      ·rw[decide_eq_true aX]at eW hW
       simp only[u2j,s2o,List.flatMap_nil,s2a]at eW;obtain⟨f1,a1,e1⟩:=hW 0 (by simp) ((f.set k x.id).set (q.dots.length+k - 1) 0) s (hmid.edge b6 hk 0) (by rw [<-eW];exact hs.l);obtain⟨f2,a2,e2⟩:=IH f1 (b0c rw s (Wx x)) ((a1.mid b6 hk).back hk) hs.r dE;refine⟨f2,a2,?_⟩;rw[cA,u2k,cF,u2j];rw[a0r (eR cF),r2g,m0s,decide_eq_true aX,u2j,jY,a0r eP,r2g,Int.toNat_natCast,eP,r2g,eF,e1,r2g,hw, <-eW];exact e2
      ·rw[decide_eq_false aX]at eW
       simp only[u2k,List.flatMap_nil]at eW;obtain⟨f2,a2,e2⟩:=IH (f.set k x.id) s (hmid.back hk) (by rw[eW,s2m]at hs;exact hs) dE;refine⟨f2,a2,?_⟩;rw[cA,u2k,cF,u2j];rw[a0r (eR cF),r2g,m0s,decide_eq_false aX,u2k,hw,eW];exact e2
     ·obtain⟨f1,a1,e1⟩:=d0l q g R rw self n (ρ:=ρ) k b6 hk hN a x.id last g.nodes (g.nodes.length:Int) (p.length:Int) (ds++ [x.id]) es Wn g.edges 0 (λy hy bY=>hW _ (s2c.2 ⟨y,t2s.2 ⟨hy,bY⟩,rfl⟩)) (f.set k x.id) s hmid (by rw [<-eW];exact hs.l)
      obtain⟨f2,a2,e2⟩:=IH f1 (b0c rw s (Wx x)) (a1.back hk) hs.r dE;refine⟨f2,a2,?_⟩;rw[cA,u2j,cF,u2k];rw[a1t self n _ _ g.edges n _ _ _ _ _ _ _ _ _ _ _ _ _ _ _ (by omega) (by omega)];rw [<-eW]at e1;rw[e1];dsimp only;rw[hw];exact e2
     ·by_cases aX:Ev.Pair.mk x.id last∈ks
      ·rw[decide_eq_true aX]at eW hW
       simp only[u2j,s2o,List.flatMap_nil,s2a]at eW;obtain⟨f1,a1,e1⟩:=hW 0 (by simp) ((f.set k x.id).set (q.dots.length+k - 1) 0) s (hmid.edge b6 hk 0) (by rw [<-eW];exact hs.l);obtain⟨f2,a2,e2⟩:=IH f1 (b0c rw s (Wx x)) ((a1.mid b6 hk).back hk) hs.r dE;refine⟨f2,a2,?_⟩;rw[cA,u2j,cF,u2j];rw[a0r (eR cF),r2g,m0s,decide_eq_true aX,u2j,jY,a0r eP,r2g,Int.toNat_natCast,eP,r2g,eF,e1,r2g,hw, <-eW];exact e2
      ·rw[decide_eq_false aX]at eW
       simp only[u2k,List.flatMap_nil]at eW;obtain⟨f2,a2,e2⟩:=IH (f.set k x.id) s (hmid.back hk) (by rw[eW,s2m]at hs;exact hs) dE;refine⟨f2,a2,?_⟩;rw[cA,u2j,cF,u2j];rw[a0r (eR cF),r2g,m0s,decide_eq_false aX,u2k,hw,eW];exact e2
def m1p(q:Query)(g:Graph)(R:List Y7)(N0:Nat)(rw:List Int->List Val):Prop:=
 ∀(f:List Int),f.length=2*q.dots.length - 1->AOk g f->∀n,N0<=n->∃y:Envr,q56z n ((q,g,R,()),f,())=some (y,(q,g,R,()),f,())/\c0d n (q,y,())=some (rw f,())
theorem i2g{q:Query}{g:Graph}{R:List Y7}{N0:Nat}{rw:List Int->List Val}(hr:m1p q g R N0 rw)(f:List Int)(s:List Cnt×Int)(hs:POk s 1)(hl:f.length=2*q.dots.length - 1)(hf:AOk g f)(n:Nat)(hn:N0<=n):
  b0q n (f,(s.2,()),(),s.1,(q,()),(),(q,g,R,()),())=some (f,((push rw s f).2,()),(),(push rw s f).1,(q,()),(),(q,g,R,()),()):=by
 obtain⟨y,e1,e2⟩:=hr f hl hf n hn;have ha:=hs.a;have hb:=hs.b;have hc:=hs.c;unfold b0q push;dsimp only;rw[a0f (x:=s.2+1) (by omega) (by omega)];by_cases h:s.2+1<=2000
 ·have hk:room (s.1++ [Cnt.mk (rw f) 1]).length 32=true:=by
   unfold room;rw[r2i];constructor<;>exact r2y (by simp;omega)
  rw[decide_eq_true h,u2j,if_pos h];simp only[e1,e2,r2g,b0v hk,a0p]
 ·rw[decide_eq_false h,u2k,if_neg h]
theorem y0h{q:Query}{g:Graph}{R:List Y7}{N0:Nat}{pass:List Int->Bool}{rw:List Int->List Val}(hp:m0l q g R N0 pass)(hr:m1p q g R N0 rw)(hN:q.dots.length<=100)(h1:1<=q.dots.length)(ds es:List Int)(hd:AOk g ds)(he:AOk g es)(m:Nat)(hm:N0+1<=m):
  WOk q g R rw (q25z m) q.dots.length ds es (finF pass ds es):=by
 intro f s ha hs;obtain⟨n,rfl⟩:∃n,m=n+1:=⟨m - 1,by omega⟩;have ef:f=ds++es:=by
  have e2:=ha.e;rw[List.take_of_length_le (by rw[s2n,ha.len];omega)]at e2;rw [<-ha.d, <-e2,t2z]
 obtain⟨y,ey,ep⟩:=hp f ha.len (by rw[ef];exact hd.app he) n (by omega);refine⟨f,ha,?_⟩;rw[q25z];unfold t0q;dsimp only;rw[show((q.dots.length:Int)==(q.dots.length:Int))=true from beq_self_eq_true _,u2j]
 simp only[e0z,e0x,ey,r2g,f1y,ep,a0p];unfold finF;rw [<-ef];cases nH:pass f with
 |false=>rfl
 |true=>
  unfold finF at hs;rw [<-ef,nH,u2j]at hs;rw[u2j,u2j,i2g hr f s hs ha.len (by rw[ef];exact hd.app he) n (by omega)];rfl
theorem s0e{q:Query}{g:Graph}{R:List Y7}{rw:List Int->List Val}(n:Nat)(hn:1100<=n)(k:Nat)(hk:k<q.dots.length)(hN:q.dots.length<=100)(d:Ev.Dot)(hd:q.dots[k]?=some d)(ds es:List Int)(dY:ds.length=k)
  (bX:g.nodes.length<=40)(bQ:g.edges.length<=60)(bF:∀x∈g.nodes,x.labels.length<=100)(Wx:Ev.Node->List Y2)
  (hb:∀x∈g.nodes,(dotB d x&&fitL (q.dots.take k) ds d.name x.id)=true->BOk q g R rw (q25z n) k ds es x.id (Wx x)):
  WOk q g R rw (q25z (n+1)) k ds es (g.nodes.flatMap λx=>bif dotB d x&&fitL (q.dots.take k) ds d.name x.id then Wx x else []):=by
 intro f s ha hs;rw[q25z];unfold t0q;dsimp only;rw[show((k:Int)==(q.dots.length:Int))=false by rw[beq_eq_false_iff_ne];omega,u2k];obtain⟨f',a',e'⟩:=j0p q g R rw (q25z n) n hn (λ(o164,o165,pg,lr,o168,pt,np,_)=>some (((Query.mk o164.1.dots o164.1.arrows o164.1.wher o164.1.items o164.1.dist),(Graph.mk o164.2.1.nodes o164.2.1.edges o164.2.1.next),o164.2.2.1,()),np,(o165.1,()),(()),lr,((Query.mk o168.1.dots o168.1.arrows o168.1.wher o168.1.items o168.1.dist),()),(()),())) (λ(_)=>none) k hk (by omega) d hd ds es dY bX bQ bF Wx hb g.nodes [] rfl f s n ha hs (by omega);exact⟨f',a',e'⟩
theorem m0w{q:Query}{g:Graph}{R:List Y7}{N0:Nat}{pass:List Int->Bool}{rw:List Int->List Val}(hp:m0l q g R N0 pass)(hr:m1p q g R N0 rw)(hN0:1100<=N0)(hN:q.dots.length<=100)
  (bX:g.nodes.length<=40)(bQ:g.edges.length<=60)(bF:∀x∈g.nodes,x.labels.length<=100):
  ∀(rem:List Y16) (pre:List Ev.Dot) (ar:List Ev.Arrow) (ds es:List Int),q.dots=pre++rem.map (λz=>z.1)->q.arrows=ar++rem.map (λz=>z.2.1)->pre.length=ar.length+1->ds.length=pre.length->AOk g ds->AOk g es->
   (∀j z,rem[j]?=some z->z.2.1.many=true->R[ar.length+j]?=some (tr z.2.2))-> ∀m,N0+1+rem.length<=m->WOk q g R rw (q25z m) pre.length ds es (e0v g (finF pass) rem pre ds es)
 |[],pre,ar,ds,es,h1,h2,h3,h4,h5,h6,h7,m,hm=>by
  have e:pre=q.dots:=by rw[h1];simp
  rw[e0v,e];exact y0h hp hr hN (by rw [<-e];omega) ds es h5 h6 m (by simpa using hm)
 |(d,a,ks)::r,pre,ar,ds,es,h1,h2,h3,h4,h5,h6,h7,m,hm=>by
  obtain⟨n,rfl⟩:∃n,m=n+1:=⟨m - 1,by omega⟩;rw[r2w]at hm;have hl:pre.length<q.dots.length:=by rw[h1];simp
  have ed:q.dots[pre.length]?=some d:=by rw[h1];simp
  have ea:q.arrows[pre.length - 1]?=some a:=by rw[h2,show pre.length - 1=ar.length by omega];simp
  have et:q.dots.take pre.length=pre:=by rw[h1];simp
  have:=s0e (R:=R) (rw:=rw) n (by omega) pre.length hl hN d ed ds es h4 bX bQ bF (λx=>(k0h g a ks (ds.getLast?.getD 0) x.id).flatMap (λe=>e0v g (finF pass) r (pre++ [d]) (ds++ [x.id]) (es++ [e]))) ?_
  ·rw[et]at this
   exact this
  ·intro x hx hc
   refine .inr ⟨by omega,a,ks,ds.getLast?.getD 0,λe=>e0v g (finF pass) r (pre++ [d]) (ds++ [x.id]) (es++ [e]),ea,λhm=>?_,?_,rfl,λe he=>?_⟩
   ·have:=h7 0 (d,a,ks) rfl hm
    rw[show pre.length - 1=ar.length by omega];exact this
   ·rw[show pre.length - 1=ds.length - 1 by omega,List.getLast?_eq_getElem?,r2k (by omega)]
    rfl
   ·have hw:=m0w hp hr hN0 hN bX bQ bF r (pre++ [d]) (ar++ [a]) (ds++ [x.id]) (es++ [e]) (by rw[h1];simp) (by rw[h2];simp) (by simp;omega) (by simp[h4])
     (h5.app (AOk.one (.inl (s2c.2 ⟨x,hx,rfl⟩))))
     (h6.app (AOk.one (.inr (y0s he))))
     (by intro j z hz hm;have:=h7 (j+1) z (by simpa using hz) hm;rw[r2t,s2y,show ar.length+1+j=ar.length+(j+1)by omega];exact this) n (by omega)
    rw[r2t,s2y]at hw;exact hw
theorem x0n{q:Query}{g:Graph}{R:List Y7}{N0:Nat}{pass:List Int->Bool}{rw:List Int->List Val}(hp:m0l q g R N0 pass)(hr:m1p q g R N0 rw)(hN0:1100<=N0)(hN:q.dots.length<=100)
  (bX:g.nodes.length<=40)(bQ:g.edges.length<=60)(bF:∀x∈g.nodes,x.labels.length<=100)(d:Ev.Dot)(rem:List Y16)(h1:q.dots=d::rem.map (λz=>z.1))(h2:q.arrows=rem.map (λz=>z.2.1))
  (h7:∀(j:Nat) (z:Ev.Dot×Ev.Arrow×List Ev.Pair),rem[j]?=some z->z.2.1.many=true->R[j]?=some (tr z.2.2))(m:Nat)(hm:N0+2+rem.length<=m):
  WOk q g R rw (q25z m) 0 [] [] (t0i g (finF pass) d rem):=by
 obtain⟨n,rfl⟩:∃n,m=n+1:=⟨m - 1,by omega⟩;have:=s0e (R:=R) (rw:=rw) n (by omega) 0 (by rw[h1];simp) hN d (by rw[h1];rfl) [] [] rfl bX bQ bF (λx=>e0v g (finF pass) rem [d] [x.id] []) ?_
 ·exact this
 ·intro x hx hc
  refine .inl ⟨rfl,?_⟩;exact m0w hp hr hN0 hN bX bQ bF rem [d] [] [x.id] [] (by rw[h1];rfl) (by rw[h2];rfl) rfl rfl (by intro y hy;rw[s2e]at hy;subst hy;exact .inl (s2c.2 ⟨x,hx,rfl⟩)) (by intro y hy;cases hy)
   (by intro j z hz hm;rw[List.length_nil,s2u];exact h7 j z hz hm) n (by omega)
theorem h2q{b:List Y21}:∀{l:List Ev.Item} {s:List Y21},itF b l s=0->∀x∈l,tchk b x.t 1=0/\hasL aggs x.agg=true
 |[],_,_=>λx hx=>by cases hx
 |i::r,s,h=>by
  rw[itF]at h;cases h1:o0e i.name with
  |false=>rw[h1]at h;cases h
  |true=>
  rw[h1,s2l,u2k]at h;cases h2:hasL aggs i.agg with
  |false=>rw[h2]at h;cases h
  |true=>
  rw[h2,s2l,u2k]at h;cases h3:a0k .str .bool false s i.name with
  |true=>rw[h3]at h;cases h
  |false=>
  rw[h3,u2k]at h;cases h4:tchk b i.t 1 !=0 with
  |true=>rw[h4,u2j]at h;rw[h]at h4;cases h4
  |false=>
  rw[h4,u2k]at h;intro x hx;rcases r2s.1 hx with rfl|hx
  ·exact⟨by simpa using h4,h2⟩
  ·exact h2q h x hx
theorem s0w{q:Query}(h:chkQ q=0):(1<=q.items.length/\q.items.length<=5)/\ ∃b,nmA q.arrows (nmD q.dots [])=some b/\itF b q.items []=0/\∀t∈q.wher,tchk b t 1=0:=by
 have h0:=h;unfold chkQ at h;cases hb:((((decide (((q.dots.length:Int):Int)<1)) || (decide (((q.dots.length:Int):Int) >5))) || (decide (((q.items.length:Int):Int)<1))) || (decide (((q.items.length:Int):Int) >5))) || (decide (((q.wher.length:Int):Int) >1))with
 |true=>rw[hb,u2j]at h;cases h
 |false=>
  rw[hb,u2k]at h;simp only[r2x,decide_eq_false_iff_not]at hb;refine⟨by omega,?_⟩;obtain⟨_,_,_,_,_,b,eb,ew⟩:=k1h h0;refine⟨b,eb,?_,ew⟩;cases h1:(((q.arrows.length:Int):Int) !=(q.dots.length:Int) - 1)with
  |true=>rw[h1]at h;cases h
  |false=>
  rw[h1,u2k]at h;cases h2:q.dots.all dtB with
  |false=>rw[h2]at h;cases h
  |true=>
  rw[h2,s2l,u2k]at h;cases h3:q.arrows.all arB with
  |false=>rw[h3]at h;cases h
  |true=>
  rw[h3,s2l,u2k,eb]at h;dsimp only at h;cases h4:whF b q.wher !=0 with
  |true=>rw[h4,u2j]at h;rw[h]at h4;cases h4
  |false=>rw[h4,u2k]at h;exact h
def rowV(q:Query)(g:Graph)(f:List Int):List Val:=q.items.map λx=>tval g (j0l q g f).at_ x.t
theorem i1n{ρ:Type}(n:Nat)(kr:Unit->Option ρ)(K:Y25×List Val×Unit->Option ρ)(e:Envr)(V:Term->Val):∀(l:List Ev.Item) (i:Int) (o:List Val),(∀x∈l,q74z n (e,x.t,())=some (V x.t,()))->o.length+l.length<=1000->
  a0b (e0t n kr) K i l ((e,()),o,())=K ((e,()),o++l.map (λx=>V x.t),())
 |[],i,o,h,hl=>by rw[a0b,t2u,s2a]
 |x::r,i,o,h,hl=>by
  rw[r2w]at hl;rw[a0b];unfold e0t;dsimp only;rw[Term.eta2,h x (by simp),r2g];dsimp only;rw[Val.eta,b0v (e0c (by simp;omega) (by omega))];have ih:=i1n n kr K e V r (i+1) (o++ [V x.t]) (λy hy=>h y (by simp[hy])) (by simp;omega);unfold e0t at ih;rw[ih,r2z,s2t];rfl
theorem l2c(q:Query)(e:Envr)(V:Term->Val)(n:Nat)(h:∀x∈q.items,q74z n (e,x.t,())=some (V x.t,()))(hl:q.items.length<=100)(hn:200<=n):c0d n (q,e,())=some (q.items.map (λx=>V x.t),()):=by
 unfold c0d;dsimp only;rw[b1b n _ _ q.items n _ _ (by omega) (by omega),i1n n _ _ e V q.items 0 [] h (by simp;omega)];rfl
theorem at_f{q:Query}{g:Graph}(hg:GOk g){f:List Int}(hf:AOk g f):atOk (j0l q g f).at_:=by
 have jA:∀x∈f,wfI .i64 x:=by
  intro x hx;rcases hf x hx with h|h|h
  ·obtain⟨y,hy,rfl⟩:=s2c.1 h
   exact(hg.ok.1.2 y hy).1
  ·obtain⟨y,hy,rfl⟩:=s2c.1 h
   exact(hg.ok.2.1.2 y hy).1
  ·rw[h];unfold wfI;decide
 exact g1u _ _ _ (λx hx=>jA x (List.mem_of_mem_drop hx)) (g1j _ _ _ jA (λp hp=>by cases hp))
theorem q1h{q:Query}{g:Graph}(hg:GOk g)(b:List Y21)(ht:∀x∈q.items,tOk x.t)(hc:∀x∈q.items,tchk b x.t 1=0)(hl:q.items.length<=100)(hN:q.dots.length<=100)(ha:q.arrows.length+1=q.dots.length):
  (∃N0,∀R,m1p q g R N0 (rowV q g))/\ ∀f,AOk g f->∀v∈rowV q g f,Right v 1:=by
 constructor
 ·have hA:∀f,AOk g f->∃N,∀n,N<=n->∀x∈q.items,q74z n (j0l q g f,x.t,())=some (tval g (j0l q g f).at_ x.t,()):=by
   intro f hf;exact m1t q.items λx h=>(z0e hg (at_f hg hf) b x.t 1 (ht x h) (hc x h)).1
  obtain⟨N1,h1⟩:=m1t (p:=λn (f:List Int)=>AOk g f->∀x∈q.items,q74z n (j0l q g f,x.t,())=some (tval g (j0l q g f).at_ x.t,()))
   (allF (g.nodes.map Ev.Node.id++(g.edges.map Edg.id++ [0])) (2*q.dots.length - 1)) (λf _=>by
    by_cases hf:AOk g f
    ·obtain⟨N,h⟩:=hA f hf
     exact⟨N,λn hn _=>h n hn⟩
    ·exact⟨0,λn _ h=>absurd h hf⟩)
  refine⟨N1+1100,λR f n9 hf n hn=>⟨j0l q g f,w1r q g R f hN ha n9 n (by omega),?_⟩⟩;have hm:=v0k (g.nodes.map Ev.Node.id++(g.edges.map Edg.id++ [0])) f λx hx=>by
   rcases hf x hx with h|h|h
   ·exact List.mem_append_left _ h
   ·exact List.mem_append_right _ (List.mem_append_left _ h)
   ·rw[h];simp
  rw[n9]at hm;exact l2c q _ (tval g (j0l q g f).at_) n (h1 n (by omega) f hm hf) hl (by omega)
 ·intro f hf v hv
  obtain⟨x,hx,rfl⟩:=s2c.1 hv;exact(z0e hg (at_f hg hf) b x.t 1 (ht x hx) (hc x hx)).2
theorem q0a{α β:Type}(f:α->List β)(b:Nat):∀(l:List α),(∀x∈l,(f x).length<=b)->(l.flatMap f).length<=l.length*b
 |[],_=>by simp
 |x::r,h=>by
  rw[s2o,r2t,r2w,t2w,Nat.one_mul];have h1:=h x (by simp);have h2:=q0a f b r λy hy=>h y (by simp[hy]);omega
theorem b2v{g:Graph}(bQ:g.edges.length<=60)(a:Ev.Arrow)(ks:List Ev.Pair)(x y:Int):(k0h g a ks x y).length<=60:=by
 have key:∀fr tg,(r0w g a ks fr tg).length<=60:=by
  intro fr tg;unfold r0w;cases a.many with
  |true=>
   rw[u2j];cases decide (Ev.Pair.mk fr tg∈ks)<;>simp
  |false=>
   rw[u2k,s2k];exact t2p (List.length_filter_le _ _) bQ
 unfold k0h;cases a.back with
 |true=>exact key _ _
 |false=>exact key _ _
theorem b1m{g:Graph}(bX:g.nodes.length<=40)(bQ:g.edges.length<=60)(pass:List Int->Bool):∀(rem:List Y16) (pre:List Ev.Dot) (ds es:List Int),(e0v g (finF pass) rem pre ds es).length<=2400 ^ rem.length
 |[],pre,ds,es=>by
  rw[e0v];unfold finF;cases pass (ds++es)<;>simp
 |(d,a,ks)::r,pre,ds,es=>by
  rw[e0v,r2w,Nat.pow_succ];refine t2p (q0a _ (60*2400 ^ r.length) _ λx hx=>?_) ?_
  ·cases dotB d x&&fitL pre ds d.name x.id with
   |false=>rw[u2k];simp
   |true=>
    rw[u2j];refine t2p (q0a _ (2400 ^ r.length) _ λe he=>b1m bX bQ pass r _ _ _) ?_;exact t2b _ (b2v bQ a ks _ _)
  ·have:=t2b (60*2400 ^ r.length) bX
   generalize 2400 ^ r.length=z at*;omega
theorem l1n{g:Graph}(bX:g.nodes.length<=40)(bQ:g.edges.length<=60)(pass:List Int->Bool)(d:Ev.Dot)(rem:List Y16)(hr:rem.length<=4):(t0i g (finF pass) d rem).length<=1400000000000000:=by
 unfold t0i;refine t2p (q0a _ (2400 ^ 4) _ λx hx=>?_) ?_
 ·cases dotB d x&&fitL [] [] d.name x.id with
  |false=>rw[u2k];simp
  |true=>
   rw[u2j];exact t2p (b1m bX bQ pass rem _ _ _) (Nat.pow_le_pow_right (by omega) hr)
 ·have:=t2b (2400 ^ 4) bX
  omega
def d0j(q:Query)(g:Graph)(W:List Y2):List Cnt:=W.map λw=>Cnt.mk (rowV q g w) 1
theorem i2t{q:Query}{g:Graph}(hg:GOk g)(hq:chkQ q=0)(hw:∀t∈q.wher,tOk t)(hi:∀x∈q.items,tOk x.t):∃N,∀n,N<=n->
  h0t n (q,g,())=bif decide ((h0o n q g (p0s q g)).length<=2000)then(a1o n (d0j q g (h0o n q g (p0s q g)),())).bind λz=>(h0u n (q,z.1,())).bind λy=>some (y.1,0,())else some ([],10,()):=by
 obtain⟨⟨h1,h5⟩,k4,ha,ir,har,_⟩:=k1h hq;obtain⟨⟨fN,nG⟩,b,eb,ei,ew⟩:=s0w hq;obtain⟨N1,hN1,hp⟩:=o1w hg b hw ew k4 (by omega) ha;obtain⟨⟨N2,hr⟩,_⟩:=q1h (q:=q) hg b hi (λx hx=>(h2q ei x hx).1) (by omega) (by omega) ha;obtain⟨bX,bQ,iw,_⟩:=i0a hg.cg;have bF:∀x∈g.nodes,x.labels.length<=100:=by
  intro x hx;have:=(k1x iw x hx).1;unfold labE at this;cases hb:decide ((x.labels.length:Int) >4)with
  |true=>rw[hb]at this;cases this
  |false=>have:=of_decide_eq_false hb;omega
 obtain⟨d,r,hd⟩:∃d r,q.dots=d::r:=by
  cases hq:q.dots with
  |nil=>rw[hq]at h1;simp at h1
  |cons d r=>exact⟨d,r,rfl⟩
 have lT:r.length=q.arrows.length:=by rw[hd]at ha;simp at ha;omega
 refine⟨N1+N2+200000,λn hn=>?_⟩;have hz:=e1m r q.arrows lT;have hr1:(i0f n g r q.arrows).map (λz=>z.1)=r:=by unfold i0f;rw[List.map_map];exact hz.1
 have hr2:(i0f n g r q.arrows).map (λz=>z.2.1)=q.arrows:=by unfold i0f;rw[List.map_map];exact hz.2
 have gU:(i0f n g r q.arrows).length=r.length:=by rw [<-s2k (f:=λz=>z.1),hr1]
 have hW:h0o n q g (p0s q g)=t0i g (finF (p0s q g)) d (i0f n g r q.arrows):=by unfold h0o;rw[hd]
 have hc:(h0o n q g (p0s q g)).length<=1400000000000000:=by
  rw[hW];refine l1n bX bQ _ d _ ?_;rw[gU];rw[hd]at h5;simp at h5;omega
 have gR:∀R,m0l q g R (N1+N2) (p0s q g):=λR f hl hf n hn=>hp R f hl hf n (by omega);have hr' :∀R,m1p q g R (N1+N2) (rowV q g):=λR f hl hf n hn=>hr R f hl hf n (by omega);obtain⟨f',_,ew⟩:=x0n (R:=q.arrows.map (λa=>tr (rk n g a))) (gR _) (hr' _) (by omega) (by omega) bX bQ bF d (i0f n g r q.arrows) (by rw[hr1,hd]) hr2.symm (λj z hz hm=>by
  have e:=congrArg (λl=>l[j]?) hr2;rw[t2a,hz]at e;rw[t2a, <-e];show some (tr (rk n g z.2.1))=some (tr z.2.2);have:z∈i0f n g r q.arrows:=r2v hz;obtain⟨y,_,rfl⟩:=s2c.1 this;rfl) n (by rw[gU];rw[hd]at h5;simp at h5;omega) (List.replicate (2*q.dots.length - 1) 0) ([],0) ⟨by simp,rfl,by rw[Nat.zero_sub,List.take_zero]⟩ ⟨by simp,by simp,by rw [<-hW];omega⟩
 rw [<-hW]at ew;unfold h0t;dsimp only;rw[h0b q n (by omega),r2g,hq];dsimp only;rw[show((0:Int) !=0)=false from rfl,u2k,r0j g n (by omega),r2g,hg.cg]
 dsimp only;rw[show((0:Int) !=0)=false from rfl,u2k,e2i n (by omega) q g hg.cg (by omega),r2g]
 dsimp only;unfold q24z;dsimp only;rw[a0f (by omega) (by omega)];unfold cnt?;rw[if_pos (by omega),r2g,show((q.dots.length:Int)+(q.arrows.length:Int)).toNat=2*q.dots.length - 1 by omega,b0v (e0c (by omega) (by omega)),e0z,e0x];rw[show(0:Int)=((0:Nat):Int)from rfl]at ew⊢
 rw[ew,r2g];dsimp only;rw[r2g];dsimp only;rw[c1a];cases hle:decide ((h0o n q g (p0s q g)).length<=2000)with
 |true=>
  have hle:=of_decide_eq_true hle;rw[decide_eq_false (by simp;omega),u2k,u2j,v0e _ _ _ (by simp;omega),s2m];rfl
 |false=>
  have hle:=of_decide_eq_false hle;rw[decide_eq_true (by simp;omega),u2j];rfl
def WOK(w:Int×Int×Unit):Prop:=(0<=w.1/\w.1<18446744073709551616)/\(0<=w.2.1/\w.2.1<18446744073709551616)
theorem o2i(x:Int):0<=IntKind.wrap .u64 x/\IntKind.wrap .u64 x<18446744073709551616:=by
 have e:IntKind.wrap .u64 x=x%18446744073709551616:=rfl;rw[e];omega
theorem y0b{x y:Int}{c:Int}(hx:0<=x/\x<18446744073709551616)(hy:0<=y/\y<18446744073709551616)(hc:c=0\/c=1):∃z d,x0f (x,y,c,())=some (z,d,())/\(0<=z/\z<18446744073709551616)/\(d=0\/d=1):=by
 unfold x0f;dsimp only;rw[r2y (by omega),u2j];refine⟨_,_,rfl,⟨by omega,?_⟩,?_⟩
 ·have:=Nat.mod_lt (x.toNat+y.toNat+c.toNat) (show 0<18446744073709551616 by omega)
  omega
 ·have:(x.toNat+y.toNat+c.toNat) / 18446744073709551616<2:=by omega
  omega
theorem y0o{x y:Int}{c:Int}(hc:c=0\/c=1):∃z d,w0l (x,y,c,())=some (z,d,())/\(0<=z/\z<18446744073709551616)/\(d=0\/d=1):=by
 unfold w0l;dsimp only;rw[r2y (by omega),u2j];refine⟨_,_,rfl,⟨by omega,?_⟩,?_⟩
 ·have:=Nat.mod_lt (x.toNat+18446744073709551616 - y.toNat - c.toNat) (show 0<18446744073709551616 by omega)
  omega
 ·cases Nat.blt x.toNat (y.toNat+c.toNat)with
  |true=>exact .inr rfl
  |false=>exact .inl rfl
theorem g2i(a b:Int){w:Int×Int×Unit}(h:WOK w):∃w',q80z (a,b,w,())=some (w',())/\WOK w' :=by
 unfold q80z q67z;dsimp only;simp only[r2g];cases decide (a<0)with
 |true=>
  rw[u2j];obtain⟨z,d,e,hz,hd⟩:=y0o (x:=w.2.1) (y:=IntKind.wrap .u64 (IntKind.wrap .u64 (0 - IntKind.wrap .u64 a)*IntKind.wrap .u64 b)) (c:=0) (.inl rfl);rw[u2j,e,r2g];dsimp only;generalize IntKind.wrap .u64 (IntKind.wrap .u64 (IntKind.wrap .u64 (_*_)+_)+_)=y;obtain⟨z2,d2,e2,hz2,gJ⟩:=y0o (x:=w.1) (y:=y) hd;rw[e2,r2g];exact⟨_,rfl,hz2,hz⟩
 |false=>
  rw[u2k];obtain⟨z,d,e,hz,hd⟩:=y0b (x:=w.2.1) (y:=IntKind.wrap .u64 (IntKind.wrap .u64 a*IntKind.wrap .u64 b)) (c:=0) h.2 (o2i _) (.inl rfl);rw[u2k,e,r2g];dsimp only;obtain⟨z2,d2,e2,hz2,gJ⟩:=y0b (x:=w.1) (y:=_) h.1 (o2i _) hd;rw[e2,r2g];exact⟨_,rfl,hz2,hz⟩
def wadd(a b:Int)(w:Int×Int×Unit):Int×Int×Unit:=((q80z (a,b,w,())).getD (w,())).1
theorem r1t(a b:Int){w:Int×Int×Unit}(h:WOK w):q80z (a,b,w,())=some (wadd a b w,())/\WOK (wadd a b w):=by
 obtain⟨w',e,hw⟩:=g2i a b h;unfold wadd;rw[e];exact⟨rfl,hw⟩
abbrev minS:Bt:=zb21
abbrev maxS:Bt:=zb22
abbrev cntS:Bt:=zb14
abbrev sumS:Bt:=zb24
def x1w(ag:Bt)(v w:Val):Val:=bif (((w.kind:Int)==0) || ((seq ag minS)&& (decide ((ordV v w:Int)<0)))) || ((seq ag maxS)&& (!(decide ((ordV v w:Int)<0))))then v else w
def n0k(ag:Bt)(s:Int×Val×Y20)(c:Cnt):Int×Val×Y20:=
 match c.r with
 |[]=>s
 |v::_=>bif v.kind==0 then s else(wI (s.1+c.n),x1w ag v s.2.1,bif v.kind==2 then wadd v.n c.n s.2.2 else s.2.2)
def k0p(ag:Bt)(col:List Cnt):Int×Val×Y20:=col.foldl (n0k ag) (0,zV,(0,0,()))
def w0i(ag:Bt)(col:List Cnt):Val:=
 bif seq ag cntS then Val.mk 2 (k0p ag col).1 zb0 []else
 bif seq ag sumS then(bif ((k0p ag col).2.2.1:Int)==(IntKind.wrap .u64 (bshr .i64 (wI ((k0p ag col).2.2.2.1)) 63))then Val.mk 2 (wI ((k0p ag col).2.2.2.1)) zb0 []else zV)else(k0p ag col).2.1
def m1e(K:Nat)(col:List Cnt):Prop:=∀c∈col,∃v,c.r=[v]/\Right v 1/\vSz v+6<=K
def SOk(s:Int×Val×Y20):Prop:=wfI .i64 s.1/\Right s.2.1 1/\WOK s.2.2
theorem n2i(x:Int): -9223372036854775808<=wI x/\wI x<=9223372036854775807:=by
 simp only[wI,IntKind.wrap,IntKind.bits,IntKind.signed];constructor<;>simp<;>(try split)<;>omega
theorem i1z(x:Int):wfI .i64 (wI x):=by
 have mD:IntKind.i64.min= -9223372036854775808:=rfl;have mS:IntKind.i64.max=9223372036854775807:=rfl;show(decide (IntKind.i64.min<=wI x)&&decide (wI x<=IntKind.i64.max))=true;rw[mD,mS,r2i,decide_eq_true_iff,decide_eq_true_iff];exact n2i x
theorem j1d(ag:Bt){s:Int×Val×Y20}(h:SOk s){c:Cnt}{v:Val}(hc:c.r=[v])(hv:Right v 1):SOk (n0k ag s c):=by
 unfold n0k;rw[hc];dsimp only;cases v.kind==0 with
 |true=>exact h
 |false=>
  rw[u2k];refine⟨i1z _,?_,?_⟩
  ·show Right (x1w ag v s.2.1) 1
   unfold x1w;cases (((s.2.1.kind:Int)==0) || ((seq ag minS)&& (decide ((ordV v s.2.1:Int)<0)))) || ((seq ag maxS)&& (!(decide ((ordV v s.2.1:Int)<0))))with
   |true=>exact hv
   |false=>exact h.2.1
  ·show WOK (bif v.kind==2 then wadd v.n c.n s.2.2 else s.2.2)
   cases v.kind==2 with
   |true=>exact(r1t _ _ h.2.2).2
   |false=>exact h.2.2
theorem j1g(ag:Bt){K:Nat}:∀(col:List Cnt) {s:Int×Val×Y20},SOk s->m1e K col->SOk (col.foldl (n0k ag) s)
 |[],s,h,_=>h
 |c::r,s,h,hc=>by
  obtain⟨v,e,hv,_⟩:=hc c (by simp);exact j1g ag r (j1d ag h e hv) λd hd=>hc d (by simp[hd])
theorem o2x:SOk (0,zV,(0,0,())):=⟨by unfold wfI;decide,.null 1,⟨by decide,by decide⟩,⟨by decide,by decide⟩⟩
theorem u1g{ρ:Type}(n:Nat)(ag:Bt)(kr:Unit->Option ρ)(i:Int)(c:Cnt)(s:Int×Val×Y20)(h:SOk s){v:Val}(e:c.r=[v])(hv:Right v 1)(hK:vSz v+6<=n)(rec:Y39->Option ρ):
  f0g n kr i c (ag,s.1,(zV,()),(s.2.1,()),s.2.2,()) rec=rec (ag,(n0k ag s c).1,(zV,()),((n0k ag s c).2.1,()),(n0k ag s c).2.2,()):=by
 have ew:=r1t v.n c.n h.2.2;unfold f0g n0k;dsimp only;rw[e,show ix [v] 0=some v from rfl,r2g]
 simp only[Val.eta];cases hk:(v.kind==0)with
 |true=>rfl
 |false=>
  rw[u2k,u2k,l0o v s.2.1 n (b0k hv) hK];cases h2:(v.kind==2)with
  |true=>
   rw[u2j,ew.1,r2g,r2g];dsimp only;unfold x1w;cases ((((s.2.1.kind:Int)==0) || ((seq ag minS)&& (decide ((ordV v s.2.1:Int)<0)))) || ((seq ag maxS)&& (!(decide ((ordV v s.2.1:Int)<0)))))<;>rfl
  |false=>
   rw[u2k,r2g];dsimp only;unfold x1w;cases ((((s.2.1.kind:Int)==0) || ((seq ag minS)&& (decide ((ordV v s.2.1:Int)<0)))) || ((seq ag maxS)&& (!(decide ((ordV v s.2.1:Int)<0)))))<;>rfl
theorem d1g{ρ:Type}(n:Nat)(ag:Bt)(kr:Unit->Option ρ)(K:Y39->Option ρ):∀(col:List Cnt) (i:Int) (s:Int×Val×Y20),SOk s->m1e n col->
  a0b (f0g n kr) K i col (ag,s.1,(zV,()),(s.2.1,()),s.2.2,())=K (ag,(col.foldl (n0k ag) s).1,(zV,()),((col.foldl (n0k ag) s).2.1,()),(col.foldl (n0k ag) s).2.2,())
 |[],i,s,h,hc=>by rw[a0b];rfl
 |c::r,i,s,h,hc=>by
  obtain⟨v,e,hv,hK⟩:=hc c (by simp);rw[a0b,List.foldl_cons,u1g n ag kr i c s h e hv hK];exact d1g n ag kr K r (i+1) (n0k ag s c) (j1d ag h e hv) λd hd=>hc d (by simp[hd])
theorem i1q(n:Nat)(ag:Bt)(col:List Cnt)(hc:m1e n col)(hl:col.length<=100000)(hn:col.length+100<=n):l0j n (ag,col,())=some (w0i ag col,())/\Right (w0i ag col) 1:=by
 have hS:SOk (k0p ag col):=j1g ag col o2x hc;constructor
 ·unfold l0j
  dsimp only;rw[y0w n _ _ col n _ _ _ _ _ (by omega) (by omega)];refine(d1g n ag _ _ col 0 (0,zV,(0,0,())) o2x hc).trans ?_;show _=some (w0i ag col,());unfold w0i;dsimp only;show(bif seq ag cntS then some (Val.mk 2 (k0p ag col).1 zb0 [],())else _)=_
  cases seq ag cntS with
  |true=>rfl
  |false=>
   rw[u2k,u2k];cases seq ag sumS with
   |true=>
    rw[u2j,u2j];unfold q68z;rw[r2g];dsimp only;show(bif ((k0p ag col).2.2.1:Int)==(IntKind.wrap .u64 (bshr .i64 (wI ((k0p ag col).2.2.2.1)) 63))then _ else _)=_
    cases ((k0p ag col).2.2.1:Int)==(IntKind.wrap .u64 (bshr .i64 (wI ((k0p ag col).2.2.2.1)) 63))<;>rfl
   |false=>
    rw[u2k,u2k];have:=s0k (k0p ag col).2.1 1 n (by omega) (by omega) (by omega) (n0j hS.2.1);rw[show(col.foldl (n0k ag) (0,zV,(0,0,()))).2.1=(k0p ag col).2.1 from rfl]
    simp only[Val.eta,this,r2g]
 ·unfold w0i
  cases seq ag cntS with
  |true=>exact .int _ 1 hS.1
  |false=>
   rw[u2k];cases seq ag sumS with
   |true=>
    rw[u2j];cases ((k0p ag col).2.2.1:Int)==(IntKind.wrap .u64 (bshr .i64 (wI ((k0p ag col).2.2.2.1)) 63))with
    |true=>exact .int _ 1 (i1z _)
    |false=>exact .null 1
   |false=>exact hS.2.1
theorem u1x(n:Nat):q71z n=a1o n:=rfl
def p0t:List Ev.Item->Int->List Int
 |[],_=>[]
 |x::r,i=>bif seq x.agg zb0 then i::p0t r (i+1)else p0t r (i+1)
def p0w:List Ev.Item->Int->List Int
 |[],_=>[]
 |x::r,i=>bif seq x.agg zb0 then p0w r (i+1)else i::p0w r (i+1)
theorem b1e:∀(l:List Ev.Item) (i:Int),(p0t l i).length+(p0w l i).length=l.length
 |[],i=>rfl
 |x::r,i=>by
  have:=b1e r (i+1);rw[p0t,p0w];cases seq x.agg zb0<;>simp<;>omega
theorem o0i{ρ:Type}(n:Nat)(kr:Unit->Option ρ)(z:List Cnt)(q:Query)(K:(Y3×Y4×Y2×Y2×Unit)->Option ρ):∀(l:List Ev.Item) (i:Int) (ks ag:List Int),ks.length+ag.length+l.length<=1000->
  a0b (d0n n kr) K i l (z,(q,()),ks,ag,())=K (z,(q,()),ks++p0t l i,ag++p0w l i,())
 |[],i,ks,ag,h=>by rw[a0b,p0t,p0w,s2a,s2a]
 |x::r,i,ks,ag,h=>by
  rw[r2w]at h;have ih1:=o0i n kr z q K r (i+1) (ks++ [i]) ag (by simp;omega);have ih2:=o0i n kr z q K r (i+1) ks (ag++ [i]) (by simp;omega);rw[a0b,p0t,p0w];generalize a0b (d0n n kr) K (i+1) r=R at ih1 ih2⊢;unfold d0n;dsimp only;cases seq x.agg zb0 with
  |true=>
   rw[u2j,u2j,u2j,b0v (e0c (by simp;omega) (by omega)),ih1,s2t];rfl
  |false=>
   rw[u2k,u2k,u2k,b0v (e0c (by simp;omega) (by omega)),ih2,s2t];rfl
theorem t1k(n:Nat):∀(l:List Ev.Item) (i:Int),0<=i->∃j:Int,a0b (ρ:=Int×Unit) (q0j n (λ(v7,_)=>some (v7,()))) (λ_=>some ((-1),())) i l ()=some (j,())/\decide (j>=0)=l.any (λx=> !(seq x.agg zb0))
 |[],i,h=>⟨-1,rfl,rfl⟩
 |x::r,i,h=>by
  obtain⟨j,e,hj⟩:=t1k n r (i+1) (by omega);rw[a0b,List.any_cons];generalize a0b (q0j n _) _ (i+1) r=R at e⊢;unfold q0j q77z;dsimp only;rw[r2g];dsimp only;cases seq x.agg zb0 with
  |true=>exact⟨j,e,by rw[hj];rfl⟩
  |false=>exact⟨i,rfl,by rw[decide_eq_true (by omega)];rfl⟩
def grpB(q:Query):Bool:=q.items.any (λx=> !(seq x.agg zb0))
theorem m1h(q:Query)(n:Nat)(hl:q.items.length<=100)(hn:200<=n):q89z n (q,())=some (grpB q,()):=by
 unfold q89z q6z q9z;dsimp only;rw[z1i n _ _ q.items n (by omega) (by omega)];obtain⟨j,e,hj⟩:=t1k n q.items 0 (by omega);refine(congrArg (λo=>Option.bind (Option.bind o _) _) e).trans ?_;rw[r2g,r2g];dsimp only;rw[hj];rfl
def atI(r:List Val)(k:Int):Val:=(r[k.toNat]?).getD zV
theorem m1u{r:List Val}{k:Int}(h0:0<=k)(h1:k<r.length):ix r k=some (atI r k):=by
 obtain⟨j,rfl⟩:=Int.eq_ofNat_of_zero_le h0;have hj:j<r.length:=by omega
 unfold atI;rw[Int.toNat_natCast,r2k hj];exact a0r (r2k hj)
def keyV(ks:List Int)(r:List Val):List Val:=ks.map (atI r)
theorem i1x{ρ:Type}(n:Nat)(kr:Unit->Option ρ)(r:List Val)(K:(Y9×Y9×Unit)->Option ρ):∀(ks:List Int) (i:Int) (o:List Val),(∀k∈ks,0<=k/\k<r.length)->o.length+ks.length<=1000->
  a0b (h0a n kr) K i ks (r,o,())=K (r,o++keyV ks r,())
 |[],i,o,h,hl=>by rw[a0b,keyV,t2u,s2a]
 |k::ks,i,o,h,hl=>by
  rw[r2w]at hl;have ih:=i1x n kr r K ks (i+1) (o++ [atI r k]) (λj hj=>h j (by simp[hj])) (by simp;omega);have hk:=h k (by simp);rw[a0b];generalize a0b (h0a n kr) K (i+1) ks=R at ih⊢;unfold h0a;dsimp only;rw[m1u hk.1 hk.2,r2g,Val.eta,b0v (e0c (by simp;omega) (by omega)),ih,keyV,keyV,r2z,s2t];rfl
theorem m2c(n:Nat)(hn:200<=n)(r:List Val)(ks:List Int)(h:∀k∈ks,0<=k/\k<r.length)(hl:ks.length<=100):b2n n (r,ks,())=some (keyV ks r,()):=by
 unfold b2n;dsimp only;rw[l1w n _ _ ks n _ _ (by omega) (by omega),i1x n _ r _ ks 0 [] h (by simp;omega)];rfl
def g2a(l:List Val):Bt:=⟨(i0e l).toArray⟩
theorem c1f{ρ:Type}(n:Nat)(hn:40<=n)(kr:Unit->Option ρ)(K:Y44->Option ρ):∀(l:List Val) (i:Int) (o:List UInt8),(∀v∈l,Right v 1)->o.length+(i0e l).length<=140737488355328->
  a0b (f0d n kr) K i l (bi o,())=K (bi (o++i0e l),())
 |[],i,o,h,hl=>by rw[a0b,i0e,s2a]
 |v::r,i,o,h,hl=>by
  rw[i0e,r2t]at hl;have ih:=c1f n hn kr K r (i+1) (o++putL v) (λx hx=>h x (by simp[hx])) (by simp;omega);rw[a0b];generalize a0b (f0d n kr) K (i+1) r=R at ih⊢;unfold f0d;dsimp only;rw[Val.eta,n2l (h v (by simp)) n o (by omega) (by omega) (by omega) (by omega),r2g];dsimp only;rw[ih,i0e,s2t]
theorem y1s(n:Nat)(hn:200<=n)(l:List Val)(h:∀v∈l,Right v 1)(hl:l.length<=30):q0k n (l,())=some (g2a l,()):=by
 have h2:(i0e l).length<=140737488355328:=by
  have h3:=i1v l (top 1) λx hx=>j2s (h x hx);have h4:top 1=3552671230843\/top 1<=4000000000000:=.inr (by decide);have h5:l.length*top 1<=30*4000000000000:=Nat.mul_le_mul hl (by omega);omega
 unfold q0k;dsimp only;rw[w0a n _ _ l n _ (by omega) (by omega),show([]:List Int)=bi []from rfl,c1f n (by omega) _ _ l 0 [] h (by simpa using h2)]
 dsimp only;rw[s2m,l2m];rfl
abbrev GMap:=List (Bt×List Cnt)
abbrev gget(m:GMap)(s:Bt):List Cnt:=a0k .str (.lst .cnt) ([]:List Cnt) m s
abbrev gput(m:GMap)(s:Bt)(r:List Cnt):GMap:=b0d .str (.lst .cnt) m s r
theorem o0j(a b:Bt):b0l .str a b=seq a b:=by
 cases h:seq a b with
 |true=>exact(w1y a b).2 ((a0h a b).1 h)
 |false=>
  cases h2:b0l .str a b with
  |false=>rfl
  |true=>
   rw[(w1y a b).1 h2,b0h]at h;cases h
theorem u0y{vt:Ev.Ty}(z:vt.den)(k:Bt)(v:vt.den)(s:Bt):∀l:List (Bt×vt.den),a0k .str vt z (b0d .str vt l k v) s=bif seq s k then v else a0k .str vt z l s
 |[]=>by
  show(bif b0l .str s k then v else z)=bif seq s k then v else z
  rw[o0j]
 |p::r=>by
  rw[b0d];cases hk:b0l .str k p.1 with
  |true=>
   rw[o0j]at hk;have:=(a0h _ _).1 hk;rw[u2j,a0k,a0k,o0j,o0j, <-this];cases seq s k<;>rfl
  |false=>
   rw[u2k,a0k,a0k,u0y z k v s r,o0j];cases h1:seq s p.1 with
   |false=>rfl
   |true=>
    cases h2:seq s k with
    |false=>rfl
    |true=>
     rw[o0j]at hk;rw[(a0h _ _).1 h1]at h2;rw[(a0h _ _).1 h2,b0h]at hk;cases hk
theorem y0n(k:Bt)(v:List Cnt)(s:Bt)(l:GMap):gget (gput l k v) s=bif seq s k then v else gget l s:=u0y (vt:=.lst .cnt) [] k v s l
def nmC(ks:List Int)(c:Cnt):Bt:=g2a (keyV ks c.r)
abbrev GS:=List Bt×GMap
def r0y(ks:List Int)(s:GS)(c:Cnt):GS:=(bif (gget s.2 (nmC ks c)).isEmpty then s.1++ [nmC ks c]else s.1,gput s.2 (nmC ks c) (gget s.2 (nmC ks c)++ [c]))
def r1k(ks:List Int)(p:List Cnt)(s:Bt):List Cnt:=p.filter λc=>seq s (nmC ks c)
structure GOf(ks:List Int)(p:List Cnt)(s:GS):Prop where
 m:∀nm,gget s.2 nm=r1k ks p nm
 nd:s.1.Nodup
 i:∀nm,nm∈s.1↔ ∃c∈p,nmC ks c=nm
 l:s.1.length<=p.length
theorem GOf.step {ks:List Int}{p:List Cnt}{s:GS}(h:GOf ks p s)(c:Cnt):GOf ks (p++ [c]) (r0y ks s c):=by
 have hm:=h.m (nmC ks c);have he:(gget s.2 (nmC ks c)).isEmpty=true↔nmC ks c∉s.1:=by
  rw[hm,h.i,List.isEmpty_iff];unfold r1k;rw[List.filter_eq_nil_iff];constructor
  ·rintro h1 ⟨d,hd,e⟩
   exact h1 d hd ((a0h _ _).2 e.symm)
  ·intro h1 d hd e
   exact h1 ⟨d,hd,((a0h _ _).1 e).symm⟩
 unfold r0y;refine⟨λnm=>?_,?_,λnm=>?_,?_⟩
 ·dsimp only
  rw[y0n,h.m,h.m];unfold r1k;rw[List.filter_append];cases hs:seq nm (nmC ks c)with
  |true=>
   have e1:[c].filter (λc=>seq nm (nmC ks c))=[c]:=by simp[hs]
   rw[u2j,e1, <-(a0h _ _).1 hs]
  |false=>
   have e1:[c].filter (λc=>seq nm (nmC ks c))=[]:=by simp[hs]
   rw[u2k,e1,s2a]
 ·dsimp only
  cases hb:(gget s.2 (nmC ks c)).isEmpty with
  |true=>
   rw[u2j,List.nodup_append];refine⟨h.nd,by simp,λx hx y hy e=>?_⟩;rw[s2e]at hy;exact he.1 hb (hy▸e▸hx)
  |false=>exact h.nd
 ·dsimp only
  cases hb:(gget s.2 (nmC ks c)).isEmpty with
  |true=>
   rw[u2j,s2j,h.i];constructor
   ·rintro(⟨d,hd,e⟩| hx)
    ·exact⟨d,by simp[hd],e⟩
    ·exact⟨c,by simp,(s2e.1 hx).symm⟩
   ·rintro⟨d,hd,e⟩
    rcases s2j.1 hd with hd|hd
    ·exact .inl ⟨d,hd,e⟩
    ·rw[s2e.1 hd]at e
     exact .inr (by simp[e])
  |false=>
   have hin:nmC ks c∈s.1:=by
    by_cases h1:nmC ks c∈s.1
    ·exact h1
    ·rw[he.2 h1]at hb;cases hb
   rw[u2k,h.i];constructor
   ·rintro⟨d,hd,e⟩
    exact⟨d,by simp[hd],e⟩
   ·rintro⟨d,hd,e⟩
    rcases s2j.1 hd with hd|hd
    ·exact⟨d,hd,e⟩
    ·rw[s2e.1 hd]at e
     exact(h.i nm).1 (e▸hin)
 ·dsimp only
  have:=h.l;cases (gget s.2 (nmC ks c)).isEmpty<;>simp<;>omega
theorem GOf.all {ks:List Int}:∀(l:List Cnt) {p:List Cnt} {s:GS},GOf ks p s->GOf ks (p++l) (l.foldl (r0y ks) s)
 |[],p,s,h=>by rw[s2a];exact h
 |c::r,p,s,h=>by
  have:=GOf.all r (h.step c);rw[s2t]at this;exact this
def RowR(m:Nat)(r:List Val):Prop:=r.length=m/\∀v∈r,Right v 1
theorem n1c{m:Nat}{ks:List Int}{r:List Val}(h:RowR m r):∀v∈keyV ks r,Right v 1:=by
 intro v hv;obtain⟨k,_,rfl⟩:=s2c.1 hv;unfold atI;cases e:r[k.toNat]? with
 |none=>exact .null 1
 |some x=>exact h.2 x (r2v e)
theorem z1g{ρ:Type}(n:Nat)(hn:200<=n)(kr:Unit->Option ρ)(z:List Cnt)(q:Query)(ks ag:List Int)(m:Nat)(fB:∀k∈ks,0<=k/\k<(m:Int))(eQ:ks.length<=30)(i:Int)(p:List Cnt)(s:GS)(h:GOf ks p s)(hp:p.length<=100000)(c:Cnt)(hc:RowR m c.r)
  (rec:(Y3×Y2×Y4×Y2×Y15×GMap×Unit)->Option ρ):
  d0u n kr i c (z,ks,(q,()),ag,s.1,s.2,()) rec=rec (z,ks,(q,()),ag,(r0y ks s c).1,(r0y ks s c).2,()):=by
 have hl:(gget s.2 (nmC ks c)).length<=100000:=by
  rw[h.m];exact t2p (List.length_filter_le _ _) hp
 have r1:room (s.1++ [nmC ks c]).length 16=true:=w0q (by have:=h.l;simp;omega) (by omega);have r2:room (gget s.2 (nmC ks c)++ [c]).length 32=true:=w0q (by simp;omega) (by omega);unfold d0u;dsimp only;rw[m2c n hn c.r ks (λk hk=>by rw[hc.1];exact fB k hk) (by omega),r2g];dsimp only;rw[y1s n hn (keyV ks c.r) (n1c hc) (by unfold keyV;rw[s2k];exact eQ),r2g];dsimp only;rw[show g2a (keyV ks c.r)=nmC ks c from rfl,c1p]
 rw[show a0k .str (.lst .cnt) [] s.2 (nmC ks c)=gget s.2 (nmC ks c)from rfl]
 rw[r2,r2y (i1g (kt:=.str) (vt:=.lst .cnt) (nmC ks c) s.2),Bool.and_self,u2j,u2j,u2f,u2j,u2j];unfold r0y;cases (gget s.2 (nmC ks c)).isEmpty with
 |true=>rw[u2j,u2j,b0v r1]
 |false=>rw[u2k,u2k]
theorem k1t{ρ:Type}(n:Nat)(hn:200<=n)(kr:Unit->Option ρ)(z:List Cnt)(q:Query)(ks ag:List Int)(m:Nat)(fB:∀k∈ks,0<=k/\k<(m:Int))(eQ:ks.length<=30)
  (K:(Y3×Y2×Y4×Y2×Y15×GMap×Unit)->Option ρ):∀(l:List Cnt) (i:Int) (p:List Cnt) (s:GS),GOf ks p s->p.length+l.length<=100000->(∀c∈l,RowR m c.r)->
   a0b (d0u n kr) K i l (z,ks,(q,()),ag,s.1,s.2,())=K (z,ks,(q,()),ag,(l.foldl (r0y ks) s).1,(l.foldl (r0y ks) s).2,())
 |[],i,p,s,h,hl,hc=>by rw[a0b];rfl
 |c::r,i,p,s,h,hl,hc=>by
  rw[r2w]at hl;rw[a0b,List.foldl_cons,z1g n hn kr z q ks ag m fB eQ i p s h (by omega) c (hc c (by simp))];exact k1t n hn kr z q ks ag m fB eQ K r (i+1) (p++ [c]) (r0y ks s c) (h.step c) (by simp;omega) λd hd=>hc d (by simp[hd])
def grp(ks:List Int)(z:List Cnt):GS:=z.foldl (r0y ks) ([],[])
theorem t1s(ks:List Int)(z:List Cnt):GOf ks z (grp ks z):=by
 have:=GOf.all (ks:=ks) z (p:=[]) (s:=([],[])) ⟨λnm=>rfl,by simp,λnm=>by simp,by simp⟩;exact this
def setM(ks:List Int)(f:Int->Val)(o:List Val):List Val:=ks.foldl (λo k=>o.set k.toNat (f k)) o
theorem q0i(f:Int->Val):∀(ks:List Int) (o:List Val),(setM ks f o).length=o.length
 |[],o=>rfl
 |k::ks,o=>by
  have:=q0i f ks (o.set k.toNat (f k));rw[List.length_set]at this;exact this
theorem n0s{f:Int->Val}:∀(ks:List Int) {o:List Val},(∀v∈o,Right v 1)->(∀k∈ks,Right (f k) 1)-> ∀v∈setM ks f o,Right v 1
 |[],o,h,hf=>h
 |k::ks,o,h,hf=>by
  refine n0s ks (o:=o.set k.toNat (f k)) (λv hv=>?_) (λj hj=>hf j (by simp[hj]));rcases List.mem_or_eq_of_mem_set hv with h1|h1
  ·exact h v h1
  ·rw[h1];exact hf k (by simp)
theorem s0o{ρ:Type}(n:Nat)(kr:Unit->Option ρ)(v51 mL:List Int)(m:GMap)(nm:Bt)(r0:Cnt)(rs:List Cnt)(v56:List Bt)(iD v58:Int)(q:Query)(out:List Cnt)(M:Nat)(h0:r0.r.length=M)(K:_->Option ρ):∀(ks:List Int) (i:Int) (row:List Val),(∀k∈ks,0<=k/\k<(M:Int))->row.length=M->
  a0b (d0m n kr) K i ks (v51,mL,m,nm,r0::rs,v56,iD,v58,(q,()),out,row,())=K (v51,mL,m,nm,r0::rs,v56,iD,v58,(q,()),out,setM ks (atI r0.r) row,())
 |[],i,row,hk,hr=>by rw[a0b];rfl
 |k::ks,i,row,hk,hr=>by
  have h1:=hk k (by simp);have ih:=s0o n kr v51 mL m nm r0 rs v56 iD v58 q out M h0 K ks (i+1) (row.set k.toNat (atI r0.r k)) (λj hj=>hk j (by simp[hj])) (by simp[hr]);rw[a0b];generalize a0b (d0m n kr) K (i+1) ks=R at ih⊢;unfold d0m;dsimp only;have aJ:k.toNat<row.length:=by omega
  rw[show ix (r0::rs) 0=some r0 from rfl,r2g,m1u h1.1 (by omega),r2g,m1u (r:=row) h1.1 (by omega),r2g,r2k aJ,r2g,Val.eta,ih]
  rfl
def o0d(x:Int)(l:List Cnt):List Cnt:=l.map λc=>Cnt.mk [atI c.r x] c.n
theorem j1b{ρ:Type}(n:Nat)(kr:Unit->Option ρ)(a1 a2:List Int)(m:GMap)(nm:Bt)(x:Int)(ns:List Bt)(b1 b2:Int)(ag:List Int)(b3 b4:Int)(q:Query)(out:List Cnt)(row:List Val)(M:Nat)(hx:0<=x/\x<(M:Int))(K:_->Option ρ):∀(l:List Cnt) (i:Int) (col:List Cnt),(∀c∈l,RowR M c.r)->col.length+l.length<=100000->
  a0b (b0t n kr) K i l (a1,a2,m,nm,x,ns,b1,b2,ag,b3,b4,(q,()),out,col,row,())=K (a1,a2,m,nm,x,ns,b1,b2,ag,b3,b4,(q,()),out,col++o0d x l,row,())
 |[],i,col,hc,hl=>by rw[a0b,o0d,t2u,s2a]
 |c::l,i,col,hc,hl=>by
  rw[r2w]at hl;have h1:=hc c (by simp);have ih:=j1b n kr a1 a2 m nm x ns b1 b2 ag b3 b4 q out row M hx K l (i+1) (col++ [Cnt.mk [atI c.r x] c.n]) (λd hd=>hc d (by simp[hd])) (by simp;omega);rw[a0b];generalize a0b (b0t n kr) K (i+1) l=R at ih⊢;unfold b0t;dsimp only;rw[m1u hx.1 (by rw[h1.1];exact hx.2),r2g,Val.eta,b0v (w0q (by simp;omega) (by omega)),ih,o0d,o0d,r2z,s2t];rfl
def n1d(q:Query)(k:Int):Bt:=((q.items[k.toNat]?).map Ev.Item.agg).getD zb0
theorem e2b{M K:Nat}{x:Int}(hx:0<=x/\x<(M:Int)){l:List Cnt}(hl:∀c∈l,RowR M c.r/\lSz c.r+6<=K):m1e K (o0d x l):=by
 intro c hc;obtain⟨d,hd,rfl⟩:=s2c.1 hc;obtain⟨h1,h2⟩:=hl d hd;have hm:atI d.r x∈d.r:=by
  have:=m1u (r:=d.r) hx.1 (by rw[h1.1];exact hx.2);exact d2b this
 refine⟨atI d.r x,rfl,h1.2 _ hm,?_⟩;have:=l0f hm;omega
theorem w0v{ρ:Type}(n K:Nat)(hK:K<=n)(a1 a2:List Int)(m:GMap)(nm:Bt)(ns:List Bt)(b1 b2:Int)(ag:List Int)(q:Query)(out:List Cnt)(eM:∀k∈ag,0<=k/\k<(q.items.length:Int))(gP:ag.length<=1000)(hz:∀c∈gget m nm,RowR q.items.length c.r/\lSz c.r+6<=K)(cH:(gget m nm).length<=50000)(hn:100200<=n)
  (kx:_->Option ρ)(kr:Unit->Option ρ):∀(r p:List Int),ag=p++r->∀(fuel:Nat) (row:List Val),r.length<fuel->row.length=q.items.length->
   a0a (λrc=>c0f n rc kx kr) fuel (a1,a2,m,nm,ns,b1,b2,ag,(ag.length:Int),(p.length:Int),(q,()),out,row,())=kx (a1,a2,m,ns,b1,b2,(q,()),out,setM r (λk=>w0i (n1d q k) (o0d k (gget m nm))) row,())
 |[],p,hp,fuel,row,hf,hr=>by
  obtain⟨f,rfl⟩:∃f,fuel=f+1:=⟨fuel - 1,by omega⟩;rw[a0a];unfold c0f;dsimp only;rw[decide_eq_false (by rw[hp];simp),u2k];rfl
 |k::r,p,hp,fuel,row,hf,hr=>by
  obtain⟨f,rfl⟩:∃f,fuel=f+1:=⟨fuel - 1,by omega⟩;have hk:ag[p.length]?=some k:=by rw[hp];simp
  have oB:k∈ag:=by rw[hp];simp
  have aJ:p.length<ag.length:=(r2p.1 hk).1;have h1:=eM k oB;have hit:k.toNat<q.items.length:=by omega
  have qf:ix q.items k=some q.items[k.toNat]:=by
   have:=a0r (r2k hit);rwa[Int.toNat_of_nonneg h1.1]at this
  have iG:n1d q k=(q.items[k.toNat]).agg:=by
   unfold n1d;rw[r2k hit];rfl
  have mm:=e2b h1 hz;have bU:(o0d k (gget m nm)).length=(gget m nm).length:=by unfold o0d;rw[s2k]
  have km:=(i1q n (n1d q k) (o0d k (gget m nm)) (λc hc=>by obtain⟨v,e1,e2,e3⟩:=mm c hc;exact⟨v,e1,e2,by omega⟩) (by omega) (by omega)).1;have cX:k.toNat<row.length:=by omega
  have ih:=w0v n K hK a1 a2 m nm ns b1 b2 ag q out eM gP hz cH hn kx kr r (p++ [k]) (by rw[hp];simp) f (row.set k.toNat (w0i (n1d q k) (o0d k (gget m nm)))) (by simp at hf;omega) (by rw[List.length_set];exact hr);rw[r2t,s2y,Int.natCast_add]at ih;have hw:wI ((p.length:Int)+1)=(p.length:Int)+1:=a0f (by omega) (by omega);rw[a0a];generalize a0a (λrc=>c0f n rc kx kr) f=I at ih⊢;unfold c0f;dsimp only;rw[decide_eq_true (by omega),u2j,a0r hk,r2g];rw[show a0k .str (.lst .cnt) ([]:List Cnt) m nm=gget m nm from rfl]
  rw[t0m n _ _ (gget m nm) n _ _ _ _ _ _ _ _ _ _ _ _ _ _ _ (by omega) (by omega)];rw[j1b n _ a1 a2 m nm k ns b1 b2 ag _ _ q out row q.items.length h1 _ (gget m nm) 0 [] (λc hc=>(hz c hc).1) (by simp;omega)];dsimp only;rw[s2m,qf,r2g, <-iG,km,r2g];dsimp only;rw[m1u (r:=row) h1.1 (by omega),r2g,r2k cX,r2g,Val.eta,hw];exact ih
def zs(q:Query):List Val:=List.replicate q.items.length zV
def k0m(q:Query)(ks ag:List Int)(rows:List Cnt):List Val:=
 setM ag (λk=>w0i (n1d q k) (o0d k rows)) (match rows with|[]=>zs q|c::_=>setM ks (atI c.r) (zs q))
theorem s0t{ρ:Type}(n K:Nat)(hK:K<=n)(ks ag:List Int)(m:GMap)(names:List Bt)(q:Query)(fB:∀k∈ks,0<=k/\k<(q.items.length:Int))(eQ:ks.length<=1000)(eM:∀k∈ag,0<=k/\k<(q.items.length:Int))(gP:ag.length<=1000)(hq:q.items.length<=1000)
  (hz:∀nm,∀c∈gget m nm,RowR q.items.length c.r/\lSz c.r+6<=K)(cH:∀nm,(gget m nm).length<=50000)(bP:names.length<=50000)(hn:100200<=n)
  (kx:_->Option ρ)(kr:Unit->Option ρ):∀(r p:List Bt),names=p++r->∀(fuel:Nat) (out:List Cnt),r.length<fuel->out.length+r.length<=100000->
   a0a (λrc=>c0a n rc kx kr) fuel (ks,ag,m,names,(names.length:Int),(p.length:Int),(q,()),out,())=kx ((q,()),out++r.map (λs=>Cnt.mk (k0m q ks ag (gget m s)) 1),())
 |[],p,hp,fuel,out,hf,ho=>by
  obtain⟨f,rfl⟩:∃f,fuel=f+1:=⟨fuel - 1,by omega⟩;rw[a0a];unfold c0a;dsimp only;rw[decide_eq_false (by rw[hp];simp),u2k,t2u,s2a]
 |s::r,p,hp,fuel,out,hf,ho=>by
  obtain⟨f,rfl⟩:∃f,fuel=f+1:=⟨fuel - 1,by omega⟩;have hk:names[p.length]?=some s:=by rw[hp];simp
  have aJ:p.length<names.length:=(r2p.1 hk).1;rw[r2w]at ho;have ih:=s0t n K hK ks ag m names q fB eQ eM gP hq hz cH bP hn kx kr r (p++ [s]) (by rw[hp];simp) f (out++ [Cnt.mk (k0m q ks ag (gget m s)) 1]) (by simp at hf;omega) (by simp;omega);rw[r2t,s2y,Int.natCast_add]at ih;have hw:wI ((p.length:Int)+1)=(p.length:Int)+1:=a0f (by omega) (by omega);have cD:∀y:Cnt,room (out++ [y]).length 32=true:=λy=>w0q (by simp;omega) (by omega);rw[a0a];generalize a0a (λrc=>c0a n rc kx kr) f=I at ih⊢;rw[r2z,List.append_cons];unfold c0a;dsimp only;rw[decide_eq_true (by omega),u2j,a0r hk,r2g];unfold cnt?;rw[if_pos (by omega),r2g,Int.toNat_natCast,b0v (e0c (by omega) (by omega))];rw[show a0k .str (.lst .cnt) ([]:List Cnt) m s=gget m s from rfl]
  have iO:(zs q).length=q.items.length:=by unfold zs;rw[List.length_replicate]
  rw[show List.replicate q.items.length (Val.mk 0 0 zb0 [])=zs q from rfl]
  cases hg:gget m s with
  |nil=>
   rw[decide_eq_false (by simp),u2k];have:=w0v n K hK ks ag m s names (names.length:Int) (p.length:Int) ag q out eM gP (hz s) (cH s) hn (λ(v152,iZ,v154,jh,ja,v157,iI,fH,fm,_)=>ck (room (fH++([(Cnt.mk fm 1)]:List Cnt)).length 32) (I (v152,iZ,v154,jh,ja,wI (v157+1),iI,fH++([(Cnt.mk fm 1)]:List Cnt),()))) (λ_=>none) ag [] rfl n (zs q) (by omega) iO;refine this.trans ?_;dsimp only;rw[b0v (cD _),hw];unfold k0m at ih⊢;rw[hg]at ih⊢;exact ih
  |cons c rs=>
   rw[decide_eq_true (by simp),u2j];rw[v0r n _ _ ks n _ _ _ _ _ _ _ _ _ _ _ (by omega) (by omega)];have hcr:=(hz s c (by rw[hg];simp)).1;rw[s0o n _ ks ag m s c rs names _ _ q out q.items.length hcr.1 _ ks 0 (zs q) fB iO];dsimp only;have:=w0v n K hK ks ag m s names (names.length:Int) (p.length:Int) ag q out eM gP (hz s) (cH s) hn (λ(v152,iZ,v154,jh,ja,v157,iI,fH,fm,_)=>ck (room (fH++([(Cnt.mk fm 1)]:List Cnt)).length 32) (I (v152,iZ,v154,jh,ja,wI (v157+1),iI,fH++([(Cnt.mk fm 1)]:List Cnt),()))) (λ_=>none) ag [] rfl n (setM ks (atI c.r) (zs q)) (by omega) (by rw[q0i];exact iO);refine this.trans ?_;dsimp only;rw[b0v (cD _),hw];unfold k0m at ih⊢;rw[hg]at ih⊢;exact ih
theorem a1x{ρ:Type}(n:Nat)(kx:_->Option ρ)(kr:Unit->Option ρ):∀(r p:List Cnt) (fuel:Nat),r.length<fuel->p.length+r.length<=100000->
  a0a (λrc=>a0n n rc kx kr) fuel (((p.length+r.length:Nat):Int),(p.length:Int),p.map (λc=>Cnt.mk c.r 1)++r,())=kx ((p++r).map (λc=>Cnt.mk c.r 1),())
 |[],p,fuel,hf,hl=>by
  obtain⟨f,rfl⟩:∃f,fuel=f+1:=⟨fuel - 1,by omega⟩;rw[a0a];unfold a0n;dsimp only;rw[decide_eq_false (by simp),u2k,s2a,s2a]
 |c::r,p,fuel,hf,hl=>by
  obtain⟨f,rfl⟩:∃f,fuel=f+1:=⟨fuel - 1,by omega⟩;rw[r2w]at hl;have ih:=a1x n kx kr r (p++ [c]) f (by simp at hf;omega) (by simp;omega);have hk:(p.map (λc=>Cnt.mk c.r 1)++c::r)[p.length]?=some c:=by
   rw[t2c (by simp)];simp
  rw[a0a];generalize a0a (λrc=>a0n n rc kx kr) f=I at ih⊢;unfold a0n;dsimp only;rw[decide_eq_true (by simp;omega),u2j,a0r hk,r2g,Int.toNat_natCast,hk,r2g,a0f (by omega) (by omega)];have e1:(p.map (λc=>Cnt.mk c.r 1)++c::r).set p.length (Cnt.mk c.r 1)=(p++ [c]).map (λc=>Cnt.mk c.r 1)++r:=by
   rw[List.set_append_right _ _ (by simp)];simp
  rw[e1];have e2:(((p++ [c]).length+r.length:Nat):Int)=((p.length+(c::r).length:Nat):Int):=by simp;omega
  have e3:(((p++ [c]).length:Nat):Int)=(p.length:Int)+1:=by simp
  rw[e2,e3,s2t]at ih;exact ih
theorem w0s:∀(l:List Ev.Item) (i:Int),(∀k∈p0t l i,i<=k/\k<i+l.length)/\(∀k∈p0w l i,i<=k/\k<i+l.length)
 |[],i=>⟨(λk h=>by simp[p0t]at h),(λk h=>by simp[p0w]at h)⟩
 |x::r,i=>by
  obtain⟨h1,h2⟩:=w0s r (i+1);rw[p0t,p0w,r2w];cases seq x.agg zb0 with
  |true=>
   rw[u2j,u2j];refine⟨λk hk=>?_,λk hk=>?_⟩
   ·rcases r2s.1 hk with rfl|hk
    ·omega
    ·have:=h1 k hk;omega
   ·have:=h2 k hk;omega
  |false=>
   rw[u2k,u2k];refine⟨λk hk=>?_,λk hk=>?_⟩
   ·have:=h1 k hk;omega
   ·rcases r2s.1 hk with rfl|hk
    ·omega
    ·have:=h2 k hk;omega
def ksQ(q:Query):List Int:=p0t q.items 0
def agQ(q:Query):List Int:=p0w q.items 0
def outs(q:Query)(z:List Cnt):List Cnt:=
 bif grpB q then(bif ((ksQ q).length==0)&& (z.length==0)then [Cnt.mk (k0m q (ksQ q) (agQ q) []) 1]else(grp (ksQ q) z).1.map λs=>Cnt.mk (k0m q (ksQ q) (agQ q) (gget (grp (ksQ q) z).2 s)) 1)else z
def ones(l:List Cnt):List Cnt:=l.map λc=>Cnt.mk c.r 1
def fin(q:Query)(o:List Cnt):List Cnt:=bif q.dist then ones o else o
theorem s1y(q:Query)(o:List Cnt)(n:Nat)(hl:o.length<=100000)(hn:100200<=n):
  (bif q.dist then a0a (λmR=>a0n n mR (λ(o9,_)=>some (o9,())) (λ(_)=>none)) (n) ((o.length:Int),0,o,())else some (o,()))=some (fin q o,()):=by
 unfold fin;cases q.dist with
 |false=>rfl
 |true=>
  rw[u2j,u2j];have:=a1x n (λ((o9,_):List Cnt×Unit)=>some (o9,())) (λ_=>none) o [] n (by omega) (by simpa using hl);rw[List.length_nil,s2u,t2u,s2m]at this;exact this
theorem i2a(q:Query)(z o:List Cnt)(n K:Nat)(hq:q.items.length<=30)(hz:∀c∈z,RowR q.items.length c.r/\lSz c.r+6<=K)(cH:z.length<=20000)(hK:K<=n)(hn:200200<=n)
  (hg:a1o n (outs q z,())=some (o,()))(gA:o.length<=100000):h0u n (q,z,())=some (fin q o,()):=by
 have hlen:=b1e q.items 0;obtain⟨b6,eH⟩:=w0s q.items 0;have fB:∀k∈ksQ q,0<=k/\k<(q.items.length:Int):=λk hk=>by have:=b6 k hk;omega
 have eM:∀k∈agQ q,0<=k/\k<(q.items.length:Int):=λk hk=>by have:=eH k hk;omega
 have eQ:(ksQ q).length<=30:=by unfold ksQ;omega
 have gP:(agQ q).length<=30:=by unfold agQ;omega
 unfold h0u;dsimp only;rw[m1h q n (by omega) (by omega),r2g];dsimp only;cases hgr:grpB q with
 |false=>
  have e:outs q z=z:=by unfold outs;rw[hgr];rfl
  rw[e]at hg;rw[t2m,u2j,u1x,hg,r2g];exact s1y q o n gA (by omega)
 |true=>
  rw[s2l,u2k];rw[w0b n _ _ q.items n _ _ _ _ (by omega) (by omega),o0i n _ z q _ q.items 0 [] [] (by simp;omega)];dsimp only;rw[s2m,s2m,show p0t q.items 0=ksQ q from rfl,show p0w q.items 0=agQ q from rfl]
  rw[x0w n _ _ z n _ _ _ _ _ _ (by omega) (by omega)];refine(k1t n (by omega) _ z q (ksQ q) (agQ q) q.items.length fB (by omega) _ z 0 [] ([],[]) ⟨λnm=>rfl,by simp,λnm=>by simp,by simp⟩ (by simp;omega) (λc hc=>(hz c hc).1)).trans ?_;rw[show z.foldl (r0y (ksQ q)) ([],[])=grp (ksQ q) z from rfl]
  have hG:=t1s (ksQ q) z;dsimp only;have hb:((((ksQ q).length:Int)==0)&& (((z.length:Int))==0))=(((ksQ q).length==0)&& (z.length==0)):=by
   congr 1
   ·rw[Bool.eq_iff_iff,beq_iff_eq,beq_iff_eq];omega
   ·rw[Bool.eq_iff_iff,beq_iff_eq,beq_iff_eq];omega
  rw[hb];have aX:∀nm,∀c∈gget (grp (ksQ q) z).2 nm,c∈z:=by
   intro nm c hc;rw[hG.m]at hc;exact(t2s.1 hc).1
  have kR:∀nm,(gget (grp (ksQ q) z).2 nm).length<=20000:=by
   intro nm;rw[hG.m];exact t2p (List.length_filter_le _ _) cH
  cases hs:((ksQ q).length==0)&& (z.length==0)with
  |true=>
   have e:outs q z=[Cnt.mk (k0m q (ksQ q) (agQ q) []) 1]:=by unfold outs;rw[hgr,hs];rfl
   have hm2:∀nm,gget (gput (grp (ksQ q) z).2 zb0 []) nm=[]\/gget (gput (grp (ksQ q) z).2 zb0 []) nm=gget (grp (ksQ q) z).2 nm:=by
    intro nm;rw[y0n];cases seq nm zb0 with
    |true=>exact .inl rfl
    |false=>exact .inr rfl
   rw[u2j];have:=s0t n K hK (ksQ q) (agQ q) (gput (grp (ksQ q) z).2 zb0 []) [zb0] q fB (by omega) eM (by omega) (by omega) (λnm c hc=>by
     rcases hm2 nm with h|h
     ·rw[h]at hc;cases hc
     ·rw[h]at hc;exact hz c (aX nm c hc)) (λnm=>by
     rcases hm2 nm with h|h
     ·rw[h];simp
     ·rw[h];have:=kR nm;omega) (by simp) (by omega) (λ(o162,iV,_)=>
 (q71z n (iV,())).bind λ(o164,_)=>
 (bif o162.1.dist then
 a0a (λfv=>a0n n fv (λ(o165,_)=>some (o165,())) (λ(_)=>none)) (n) ((o164.length:Int),0,o164,())
 else some (o164,()))) (λ_=>none) [zb0] [] rfl n [] (by simp;omega) (by simp)
   refine this.trans ?_;dsimp only;have e2:gget (gput (grp (ksQ q) z).2 zb0 []) zb0=[]:=by rw[y0n,b0h];rfl
   rw[s2m,r2z,t2u,e2, <-e,u1x,hg,r2g];exact s1y q o n gA (by omega)
  |false=>
   have e:outs q z=(grp (ksQ q) z).1.map λs=>Cnt.mk (k0m q (ksQ q) (agQ q) (gget (grp (ksQ q) z).2 s)) 1:=by unfold outs;rw[hgr,hs];rfl
   rw[u2k];have bP:=hG.l;have:=s0t n K hK (ksQ q) (agQ q) (grp (ksQ q) z).2 (grp (ksQ q) z).1 q fB (by omega) eM (by omega) (by omega) (λnm c hc=>hz c (aX nm c hc)) (λnm=>by have:=kR nm;omega) (by omega) (by omega) (λ(o162,iV,_)=>
 (q71z n (iV,())).bind λ(o164,_)=>
 (bif o162.1.dist then
 a0a (λfv=>a0n n fv (λ(o165,_)=>some (o165,())) (λ(_)=>none)) (n) ((o164.length:Int),0,o164,())
 else some (o164,()))) (λ_=>none) (grp (ksQ q) z).1 [] rfl n [] (by omega) (by simp;omega)
   refine this.trans ?_;dsimp only;rw[s2m, <-e,u1x,hg,r2g];exact s1y q o n gA (by omega)
theorem c2h{q:Query}{K:Nat}{k:Int}(hk:0<=k/\k<(q.items.length:Int)){rows:List Cnt}(h:∀c∈rows,RowR q.items.length c.r/\lSz c.r+6<=K):m1e K (o0d k rows):=e2b hk h
theorem f1a(ag:Bt){K:Nat}{col:List Cnt}(hc:m1e K col)(hl:col.length<=100000):Right (w0i ag col) 1:=
 (i1q (K+col.length+100) ag col (λc h=>by obtain⟨v,e1,e2,e3⟩:=hc c h;exact⟨v,e1,e2,by omega⟩) hl (by omega)).2
theorem w1m{m:Nat}{r:List Val}(h:RowR m r)(k:Int):Right (atI r k) 1:=by
 unfold atI;cases e:r[k.toNat]? with
 |none=>exact .null 1
 |some x=>exact h.2 x (r2v e)
theorem k1l(q:Query):∀v∈zs q,Right v 1:=by
 intro v hv;rw[(List.mem_replicate.1 hv).2];exact .null 1
theorem o0v{q:Query}{K:Nat}(ks:List Int){ag:List Int}{rows:List Cnt}(eM:∀k∈ag,0<=k/\k<(q.items.length:Int))(h:∀c∈rows,RowR q.items.length c.r/\lSz c.r+6<=K)(hl:rows.length<=100000):RowR q.items.length (k0m q ks ag rows):=by
 unfold k0m;constructor
 ·rw[q0i]
  cases rows with
  |nil=>simp[zs]
  |cons c r=>dsimp only;rw[q0i];simp[zs]
 ·refine n0s ag ?_ λk hk=>f1a _ (c2h (eM k hk) h) (by unfold o0d;rw[s2k];exact hl)
  cases rows with
  |nil=>exact k1l q
  |cons c r=>exact n0s ks (k1l q) λk _=>w1m (h c (by simp)).1 k
theorem m1m{q:Query}{z:List Cnt}{K:Nat}(hz:∀c∈z,RowR q.items.length c.r/\lSz c.r+6<=K)(cH:z.length<=20000):(∀c∈outs q z,RowR q.items.length c.r)/\(outs q z).length<=z.length+1:=by
 obtain⟨b6,eH⟩:=w0s q.items 0;have eM:∀k∈agQ q,0<=k/\k<(q.items.length:Int):=λk hk=>by have:=eH k hk;omega
 have hG:=t1s (ksQ q) z;unfold outs;cases grpB q with
 |false=>exact⟨λc hc=>(hz c hc).1,by rw[u2k];omega⟩
 |true=>
  rw[u2j];cases ((ksQ q).length==0)&& (z.length==0)with
  |true=>
   rw[u2j];refine⟨λc hc=>?_,by simp⟩;rw[s2e.1 hc];exact o0v (K:=K) (ksQ q) eM (λc hc=>by cases hc) (by simp)
  |false=>
   rw[u2k];refine⟨λc hc=>?_,by rw[s2k];have:=hG.l;omega⟩;obtain⟨s,hs,rfl⟩:=s2c.1 hc;dsimp only;rw[hG.m];exact o0v (ksQ q) eM (λc hc=>hz c (t2s.1 hc).1) (t2p (List.length_filter_le _ _) (by omega))
theorem b2o(g:Graph)(a:Ev.Arrow)(ks ks' :List Ev.Pair)(h:∀k,k∈ks↔k∈ks')(x y:Int):k0h g a ks x y=k0h g a ks' x y:=by
 have key:∀fr tg,r0w g a ks fr tg=r0w g a ks' fr tg:=by
  intro fr tg;unfold r0w;rw[show decide (Ev.Pair.mk fr tg∈ks)=decide (Ev.Pair.mk fr tg∈ks')from decide_eq_decide.2 (h _)]
 unfold k0h;rw[key,key]
theorem v1y(g:Graph)(fin:List Int->List Int->List Y2)(f1 f2:Ev.Arrow->List Ev.Pair)(h:∀a k,k∈f1 a↔k∈f2 a):∀(l:List (Ev.Dot×Ev.Arrow)) (pre:List Ev.Dot) (ds es:List Int),
  e0v g fin (l.map λz=>(z.1,z.2,f1 z.2)) pre ds es=e0v g fin (l.map λz=>(z.1,z.2,f2 z.2)) pre ds es
 |[],pre,ds,es=>rfl
 |(d,a)::r,pre,ds,es=>by
  rw[r2z,r2z,e0v,e0v];congr 1;funext x;rw[b2o g a _ _ (h a)];cases dotB d x&&fitL pre ds d.name x.id with
  |false=>rfl
  |true=>
   rw[u2j,u2j];congr 1;funext e;exact v1y g fin f1 f2 h r _ _ _
theorem u0w{q:Query}{g:Graph}(hc:chkG g=0)(pass:List Int->Bool){n m:Nat}(hn:100100<=n)(hm:100100<=m):h0o n q g pass=h0o m q g pass:=by
 have hk:∀a k,k∈rk n g a↔k∈rk m g a:=by
  intro a k;unfold rk;cases a.many with
  |false=>rfl
  |true=>rw[u2j,u2j,(s1p n hn g a.type hc).2,(s1p m hm g a.type hc).2]
 unfold h0o;cases q.dots with
 |nil=>rfl
 |cons d r=>
  dsimp only;unfold t0i i0f;congr 1;funext x;rw[v1y g (finF pass) _ _ hk]
theorem b1r(g:Graph)(pass:List Int->Bool):∀(rem:List Y16) (pre:List Ev.Dot) (ds es:List Int),AOk g ds->AOk g es->∀w∈e0v g (finF pass) rem pre ds es,AOk g w
 |[],pre,ds,es,hd,he,w,h=>by
  rw[e0v]at h;unfold finF at h;cases hp:pass (ds++es)with
  |true=>rw[hp,u2j,s2e]at h;rw[h];exact hd.app he
  |false=>rw[hp,u2k]at h;cases h
 |(d,a,ks)::r,pre,ds,es,hd,he,w,h=>by
  rw[e0v]at h;obtain⟨x,hx,h⟩:=List.mem_flatMap.1 h;cases hc:dotB d x&&fitL pre ds d.name x.id with
  |false=>rw[hc,u2k]at h;cases h
  |true=>
   rw[hc,u2j]at h;obtain⟨e,pS,h⟩:=List.mem_flatMap.1 h;exact b1r g pass r _ _ _ (hd.app (AOk.one (.inl (s2c.2 ⟨x,hx,rfl⟩)))) (he.app (AOk.one (.inr (y0s pS)))) w h
theorem q1s{n:Nat}{q:Query}{g:Graph}{pass:List Int->Bool}:∀w∈h0o n q g pass,AOk g w:=by
 intro w h;unfold h0o at h;cases hd:q.dots with
 |nil=>rw[hd]at h;cases h
 |cons d r=>
  rw[hd]at h;dsimp only at h;unfold t0i at h;obtain⟨x,hx,h⟩:=List.mem_flatMap.1 h;cases hc:dotB d x&&fitL [] [] d.name x.id with
  |false=>rw[hc,u2k]at h;cases h
  |true=>
   rw[hc,u2j]at h;exact b1r g pass _ _ _ _ (AOk.one (.inl (s2c.2 ⟨x,hx,rfl⟩))) (by intro y hy;cases hy) w h
theorem w0g:∀{l:List Val},(∀v∈l,chk v 1=0)->chks l 1=0
 |[],_=>rfl
 |v::r,h=>by
  rw[chks,h v (by simp),show((0:Int) !=0)=false from rfl,u2k]
  exact w0g λx hx=>h x (by simp[hx])
theorem q2b:∀{l:List Cnt},(∀c∈l,0<=c.n)-> ∀r,0<=cf l r
 |[],_,r=>by simp[cf]
 |c::l,h,r=>by
  have h1:=h c (by simp);have h2:=q2b (l:=l) (λd hd=>h d (by simp[hd])) r;rw[cf];cases ordL c.r r==0<;>simp<;>omega
structure Gath(l o:List Cnt):Prop where
 cb:CB o
 cf:∀w,cf o w=cf l w
 r:∀c∈o,∃d∈l,d.r=c.r
 len:o.length<=l.length
theorem Gath.uniq {l o o' :List Cnt}(h:Gath l o)(h' :Gath l o'):o=o' :=o2h h.cb h'.cb λw=>by rw[h.cf,h'.cf]
theorem Gath.n {l o:List Cnt}(h:Gath l o){M:Int}(hM:0<=M)(hn:∀c∈l,0<=c.n/\c.n<=M):∀c∈o,0<c.n/\c.n<=l.length*M:=by
 intro c hc;have e:c.n=Pure.cf l c.r:=by rw [<-h.cf,c1j h.cb.1 hc]
 have h1:=q2b (λd hd=>(hn d hd).1) c.r;have h2:=x0m hM c.r (l:=l) λd hd=>⟨by have:=(hn d hd).1;omega,(hn d hd).2⟩;have h3:=h.cb.2 c hc;rw [<-e]at h1 h2;generalize (l.length:Int)*M=y at*;omega
theorem j1s(l:List Cnt)(m:Nat)(hm:m<=30)(hr:∀c∈l,RowR m c.r)(hn:∀c∈l,0<=c.n/\c.n<=4000000)(hl:l.length<=20000):
  ∃o,Gath l o/\WB o/\RB (bSz l+6) o/\∀n,20000*(bSz l+6)+30000<=n->a1o n (l,())=some (o,()):=by
 have hD:∀c∈l,DR (bSz l+6) c/\chks c.r 1=0/\ -4000000<=c.n/\c.n<=4000000:=λc hc=>
  ⟨⟨by have:=(hr c hc).1;omega,λv hv=>b0k ((hr c hc).2 v hv),by have:=n0x hc;omega⟩,w0g λv hv=>n0j ((hr c hc).2 v hv),by have:=(hn c hc).1;omega,(hn c hc).2⟩
 have key:=λn hn2=>r1x l n (bSz l+6) 4000000 (by omega) hD (by omega) (by omega) hn2;obtain⟨o,e,a1,a2,a3,a4⟩:=key (l.length+(bSz l+6)+1100) (r2q _);have G:Gath l o:=⟨a1,a2,a3,a4⟩;refine⟨o,G,λc hc=>?_,λc hc=>?_,λn hn2=>?_⟩
 ·obtain⟨d,hd,e1⟩:=a3 c hc
  have h1:=G.n (M:=4000000) (by omega) hn c hc;have h2:=i1z c.n;rw[a0f (by omega) (by omega)]at h2;refine⟨⟨?_,λv hv=>?_⟩,h2⟩
  ·rw [<-e1,(hr d hd).1]
   unfold maxLen;omega
  ·rw [<-e1]at hv
   exact b0k ((hr d hd).2 v hv)
 ·obtain⟨d,hd,e1⟩:=a3 c hc
  rw [<-e1];have:=n0x hd;omega
 ·obtain⟨o',e',b1,b2,b3,b4⟩:=key n (by omega)
  rw[e',Gath.uniq ⟨b1,b2,b3,b4⟩ G]
theorem n2e{q:Query}{z:List Cnt}{M:Int}(hM:1<=M)(h:∀c∈z,0<=c.n/\c.n<=M):∀c∈outs q z,0<=c.n/\c.n<=M:=by
 unfold outs;cases grpB q with
 |false=>exact h
 |true=>
  rw[u2j];cases ((ksQ q).length==0)&& (z.length==0)with
  |true=>
   intro c hc;rw[u2j]at hc;rw[s2e.1 hc];exact⟨by dsimp only;omega,hM⟩
  |false=>
   intro c hc;obtain⟨s,hs,rfl⟩:=s2c.1 hc;exact⟨by dsimp only;omega,hM⟩
theorem y1c{q:Query}{z:List Cnt}(h:z.length<=2000):(outs q z).length<=2000:=by
 have hG:=t1s (ksQ q) z;unfold outs;cases grpB q with
 |false=>exact h
 |true=>
  rw[u2j];cases ((ksQ q).length==0)&& (z.length==0)with
  |true=>simp
  |false=>rw[u2k,s2k];have:=hG.l;omega
noncomputable abbrev wayS(q:Query)(g:Graph):List Y2:=h0o 100100 q g (p0s q g)
structure ZOf(q:Query)(g:Graph)(z:List Cnt):Prop where
 g:Gath (d0j q g (wayS q g)) z
 r:∀c∈z,RowR q.items.length c.r
 len:z.length<=2000
 n:∀c∈z,0<c.n/\c.n<=2000
structure OOf(q:Query)(z o:List Cnt):Prop where
 g:Gath (outs q z) o
 r:∀c∈o,RowR q.items.length c.r
 len:o.length<=2000
 n:∀c∈o,0<c.n/\c.n<=4000000
 wb:WB o
theorem e2h{q:Query}{g:Graph}(hg:GOk g)(hq:chkQ q=0)(hw:∀t∈q.wher,tOk t)(hi:∀x∈q.items,tOk x.t)(hl:(wayS q g).length<=2000):
  ∃z o,ZOf q g z/\OOf q z o/\∃N,∀n,N<=n->h0t n (q,g,())=some (fin q o,0,()):=by
 obtain⟨⟨h1,h5⟩,k4,ha,ir,har,_⟩:=k1h hq;obtain⟨⟨fN,nG⟩,b,eb,ei,ew⟩:=s0w hq;obtain⟨_,fh⟩:=q1h (q:=q) hg b hi (λx hx=>(h2q ei x hx).1) (by omega) (by omega) ha;obtain⟨N1,nr⟩:=i2t hg hq hw hi;have hAl:(d0j q g (wayS q g)).length<=2000:=by unfold d0j;rw[s2k];exact hl
 have hAr:∀c∈d0j q g (wayS q g),RowR q.items.length c.r:=by
  intro c hc;obtain⟨w,hw,rfl⟩:=s2c.1 hc;exact⟨by unfold rowV;rw[s2k],fh w (q1s w hw)⟩
 have hAn:∀c∈d0j q g (wayS q g),0<=c.n/\c.n<=1:=by
  intro c hc;obtain⟨w,hw,rfl⟩:=s2c.1 hc;exact⟨by dsimp only;omega,by dsimp only;omega⟩
 obtain⟨z,zg,zw,zr,ze⟩:=j1s (d0j q g (wayS q g)) q.items.length (by omega) hAr (λc hc=>⟨(hAn c hc).1,by have:=(hAn c hc).2;omega⟩) (by omega);have fG:∀c∈z,RowR q.items.length c.r:=by
  intro c hc;obtain⟨d,hd,e⟩:=zg.r c hc;rw [<-e];exact hAr d hd
 have cH:z.length<=2000:=by have:=zg.len;omega
 have lV:∀c∈z,0<c.n/\c.n<=2000:=by
  intro c hc;have:=zg.n (M:=1) (by omega) hAn c hc;omega
 have oc:∀c∈z,RowR q.items.length c.r/\lSz c.r+6<=bSz (d0j q g (wayS q g))+6:=λc hc=>⟨fG c hc,zr c hc⟩;obtain⟨b8,_⟩:=m1m (q:=q) oc (by omega);have gA:=y1c (q:=q) cH;have fW:=n2e (q:=q) (M:=2000) (by omega) (λc hc=>⟨by have:=(lV c hc).1;omega,(lV c hc).2⟩);obtain⟨o,og,ow,orb,oe⟩:=j1s (outs q z) q.items.length (by omega) b8 (λc hc=>⟨(fW c hc).1,by have:=(fW c hc).2;omega⟩) (by omega);refine⟨z,o,⟨zg,fG,cH,lV⟩,⟨og,λc hc=>?_,by have:=og.len;omega,λc hc=>?_,ow⟩,N1+20000*(bSz (d0j q g (wayS q g))+6)+20000*(bSz (outs q z)+6)+300000,λn hn=>?_⟩
 ·obtain⟨d,hd,e⟩:=og.r c hc
  rw [<-e];exact b8 d hd
 ·have h2:=og.n (M:=2000) (by omega) fW c hc
  omega
 ·rw[nr n (by omega),u0w hg.cg (p0s q g) (n:=n) (m:=100100) (by omega) (r2q _)]
  rw[decide_eq_true hl,u2j,ze n (by omega),r2g];dsimp only;rw[i2a q z o n (bSz (d0j q g (wayS q g))+6) (by omega) oc (by omega) (by omega) (by omega) (oe n (by omega)) (by have:=og.len;omega),r2g]
theorem Gath.self {l:List Cnt}(h:CB l):Gath l l:=⟨h,λ_=>rfl,λc hc=>⟨c,hc,rfl⟩,r2q _⟩
theorem o1u(r:List Val){n:Int}(h:n≠0):CB [Cnt.mk r n]:=⟨by simp[e0s],by simpa using h⟩
theorem s0y{q:Query}{g:Graph}(hg:GOk g)(hq:chkQ q=0)(hw:∀t∈q.wher,tOk t)(hi:∀x∈q.items,tOk x.t)(hl:(wayS q g).length<=2000){z o:List Cnt}(hz:Gath (d0j q g (wayS q g)) z)(ho:Gath (outs q z) o):
  ∃N,∀n,N<=n->h0t n (q,g,())=some (fin q o,0,()):=by
 obtain⟨z',o',h1,h2,N,h3⟩:=e2h hg hq hw hi hl;have e1:z' =z:=h1.g.uniq hz;subst e1;have e2:o' =o:=h2.g.uniq ho;subst e2;exact⟨N,h3⟩
def numV(n:Int):Val:=.mk 2 n zb0 []
theorem i1h{r:List Val}{n:Int}(hr:r.length<=30)(hv:∀v∈r,Right v 1)(hn:wfI .i64 n):∃N,∀m,N<=m->q39z m ([Cnt.mk r n],[Cnt.mk r n],())=some (true,()):=
 ⟨bSz [Cnt.mk r n]+2100,λm hm=>h1z _ m (λc hc=>by
  rw[s2e.1 hc];exact⟨⟨by dsimp only;unfold maxLen;omega,λv cM=>b0k (hv v cM)⟩,hn⟩) (by simp) hm⟩
def g3:Graph:=Graph.mk [Ev.Node.mk 1 [] [],Ev.Node.mk 2 [] [],Ev.Node.mk 3 [⟨#[65]⟩] []] [Edg.mk 4 1 2 zb20 [],Edg.mk 5 2 3 zb20 []] 6
theorem u1m:gOk g3:=by
 unfold gOk g3;simp[nOk,eOk,maxLen,wfI]
 decide
def q0:Query:=Query.mk [Ev.Dot.mk ⟨#[97]⟩ zb0] [] [] [Ev.Item.mk ⟨#[110]⟩ zb14 (Term.mk 4 (Val.mk 0 0 zb0 []) zb5 [Term.mk 2 (Val.mk 0 0 zb0 []) ⟨#[97]⟩ []])] false
theorem y1k(n:Nat):q97z (n+1000) (zb30,())=some (q0,0,0,()):=by kernel_rfl
theorem p2x:chkQ q0=0:=by kernel_rfl
def z0:List Cnt:=[Cnt.mk [numV 1] 1,Cnt.mk [numV 2] 1,Cnt.mk [numV 3] 1]
theorem j2i:d0j q0 g3 (wayS q0 g3)=z0:=by kernel_rfl
theorem f2k:(wayS q0 g3).length=3:=by kernel_rfl
theorem i2p:outs q0 z0=[Cnt.mk [numV 3] 1]:=by kernel_rfl
theorem q2t:CB z0:=by
 have e1:ordL [numV 1] [numV 2]= -1:=by kernel_rfl
 have e2:ordL [numV 1] [numV 3]= -1:=by kernel_rfl
 have e3:ordL [numV 2] [numV 3]= -1:=by kernel_rfl
 constructor
 ·unfold e0s z0
  simp[e1,e2,e3]
 ·unfold z0
  simp
theorem z1l:∃N,∀n,N<=n->q53z n ()=some (true,()):=by
 have hi:∀x∈q0.items,tOk x.t:=by
  intro x hx;have e:q0.items=[Ev.Item.mk ⟨#[110]⟩ zb14 (Term.mk 4 (Val.mk 0 0 zb0 []) zb5 [Term.mk 2 (Val.mk 0 0 zb0 []) ⟨#[97]⟩ []])]:=rfl;rw[e,s2e]at hx;subst hx;simp[tOk,tOks,vOk,vOks,wfI,maxLen]
  decide
 obtain⟨N1,h1⟩:=s0y ⟨u1m,by kernel_rfl⟩ p2x (by intro t ht;cases ht) hi (by rw[f2k];omega) (z:=z0) (o:=[Cnt.mk [numV 3] 1]) (by rw[j2i];exact Gath.self q2t) (by rw[i2p];exact Gath.self (o1u _ (by omega)));obtain⟨N2,h2⟩:=i1h (r:=[numV 3]) (n:=1) (by simp) (by intro v hv;rw[s2e.1 hv];exact .int 3 1 (by unfold wfI;decide)) (by unfold wfI;decide);refine⟨N1+N2+1000,λn hn=>?_⟩;have hp:=y1k (n - 1000);rw[show n - 1000+1000=n by omega]at hp;unfold q53z q54z;rw[r2g];dsimp only;unfold w0j;dsimp only;rw[hp,r2g];dsimp only;rw[show((0:Int) !=0)=false from rfl,u2k]
 have h1:=h1 n (by omega);rw[show fin q0 [Cnt.mk [numV 3] 1]=[Cnt.mk [numV 3] 1]from rfl]at h1
 unfold g3 at h1;rw[h1,r2g,r2g];dsimp only;rw[show(((0:Int)==0)&& ((0:Int)==0))=true from rfl,u2j]
 unfold q66z;rw[r2g];show((q39z n ([Cnt.mk [numV 3] 1],[Cnt.mk [numV 3] 1],())).bind λx=>some (x.1,()))=some (true,());rw[h2 n (by omega)];rfl
theorem c2b(q:Query)(g:Graph)(n:Nat)(hn:400<=n)(h:chkQ q≠0):c0n n (q,g,())=some ([],chkQ q,()):=by
 unfold c0n;dsimp only
 first|rw[e0z,h0b q n hn,r2g]| rw[h0b q n hn,r2g]
 dsimp only;rw[show(chkQ q !=0)=true by simpa[bne]using h,u2j]
theorem y1w(q:Query)(g:Graph)(n:Nat)(hn:400<=n)(hq:chkQ q=0)(h:chkG g≠0):c0n n (q,g,())=some ([],chkG g,()):=by
 unfold c0n;dsimp only
 first|rw[e0z,h0b q n hn,r2g,hq]| rw[h0b q n hn,r2g,hq]
 dsimp only;rw[show((0:Int) !=0)=false from rfl,u2k,e0x,r0j g n (by omega),r2g]
 dsimp only;rw[show(chkG g !=0)=true by simpa[bne]using h,u2j]
theorem q1k{q:Query}{g:Graph}(hg:GOk g)(hq:chkQ q=0)(hw:∀t∈q.wher,tOk t):∃N,∀n,N<=n->c0n n (q,g,())=bif decide ((wayS q g).length<=2000)then some (i0p ltLL (wayS q g),0,())else some ([],10,()):=by
 obtain⟨⟨h1,h5⟩,k4,ha,ir,har,_⟩:=k1h hq;obtain⟨_,b,eb,ei,ew⟩:=s0w hq;obtain⟨N1,hN1,hp⟩:=o1w hg b hw ew k4 (by omega) ha;refine⟨N1+300000,λn hn=>?_⟩;rw[h1k q g hg.cg (p0s q g) N1 hN1 hp (by omega) h1 ha n (by omega) (by rw[h0b q n (by omega),hq]),u0w hg.cg (p0s q g) (n:=n) (m:=100100) (by omega) (r2q _)]
def o1j:Ev.Item:=Ev.Item.mk ⟨#[122]⟩ zb14 (Term.mk 1 (Val.mk 2 1 zb0 []) zb0 [])
def cQ(q:Query):Query:=Query.mk q.dots q.arrows q.wher [o1j] q.dist
theorem m2u(b:List Y21):itF b [o1j] []=0:=by
 have h1:o0e ⟨#[122]⟩=true:=by kernel_rfl
 have h2:hasL aggs zb14=true:=by kernel_rfl
 have h3:tchk b (Term.mk 1 (Val.mk 2 1 zb0 []) zb0 []) 1=0:=by kernel_rfl
 rw[itF,itF];unfold o1j;dsimp only;rw[h1,h2,h3];rfl
theorem j1e{q:Query}(h:chkQ q=0)(its:List Ev.Item)(d:Bool)(h1:1<=its.length/\its.length<=5)(hi:∀b,nmA q.arrows (nmD q.dots [])=some b->itF b q.items []=0->itF b its []=0):chkQ (Query.mk q.dots q.arrows q.wher its d)=0:=by
 obtain⟨b0,e0,i0⟩:∃b,nmA q.arrows (nmD q.dots [])=some b/\itF b q.items []=0:=by
  obtain⟨_,b,e,i,_⟩:=s0w h;exact⟨b,e,i⟩
 unfold chkQ at h⊢;dsimp only at h⊢;cases hb:((((decide (((q.dots.length:Int):Int)<1)) || (decide (((q.dots.length:Int):Int) >5))) || (decide (((q.items.length:Int):Int)<1))) || (decide (((q.items.length:Int):Int) >5))) || (decide (((q.wher.length:Int):Int) >1))with
 |true=>rw[hb,u2j]at h;cases h
 |false=>
  rw[hb,u2k]at h;simp only[r2x,decide_eq_false_iff_not]at hb;have hb2:(((((decide (((q.dots.length:Int):Int)<1)) || (decide (((q.dots.length:Int):Int) >5))) || (decide (((its.length:Int):Int)<1))) || (decide (((its.length:Int):Int) >5))) || (decide (((q.wher.length:Int):Int) >1)))=false:=by
   simp only[r2x,decide_eq_false_iff_not];omega
  rw[hb2,u2k];cases h2:(((q.arrows.length:Int):Int) !=(q.dots.length:Int) - 1)with
  |true=>rw[h2]at h;cases h
  |false=>
  rw[h2,u2k]at h;rw[u2k];cases h3:q.dots.all dtB with
  |false=>rw[h3]at h;cases h
  |true=>
  rw[h3,s2l,u2k]at h;rw[s2l,u2k];cases h4:q.arrows.all arB with
  |false=>rw[h4]at h;cases h
  |true=>
  rw[h4,s2l,u2k,e0]at h;rw[s2l,u2k,e0];dsimp only at h⊢;cases h5:whF b0 q.wher !=0 with
  |true=>rw[h5,u2j]at h;rw[h]at h5;cases h5
  |false=>rw[u2k];exact hi b0 e0 i0
theorem d2c(r:List Val)(w:List Val):∀k:Nat,cf (List.replicate k (Cnt.mk r 1)) w=bif ordL r w==0 then(k:Int)else 0
 | 0=>by cases h:ordL r w==0<;>rfl
 |k+1=>by
  rw[List.replicate_succ,cf,d2c r w k];dsimp only;cases h:ordL r w==0<;>simp;omega
theorem k2y(r w:List Val)(n:Int):cf [Cnt.mk r n] w=bif ordL r w==0 then n else 0:=by
 rw[cf,cf];dsimp only;cases h:ordL r w==0<;>simp
theorem f2l(q:Query)(g:Graph)(W:List Y2):d0j (cQ q) g W=List.replicate W.length (Cnt.mk [numV 1] 1):=by
 unfold d0j
 induction W with
 |nil=>rfl
 |cons w r ih=>
  rw[r2z,r2w,List.replicate_succ,ih];congr 1
def cZ(k:Nat):List Cnt:=match k with| 0=>[]| k+1=>[Cnt.mk [numV 1] ((k+1:Nat):Int)]
theorem g2t(k:Nat):Gath (List.replicate k (Cnt.mk [numV 1] 1)) (cZ k):=by
 cases k with
 |zero=>exact Gath.self ⟨by simp[cZ,e0s],by simp[cZ]⟩
 |succ k=>
  refine⟨o1u _ (by omega),λw=>?_,λc hc=>?_,by simp[cZ]⟩
  ·rw[d2c]
   unfold cZ;rw[k2y]
  ·unfold cZ at hc
   rw[s2e.1 hc];exact⟨Cnt.mk [numV 1] 1,by simp,rfl⟩
theorem h2g(q:Query)(k:Nat)(hk:k<=2000):outs (cQ q) (cZ k)=[Cnt.mk [numV k] 1]:=by
 cases k with
 |zero=>kernel_rfl
 |succ k=>
  have e:outs (cQ q) (cZ (k+1))=[Cnt.mk [Val.mk 2 (wI (0+((k+1:Nat):Int))) zb0 []] 1]:=by kernel_rfl
  rw[e,a0f (by omega) (by omega)];unfold numV;congr 4;omega
theorem u0c:∀{l:List Cnt} {prev:Option Y9},(∀c∈l,c.r.length<=30/\chks c.r 1=0/\c.n≠0/\big c.n=false)->e0s l->(∀p,prev=some p->∀c∈l,ordL p c.r<0)->bgF prev l=0
 |[],_,_,_,_=>rfl
 |c::r,prev,h,hs,hp=>by
  obtain⟨h1,h2⟩:=t2l.1 hs;obtain⟨a1,a2,a3,a4⟩:=h c (by simp);have hf:m1j prev c.r=false:=by
   cases prev with
   |none=>rfl
   |some p=>
    have:=hp p rfl c (by simp);unfold m1j;rw[decide_eq_false_iff_not];omega
  rw[bgF,decide_eq_false (by omega),u2k,a2,show((0:Int) !=0)=false from rfl,u2k,beq_eq_false_iff_ne.2 a3,u2k,hf,u2k,a4,u2k]
  exact u0c (λd hd=>h d (by simp[hd])) h2 λp gR d hd=>by cases gR;exact h1 d hd
theorem d2u{m:Nat}(hm:m<=30){o:List Cnt}(hs:e0s o)(hl:o.length<=2000)(hr:∀c∈o,RowR m c.r)(hn:∀c∈o,0<c.n/\c.n<=4000000):bgE o=0:=by
 unfold bgE;rw[decide_eq_false (by omega),u2k];refine u0c (λc hc=>⟨by have:=(hr c hc).1;omega,w0g λv hv=>n0j ((hr c hc).2 v hv),by have:=(hn c hc).1;omega,?_⟩) hs (λp hp=>by cases hp);unfold big;have:=hn c hc;rw[decide_eq_false (by omega),decide_eq_false (by omega)];rfl
theorem g1s{o:List Cnt}(hs:e0s o):e0s (ones o):=by
 unfold ones e0s at*;rw[List.pairwise_map];exact hs
theorem c2v{o:List Cnt}(hn:∀c∈o,0<c.n):dst o=ones o:=by
 unfold dst ones;rw[List.filter_eq_self.2 λc hc=>decide_eq_true (by have:=hn c hc;omega)]
theorem i2c{m:Nat}(hm:m<=30){o:List Cnt}(hs:e0s o)(hl:o.length<=2000)(hr:∀c∈o,RowR m c.r)(hn:∀c∈o,0<c.n/\c.n<=4000000)(wo:WB o):
  ∃N,∀n,N<=n->q83z n (o,())=some (ones o,0,())/\q39z n (ones o,ones o,())=some (true,()):=by
 have h0:=d2u hm hs hl hr hn;have b8:∀c∈ones o,RowR m c.r:=by
  intro c hc;obtain⟨d,hd,rfl⟩:=s2c.1 hc;exact hr d hd
 have fW:∀c∈ones o,0<c.n/\c.n<=4000000:=by
  intro c hc;obtain⟨d,hd,rfl⟩:=s2c.1 hc;exact⟨by dsimp only;omega,by dsimp only;omega⟩
 have gA:(ones o).length<=2000:=by unfold ones;rw[s2k];exact hl
 have h1:=d2u hm (g1s hs) gA b8 fW;have wo1:WB (ones o):=by
  intro c hc;obtain⟨d,hd,rfl⟩:=s2c.1 hc;exact⟨(wo d hd).1,(by show wfI .i64 1;unfold wfI;decide)⟩
 have rb:RB (bSz o+6) o:=λc hc=>by have:=n0x hc;omega
 refine⟨20000*(bSz o+6)+30000+bSz o+2100+bSz (ones o),λn hn2=>⟨?_,h1z _ n wo1 gA (by omega)⟩⟩;obtain⟨_,_,_,e⟩:=(d1w o n (bSz o+6) wo rb (by omega) (by omega)).2 h0;rw[e,c2v λc hc=>(hn c hc).1,h1];rfl
theorem AskCounts_ok{q:Query}{g:Graph}(hg:gOk g)(ht:∀t∈q.wher,tOk t)(hi:∀x∈q.items,tOk x.t):∃N,∀n,N<=n->q31z n (q,g,())=some (true,()):=by
 obtain⟨N1,hm⟩:=z1l;have early:∀n,N1<=n->∀e:Int,c0n n (q,g,())=some ([],e,())->e≠0->q31z n (q,g,())=some (true,()):=by
  intro n hn e he h0;unfold q31z;dsimp only;rw[he,r2g];dsimp only;rw[hm n hn,r2g];dsimp only;rw[show(e !=0)=true by simpa[bne]using h0,t2n,u2j,r2g]
 by_cases hq:chkQ q=0
 ·by_cases hc:chkG g=0
  ·have hG:GOk g:=⟨hg,hc⟩
   obtain⟨⟨fN,nG⟩,_⟩:=s0w hq;obtain⟨N2,bB⟩:=q1k hG hq ht;by_cases hl:(wayS q g).length<=2000
   ·-- the count
    have q1:chkQ (cQ q)=0:=j1e hq [o1j] q.dist (by simp) λb _ _=>m2u b;have nq:∀x∈(cQ q).items,tOk x.t:=by
     intro x hx;rw[show(cQ q).items=[o1j]from rfl,s2e]at hx
     subst hx;unfold o1j;simp[tOk,tOks,vOk,vOks,wfI,maxLen]
     decide
    obtain⟨N3,h3⟩:=s0y hG q1 ht nq (show(wayS q g).length<=2000 from hl) (z:=cZ (wayS q g).length) (o:=[Cnt.mk [numV (wayS q g).length] 1]) (by rw[f2l];exact g2t _) (by rw[h2g q _ hl];exact Gath.self (o1u _ (by omega)))
    have wn:wfI .i64 ((wayS q g).length:Int):=by
     have:=i1z ((wayS q g).length:Int);rwa[a0f (by omega) (by omega)]at this
    obtain⟨N4,h4⟩:=i1h (r:=[numV (wayS q g).length]) (n:=1) (by simp) (by intro v hv;rw[s2e.1 hv];exact .int _ 1 wn) (by unfold wfI;decide)
    -- each row once
    have q2:∀d,chkQ (Query.mk q.dots q.arrows q.wher q.items d)=0:=λd=>j1e hq q.items d (by omega) λb _ h=>h;obtain⟨z2,o2,hz2,ho2,N5,h5⟩:=e2h (q:=Query.mk q.dots q.arrows q.wher q.items true) hG (q2 true) ht hi hl;obtain⟨N6,h6⟩:=s0y (q:=Query.mk q.dots q.arrows q.wher q.items false) hG (q2 false) ht hi hl (z:=z2) (o:=o2) hz2.g ho2.g;obtain⟨N7,h7⟩:=i2c (m:=q.items.length) (by omega) ho2.g.cb.1 ho2.len ho2.r ho2.n ho2.wb;refine⟨N1+N2+N3+N4+N5+N6+N7,λn hn=>?_⟩;unfold q31z;dsimp only;rw[bB n (by omega),decide_eq_true hl,u2j,r2g];dsimp only;rw[hm n (by omega),r2g];dsimp only;rw[show((!true) || ((0:Int) !=0))=false from rfl,u2k]
    unfold q66z;rw[r2g];have h3:=h3 n (by omega);rw[show fin (cQ q) [Cnt.mk [numV (wayS q g).length] 1]=[Cnt.mk [numV (wayS q g).length] 1]by unfold fin;cases (cQ q).dist<;>rfl]at h3;refine(congrArg (λo=>Option.bind o _) h3).trans ?_;rw[r2g];dsimp only;rw[show((0:Int) !=0)=false from rfl,u2k,r2g,p0f]
    refine(congrArg (λo=>Option.bind o _) (h4 n (by omega))).trans ?_;rw[r2g];dsimp only;rw[s2l,u2k,h5 n (by omega),r2g];dsimp only;rw[h6 n (by omega),r2g];dsimp only;obtain⟨e7,e8⟩:=h7 n (by omega);rw[show fin (Query.mk q.dots q.arrows q.wher q.items false) o2=o2 from rfl,show fin (Query.mk q.dots q.arrows q.wher q.items true) o2=ones o2 from rfl,e7,r2g]
    dsimp only;rw[show((((0:Int)==0)&& ((0:Int)==0))&& ((0:Int)==0))=true from rfl,u2j,e8,r2g]
   ·refine⟨N1+N2,λn hn=>early n (by omega) 10 ?_ (by omega)⟩
    rw[bB n (by omega),decide_eq_false hl,u2k]
  ·exact⟨N1+400,λn hn=>early n (by omega) (chkG g) (y1w q g n (by omega) hq hc) hc⟩
 ·exact⟨N1+400,λn hn=>early n (by omega) (chkQ q) (c2b q g n (by omega) hq) hq⟩
end Pure.Ak

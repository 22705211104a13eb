import Derived.Test.YtnaeiccibhdknaaGreatDoorPTL
set_option linter.unusedSimpArgs false
set_option linter.unusedVariables false
namespace Pure
open Esp Ev Go
inductive W(R:Int->Int->Prop)(V:Int->Prop):Int->Int->Prop
 |one {a b:Int}:R a b->W R V a b
 |two {a c b:Int}:W R V a c->V c->W R V c b->W R V a b
def Rc(R:Int->Int->Prop):Int->Int->Prop:=W R λ_=>True
theorem Rc.one {R:Int->Int->Prop}{a b:Int}(h:R a b):Rc R a b:=W.one h
theorem Rc.trans {R:Int->Int->Prop}{a c b:Int}(h:Rc R a c)(h' :Rc R c b):Rc R a b:=W.two h trivial h'
theorem W.src {R:Int->Int->Prop}{V:Int->Prop}{a b:Int}(w:W R V a b):∃c,R a c:=by
 induction w with
 |one h=>exact⟨_,h⟩
 |two _ _ _ i _=>exact i
theorem W.dst {R:Int->Int->Prop}{V:Int->Prop}{a b:Int}(w:W R V a b):∃c,R c b:=by
 induction w with
 |one h=>exact⟨_,h⟩
 |two _ _ _ _ j=>exact j
theorem Rc.close {R:Int->Int->Prop}{a b:Int}(S:Int->Prop)(h1:∀t,R a t->S t)(h2:∀t u,S t->R t u->S u)(w:Rc R a b):S b:=by
 have key:∀{c d:Int},W R (λ_=>True) c d->(S c\/c=a)->S d:=by
  intro c d w
  induction w with
  |one h=>rintro(hs|rfl);exact h2 _ _ hs h;exact h1 _ h
  |two _ _ _ i j=>intro hs;exact j (.inl (i hs))
 exact key w (.inr rfl)
instance:DecidableEq Ev.Pair:=λa b=>decidable_of_iff (a.p=b.p/\a.q=b.q) (by cases a;cases b;simp)
theorem t0z(a b:Ev.Pair):b0l .pair a b=decide (a=b):=by
 show(a.p==b.p&&a.q==b.q)=_;cases a;cases b;rw[Bool.eq_iff_iff];simp
def tr(ks:List Ev.Pair):List (Ev.Pair×Bool):=ks.map λk=>(k,true)
def ins(ks:List Ev.Pair)(k:Ev.Pair):List Ev.Pair:=if k∈ks then ks else ks++ [k]
theorem mem_ins{ks:List Ev.Pair}{k x:Ev.Pair}:x∈ins ks k↔x∈ks\/x=k:=by
 unfold ins;split
 ·constructor
  ·exact .inl
  ·rintro(h|rfl);exact h;assumption
 ·simp
theorem v1c{ks:List Ev.Pair}(h:ks.Nodup)(k:Ev.Pair):(ins ks k).Nodup:=by
 unfold ins;split
 ·exact h
 ·rename_i hk
  rw[List.nodup_append];refine⟨h,by simp,λa ha b hb=>?_⟩;simp at hb;subst hb;intro e;subst e;exact hk ha
theorem m0s(ks:List Ev.Pair)(k:Ev.Pair):a0k .pair .bool false (tr ks) k=decide (k∈ks):=by
 induction ks with
 |nil=>rfl
 |cons a r ih=>
  show(bif b0l .pair k a then true else a0k .pair .bool false (tr r) k)=_
  rw[t0z,ih];by_cases h:k=a
  ·simp[h]
  ·simp[h]
theorem o2t(ks:List Ev.Pair)(k:Ev.Pair):b0d .pair .bool (tr ks) k true=tr (ins ks k):=by
 induction ks with
 |nil=>rfl
 |cons a r ih=>
  show(bif b0l .pair k a then(k,true)::tr r else(a,true)::b0d .pair .bool (tr r) k true)=_
  rw[t0z,ih];by_cases h:k=a
  ·subst h;simp[ins,tr]
  ·rw[decide_eq_false h,u2k]
   unfold ins;by_cases h2:k∈r
   ·simp[h2,tr]
   ·simp[h2,h,tr]
theorem l2x{l m:List Ev.Pair}(hl:l.Nodup)(h:∀x∈l,x∈m):l.length<=m.length:=by
 induction l generalizing m with
 |nil=>simp
 |cons a r ih=>
  have ha:a∈m:=h a (by simp);have h1:=ih (m:=m.erase a) (List.nodup_cons.1 hl).2 λx hx=>(List.mem_erase_of_ne λe:x=a=>(List.nodup_cons.1 hl).1 (e▸hx)).2 (h x (by simp[hx]));rw[List.length_erase_of_mem ha]at h1;have:0<m.length:=List.length_pos_of_mem ha;simp;omega
def prod(ns:List Int):List Ev.Pair:=ns.flatMap λa=>ns.map λb=>Ev.Pair.mk a b
theorem mem_prod{ns:List Int}{x:Ev.Pair}:x∈prod ns↔x.p∈ns/\x.q∈ns:=by
 unfold prod;simp only[List.mem_flatMap,s2c];constructor
 ·rintro⟨a,ha,b,hb,rfl⟩;exact⟨ha,hb⟩
 ·rintro⟨h1,h2⟩;exact⟨x.p,h1,x.q,h2,rfl⟩
theorem g1k(ns:List Int):(prod ns).length=ns.length*ns.length:=by
 unfold prod;have:∀(ms:List Int),(ms.flatMap λa=>ns.map λb=>Ev.Pair.mk a b).length=ms.length*ns.length:=by
  intro ms
  induction ms with
  |nil=>simp
  |cons a r ih=>simp only[s2o,r2t,ih,s2k,r2w,Nat.succ_mul];omega
 exact this ns
theorem e1s{ks:List Ev.Pair}{ns:List Int}(hn:ks.Nodup)(h:∀x∈ks,x.p∈ns/\x.q∈ns)(bX:ns.length<=40):ks.length<=1600:=by
 have h1:=l2x hn (m:=prod ns) λx hx=>mem_prod.2 (h x hx);rw[g1k]at h1;have:=Nat.mul_le_mul bX bX;omega
def kd(kind:Bt)(x:Edg):Bool:=seq kind zb0 || seq x.type kind
def stp(kind:Bt)(l:List Edg)(a b:Int):Prop:=∃x∈l,kd kind x=true/\x.src=a/\x.dst=b
theorem p0z(kind:Bt)(l:List Edg)(s t:Int):t∈a0k .i64 (.lst .i64) [] (g0x kind l) s↔stp kind l s t:=by
 have h:∀(l:List Edg) (m:List (Int×List Int)),t∈a0k .i64 (.lst .i64) [] (l.foldl (g0b kind) m) s↔t∈a0k .i64 (.lst .i64) [] m s\/stp kind l s t:=by
  intro l
  induction l with
  |nil=>intro m;simp[stp]
  |cons x r ih=>
   intro m;rw[List.foldl_cons,ih];have e:stp kind (x::r) s t↔(kd kind x=true/\x.src=s/\x.dst=t)\/stp kind r s t:=by
    unfold stp;simp
   rw[e, <-or_assoc];refine or_congr ?_ Iff.rfl;unfold g0b;cases hb:(seq kind zb0 || seq x.type kind)with
   |false=>
    have:kd kind x=false:=hb;simp[this]
   |true=>
    have hk:kd kind x=true:=hb;rw[u2j,z0q];split
    ·rename_i hs
     rw [<-hs];simp[hk,eq_comm]
    ·rename_i hs
     simp[hk,Ne.symm hs]
 have:=h l [];simpa[g0x,a0k]using this
theorem r2d{n:Nat}(h:n<=1000000):room n 8=true:=by
 unfold room;rw[r2i];exact⟨r2y (by omega),r2y (by omega)⟩
theorem p2n{α:Type}(p:List α)(e:α)(h:p.length<=1000000):ix (p++ [e]) (wI (((p++ [e]).length:Int) - 1))=some e:=by
 rw[a0f (by simp) (by simp;omega),show(((p++ [e]).length:Int) - 1)=(p.length:Int)by simp];exact a0r (by simp)
theorem i2i{α:Type}(p:List α)(e:α)(h:p.length<=1000000):(p++ [e])[(wI (((p++ [e]).length:Int) - 1):Int).toNat]?=some e:=by
 rw[a0f (by simp) (by simp;omega),show((((p++ [e]).length:Int) - 1)).toNat=p.length by simp];simp
theorem i2e{α:Type}(p:List α)(e:α)(h:p.length<=1000000):cut? (p++ [e]) (wI (((p++ [e]).length:Int) - 1))=some p:=by
 rw[a0f (by simp) (by simp;omega),show(((p++ [e]).length:Int) - 1)=(p.length:Int)by simp];unfold cut?;rw[if_pos (by simp;omega)];simp
def idsN(g:Graph):List Int:=g.nodes.map Ev.Node.id
structure Ends(R:Int->Int->Prop)(ns:List Int):Prop where
 s:∀a b,R a b->a∈ns
 d:∀a b,R a b->b∈ns
theorem Ends.p {R:Int->Int->Prop}{ns:List Int}(h:Ends R ns){a b:Int}(w:Rc R a b):a∈ns:=by
 obtain⟨c,hc⟩:=W.src w;exact h.s _ _ hc
theorem Ends.q {R:Int->Int->Prop}{ns:List Int}(h:Ends R ns){a b:Int}(w:Rc R a b):b∈ns:=by
 obtain⟨c,hc⟩:=W.dst w;exact h.d _ _ hc
theorem q1t{l:List Ev.Node}{t:Int}(h:(c0c l t).isNone=false):t∈l.map Ev.Node.id:=by
 cases hx:c0c l t with
 |none=>rw[hx]at h;cases h
 |some x=>
  have h1:=List.mem_of_find?_eq_some hx;have h2:=List.find?_some hx;exact s2c.2 ⟨x,h1,by simpa using h2⟩
theorem j2c{g:Graph}(hc:chkG g=0)(kind:Bt):Ends (stp kind g.edges) (idsN g):=by
 obtain⟨_,_,_,h4⟩:=i0a hc;refine⟨?_,?_⟩
 ·rintro a b ⟨x,hx,_,rfl,_⟩
  exact q1t (k1m h4 x hx).2.2.1
 ·rintro a b ⟨x,hx,_,_,rfl⟩
  exact q1t (k1m h4 x hx).2.2.2
theorem h2z{g:Graph}(hc:chkG g=0):(idsN g).length<=40:=by
 obtain⟨h,_⟩:=i0a hc;unfold idsN;simpa using h
theorem k2o(n:Nat)(g:Graph)(kind:Bt)(hE:Ends (stp kind g.edges) (idsN g))(hN:(idsN g).length<=40)(he:g.edges.length<=60){ρ:Type}(kx:Y40×Y17×Int×Int×Y7×Unit->Option ρ)(v12:List Ev.Node)(fi fE:Int)(x:Ev.Node)(ks0:List Ev.Pair):
  ∀(fuel:Nat) (ks:List Ev.Pair) (td:List Int),ks.Nodup->(∀k∈ks,Rc (stp kind g.edges) k.p k.q)->(∀k∈ks,k∈ks0\/(k.p=x.id/\Rc (stp kind g.edges) x.id k.q))->(∀k∈ks0,k∈ks)->
   (∀t∈td,Rc (stp kind g.edges) x.id t)->(∀t,stp kind g.edges x.id t->t∈td\/Ev.Pair.mk x.id t∈ks)->(∀t,Ev.Pair.mk x.id t∈ks->∀u,stp kind g.edges t u->u∈td\/Ev.Pair.mk x.id u∈ks)->
   td.length+61*(1600 - ks.length)<fuel->td.length+61*(1600 - ks.length)<=100000->
   ∃ks' :List Ev.Pair,ks'.Nodup/\(∀k,k∈ks' ↔k∈ks0\/(k.p=x.id/\Rc (stp kind g.edges) x.id k.q))/\
    a0a (λmM=>f0x n mM kx (λ(_)=>none)) fuel (g0x kind g.edges,v12,fi,fE,(x,()),tr ks,td,())=kx (g0x kind g.edges,v12,fi,fE,tr ks',()):=by
 intro fuel
 induction fuel with
 |zero=>intro ks td _ _ _ _ _ _ _ h _;exact absurd h (Nat.not_lt_zero _)
 |succ f ih=>
  intro ks td eO hs h0 mj lD dO bU hf hM;rw[a0a];unfold f0x;dsimp only;rcases List.eq_nil_or_concat td with rfl|⟨p,e,rfl⟩
  ·refine⟨ks,eO,λk=>⟨h0 k,?_⟩,rfl⟩
   rintro(h|⟨h1,h2⟩)
   ·exact mj k h
   ·have h3:Ev.Pair.mk x.id k.q∈ks:=Rc.close (λt=>Ev.Pair.mk x.id t∈ks) (λt ht=>(dO t ht).resolve_left (by simp)) (λt u ht hu=>(bU t ht u hu).resolve_left (by simp)) h2
    rw [<-h1]at h3;exact h3
  ·rw[List.concat_eq_append]at*
   have b7:p.length<=1000000:=by simp at hM;omega
   rw[p2n p e b7,i2i p e b7,i2e p e b7,show decide (((p++ [e]).length:Int) >0)=true by rw[decide_eq_true_iff];simp,u2j,r2g,r2g,r2g,m0s];have hre:=lD e (by simp);by_cases hm:Ev.Pair.mk x.id e∈ks
   ·rw[decide_eq_true hm]
    refine ih ks p eO hs h0 mj (λt ht=>lD t (by simp[ht])) (λt ht=>?_) (λt ht u hu=>?_) (by simp at hf;omega) (by simp at hM;omega)
    ·rcases dO t ht with h|h
     ·simp at h
      rcases h with h|rfl
      ·exact .inl h
      ·exact .inr hm
     ·exact .inr h
    ·rcases bU t ht u hu with h|h
     ·simp at h
      rcases h with h|rfl
      ·exact .inl h
      ·exact .inr hm
     ·exact .inr h
   ·rw[decide_eq_false hm]
    have bP:=t2p (t0a kind e g.edges) he;have lU:∀k∈ins ks ⟨x.id,e⟩,Rc (stp kind g.edges) k.p k.q:=λk hk=>by
     rcases mem_ins.1 hk with h|rfl
     ·exact hs k h
     ·exact hre
    have jZ:=v1c eO ⟨x.id,e⟩;have hle:=e1s jZ (λk hk=>⟨hE.p (lU k hk),hE.q (lU k hk)⟩) hN;have hlen:(ins ks ⟨x.id,e⟩).length=ks.length+1:=by unfold ins;rw[if_neg hm];simp
    rw[t2m,u2j,b0v (r2d (by simp at hM⊢;omega)),o2t];refine ih _ _ jZ lU (λk hk=>?_) (λk hk=>mem_ins.2 (.inl (mj k hk))) (λt ht=>?_) (λt ht=>?_) (λt ht u hu=>?_) (by simp at hf⊢;omega) (by simp at hM⊢;omega)
    ·rcases mem_ins.1 hk with h|rfl
     ·exact h0 k h
     ·exact .inr ⟨rfl,hre⟩
    ·rcases s2j.1 ht with h|h
     ·exact lD t (by simp[h])
     ·exact hre.trans (.one ((p0z kind g.edges e t).1 h))
    ·rcases dO t ht with h|h
     ·simp at h
      rcases h with h|rfl
      ·exact .inl (by simp[h])
      ·exact .inr (mem_ins.2 (.inr rfl))
     ·exact .inr (mem_ins.2 (.inl h))
    ·rcases mem_ins.1 ht with h|h
     ·rcases bU t h u hu with h|h
      ·simp at h
       rcases h with h|rfl
       ·exact .inl (by simp[h])
       ·exact .inr (mem_ins.2 (.inr rfl))
      ·exact .inr (mem_ins.2 (.inl h))
     ·have:t=e:=by injection h
      subst this;exact .inl (s2j.2 (.inr ((p0z kind g.edges t u).2 hu)))
theorem d1f(l:List Int)(h:l.length<=1000):q29z (l,())=some (l,()):=by
 unfold q29z nilq;dsimp only;rw[s2m,b0v (e0c (by omega) (by omega))];cases l with
 |nil=>exact a0p _
 |cons a r=>rfl
theorem Node.eta (x:Ev.Node):Ev.Node.mk x.id x.labels x.props=x:=rfl
theorem p2g(n:Nat)(hn:100100<=n)(g:Graph)(kind:Bt)(hc:chkG g=0):
  ∃ks:List Ev.Pair,ks.Nodup/\(∀k,k∈ks↔Rc (stp kind g.edges) k.p k.q)/\ks.length<=1600/\g0o n (g,kind,())=some (tr ks,()):=by
 have hE:=j2c hc kind;have hN:=h2z hc;obtain⟨bX,bQ,_,_⟩:=i0a hc;have key:∀(r p:List Ev.Node) (ks:List Ev.Pair) (fuel:Nat),g.nodes=p++r->r.length<fuel->ks.Nodup->(∀k,k∈ks↔k.p∈p.map Ev.Node.id/\Rc (stp kind g.edges) k.p k.q)->
   ∃ks' :List Ev.Pair,ks'.Nodup/\(∀k,k∈ks' ↔Rc (stp kind g.edges) k.p k.q)/\
    a0a (λiz=>d0b n iz (λ(gg,_)=>some (gg,())) (λ(_)=>none)) fuel (g0x kind g.edges,g.nodes,(g.nodes.length:Int),(p.length:Int),tr ks,())=some (tr ks',()):=by
  intro r
  induction r with
  |nil=>
   intro p ks fuel hp hf eO hk;obtain⟨f,rfl⟩:∃f,fuel=f+1:=⟨fuel - 1,by omega⟩;refine⟨ks,eO,λk=>⟨λh=>((hk k).1 h).2,λh=>(hk k).2 ⟨?_,h⟩⟩,?_⟩
   ·have:=hE.p h
    unfold idsN at this;rwa[hp,s2a]at this
   ·rw[a0a]
    unfold d0b;dsimp only;rw[show decide ((p.length:Int)<(g.nodes.length:Int))=false by rw[hp];simp,u2k]
  |cons x r ih=>
   intro p ks fuel hp hf eO hk;obtain⟨f,rfl⟩:∃f,fuel=f+1:=⟨fuel - 1,by omega⟩;have iN:g.nodes.length=p.length+(r.length+1):=by rw[hp];simp
   have bP:=t2p (t0a kind x.id g.edges) bQ;rw[a0a];unfold d0b;dsimp only;rw[show decide ((p.length:Int)<(g.nodes.length:Int))=true by rw[decide_eq_true_iff];omega,u2j,a0r (x:=x) (by rw[hp];simp),r2g,d1f _ (by omega),r2g];dsimp only;rw[Node.eta];have hs:∀k∈ks,Rc (stp kind g.edges) k.p k.q:=λk h=>((hk k).1 h).2;have hle:=e1s eO (λk h=>⟨hE.p (hs k h),hE.q (hs k h)⟩) hN;obtain⟨ks1,n1,m1,e1⟩:=k2o n g kind hE hN bQ (λ(v20,v21,v22,fq,p6,_)=>a0a (λiz=>d0b n iz (λ(gg,_)=>some (gg,())) (λ(_)=>none)) f (v20,v21,v22,wI (fq+1),p6,())) g.nodes (g.nodes.length:Int) (p.length:Int) x ks n ks
    (a0k .i64 (.lst .i64) [] (g0x kind g.edges) x.id) eO hs (λk h=>.inl h) (λk h=>h) (λt h=>.one ((p0z kind g.edges x.id t).1 h)) (λt h=>.inl ((p0z kind g.edges x.id t).2 h))
    (λt h u hu=>.inr ((hk _).2 ⟨((hk _).1 h).1,((hk _).1 h).2.trans (.one hu)⟩)) (by omega) (by omega)
   obtain⟨ks2,n2,m2,e2⟩:=ih (p++ [x]) ks1 f (by simp[hp]) (by simp at hf;omega) n1 λk=>by
    rw[m1,hk];simp only[List.map_append,r2z,t2u,s2j,s2e];constructor
    ·rintro(⟨h1,h2⟩| ⟨h1,h2⟩)
     ·exact⟨.inl h1,h2⟩
     ·exact⟨.inr h1,by rw[h1];exact h2⟩
    ·rintro⟨h1|h1,h2⟩
     ·exact .inl ⟨h1,h2⟩
     ·exact .inr ⟨h1,by rw [<-h1];exact h2⟩
   refine⟨ks2,n2,m2,e1.trans ?_⟩;dsimp only;rw[a0f (by omega) (by omega),show(p.length:Int)+1=((p++ [x]).length:Int)by simp];exact e2
 obtain⟨ks,k1,k2,k3⟩:=key g.nodes [] [] n rfl (by omega) (by simp) (by simp);refine⟨ks,k1,k2,e1s k1 (λk h=>⟨hE.p ((k2 k).1 h),hE.q ((k2 k).1 h)⟩) hN,?_⟩;unfold g0o y1f;dsimp only;rw[r2y (by show g.edges.length<=1000000;omega),u2j,r2g];exact k3
def Ds(R:Int->Int->Prop)(tg:Int):Nat->Int->Prop
 | 0,v=>v=tg
 |d+1,v=>∃u,R v u/\Ds R tg d u
def dist(R:Int->Int->Prop)(tg:Int)(v:Int)(d:Nat):Prop:=Ds R tg d v/\∀e,e<d->¬Ds R tg e v
def Wk(kind:Bt)(l:List Edg):Int->List Edg->Int->Prop
 |a,[],b=>a=b
 |a,x::r,b=>x∈l/\kd kind x=true/\x.src=a/\Wk kind l x.dst r b
abbrev ids(q:List Edg):List Int:=q.map Edg.id
def q2x(kind:Bt)(l:List Edg)(a b:Int)(q:List Edg):Prop:=Wk kind l a q b/\∀p,Wk kind l a p b->p.length=q.length->ltLL (ids p) (ids q)=false
def ti(ks:List Int):List (Int×Bool):=ks.map λk=>(k,true)
def isW(kind:Bt)(l:List Edg)(a:Int)(j:Nat)(w:List Int):Prop:=∃q v,Wk kind l a q v/\q.length=j/\w=ids q
structure Lvl(kind:Bt)(l:List Edg)(a:Int)(j:Nat)(ways:List Y2):Prop where
 w:∀w∈ways,isW kind l a j w
 s:ways.Pairwise λx y=>ltLL y x=false
 c:∀v q,q2x kind l a v q->q.length=j->ids q∈ways
theorem r1g(l:List Y2)(h:l.length<=1000000)(h2:∀x∈l,x.length<=1000000):sfLL (l,())=some (i0p ltLL l,()):=by
 unfold sfLL;dsimp only;rw[r2y (by omega),t2k,s2b.2 λx hx=>r2y (h2 x hx),u2j]
end Pure

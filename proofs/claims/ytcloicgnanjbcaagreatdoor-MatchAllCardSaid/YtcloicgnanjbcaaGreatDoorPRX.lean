import Derived.Test.YtcloicgnanjbcaaGreatDoorPNext
import Derived.Test.YtcloicgnanjbcaaGreatDoorPRange
import Derived.Test.YtcloicgnanjbcaaGreatDoorEvRng
import Derived.Test.YtcloicgnanjbcaaGreatDoorEvRise2
import Derived.Test.YtcloicgnanjbcaaGreatDoorPA
import Derived.KernelRfl
import Derived.Test.YtcloicgnanjbcaaGreatDoorEvSortL
namespace Pure
open Esp Ev Go
set_option linter.unusedSimpArgs false
set_option linter.unusedVariables false
inductive W(R:Int→Int→Prop)(V:Int→Prop):Int→Int→Prop
 | one {a b:Int}:R a b→W R V a b
 | two {a c b:Int}:W R V a c→V c→W R V c b→W R V a b
def Rc(R:Int→Int→Prop):Int→Int→Prop:=W R fun _=>True
theorem W.mono{R:Int→Int→Prop}{V U:Int→Prop}(h: ∀x,V x→U x){a b:Int}(w:W R V a b):W R U a b:=by
 induction w with
 | one h=>exact .one h
 | two _ hc _ i j=>exact .two i (h _ hc) j
theorem W.rel{R S:Int→Int→Prop}{V:Int→Prop}(h: ∀a b,R a b→S a b){a b:Int}(w:W R V a b):W S V a b:=by
 induction w with
 | one hh=>exact .one (h _ _ hh)
 | two _ hc _ i j=>exact .two i hc j
theorem Rc.one{R:Int→Int→Prop}{a b:Int}(h:R a b):Rc R a b:=W.one h
theorem Rc.trans{R:Int→Int→Prop}{a c b:Int}(h:Rc R a c)(h' :Rc R c b):Rc R a b:=W.two h trivial h'
theorem W.src{R:Int→Int→Prop}{V:Int→Prop}{a b:Int}(w:W R V a b): ∃c,R a c:=by
 induction w with
 | one h=>exact⟨_,h⟩
 | two _ _ _ i _=>exact i
theorem W.dst{R:Int→Int→Prop}{V:Int→Prop}{a b:Int}(w:W R V a b): ∃c,R c b:=by
 induction w with
 | one h=>exact⟨_,h⟩
 | two _ _ _ _ j=>exact j
theorem W.more{R:Int→Int→Prop}{V:Int→Prop}{v a b:Int}(w:W R (fun x=>V x∨x=v) a b):W R V a b∨(W R V a v∧W R V v b):=by
 induction w with
 | one h=>exact .inl (.one h)
 | two _ hc _ i j=>
  rcases hc with hc | rfl
  ·rcases i with i | ⟨i1,i2⟩<;>rcases j with j | ⟨j1,j2⟩
   ·exact .inl (.two i hc j)
   ·exact .inr ⟨.two i hc j1,j2⟩
   ·exact .inr ⟨i1, .two i2 hc j⟩
   ·exact .inr ⟨i1,j2⟩
  ·exact .inr ⟨(by rcases i with i | ⟨i1,_⟩;exact i;exact i1),(by rcases j with j | ⟨_,j2⟩;exact j;exact j2)⟩
theorem Rc.close{R:Int→Int→Prop}{a b:Int}(S:Int→Prop)(h1: ∀t,R a t→S t)(h2: ∀t u,S t→R t u→S u)(w:Rc R a b):S b:=by
 have key: ∀{c d:Int},W R (fun _=>True) c d→(S c∨c=a)→S d:=by
  intro c d w
  induction w with
  | one h=>rintro(hs | rfl);exact h2 _ _ hs h;exact h1 _ h
  | two _ _ _ i j=>intro hs;exact j (.inl (i hs))
 exact key w (.inr rfl)
instance:DecidableEq Ev.Pair:=fun a b=>decidable_of_iff (a.p=b.p∧a.q=b.q) (by cases a;cases b;simp)
theorem q0x(a b:Ev.Pair):b0g .pair a b=decide (a=b):=by
 show(a.p==b.p&&a.q==b.q)=_;cases a;cases b;rw [Bool.eq_iff_iff];simp
def tr(ks:List Ev.Pair):List Y33:=ks.map fun k=>(k,true)
def ins(ks:List Ev.Pair)(k:Ev.Pair):List Ev.Pair:=if k∈ks then ks else ks++ [k]
theorem mem_ins{ks:List Ev.Pair}{k x:Ev.Pair}:x∈ins ks k↔x∈ks∨x=k:=by
 unfold ins;split
 ·constructor
  ·exact .inl
  ·rintro(h | rfl);exact h;assumption
 ·simp
theorem o0j{ks:List Ev.Pair}(h:ks.Nodup)(k:Ev.Pair):(ins ks k).Nodup:=by
 unfold ins;split
 ·exact h
 ·rename_i hk
  rw [List.nodup_append];refine⟨h,by simp,fun a ha b hb=> ?_⟩;simp at hb;subst hb;intro e;subst e;exact hk ha
theorem j0d(ks:List Ev.Pair)(k:Ev.Pair):a0g .pair .bool false (tr ks) k=decide (k∈ks):=by
 induction ks with
 | nil=>rfl
 | cons a r ih=>
  show(bif b0g .pair k a then true else a0g .pair .bool false (tr r) k)=_
  rw [q0x,ih];by_cases h:k=a
  ·simp [h]
  ·simp [h]
theorem q1d(ks:List Ev.Pair)(k:Ev.Pair):a0e .pair .bool (tr ks) k true=tr (ins ks k):=by
 induction ks with
 | nil=>rfl
 | cons a r ih=>
  show(bif b0g .pair k a then(k,true)::tr r else(a,true)::a0e .pair .bool (tr r) k true)=_
  rw [q0x,ih];by_cases h:k=a
  ·subst h;simp [ins,tr]
  ·rw [decide_eq_false h,cond_false]
   unfold ins;by_cases h2:k∈r
   ·simp [h2,tr]
   ·simp [h2,h,tr]
theorem g2f{l m:List Ev.Pair}(hl:l.Nodup)(h: ∀x∈l,x∈m):l.length≤m.length:=by
 induction l generalizing m with
 | nil=>simp
 | cons a r ih=>
  have ha:a∈m:=h a (by simp);have h1:=ih (m:=m.erase a) (List.nodup_cons.1 hl).2 fun x hx=>(List.mem_erase_of_ne fun e:x=a=>(List.nodup_cons.1 hl).1 (e▸hx)).2 (h x (by simp [hx]));rw [List.length_erase_of_mem ha]at h1;have:0<m.length:=List.length_pos_of_mem ha;simp;omega
def prod(ns:List Int):List Ev.Pair:=ns.flatMap fun a=>ns.map fun b=>Ev.Pair.mk a b
theorem mem_prod{ns:List Int}{x:Ev.Pair}:x∈prod ns↔x.p∈ns∧x.q∈ns:=by
 unfold prod;simp only [List.mem_flatMap,k2s];constructor
 ·rintro⟨a,ha,b,hb,rfl⟩;exact⟨ha,hb⟩
 ·rintro⟨h1,h2⟩;exact⟨x.p,h1,x.q,h2,rfl⟩
theorem z0h(ns:List Int):(prod ns).length=ns.length*ns.length:=by
 unfold prod;have: ∀(ms:List Int),(ms.flatMap fun a=>ns.map fun b=>Ev.Pair.mk a b).length=ms.length*ns.length:=by
  intro ms
  induction ms with
  | nil=>simp
  | cons a r ih=>simp only [k2n,j2y,ih,k2v,k2i,Nat.succ_mul];omega
 exact this ns
theorem v0c{ks:List Ev.Pair}{ns:List Int}(hn:ks.Nodup)(h: ∀x∈ks,x.p∈ns∧x.q∈ns)(h40:ns.length≤40):ks.length≤1600:=by
 have h1:=g2f hn (m:=prod ns) fun x hx=>mem_prod.2 (h x hx);rw [z0h]at h1;have:=Nat.mul_le_mul h40 h40;omega
def kd(kind:ByteArray)(x:Ev.Edg):Bool:=seq kind ⟨#[]⟩ || seq x.type kind
def stp(kind:ByteArray)(l:List Ev.Edg)(a b:Int):Prop:=∃x∈l,kd kind x=true∧x.src=a∧x.dst=b
theorem n0o(kind:ByteArray)(l:List Ev.Edg)(s t:Int):t∈a0g .i64 (.lst .i64) [] (e0v kind l) s↔stp kind l s t:=by
 have h: ∀(l:List Ev.Edg) (m:List (Int×List Int)),t∈a0g .i64 (.lst .i64) [] (l.foldl (e0l kind) m) s↔t∈a0g .i64 (.lst .i64) [] m s∨stp kind l s t:=by
  intro l
  induction l with
  | nil=>intro m;simp [stp]
  | cons x r ih=>
   intro m;rw [List.foldl_cons,ih];have e:stp kind (x::r) s t↔(kd kind x=true∧x.src=s∧x.dst=t)∨stp kind r s t:=by
    unfold stp;simp
   rw [e, ←or_assoc];refine or_congr ?_ Iff.rfl;unfold e0l;cases hb:(seq kind ⟨#[]⟩ || seq x.type kind)with
   | false=>
    have:kd kind x=false:=hb;simp [this]
   | true=>
    have hk:kd kind x=true:=hb;rw [cond_true,w0s];split
    ·rename_i hs
     rw [←hs];simp [hk,eq_comm]
    ·rename_i hs
     simp [hk,Ne.symm hs]
 have:=h l [];simpa [e0v,a0g]using this
theorem j2j{n:Nat}(h:n≤1000000):room n 8=true:=by
 unfold room;rw [j2s];exact⟨k2k (by omega),k2k (by omega)⟩
end Pure
namespace Pure
open Esp Ev Go
set_option linter.unusedSimpArgs false
set_option linter.unusedVariables false
theorem f2a{α:Type}(p:List α)(e:α)(h:p.length≤1000000):ix (p++ [e]) (IntKind.wrap .i64 (((p++ [e]).length:Int) - 1))=some e:=by
 rw [a0h (by simp) (by simp;omega),show(((p++ [e]).length:Int) - 1)=(p.length:Int)by simp];exact a0k (by simp)
theorem y1q{α:Type}(p:List α)(e:α)(h:p.length≤1000000):(p++ [e])[(IntKind.wrap .i64 (((p++ [e]).length:Int) - 1):Int).toNat]? =some e:=by
 rw [a0h (by simp) (by simp;omega),show((((p++ [e]).length:Int) - 1)).toNat=p.length by simp];simp
theorem z1n{α:Type}(p:List α)(e:α)(h:p.length≤1000000):cut? (p++ [e]) (IntKind.wrap .i64 (((p++ [e]).length:Int) - 1))=some p:=by
 rw [a0h (by simp) (by simp;omega),show(((p++ [e]).length:Int) - 1)=(p.length:Int)by simp];unfold cut?;rw [if_pos (by simp;omega)];simp
def idsN(g:Graph):List Int:=g.nodes.map Ev.Node.id
structure Ends(R:Int→Int→Prop)(ns:List Int):Prop where
 s: ∀a b,R a b→a∈ns
 d: ∀a b,R a b→b∈ns
theorem Ends.p{R:Int→Int→Prop}{ns:List Int}(h:Ends R ns){a b:Int}(w:Rc R a b):a∈ns:=by
 obtain⟨c,hc⟩:=W.src w;exact h.s _ _ hc
theorem Ends.q{R:Int→Int→Prop}{ns:List Int}(h:Ends R ns){a b:Int}(w:Rc R a b):b∈ns:=by
 obtain⟨c,hc⟩:=W.dst w;exact h.d _ _ hc
theorem j1x{l:List Ev.Node}{t:Int}(h:(b0d l t).isNone=false):t∈l.map Ev.Node.id:=by
 cases hx:b0d l t with
 | none=>rw [hx]at h;cases h
 | some x=>
  have h1:=List.mem_of_find?_eq_some hx;have h2:=List.find?_some hx;exact k2s.2 ⟨x,h1,by simpa using h2⟩
theorem j1p{g:Graph}(hc:chkG g=0)(kind:ByteArray):Ends (stp kind g.edges) (idsN g):=by
 obtain⟨_,_,_,h4⟩:=f0c hc;refine⟨?_, ?_⟩
 ·rintro a b ⟨x,hx,_,rfl,_⟩
  exact j1x (e1c h4 x hx).2.2.1
 ·rintro a b ⟨x,hx,_,_,rfl⟩
  exact j1x (e1c h4 x hx).2.2.2
theorem o1o{g:Graph}(hc:chkG g=0):(idsN g).length≤40:=by
 obtain⟨h,_⟩:=f0c hc;unfold idsN;simpa using h
theorem d2p(n:Nat)(g:Graph)(kind:ByteArray)(hE:Ends (stp kind g.edges) (idsN g))(hN:(idsN g).length≤40)(he:g.edges.length≤60){ρ:Type}(kx:(List (Int×Y0))×Y11×Int×Int×Y3×Unit→Option ρ)(v12:List Ev.Node)(v13 v14:Int)(x:Ev.Node)(ks0:List Ev.Pair):
  ∀(fuel:Nat) (ks:List Ev.Pair) (td:List Int),ks.Nodup→(∀k∈ks,Rc (stp kind g.edges) k.p k.q)→(∀k∈ks,k∈ks0∨(k.p=x.id∧Rc (stp kind g.edges) x.id k.q))→(∀k∈ks0,k∈ks)→
   (∀t∈td,Rc (stp kind g.edges) x.id t)→(∀t,stp kind g.edges x.id t→t∈td∨Ev.Pair.mk x.id t∈ks)→(∀t,Ev.Pair.mk x.id t∈ks→∀u,stp kind g.edges t u→u∈td∨Ev.Pair.mk x.id u∈ks)→
   td.length+61*(1600 - ks.length)<fuel→td.length+61*(1600 - ks.length)≤100000→
   ∃ks' :List Ev.Pair,ks'.Nodup∧(∀k,k∈ks' ↔k∈ks0∨(k.p=x.id∧Rc (stp kind g.edges) x.id k.q))∧
    a0a (fun rc25=>e0n n rc25 kx (fun(_)=>none)) fuel (e0v kind g.edges,v12,v13,v14,(x,()),tr ks,td,())=kx (e0v kind g.edges,v12,v13,v14,tr ks',()):=by
 intro fuel
 induction fuel with
 | zero=>intro ks td _ _ _ _ _ _ _ h _;exact absurd h (Nat.not_lt_zero _)
 | succ f ih=>
  intro ks td hnd hs h0 h00 htd hfi hcl hf hM;rw [a0a];unfold e0n;dsimp only;rcases List.eq_nil_or_concat td with rfl | ⟨p,e,rfl⟩
  ·refine⟨ks,hnd,fun k=>⟨h0 k, ?_⟩,rfl⟩
   rintro(h | ⟨h1,h2⟩)
   ·exact h00 k h
   ·have h3:Ev.Pair.mk x.id k.q∈ks:=Rc.close (fun t=>Ev.Pair.mk x.id t∈ks) (fun t ht=>(hfi t ht).resolve_left (by simp)) (fun t u ht hu=>(hcl t ht u hu).resolve_left (by simp)) h2
    rw [←h1]at h3;exact h3
  ·rw [List.concat_eq_append]at*
   have hpl:p.length≤1000000:=by simp at hM;omega
   rw [f2a p e hpl,y1q p e hpl,z1n p e hpl,show decide (((p++ [e]).length:Int) >0)=true by rw [decide_eq_true_iff];simp,cond_true,j2r,j2r,j2r,j0d];have hre:=htd e (by simp);by_cases hm:Ev.Pair.mk x.id e∈ks
   ·rw [decide_eq_true hm]
    refine ih ks p hnd hs h0 h00 (fun t ht=>htd t (by simp [ht])) (fun t ht=> ?_) (fun t ht u hu=> ?_) (by simp at hf;omega) (by simp at hM;omega)
    ·rcases hfi t ht with h | h
     ·simp at h
      rcases h with h | rfl
      ·exact .inl h
      ·exact .inr hm
     ·exact .inr h
    ·rcases hcl t ht u hu with h | h
     ·simp at h
      rcases h with h | rfl
      ·exact .inl h
      ·exact .inr hm
     ·exact .inr h
   ·rw [decide_eq_false hm]
    have hnl:=k2x (o0m kind e g.edges) he;have hs' : ∀k∈ins ks ⟨x.id,e⟩,Rc (stp kind g.edges) k.p k.q:=fun k hk=>by
     rcases mem_ins.1 hk with h | rfl
     ·exact hs k h
     ·exact hre
    have hnd' :=o0j hnd ⟨x.id,e⟩;have hle:=v0c hnd' (fun k hk=>⟨hE.p (hs' k hk),hE.q (hs' k hk)⟩) hN;have hlen:(ins ks ⟨x.id,e⟩).length=ks.length+1:=by unfold ins;rw [if_neg hm];simp
    rw [k2w,cond_true,d0h (j2j (by simp at hM⊢;omega)),q1d];refine ih _ _ hnd' hs' (fun k hk=> ?_) (fun k hk=>mem_ins.2 (.inl (h00 k hk))) (fun t ht=> ?_) (fun t ht=> ?_) (fun t ht u hu=> ?_) (by simp at hf⊢;omega) (by simp at hM⊢;omega)
    ·rcases mem_ins.1 hk with h | rfl
     ·exact h0 k h
     ·exact .inr ⟨rfl,hre⟩
    ·rcases l2v.1 ht with h | h
     ·exact htd t (by simp [h])
     ·exact hre.trans (.one ((n0o kind g.edges e t).1 h))
    ·rcases hfi t ht with h | h
     ·simp at h
      rcases h with h | rfl
      ·exact .inl (by simp [h])
      ·exact .inr (mem_ins.2 (.inr rfl))
     ·exact .inr (mem_ins.2 (.inl h))
    ·rcases mem_ins.1 ht with h | h
     ·rcases hcl t h u hu with h | h
      ·simp at h
       rcases h with h | rfl
       ·exact .inl (by simp [h])
       ·exact .inr (mem_ins.2 (.inr rfl))
      ·exact .inr (mem_ins.2 (.inl h))
     ·have:t=e:=by injection h
      subst this;exact .inl (l2v.2 (.inr ((n0o kind g.edges t u).2 hu)))
theorem v0t(l:List Int)(h:l.length≤1000):q11z (l,())=some (l,()):=by
 unfold q11z nilq;dsimp only;rw [l2j,d0h (d0k (by omega) (by omega))];cases l with
 | nil=>exact w0u _
 | cons a r=>rfl
theorem Node.eta(x:Ev.Node):Ev.Node.mk x.id x.labels x.props=x:=rfl
theorem f2s(n:Nat)(hn:100100≤n)(g:Graph)(kind:ByteArray)(hc:chkG g=0):
  ∃ks:List Ev.Pair,ks.Nodup∧(∀k,k∈ks↔Rc (stp kind g.edges) k.p k.q)∧ks.length≤1600∧f0k n (g,kind,())=some (tr ks,()):=by
 have hE:=j1p hc kind;have hN:=o1o hc;obtain⟨h40,h60,_,_⟩:=f0c hc;have key: ∀(r p:List Ev.Node) (ks:List Ev.Pair) (fuel:Nat),g.nodes=p++r→r.length<fuel→ks.Nodup→(∀k,k∈ks↔k.p∈p.map Ev.Node.id∧Rc (stp kind g.edges) k.p k.q)→
   ∃ks' :List Ev.Pair,ks'.Nodup∧(∀k,k∈ks' ↔Rc (stp kind g.edges) k.p k.q)∧
    a0a (fun rc27=>c0d n rc27 (fun(o26,_)=>some (o26,())) (fun(_)=>none)) fuel (e0v kind g.edges,g.nodes,(g.nodes.length:Int),(p.length:Int),tr ks,())=some (tr ks',()):=by
  intro r
  induction r with
  | nil=>
   intro p ks fuel hp hf hnd hk;obtain⟨f,rfl⟩: ∃f,fuel=f+1:=⟨fuel - 1,by omega⟩;refine⟨ks,hnd,fun k=>⟨fun h=>((hk k).1 h).2,fun h=>(hk k).2 ⟨?_,h⟩⟩, ?_⟩
   ·have:=hE.p h
    unfold idsN at this;rwa [hp,k2y]at this
   ·rw [a0a]
    unfold c0d;dsimp only;rw [show decide ((p.length:Int)< (g.nodes.length:Int))=false by rw [hp];simp,cond_false]
  | cons x r ih=>
   intro p ks fuel hp hf hnd hk;obtain⟨f,rfl⟩: ∃f,fuel=f+1:=⟨fuel - 1,by omega⟩;have hll:g.nodes.length=p.length+(r.length+1):=by rw [hp];simp
   have hnl:=k2x (o0m kind x.id g.edges) h60;rw [a0a];unfold c0d;dsimp only;rw [show decide ((p.length:Int)< (g.nodes.length:Int))=true by rw [decide_eq_true_iff];omega,cond_true,a0k (x:=x) (by rw [hp];simp),j2r,v0t _ (by omega),j2r];dsimp only;rw [Node.eta];have hs: ∀k∈ks,Rc (stp kind g.edges) k.p k.q:=fun k h=>((hk k).1 h).2;have hle:=v0c hnd (fun k h=>⟨hE.p (hs k h),hE.q (hs k h)⟩) hN;obtain⟨ks1,n1,m1,e1⟩:=d2p n g kind hE hN h60 (fun(v20,v21,v22,v23,o24,_)=>a0a (fun rc27=>c0d n rc27 (fun(o26,_)=>some (o26,())) (fun(_)=>none)) f (v20,v21,v22,IntKind.wrap .i64 (v23+1),o24,())) g.nodes (g.nodes.length:Int) (p.length:Int) x ks n ks
    (a0g .i64 (.lst .i64) [] (e0v kind g.edges) x.id) hnd hs (fun k h=> .inl h) (fun k h=>h) (fun t h=> .one ((n0o kind g.edges x.id t).1 h)) (fun t h=> .inl ((n0o kind g.edges x.id t).2 h))
    (fun t h u hu=> .inr ((hk _).2 ⟨((hk _).1 h).1,((hk _).1 h).2.trans (.one hu)⟩)) (by omega) (by omega)
   obtain⟨ks2,n2,m2,e2⟩:=ih (p++ [x]) ks1 f (by simp [hp]) (by simp at hf;omega) n1 fun k=>by
    rw [m1,hk];simp only [List.map_append,k2l,m2f,l2v,l2r];constructor
    ·rintro(⟨h1,h2⟩ | ⟨h1,h2⟩)
     ·exact⟨.inl h1,h2⟩
     ·exact⟨.inr h1,by rw [h1];exact h2⟩
    ·rintro⟨h1 | h1,h2⟩
     ·exact .inl ⟨h1,h2⟩
     ·exact .inr ⟨h1,by rw [←h1];exact h2⟩
   refine⟨ks2,n2,m2,e1.trans ?_⟩;dsimp only;rw [a0h (by omega) (by omega),show(p.length:Int)+1=((p++ [x]).length:Int)by simp];exact e2
 obtain⟨ks,k1,k2,k3⟩:=key g.nodes [] [] n rfl (by omega) (by simp) (by simp);refine⟨ks,k1,k2,v0c k1 (fun k h=>⟨hE.p ((k2 k).1 h),hE.q ((k2 k).1 h)⟩) hN, ?_⟩;unfold f0k u1d;dsimp only;rw [k2k (by show g.edges.length≤1000000;omega),cond_true,j2r];exact k3
end Pure
namespace Pure
open Esp Ev Go
set_option linter.unusedSimpArgs false
set_option linter.unusedVariables false
abbrev x0v(R:Int→Int→Prop)(ks:List Ev.Pair):Prop:=ks.Nodup∧∀k∈ks,Rc R k.p k.q
theorem g1w(n:Nat)(g:Graph)(kind:ByteArray){ρ:Type}(K:ByteArray×(Graph×Unit)×Y3×Unit→Option ρ):
  ∀(r:List Edg) (i:Int) (ks:List Ev.Pair),(∀x∈r,x∈g.edges)→x0v (stp kind g.edges) ks→
   ∃ks',x0v (stp kind g.edges) ks' ∧(∀k∈ks,k∈ks')∧(∀x∈r,kd kind x=true→Ev.Pair.mk x.src x.dst∈ks')∧a0c (k0n n (fun(_)=>none)) K i r (kind,(g,()),tr ks,())=K (kind,(g,()),tr ks',()):=by
 intro r
 induction r with
 | nil=>intro i ks _ hs;exact⟨ks,hs,fun _ h=>h,fun x hx=>(by cases hx),rfl⟩
 | cons x r ih=>
  intro i ks hr hs;rw [a0c];unfold k0n;dsimp only;rw [Graph.eta];cases hk:(seq kind ⟨#[]⟩ || seq x.type kind)with
  | false=>
   rw [cond_false];obtain⟨ks',h1,h2,h3,h4⟩:=ih (i+1) ks (fun y hy=>hr y (by simp [hy])) hs;refine⟨ks',h1,h2,fun y hy hky=> ?_,h4⟩;rcases k2b.1 hy with rfl | hy
   ·have:kd kind y=false:=hk
    rw [this]at hky;cases hky
   ·exact h3 y hy hky
  | true=>
   rw [cond_true,q1d];have hx:Rc (stp kind g.edges) x.src x.dst:= .one ⟨x,hr x (by simp),hk,rfl,rfl⟩;obtain⟨ks',h1,h2,h3,h4⟩:=ih (i+1) (ins ks ⟨x.src,x.dst⟩) (fun y hy=>hr y (by simp [hy])) ⟨o0j hs.1 _,fun k hk=>by
    rcases mem_ins.1 hk with h | rfl
    ·exact hs.2 k h
    ·exact hx⟩
   refine⟨ks',h1,fun k hk=>h2 k (mem_ins.2 (.inl hk)),fun y hy hky=> ?_,h4⟩;rcases k2b.1 hy with rfl | hy
   ·exact h2 _ (mem_ins.2 (.inr rfl))
   ·exact h3 y hy hky
theorem h1m(n:Nat)(g:Graph)(R:Int→Int→Prop)(va sr:Ev.Node)(hsv:Rc R sr.id va.id){ρ:Type}(v28:List Ev.Node)(v29 v30:Int)(v31:List Ev.Node)(v32 v33:Int)
  (K:Y11×Int×Int×Y11×Int×Int×Y7×Y18×Y18×Y3×Unit→Option ρ):
  ∀(r:List Ev.Node) (i:Int) (ks:List Ev.Pair),x0v R ks→
   ∃ks',x0v R ks' ∧(∀k∈ks,k∈ks')∧(∀x∈r,Ev.Pair.mk va.id x.id∈ks→Ev.Pair.mk sr.id x.id∈ks')∧
    a0c (j0o n (fun(_)=>none)) K i r (v28,v29,v30,v31,v32,v33,(g,()),(va,()),(sr,()),tr ks,())=K (v28,v29,v30,v31,v32,v33,(g,()),(va,()),(sr,()),tr ks',()):=by
 intro r
 induction r with
 | nil=>intro i ks hs;exact⟨ks,hs,fun _ h=>h,fun x hx=>(by cases hx),rfl⟩
 | cons x r ih=>
  intro i ks hs;rw [a0c];unfold j0o;dsimp only;rw [Graph.eta,Node.eta,Node.eta,j0d];by_cases hk:Ev.Pair.mk va.id x.id∈ks
  ·rw [decide_eq_true hk,cond_true,q1d]
   obtain⟨ks',h1,h2,h3,h4⟩:=ih (i+1) (ins ks ⟨sr.id,x.id⟩) ⟨o0j hs.1 _,fun k hkk=>by
    rcases mem_ins.1 hkk with h | rfl
    ·exact hs.2 k h
    ·exact hsv.trans (hs.2 _ hk)⟩
   refine⟨ks',h1,fun k hk=>h2 k (mem_ins.2 (.inl hk)),fun y hy hky=> ?_,h4⟩;rcases k2b.1 hy with rfl | hy
   ·exact h2 _ (mem_ins.2 (.inr rfl))
   ·exact h3 y hy (mem_ins.2 (.inl hky))
  ·rw [decide_eq_false hk,cond_false]
   obtain⟨ks',h1,h2,h3,h4⟩:=ih (i+1) ks hs;refine⟨ks',h1,h2,fun y hy hky=> ?_,h4⟩;rcases k2b.1 hy with rfl | hy
   ·exact absurd hky hk
   ·exact h3 y hy hky
theorem h1p(n:Nat)(hn:100≤n)(g:Graph)(h40:g.nodes.length≤40)(R:Int→Int→Prop)(va:Ev.Node){ρ:Type}(v18:List Ev.Node)(v19 v20:Int)
  (K:Y11×Int×Int×Y7×Y3×Unit→Option ρ):
  ∀(r p:List Ev.Node) (fuel:Nat) (ks:List Ev.Pair),g.nodes=p++r→r.length<fuel→x0v R ks→
   ∃ks',x0v R ks' ∧(∀k∈ks,k∈ks')∧(∀s∈r,Ev.Pair.mk s.id va.id∈ks→∀x∈g.nodes,Ev.Pair.mk va.id x.id∈ks→Ev.Pair.mk s.id x.id∈ks')∧
    a0a (fun rc57=>l0g n rc57 K (fun(_)=>none)) fuel (v18,v19,v20,g.nodes,(g.nodes.length:Int),(p.length:Int),(g,()),(va,()),tr ks,())=K (v18,v19,v20,(g,()),tr ks',()):=by
 intro r
 induction r with
 | nil=>
  intro p fuel ks hp hf hs;obtain⟨f,rfl⟩: ∃f,fuel=f+1:=⟨fuel - 1,by omega⟩;refine⟨ks,hs,fun _ h=>h,fun x hx=>(by cases hx), ?_⟩;rw [a0a];unfold l0g;dsimp only;rw [show decide ((p.length:Int)< (g.nodes.length:Int))=false by rw [hp];simp,cond_false]
 | cons x r ih=>
  intro p fuel ks hp hf hs;obtain⟨f,rfl⟩: ∃f,fuel=f+1:=⟨fuel - 1,by omega⟩;have hll:g.nodes.length=p.length+(r.length+1):=by rw [hp];simp
  have e3:IntKind.wrap .i64 ((p.length:Int)+1)=((p++ [x]).length:Int):=by rw [a0h (by omega) (by omega)];simp
  rw [a0a];unfold l0g;dsimp only;rw [show decide ((p.length:Int)< (g.nodes.length:Int))=true by rw [decide_eq_true_iff];omega,cond_true,a0k (x:=x) (by rw [hp];simp),j2r,j0d,Graph.eta,Node.eta,Node.eta];by_cases hk:Ev.Pair.mk x.id va.id∈ks
  ·rw [decide_eq_true hk,k2e,cond_false,r1b n _ _ g.nodes n _ _ _ _ _ _ _ _ _ _ (by omega) (by omega)]
   obtain⟨ks1,a1,a2,a3,a4⟩:=h1m n g R va x (hs.2 _ hk) v18 v19 v20 g.nodes (g.nodes.length:Int) (p.length:Int)
    (fun(v28,v29,v30,v31,v32,v33,o37,o38,o39,o40,_)=>(fun(v42,v43,v44,v45,v46,v47,o48,o49,o50,_)=>a0a (fun rc57=>l0g n rc57 K (fun(_)=>none)) f (v42,v43,v44,v45,v46,IntKind.wrap .i64 (v47+1),((Ev.Graph.mk o48.1.nodes o48.1.edges o48.1.next),()),((Ev.Node.mk o49.1.id o49.1.labels o49.1.props),()),o50,())) (v28,v29,v30,v31,v32,v33,((Ev.Graph.mk o37.1.nodes o37.1.edges o37.1.next),()),((Ev.Node.mk o38.1.id o38.1.labels o38.1.props),()),o40,())) g.nodes 0 ks hs
   obtain⟨ks',h1,h2,h3,h4⟩:=ih (p++ [x]) f ks1 (by simp [hp]) (by simp at hf;omega) a1;refine⟨ks',h1,fun k hk=>h2 k (a2 k hk),fun s hsr hsv d hd hvd=> ?_,a4.trans ?_⟩
   ·rcases k2b.1 hsr with rfl | hsr
    ·exact h2 _ (a3 d hd hvd)
    ·exact h3 s hsr (a2 _ hsv) d hd (a2 _ hvd)
   ·dsimp only
    rw [e3];exact h4
  ·rw [decide_eq_false hk,k2w,cond_true,e3]
   obtain⟨ks',h1,h2,h3,h4⟩:=ih (p++ [x]) f ks (by simp [hp]) (by simp at hf;omega) hs;refine⟨ks',h1,h2,fun s hsr hsv d hd hvd=> ?_,h4⟩;rcases k2b.1 hsr with rfl | hsr
   ·exact absurd hsv hk
   ·exact h3 s hsr hsv d hd hvd
theorem h1o(n:Nat)(hn:100≤n)(g:Graph)(h40:g.nodes.length≤40)(R:Int→Int→Prop)(hE:Ends R (idsN g)):
  ∀(r p:List Ev.Node) (fuel:Nat) (ks:List Ev.Pair),g.nodes=p++r→r.length<fuel→x0v R ks→(∀a b,W R (fun x=>x∈p.map Ev.Node.id) a b→Ev.Pair.mk a b∈ks)→
   ∃ks',x0v R ks' ∧(∀a b,W R (fun x=>x∈idsN g) a b→Ev.Pair.mk a b∈ks')∧
    a0a (fun rc59=>i0u n rc59 (fun(o58,_)=>some (o58,())) (fun(_)=>none)) fuel (g.nodes,(g.nodes.length:Int),(p.length:Int),(g,()),tr ks,())=some (tr ks',()):=by
 intro r
 induction r with
 | nil=>
  intro p fuel ks hp hf hs hw;obtain⟨f,rfl⟩: ∃f,fuel=f+1:=⟨fuel - 1,by omega⟩;refine⟨ks,hs,fun a b w=>hw a b ?_, ?_⟩
  ·unfold idsN at w
   rwa [hp,k2y]at w
  ·rw [a0a]
   unfold i0u;dsimp only;rw [show decide ((p.length:Int)< (g.nodes.length:Int))=false by rw [hp];simp,cond_false]
 | cons x r ih=>
  intro p fuel ks hp hf hs hw;obtain⟨f,rfl⟩: ∃f,fuel=f+1:=⟨fuel - 1,by omega⟩;have hll:g.nodes.length=p.length+(r.length+1):=by rw [hp];simp
  have e3:IntKind.wrap .i64 ((p.length:Int)+1)=((p++ [x]).length:Int):=by rw [a0h (by omega) (by omega)];simp
  rw [a0a];unfold i0u;dsimp only;rw [show decide ((p.length:Int)< (g.nodes.length:Int))=true by rw [decide_eq_true_iff];omega,cond_true,a0k (x:=x) (by rw [hp];simp),j2r,Graph.eta,Node.eta];obtain⟨ks1,a1,a2,a3,a4⟩:=h1p n hn g h40 R x g.nodes (g.nodes.length:Int) (p.length:Int)
   (fun(v52,v53,v54,o55,o56,_)=>a0a (fun rc59=>i0u n rc59 (fun(o58,_)=>some (o58,())) (fun(_)=>none)) f (v52,v53,IntKind.wrap .i64 (v54+1),((Ev.Graph.mk o55.1.nodes o55.1.edges o55.1.next),()),o56,())) g.nodes [] n ks rfl (by omega) hs
  obtain⟨ks',h1,h2,h3⟩:=ih (p++ [x]) f ks1 (by simp [hp]) (by simp at hf;omega) a1 fun a b w=>by
   have w1:W R (fun y=>y∈p.map Ev.Node.id∨y=x.id) a b:=w.mono fun y hy=>by
    simp only [List.map_append,k2l,m2f,l2v,l2r]at hy;exact hy
   rcases w1.more with w1 | ⟨w1,w2⟩
   ·exact a2 _ (hw a b w1)
   ·have hka:=hw _ _ w1
    have hkb:=hw _ _ w2;have ha:a∈idsN g:=hE.p (w1.mono fun _ _=>trivial);have hb:b∈idsN g:=hE.q (w2.mono fun _ _=>trivial);obtain⟨s,hs1,rfl⟩:=k2s.1 ha;obtain⟨d,hd1,rfl⟩:=k2s.1 hb;exact a3 s hs1 hka d hd1 hkb
  refine⟨ks',h1,h2,a4.trans ?_⟩;dsimp only;rw [Graph.eta,e3];exact h3
theorem h1u(n:Nat)(hn:100≤n)(g:Graph)(kind:ByteArray)(hc:chkG g=0):
  ∃ks:List Ev.Pair,ks.Nodup∧(∀k,k∈ks↔Rc (stp kind g.edges) k.p k.q)∧ks.length≤1600∧q35z n (g,kind,())=some (tr ks,()):=by
 have hE:=j1p hc kind;have hN:=o1o hc;obtain⟨h40,h60,_,_⟩:=f0c hc;obtain⟨ks1,a1,a2,a3,a4⟩:=g1w n g kind (fun(v3,o7,o8,_)=>(fun(o10,o11,_)=>
 a0a (fun rc59=>i0u n rc59 (fun(o58,_)=>some (o58,())) (fun(_)=>none)) (n) (o10.1.nodes,(o10.1.nodes.length:Int),0,((Ev.Graph.mk o10.1.nodes o10.1.edges o10.1.next),()),o11,())) (((Ev.Graph.mk o7.1.nodes o7.1.edges o7.1.next),()),o8,())) g.edges 0 [] (fun x h=>h) ⟨List.nodup_nil,fun x hx=>by cases hx⟩
 obtain⟨ks2,b1,b2,b3⟩:=h1o n hn g h40 (stp kind g.edges) hE g.nodes [] n ks1 rfl (by omega) a1 fun a b w=>by
  have: ∀{a b:Int},W (stp kind g.edges) (fun x=>x∈([]:List Ev.Node).map Ev.Node.id) a b→stp kind g.edges a b:=by
   intro a b w;cases w with
   | one h=>exact h
   | two _ hc _=>cases hc
  obtain⟨x,hx,hk,rfl,rfl⟩:=this w;exact a3 x hx hk
 have hm: ∀k,k∈ks2↔Rc (stp kind g.edges) k.p k.q:=fun k=>⟨b1.2 k,fun h=>b2 k.p k.q (by
  have: ∀{a b:Int},Rc (stp kind g.edges) a b→W (stp kind g.edges) (fun x=>x∈idsN g) a b:=by
   intro a b w;unfold Rc at w
   induction w with
   | one h=>exact .one h
   | two w1 _ w2 i j=>exact .two i (hE.q w1) j
  exact this h)⟩
 refine⟨ks2,b1.1,hm,v0c b1.1 (fun k h=>⟨hE.p (b1.2 k h),hE.q (b1.2 k h)⟩) hN, ?_⟩;unfold q35z;dsimp only;rw [Graph.eta];refine(p1k n _ _ g.edges n kind (g,()) [] (by omega) (by omega)).trans ?_;exact a4.trans b3
end Pure
namespace Pure
open Esp Ev Go
set_option linter.unusedSimpArgs false
set_option linter.unusedVariables false
def line3G:Graph:= .mk [.mk 1 [] [], .mk 2 [] [], .mk 3 [⟨#[65]⟩] []] [.mk 4 1 2 ⟨#[75]⟩ [], .mk 5 2 3 ⟨#[75]⟩ []] 6
theorem u1j:q48z ()=some (line3G,()):=rfl
theorem n0x:chkG line3G=0:=by kernel_rfl
def p123:List Ev.Pair:= [.mk 1 2, .mk 1 3, .mk 2 3]
end Pure
namespace Pure
open Esp Ev Go
set_option linter.unusedSimpArgs false
set_option linter.unusedVariables false
def Ds(R:Int→Int→Prop)(tg:Int):Nat→Int→Prop
 | 0,v=>v=tg
 | d+1,v=>∃u,R v u∧Ds R tg d u
def dist(R:Int→Int→Prop)(tg:Int)(v:Int)(d:Nat):Prop:=Ds R tg d v∧∀e,e<d→¬Ds R tg e v
end Pure
namespace Pure
open Esp Ev Go
set_option linter.unusedSimpArgs false
set_option linter.unusedVariables false
def Wk(kind:ByteArray)(l:List Edg):Int→List Edg→Int→Prop
 | a, [],b=>a=b
 | a,x::r,b=>x∈l∧kd kind x=true∧x.src=a∧Wk kind l x.dst r b
abbrev ids(q:List Edg):List Int:=q.map Edg.id
theorem Wk.ds{kind:ByteArray}{l:List Edg}: ∀{q:List Edg} {a b:Int},Wk kind l a q b→Ds (stp kind l) b q.length a
 | [],a,b,h=>h
 | x::r,a,b,h=>⟨x.dst,⟨x,h.1,h.2.1,h.2.2.1,rfl⟩,h.2.2.2.ds⟩
theorem Wk.app{kind:ByteArray}{l:List Edg}: ∀{q r:List Edg} {a b c:Int},Wk kind l a q b→Wk kind l b r c→Wk kind l a (q++r) c
 | [],r,a,b,c,h,g=>by cases h;exact g
 | x::q,r,a,b,c,h,g=>⟨h.1,h.2.1,h.2.2.1,h.2.2.2.app g⟩
theorem Wk.split{kind:ByteArray}{l:List Edg}{x:Edg}: ∀{q:List Edg} {a c:Int},Wk kind l a (q++ [x]) c→Wk kind l a q x.src∧x∈l∧kd kind x=true∧x.dst=c
 | [],a,c,h=>⟨h.2.2.1.symm,h.1,h.2.1,h.2.2.2⟩
 | y::q,a,c,h=>by
  obtain⟨h1,h2⟩:=Wk.split (q:=q) h.2.2.2;exact⟨⟨h.1,h.2.1,h.2.2.1,h1⟩,h2⟩
def j2q(kind:ByteArray)(l:List Edg)(a b:Int)(q:List Edg):Prop:=Wk kind l a q b∧∀p,Wk kind l a p b→p.length=q.length→ltLL (ids p) (ids q)=false
end Pure
namespace Pure
open Esp Ev Go
set_option linter.unusedSimpArgs false
set_option linter.unusedVariables false
end Pure
namespace Pure
open Esp Ev Go
set_option linter.unusedSimpArgs false
set_option linter.unusedVariables false
def ti(ks:List Int):List (Int×Bool):=ks.map fun k=>(k,true)
def isW(kind:ByteArray)(l:List Edg)(a:Int)(j:Nat)(w:List Int):Prop:=∃q v,Wk kind l a q v∧q.length=j∧w=ids q
end Pure
namespace Pure
open Esp Ev Go
set_option linter.unusedSimpArgs false
set_option linter.unusedVariables false
structure Lvl(kind:ByteArray)(l:List Edg)(a:Int)(j:Nat)(ways:List Y0):Prop where
 w: ∀w∈ways,isW kind l a j w
 s:ways.Pairwise fun x y=>ltLL y x=false
 c: ∀v q,j2q kind l a v q→q.length=j→ids q∈ways
theorem j1j(l:List Y0)(h:l.length≤1000000)(h2: ∀x∈l,x.length≤1000000):sfLL (l,())=some (g0h ltLL l,()):=by
 unfold sfLL;dsimp only;rw [k2k (by omega),l2e,k2f.2 fun x hx=>k2k (h2 x hx),cond_true]
theorem p1p(l:List Int)(n:Nat)(h:l.length≤1000)(hn:l.length<n):q32z n (l,l,())=some (true,()):=by
 unfold q32z;dsimp only;rw [show((l.length:Int) !=(l.length:Int))=false from by simp,cond_false]
 rw [n1o n _ _ l n l (by omega) hn];have key: ∀(r p:List Int),l=p++r→a0c (o0t n (fun(v11,_)=>some (v11,()))) (fun(v4,_)=>some (true,())) (p.length:Int) r (l,())=some (true,()):=by
  intro r
  induction r with
  | nil=>intro p _;rfl
  | cons x r ih=>
   intro p hp;have e1:((p.length:Int)+1)=((p++ [x]).length:Int):=by simp
   have e2:ix l (p.length:Int)=some x:=a0k (by rw [hp];simp);rw [a0c,e1];unfold o0t;dsimp only;rw [e2,j2r,show((x:Int) !=x)=false by simp];exact ih (p++ [x]) (by simp [hp])
 exact key l [] rfl
end Pure

import Derived.Test.YtcloicgnanjbcaaGreatDoorPNext
import Derived.Test.YtcloicgnanjbcaaGreatDoorPRange
import Derived.Test.YtcloicgnanjbcaaGreatDoorEvRng
import Derived.Test.YtcloicgnanjbcaaGreatDoorEvRise2
import Derived.Test.YtcloicgnanjbcaaGreatDoorPA
import Derived.KernelRfl
import Derived.Test.YtcloicgnanjbcaaGreatDoorEvSortL
namespace Pure
open Esp Ev Go
set_option linter.unusedSimpArgs false
set_option linter.unusedVariables false
inductive W(R:Int→Int→Prop)(V:Int→Prop):Int→Int→Prop
 | one {a b:Int}:R a b→W R V a b
 | two {a c b:Int}:W R V a c→V c→W R V c b→W R V a b
def Rc(R:Int→Int→Prop):Int→Int→Prop:=W R fun _=>True
theorem W.mono{R:Int→Int→Prop}{V U:Int→Prop}(h: ∀x,V x→U x){a b:Int}(w:W R V a b):W R U a b:=by
 induction w with
 | one h=>exact .one h
 | two _ hc _ i j=>exact .two i (h _ hc) j
theorem W.rel{R S:Int→Int→Prop}{V:Int→Prop}(h: ∀a b,R a b→S a b){a b:Int}(w:W R V a b):W S V a b:=by
 induction w with
 | one hh=>exact .one (h _ _ hh)
 | two _ hc _ i j=>exact .two i hc j
theorem Rc.one{R:Int→Int→Prop}{a b:Int}(h:R a b):Rc R a b:=W.one h
theorem Rc.trans{R:Int→Int→Prop}{a c b:Int}(h:Rc R a c)(h' :Rc R c b):Rc R a b:=W.two h trivial h'
theorem W.src{R:Int→Int→Prop}{V:Int→Prop}{a b:Int}(w:W R V a b): ∃c,R a c:=by
 induction w with
 | one h=>exact⟨_,h⟩
 | two _ _ _ i _=>exact i
theorem W.dst{R:Int→Int→Prop}{V:Int→Prop}{a b:Int}(w:W R V a b): ∃c,R c b:=by
 induction w with
 | one h=>exact⟨_,h⟩
 | two _ _ _ _ j=>exact j
theorem W.more{R:Int→Int→Prop}{V:Int→Prop}{v a b:Int}(w:W R (fun x=>V x∨x=v) a b):W R V a b∨(W R V a v∧W R V v b):=by
 induction w with
 | one h=>exact .inl (.one h)
 | two _ hc _ i j=>
  rcases hc with hc | rfl
  ·rcases i with i | ⟨i1,i2⟩<;>rcases j with j | ⟨j1,j2⟩
   ·exact .inl (.two i hc j)
   ·exact .inr ⟨.two i hc j1,j2⟩
   ·exact .inr ⟨i1, .two i2 hc j⟩
   ·exact .inr ⟨i1,j2⟩
  ·exact .inr ⟨(by rcases i with i | ⟨i1,_⟩;exact i;exact i1),(by rcases j with j | ⟨_,j2⟩;exact j;exact j2)⟩
theorem Rc.close{R:Int→Int→Prop}{a b:Int}(S:Int→Prop)(h1: ∀t,R a t→S t)(h2: ∀t u,S t→R t u→S u)(w:Rc R a b):S b:=by
 have key: ∀{c d:Int},W R (fun _=>True) c d→(S c∨c=a)→S d:=by
  intro c d w
  induction w with
  | one h=>rintro(hs | rfl);exact h2 _ _ hs h;exact h1 _ h
  | two _ _ _ i j=>intro hs;exact j (.inl (i hs))
 exact key w (.inr rfl)
instance:DecidableEq Ev.Pair:=fun a b=>decidable_of_iff (a.p=b.p∧a.q=b.q) (by cases a;cases b;simp)
theorem v0h(a b:Ev.Pair):c0l .pair a b=decide (a=b):=by
 show(a.p==b.p&&a.q==b.q)=_
 cases a;cases b
 rw [Bool.eq_iff_iff]
 simp
def tr(ks:List Ev.Pair):List (Ev.Pair×Bool):=ks.map fun k=>(k,true)
def ins(ks:List Ev.Pair)(k:Ev.Pair):List Ev.Pair:=if k∈ks then ks else ks++ [k]
theorem mem_ins{ks:List Ev.Pair}{k x:Ev.Pair}:x∈ins ks k↔x∈ks∨x=k:=by
 unfold ins
 split
 ·constructor
  ·exact .inl
  ·rintro(h | rfl);exact h;assumption
 ·simp
theorem u1u{ks:List Ev.Pair}(h:ks.Nodup)(k:Ev.Pair):(ins ks k).Nodup:=by
 unfold ins
 split
 ·exact h
 ·rename_i hk
  rw [List.nodup_append]
  refine⟨h,by simp,fun a ha b hb=> ?_⟩
  simp at hb
  subst hb
  intro e
  subst e
  exact hk ha
theorem a1x(ks:List Ev.Pair)(k:Ev.Pair):b0c .pair .bool false (tr ks) k=decide (k∈ks):=by
 induction ks with
 | nil=>rfl
 | cons a r ih=>
  show(bif c0l .pair k a then true else b0c .pair .bool false (tr r) k)=_
  rw [v0h,ih]
  by_cases h:k=a
  ·simp [h]
  ·simp [h]
theorem n2r(ks:List Ev.Pair)(k:Ev.Pair):b0s .pair .bool (tr ks) k true=tr (ins ks k):=by
 induction ks with
 | nil=>rfl
 | cons a r ih=>
  show(bif c0l .pair k a then(k,true)::tr r else(a,true)::b0s .pair .bool (tr r) k true)=_
  rw [v0h,ih]
  by_cases h:k=a
  ·subst h;simp [ins,tr]
  ·rw [decide_eq_false h,cond_false]
   unfold ins
   by_cases h2:k∈r
   ·simp [h2,tr]
   ·simp [h2,h,tr]
theorem s2r{l m:List Ev.Pair}(hl:l.Nodup)(h: ∀x∈l,x∈m):l.length≤m.length:=by
 induction l generalizing m with
 | nil=>simp
 | cons a r ih=>
  have ha:a∈m:=h a (by simp)
  have h1:=ih (m:=m.erase a) (List.nodup_cons.1 hl).2 fun x hx=>(List.mem_erase_of_ne fun e:x=a=>(List.nodup_cons.1 hl).1 (e▸hx)).2 (h x (by simp [hx]))
  rw [List.length_erase_of_mem ha]at h1
  have:0<m.length:=List.length_pos_of_mem ha
  simp;omega
def prod(ns:List Int):List Ev.Pair:=ns.flatMap fun a=>ns.map fun b=>Ev.Pair.mk a b
theorem mem_prod{ns:List Int}{x:Ev.Pair}:x∈prod ns↔x.p∈ns∧x.q∈ns:=by
 unfold prod
 simp only [List.mem_flatMap,List.mem_map]
 constructor
 ·rintro⟨a,ha,b,hb,rfl⟩;exact⟨ha,hb⟩
 ·rintro⟨h1,h2⟩;exact⟨x.p,h1,x.q,h2,rfl⟩
theorem h1h(ns:List Int):(prod ns).length=ns.length*ns.length:=by
 unfold prod
 have: ∀(ms:List Int),(ms.flatMap fun a=>ns.map fun b=>Ev.Pair.mk a b).length=ms.length*ns.length:=by
  intro ms
  induction ms with
  | nil=>simp
  | cons a r ih=>simp only [List.flatMap_cons,List.length_append,ih,List.length_map,List.length_cons,Nat.succ_mul];omega
 exact this ns
theorem h1x{ks:List Ev.Pair}{ns:List Int}(hn:ks.Nodup)(h: ∀x∈ks,x.p∈ns∧x.q∈ns)(h40:ns.length≤40):ks.length≤1600:=by
 have h1:=s2r hn (m:=prod ns) fun x hx=>mem_prod.2 (h x hx)
 rw [h1h]at h1
 have:=Nat.mul_le_mul h40 h40
 omega
def kd(kind:ByteArray)(x:Ev.Edg):Bool:=seq kind ⟨#[]⟩ || seq x.type kind
def stp(kind:ByteArray)(l:List Ev.Edg)(a b:Int):Prop:=∃x∈l,kd kind x=true∧x.src=a∧x.dst=b
theorem o0p(kind:ByteArray)(l:List Ev.Edg)(s t:Int):t∈b0c .i64 (.lst .i64) [] (f0q kind l) s↔stp kind l s t:=by
 have h: ∀(l:List Ev.Edg) (m:List (Int×List Int)),t∈b0c .i64 (.lst .i64) [] (l.foldl (e0r kind) m) s↔t∈b0c .i64 (.lst .i64) [] m s∨stp kind l s t:=by
  intro l
  induction l with
  | nil=>intro m;simp [stp]
  | cons x r ih=>
   intro m
   rw [List.foldl_cons,ih]
   have e:stp kind (x::r) s t↔(kd kind x=true∧x.src=s∧x.dst=t)∨stp kind r s t:=by
    unfold stp;simp
   rw [e, ←or_assoc]
   refine or_congr ?_ Iff.rfl
   unfold e0r
   cases hb:(seq kind ⟨#[]⟩ || seq x.type kind)with
   | false=>
    have:kd kind x=false:=hb
    simp [this]
   | true=>
    have hk:kd kind x=true:=hb
    rw [cond_true,e1h]
    split
    ·rename_i hs
     rw [←hs]
     simp [hk,eq_comm]
    ·rename_i hs
     simp [hk,Ne.symm hs]
 have:=h l []
 simpa [f0q,b0c]using this
theorem v2b{n:Nat}(h:n≤1000000):room n 8=true:=by
 unfold room
 rw [Bool.and_eq_true]
 exact⟨Nat.ble_eq_true_of_le (by omega),Nat.ble_eq_true_of_le (by omega)⟩
theorem Pair.eta(x:Ev.Pair):Ev.Pair.mk x.p x.q=x:=rfl
end Pure
namespace Pure
open Esp Ev Go
set_option linter.unusedSimpArgs false
set_option linter.unusedVariables false
theorem r2w{α:Type}(p:List α)(e:α)(h:p.length≤1000000):ix (p++ [e]) (IntKind.wrap .i64 (((p++ [e]).length:Int) - 1))=some e:=by
 rw [b0i (by simp) (by simp;omega),show(((p++ [e]).length:Int) - 1)=(p.length:Int)by simp]
 exact a0z (by simp)
theorem l2i{α:Type}(p:List α)(e:α)(h:p.length≤1000000):(p++ [e])[(IntKind.wrap .i64 (((p++ [e]).length:Int) - 1):Int).toNat]? =some e:=by
 rw [b0i (by simp) (by simp;omega),show((((p++ [e]).length:Int) - 1)).toNat=p.length by simp]
 simp
theorem k2a{α:Type}(p:List α)(e:α)(h:p.length≤1000000):cut? (p++ [e]) (IntKind.wrap .i64 (((p++ [e]).length:Int) - 1))=some p:=by
 rw [b0i (by simp) (by simp;omega),show(((p++ [e]).length:Int) - 1)=(p.length:Int)by simp]
 unfold cut?
 rw [if_pos (by simp;omega)]
 simp
def idsN(g:Graph):List Int:=g.nodes.map Ev.Node.id
structure Ends(R:Int→Int→Prop)(ns:List Int):Prop where
 s: ∀a b,R a b→a∈ns
 d: ∀a b,R a b→b∈ns
theorem Ends.p{R:Int→Int→Prop}{ns:List Int}(h:Ends R ns){a b:Int}(w:Rc R a b):a∈ns:=by
 obtain⟨c,hc⟩:=W.src w;exact h.s _ _ hc
theorem Ends.q{R:Int→Int→Prop}{ns:List Int}(h:Ends R ns){a b:Int}(w:Rc R a b):b∈ns:=by
 obtain⟨c,hc⟩:=W.dst w;exact h.d _ _ hc
theorem y1u{l:List Ev.Node}{t:Int}(h:(b0a l t).isNone=false):t∈l.map Ev.Node.id:=by
 cases hx:b0a l t with
 | none=>rw [hx]at h;cases h
 | some x=>
  have h1:=List.mem_of_find?_eq_some hx
  have h2:=List.find?_some hx
  exact List.mem_map.2 ⟨x,h1,by simpa using h2⟩
theorem k2x{g:Graph}(hc:chkG g=0)(kind:ByteArray):Ends (stp kind g.edges) (idsN g):=by
 obtain⟨_,_,_,h4⟩:=f0d hc
 refine⟨?_, ?_⟩
 ·rintro a b ⟨x,hx,_,rfl,_⟩
  exact y1u (b1r h4 x hx).2.2.1
 ·rintro a b ⟨x,hx,_,_,rfl⟩
  exact y1u (b1r h4 x hx).2.2.2
theorem j2r{g:Graph}(hc:chkG g=0):(idsN g).length≤40:=by
 obtain⟨h,_⟩:=f0d hc
 unfold idsN;simpa using h
theorem s2p(n:Nat)(g:Graph)(kind:ByteArray)(hE:Ends (stp kind g.edges) (idsN g))(hN:(idsN g).length≤40)(he:g.edges.length≤60){ρ:Type}(kx:(List (Int×(List Int)))×(List Ev.Node)×Int×Int×(List (Ev.Pair×Bool))×Unit→Option ρ)(v12:List Ev.Node)(v13 v14:Int)(x:Ev.Node)(ks0:List Ev.Pair):
  ∀(fuel:Nat) (ks:List Ev.Pair) (td:List Int),ks.Nodup→(∀k∈ks,Rc (stp kind g.edges) k.p k.q)→(∀k∈ks,k∈ks0∨(k.p=x.id∧Rc (stp kind g.edges) x.id k.q))→(∀k∈ks0,k∈ks)→
   (∀t∈td,Rc (stp kind g.edges) x.id t)→(∀t,stp kind g.edges x.id t→t∈td∨Ev.Pair.mk x.id t∈ks)→(∀t,Ev.Pair.mk x.id t∈ks→∀u,stp kind g.edges t u→u∈td∨Ev.Pair.mk x.id u∈ks)→
   td.length+61*(1600 - ks.length)<fuel→td.length+61*(1600 - ks.length)≤100000→
   ∃ks' :List Ev.Pair,ks'.Nodup∧(∀k,k∈ks' ↔k∈ks0∨(k.p=x.id∧Rc (stp kind g.edges) x.id k.q))∧
    a0k (fun rc25=>d0r n rc25 kx (fun(_)=>none)) fuel (f0q kind g.edges,v12,v13,v14,(x,()),tr ks,td,())=kx (f0q kind g.edges,v12,v13,v14,tr ks',()):=by
 intro fuel
 induction fuel with
 | zero=>intro ks td _ _ _ _ _ _ _ h _;exact absurd h (Nat.not_lt_zero _)
 | succ f ih=>
  intro ks td hnd hs h0 h00 htd hfi hcl hf hM
  rw [a0k]
  unfold d0r
  dsimp only
  rcases List.eq_nil_or_concat td with rfl | ⟨p,e,rfl⟩
  ·refine⟨ks,hnd,fun k=>⟨h0 k, ?_⟩,rfl⟩
   rintro(h | ⟨h1,h2⟩)
   ·exact h00 k h
   ·have h3:Ev.Pair.mk x.id k.q∈ks:=Rc.close (fun t=>Ev.Pair.mk x.id t∈ks) (fun t ht=>(hfi t ht).resolve_left (by simp)) (fun t u ht hu=>(hcl t ht u hu).resolve_left (by simp)) h2
    rw [←h1]at h3
    exact h3
  ·rw [List.concat_eq_append]at*
   have hpl:p.length≤1000000:=by simp at hM;omega
   rw [r2w p e hpl,l2i p e hpl,k2a p e hpl,show decide (((p++ [e]).length:Int) >0)=true by rw [decide_eq_true_iff];simp,cond_true,Option.bind_some,Option.bind_some,Option.bind_some,a1x]
   have hre:=htd e (by simp)
   by_cases hm:Ev.Pair.mk x.id e∈ks
   ·rw [decide_eq_true hm]
    refine ih ks p hnd hs h0 h00 (fun t ht=>htd t (by simp [ht])) (fun t ht=> ?_) (fun t ht u hu=> ?_) (by simp at hf;omega) (by simp at hM;omega)
    ·rcases hfi t ht with h | h
     ·simp at h
      rcases h with h | rfl
      ·exact .inl h
      ·exact .inr hm
     ·exact .inr h
    ·rcases hcl t ht u hu with h | h
     ·simp at h
      rcases h with h | rfl
      ·exact .inl h
      ·exact .inr hm
     ·exact .inr h
   ·rw [decide_eq_false hm]
    have hnl:=Nat.le_trans (p0h kind e g.edges) he
    have hs' : ∀k∈ins ks ⟨x.id,e⟩,Rc (stp kind g.edges) k.p k.q:=fun k hk=>by
     rcases mem_ins.1 hk with h | rfl
     ·exact hs k h
     ·exact hre
    have hnd' :=u1u hnd ⟨x.id,e⟩
    have hle:=h1x hnd' (fun k hk=>⟨hE.p (hs' k hk),hE.q (hs' k hk)⟩) hN
    have hlen:(ins ks ⟨x.id,e⟩).length=ks.length+1:=by unfold ins;rw [if_neg hm];simp
    rw [Bool.not_false,cond_true,h0j (v2b (by simp at hM⊢;omega)),n2r]
    refine ih _ _ hnd' hs' (fun k hk=> ?_) (fun k hk=>mem_ins.2 (.inl (h00 k hk))) (fun t ht=> ?_) (fun t ht=> ?_) (fun t ht u hu=> ?_) (by simp at hf⊢;omega) (by simp at hM⊢;omega)
    ·rcases mem_ins.1 hk with h | rfl
     ·exact h0 k h
     ·exact .inr ⟨rfl,hre⟩
    ·rcases List.mem_append.1 ht with h | h
     ·exact htd t (by simp [h])
     ·exact hre.trans (.one ((o0p kind g.edges e t).1 h))
    ·rcases hfi t ht with h | h
     ·simp at h
      rcases h with h | rfl
      ·exact .inl (by simp [h])
      ·exact .inr (mem_ins.2 (.inr rfl))
     ·exact .inr (mem_ins.2 (.inl h))
    ·rcases mem_ins.1 ht with h | h
     ·rcases hcl t h u hu with h | h
      ·simp at h
       rcases h with h | rfl
       ·exact .inl (by simp [h])
       ·exact .inr (mem_ins.2 (.inr rfl))
      ·exact .inr (mem_ins.2 (.inl h))
     ·have:t=e:=by injection h
      subst this
      exact .inl (List.mem_append.2 (.inr ((o0p kind g.edges t u).2 hu)))
theorem d1z(l:List Int)(h:l.length≤1000):q10z (l,())=some (l,()):=by
 unfold q10z nilq
 dsimp only
 rw [List.nil_append,h0j (d0d (by omega) (by omega))]
 cases l with
 | nil=>exact q0e _
 | cons a r=>rfl
theorem Node.eta(x:Ev.Node):Ev.Node.mk x.id x.labels x.props=x:=rfl
theorem r2z(n:Nat)(hn:100100≤n)(g:Graph)(kind:ByteArray)(hc:chkG g=0):
  ∃ks:List Ev.Pair,ks.Nodup∧(∀k,k∈ks↔Rc (stp kind g.edges) k.p k.q)∧ks.length≤1600∧c0t n (g,kind,())=some (tr ks,()):=by
 have hE:=k2x hc kind
 have hN:=j2r hc
 obtain⟨h40,h60,_,_⟩:=f0d hc
 have key: ∀(r p:List Ev.Node) (ks:List Ev.Pair) (fuel:Nat),g.nodes=p++r→r.length<fuel→ks.Nodup→(∀k,k∈ks↔k.p∈p.map Ev.Node.id∧Rc (stp kind g.edges) k.p k.q)→
   ∃ks' :List Ev.Pair,ks'.Nodup∧(∀k,k∈ks' ↔Rc (stp kind g.edges) k.p k.q)∧
    a0k (fun rc27=>b0x n rc27 (fun(o26,_)=>some (o26,())) (fun(_)=>none)) fuel (f0q kind g.edges,g.nodes,(g.nodes.length:Int),(p.length:Int),tr ks,())=some (tr ks',()):=by
  intro r
  induction r with
  | nil=>
   intro p ks fuel hp hf hnd hk
   obtain⟨f,rfl⟩: ∃f,fuel=f+1:=⟨fuel - 1,by omega⟩
   refine⟨ks,hnd,fun k=>⟨fun h=>((hk k).1 h).2,fun h=>(hk k).2 ⟨?_,h⟩⟩, ?_⟩
   ·have:=hE.p h
    unfold idsN at this
    rwa [hp,List.append_nil]at this
   ·rw [a0k]
    unfold b0x
    dsimp only
    rw [show decide ((p.length:Int)< (g.nodes.length:Int))=false by rw [hp];simp,cond_false]
  | cons x r ih=>
   intro p ks fuel hp hf hnd hk
   obtain⟨f,rfl⟩: ∃f,fuel=f+1:=⟨fuel - 1,by omega⟩
   have hll:g.nodes.length=p.length+(r.length+1):=by rw [hp];simp
   have hnl:=Nat.le_trans (p0h kind x.id g.edges) h60
   rw [a0k]
   unfold b0x
   dsimp only
   rw [show decide ((p.length:Int)< (g.nodes.length:Int))=true by rw [decide_eq_true_iff];omega,cond_true,a0z (x:=x) (by rw [hp];simp),Option.bind_some,d1z _ (by omega),Option.bind_some]
   dsimp only
   rw [Node.eta]
   have hs: ∀k∈ks,Rc (stp kind g.edges) k.p k.q:=fun k h=>((hk k).1 h).2
   have hle:=h1x hnd (fun k h=>⟨hE.p (hs k h),hE.q (hs k h)⟩) hN
   obtain⟨ks1,n1,m1,e1⟩:=s2p n g kind hE hN h60 (fun(v20,v21,v22,v23,o24,_)=>a0k (fun rc27=>b0x n rc27 (fun(o26,_)=>some (o26,())) (fun(_)=>none)) f (v20,v21,v22,IntKind.wrap .i64 (v23+1),o24,())) g.nodes (g.nodes.length:Int) (p.length:Int) x ks n ks
    (b0c .i64 (.lst .i64) [] (f0q kind g.edges) x.id) hnd hs (fun k h=> .inl h) (fun k h=>h) (fun t h=> .one ((o0p kind g.edges x.id t).1 h)) (fun t h=> .inl ((o0p kind g.edges x.id t).2 h))
    (fun t h u hu=> .inr ((hk _).2 ⟨((hk _).1 h).1,((hk _).1 h).2.trans (.one hu)⟩)) (by omega) (by omega)
   obtain⟨ks2,n2,m2,e2⟩:=ih (p++ [x]) ks1 f (by simp [hp]) (by simp at hf;omega) n1 fun k=>by
    rw [m1,hk]
    simp only [List.map_append,List.map_cons,List.map_nil,List.mem_append,List.mem_singleton]
    constructor
    ·rintro(⟨h1,h2⟩ | ⟨h1,h2⟩)
     ·exact⟨.inl h1,h2⟩
     ·exact⟨.inr h1,by rw [h1];exact h2⟩
    ·rintro⟨h1 | h1,h2⟩
     ·exact .inl ⟨h1,h2⟩
     ·exact .inr ⟨h1,by rw [←h1];exact h2⟩
   refine⟨ks2,n2,m2,e1.trans ?_⟩
   dsimp only
   rw [b0i (by omega) (by omega),show(p.length:Int)+1=((p++ [x]).length:Int)by simp]
   exact e2
 obtain⟨ks,k1,k2,k3⟩:=key g.nodes [] [] n rfl (by omega) (by simp) (by simp)
 refine⟨ks,k1,k2,h1x k1 (fun k h=>⟨hE.p ((k2 k).1 h),hE.q ((k2 k).1 h)⟩) hN, ?_⟩
 unfold c0t o1w
 dsimp only
 rw [Nat.ble_eq_true_of_le (by show g.edges.length≤1000000;omega),cond_true,Option.bind_some]
 exact k3
end Pure
namespace Pure
open Esp Ev Go
set_option linter.unusedSimpArgs false
set_option linter.unusedVariables false
end Pure
namespace Pure
open Esp Ev Go
set_option linter.unusedSimpArgs false
set_option linter.unusedVariables false
def line3G:Graph:= .mk [.mk 1 [] [], .mk 2 [] [], .mk 3 [⟨#[65]⟩] []] [.mk 4 1 2 ⟨#[75]⟩ [], .mk 5 2 3 ⟨#[75]⟩ []] 6
theorem c2h:q17z ()=some (line3G,()):=rfl
theorem q0m:chkG line3G=0:=by kernel_rfl
def p123:List Ev.Pair:= [.mk 1 2, .mk 1 3, .mk 2 3]
end Pure
namespace Pure
open Esp Ev Go
set_option linter.unusedSimpArgs false
set_option linter.unusedVariables false
def Ds(R:Int→Int→Prop)(tg:Int):Nat→Int→Prop
 | 0,v=>v=tg
 | d+1,v=>∃u,R v u∧Ds R tg d u
def dist(R:Int→Int→Prop)(tg:Int)(v:Int)(d:Nat):Prop:=Ds R tg d v∧∀e,e<d→¬Ds R tg e v
end Pure
namespace Pure
open Esp Ev Go
set_option linter.unusedSimpArgs false
set_option linter.unusedVariables false
def Wk(kind:ByteArray)(l:List Edg):Int→List Edg→Int→Prop
 | a, [],b=>a=b
 | a,x::r,b=>x∈l∧kd kind x=true∧x.src=a∧Wk kind l x.dst r b
abbrev ids(q:List Edg):List Int:=q.map Edg.id
theorem Wk.ds{kind:ByteArray}{l:List Edg}: ∀{q:List Edg} {a b:Int},Wk kind l a q b→Ds (stp kind l) b q.length a
 | [],a,b,h=>h
 | x::r,a,b,h=>⟨x.dst,⟨x,h.1,h.2.1,h.2.2.1,rfl⟩,h.2.2.2.ds⟩
theorem Wk.app{kind:ByteArray}{l:List Edg}: ∀{q r:List Edg} {a b c:Int},Wk kind l a q b→Wk kind l b r c→Wk kind l a (q++r) c
 | [],r,a,b,c,h,g=>by cases h;exact g
 | x::q,r,a,b,c,h,g=>⟨h.1,h.2.1,h.2.2.1,h.2.2.2.app g⟩
theorem Wk.split{kind:ByteArray}{l:List Edg}{x:Edg}: ∀{q:List Edg} {a c:Int},Wk kind l a (q++ [x]) c→Wk kind l a q x.src∧x∈l∧kd kind x=true∧x.dst=c
 | [],a,c,h=>⟨h.2.2.1.symm,h.1,h.2.1,h.2.2.2⟩
 | y::q,a,c,h=>by
  obtain⟨h1,h2⟩:=Wk.split (q:=q) h.2.2.2
  exact⟨⟨h.1,h.2.1,h.2.2.1,h1⟩,h2⟩
theorem Wk.rc{kind:ByteArray}{l:List Edg}: ∀{q:List Edg} {a b:Int},q≠ []→Wk kind l a q b→Rc (stp kind l) a b
 | [],a,b,h,_=>absurd rfl h
 | [x],a,b,_,h=>by
  obtain⟨h1,h2,h3,h4⟩:=h
  cases h4
  exact .one ⟨x,h1,h2,h3,rfl⟩
 | x::y::r,a,b,_,h=>by
  obtain⟨h1,h2,h3,h4⟩:=h
  exact Rc.trans (.one ⟨x,h1,h2,h3,rfl⟩) (Wk.rc (by simp) h4)
def r2g(kind:ByteArray)(l:List Edg)(a b:Int)(q:List Edg):Prop:=Wk kind l a q b∧∀p,Wk kind l a p b→p.length=q.length→ltLL (ids p) (ids q)=false
end Pure
namespace Pure
open Esp Ev Go
set_option linter.unusedSimpArgs false
set_option linter.unusedVariables false
end Pure
namespace Pure
open Esp Ev Go
set_option linter.unusedSimpArgs false
set_option linter.unusedVariables false
def ti(ks:List Int):List (Int×Bool):=ks.map fun k=>(k,true)
def x0h(l:List Edg)(a:Int)(w:List Int):Int:=match w.getLast? with
 | some i=>match s0f l i with
  | some x=>x.dst
  | none=>a
 | none=>a
theorem q0g{kind:ByteArray}{l:List Edg}(hr:Rise Edg.id l){a:Int}{q:List Edg}{v:Int}(h:Wk kind l a q v):x0h l a (ids q)=v:=by
 rcases List.eq_nil_or_concat q with rfl | ⟨p,x,rfl⟩
 ·exact h
 ·rw [List.concat_eq_append]at*
  obtain⟨_,hx,_,hd⟩:=h.split
  unfold x0h
  rw [show(ids (p++ [x])).getLast? =some x.id by simp [ids]]
  dsimp only
  rw [show s0f l x.id=some x from q0a hr hx rfl]
  exact hd
def isW(kind:ByteArray)(l:List Edg)(a:Int)(j:Nat)(w:List Int):Prop:=∃q v,Wk kind l a q v∧q.length=j∧w=ids q
end Pure
namespace Pure
open Esp Ev Go
set_option linter.unusedSimpArgs false
set_option linter.unusedVariables false
structure Lvl(kind:ByteArray)(l:List Edg)(a:Int)(j:Nat)(ways:List (List Int)):Prop where
 w: ∀w∈ways,isW kind l a j w
 s:ways.Pairwise fun x y=>ltLL y x=false
 c: ∀v q,r2g kind l a v q→q.length=j→ids q∈ways
theorem Lvl.first{kind:ByteArray}{l:List Edg}(hr:Rise Edg.id l){a:Int}{j:Nat}{ways:List (List Int)}(h:Lvl kind l a j ways){v:Int}{q:List Edg}(hq:r2g kind l a v q)(hj:q.length=j):
  ∃p1 p2,ways=p1++ids q::p2∧∀w' ∈p1,x0h l a w' ≠v:=by
 have hm:=h.c v q hq hj
 have hfind: ∃p1 w p2,ways=p1++w::p2∧x0h l a w=v∧∀w' ∈p1,x0h l a w' ≠v:=by
  have key: ∀(ws:List (List Int)),(∃w∈ws,x0h l a w=v)→ ∃p1 w p2,ws=p1++w::p2∧x0h l a w=v∧∀w' ∈p1,x0h l a w' ≠v:=by
   intro ws
   induction ws with
   | nil=>rintro⟨w,hw,_⟩;cases hw
   | cons y r ih=>
    rintro⟨w,hw,he⟩
    by_cases hy:x0h l a y=v
    ·exact⟨[],y,r,rfl,hy,fun w' hw' =>by cases hw'⟩
    ·have hwr:w∈r:=(List.mem_cons.1 hw).resolve_left fun e=>hy (e▸he)
     obtain⟨p1,w1,p2,h1,h2,h3⟩:=ih ⟨w,hwr,he⟩
     refine⟨y::p1,w1,p2,by rw [h1];rfl,h2,fun w' hw' => ?_⟩
     rcases List.mem_cons.1 hw' with rfl | hw'
     ·exact hy
     ·exact h3 w' hw'
  exact key ways ⟨ids q,hm,q0g hr hq.1⟩
 obtain⟨p1,w,p2,h1,h2,h3⟩:=hfind
 have hw:w=ids q:=by
  obtain⟨q',v',w1,w2,rfl⟩:=h.w w (by rw [h1];simp)
  have hv:v' =v:=(q0g hr w1).symm.trans h2
  subst hv
  have e1:=hq.2 q' w1 (w2.trans hj.symm)
  have e2:ltLL (ids q) (ids q')=false:=by
   have hs:=h.s
   rw [h1]at hs hm
   rcases List.mem_append.1 hm with hm | hm
   ·exact absurd (q0g hr hq.1) (h3 _ hm)
   ·rcases List.mem_cons.1 hm with e | hm
    ·rw [e];exact ltLL_ok.irrefl _
    ·exact List.rel_of_pairwise_cons (List.pairwise_append.1 hs).2.1 hm
  exact ltLL_ok.anti _ _ e1 e2
 subst hw
 exact⟨p1,p2,h1,h3⟩
theorem t1f(l:List (List Int))(h:l.length≤1000000)(h2: ∀x∈l,x.length≤1000000):sfLL (l,())=some (h0u ltLL l,()):=by
 unfold sfLL
 dsimp only
 rw [Nat.ble_eq_true_of_le (by omega),Bool.true_and,List.all_eq_true.2 fun x hx=>Nat.ble_eq_true_of_le (h2 x hx),cond_true]
end Pure

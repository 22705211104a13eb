import Derived.Test.YtnaeiccibhdknaaGreatDoorEvWalk
import Derived.Maps.AppendAt
set_option linter.unusedSimpArgs false
set_option linter.unusedVariables false
namespace Esp
open Go Go.Sort Go.Proofs
def l0k(l:List Int):List Value:=l.map (Value.int .i64)
structure RowsM(w:World)(b base:Nat)(te:TypeId)(l:List (Int×List Int))(es:Array MapEntry)(clock:Nat):Prop where
 hb:w.heap[b]?=some (.map es clock)
 lt:b<base
 size:es.size=l.length
 key:∀i (h:i<l.length) (h' :i<es.size),es[i].key=.int .i64 l[i].1
 row:∀i (h:i<l.length) (h' :i<es.size),w.ownsRow base te 1 es[i].val l[i].2.length (l0k l[i].2)
 dis:∀i j (h:i<es.size) (h' :j<es.size) g,es[i].val.ownBlock=some g->es[j].val.ownBlock=some g->i=j
 st:StOk es clock
theorem RowsM.keys {w:World}{b base:Nat}{te:TypeId}{l:List (Int×List Int)}{es:Array MapEntry}{clock:Nat}(h:RowsM w b base te l es clock):es.toList.map (·.key)=l.map (λp=>keyV .i64 p.1):=by
 apply List.ext_getElem
 ·simp[h.size]
 ·intro i h1 h2
  have hi:i<l.length:=by simpa using h2
  have aK:i<es.size:=by simpa using h1
  simp only[List.getElem_map,Array.getElem_toList];exact h.key i hi aK
theorem RowsM.look {P:Program}{w:World}{b base:Nat}{te:TypeId}{l:List (Int×List Int)}{es:Array MapEntry}{clock:Nat}(h:RowsM w b base te l es clock){t a e:TypeId}(ht:P.underlying t=some (.map a e))(ha:keyA P a .i64=true)
  (hz:∀w,(zeroValue e).run P w=.ok (.slice none 0 0) w)(k:Int):
  ∃v,(∀W:World,W.heap[b]?=some (.map es clock)->(Instr.lookup t (.map (some b)) (.int .i64 k) false).run P W=.ok v W)/\w.ownsRow base te 1 v (a0k .i64 (.lst .i64) [] l k).length (l0k (a0k .i64 (.lst .i64) [] l k))/\
   ((fndI .i64 (.lst .i64) k es.toList l 0=none/\v=.slice none 0 0/\a0k .i64 (.lst .i64) [] l k=[])\/ ∃j,fndI .i64 (.lst .i64) k es.toList l 0=some (j,v)/\ ∃hj:j<es.size,es[j].val=v):=by
 have hk:=h.keys;rcases j0u (kt:=.i64) (vt:=.lst .i64) ([]:List Int) k (λ(y:List Int) v=>w.ownsRow base te 1 v y.length (l0k y)) es.toList l 0 (by simpa using h.size) (λj h1 h2=>by simpa using h.row j h1 (by simpa using h2))with⟨a1,a2,a3,a4⟩| ⟨a1,v,a2,a3,a4⟩
 ·refine⟨.slice none 0 0,λW hW=>?_,?_,.inl ⟨a2,rfl,a3⟩⟩
  ·have h1:=b0i (P:=P) (w:=W) ha es.isEmpty k
   have h2:=b0y (P:=P) (w:=W) (vt:=.lst .i64) ha k es.toList l hk;rw[a2]at h2;have e1:keyV .i64 k=.int .i64 k:=rfl;rw[e1]at h1 h2;simp[Instr.lookup,run_underlying ht,MapKept.run_getObj_map hW,h1,h2,hz,Result.andThen]
  ·rw[a3]
   exact World.ownsRow_nil _ _ _ _
 ·refine⟨v,λW hW=>?_,a3,.inr ⟨_,a2,?_⟩⟩
  ·have h1:=b0i (P:=P) (w:=W) ha es.isEmpty k
   have h2:=b0y (P:=P) (w:=W) (vt:=.lst .i64) ha k es.toList l hk;rw[a2]at h2;have e1:keyV .i64 k=.int .i64 k:=rfl;rw[e1]at h1 h2;simp[Instr.lookup,run_underlying ht,MapKept.run_getObj_map hW,h1,h2,Result.andThen]
  ·obtain⟨_,x,hx,_,bI⟩:=q0g (kt:=.i64) (vt:=.lst .i64) rfl k es.toList l 0 _ v hk a2
   have eY:es[0+a0q .i64 (.lst .i64) l k]?=some x:=by simpa using hx
   obtain⟨hj,qy⟩:=r2r.1 eY;exact⟨hj,by rw[qy];exact bI⟩
theorem RowsM.put {P:Program}{w w1:World}{b base:Nat}{te:TypeId}{l:List (Int×List Int)}{es:Array MapEntry}{clock:Nat}(h:RowsM w b base te l es clock){t a e:TypeId}(ht:P.underlying t=some (.map a e))(ha:keyA P a .i64=true)(k:Int){v v' :Value}{y:List Int}
  (hv:(fndI .i64 (.lst .i64) k es.toList l 0=none/\v=.slice none 0 0/\a0k .i64 (.lst .i64) [] l k=[])\/ ∃j,fndI .i64 (.lst .i64) k es.toList l 0=some (j,v)/\ ∃hj:j<es.size,es[j].val=v)
  (hg:w.grownBy w1 v.ownBlock)(ho:w1.ownsRow base te 1 v' y.length (l0k y))(mU:v'.ownBlock=v.ownBlock\/∀g,v'.ownBlock=some g->w.heap.size<=g)(jo:∀g,v.ownBlock=some g->base<=g):
  ∃w2,(Instr.mapUpdate t (.map (some b)) (.int .i64 k) v').run P w1=.ok () w2/\w1.grownBy w2 (some b)/\ ∃es' clock',RowsM w2 b base te (b0d .i64 (.lst .i64) l k y) es' clock' :=by
 have iU:b<w.heap.size:=(r2r.1 h.hb).1;have aJ:=h.lt;have dV:w1.heap[b]?=some (.map es clock):=by
  rw[hg.block b iU λe=>?_]
  ·exact h.hb
  ·have:=jo b e.symm
   omega
 obtain⟨es',clock',hrun,jr⟩:=n0y (P:=P) ht ha (kt:=.i64) (vt:=.lst .i64) rfl k v' dV h.keys;have mF:b<w1.heap.size:=(r2r.1 dV).1;generalize gY:({w1 with heap:=w1.heap.setIfInBounds b (.map es' clock')}:World)=w2 at hrun
 have cP:∀i,i≠b->w2.heap[i]?=w1.heap[i]?:=λi hi=>by
  rw [<-gY];simp[s2r,Ne.symm hi]
 have dW:w1.grownBy w2 (some b):=⟨by rw [<-gY],by rw [<-gY],by rw [<-gY],by rw [<-gY];simp,λi _ hi=>cP i λe=>hi (by rw[e])⟩;have kf:w2.heap[b]?=some (.map es' clock'):=by
  rw [<-gY];simp[s2r,mF]
 refine⟨w2,hrun,dW,es',clock',?_⟩
 -- rows that are not touched
 have hold:∀i (hi:i<l.length) (aK:i<es.size),(∀g,es[i].val.ownBlock=some g->v.ownBlock≠some g)->w2.ownsRow base te 1 es[i].val l[i].2.length (l0k l[i].2):=λi hi aK aS=>by
  have h1:=(h.row i hi aK).kept hg (by
   cases hq:es[i].val.ownBlock with
   |none=>exact .inl rfl
   |some g=>exact .inr λe=>aS g hq e.symm)
  refine h1.kept dW ?_;cases hq:es[i].val.ownBlock with
  |none=>exact .inl rfl
  |some g=>
   refine .inr λe=>?_;have h2:=(h1.lt g hq).1;have:g=b:=by simpa using e
   omega
 have bJ:w2.ownsRow base te 1 v' y.length (l0k y):=ho.kept dW (by
  cases hq:v'.ownBlock with
  |none=>exact .inl rfl
  |some g=>
   refine .inr λe=>?_;have h2:=(ho.lt g hq).1;have:g=b:=by simpa using e
   omega)
 have gh:∀i (hi:i<l.length) (aK:i<es.size) g,es[i].val.ownBlock=some g->v'.ownBlock=some g->v.ownBlock=some g:=λi hi aK g h1 h2=>by
  rcases mU with h3|h3
  ·rw [<-h3];exact h2
  ·have h4:=h3 g h2
   have h5:=(h.row i hi aK).lt g h1;omega
 have eB:=h.st.write jr;rcases jr with⟨hf,rfl,rfl⟩| ⟨j,u,hf,rfl,rfl⟩
 ·have oT:v=.slice none 0 0:=by
   rcases hv with⟨_,h2,_⟩| ⟨j,h2,_⟩
   ·exact h2
   ·rw[hf]at h2;cases h2
  have dF:b0d .i64 (.lst .i64) l k y=l++ [(k,y)]:=q0e (kt:=.i64) (vt:=.lst .i64) k y es.toList l 0 (by simpa using h.size) hf;have gC:∀i (hi:i<l.length) (aK:i<es.size),∀g,es[i].val.ownBlock=some g->v.ownBlock≠some g:=λi hi aK g _=>by rw[oT];simp[Value.ownBlock]
  rw[dF];refine⟨kf,h.lt,by simp[h.size],λi hi aK=>?_,λi hi aK=>?_,λi j hi hj g h1 h2=>?_,eB⟩
  ·by_cases e:i<es.size
   ·have e2:i<l.length:=by rw [<-h.size];exact e
    rw[Array.getElem_push_lt e,t2e e2];exact h.key i e2 e
   ·have e3:i=es.size:=by simp at aK;omega
    subst e3;have eL:(l++ [(k,y)])[es.size]=(k,y):=by
     rw[List.getElem_append_right (by rw[h.size];exact r2q _)];simp[h.size]
    rw[Array.getElem_push_eq,eL];rfl
  ·by_cases e:i<es.size
   ·have e2:i<l.length:=by rw [<-h.size];exact e
    rw[Array.getElem_push_lt e];have e4:(l++ [(k,y)])[i]=l[i]:=t2e e2;rw[e4];exact hold i e2 e (gC i e2 e)
   ·have e3:i=es.size:=by simp at aK;omega
    subst e3;have eL:(l++ [(k,y)])[es.size]=(k,y):=by
     rw[List.getElem_append_right (by rw[h.size];exact r2q _)];simp[h.size]
    rw[Array.getElem_push_eq,eL];exact bJ
  ·by_cases e:i<es.size<;>by_cases e' :j<es.size
   ·rw[Array.getElem_push_lt e]at h1
    rw[Array.getElem_push_lt e']at h2;exact h.dis i j e e' g h1 h2
   ·have e3:j=es.size:=by simp at hj;omega
    subst e3;rw[Array.getElem_push_lt e]at h1;simp only[Array.getElem_push_eq]at h2;exact absurd (gh i (by rw [<-h.size];exact e) e g h1 h2) (gC i (by rw [<-h.size];exact e) e g h1)
   ·have e3:i=es.size:=by simp at hi;omega
    subst e3;rw[Array.getElem_push_lt e']at h2;simp only[Array.getElem_push_eq]at h1;exact absurd (gh j (by rw [<-h.size];exact e') e' g h2 h1) (gC j (by rw [<-h.size];exact e') e' g h2)
   ·simp at hi hj
    omega
 ·obtain⟨jl,mT⟩:∃hj:j<es.size,es[j].val=v/\u=v:=by
   rcases hv with⟨h2,_,_⟩| ⟨j',h2,hj,h3⟩
   ·rw[hf]at h2;cases h2
   ·rw[hf]at h2
    cases h2;exact⟨hj,h3,rfl⟩
  obtain⟨mT,_⟩:=mT;have gp:j<l.length:=by rw [<-h.size];exact jl
  obtain⟨_,dF⟩:=q0m (kt:=.i64) (vt:=.lst .i64) k y es.toList l 0 j u (by simpa using h.size) hf;rw[Nat.sub_zero]at dF;have dZ:∀i (hi:i<es.size),i≠j->∀g,es[i].val.ownBlock=some g->v.ownBlock≠some g:=λi hi aS g h1 h2=>by
   rw [<-mT]at h2;exact aS (h.dis i j hi jl g h1 h2)
  rw[dF];refine⟨kf,h.lt,by simp[h.size],λi hi aK=>?_,λi hi aK=>?_,λi q hi hq g h1 h2=>?_,eB⟩
  ·have e1:i<es.size:=by simpa using aK
   have e2:i<l.length:=by simpa using hi
   rw[Array.getElem_modify,List.getElem_set];by_cases e:j=i
   ·rw[if_pos e,if_pos e]
    rfl
   ·rw[if_neg e,if_neg e]
    exact h.key i e2 e1
  ·have e1:i<es.size:=by simpa using aK
   have e2:i<l.length:=by simpa using hi
   by_cases e:j=i
   ·subst e
    have e5:(l.set j (k,y))[j]=(k,y):=List.getElem_set_self ..;rw[e5,Array.getElem_modify,if_pos rfl];exact bJ
   ·have e5:(l.set j (k,y))[i]=l[i]:=List.getElem_set_ne e hi
    rw[e5,Array.getElem_modify,if_neg e];exact hold i e2 e1 (dZ i e1 (Ne.symm e))
  ·have e1:i<es.size:=by simpa using hi
   have e2:q<es.size:=by simpa using hq
   rw[Array.getElem_modify]at h1 h2;by_cases ei:j=i<;>by_cases eq:j=q
   ·omega
   ·rw[if_pos ei]at h1
    rw[if_neg eq]at h2;exact absurd (gh q (by rw [<-h.size];exact e2) e2 g h2 h1) (dZ q e2 (Ne.symm eq) g h2)
   ·rw[if_neg ei]at h1
    rw[if_pos eq]at h2;exact absurd (gh i (by rw [<-h.size];exact e1) e1 g h1 h2) (dZ i e1 (Ne.symm ei) g h1)
   ·rw[if_neg ei]at h1
    rw[if_neg eq]at h2;exact h.dis i q e1 e2 g h1 h2
end Esp
namespace Esp
open Go Go.Sort Go.Proofs
theorem RowsM.carry {w w' :World}{b base:Nat}{te:TypeId}{l:List (Int×List Int)}{es:Array MapEntry}{clock:Nat}(h:RowsM w b base te l es clock)(hb:RowKit.Below w.heap.size w w'):RowsM w' b base te l es clock:=
 ⟨(hb.block _ (r2r.1 h.hb).1).trans h.hb,h.lt,h.size,h.key,λi hi aK=>a1n (h.row i hi aK) hb,h.dis,h.st⟩
theorem w0r(l:List Int):flat .i64 l=l.map (iC .i64):=by
 unfold flat
 induction l with
 |nil=>rfl
 |cons a r ih=>simp only[s2o,r2z,ih];rfl
theorem u1q{w:World}{F:Nat->Prop}{base te:Nat}{v:Value}{l:List Int}(ho:w.ownsRow base te 1 v l.length (l0k l))(hF:∀b,v.ownBlock=some b->F b):RelD w F (.nl .i64 l) v:=by
 refine .nl _ _ _ ?_;rw[w0r];rcases w1p ho with⟨rfl,h0⟩| ⟨g,cap,rfl,h1,h2⟩
 ·obtain rfl:l=[]:=s2f h0
  exact .nil 1 none 0
 ·refine .sl 1 l.length _ g 0 cap (λi=>(l0k l).getD i undef) (hF g rfl) (by simp) h1 (λi hi=>?_) λi hi=>?_
  ·have hi2:i<(l0k l).length:=by simpa[l0k]using hi
   have:=ho.cells (g:=g) rfl i (l0k l)[i] (r2k hi2);rw[Addr.add_lit,s2u]at this;rw[s2u,this,r2o,r2k hi2];rfl
  ·have hi2:i<l.length:=by simpa using hi
   have e:(l0k l).getD i undef=.int .i64 l[i]:=by simp[l0k,r2o,hi2]
   rw[e,List.getElem_map];exact .sc _ rfl
theorem h1j [Tabs] {F:Nat->Prop}{w w' :World}{b base:Nat}{te:TypeId}{l:List (Int×List Int)}{es:Array MapEntry}{clock:Nat}(hrw:RelW F nobody w)(hb:RowKit.Below w.heap.size w w')(hR:RowsM w' b base te l es clock)(h1:w.heap.size<=b):
  ∃F' ρ' r bG,EX (.cell (.d (.nm .i64 (.lst .i64) l))) [] r bG/\p0g w' F' ρ' r (.returned (.map (some b)))/\RelW F' ρ' w' /\(∀k,RelOb w' F' ρ' k (lkO bG k))/\Fr F nobody w F' ρ' w' :=by
 have cG:b<w'.heap.size:=(r2r.1 hR.hb).1;have hown:∀i (h:i<es.size) g,es[i].val.ownBlock=some g->base<=g/\g<w'.heap.size:=λi h g hg=>(hR.row i (by rw [<-hR.size];exact h) h).lt g hg;have aJ:=hR.lt;have hrel:RelD w' (λc=>F c\/c=b\/∃i,∃h:i<es.size,es[i].val.ownBlock=some c) (.nm .i64 (.lst .i64) l) (.map (some b)):=by
  refine .nm .i64 (.lst .i64) l b es clock (λi=>#[(es.getD i default).key]) (λi=>#[(es.getD i default).val]) (.inr (.inl rfl)) hR.hb hR.size (λi hi=>⟨rfl,rfl⟩) (λi hi=>?_) (λi hi j hj=>?_) (λi hi j hj=>?_) hR.st
  ·have e:es.getD i default=es[i]:=by simp[r2j,hi]
   rw[e];exact⟨rfl,rfl⟩
  ·have aK:i<es.size:=by rw[hR.size];exact hi
   have e:es.getD i default=es[i]:=by simp[r2j,aK]
   obtain rfl:j=0:=by
    have:j<1:=hj;omega
   rw[e];show RelD _ _ (iC .i64 l[i].1) es[i].key;rw[hR.key i hi aK];exact .sc _ rfl
  ·have aK:i<es.size:=by rw[hR.size];exact hi
   have e:es.getD i default=es[i]:=by simp[r2j,aK]
   obtain rfl:j=0:=by
    have:j<1:=hj;omega
   rw[e];show RelD _ _ (.nl .i64 l[i].2) es[i].val;exact u1q (hR.row i hi aK) λc hc=>.inr (.inr ⟨i,aK,hc⟩)
 refine⟨λc=>F c\/c=b\/∃i,∃h:i<es.size,es[i].val.ownBlock=some c,nobody,.ret (.cell (.d (.nm .i64 (.lst .i64) l))),[],⟨rfl,rfl⟩,.cell _ _ (.d _ _ hrel),⟨?_,?_,?_,?_⟩,λk=>.gone rfl,
  ⟨hb.os,hb.tape,hb.output,hb.size,λb h=>.inl h,λb aJ _=>hb.block b aJ,?_,λ_ _=>Stab.refl _ _⟩⟩
 ·rintro b _ ⟨k,l,h,_⟩
  cases h
 ·rintro c (h|h|⟨i,hi,h⟩)
  ·exact t2h (hrw.lt c h) hb.size
  ·rw[h];exact cG
  ·exact(hown i hi c h).2
 ·intro k k' l l' b h
  cases h
 ·exact hrw.tab_of (λb h=>hb.block b (hrw.lt b h)) λb h=>.inl h
 ·rintro c eD (h|h)
  ·rcases h with h|h|⟨i,hi,h⟩
   ·exact .inl h
   ·omega
   ·have:=(hown i hi c h).1
    omega
  ·exact .inr h
theorem z1b [Tabs] {w:World}{F:Nat->Prop}{ρ:Env}(aH:∀k,RelOb w F ρ k .gone):ρ=nobody:=funext λk=>by
 have:=aH k;cases this with
 |gone h=>exact h
theorem p1c{w:World}{F:Nat->Prop}{ρ:Env}{tm:Array Value}{g:Ev.Graph}{v:Value}(h:RelAV w F ρ tm (.aggD (u0x g)) v):∃nv ev,v=.agg #[nv,ev,.int .i64 g.next]/\RelD w F (.nl .node g.nodes) nv/\RelD w F (.nl .edg g.edges) ev:=by
 generalize hx:u0x g=cs at h;cases h with
 |aggD _ arr hs h=>
  subst hx;have pM:arr.size=3:=hs;have e2:=u0n (h 2 (by show 2<3;omega));refine⟨arr.getD 0 undef,arr.getD 1 undef,?_,h 0 (by show 0<3;omega),h 1 (by show 1<3;omega)⟩;congr 1;apply Array.ext
  ·simpa using pM
  ·intro i h1 h2
   have:i=0\/i=1\/i=2:=by omega
   have e:arr.getD i undef=arr[i]:=by simp[r2j,h1]
   rcases this with rfl|rfl|rfl
   ·rw [<-e];rfl
   ·rw [<-e];rfl
   ·rw [<-e,e2];rfl
end Esp

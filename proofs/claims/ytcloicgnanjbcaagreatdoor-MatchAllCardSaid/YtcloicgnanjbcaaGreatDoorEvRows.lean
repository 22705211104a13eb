import Derived.Test.YtcloicgnanjbcaaGreatDoorEvMap
import Derived.Test.YtcloicgnanjbcaaGreatDoorEvWalk
import Derived.Maps.AppendAt
namespace Esp
open Go Go.Sort Go.Proofs
set_option linter.unusedSimpArgs false
set_option linter.unusedVariables false
def k0p(l:List Int):List Value:=l.map (Value.int .i64)
structure RowsM(w:World)(b base:Nat)(te:TypeId)(l:List (Int×List Int))(es:Array MapEntry)(clock:Nat):Prop where
 hb:w.heap[b]? =some (.map es clock)
 lt:b<base
 size:es.size=l.length
 key: ∀i (h:i<l.length) (h' :i<es.size),es[i].key= .int .i64 l[i].1
 row: ∀i (h:i<l.length) (h' :i<es.size),w.ownsRow base te 1 es[i].val l[i].2.length (k0p l[i].2)
 dis: ∀i j (h:i<es.size) (h' :j<es.size) g,es[i].val.ownBlock=some g→es[j].val.ownBlock=some g→i=j
 st:StOk es clock
theorem RowsM.keys{w:World}{b base:Nat}{te:TypeId}{l:List (Int×List Int)}{es:Array MapEntry}{clock:Nat}(h:RowsM w b base te l es clock):es.toList.map (·.key)=l.map (fun p=>keyV .i64 p.1):=by
 apply List.ext_getElem
 ·simp [h.size]
 ·intro i h1 h2
  have hi:i<l.length:=by simpa using h2
  have hi' :i<es.size:=by simpa using h1
  simp only [List.getElem_map,Array.getElem_toList];exact h.key i hi hi'
theorem RowsM.look{P:Program}{w:World}{b base:Nat}{te:TypeId}{l:List (Int×List Int)}{es:Array MapEntry}{clock:Nat}(h:RowsM w b base te l es clock){t a e:TypeId}(ht:P.underlying t=some (.map a e))(ha:keyA P a .i64=true)
  (hz: ∀w,(zeroValue e).run P w= .ok (.slice none 0 0) w)(k:Int):
  ∃v,(∀W:World,W.heap[b]? =some (.map es clock)→(Instr.lookup t (.map (some b)) (.int .i64 k) false).run P W= .ok v W)∧w.ownsRow base te 1 v (a0g .i64 (.lst .i64) [] l k).length (k0p (a0g .i64 (.lst .i64) [] l k))∧
   ((fndI .i64 (.lst .i64) k es.toList l 0=none∧v= .slice none 0 0∧a0g .i64 (.lst .i64) [] l k= [])∨ ∃j,fndI .i64 (.lst .i64) k es.toList l 0=some (j,v)∧ ∃hj:j<es.size,es[j].val=v):=by
 have hk:=h.keys;rcases n0l (kt:= .i64) (vt:= .lst .i64) ([]:List Int) k (fun(y:List Int) v=>w.ownsRow base te 1 v y.length (k0p y)) es.toList l 0 (by simpa using h.size) (fun j h1 h2=>by simpa using h.row j h1 (by simpa using h2))with⟨a1,a2,a3,a4⟩ | ⟨a1,v,a2,a3,a4⟩
 ·refine⟨.slice none 0 0,fun W hW=> ?_, ?_, .inl ⟨a2,rfl,a3⟩⟩
  ·have h1:=b0o (P:=P) (w:=W) ha es.isEmpty k
   have h2:=c0a (P:=P) (w:=W) (vt:= .lst .i64) ha k es.toList l hk;rw [a2]at h2;have e1:keyV .i64 k= .int .i64 k:=rfl;rw [e1]at h1 h2;simp [Instr.lookup,run_underlying ht,MapKept.run_getObj_map hW,h1,h2,hz,Result.andThen]
  ·rw [a3]
   exact World.ownsRow_nil _ _ _ _
 ·refine⟨v,fun W hW=> ?_,a3, .inr ⟨_,a2, ?_⟩⟩
  ·have h1:=b0o (P:=P) (w:=W) ha es.isEmpty k
   have h2:=c0a (P:=P) (w:=W) (vt:= .lst .i64) ha k es.toList l hk;rw [a2]at h2;have e1:keyV .i64 k= .int .i64 k:=rfl;rw [e1]at h1 h2;simp [Instr.lookup,run_underlying ht,MapKept.run_getObj_map hW,h1,h2,Result.andThen]
  ·obtain⟨_,x,hx,_,hxv⟩:=t0x (kt:= .i64) (vt:= .lst .i64) rfl k es.toList l 0 _ v hk a2
   have hx' :es[0+b0m .i64 (.lst .i64) l k]? =some x:=by simpa using hx
   obtain⟨hj,hxe⟩:=k2j.1 hx';exact⟨hj,by rw [hxe];exact hxv⟩
theorem RowsM.put{P:Program}{w w1:World}{b base:Nat}{te:TypeId}{l:List (Int×List Int)}{es:Array MapEntry}{clock:Nat}(h:RowsM w b base te l es clock){t a e:TypeId}(ht:P.underlying t=some (.map a e))(ha:keyA P a .i64=true)(k:Int){v v' :Value}{y:List Int}
  (hv:(fndI .i64 (.lst .i64) k es.toList l 0=none∧v= .slice none 0 0∧a0g .i64 (.lst .i64) [] l k= [])∨ ∃j,fndI .i64 (.lst .i64) k es.toList l 0=some (j,v)∧ ∃hj:j<es.size,es[j].val=v)
  (hg:w.grownBy w1 v.ownBlock)(ho:w1.ownsRow base te 1 v' y.length (k0p y))(hloc:v'.ownBlock=v.ownBlock∨∀g,v'.ownBlock=some g→w.heap.size≤g)(hvb: ∀g,v.ownBlock=some g→base≤g):
  ∃w2,(Instr.mapUpdate t (.map (some b)) (.int .i64 k) v').run P w1= .ok () w2∧w1.grownBy w2 (some b)∧ ∃es' clock',RowsM w2 b base te (a0e .i64 (.lst .i64) l k y) es' clock' :=by
 have hblt:b<w.heap.size:=(k2j.1 h.hb).1;have hlt:=h.lt;have hb1:w1.heap[b]? =some (.map es clock):=by
  rw [hg.block b hblt fun e=> ?_]
  ·exact h.hb
  ·have:=hvb b e.symm
   omega
 obtain⟨es',clock',hrun,hwr⟩:=r0z (P:=P) ht ha (kt:= .i64) (vt:= .lst .i64) rfl k v' hb1 h.keys;have hsz1:b<w1.heap.size:=(k2j.1 hb1).1;generalize hw2:({w1 with heap:=w1.heap.setIfInBounds b (.map es' clock')}:World)=w2 at hrun
 have hoth: ∀i,i≠b→w2.heap[i]? =w1.heap[i]? :=fun i hi=>by
  rw [←hw2];simp [l2h,Ne.symm hi]
 have hg2:w1.grownBy w2 (some b):=⟨by rw [←hw2],by rw [←hw2],by rw [←hw2],by rw [←hw2];simp,fun i _ hi=>hoth i fun e=>hi (by rw [e])⟩;have hbw2:w2.heap[b]? =some (.map es' clock'):=by
  rw [←hw2];simp [l2h,hsz1]
 refine⟨w2,hrun,hg2,es',clock', ?_⟩
 -- rows that are not touched
 have hold: ∀i (hi:i<l.length) (hi' :i<es.size),(∀g,es[i].val.ownBlock=some g→v.ownBlock≠some g)→w2.ownsRow base te 1 es[i].val l[i].2.length (k0p l[i].2):=fun i hi hi' hne=>by
  have h1:=(h.row i hi hi').kept hg (by
   cases hq:es[i].val.ownBlock with
   | none=>exact .inl rfl
   | some g=>exact .inr fun e=>hne g hq e.symm)
  refine h1.kept hg2 ?_;cases hq:es[i].val.ownBlock with
  | none=>exact .inl rfl
  | some g=>
   refine .inr fun e=> ?_;have h2:=(h1.lt g hq).1;have:g=b:=by simpa using e
   omega
 have hnew:w2.ownsRow base te 1 v' y.length (k0p y):=ho.kept hg2 (by
  cases hq:v'.ownBlock with
  | none=>exact .inl rfl
  | some g=>
   refine .inr fun e=> ?_;have h2:=(ho.lt g hq).1;have:g=b:=by simpa using e
   omega)
 have hfar: ∀i (hi:i<l.length) (hi' :i<es.size) g,es[i].val.ownBlock=some g→v'.ownBlock=some g→v.ownBlock=some g:=fun i hi hi' g h1 h2=>by
  rcases hloc with h3 | h3
  ·rw [←h3];exact h2
  ·have h4:=h3 g h2
   have h5:=(h.row i hi hi').lt g h1;omega
 have hst' :=h.st.write hwr;rcases hwr with⟨hf,rfl,rfl⟩ | ⟨j,u,hf,rfl,rfl⟩
 ·have hvn:v= .slice none 0 0:=by
   rcases hv with⟨_,h2,_⟩ | ⟨j,h2,_⟩
   ·exact h2
   ·rw [hf]at h2;cases h2
  have hput:a0e .i64 (.lst .i64) l k y=l++ [(k,y)]:=t0o (kt:= .i64) (vt:= .lst .i64) k y es.toList l 0 (by simpa using h.size) hf;have hnn: ∀i (hi:i<l.length) (hi' :i<es.size),∀g,es[i].val.ownBlock=some g→v.ownBlock≠some g:=fun i hi hi' g _=>by rw [hvn];simp [Value.ownBlock]
  rw [hput];refine⟨hbw2,h.lt,by simp [h.size],fun i hi hi' => ?_,fun i hi hi' => ?_,fun i j hi hj g h1 h2=> ?_,hst'⟩
  ·by_cases e:i<es.size
   ·have e2:i<l.length:=by rw [←h.size];exact e
    rw [Array.getElem_push_lt e,l2u e2];exact h.key i e2 e
   ·have e3:i=es.size:=by simp at hi';omega
    subst e3;have eL:(l++ [(k,y)])[es.size]=(k,y):=by
     rw [List.getElem_append_right (by rw [h.size];exact k2h _)];simp [h.size]
    rw [Array.getElem_push_eq,eL];rfl
  ·by_cases e:i<es.size
   ·have e2:i<l.length:=by rw [←h.size];exact e
    rw [Array.getElem_push_lt e];have e4:(l++ [(k,y)])[i]=l[i]:=l2u e2;rw [e4];exact hold i e2 e (hnn i e2 e)
   ·have e3:i=es.size:=by simp at hi';omega
    subst e3;have eL:(l++ [(k,y)])[es.size]=(k,y):=by
     rw [List.getElem_append_right (by rw [h.size];exact k2h _)];simp [h.size]
    rw [Array.getElem_push_eq,eL];exact hnew
  ·by_cases e:i<es.size<;>by_cases e' :j<es.size
   ·rw [Array.getElem_push_lt e]at h1
    rw [Array.getElem_push_lt e']at h2;exact h.dis i j e e' g h1 h2
   ·have e3:j=es.size:=by simp at hj;omega
    subst e3;rw [Array.getElem_push_lt e]at h1;simp only [Array.getElem_push_eq]at h2;exact absurd (hfar i (by rw [←h.size];exact e) e g h1 h2) (hnn i (by rw [←h.size];exact e) e g h1)
   ·have e3:i=es.size:=by simp at hi;omega
    subst e3;rw [Array.getElem_push_lt e']at h2;simp only [Array.getElem_push_eq]at h1;exact absurd (hfar j (by rw [←h.size];exact e') e' g h2 h1) (hnn j (by rw [←h.size];exact e') e' g h2)
   ·simp at hi hj
    omega
 ·obtain⟨hj0,hjv⟩: ∃hj:j<es.size,es[j].val=v∧u=v:=by
   rcases hv with⟨h2,_,_⟩ | ⟨j',h2,hj,h3⟩
   ·rw [hf]at h2;cases h2
   ·rw [hf]at h2
    cases h2;exact⟨hj,h3,rfl⟩
  obtain⟨hjv,_⟩:=hjv;have hjl:j<l.length:=by rw [←h.size];exact hj0
  obtain⟨_,hput⟩:=t0n (kt:= .i64) (vt:= .lst .i64) k y es.toList l 0 j u (by simpa using h.size) hf;rw [Nat.sub_zero]at hput;have hother: ∀i (hi:i<es.size),i≠j→∀g,es[i].val.ownBlock=some g→v.ownBlock≠some g:=fun i hi hne g h1 h2=>by
   rw [←hjv]at h2;exact hne (h.dis i j hi hj0 g h1 h2)
  rw [hput];refine⟨hbw2,h.lt,by simp [h.size],fun i hi hi' => ?_,fun i hi hi' => ?_,fun i q hi hq g h1 h2=> ?_,hst'⟩
  ·have e1:i<es.size:=by simpa using hi'
   have e2:i<l.length:=by simpa using hi
   rw [Array.getElem_modify,List.getElem_set];by_cases e:j=i
   ·rw [if_pos e,if_pos e]
    rfl
   ·rw [if_neg e,if_neg e]
    exact h.key i e2 e1
  ·have e1:i<es.size:=by simpa using hi'
   have e2:i<l.length:=by simpa using hi
   by_cases e:j=i
   ·subst e
    have e5:(l.set j (k,y))[j]=(k,y):=List.getElem_set_self ..;rw [e5,Array.getElem_modify,if_pos rfl];exact hnew
   ·have e5:(l.set j (k,y))[i]=l[i]:=List.getElem_set_ne e hi
    rw [e5,Array.getElem_modify,if_neg e];exact hold i e2 e1 (hother i e1 (Ne.symm e))
  ·have e1:i<es.size:=by simpa using hi
   have e2:q<es.size:=by simpa using hq
   rw [Array.getElem_modify]at h1 h2;by_cases ei:j=i<;>by_cases eq:j=q
   ·omega
   ·rw [if_pos ei]at h1
    rw [if_neg eq]at h2;exact absurd (hfar q (by rw [←h.size];exact e2) e2 g h2 h1) (hother q e2 (Ne.symm eq) g h2)
   ·rw [if_neg ei]at h1
    rw [if_pos eq]at h2;exact absurd (hfar i (by rw [←h.size];exact e1) e1 g h1 h2) (hother i e1 (Ne.symm ei) g h1)
   ·rw [if_neg ei]at h1
    rw [if_neg eq]at h2;exact h.dis i q e1 e2 g h1 h2
end Esp
namespace Esp
open Go Go.Sort Go.Proofs
set_option linter.unusedSimpArgs false
set_option linter.unusedVariables false
theorem RowsM.carry{w w' :World}{b base:Nat}{te:TypeId}{l:List (Int×List Int)}{es:Array MapEntry}{clock:Nat}(h:RowsM w b base te l es clock)(hb:RowKit.Below w.heap.size w w'):RowsM w' b base te l es clock:=
 ⟨(hb.block _ (k2j.1 h.hb).1).trans h.hb,h.lt,h.size,h.key,fun i hi hi' =>w0w (h.row i hi hi') hb,h.dis,h.st⟩
theorem u0f(l:List Int):flat .i64 l=l.map (iC .i64):=by
 unfold flat
 induction l with
 | nil=>rfl
 | cons a r ih=>simp only [k2n,k2l,ih];rfl
theorem o1j{w:World}{F:Nat→Prop}{base te:Nat}{v:Value}{l:List Int}(ho:w.ownsRow base te 1 v l.length (k0p l))(hF: ∀b,v.ownBlock=some b→F b):RelD w F (.nl .i64 l) v:=by
 refine .nl _ _ _ ?_;rw [u0f];rcases j1g ho with⟨rfl,h0⟩ | ⟨g,cap,rfl,h1,h2⟩
 ·obtain rfl:l= []:=k2q h0
  exact .nil 1 none 0
 ·refine .sl 1 l.length _ g 0 cap (fun i=>(k0p l).getD i undef) (hF g rfl) (by simp) h1 (fun i hi=> ?_) fun i hi=> ?_
  ·have hi2:i< (k0p l).length:=by simpa [k0p]using hi
   have:=ho.cells (g:=g) rfl i (k0p l)[i] (j2x hi2);rw [Addr.add_lit,l2b]at this;rw [l2b,this,j2z,j2x hi2];rfl
  ·have hi2:i<l.length:=by simpa using hi
   have e:(k0p l).getD i undef= .int .i64 l[i]:=by simp [k0p,j2z,hi2]
   rw [e,List.getElem_map];exact .sc _ rfl
theorem c1p [Tabs] {F:Nat→Prop}{w w' :World}{b base:Nat}{te:TypeId}{l:List (Int×List Int)}{es:Array MapEntry}{clock:Nat}(hrw:RelW F nobody w)(hb:RowKit.Below w.heap.size w w')(hR:RowsM w' b base te l es clock)(h1:w.heap.size≤b):
  ∃F' ρ' r ob',EX (.cell (.d (.nm .i64 (.lst .i64) l))) [] r ob' ∧m0k w' F' ρ' r (.returned (.map (some b)))∧RelW F' ρ' w' ∧(∀k,RelOb w' F' ρ' k (lkO ob' k))∧Fr F nobody w F' ρ' w' :=by
 have hbl:b<w'.heap.size:=(k2j.1 hR.hb).1;have hown: ∀i (h:i<es.size) g,es[i].val.ownBlock=some g→base≤g∧g<w'.heap.size:=fun i h g hg=>(hR.row i (by rw [←hR.size];exact h) h).lt g hg;have hlt:=hR.lt;have hrel:RelD w' (fun c=>F c∨c=b∨∃i,∃h:i<es.size,es[i].val.ownBlock=some c) (.nm .i64 (.lst .i64) l) (.map (some b)):=by
  refine .nm .i64 (.lst .i64) l b es clock (fun i=> #[(es.getD i default).key]) (fun i=> #[(es.getD i default).val]) (.inr (.inl rfl)) hR.hb hR.size (fun i hi=>⟨rfl,rfl⟩) (fun i hi=> ?_) (fun i hi j hj=> ?_) (fun i hi j hj=> ?_) hR.st
  ·have e:es.getD i default=es[i]:=by simp [j2u,hi]
   rw [e];exact⟨rfl,rfl⟩
  ·have hi' :i<es.size:=by rw [hR.size];exact hi
   have e:es.getD i default=es[i]:=by simp [j2u,hi']
   obtain rfl:j=0:=by
    have:j<1:=hj;omega
   rw [e];show RelD _ _ (iC .i64 l[i].1) es[i].key;rw [hR.key i hi hi'];exact .sc _ rfl
  ·have hi' :i<es.size:=by rw [hR.size];exact hi
   have e:es.getD i default=es[i]:=by simp [j2u,hi']
   obtain rfl:j=0:=by
    have:j<1:=hj;omega
   rw [e];show RelD _ _ (.nl .i64 l[i].2) es[i].val;exact o1j (hR.row i hi hi') fun c hc=> .inr (.inr ⟨i,hi',hc⟩)
 refine⟨fun c=>F c∨c=b∨∃i,∃h:i<es.size,es[i].val.ownBlock=some c,nobody, .ret (.cell (.d (.nm .i64 (.lst .i64) l))), [],⟨rfl,rfl⟩, .cell _ _ (.d _ _ hrel),⟨?_, ?_, ?_, ?_⟩,fun k=> .gone rfl,
  ⟨hb.os,hb.tape,hb.output,hb.size,fun b h=> .inl h,fun b hlt _=>hb.block b hlt, ?_,fun _ _=>Stab.refl _ _⟩⟩
 ·rintro b _ ⟨k,l,h,_⟩
  cases h
 ·rintro c (h | h | ⟨i,hi,h⟩)
  ·exact l2s (hrw.lt c h) hb.size
  ·rw [h];exact hbl
  ·exact(hown i hi c h).2
 ·intro k k' l l' b h
  cases h
 ·exact hrw.tab_of (fun b h=>hb.block b (hrw.lt b h)) fun b h=> .inl h
 ·rintro c hlt2 (h | h)
  ·rcases h with h | h | ⟨i,hi,h⟩
   ·exact .inl h
   ·omega
   ·have:=(hown i hi c h).1
    omega
  ·exact .inr h
theorem t1e [Tabs] {w:World}{F:Nat→Prop}{ρ:Env}(hob: ∀k,RelOb w F ρ k .gone):ρ=nobody:=funext fun k=>by
 have:=hob k;cases this with
 | gone h=>exact h
theorem o1p{w:World}{F:Nat→Prop}{ρ:Env}{tm:Array Value}{g:Ev.Graph}{v:Value}(h:RelAV w F ρ tm (.aggD (r0t g)) v): ∃nv ev,v= .agg #[nv,ev, .int .i64 g.next]∧RelD w F (.nl .node g.nodes) nv∧RelD w F (.nl .edg g.edges) ev:=by
 generalize hx:r0t g=cs at h;cases h with
 | aggD _ arr hs h=>
  subst hx;have hs3:arr.size=3:=hs;have e2:=s0e (h 2 (by show 2<3;omega));refine⟨arr.getD 0 undef,arr.getD 1 undef, ?_,h 0 (by show 0<3;omega),h 1 (by show 1<3;omega)⟩;congr 1;apply Array.ext
  ·simpa using hs3
  ·intro i h1 h2
   have:i=0∨i=1∨i=2:=by omega
   have e:arr.getD i undef=arr[i]:=by simp [j2u,h1]
   rcases this with rfl | rfl | rfl
   ·rw [←e];rfl
   ·rw [←e];rfl
   ·rw [←e,e2];rfl
end Esp

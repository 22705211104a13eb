import Derived.Test.YtcloicgnanjbcaaGreatDoorEvFn
import Derived.Laws.IdiomCopy
namespace Esp
open Go
set_option linter.unusedSimpArgs false
set_option linter.unusedVariables false
variable [Tabs]
section
variable{P:Program}
end
omit [Tabs]in
theorem y0q(w:World){g o:Nat}{cur:Array Value}{t:TypeId}(vs:List Value)(hg:w.heap[g]? =some (.cells cur t (0,0)))(h:o+vs.length≤cur.size)(h1: ∀v∈vs,v.oneCell' =true):
  w.setCells g o vs=w.setRow g (cur.toList.take o++vs++cur.toList.drop (o+vs.length)).toArray:=by
 have P:Program:=default;have a1:=run_storeCells_at P g o t vs 0 cur w hg (by simpa using h) h1;have a2:=run_storeCells_cells (P:=P) g o vs 0 w (fun j hj=>by simp [World.cell?,hg];omega) (fun j hj=>by simp [World.frozen?,hg]) h1;rw [a1]at a2;simp only [m2p]at a2;exact(Result.ok.inj a2).2.symm
def LD(w:World)(F:Nat→Prop)(ds:List D)(xs:List Value):Prop:=xs.length=ds.length∧∀i (h:i<ds.length),RelD w F ds[i] (xs.getD i undef)
omit [Tabs]in
theorem LD.take{w:World}{F:Nat→Prop}{ds:List D}{xs:List Value}(h:LD w F ds xs)(n:Nat):LD w F (ds.take n) (xs.take n):=by
 refine⟨by simp [h.1],fun i hi=> ?_⟩;have h1:i<n∧i<ds.length:=by rw [k2g]at hi;omega
 have:=h.2 i h1.2;simpa [j2z,l2y,h1.1]using this
omit [Tabs]in
theorem LD.drop{w:World}{F:Nat→Prop}{ds:List D}{xs:List Value}(h:LD w F ds xs)(n:Nat):LD w F (ds.drop n) (xs.drop n):=by
 refine⟨by simp [h.1],fun i hi=> ?_⟩;have h1:n+i<ds.length:=by rw [k2t]at hi;omega
 have:=h.2 (n+i) h1;simpa [j2z,List.getElem?_drop]using this
omit [Tabs]in
theorem LD.one{w:World}{F:Nat→Prop}{ds:List D}{xs:List Value}(h:LD w F ds xs): ∀v∈xs,v.oneCell' =true:=by
 intro v hv;obtain⟨i,hi,rfl⟩:=List.getElem_of_mem hv;have:=(h.2 i (by rw [←h.1];exact hi)).oneCell;simpa [j2z,j2x hi]using this
structure Wrote(w W:World)(g:Nat)(te:TypeId)(new:List Value):Prop where
 heap:W.heap[g]? =some (.cells new.toArray te (0,0))
 oth: ∀b,b≠g→W.heap[b]? =w.heap[b]?
 os:W.os=w.os
 tape:W.tape=w.tape
 output:W.output=w.output
 size:W.heap.size=w.heap.size
omit [Tabs]in
theorem Wrote.cells{w:World}{g o:Nat}{cur:Array Value}{te:TypeId}(vs:List Value)(hg:w.heap[g]? =some (.cells cur te (0,0)))(h:o+vs.length≤cur.size)(h1: ∀v∈vs,v.oneCell' =true):
  Wrote w (w.setCells g o vs) g te (cur.toList.take o++vs++cur.toList.drop (o+vs.length)):=by
 rw [y0q w vs hg h h1];exact⟨setRow_heap w g cur _ te _ hg,fun b hb=>by simp only [World.setRow,Array.getElem?_modify];rw [if_neg (Ne.symm hb)],rfl,rfl,rfl,by simp [World.setRow]⟩
section
variable{P:Program}{f:FuncId}{te:TypeId}{e bytes:Nat}
structure InsWalk(P:Program)(f:FuncId)(te:TypeId)(e bytes:Nat):Prop where
 hbytes:bytes≤1000
 room: ∀(g n c vb vc:Nat) (vs:List Value) (w:World),n+1≤c→c≤9223372036854775807→vs.length=1*e→
  (∀j,j<vs.length→(w.cell? ⟨g,0+n*e+j,none⟩).isSome=true)→(∀j,j<vs.length→w.frozen? ⟨g,0+n*e+j,none⟩=false)→
  (∀j v,vs[j]? =some v→w.cell? ⟨vb,j,none⟩=some v)→(∀v∈vs,v.oneCell' =true)→
  Calls P f #[.slice (some ⟨g,0,none⟩) n c, .int .i64 n, .slice (some ⟨vb,0,none⟩) 1 vc] w fun en w' =>en= .returned (.slice (some ⟨g,0,none⟩) (n+1) c)∧w' =w.setCells g (0+n*e) vs
 fin: ∀(base:Option Addr) (n c vb vc:Nat) (cs vs:List Value) (w:World),n≤c→c<n+1→(n+1)*bytes≤140737488355328→
  cs.length=n*e→vs.length=1*e→(base=none→n=0)→
  (∀a,base=some a→∀j v,cs[j]? =some v→w.cell? (a.add j)=some v)→(∀j v,vs[j]? =some v→w.cell? ⟨vb,j,none⟩=some v)→(∀v∈vs,v.oneCell' =true)→
  Calls P f #[.slice base n c, .int .i64 n, .slice (some ⟨vb,0,none⟩) 1 vc] w fun en w' =>
   en= .returned (.slice (some ⟨w.heap.size,0,none⟩) (n+1) (grownCap w (n+1) c te))∧
   ∃zs:Array Value,zs.size=(grownCap w (n+1) c te - (n+1))*e∧w' =w.drew.alloc (.cells ((cs++vs).toArray++zs) te)
 shift: ∀(g n c i vb vc:Nat) (cs vs:List Value) (w:World),i<n→n+1≤c→c≤9223372036854775807→vb≠g→cs.length=n*e→vs.length=1*e→
  (∀j v,cs[j]? =some v→w.cell? ⟨g,j,none⟩=some v)→(∀j,j< (n+1)*e→(w.cell? ⟨g,j,none⟩).isSome=true)→(∀j,w.frozen? ⟨g,j,none⟩=false)→
  (∀j v,vs[j]? =some v→w.cell? ⟨vb,j,none⟩=some v)→(∀v∈cs,v.oneCell' =true)→(∀v∈vs,v.oneCell' =true)→
  ∀(tA tB:TypeId) (kA kB:Nat),w.shape? vb=some (tA,kA)→w.shape? g=some (tB,kB)→kB≠0→w.frozen? ⟨vb,0,none⟩=false→w.frozen? ⟨vb,kA,none⟩=false→
  Calls P f #[.slice (some ⟨g,0,none⟩) n c, .int .i64 i, .slice (some ⟨vb,0,none⟩) 1 vc] w fun en w' =>
   en= .returned (.slice (some ⟨g,0,none⟩) (n+1) c)∧w' =(w.drew.setCells g ((i+1)*e) (cs.drop (i*e))).setCells g (i*e) vs
 grow: ∀(g n c i vb vc:Nat) (cs vs:List Value) (w:World),i<n→n≤c→c<n+1→(n+1)*bytes≤140737488355328→cs.length=n*e→vs.length=1*e→
  (∀j v,cs[j]? =some v→w.cell? ⟨g,j,none⟩=some v)→(∀j v,vs[j]? =some v→w.cell? ⟨vb,j,none⟩=some v)→(∀v∈cs,v.oneCell' =true)→(∀v∈vs,v.oneCell' =true)→
  Calls P f #[.slice (some ⟨g,0,none⟩) n c, .int .i64 i, .slice (some ⟨vb,0,none⟩) 1 vc] w fun en w' =>∃(G:Nat) (ROW:Array Value),n+1≤G∧G≤maxLen∧ROW.size=G*e∧ROW.toList.take (i*e)=cs.take (i*e)∧
   en= .returned (.slice (some ⟨w.heap.size,0,none⟩) (n+1) G)∧w' =(((w.alloc (.cells ROW te)).drew.setCells w.heap.size (i*e) vs).drew).setCells w.heap.size ((i+1)*e) (cs.drop (i*e))
end
end Esp

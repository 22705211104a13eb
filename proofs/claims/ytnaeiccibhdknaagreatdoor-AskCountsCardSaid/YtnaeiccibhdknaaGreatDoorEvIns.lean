import Derived.Test.YtnaeiccibhdknaaGreatDoorEvLaid
import Derived.Laws.IdiomCopy
set_option linter.unusedSimpArgs false
set_option linter.unusedVariables false
namespace Esp
open Go
variable [Tabs]
section
variable{P:Program}
end
structure Wrote(w W:World)(g:Nat)(te:TypeId)(new:List Value):Prop where
 heap:W.heap[g]?=some (.cells new.toArray te (0,0))
 oth:∀b,b≠g->W.heap[b]?=w.heap[b]?
 os:W.os=w.os
 tape:W.tape=w.tape
 output:W.output=w.output
 size:W.heap.size=w.heap.size
section
variable{P:Program}{f:FuncId}{te:TypeId}{e bytes:Nat}
structure InsWalk(P:Program)(f:FuncId)(te:TypeId)(e bytes:Nat):Prop where
 hbytes:bytes<=1000
 room:∀(g n c vb vc:Nat) (vs:List Value) (w:World),n+1<=c->c<=9223372036854775807->vs.length=1*e->
  (∀j,j<vs.length->(w.cell? ⟨g,0+n*e+j,none⟩).isSome=true)->(∀j,j<vs.length->w.frozen? ⟨g,0+n*e+j,none⟩=false)->
  (∀j v,vs[j]?=some v->w.cell? ⟨vb,j,none⟩=some v)->(∀v∈vs,v.oneCell' =true)->
  Calls P f #[.slice (some ⟨g,0,none⟩) n c,.int .i64 n,.slice (some ⟨vb,0,none⟩) 1 vc] w λen w' =>en=.returned (.slice (some ⟨g,0,none⟩) (n+1) c)/\w' =w.setCells g (0+n*e) vs
 fin:∀(base:Option Addr) (n c vb vc:Nat) (cs vs:List Value) (w:World),n<=c->c<n+1->(n+1)*bytes<=140737488355328->
  cs.length=n*e->vs.length=1*e->(base=none->n=0)->
  (∀a,base=some a->∀j v,cs[j]?=some v->w.cell? (a.add j)=some v)->(∀j v,vs[j]?=some v->w.cell? ⟨vb,j,none⟩=some v)->(∀v∈vs,v.oneCell' =true)->
  Calls P f #[.slice base n c,.int .i64 n,.slice (some ⟨vb,0,none⟩) 1 vc] w λen w' =>
   en=.returned (.slice (some ⟨w.heap.size,0,none⟩) (n+1) (grownCap w (n+1) c te))/\
   ∃zs:Array Value,zs.size=(grownCap w (n+1) c te - (n+1))*e/\w' =w.drew.alloc (.cells ((cs++vs).toArray++zs) te)
 shift:∀(g n c i vb vc:Nat) (cs vs:List Value) (w:World),i<n->n+1<=c->c<=9223372036854775807->vb≠g->cs.length=n*e->vs.length=1*e->
  (∀j v,cs[j]?=some v->w.cell? ⟨g,j,none⟩=some v)->(∀j,j<(n+1)*e->(w.cell? ⟨g,j,none⟩).isSome=true)->(∀j,w.frozen? ⟨g,j,none⟩=false)->
  (∀j v,vs[j]?=some v->w.cell? ⟨vb,j,none⟩=some v)->(∀v∈cs,v.oneCell' =true)->(∀v∈vs,v.oneCell' =true)->
  ∀(tA tB:TypeId) (kA kB:Nat),w.shape? vb=some (tA,kA)->w.shape? g=some (tB,kB)->kB≠0->w.frozen? ⟨vb,0,none⟩=false->w.frozen? ⟨vb,kA,none⟩=false->
  Calls P f #[.slice (some ⟨g,0,none⟩) n c,.int .i64 i,.slice (some ⟨vb,0,none⟩) 1 vc] w λen w' =>
   en=.returned (.slice (some ⟨g,0,none⟩) (n+1) c)/\w' =(w.drew.setCells g ((i+1)*e) (cs.drop (i*e))).setCells g (i*e) vs
 grow:∀(g n c i vb vc:Nat) (cs vs:List Value) (w:World),i<n->n<=c->c<n+1->(n+1)*bytes<=140737488355328->cs.length=n*e->vs.length=1*e->
  (∀j v,cs[j]?=some v->w.cell? ⟨g,j,none⟩=some v)->(∀j v,vs[j]?=some v->w.cell? ⟨vb,j,none⟩=some v)->(∀v∈cs,v.oneCell' =true)->(∀v∈vs,v.oneCell' =true)->
  Calls P f #[.slice (some ⟨g,0,none⟩) n c,.int .i64 i,.slice (some ⟨vb,0,none⟩) 1 vc] w λen w' =>∃(G:Nat) (ROW:Array Value),n+1<=G/\G<=maxLen/\ROW.size=G*e/\ROW.toList.take (i*e)=cs.take (i*e)/\
   en=.returned (.slice (some ⟨w.heap.size,0,none⟩) (n+1) G)/\w' =(((w.alloc (.cells ROW te)).drew.setCells w.heap.size (i*e) vs).drew).setCells w.heap.size ((i+1)*e) (cs.drop (i*e))
end
end Esp

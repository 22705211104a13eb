import Derived.Test.YtcloicgnanjbcaaGreatDoorProg
import Derived.WalkKit
import Derived.KernelRfl
import Derived.Maps.AppendAt
import Derived.Maps.Own
import Derived.RegionTactic
import Derived.ChangeAlike
import Derived.Deep.RegionWith
import Derived.Deep.RegionLaw
import Derived.Lib.Builder
import Derived.Test.YtcloicgnanjbcaaGreatDoorEvRows
import Derived.Test.YtcloicgnanjbcaaGreatDoorPNext
noncomputable section
namespace Go.Proofs.YtcloicgnanjbcaaGreatDoor
open Go Esp Ev Pure
set_option linter.unusedSimpArgs false
set_option linter.unusedVariables false
set_option maxHeartbeats 4000000
set_option maxRecDepth 100000
theorem i2g:(Tryz.prog.info? 3).map (fun i=>(i.zero,i.size,i.bytes))=some (some (.int .i64 0),1,8):=by kernel_rfl
theorem i2l(w:World):(zeroValue 37).run Tryz.prog w= .ok (.slice none 0 0) w:=by kernel_rfl
def iOf:Value→Int
 | .int _ n=>n
 | _=>0
theorem h0j:(⟨#[]⟩:ByteArray).toList= []:=by
 unfold ByteArray.toList;rw [ByteArray.toList.loop];rfl
theorem h0m{P:Program}{W W' :World}{ops:Array Oper}{o:Oper}{a:Act}{K:Act→World→Prop}{Q:Exit→Act→World→Prop}{E:Prop}(hg:o.guard=none)(s x:Operand)(t:TypeId)
  (ho:o.op= .call {callee:= .builtin .append,args:= #[s,x],argTypes:= #[t,t]})(v u v' :Value)(hs:a.eval s=v)(hx:a.eval x=u)
  (hr:(Builtin.append_ #[t,t] o.type #[v,u]).run P W= .ok v' W')(h:K (a.put o.dst v') W'):if Region.wanted o (yielded ops a.tmps)=true then Oper.wp P o a W K Q else E:=by
 have hw:Region.wanted o (yielded ops a.tmps)=true:=by simp [Region.wanted,hg]
 rw [if_pos hw];exact v0d s x t ho v u v' hs hx hr h
theorem v1q{w:World}{F:Nat→Prop}{es:List Ev.Edg}{v:Value}(h:RelD w F (.nl .edg es) v): ∃ao b off cap,v= .slice ao es.length cap∧(es.length≠0→ao=some ⟨b,off,none⟩)∧(es.length≠0→F b)∧
  ∀i (hi:i<es.length),w.cell? ⟨b,off+i*5,none⟩=some (.int .i64 es[i].id)∧w.cell? ⟨b,off+i*5+1,none⟩=some (.int .i64 es[i].src)∧w.cell? ⟨b,off+i*5+2,none⟩=some (.int .i64 es[i].dst)∧w.cell? ⟨b,off+i*5+3,none⟩=some (.string es[i].type)∧ ∃p q r,w.cell? ⟨b,off+i*5+4,none⟩=some (.slice p q r):=by
 obtain⟨ao,b,off,cap,h1,h2,h3,h4⟩:=t1x h;refine⟨ao,b,off,cap,h1,h2,h3,fun i hi=> ?_⟩;have g: ∀j (hj:j<5) (x:D),(cells .edg es[i])[j]? =some x→∃c,w.cell? ⟨b,off+i*5+j,none⟩=some c∧RelD w F x c:=fun j hj x hx=>by
  obtain⟨x',c,e1,e2,e3⟩:=h4 i hi j hj;rw [hx]at e1;cases e1;rw [Nat.add_assoc];exact⟨c,e2,e3⟩
 obtain⟨c0,a0,r0⟩:=g 0 (by omega) (iC .i64 es[i].id) rfl;obtain⟨c1,a1,r1⟩:=g 1 (by omega) (iC .i64 es[i].src) rfl;obtain⟨c2,a2,r2⟩:=g 2 (by omega) (iC .i64 es[i].dst) rfl;obtain⟨c3,a3,r3⟩:=g 3 (by omega) (sC es[i].type) rfl;obtain⟨c4,a4,r4⟩:=g 4 (by omega) (.nl .prp es[i].props) rfl;rw [s0e r0]at a0;rw [s0e r1]at a1;rw [s0e r2]at a2;rw [s0e r3]at a3;obtain⟨p,q,r,rfl⟩:=s1h r4;exact⟨a0,a1,a2,a3,p,q,r,a4⟩
theorem o1s{wr Y:World}{b0 c:Nat}{L:List (Int×List Int)}{ms:Array MapEntry}{clock:Nat}{i0:TypeInfo}(hi:Tryz.prog.info? 3=some i0)(hz0:i0.zero=some (.int .i64 0))(hz1:i0.size=1)(hz2:i0.bytes=8)
  (hR:RowsM wr (b0+1) (b0+2) 3 L ms clock)(hBY:RowKit.Below wr.heap.size wr Y)(hb:b0+2≤wr.heap.size)(src dst:Int)(hc:Y.cell? ⟨c,0,none⟩=some (.int .i64 dst))(hlen:(a0g .i64 (.lst .i64) [] L src).length≤1000000):
  ∃v v' W1 w2 ms' clock',(∀W:World,W.heap[b0+1]? =some (.map ms clock)→(Instr.lookup 155 (.map (some (b0+1))) (.int .i64 src) false).run Tryz.prog W= .ok v W)∧
   (Builtin.append_ #[37,37] 37 #[v, .slice (some ⟨c,0,none⟩) 1 1]).run Tryz.prog Y= .ok v' W1∧
   (Instr.mapUpdate 155 (.map (some (b0+1))) (.int .i64 src) v').run Tryz.prog W1= .ok () w2∧
   RowsM w2 (b0+1) (b0+2) 3 (a0e .i64 (.lst .i64) L src (a0g .i64 (.lst .i64) [] L src++ [dst])) ms' clock' ∧RowKit.Below b0 Y w2∧∀k,wr.heap.size≤k→k<Y.heap.size→W1.heap[k]? =Y.heap[k]? :=by
 have hRY:=hR.carry hBY;have hYs:=hBY.size;obtain⟨v,hl1,hl2w,hl3⟩:=hR.look (P:=Tryz.prog) (t:=155) (a:=3) (e:=37) Tryz.underlying155 (by kernel_rfl) i2l src;have hl2:=w0w hl2w hBY;have hnews: ∀j u, [Value.int .i64 dst][j]? =some u→Y.cell? ((⟨c,0,none⟩:Addr).add j)=some u:=fun j u hj=>by
  match j,hj with
  | 0,hj=>
   simp at hj;subst hj;simpa [Addr.add]using hc
 obtain⟨v',W1,ha1,ha2,ha3,_,ha5⟩:=run_append_own_at (P:=Tryz.prog) (w:=Y) (b0+2) 37 37 3 i0 (.int .i64 0) 1 8 Tryz.underlying37 hi hz0 hz1 hz2 rfl (by decide) v _ _ hl2 ⟨c,0,none⟩ 1 1 [.int .i64 dst] rfl hnews (fun u hu=>by simp at hu;subst hu;rfl) (by unfold maxLen;omega) (by omega) (by omega);have hvb: ∀g,v.ownBlock=some g→b0+2≤g:=fun g hg=>(hl2.lt g hg).1;obtain⟨w2,hu1,hu2,ms',clock',hu3⟩:=hRY.put (P:=Tryz.prog) (t:=155) (a:=3) (e:=37) Tryz.underlying155 (by kernel_rfl) src hl3 ha3 (y:=a0g .i64 (.lst .i64) [] L src++ [dst]) (by unfold k0p at ha2⊢;rw [List.map_append,j2y];exact ha2)
  (ha5.imp id fun h g hg=>by rw [h]at hg;cases hg;exact k2h _) hvb
 refine⟨v,v',W1,w2,ms',clock',hl1,ha1,hu1,hu3,⟨hu2.os.trans ha3.os,hu2.tape.trans ha3.tape,hu2.output.trans ha3.output,k2x ha3.size hu2.size,fun k hk=> ?_⟩,fun k hk hk2=>ha3.block k hk2 fun e=>by have:=(hl2w.lt k e.symm).2;omega⟩;rw [hu2.block k (by have:=ha3.size;omega) (by simp;omega)];exact ha3.block k (by omega) fun e=>by have:=hvb k e.symm;omega
theorem i2p(w:World)(F:Nat→Prop)(es:List Ev.Edg)(kind:ByteArray)(nv ev:Value)(nx:Int)(hed:RelD w F (.nl .edg es) ev)(hF: ∀b,F b→b<w.heap.size)(hlen:es.length≤1000000):
  Calls Tryz.prog 86 #[.agg #[nv,ev, .int .i64 nx], .string kind] w fun e w' =>∃ms clock,e= .returned (.map (some (w.heap.size+1)))∧RowsM w' (w.heap.size+1) (w.heap.size+2) 3 (e0v kind es) ms clock∧RowKit.Below w.heap.size w w' :=by
 have hmm:= @Go.RowKit.run_makeMap Tryz.prog;obtain⟨ao,sb,off,cap,rfl,hao,hsb,hcl⟩:=v1q hed;obtain⟨i0,hi,hz0,hz1,hz2⟩:=info_parts i2g
 go_enter Tryz.func86,Tryz.ntmps86
 go_wp2
 have hz1' :(w.alloc (.cells #[nv, .slice ao es.length cap, .int .i64 nx] 31)).heap.size=w.heap.size+1:=Array.size_push ..
 go_loopw [12] (fun i wr=>∃(k:Nat) (ms:Array MapEntry) (clock:Nat),k≤es.length∧i= .int .i64 k∧RowsM wr (w.heap.size+1) (w.heap.size+2) 3 (e0v kind (es.take k)) ms clock∧RowKit.Below w.heap.size w wr∧w.heap.size+2≤wr.heap.size)
  (fun i _=>es.length - (iOf i).toNat)
 case atStart=>
  refine⟨0, #[],0,k2o _,rfl,⟨?_,by omega,rfl,fun i h=>by simp [e0v]at h,fun i h=>by simp [e0v]at h,fun i j h=>by simp at h,fun i h=>by simp at h,fun i j h=>by simp at h⟩,((RowKit.Below.refl _ w).alloc (k2h _) _).alloc (by rw [hz1'];omega) _, ?_⟩
  ·have:=heap_alloc_new (w.alloc (.cells #[nv, .slice ao es.length cap, .int .i64 nx] 31)) (.map #[] 0)
   rw [hz1']at this;exact this
  ·rw [show((w.alloc (.cells #[nv, .slice ao es.length cap, .int .i64 nx] 31)).alloc (.map #[] 0)).heap.size=w.heap.size+1+1 from(Array.size_push ..).trans (by rw [hz1'])]
   exact k2h _
 case round=>
  obtain⟨k,ms,clock,hk,rfl,hR,hB,hsz⟩:=hrel;by_cases hkn:k<es.length
  ·obtain rfl:=hao (by omega)
   have hb:=hF sb (hsb (by omega));obtain⟨x0,x1,x2,x3,pp,pq,pr,x4⟩:=hcl k hkn;have y0:=(hB.cell (p:=⟨sb,off+k*5,none⟩) hb).trans x0;have y1:=(hB.cell (p:=⟨sb,off+k*5+1,none⟩) hb).trans x1;have y2:=(hB.cell (p:=⟨sb,off+k*5+2,none⟩) hb).trans x2;have y3:=(hB.cell (p:=⟨sb,off+k*5+3,none⟩) hb).trans x3;have y4:=(hB.cell (p:=⟨sb,off+k*5+4,none⟩) hb).trans x4;have htk:es.take (k+1)=es.take k++ [es[k]]:=by rw [List.take_add_one,j2x hkn];rfl
   have hstep:e0v kind (es.take (k+1))=e0l kind (e0v kind (es.take k)) es[k]:=by rw [htk,i1n]
   have hid: ∃x,x=es[k]:=⟨_,rfl⟩;have hLlen: ∀s,(a0g .i64 (.lst .i64) [] (e0v kind (es.take k)) s).length≤1000000:=fun s=>k2x (o0m kind s _) (by rw [k2g];omega);generalize es[k]=x at*;generalize e0v kind (es.take k)=L at*;obtain⟨id,src,dst,ty,ps⟩:=x;dsimp only at y0 y1 y2 y3 y4 x0 x1 x2 x3;unfold e0l at hstep;dsimp only at hstep;clear x0 x1 x2 x3 x4 hcl;cases hor:(seq kind ⟨#[]⟩ || seq ty kind)with
   | false=>
    rw [hor,cond_false]at hstep;rw [k2c]at hor;obtain⟨b1,b2⟩:=hor;unfold seq at b1 b2;rw [h0j]at b1
    go_wp2
    go_roundw
    case rel=>exact⟨k+1,ms,clock,by omega,by go_num,by rw [hstep];exact hR.carry ((RowKit.Below.refl _ wr).alloc (k2h _) _),hB.alloc (by omega) _,by rw [show ∀o,(wr.alloc o).heap.size=wr.heap.size+1 from fun o=>Array.size_push ..];omega⟩
    case measure=>simp [iOf];omega
   | true=>
    rw [hor,cond_true]at hstep;have hb0:(wr.alloc (.cells #[.int .i64 id, .int .i64 src, .int .i64 dst, .string ty, .slice pp pq pr] 98)).heap.size=wr.heap.size+1:=Array.size_push ..;have hB0:=(RowKit.Below.refl wr.heap.size wr).alloc (k2h _) (.cells #[.int .i64 id, .int .i64 src, .int .i64 dst, .string ty, .slice pp pq pr] 98);have hc1:(wr.alloc (.cells #[.int .i64 id, .int .i64 src, .int .i64 dst, .string ty, .slice pp pq pr] 98)).heap[wr.heap.size]? =some (.cells #[.int .i64 id, .int .i64 src, .int .i64 dst, .string ty, .slice pp pq pr] 98 (0,0)):=heap_alloc_new wr _;have hX:((wr.alloc (.cells #[.int .i64 id, .int .i64 src, .int .i64 dst, .string ty, .slice pp pq pr] 98)).drew).heap.size=wr.heap.size+1:=hb0;have hBX:RowKit.Below wr.heap.size wr ((wr.alloc (.cells #[.int .i64 id, .int .i64 src, .int .i64 dst, .string ty, .slice pp pq pr] 98)).drew):=⟨hB0.os,hB0.tape,hB0.output,by rw [hX];omega,hB0.block⟩;have hBY:RowKit.Below wr.heap.size wr ((wr.alloc (.cells #[.int .i64 id, .int .i64 src, .int .i64 dst, .string ty, .slice pp pq pr] 98)).alloc (.cells #[.int .i64 dst] 3)).drew:=hBX.alloc (by rw [hX];omega) (.cells #[.int .i64 dst] 3);have hcY:((wr.alloc (.cells #[.int .i64 id, .int .i64 src, .int .i64 dst, .string ty, .slice pp pq pr] 98)).alloc (.cells #[.int .i64 dst] 3)).drew.cell? ⟨wr.heap.size+1,0,none⟩=some (.int .i64 dst):=by
     have:=heap_alloc_new ((wr.alloc (.cells #[.int .i64 id, .int .i64 src, .int .i64 dst, .string ty, .slice pp pq pr] 98)).drew) (.cells #[.int .i64 dst] 3);rw [hX]at this;exact(Lib.cell_of_heap this 0).trans rfl
    obtain⟨v,v',W1,w2,ms',clock',hl1,ha1,hu1,hu3,hu4,hu5⟩:=o1s hi hz0 hz1 hz2 hR hBY hsz src dst hcY (by have:=hLlen src;omega);have hl2:=hl1 _ ((hBX.block _ (by omega)).trans hR.hb);have hl3:=hl1 _ ((hBY.block _ (by omega)).trans hR.hb);have hYs:(((wr.alloc (.cells #[.int .i64 id, .int .i64 src, .int .i64 dst, .string ty, .slice pp pq pr] 98)).alloc (.cells #[.int .i64 dst] 3)).drew).heap.size=wr.heap.size+1+1:=(Array.size_push ..).trans (by rw [hb0]);have hw1:W1.heap[wr.heap.size]? =some (.cells #[.int .i64 id, .int .i64 src, .int .i64 dst, .string ty, .slice pp pq pr] 98 (0,0)):=by
     rw [hu5 wr.heap.size (k2h _) (by rw [hYs];omega)];exact(Go.RowKit.Below.heap_alloc _ (.cells #[.int .i64 dst] 3) wr.heap.size (by rw [hb0];omega)).trans hc1
    have hw11:W1.cell? ⟨wr.heap.size,1,none⟩=some (.int .i64 src):=(Lib.cell_of_heap hw1 1).trans rfl;have hBB:RowKit.Below w.heap.size w w2:=(hB.trans (hBY.mono (by omega))).trans hu4;have hss:w.heap.size+2≤w2.heap.size:=by have:=hu4.size;rw [hYs]at this;omega
    cases hk1:seq kind ⟨#[]⟩with
    | true=>
     unfold seq at hk1;rw [h0j]at hk1
     go_wp2
     go_region_law (refine h0m rfl (.tmp 30) (.tmp 33) 37 rfl v (.slice (some ⟨wr.heap.size+1,0,none⟩) 1 1) v' (by simp [Act.eval,Act.put]) (by simp [Act.eval,Act.put]) ha1 ?_)
     all_goals go_wp2
     all_goals go_roundw
     all_goals first
      | exact⟨k+1,ms',clock',by omega,by go_num,by rw [hstep];exact hu3,hBB,hss⟩
      | (simp [iOf];omega)
    | false=>
     rw [hk1,k2m]at hor;unfold seq at hk1 hor;rw [h0j]at hk1
     go_wp2
     go_region_law (refine h0m rfl (.tmp 30) (.tmp 33) 37 rfl v (.slice (some ⟨wr.heap.size+1,0,none⟩) 1 1) v' (by simp [Act.eval,Act.put]) (by simp [Act.eval,Act.put]) ha1 ?_)
     all_goals go_wp2
     all_goals go_roundw
     all_goals first
      | exact⟨k+1,ms',clock',by omega,by go_num,by rw [hstep];exact hu3,hBB,hss⟩
      | (simp [iOf];omega)
  ·have hkn:k=es.length:=by omega
   subst hkn
   go_wp2
   go_ret
   rw [List.take_length]at hR;exact⟨ms,clock,rfl,hR,hB⟩
section
variable [Tabs]
def d2n:FnT:=⟨2,⟨[], [(0, .graph),(1, .str)], [], []⟩, [.v (.map .i64 (.lst .i64))], []⟩
theorem v1r:Contract Tryz.prog 86 d2n u1d:=by
 rintro⟨g,kind,u⟩ y hy;unfold u1d at hy;cases hs:Nat.ble g.edges.length 1000000 with
 | false=>dsimp only at hy;rw [hs]at hy;cases hy
 | true=>
 dsimp only at hy;rw [hs]at hy;cases hy;intro F ρ vs w hrw hob hra;have hρ:ρ=nobody:=t1e hob;subst hρ;have hsz:vs.size=2:=hra.sz;obtain⟨nv,ev,h0,_,hev⟩:=o1p (hra.rel 0 (by show 0<2;omega));have h1:=(a0n (hra.rel 1 (by show 1<2;omega)) (u:= .string kind) rfl).1;have e:vs= #[.agg #[nv,ev, .int .i64 g.next], .string kind]:=by
  apply Array.ext
  ·simpa using hsz
  ·intro i h2 h3
   have e:vs.getD i undef=vs[i]:=by simp [j2u,h2]
   have:i=0∨i=1:=by simp at h3;omega
   rcases this with rfl | rfl
   ·rw [←e,h0];rfl
   ·rw [←e,h1];rfl
 subst e;refine(i2p w F g.edges kind nv ev g.next hev hrw.lt (k2d hs)).mono fun e w' ⟨ms,clock,he,hR,hB⟩=> ?_;subst he;exact c1p hrw hB hR (by omega)
end
end Go.Proofs.YtcloicgnanjbcaaGreatDoor

import Derived.Test.YtnaeiccibhdknaaGreatDoorPKX
import Derived.WalkKit
import Derived.Maps.Own
import Derived.RegionTactic
import Derived.ChangeAlike
import Derived.Deep.RegionWith
import Derived.Deep.RegionLaw
import Derived.Lib.Builder
set_option linter.unusedSimpArgs false
set_option linter.unusedVariables false
noncomputable section
namespace Go.Proofs.YtnaeiccibhdknaaGreatDoor
open Go Esp Ev Pure
set_option maxHeartbeats 4000000
set_option maxRecDepth 100000
theorem q2o:(Tryz.prog.info? 3).map (λi=>(i.zero,i.size,i.bytes))=some (some (.int .i64 0),1,8):=by kernel_rfl
theorem q2n(w:World):(zeroValue 62).run Tryz.prog w=.ok (.slice none 0 0) w:=by kernel_rfl
def iOf:Value->Int
 |.int _ n=>n
 |_=>0
theorem j0m:(⟨#[]⟩:Bt).toList=[]:=by
 unfold ByteArray.toList;rw[ByteArray.toList.loop];rfl
theorem i0s{P:Program}{W W' :World}{ops:Array Oper}{o:Oper}{a:Act}{K:Act->World->Prop}{Q:Exit->Act->World->Prop}{E:Prop}(hg:o.guard=none)(s x:Operand)(t:TypeId)
  (ho:o.op=.call {callee:=.builtin .append,args:=#[s,x],argTypes:=#[t,t]})(v u v' :Value)(hs:a.eval s=v)(hx:a.eval x=u)
  (hr:(Builtin.append_ #[t,t] o.type #[v,u]).run P W=.ok v' W')(h:K (a.put o.dst v') W'):if Region.wanted o (yielded ops a.tmps)=true then Oper.wp P o a W K Q else E:=by
 have hw:Region.wanted o (yielded ops a.tmps)=true:=by simp[Region.wanted,hg]
 rw[if_pos hw];exact w0o s x t ho v u v' hs hx hr h
theorem b2y{w:World}{F:Nat->Prop}{es:List Ev.Edg}{v:Value}(h:RelD w F (.nl .edg es) v):∃ao b off cap,v=.slice ao es.length cap/\(es.length≠0->ao=some ⟨b,off,none⟩)/\(es.length≠0->F b)/\
  ∀i (hi:i<es.length),w.cell? ⟨b,off+i*5,none⟩=some (.int .i64 es[i].id)/\w.cell? ⟨b,off+i*5+1,none⟩=some (.int .i64 es[i].src)/\w.cell? ⟨b,off+i*5+2,none⟩=some (.int .i64 es[i].dst)/\w.cell? ⟨b,off+i*5+3,none⟩=some (.string es[i].type)/\ ∃p q r,w.cell? ⟨b,off+i*5+4,none⟩=some (.slice p q r):=by
 obtain⟨ao,b,off,cap,h1,h2,h3,h4⟩:=z1k h;refine⟨ao,b,off,cap,h1,h2,h3,λi hi=>?_⟩;have g:∀j (hj:j<5) (x:D),(cells .edg es[i])[j]?=some x->∃c,w.cell? ⟨b,off+i*5+j,none⟩=some c/\RelD w F x c:=λj hj x hx=>by
  obtain⟨x',c,e1,e2,e3⟩:=h4 i hi j hj;rw[hx]at e1;cases e1;rw[u2h];exact⟨c,e2,e3⟩
 obtain⟨c0,a0,r0⟩:=g 0 (by omega) (iC .i64 es[i].id) rfl;obtain⟨c1,a1,r1⟩:=g 1 (by omega) (iC .i64 es[i].src) rfl;obtain⟨c2,a2,r2⟩:=g 2 (by omega) (iC .i64 es[i].dst) rfl;obtain⟨c3,a3,r3⟩:=g 3 (by omega) (sC es[i].type) rfl;obtain⟨c4,a4,r4⟩:=g 4 (by omega) (.nl .prp es[i].props) rfl;rw[u0n r0]at a0;rw[u0n r1]at a1;rw[u0n r2]at a2;rw[u0n r3]at a3;obtain⟨p,q,r,rfl⟩:=b2u r4;exact⟨a0,a1,a2,a3,p,q,r,a4⟩
theorem v1z{wr Y:World}{b0 c:Nat}{L:List (Int×List Int)}{ms:Array MapEntry}{clock:Nat}{i0:TypeInfo}(hi:Tryz.prog.info? 3=some i0)(ju:i0.zero=some (.int .i64 0))(dG:i0.size=1)(hz2:i0.bytes=8)
  (hR:RowsM wr (b0+1) (b0+2) 3 L ms clock)(hBY:RowKit.Below wr.heap.size wr Y)(hb:b0+2<=wr.heap.size)(src dst:Int)(hc:Y.cell? ⟨c,0,none⟩=some (.int .i64 dst))(hlen:(a0k .i64 (.lst .i64) [] L src).length<=1000000):
  ∃v v' W1 w2 jv clock',(∀W:World,W.heap[b0+1]?=some (.map ms clock)->(Instr.lookup 143 (.map (some (b0+1))) (.int .i64 src) false).run Tryz.prog W=.ok v W)/\
   (Builtin.append_ #[62,62] 62 #[v,.slice (some ⟨c,0,none⟩) 1 1]).run Tryz.prog Y=.ok v' W1/\
   (Instr.mapUpdate 143 (.map (some (b0+1))) (.int .i64 src) v').run Tryz.prog W1=.ok () w2/\
   RowsM w2 (b0+1) (b0+2) 3 (b0d .i64 (.lst .i64) L src (a0k .i64 (.lst .i64) [] L src++ [dst])) jv clock' /\RowKit.Below b0 Y w2/\∀k,wr.heap.size<=k->k<Y.heap.size->W1.heap[k]?=Y.heap[k]?:=by
 have hRY:=hR.carry hBY;have hYs:=hBY.size;obtain⟨v,i7,hl2w,nO⟩:=hR.look (P:=Tryz.prog) (t:=143) (a:=3) (e:=62) Tryz.underlying143 (by kernel_rfl) q2n src;have hl2:=a1n hl2w hBY;have jR:∀j u,[Value.int .i64 dst][j]?=some u->Y.cell? ((⟨c,0,none⟩:Addr).add j)=some u:=λj u hj=>by
  match j,hj with
  | 0,hj=>
   simp at hj;subst hj;simpa[Addr.add]using hc
 obtain⟨v',W1,jQ,mw,ha3,_,ha5⟩:=run_append_own_at (P:=Tryz.prog) (w:=Y) (b0+2) 62 62 3 i0 (.int .i64 0) 1 8 Tryz.underlying62 hi ju dG hz2 rfl (by decide) v _ _ hl2 ⟨c,0,none⟩ 1 1 [.int .i64 dst] rfl jR (λu hu=>by simp at hu;subst hu;rfl) (by unfold maxLen;omega) (by omega) (by omega);have jo:∀g,v.ownBlock=some g->b0+2<=g:=λg hg=>(hl2.lt g hg).1;obtain⟨w2,cR,hu2,jv,clock',kD⟩:=hRY.put (P:=Tryz.prog) (t:=143) (a:=3) (e:=62) Tryz.underlying143 (by kernel_rfl) src nO ha3 (y:=a0k .i64 (.lst .i64) [] L src++ [dst]) (by unfold l0k at mw⊢;rw[List.map_append,r2t];exact mw)
  (ha5.imp id λh g hg=>by rw[h]at hg;cases hg;exact r2q _) jo
 refine⟨v,v',W1,w2,jv,clock',i7,jQ,cR,kD,⟨hu2.os.trans ha3.os,hu2.tape.trans ha3.tape,hu2.output.trans ha3.output,t2p ha3.size hu2.size,λk hk=>?_⟩,λk hk eH=>ha3.block k eH λe=>by have:=(hl2w.lt k e.symm).2;omega⟩;rw[hu2.block k (by have:=ha3.size;omega) (by simp;omega)];exact ha3.block k (by omega) λe=>by have:=jo k e.symm;omega
theorem r2f(w:World)(F:Nat->Prop)(es:List Ev.Edg)(kind:Bt)(nv ev:Value)(nx:Int)(pb:RelD w F (.nl .edg es) ev)(hF:∀b,F b->b<w.heap.size)(hlen:es.length<=1000000):
  Calls Tryz.prog 73 #[.agg #[nv,ev,.int .i64 nx],.string kind] w λe w' =>∃ms clock,e=.returned (.map (some (w.heap.size+1)))/\RowsM w' (w.heap.size+1) (w.heap.size+2) 3 (g0x kind es) ms clock/\RowKit.Below w.heap.size w w' :=by
 have oi:= @Go.RowKit.run_makeMap Tryz.prog;obtain⟨ao,sb,off,cap,rfl,pL,qq,bU⟩:=b2y pb;obtain⟨i0,hi,ju,dG,hz2⟩:=info_parts q2o
 go_enter Tryz.func73,Tryz.ntmps73
 go_wp2
 have jd:(w.alloc (.cells #[nv,.slice ao es.length cap,.int .i64 nx] 31)).heap.size=w.heap.size+1:=Array.size_push ..
 go_loopw [12] (λi wr=>∃(k:Nat) (ms:Array MapEntry) (clock:Nat),k<=es.length/\i=.int .i64 k/\RowsM wr (w.heap.size+1) (w.heap.size+2) 3 (g0x kind (es.take k)) ms clock/\RowKit.Below w.heap.size w wr/\w.heap.size+2<=wr.heap.size)
  (λi _=>es.length - (iOf i).toNat)
 case atStart=>
  refine⟨0,#[],0,s2i _,rfl,⟨?_,by omega,rfl,λi h=>by simp[g0x]at h,λi h=>by simp[g0x]at h,λi j h=>by simp at h,λi h=>by simp at h,λi j h=>by simp at h⟩,((RowKit.Below.refl _ w).alloc (r2q _) _).alloc (by rw[jd];omega) _,?_⟩
  ·have:=heap_alloc_new (w.alloc (.cells #[nv,.slice ao es.length cap,.int .i64 nx] 31)) (.map #[] 0)
   rw[jd]at this;exact this
  ·rw[show((w.alloc (.cells #[nv,.slice ao es.length cap,.int .i64 nx] 31)).alloc (.map #[] 0)).heap.size=w.heap.size+1+1 from(Array.size_push ..).trans (by rw[jd])]
   exact r2q _
 case round=>
  obtain⟨k,ms,clock,hk,rfl,hR,hB,aR⟩:=hrel;by_cases fL:k<es.length
  ·obtain rfl:=pL (by omega)
   have hb:=hF sb (qq (by omega));obtain⟨x0,x1,x2,x3,pp,pq,pr,x4⟩:=bU k fL;have y0:=(hB.cell (p:=⟨sb,off+k*5,none⟩) hb).trans x0;have y1:=(hB.cell (p:=⟨sb,off+k*5+1,none⟩) hb).trans x1;have y2:=(hB.cell (p:=⟨sb,off+k*5+2,none⟩) hb).trans x2;have y3:=(hB.cell (p:=⟨sb,off+k*5+3,none⟩) hb).trans x3;have y4:=(hB.cell (p:=⟨sb,off+k*5+4,none⟩) hb).trans x4;have ku:es.take (k+1)=es.take k++ [es[k]]:=by rw[List.take_add_one,r2k fL];rfl
   have cL:g0x kind (es.take (k+1))=g0b kind (g0x kind (es.take k)) es[k]:=by rw[ku,o1a]
   have hid:∃x,x=es[k]:=⟨_,rfl⟩;have hLlen:∀s,(a0k .i64 (.lst .i64) [] (g0x kind (es.take k)) s).length<=1000000:=λs=>t2p (t0a kind s _) (by rw[s2g];omega);generalize es[k]=x at*;generalize g0x kind (es.take k)=L at*;obtain⟨id,src,dst,ty,ps⟩:=x;dsimp only at y0 y1 y2 y3 y4 x0 x1 x2 x3;unfold g0b at cL;dsimp only at cL;clear x0 x1 x2 x3 x4 bU;cases b8:(seq kind ⟨#[]⟩ || seq ty kind)with
   |false=>
    rw[b8,u2k]at cL;rw[r2x]at b8;obtain⟨b1,b2⟩:=b8;unfold seq at b1 b2;rw[j0m]at b1
    go_wp2
    go_roundw
    case rel=>exact⟨k+1,ms,clock,by omega,by go_num,by rw[cL];exact hR.carry ((RowKit.Below.refl _ wr).alloc (r2q _) _),hB.alloc (by omega) _,by rw[show ∀o,(wr.alloc o).heap.size=wr.heap.size+1 from λo=>Array.size_push ..];omega⟩
    case measure=>simp[iOf];omega
   |true=>
    rw[b8,u2j]at cL;have jw:(wr.alloc (.cells #[.int .i64 id,.int .i64 src,.int .i64 dst,.string ty,.slice pp pq pr] 105)).heap.size=wr.heap.size+1:=Array.size_push ..;have hB0:=(RowKit.Below.refl wr.heap.size wr).alloc (r2q _) (.cells #[.int .i64 id,.int .i64 src,.int .i64 dst,.string ty,.slice pp pq pr] 105);have kl:(wr.alloc (.cells #[.int .i64 id,.int .i64 src,.int .i64 dst,.string ty,.slice pp pq pr] 105)).heap[wr.heap.size]?=some (.cells #[.int .i64 id,.int .i64 src,.int .i64 dst,.string ty,.slice pp pq pr] 105 (0,0)):=heap_alloc_new wr _;have hX:((wr.alloc (.cells #[.int .i64 id,.int .i64 src,.int .i64 dst,.string ty,.slice pp pq pr] 105)).drew).heap.size=wr.heap.size+1:=jw;have hBX:RowKit.Below wr.heap.size wr ((wr.alloc (.cells #[.int .i64 id,.int .i64 src,.int .i64 dst,.string ty,.slice pp pq pr] 105)).drew):=⟨hB0.os,hB0.tape,hB0.output,by rw[hX];omega,hB0.block⟩;have hBY:RowKit.Below wr.heap.size wr ((wr.alloc (.cells #[.int .i64 id,.int .i64 src,.int .i64 dst,.string ty,.slice pp pq pr] 105)).alloc (.cells #[.int .i64 dst] 3)).drew:=hBX.alloc (by rw[hX];omega) (.cells #[.int .i64 dst] 3);have qd:((wr.alloc (.cells #[.int .i64 id,.int .i64 src,.int .i64 dst,.string ty,.slice pp pq pr] 105)).alloc (.cells #[.int .i64 dst] 3)).drew.cell? ⟨wr.heap.size+1,0,none⟩=some (.int .i64 dst):=by
     have:=heap_alloc_new ((wr.alloc (.cells #[.int .i64 id,.int .i64 src,.int .i64 dst,.string ty,.slice pp pq pr] 105)).drew) (.cells #[.int .i64 dst] 3);rw[hX]at this;exact(Lib.cell_of_heap this 0).trans rfl
    obtain⟨v,v',W1,w2,jv,clock',i7,jQ,cR,kD,hu4,pR⟩:=v1z hi ju dG hz2 hR hBY aR src dst qd (by have:=hLlen src;omega);have hl2:=i7 _ ((hBX.block _ (by omega)).trans hR.hb);have nO:=i7 _ ((hBY.block _ (by omega)).trans hR.hb);have hYs:(((wr.alloc (.cells #[.int .i64 id,.int .i64 src,.int .i64 dst,.string ty,.slice pp pq pr] 105)).alloc (.cells #[.int .i64 dst] 3)).drew).heap.size=wr.heap.size+1+1:=(Array.size_push ..).trans (by rw[jw]);have eF:W1.heap[wr.heap.size]?=some (.cells #[.int .i64 id,.int .i64 src,.int .i64 dst,.string ty,.slice pp pq pr] 105 (0,0)):=by
     rw[pR wr.heap.size (r2q _) (by rw[hYs];omega)];exact(Go.RowKit.Below.heap_alloc _ (.cells #[.int .i64 dst] 3) wr.heap.size (by rw[jw];omega)).trans kl
    have pB:W1.cell? ⟨wr.heap.size,1,none⟩=some (.int .i64 src):=(Lib.cell_of_heap eF 1).trans rfl;have hBB:RowKit.Below w.heap.size w w2:=(hB.trans (hBY.mono (by omega))).trans hu4;have j0:w.heap.size+2<=w2.heap.size:=by have:=hu4.size;rw[hYs]at this;omega
    cases b6:seq kind ⟨#[]⟩with
    |true=>
     unfold seq at b6;rw[j0m]at b6
     go_wp2
     go_region_law (refine i0s rfl (.tmp 30) (.tmp 33) 62 rfl v (.slice (some ⟨wr.heap.size+1,0,none⟩) 1 1) v' (by simp[Act.eval,Act.put]) (by simp[Act.eval,Act.put]) jQ ?_)
     all_goals go_wp2
     all_goals go_roundw
     all_goals first
      |exact⟨k+1,jv,clock',by omega,by go_num,by rw[cL];exact kD,hBB,j0⟩
      |(simp[iOf];omega)
    |false=>
     rw[b6,s2q]at b8;unfold seq at b6 b8;rw[j0m]at b6
     go_wp2
     go_region_law (refine i0s rfl (.tmp 30) (.tmp 33) 62 rfl v (.slice (some ⟨wr.heap.size+1,0,none⟩) 1 1) v' (by simp[Act.eval,Act.put]) (by simp[Act.eval,Act.put]) jQ ?_)
     all_goals go_wp2
     all_goals go_roundw
     all_goals first
      |exact⟨k+1,jv,clock',by omega,by go_num,by rw[cL];exact kD,hBB,j0⟩
      |(simp[iOf];omega)
  ·have fL:k=es.length:=by omega
   subst fL
   go_wp2
   go_ret
   rw[List.take_length]at hR;exact⟨ms,clock,rfl,hR,hB⟩
section
variable [Tabs]
def m2h:FnT:=⟨2,⟨[],[(0,.graph),(1,.str)],[],[]⟩,[.v (.map .i64 (.lst .i64))],[]⟩
theorem y1a:Contract Tryz.prog 73 m2h y1f:=by
 rintro⟨g,kind,u⟩ y hy;unfold y1f at hy;cases hs:Nat.ble g.edges.length 1000000 with
 |false=>dsimp only at hy;rw[hs]at hy;cases hy
 |true=>
 dsimp only at hy;rw[hs]at hy;cases hy;intro F ρ vs w hrw aH hra;have hρ:ρ=nobody:=z1b aH;subst hρ;have aR:vs.size=2:=hra.sz;obtain⟨nv,ev,h0,_,oQ⟩:=p1c (hra.rel 0 (by show 0<2;omega));have h1:=(a0i (hra.rel 1 (by show 1<2;omega)) (u:=.string kind) rfl).1;have e:vs=#[.agg #[nv,ev,.int .i64 g.next],.string kind]:=by
  apply Array.ext
  ·simpa using aR
  ·intro i h2 h3
   have e:vs.getD i undef=vs[i]:=by simp[r2j,h2]
   have:i=0\/i=1:=by simp at h3;omega
   rcases this with rfl|rfl
   ·rw [<-e,h0];rfl
   ·rw [<-e,h1];rfl
 subst e;refine(r2f w F g.edges kind nv ev g.next oQ hrw.lt (r2u hs)).mono λe w' ⟨ms,clock,he,hR,hB⟩=>?_;subst he;exact h1j hrw hB hR (by omega)
end
end Go.Proofs.YtnaeiccibhdknaaGreatDoor

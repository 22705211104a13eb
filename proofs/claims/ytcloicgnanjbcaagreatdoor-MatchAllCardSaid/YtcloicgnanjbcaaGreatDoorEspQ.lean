import Derived.Test.YtcloicgnanjbcaaGreatDoorEspRisk
import Derived.Orders
namespace Esp
open Go
set_option linter.unusedSimpArgs false
set_option linter.unusedVariables false
variable [Tabs]
omit [Tabs]in
theorem k0w{P:Program}{w:World}(t tx ty e:TypeId)(i:TypeInfo)(z:Value)(ht:P.underlying t=some (.slice e))(hi:P.info? e=some i)(hz:i.zero=some z)
  (hzs:z.cells.size=i.size)(v:Value)(n:Nat)(xs:List Value)(hown:w.ownsRow 0 e i.size v n xs)
  (x:Value)(m:Nat)(news:List Value)(hs:Src P i.size tx x m news w)(h63:n+m≤maxLen)(hbytes:(n+m)*i.bytes≤140737488355328):
  ∃v' w',(Builtin.append_ #[t,tx] ty #[v,x]).run P w= .ok v' w' ∧w'.ownsRow 0 e i.size v' (n+m) (xs++news)∧w.grownBy w' v.ownBlock∧
   (∀b,v'.ownBlock=some b→b<w'.heap.size∧(w.heap.size≤b∨v.ownBlock=some b)):=by
 have hsmall:n+m≤9223372036854775807:=by simp only [maxLen]at h63;omega
 have hlen:(xs++news).length=(n+m)*i.size:=by rw [j2y,hown.1,hs.newsLen,m2h]
 have grown: ∀(old:Nat),old<n+m→∀(row:Option Nat),
   (w.drew.alloc (.cells ((xs++news).toArray++Builtin.zeroCells z.cells (grownCap w (n+m) old e - (n+m))) e)).ownsRow 0 e i.size
    (.slice (some ⟨w.heap.size,0,none⟩) (n+m) (grownCap w (n+m) old e)) (n+m) (xs++news)∧
   w.grownBy (w.drew.alloc (.cells ((xs++news).toArray++Builtin.zeroCells z.cells (grownCap w (n+m) old e - (n+m))) e)) row:=by
  intro old ho row;have hge:=grownCap_ge w (n+m) old e;have hcm:grownCap w (n+m) old e≤maxLen:=grownCap_le_maxLen w (n+m) old e h63;refine⟨⟨hlen, .inr ⟨w.heap.size,_,_,rfl,k2o _,heap_alloc_new w.drew _,hge,hcm, ?_, ?_⟩⟩,⟨rfl,rfl,rfl,by simp,fun k hk _=>heap_alloc_old w.drew _ k hk⟩⟩
  ·simp only [Array.size_append,List.size_toArray,size_zeroCells,hzs,hlen, ←m2h]
   congr 1;omega
  ·simp only [Array.toList_append]
   rw [←hlen];exact List.take_left
 rcases hown.2 with⟨rfl,rfl⟩ | ⟨g,cap,cur,rfl,hbg,hg,hnc,hcm,hcs,htake⟩
 ·have hx:xs= []:=k2q (by simpa using hown.1)
  subst hx;by_cases hm:m=0
  ·subst hm
   have hn:news= []:=k2q (by simpa using hs.newsLen);subst hn;refine⟨.slice none 0 0,w, ?_,World.ownsRow_nil w 0 e i.size,⟨rfl,rfl,rfl,k2h _,fun _ _ _=>rfl⟩,fun b hb=>by cases hb⟩;rcases hs.kind with⟨e',hk⟩ | hk<;>simp [Builtin.append_,run_underlying ht,run_underlying hk,Go.sizeOf,typeInfo,hi,hs.len,hs.cells]
  ·have hold:(Builtin.firstCells i.size 0 (.slice none 0 0)).run P w.drew= .ok ([]:List Value).toArray w.drew:=run_firstCells_none w.drew i.size 0 0 0
   have hr:=run_append_grow_src (P:=P) w t tx ty e i z ht hi hz none 0 0 [] hold x m news hs (by omega) (by omega) (growslice_fits (by omega) hbytes);have hgr:=grown 0 (by omega) (Value.ownBlock (.slice none 0 0));exact⟨_,_,hr,hgr.1,hgr.2,fun b hb=>by cases hb;exact⟨by simp, .inl (k2h _)⟩⟩
 ·by_cases hroom:n+m≤cap
  ·have hfit:n*i.size+news.length≤cur.size:=by rw [hs.newsLen,hcs, ←m2h];exact l2o _ hroom
   have hst:=run_storeCells_at P g (n*i.size) e news 0 cur w hg (by simpa using hfit) hs.one;simp only [m2p]at hst;have hr:(Builtin.append_ #[t,tx] ty #[.slice (some ⟨g,0,none⟩) n cap,x]).run P w= .ok (.slice (some ⟨g,0,none⟩) (n+m) cap)
     (w.setRow g (cur.toList.take (n*i.size)++news++cur.toList.drop (n*i.size+news.length)).toArray):=by
    rcases hs.kind with⟨e',hk⟩ | hk<;>simp [Builtin.append_,run_underlying ht,run_underlying hk,Go.sizeOf,typeInfo,hi,hs.len,hroom,hs.cells,Addr.add_lit,hst]
   refine⟨_,_,hr,⟨hlen, .inr ⟨g,cap,_,rfl,hbg,setRow_heap w g cur _ e _ hg,hroom,hcm, ?_, ?_⟩⟩,⟨rfl,rfl,rfl,by simp,fun k _ hk=>setRow_other w g k _ (fun e=>hk (by simp [Value.ownBlock,e]))⟩,fun b hb=> ?_⟩
   ·simp only [List.size_toArray,j2y,k2g,k2t,k2z]
    omega
   ·rw [htake, ←hlen]
    exact List.take_left
   ·exact⟨by cases hb;simpa using(k2j.1 hg).1, .inr hb⟩
  ·have holds: ∀j u,xs[j]? =some u→w.cell? ((⟨g,0,none⟩:Addr).add j)=some u:=hown.cells (g:=g) rfl
   have hold:(Builtin.firstCells i.size n (.slice (some ⟨g,0,none⟩) n cap)).run P w.drew= .ok xs.toArray w.drew:=run_firstCells_some w.drew i.size n ⟨g,0,none⟩ n cap xs hown.1 (by simpa using holds);have hr:=run_append_grow_src (P:=P) w t tx ty e i z ht hi hz (some ⟨g,0,none⟩) n cap xs hold x m news hs (by omega) (by omega) (growslice_fits (by omega) hbytes);have hgr:=grown cap (by omega) (Value.ownBlock (.slice (some ⟨g,0,none⟩) n cap));exact⟨_,_,hr,hgr.1,hgr.2,fun b hb=>by cases hb;exact⟨by simp, .inl (k2h _)⟩⟩
def srcV(P:Program)(ob:List (Nat×AObj))(k e:Nat)(tx:TypeId)(y:AV):Option (Nat×List D):=
 match P.underlying tx with
 | some (.slice _)=>match y with
  | .cell (.d (.sl e' m ys))=>bif Nat.beq e' e then some (m,ys)else none
  | .cell (.d (.sc (.slice none 0 _)))=>some (0, [])
  | .cell (.own k')=>bif Nat.beq k' k then none else match lkO ob k' with
   | .arr _ e' m ys=>bif Nat.beq e' e then some (m,ys)else none
   | _=>none
  | _=>none
 | some .string=>match y with
  | .cell (.d (.sc (.string s)))=>bif Nat.beq e 1 then some (s.size,e0o s.data.toList)else none
  | _=>none
 | _=>none
section
variable{P:Program}{N:Nat}{ops:Array Oper}{Q:Exit→ASt→Prop}{st st' :ASt}{l:List Nat}
theorem t1k{F:Nat→Prop}{ρ:Env}{a:Act}{w:World}(h:Rel N F ρ st a w){k e:Nat}{tx:TypeId}{y:AV}{v:Value}(hy:RelAV w F ρ a.tmps y v){m:Nat}{ys:List D}
  (hs:srcV P st.ob k e tx y=some (m,ys)): ∃news,Src P e tx v m news w∧news.length=ys.length∧∀i (hi:i<ys.length),RelD w F ys[i] (news.getD i undef):=by
 unfold srcV at hs;split at hs
 ·rename_i e0 hu
  split at hs
  ·rename_i e' m' ys'
   cases hb:Nat.beq e' e with
   | false=>rw [hb]at hs;cases hs
   | true=>
    rw [hb]at hs;cases hs;have:=j2t hb;subst this;have hD:=a0x hy;cases hD with
    | nil _ ad cap=>
     cases ad with
     | none=>exact⟨[],Src.ofNil w hu cap,rfl,fun i hi=>by simp at hi⟩
     | some ad=>exact⟨[],Src.ofSlice w hu ad 0 cap [] (by simp) (fun j u hj=>by simp at hj) (fun u hu=>by cases hu),rfl,fun i hi=>by simp at hi⟩
    | sl _ _ _ b off cap c hF hl hcap hc hr=>
     have hlen:((List.range ys.length).map c).length=ys.length:=by simp
     refine⟨(List.range ys.length).map c,Src.ofSlice w hu ⟨b,off,none⟩ m cap _ (by rw [hlen];exact hl) (fun j u hj=> ?_) (fun u hu=> ?_),hlen,fun i hi=> ?_⟩
     ·have hjl:j<ys.length:=by
       have:=(k2a.1 hj).1;rwa [hlen]at this
      rw [Addr.add_lit,hc j hjl];simpa [hjl]using hj
     ·simp only [k2s,m2e]at hu
      obtain⟨j,hj,rfl⟩:=hu;exact(hr j hj).oneCell
     ·have e1:((List.range ys.length).map c).getD i undef=c i:=by simp [j2z,hi]
      rw [e1];exact hr i hi
  ·cases hs
   rename_i cap;have hv:=(a0n (u:= .slice none 0 cap) hy rfl).1;subst hv;exact⟨[],Src.ofNil w hu cap,rfl,fun i hi=>by simp at hi⟩
  ·rename_i k'
   cases hkk:Nat.beq k' k with
   | true=>rw [hkk]at hs;cases hs
   | false=>
    rw [hkk,cond_false]at hs;split at hs
    ·rename_i t' e' m' ys' hob
     cases hb:Nat.beq e' e with
     | false=>rw [hb]at hs;cases hs
     | true=>
      rw [hb]at hs;cases hs;have:=j2t hb;subst this;have ho:=h.ob k';rw [hob]at ho;cases ho with
      | arr t e n cs u xs hk ho hz hh=>
       have hv:v=u:=by
        cases hy with
        | cell c v hy=>cases hy with
         | own k v hy=>exact hy u hk
       subst hv;have hxl:=ho.1;rcases ho.2 with⟨rfl,rfl⟩ | ⟨g,cap,cur,rfl,hbg,hg,hnc,hcm,hcs,htake⟩
       ·have hx:xs= []:=k2q (by simpa using hxl)
        subst hx;exact⟨[],Src.ofNil w hu 0,hz,hh⟩
       ·refine⟨xs,Src.ofSlice w hu ⟨g,0,none⟩ m cap xs hxl (ho.cells (g:=g) rfl) (fun u' hu' => ?_),hz,hh⟩
        obtain⟨i,hi,rfl⟩:=List.getElem_of_mem hu';have:=(hh i (by omega)).oneCell;simpa [j2z,hi]using this
    ·cases hs
  ·cases hs
 ·rename_i hu
  split at hs
  ·rename_i s
   cases hb:Nat.beq e 1 with
   | false=>rw [hb]at hs;cases hs
   | true=>
    rw [hb]at hs;cases hs;have:=j2t hb;subst this;have hv:=(a0n (u:= .string s) hy rfl).1;subst hv;refine⟨byteCells s,Src.ofString w hu s,by rw [byteCells_length,b0q,k2z];rfl,fun i hi=> ?_⟩;rw [b0q]at hi;have e1:(byteCells s).getD i undef= .int .u8 (s.data.toList[i].toNat:Int):=by
     simp only [byteCells,j2z,l2d,j2x hi,l2i,l2x]
    rw [e1];simp only [e0o,List.getElem_map];exact .sc _ rfl
  ·cases hs
 ·cases hs
def rowB(P:Program)(t:TypeId):Option (TypeId×Nat×Nat):=
 match P.underlying t with
 | some (.slice e)=>match P.info? e with
  | some i=>match i.zero with
   | some z=>bif Nat.beq z.cells.size i.size then some (e,i.size,i.bytes)else none
   | none=>none
  | none=>none
 | _=>none
omit [Tabs]in
theorem b1t{t e:TypeId}{s b:Nat}(h:rowB P t=some (e,s,b)):P.underlying t=some (.slice e)∧ ∃i z,P.info? e=some i∧i.zero=some z∧z.cells.size=i.size∧i.size=s∧i.bytes=b:=by
 unfold rowB at h;split at h
 ·split at h
  ·split at h
   ·rename_i hu _ i hi _ z hz
    cases hb:Nat.beq z.cells.size i.size with
    | false=>rw [hb]at h;cases h
    | true=>
     rw [hb]at h;cases h;exact⟨hu,i,z,hi,hz,j2t hb,rfl,rfl⟩
   ·cases h
  ·cases h
 ·cases h
theorem p0k{F:Nat→Prop}{ρ:Env}{a:Act}{w:World}(h:Rel N F ρ st a w){t tx te:TypeId}{e bytes:Nat}(ht:rowB P t=some (te,e,bytes))(ty:TypeId)(k d:Nat)(hd:d<N)
  {v:Value}{n:Nat}{cs:List D}{xs:List Value}(hown:w.ownsRow 0 te e v n xs)(hxs:xs.length=cs.length)(hrel: ∀i (hi:i<cs.length),RelD w F cs[i] (xs.getD i undef))
  (hvk: ∀b,v.ownBlock=some b→ρ k=some (.arr v))(hst: ∀v',1000000≤k→Stab k (ρ k) (some (.arr v')))
  (y:Operand){m:Nat}{ys:List D}(hs:srcV P st.ob k e tx (ev st.fr y)=some (m,ys))(h63:n+m≤maxLen)(hbytes:(n+m)*bytes≤140737488355328):
  ∃v' w' ρ',(Builtin.append_ #[t,tx] ty #[v,a.eval y]).run P w= .ok v' w' ∧Rel N F ρ' ((st.newOb k (.arr te e (n+m) (cs++ys))).put (some d) (.cell (.own k))) (a.put (some d) v') w' ∧Fr F ρ w F ρ' w' ∧Tch (.new k (.arr te e (n+m) (cs++ys)) d (.cell (.own k))) ρ w ρ' w' :=by
 obtain⟨hu,i,z,hi,hz,hzs,rfl,rfl⟩:=b1t ht;obtain⟨news,hsrc,hnl,hnr⟩:=t1k h (a0f h y) hs;obtain⟨v',w',hrun,hown',hg,hb'⟩:=k0w (P:=P) t tx ty te i z hu hi hz hzs v n xs hown _ m news hsrc h63 hbytes;have hF: ∀b,F b→w'.heap[b]? =w.heap[b]? :=fun b hb=>hg.block b (h.rw.lt b hb) fun e=>h.rw.dis b hb ⟨k,_,hvk b e.symm,e.symm⟩;obtain⟨h1,h2⟩:=h.setOb (w' :=w') hg.os hg.tape hg.output hg.size k (.arr v') (.arr te i.size (n+m) (cs++ys))
  (fun b hb hne=>hg.block b hb fun e=>hne _ (hvk b e.symm) e.symm)
  (fun b hb=>⟨(hb' b hb).1,(hb' b hb).2.imp id fun e=>⟨_,hvk b e,e⟩⟩)
  (by
   refine .arr _ _ _ _ v' (xs++news) (Env.set_same _ _ _) hown' (by simp [hxs,hnl]) fun j hj=> ?_;by_cases hlt:j<cs.length
   ·have e1:(xs++news).getD j undef=xs.getD j undef:=by
     rw [j2z,List.getElem?_append_left (by omega),j2z]
    rw [e1,l2u hlt];exact(hrel j hlt).mono hF fun _ h=>h
   ·have e1:(xs++news).getD j undef=news.getD (j - cs.length) undef:=by
     rw [j2z,m2a (by omega),j2z,hxs]
    rw [e1,List.getElem_append_right (by omega)];exact(hnr _ (by rw [j2y]at hj;omega)).mono hF fun _ h=>h) (hst _)
 exact⟨v',w',_,hrun,h1.put d hd (.cell _ _ (.own _ _ fun u hu' =>by rw [Env.set_same]at hu';cases hu';rfl)),h2,⟨fun j hj=>Env.set_other _ _ _ fun e=>hj (by rw [e];rfl),fun b hb hn=>hg.block b hb fun e=>hn k _ rfl (hvk b e.symm) e.symm⟩⟩
theorem IEff.append{i d k e n m bytes:Nat}{t tx ty te:TypeId}{s y:Operand}{pos:String}{after:Array Edge}{guard:Option (Nat×Bool)}{cs ys zs:List D}{n' :Nat}
  (ho:opK ops st.fr i=some ⟨some d, .call {callee:= .builtin .append,args:= #[s,y],argTypes:= #[t,tx]},ty,pos,after,guard⟩)(hsv:ev st.fr s= .cell (.own k))(hk:lkO st.ob k= .arr te e n cs)
  (ht:rowB P t=some (te,e,bytes))(hd:Nat.blt d N=true)(hs:srcV P st.ob k e tx (ev st.fr y)=some (m,ys))(h63:n+m≤maxLen)(hbytes:(n+m)*bytes≤140737488355328)
  (hn' :n+m=n')(hz:cs++ys=zs)(hk2:Nat.blt k 2000000=true):IEff P N ops i st (.new k (.arr te e n' zs) d (.cell (.own k))):=by
 subst hn';subst hz;refine .of_opK ho ⟨rfl,fun F ρ a w hr=> ?_⟩;have hob:=hr.ob k;rw [hk]at hob;cases hob with
 | arr t' e' n' cs' u xs hkρ hown hz hh=>
  have hv:a.eval s=u:=by
   have:=a0f hr s;rw [hsv]at this;generalize a.eval s=sv at this;cases this with
   | cell c v h=>cases h with
    | own k v h=>exact h u hkρ
  obtain⟨v',w',ρ',hrun,h1,h2,h3⟩:=p0k hr ht ty k d (a0j hd) hown hz hh (fun b hb=>hkρ) (fun v' _=>by rw [hkρ];exact fun h=>absurd (a0j hk2) (by omega)) y hs h63 hbytes;refine⟨v',w',F,ρ', .inl ?_,h1,h2,h3⟩;simp only [execOp,resolve,invoke,builtin,Sem.run_bind,Sem.run_pure,Result.andThen_ok,List.map_toArray,k2l,m2f,hv,hrun]
theorem IEff.appendNil{i d e m bytes:Nat}{t tx ty te:TypeId}{s y:Operand}{pos:String}{after:Array Edge}{guard:Option (Nat×Bool)}{ys:List D}
  (ho:opK ops st.fr i=some ⟨some d, .call {callee:= .builtin .append,args:= #[s,y],argTypes:= #[t,tx]},ty,pos,after,guard⟩)(hsv:ev st.fr s= .cell (.d (.sc (.slice none 0 0))))
  (ht:rowB P t=some (te,e,bytes))(hd:Nat.blt d N=true)(hs:srcV P st.ob d e tx (ev st.fr y)=some (m,ys))(h63:m≤maxLen)(hbytes:m*bytes≤140737488355328):
  IEff P N ops i st (.new d (.arr te e m ys) d (.cell (.own d))):=by
 refine .of_opK ho ⟨rfl,fun F ρ a w hr=> ?_⟩;have hv:=(a0n (a0f hr s) (by rw [hsv];rfl)).1;obtain⟨v',w',ρ',hrun,h1,h2,h3⟩:=p0k (n:=0) (cs:= []) (xs:= []) hr ht ty d d (a0j hd) (World.ownsRow_nil w 0 te e) rfl (fun i hi=>by simp at hi) (fun b hb=>by cases hb) (fun v' hk=>by have:=hr.df.2;have:=a0j hd;omega) y hs (by omega) (by rw [l2b];exact hbytes);rw [l2b,l2j]at h1 h3;refine⟨v',w',F,ρ', .inl ?_,h1,h2,h3⟩;simp only [execOp,resolve,invoke,builtin,Sem.run_bind,Sem.run_pure,Result.andThen_ok,List.map_toArray,k2l,m2f,hv,hrun]
theorem Rel.adopt{F:Nat→Prop}{ρ:Env}{a:Act}{w:World}(h:Rel N F ρ st a w)(i k:Nat)(te e:Nat)(hk:Nat.blt k N=true)(hi:lkF st.fr i= .cell (.d (.sc (.slice none 0 0)))):
  ∃ρ',Rel N F ρ' {(st.newOb k (.arr te e 0 []))with fr:=setF i (.cell (.own k)) (st.newOb k (.arr te e 0 [])).fr} a w∧Fr F ρ w F ρ' w:=by
 obtain⟨h1,h2⟩:=h.setOb (w' :=w) rfl rfl rfl (k2h _) k (.arr (.slice none 0 0)) (.arr te e 0 []) (fun _ _ _=>rfl) (fun b hb=>by cases hb)
  (.arr _ _ _ _ _ [] (Env.set_same _ _ _) (World.ownsRow_nil w 0 te e) rfl fun i hi=>by simp at hi) (fun hk' =>by have:=h.df.2;have:=a0j hk;omega)
 refine⟨_,⟨h1.rw,fun j=> ?_,h1.ob,h1.sz,h1.df⟩,h2⟩;by_cases e1:j=i
 ·subst e1
  rw [e0p];have:=h.fr j;rw [hi]at this;have hv:=(a0n this (u:= .slice none 0 0) rfl).1;rw [hv];exact .cell _ _ (.own _ _ fun u hu=>by rw [Env.set_same]at hu;cases hu;rfl)
 ·rw [d0p _ _ _ _ e1]
  have:=h1.fr j;unfold AV.dropW;cases hx:(lkF (st.newOb k (.arr te e 0 [])).fr j).uses i with
  | true=>exact .junk _
  | false=>exact this
def AC.frz(k:Nat)(x:D):AC→AC
 | .own j=>bif Nat.beq j k then .d x else .own j
 | .fn f fs cs=>AC.kill k (.fn f fs cs)
 | c=>c
mutual
def AV.frz(k:Nat)(x:D):AV→AV
 | .cell c=> .cell (c.frz k x)
 | .agg cs=>x0t (cs.map (AC.frz k x))
 | .aggD cs=> .aggD cs
 | .tup vs=> .tup (AV.frzL k x vs)
 | .whn g w y=> .whn g w (AV.frz k x y)
 | .junk=> .junk
def AV.frzL(k:Nat)(x:D):List AV→List AV
 | []=> []
 | v::r=>AV.frz k x v::AV.frzL k x r
end
omit [Tabs]in
theorem AV.frzL_eq(k:Nat)(x:D)(l:List AV):AV.frzL k x l=l.map (AV.frz k x):=by
 induction l with
 | nil=>simp [AV.frzL]
 | cons v r ih=>simp [AV.frzL,ih]
def AObj.frz(k:Nat)(x:D):AObj→AObj
 | .box cs ty=> .box (cs.map (AC.frz k x)) ty
 | o=>o
def AC.frzM(k:Nat)(x:D):AC→AC
 | .mpr j=>bif Nat.beq j k then .d x else .mpr j
 | .fn f fs cs=>AC.kill k (.fn f fs cs)
 | c=>c
mutual
def AV.frzM(k:Nat)(x:D):AV→AV
 | .cell c=> .cell (c.frzM k x)
 | .agg cs=>x0t (cs.map (AC.frzM k x))
 | .aggD cs=> .aggD cs
 | .tup vs=> .tup (AV.frzML k x vs)
 | .whn g w y=> .whn g w (AV.frzM k x y)
 | .junk=> .junk
def AV.frzML(k:Nat)(x:D):List AV→List AV
 | []=> []
 | v::r=>AV.frzM k x v::AV.frzML k x r
end
omit [Tabs]in
theorem AV.frzML_eq(k:Nat)(x:D)(l:List AV):AV.frzML k x l=l.map (AV.frzM k x):=by
 induction l with
 | nil=>simp [AV.frzML]
 | cons v r ih=>simp [AV.frzML,ih]
def AObj.frzM(k:Nat)(x:D):AObj→AObj
 | .box cs ty=> .box (cs.map (AC.frzM k x)) ty
 | o=>o
def AC.frzB(k:Nat)(x:List D):AC→AC
 | .ptr j off=>bif Nat.beq j k then .d (.rp (x.drop off))else .ptr j off
 | .fn f fs cs=>AC.kill k (.fn f fs cs)
 | c=>c
mutual
def AV.frzB(k:Nat)(x:List D):AV→AV
 | .cell c=> .cell (c.frzB k x)
 | .agg cs=>x0t (cs.map (AC.frzB k x))
 | .aggD cs=> .aggD cs
 | .tup vs=> .tup (AV.frzBL k x vs)
 | .whn g w y=> .whn g w (AV.frzB k x y)
 | .junk=> .junk
def AV.frzBL(k:Nat)(x:List D):List AV→List AV
 | []=> []
 | v::r=>AV.frzB k x v::AV.frzBL k x r
end
omit [Tabs]in
theorem AV.frzBL_eq(k:Nat)(x:List D)(l:List AV):AV.frzBL k x l=l.map (AV.frzB k x):=by
 induction l with
 | nil=>simp [AV.frzBL]
 | cons v r ih=>simp [AV.frzBL,ih]
def AObj.frzB(k:Nat)(x:List D):AObj→AObj
 | .box cs ty=> .box (cs.map (AC.frzB k x)) ty
 | o=>o
def ASt.freeze(st:ASt)(k:Nat):ASt:=
 match lkO st.ob k with
 | .arr _ e n cs=>{fr:=st.fr.map fun p=>(p.1,p.2.frz k (.sl e n cs)),ob:=ASt.setO k .gone (st.ob.map fun p=>(p.1,p.2.frz k (.sl e n cs)))}
 | .na _ e xs=>{fr:=st.fr.map fun p=>(p.1,p.2.frz k (.nl e xs)),ob:=ASt.setO k .gone (st.ob.map fun p=>(p.1,p.2.frz k (.nl e xs)))}
 | .mp _ kt vt l _=>{fr:=st.fr.map fun p=>(p.1,p.2.frzM k (.nm kt vt l)),ob:=ASt.setO k .gone (st.ob.map fun p=>(p.1,p.2.frzM k (.nm kt vt l)))}
 | .box cs _=>match allD cs with
  | some ds=>{fr:=st.fr.map fun p=>(p.1,p.2.frzB k ds),ob:=ASt.setO k .gone (st.ob.map fun p=>(p.1,p.2.frzB k ds))}
  | none=>st
 | _=>st
omit [Tabs]in
theorem RelAC.frz{w:World}{F F' :Nat→Prop}{ρ ρ' :Env}{k:Nat}{u:Value}{x:D}(hk:ρ k=some (.arr u))(hoff:offK k ρ ρ')(hn:ρ' k=none)(hs: ∀b,F b→F' b)(hx:RelD w F' x u){c:AC}{v:Value}
  (h:RelAC w F ρ c v):RelAC w F' ρ' (c.frz k x) v:=by
 cases h with
 | d y v h=>exact .d _ _ (h.mono (fun _ _=>rfl) hs)
 | own j v h=>
  simp only [AC.frz];cases hb:Nat.beq j k with
  | true=>
   have:=j2t hb;subst this;rw [h u hk];exact .d _ _ hx
  | false=>
   exact .own _ _ fun u hu=>h u (by rw [←hoff j (k2p hb)];exact hu)
 | ptr j off v h=>
  refine .ptr _ _ _ fun b hb=> ?_;by_cases e:j=k
  ·subst e
   rw [hn]at hb;cases hb
  ·exact h b (by rw [←hoff j e];exact hb)
 | elt j e q off v h=>
  refine .elt _ _ _ _ _ fun u' hb=> ?_;by_cases e:j=k
  ·subst e
   rw [hn]at hb;cases hb
  ·exact h u' (by rw [←hoff j e];exact hb)
 | osl j e q off v h=>
  refine .osl _ _ _ _ _ fun u' hb=> ?_;by_cases e:j=k
  ·subst e
   rw [hn]at hb;cases hb
  ·exact h u' (by rw [←hoff j e];exact hb)
 | pn j v h=>
  refine .pn _ _ fun b hb=> ?_;by_cases e:j=k
  ·subst e
   rw [hn]at hb;cases hb
  ·exact h b (by rw [←hoff j e];exact hb)
 | ifo t j v h=>
  refine .ifo _ _ _ fun b hb=> ?_;by_cases e:j=k
  ·subst e
   rw [hn]at hb;cases hb
  ·exact h b (by rw [←hoff j e];exact hb)
 | mpr j v h=>
  refine .mpr _ _ fun b hb=> ?_;by_cases e:j=k
  ·subst e
   rw [hn]at hb;cases hb
  ·exact h b (by rw [←hoff j e];exact hb)
 | fn f fs cs vs us h1 h2 hf hc=>exact(RelAC.kill hoff (.fn f fs cs vs us h1 h2 hf hc)).mono (fun _ _=>rfl) hs fun _ _ h=>h
 | junk v=>exact .junk v
omit [Tabs]in
theorem RelAV.frz{w:World}{F F' :Nat→Prop}{ρ ρ' :Env}{tm:Array Value}{k:Nat}{u:Value}{x:D}(hk:ρ k=some (.arr u))(hoff:offK k ρ ρ')(hn:ρ' k=none)(hs: ∀b,F b→F' b)(hx:RelD w F' x u){c:AV}{v:Value}
  (h:RelAV w F ρ tm c v):RelAV w F' ρ' tm (c.frz k x) v:=by
 induction h with
 | cell c v h=>exact .cell _ _ (h.frz hk hoff hn hs hx)
 | agg cs arr hz h=>
  simp only [AV.frz];exact b0x (.agg _ _ (by simpa using hz) fun i hi=>by simpa using(h i (by simpa using hi)).frz hk hoff hn hs hx)
 | aggD cs arr hz h=>exact .aggD _ _ hz fun i hi=>(h i hi).mono (fun _ _=>rfl) hs
 | tup vs arr hz h ih=>
  simp only [AV.frz,AV.frzL_eq];exact .tup _ _ (by simpa using hz) fun i hi=>by simpa using ih i (by simpa using hi)
 | whn g want x v h h' ih=>exact .whn _ _ _ _ ih h'
 | junk v=>exact .junk v
omit [Tabs]in
theorem RelAC.frzM{w:World}{F F' :Nat→Prop}{ρ ρ' :Env}{k:Nat}{b0:Nat}{x:D}(hk:ρ k=some (.box b0))(hoff:offK k ρ ρ')(hn:ρ' k=none)(hs: ∀b,F b→F' b)(hx:RelD w F' x (.map (some b0))){c:AC}{v:Value}
  (h:RelAC w F ρ c v):RelAC w F' ρ' (c.frzM k x) v:=by
 cases h with
 | d y v h=>exact .d _ _ (h.mono (fun _ _=>rfl) hs)
 | own j v h=>
  refine .own _ _ fun u hb=> ?_;by_cases e:j=k
  ·subst e
   rw [hn]at hb;cases hb
  ·exact h u (by rw [←hoff j e];exact hb)
 | ptr j off v h=>
  refine .ptr _ _ _ fun b hb=> ?_;by_cases e:j=k
  ·subst e
   rw [hn]at hb;cases hb
  ·exact h b (by rw [←hoff j e];exact hb)
 | elt j e q off v h=>
  refine .elt _ _ _ _ _ fun u' hb=> ?_;by_cases e:j=k
  ·subst e
   rw [hn]at hb;cases hb
  ·exact h u' (by rw [←hoff j e];exact hb)
 | osl j e q off v h=>
  refine .osl _ _ _ _ _ fun u' hb=> ?_;by_cases e:j=k
  ·subst e
   rw [hn]at hb;cases hb
  ·exact h u' (by rw [←hoff j e];exact hb)
 | pn j v h=>
  refine .pn _ _ fun b hb=> ?_;by_cases e:j=k
  ·subst e
   rw [hn]at hb;cases hb
  ·exact h b (by rw [←hoff j e];exact hb)
 | ifo t j v h=>
  refine .ifo _ _ _ fun b hb=> ?_;by_cases e:j=k
  ·subst e
   rw [hn]at hb;cases hb
  ·exact h b (by rw [←hoff j e];exact hb)
 | mpr j v h=>
  simp only [AC.frzM];cases hb:Nat.beq j k with
  | true=>
   have:=j2t hb;subst this;rw [h b0 hk];exact .d _ _ hx
  | false=>
   exact .mpr _ _ fun u hu=>h u (by rw [←hoff j (k2p hb)];exact hu)
 | fn f fs cs vs us h1 h2 hf hc=>exact(RelAC.kill hoff (.fn f fs cs vs us h1 h2 hf hc)).mono (fun _ _=>rfl) hs fun _ _ h=>h
 | junk v=>exact .junk v
omit [Tabs]in
theorem RelAV.frzM{w:World}{F F' :Nat→Prop}{ρ ρ' :Env}{tm:Array Value}{k:Nat}{b0:Nat}{x:D}(hk:ρ k=some (.box b0))(hoff:offK k ρ ρ')(hn:ρ' k=none)(hs: ∀b,F b→F' b)(hx:RelD w F' x (.map (some b0))){c:AV}{v:Value}
  (h:RelAV w F ρ tm c v):RelAV w F' ρ' tm (c.frzM k x) v:=by
 induction h with
 | cell c v h=>exact .cell _ _ (h.frzM hk hoff hn hs hx)
 | agg cs arr hz h=>
  simp only [AV.frzM];exact b0x (.agg _ _ (by simpa using hz) fun i hi=>by simpa using(h i (by simpa using hi)).frzM hk hoff hn hs hx)
 | aggD cs arr hz h=>exact .aggD _ _ hz fun i hi=>(h i hi).mono (fun _ _=>rfl) hs
 | tup vs arr hz h ih=>
  simp only [AV.frzM,AV.frzML_eq];exact .tup _ _ (by simpa using hz) fun i hi=>by simpa using ih i (by simpa using hi)
 | whn g want x v h h' ih=>exact .whn _ _ _ _ ih h'
 | junk v=>exact .junk v
omit [Tabs]in
theorem RelAC.frzB{w:World}{F F' :Nat→Prop}{ρ ρ' :Env}{k:Nat}{b0:Nat}{x:List D}(hk:ρ k=some (.box b0))(hoff:offK k ρ ρ')(hn:ρ' k=none)(hs: ∀b,F b→F' b)(hx: ∀off,RelD w F' (.rp (x.drop off)) (.pointer (some ⟨b0,off,none⟩))){c:AC}{v:Value}
  (h:RelAC w F ρ c v):RelAC w F' ρ' (c.frzB k x) v:=by
 cases h with
 | d y v h=>exact .d _ _ (h.mono (fun _ _=>rfl) hs)
 | own j v h=>
  refine .own _ _ fun u hb=> ?_;by_cases e:j=k
  ·subst e
   rw [hn]at hb;cases hb
  ·exact h u (by rw [←hoff j e];exact hb)
 | ptr j off v h=>
  simp only [AC.frzB];cases hb:Nat.beq j k with
  | true=>
   have:=j2t hb;subst this;rw [h b0 hk];exact .d _ _ (hx off)
  | false=>
   exact .ptr _ _ _ fun u hu=>h u (by rw [←hoff j (k2p hb)];exact hu)
 | elt j e q off v h=>
  refine .elt _ _ _ _ _ fun u' hb=> ?_;by_cases e:j=k
  ·subst e
   rw [hn]at hb;cases hb
  ·exact h u' (by rw [←hoff j e];exact hb)
 | osl j e q off v h=>
  refine .osl _ _ _ _ _ fun u' hb=> ?_;by_cases e:j=k
  ·subst e
   rw [hn]at hb;cases hb
  ·exact h u' (by rw [←hoff j e];exact hb)
 | pn j v h=>
  refine .pn _ _ fun b hb=> ?_;by_cases e:j=k
  ·subst e
   rw [hn]at hb;cases hb
  ·exact h b (by rw [←hoff j e];exact hb)
 | ifo t j v h=>
  refine .ifo _ _ _ fun b hb=> ?_;by_cases e:j=k
  ·subst e
   rw [hn]at hb;cases hb
  ·exact h b (by rw [←hoff j e];exact hb)
 | mpr j v h=>
  refine .mpr _ _ fun b hb=> ?_;by_cases e:j=k
  ·subst e
   rw [hn]at hb;cases hb
  ·exact h b (by rw [←hoff j e];exact hb)
 | fn f fs cs vs us h1 h2 hf hc=>exact(RelAC.kill hoff (.fn f fs cs vs us h1 h2 hf hc)).mono (fun _ _=>rfl) hs fun _ _ h=>h
 | junk v=>exact .junk v
omit [Tabs]in
theorem RelAV.frzB{w:World}{F F' :Nat→Prop}{ρ ρ' :Env}{tm:Array Value}{k:Nat}{b0:Nat}{x:List D}(hk:ρ k=some (.box b0))(hoff:offK k ρ ρ')(hn:ρ' k=none)(hs: ∀b,F b→F' b)(hx: ∀off,RelD w F' (.rp (x.drop off)) (.pointer (some ⟨b0,off,none⟩))){c:AV}{v:Value}
  (h:RelAV w F ρ tm c v):RelAV w F' ρ' tm (c.frzB k x) v:=by
 induction h with
 | cell c v h=>exact .cell _ _ (h.frzB hk hoff hn hs hx)
 | agg cs arr hz h=>
  simp only [AV.frzB];exact b0x (.agg _ _ (by simpa using hz) fun i hi=>by simpa using(h i (by simpa using hi)).frzB hk hoff hn hs hx)
 | aggD cs arr hz h=>exact .aggD _ _ hz fun i hi=>(h i hi).mono (fun _ _=>rfl) hs
 | tup vs arr hz h ih=>
  simp only [AV.frzB,AV.frzBL_eq];exact .tup _ _ (by simpa using hz) fun i hi=>by simpa using ih i (by simpa using hi)
 | whn g want x v h h' ih=>exact .whn _ _ _ _ ih h'
 | junk v=>exact .junk v
omit [Tabs]in
theorem m0e{w:World}{F F' :Nat→Prop}{te:TypeId}{e n:Nat}{u:Value}{xs:List Value}{cs:List D}(ho:w.ownsRow 0 te e u n xs)(hz:xs.length=cs.length)(hh: ∀i (h:i<cs.length),RelD w F cs[i] (xs.getD i undef))
  (hs: ∀b,F b→F' b)(hb: ∀b,u.ownBlock=some b→F' b):RelD w F' (.sl e n cs) u:=by
 rcases ho.2 with⟨rfl,rfl⟩ | ⟨g,cap,cur,rfl,hbg,hg,hnc,hcm,hcs,htake⟩
 ·have hx:xs= []:=k2q (by simpa using ho.1)
  subst hx;have:cs= []:=k2q hz.symm;subst this;exact .nil _ _ _
 ·refine .sl e n cs g 0 cap (fun i=>xs.getD i undef) (hb g rfl) (by rw [←hz,ho.1]) hnc (fun i hi=> ?_) fun i hi=>(hh i hi).mono (fun _ _=>rfl) hs
  have:=ho.cells (g:=g) rfl i (xs.getD i undef) (by simp [j2z,show i<xs.length by omega]);rw [Addr.add_lit]at this;exact this
theorem Rel.freezeD1{F:Nat→Prop}{ρ:Env}{a:Act}{w:World}(h:Rel N F ρ st a w)(k:Nat)(D0:D){te:TypeId}{e n:Nat}{cs:List D}(ho:RelOb w F ρ k (.arr te e n cs))(hD0: ∀F' u,RelD w F' (.sl e n cs) u→RelD w F' D0 u):
  ∃F',Rel N F' (ρ.set k none) {fr:=st.fr.map fun p=>(p.1,p.2.frz k D0),ob:=ASt.setO k .gone (st.ob.map fun p=>(p.1,p.2.frz k D0))} a w∧Fr F ρ w F' (ρ.set k none) w:=by
  cases ho with
  | arr t e n cs u xs hk ho hz hh=>
   let F' :Nat→Prop:=fun b=>F b∨u.ownBlock=some b
   have hoff:=Env.set_off ρ k none;have hn:(ρ.set k none) k=none:=Env.set_same _ _ _;have hsub: ∀b,F b→F' b:=fun b hb=> .inl hb;have hD:RelD w F' D0 u:=hD0 _ _ (m0e ho hz hh hsub fun b hb=> .inr hb);have hset: ∀j l,(ρ.set k none) j=some l→j≠k∧ρ j=some l:=by
    intro j l hj;by_cases e:j=k
    ·subst e;rw [hn]at hj;cases hj
    ·rw [Env.set_other _ _ _ e]at hj;exact⟨e,hj⟩
   refine⟨F',⟨⟨?_, ?_, ?_,h.rw.tab_of (fun _ _=>rfl) hsub⟩, ?_, ?_,h.sz,h.df⟩,⟨rfl,rfl,rfl,k2h _,hsub,fun _ _ _=>rfl, ?_, ?_⟩⟩
   ·rintro b hb ⟨j,l,hj,hl⟩
    obtain⟨hne,hj'⟩:=hset j l hj;rcases hb with hb | hb
    ·exact h.rw.dis b hb ⟨j,l,hj',hl⟩
    ·exact hne (h.rw.inj _ _ _ _ b hj' hk hl hb)
   ·rintro b (hb | hb)
    ·exact h.rw.lt b hb
    ·exact(ho.lt b hb).2
   ·intro i j l l' b hi hj hb hb'
    exact h.rw.inj _ _ _ _ b (hset i l hi).2 (hset j l' hj).2 hb hb'
   ·intro i
    simp only;rw [c0v (AV.frz k D0) (by simp [AV.frz])];exact(h.fr i).frz hk hoff hn hsub hD
   ·intro j
    simp only;by_cases ej:j=k
    ·subst ej
     rw [a0q];exact .gone hn
    ·rw [a0o _ _ _ _ ej,d0i (AObj.frz k D0) rfl]
     have hj:=h.ob j;have hkj:(ρ.set k none) j=ρ j:=Env.set_other _ _ _ ej;generalize lkO st.ob j=o at hj
     induction hj with
     | gone hj=>exact .gone (hkj.trans hj)
     | na t ee xs h ih=>exact .na t ee xs ih
     | any o h ih=>exact .any _ ih
     | box cs' oty b c t hoty hk' hb hs hh' =>exact .box _ _ b c t hoty (hkj.trans hk') hb (by simpa using hs) fun i hi=>by simpa using(hh' i (by simpa using hi)).frz hk hoff hn hsub hD
     | arr t e n cs' u xs hk' ho' hz hh' =>exact .arr t e n cs' u xs (hkj.trans hk') ho' hz fun i hi=>(hh' i hi).mono (fun _ _=>rfl) hsub
     | tab b o hk' hF hb=>exact .tab b o (hkj.trans hk') (hsub b hF) hb
     | it s pos b hk' hb=>exact .it s pos b (hkj.trans hk') hb
     | mi kt vt l cur b mo si se la hk' hb hm=>exact .mi kt vt l cur b mo si se la (hkj.trans hk') hb (hm.mono (fun _ _=>rfl) hsub)
     | mp t kt vt l b es c hk' hb hz hh' dn hdn=>exact .mp t kt vt l b es c (hkj.trans hk') hb hz (fun i h1 h2=>⟨(hh' i h1 h2).1.mono (fun _ _=>rfl) hsub,(hh' i h1 h2).2.mono (fun _ _=>rfl) hsub⟩) dn hdn
   ·rintro b hb ((hf | hf) | ⟨j,l,hj,hl⟩)
    ·exact .inl hf
    ·exact .inr ⟨k,_,hk,hf⟩
    ·exact .inr ⟨j,l,(hset j l hj).2,hl⟩
   ·intro j hj
    by_cases ej:j=k
    ·subst ej
     rw [hn];cases ρ j<;>trivial
    ·rw [Env.set_other _ _ _ ej]
     exact Stab.refl _ _
omit [Tabs]in
theorem RelE.cells{w:World}{F:Nat→Prop}{τ:Ev.Ty}{x:τ.den}{v:Value}(h:RelE w F τ x v): ∃a:Array Value,a.size=(Esp.cells τ x).length∧v=n0v τ.sz a∧∀j (h:j< (Esp.cells τ x).length),RelD w F (Esp.cells τ x)[j] (a.getD j undef):=by
 unfold RelE at h;split at h
 ·rename_i hz
  obtain⟨c,h1,h2⟩:=h;refine⟨#[v],by simp [h1],by simp [n0v,hz],fun j hj=> ?_⟩;have hj0:j=0:=by rw [h1]at hj;simpa using hj
  subst hj0;simpa [h1]using h2
 ·rename_i hz
  obtain⟨arr,h1,h2,h3⟩:=h;exact⟨arr,h2,by rw [n0v,if_neg hz];exact h1,h3⟩
omit [Tabs]in
theorem RelE.of_cells{w:World}{F:Nat→Prop}{τ:Ev.Ty}{x:τ.den}{a:Array Value}(hz:a.size=(Esp.cells τ x).length)(h: ∀j (h:j< (Esp.cells τ x).length),RelD w F (Esp.cells τ x)[j] (a.getD j undef)):RelE w F τ x (n0v τ.sz a):=by
 unfold RelE n0v;split
 ·rename_i hs
  have hl:=a0w τ x;rw [hs]at hl
  match hc:Esp.cells τ x,hl with
  | [c],_=>
   refine⟨c,rfl, ?_⟩;have:=h 0 (by rw [hc];simp);simpa [hc]using this
 ·exact⟨a,rfl,hz,h⟩
omit [Tabs]in
theorem a1h{w:World}{F:Nat→Prop}{kt vt:Ev.Ty}{l:List (kt.den×vt.den)}{b:Nat}{es:Array MapEntry}{clock:Nat}(hF:F b)(hb:w.heap[b]? =some (.map es clock))(hs:es.size=l.length)
  (h: ∀i (h:i<l.length) (h' :i<es.size),RelE w F kt l[i].1 es[i].key∧RelE w F vt l[i].2 es[i].val)(hst:StOk es clock):RelD w F (.nm kt vt l) (.map (some b)):=by
 have hk: ∀i,∃a:Array Value,∀(h:i<l.length) (h' :i<es.size),a.size=(cells kt l[i].1).length∧es[i].key=n0v kt.sz a∧∀j (h:j< (cells kt l[i].1).length),RelD w F (cells kt l[i].1)[j] (a.getD j undef):=by
  intro i;by_cases hi:i<l.length
  ·obtain⟨a,h1,h2,h3⟩:=(h i hi (by omega)).1.cells
   exact⟨a,fun _ _=>⟨h1,h2,h3⟩⟩
  ·exact⟨#[],fun h=>absurd h hi⟩
 have hv: ∀i,∃a:Array Value,∀(h:i<l.length) (h' :i<es.size),a.size=(cells vt l[i].2).length∧es[i].val=n0v vt.sz a∧∀j (h:j< (cells vt l[i].2).length),RelD w F (cells vt l[i].2)[j] (a.getD j undef):=by
  intro i;by_cases hi:i<l.length
  ·obtain⟨a,h1,h2,h3⟩:=(h i hi (by omega)).2.cells
   exact⟨a,fun _ _=>⟨h1,h2,h3⟩⟩
  ·exact⟨#[],fun h=>absurd h hi⟩
 obtain⟨ka,hka⟩:=Classical.axiomOfChoice hk;obtain⟨va,hva⟩:=Classical.axiomOfChoice hv;exact .nm kt vt l b es clock ka va hF hb hs (fun i hi=>⟨(hka i hi (by omega)).1,(hva i hi (by omega)).1⟩) (fun i hi=>⟨(hka i (by omega) hi).2.1,(hva i (by omega) hi).2.1⟩) (fun i hi j hj=>(hka i hi (by omega)).2.2 j hj) (fun i hi j hj=>(hva i hi (by omega)).2.2 j hj) hst
theorem Rel.freezeM1{F:Nat→Prop}{ρ:Env}{a:Act}{w:World}(h:Rel N F ρ st a w)(k:Nat){te:TypeId}{kt vt:Ev.Ty}{l:List (kt.den×vt.den)}{dn:Bool}(ho:RelOb w F ρ k (.mp te kt vt l dn)):
  ∃F',Rel N F' (ρ.set k none) {fr:=st.fr.map fun p=>(p.1,p.2.frzM k (.nm kt vt l)),ob:=ASt.setO k .gone (st.ob.map fun p=>(p.1,p.2.frzM k (.nm kt vt l)))} a w∧Fr F ρ w F' (ρ.set k none) w:=by
  cases ho with
  | mp t kt vt l b0 es clock hk hb hs hh _ hdn0=>
   let F' :Nat→Prop:=fun b=>F b∨b0=b
   have hoff:=Env.set_off ρ k none;have hn:(ρ.set k none) k=none:=Env.set_same _ _ _;have hsub: ∀b,F b→F' b:=fun b hb=> .inl hb;have hD:RelD w F' (.nm kt vt l) (.map (some b0)):=a1h (.inr rfl) hb hs (fun i h1 h2=>⟨(hh i h1 h2).1.mono (fun _ _=>rfl) hsub,(hh i h1 h2).2.mono (fun _ _=>rfl) hsub⟩) hdn0.2;have hset: ∀j l,(ρ.set k none) j=some l→j≠k∧ρ j=some l:=by
    intro j l hj;by_cases e:j=k
    ·subst e;rw [hn]at hj;cases hj
    ·rw [Env.set_other _ _ _ e]at hj;exact⟨e,hj⟩
   refine⟨F',⟨⟨?_, ?_, ?_,h.rw.tab_of (fun _ _=>rfl) hsub⟩, ?_, ?_,h.sz,h.df⟩,⟨rfl,rfl,rfl,k2h _,hsub,fun _ _ _=>rfl, ?_, ?_⟩⟩
   ·rintro b hb ⟨j,l,hj,hl⟩
    obtain⟨hne,hj'⟩:=hset j l hj;rcases hb with hb | hb
    ·exact h.rw.dis b hb ⟨j,l,hj',hl⟩
    ·exact hne (h.rw.inj _ _ _ _ b hj' hk hl (by rw [hb];rfl))
   ·rintro b (hb | hb)
    ·exact h.rw.lt b hb
    ·subst hb;exact(k2j.1 ‹w.heap[b0]? =_›).1
   ·intro i j l l' b hi hj hb hb'
    exact h.rw.inj _ _ _ _ b (hset i l hi).2 (hset j l' hj).2 hb hb'
   ·intro i
    simp only;rw [c0v (AV.frzM k (.nm kt vt l)) (by simp [AV.frzM])];exact(h.fr i).frzM hk hoff hn hsub hD
   ·intro j
    simp only;by_cases ej:j=k
    ·subst ej
     rw [a0q];exact .gone hn
    ·rw [a0o _ _ _ _ ej,d0i (AObj.frzM k (.nm kt vt l)) rfl]
     have hj:=h.ob j;have hkj:(ρ.set k none) j=ρ j:=Env.set_other _ _ _ ej;generalize lkO st.ob j=o at hj
     induction hj with
     | gone hj=>exact .gone (hkj.trans hj)
     | na t ee xs h ih=>exact .na t ee xs ih
     | any o h ih=>exact .any _ ih
     | box cs' oty b c t hoty hk' hb hs hh' =>exact .box _ _ b c t hoty (hkj.trans hk') hb (by simpa using hs) fun i hi=>by simpa using(hh' i (by simpa using hi)).frzM hk hoff hn hsub hD
     | arr t e n cs' u xs hk' ho' hz hh' =>exact .arr t e n cs' u xs (hkj.trans hk') ho' hz fun i hi=>(hh' i hi).mono (fun _ _=>rfl) hsub
     | tab b o hk' hF hb=>exact .tab b o (hkj.trans hk') (hsub b hF) hb
     | it s pos b hk' hb=>exact .it s pos b (hkj.trans hk') hb
     | mi kt vt l cur b mo si se la hk' hb hm=>exact .mi kt vt l cur b mo si se la (hkj.trans hk') hb (hm.mono (fun _ _=>rfl) hsub)
     | mp t kt' vt' l' b es c hk' hb hz hh' dn' hdn=>exact .mp t kt' vt' l' b es c (hkj.trans hk') hb hz (fun i h1 h2=>⟨(hh' i h1 h2).1.mono (fun _ _=>rfl) hsub,(hh' i h1 h2).2.mono (fun _ _=>rfl) hsub⟩) dn' hdn
   ·rintro b hb ((hf | hf) | ⟨j,l,hj,hl⟩)
    ·exact .inl hf
    ·exact .inr ⟨k,_,hk,by rw [hf];rfl⟩
    ·exact .inr ⟨j,l,(hset j l hj).2,hl⟩
   ·intro j hj
    by_cases ej:j=k
    ·subst ej
     rw [hn];cases ρ j<;>trivial
    ·rw [Env.set_other _ _ _ ej]
     exact Stab.refl _ _
theorem Rel.freezeB1{F:Nat→Prop}{ρ:Env}{a:Act}{w:World}(h:Rel N F ρ st a w)(k:Nat){cs:List AC}{ty:Option TypeId}{ds:List D}(ho:RelOb w F ρ k (.box cs ty))(hds:allD cs=some ds):
  ∃F',Rel N F' (ρ.set k none) {fr:=st.fr.map fun p=>(p.1,p.2.frzB k ds),ob:=ASt.setO k .gone (st.ob.map fun p=>(p.1,p.2.frzB k ds))} a w∧Fr F ρ w F' (ρ.set k none) w:=by
  cases ho with
  | box cs ty b0 c0 t0 hty hk hbb0 hs hh=>
   have hcs:=g0v hds;subst hcs
   let F' :Nat→Prop:=fun b=>F b∨b0=b
   have hoff:=Env.set_off ρ k none;have hn:(ρ.set k none) k=none:=Env.set_same _ _ _;have hsub: ∀b,F b→F' b:=fun b hb=> .inl hb;have hD: ∀off,RelD w F' (.rp (ds.drop off)) (.pointer (some ⟨b0,off,none⟩)):=by
    intro off;have hlen: ∀i,i< (ds.drop off).length→off+i<ds.length:=fun i hi=>by rw [k2t]at hi;omega
    refine .rp _ b0 off (fun i=>c0.getD (off+i) undef) (fun _=> .inr rfl) (fun i hi=> ?_) fun i hi=> ?_
    ·have h1:off+i<c0.size:=by rw [hs];simpa using hlen i hi
     rw [cell_of_row w b0 (off+i) c0 t0 _ hbb0];simp [j2u,h1]
    ·have h1:off+i< (ds.map AC.d).length:=by simpa using hlen i hi
     have h2:=hh (off+i) h1;simp only [List.getElem_map]at h2;rw [List.getElem_drop];cases h2 with
     | d x v h3=>exact h3.mono (fun _ _=>rfl) hsub
   have hset: ∀j l,(ρ.set k none) j=some l→j≠k∧ρ j=some l:=by
    intro j l hj;by_cases e:j=k
    ·subst e;rw [hn]at hj;cases hj
    ·rw [Env.set_other _ _ _ e]at hj;exact⟨e,hj⟩
   refine⟨F',⟨⟨?_, ?_, ?_,h.rw.tab_of (fun _ _=>rfl) hsub⟩, ?_, ?_,h.sz,h.df⟩,⟨rfl,rfl,rfl,k2h _,hsub,fun _ _ _=>rfl, ?_, ?_⟩⟩
   ·rintro b hb ⟨j,l,hj,hl⟩
    obtain⟨hne,hj'⟩:=hset j l hj;rcases hb with hb | hb
    ·exact h.rw.dis b hb ⟨j,l,hj',hl⟩
    ·exact hne (h.rw.inj _ _ _ _ b hj' hk hl (by rw [hb];rfl))
   ·rintro b (hb | hb)
    ·exact h.rw.lt b hb
    ·subst hb;exact(k2j.1 hbb0).1
   ·intro i j l l' b hi hj hb hb'
    exact h.rw.inj _ _ _ _ b (hset i l hi).2 (hset j l' hj).2 hb hb'
   ·intro i
    simp only;rw [c0v (AV.frzB k ds) (by simp [AV.frzB])];exact(h.fr i).frzB hk hoff hn hsub hD
   ·intro j
    simp only;by_cases ej:j=k
    ·subst ej
     rw [a0q];exact .gone hn
    ·rw [a0o _ _ _ _ ej,d0i (AObj.frzB k ds) rfl]
     have hj:=h.ob j;have hkj:(ρ.set k none) j=ρ j:=Env.set_other _ _ _ ej;generalize lkO st.ob j=o at hj
     induction hj with
     | gone hj=>exact .gone (hkj.trans hj)
     | na t ee xs h ih=>exact .na t ee xs ih
     | any o h ih=>exact .any _ ih
     | box cs' oty b c t hoty hk' hb hs hh' =>exact .box _ _ b c t hoty (hkj.trans hk') hb (by simpa using hs) fun i hi=>by simpa using(hh' i (by simpa using hi)).frzB hk hoff hn hsub hD
     | arr t e n cs' u xs hk' ho' hz hh' =>exact .arr t e n cs' u xs (hkj.trans hk') ho' hz fun i hi=>(hh' i hi).mono (fun _ _=>rfl) hsub
     | tab b o hk' hF hb=>exact .tab b o (hkj.trans hk') (hsub b hF) hb
     | it s pos b hk' hb=>exact .it s pos b (hkj.trans hk') hb
     | mi kt vt l cur b mo si se la hk' hb hm=>exact .mi kt vt l cur b mo si se la (hkj.trans hk') hb (hm.mono (fun _ _=>rfl) hsub)
     | mp t kt' vt' l' b es c hk' hb hz hh' dn' hdn=>exact .mp t kt' vt' l' b es c (hkj.trans hk') hb hz (fun i h1 h2=>⟨(hh' i h1 h2).1.mono (fun _ _=>rfl) hsub,(hh' i h1 h2).2.mono (fun _ _=>rfl) hsub⟩) dn' hdn
   ·rintro b hb ((hf | hf) | ⟨j,l,hj,hl⟩)
    ·exact .inl hf
    ·exact .inr ⟨k,_,hk,by rw [hf];rfl⟩
    ·exact .inr ⟨j,l,(hset j l hj).2,hl⟩
   ·intro j hj
    by_cases ej:j=k
    ·subst ej
     rw [hn];cases ρ j<;>trivial
    ·rw [Env.set_other _ _ _ ej]
     exact Stab.refl _ _
theorem Rel.freezeD{F:Nat→Prop}{ρ:Env}{a:Act}{w:World}(h:Rel N F ρ st a w)(k:Nat)(D0:D){te:TypeId}{e n:Nat}{cs:List D}(ho:RelOb w F ρ k (.arr te e n cs))(hD0: ∀F' u,RelD w F' (.sl e n cs) u→RelD w F' D0 u):
  ∃F' ρ',Rel N F' ρ' {fr:=st.fr.map fun p=>(p.1,p.2.frz k D0),ob:=ASt.setO k .gone (st.ob.map fun p=>(p.1,p.2.frz k D0))} a w∧Fr F ρ w F' ρ' w:=by
 obtain⟨F',h1,h2⟩:=h.freezeD1 k D0 ho hD0;exact⟨F',_,h1,h2⟩
theorem Rel.freeze{F:Nat→Prop}{ρ:Env}{a:Act}{w:World}(h:Rel N F ρ st a w)(k:Nat): ∃F' ρ',Rel N F' ρ' (st.freeze k) a w∧Fr F ρ w F' ρ' w:=by
 have ho:=h.ob k;unfold ASt.freeze;split
 ·rename_i te e n cs hob
  rw [hob]at ho;exact h.freezeD k (.sl e n cs) ho fun _ _ h=>h
 ·rename_i te e xs hob
  rw [hob]at ho;cases ho with
  | na t ee xs ho=>exact h.freezeD k (.nl e xs) ho fun _ _ h=> .nl _ _ _ h
 ·rename_i te kt vt l dn hob
  rw [hob]at ho;obtain⟨F',h1,h2⟩:=h.freezeM1 k ho;exact⟨F',_,h1,h2⟩
 ·rename_i cs ty hob
  rw [hob]at ho;split
  ·rename_i ds hds
   obtain⟨F',h1,h2⟩:=h.freezeB1 k ho hds;exact⟨F',_,h1,h2⟩
  ·exact⟨F,ρ,h,Fr.refl F ρ w⟩
 ·exact⟨F,ρ,h,Fr.refl F ρ w⟩
theorem AW.freeze{c:Code}(k:Nat)(hs:st.freeze k=st')(kk:AW P N c st' Q):AW P N c st Q:=by
 subst hs;intro F ρ a w hr;obtain⟨F',ρ',h1,h2⟩:=hr.freeze k;exact kk.after h1 h2
theorem AOps.freeze(k:Nat)(hs:st.freeze k=st')(kk:AOps P N ops l st' Q):AOps P N ops l st Q:=by
 subst hs;intro F ρ a w hr;obtain⟨F',ρ',h1,h2⟩:=hr.freeze k;exact kk.after h1 h2
def a0p(P:Program)(f:FuncId):Bool:=
 match P.funcs[f]? with
 | some fn => !(fn.name == "runtime.NumGoroutine") && fn.body.isSome
 | none=>false
omit [Tabs]in
theorem x0m{f:FuncId}(h:a0p P f=true)(args:Array Value)(w:World):(callFunc f args).run P w= .ok (.enter f args) w:=by
 unfold a0p at h;split at h
 ·rename_i fn hf
  simp only [j2s,l2l]at h;cases hb:fn.body with
  | none=>rw [hb]at h;simp at h
  | some c=>
   have h1 : ¬ fn.name = "runtime.NumGoroutine" := by simpa using h.1
   simp [callFunc,hf,h1,hb]
 ·cases h
def b0k(fr:List (Nat×AV))(c:Call):Option (FuncId×List AV):=
 match c.callee with
 | .value g=>match ev fr g with
  | .cell (.fn (.func f) fs cs)=>some (f,fs.map .cell++(c.args.toList.map (ev fr)++cs.map .cell))
  | _=>none
 | _=>none
theorem c0b{F:Nat→Prop}{ρ:Env}{a:Act}{w:World}(h:Rel N F ρ st a w){c:Call}{f:FuncId}{args:List AV}(hc:b0k st.fr c=some (f,args))(hf:a0p P f=true)(t:TypeId):
  ∃vs:Array Value,(do let d ←resolve a.eval c t;invoke d.target d.args:Sem Next).run P w= .ok (.enter f vs) w∧vs.size=args.length∧∀i (hi:i<args.length),RelAV w F ρ a.tmps args[i] (vs.getD i undef):=by
 unfold b0k at hc;split at hc
 ·rename_i g hg
  split at hc
  ·rename_i f' fs cs he
   cases hc;have hr:=a0f h g;rw [he]at hr;generalize hgv:a.eval g=gv at hr;cases hr with
   | cell _ _ hr=>cases hr with
    | fn _ _ _ vs us h1 h2 hfs hcs=>
     refine⟨vs++c.args.map a.eval++us, ?_,by simp [h1,h2]<;>omega,fun i hi=> ?_⟩
     ·simp only [resolve,hg,hgv,Deferred.ofValue,Sem.run_bind,Sem.run_pure,Result.andThen_ok,invoke]
      exact x0m hf _ w
     ·simp only [j2y,k2v,k2z]at hi
      by_cases hi1:i<fs.length
      ·have e1:(vs++c.args.map a.eval++us).getD i undef=vs.getD i undef:=by
        simp only [j2u];rw [Array.append_assoc,m2b (by omega)]
       rw [e1,l2u (by simpa using hi1),List.getElem_map];exact .cell _ _ (hfs i hi1)
      ·rw [List.getElem_append_right (by simp;omega)]
       by_cases hi2:i - fs.length<c.args.size
       ·have e1:(vs++c.args.map a.eval++us).getD i undef=a.eval c.args[i - fs.length]:=by
         simp only [j2u];rw [Array.append_assoc,Array.getElem?_append_right (by omega),m2b (by simp only [Array.size_map];omega),h1];simp [hi2]
        rw [e1,l2u (by simp;omega)];simp only [List.getElem_map,k2v,Array.getElem_toList];exact a0f h _
       ·have e1:(vs++c.args.map a.eval++us).getD i undef=us.getD (i - fs.length - c.args.size) undef:=by
         simp only [j2u];rw [Array.append_assoc,Array.getElem?_append_right (by omega),Array.getElem?_append_right (by simp;omega),h1];simp
        rw [e1,List.getElem_append_right (by simp;omega)];simp only [List.getElem_map,k2v,k2z];exact .cell _ _ (hcs _ (by omega))
  ·cases hc
 ·cases hc
mutual
def AV.frozen:AV→Bool
 | .cell (.d _)=>true
 | .cell (.fn _ [] [])=>true
 | .aggD _=>true
 | .tup vs=>AV.frozenL vs
 | _=>false
def AV.frozenL:List AV→Bool
 | []=>true
 | v::r=>AV.frozen v&&AV.frozenL r
end
omit [Tabs]in
theorem AV.frozenL_get: ∀{l:List AV},AV.frozenL l=true→∀i (h:i<l.length),AV.frozen l[i]=true
 | [],_,i,h=>by simp at h
 | c::r,h,i,hi=>by
  simp only [AV.frozenL,j2s]at h;cases i with
  | zero=>simpa using h.1
  | succ i=>simpa using AV.frozenL_get h.2 i (by simpa using hi)
omit [Tabs]in
theorem RelAV.frozen_any{w:World}{F:Nat→Prop}{ρ ρ' :Env}{tm tm' :Array Value}{x:AV}{v:Value}(h:RelAV w F ρ tm x v)(hx:x.frozen=true):RelAV w F ρ' tm' x v:=by
 induction h with
 | cell c v h=>cases h with
  | d x v h=>exact .cell _ _ (.d _ _ h)
  | own=>simp [AV.frozen]at hx
  | ptr=>simp [AV.frozen]at hx
  | elt=>simp [AV.frozen]at hx
  | osl=>simp [AV.frozen]at hx
  | pn=>simp [AV.frozen]at hx
  | ifo=>simp [AV.frozen]at hx
  | mpr=>simp [AV.frozen]at hx
  | fn f fs cs vs us h1 h2 hf hc=>
   cases fs with
   | cons _ _=>simp [AV.frozen]at hx
   | nil=>cases cs with
    | cons _ _=>simp [AV.frozen]at hx
    | nil=>exact .cell _ _ (.fn f [] [] vs us h1 h2 (fun i hi=>by simp at hi) (fun i hi=>by simp at hi))
  | junk=>simp [AV.frozen]at hx
 | agg cs arr hz h=>simp [AV.frozen]at hx
 | aggD cs arr hz h=>exact .aggD cs arr hz h
 | tup vs arr hz h ih=>exact .tup vs arr hz fun i hi=>ih i hi (AV.frozenL_get (by simpa [AV.frozen]using hx) i hi)
 | whn g want x v h h' ih=>simp [AV.frozen]at hx
 | junk v=>simp [AV.frozen]at hx
def PCalls(P:Program)(f:FuncId)(args:List AV)(x:AV):Prop:=ACalls P f args [] fun r _=>r= .ret x
theorem IEff.pcall{i d:Nat}{c:Call}{ty:TypeId}{pos:String}{after:Array Edge}{guard:Option (Nat×Bool)}{f:FuncId}{args:List AV}{x:AV}
  (ho:opK ops st.fr i=some ⟨some d, .call c,ty,pos,after,guard⟩)(hc:b0k st.fr c=some (f,args))(hf:a0p P f=true)(hz:AV.frozenL args=true)(hd:Nat.blt d N=true)
  (spec:PCalls P f args x)(hx:x.frozen=true):IEff P N ops i st (.put d x):=by
 intro F ρ a w hr K R kk;obtain⟨e,hw⟩:=b0c hr ho;obtain⟨vs,hrun,hsz,hrel⟩:=c0b hr hc hf ty;simp only [wpOp,e];rw [if_pos hw];left;have hrun' :(execOp a.eval ⟨some d, .call c,ty,pos,after,guard⟩).run P w= .ok (.enter f vs) w:=hrun;simp only [Oper.wp,Oper.upon,hrun'];have h0:RelW F (fun _=>none) w:=⟨(fun b _ ⟨k,l,hk,_⟩=>by cases hk),hr.rw.lt,(fun k k' l l' b hk=>by cases hk),hr.rw.tab⟩;refine(spec F (fun _=>none) vs w h0 (fun k=> .gone rfl) ⟨hsz,fun j hj=>(hrel j hj).frozen_any (AV.frozenL_get hz j hj)⟩).mono fun en w' ⟨F',ρ',r,ob',hq,hre,hrw,hrob,hfr⟩=> ?_;subst hq;have hnl: ∀b,¬live (fun _=>none) b:=fun b ⟨k,l,hk,_⟩=>by cases hk
 cases en with
 | returned v=>
  have hv:RelAV w' F' ρ' #[] x v:=hre;have hkeep: ∀b,b<w.heap.size→w'.heap[b]? =w.heap[b]? :=fun b hb=>hfr.keep b hb (hnl b);have hdis: ∀b,F' b→¬live ρ b:=by
   rintro b hb ⟨k,l,hk,hl⟩;have hlt:=(hr.ob k).lt hk hl;rcases hfr.old b hlt (.inl hb)with h | h
   ·exact hr.rw.dis b h ⟨k,l,hk,hl⟩
   ·exact hnl b h
  have hrel' :Rel N F' ρ st a w' :=by
   refine⟨⟨hdis,hrw.lt,hr.rw.inj,hrw.tab⟩,fun j=>(hr.fr j).mono (fun b hb=>hkeep b (hr.rw.lt b hb)) hfr.sub fun _ _ h=>h,
    fun j=>(hr.ob j).through (fun b hb=>hkeep b (hr.rw.lt b hb)) hfr.sub fun l b hl hb=>hkeep b ((hr.ob j).lt hl hb),hr.sz,hr.df⟩
  have hfr' :Fr F ρ w F' ρ w' :=by
   refine⟨hfr.os,hfr.tape,hfr.output,hfr.size,hfr.sub,fun b hb _=>hkeep b hb, ?_,fun _ _=>Stab.refl _ _⟩;rintro b hb (h | h)
   ·rcases hfr.old b hb (.inl h)with h' | h'
    ·exact .inl h'
    ·exact absurd h' (hnl b)
   ·exact .inr h
  exact kk v w' F' ρ (hrel'.put d (a0j hd) (hv.frozen_any hx)) hfr' (.none hkeep)
 | panicked chain=>exact hre.elim
 | outgrown=>exact hre.elim
end
end Esp
namespace Esp
open Go
set_option linter.unusedSimpArgs false
set_option linter.unusedVariables false
variable [Tabs]
structure FSt where
 fr:Nat→AV
 ob:Nat→AObj
def ASt.fn(s:ASt):FSt:=⟨lkF s.fr,lkO s.ob⟩
def Eff.appF:Eff→FSt→FSt
 | .put d x,f=>⟨fun i=>if i=d then x else(f.fr i).dropW d,f.ob⟩
 | .new k o d x,f=>⟨fun i=>if i=d then x else((f.fr i).kill k).dropW d,fun j=>if j=k then o else(f.ob j).kill k⟩
 | .upd k o,f=>⟨f.fr,fun j=>if j=k then o else f.ob j⟩
 | .upp k o d x,f=>⟨fun i=>if i=d then x else(f.fr i).dropW d,fun j=>if j=k then o else f.ob j⟩
omit [Tabs]in
theorem n1r(st:ASt)(d:Tmp)(x:AV):(st.put (some d) x).fn=⟨fun i=>if i=d then x else(lkF st.fr i).dropW d,lkO st.ob⟩:=by
 simp only [ASt.fn,ASt.put,FSt.mk.injEq,and_true];funext i;by_cases h:i=d
 ·subst h;rw [e0p,if_pos rfl]
 ·rw [d0p _ _ _ _ h,if_neg h]
omit [Tabs]in
theorem f1n(e:Eff)(st:ASt):(e.app st).fn=e.appF st.fn:=by
 cases e with
 | put d x=>exact n1r st d x
 | new k o d x=>
  simp only [Eff.app];rw [n1r];simp only [Eff.appF,ASt.fn,FSt.mk.injEq];refine⟨?_, ?_⟩
  ·funext i
   simp only [ASt.newOb,ASt.killF,c0v (AV.kill k) (AV.kill_junk k)]
  ·funext j
   by_cases h:j=k
   ·subst h;simp only [ASt.newOb,a0q,if_pos]
   ·simp only [ASt.newOb,ASt.killO,a0o _ _ _ _ h,d0i (AObj.kill k) rfl,if_neg h]
 | upd k o=>
  simp only [Eff.app,Eff.appF,ASt.fn,FSt.mk.injEq,true_and];funext j;by_cases h:j=k
  ·subst h;rw [a0q,if_pos rfl]
  ·rw [a0o _ _ _ _ h,if_neg h]
 | upp k o d x=>
  simp only [Eff.app];rw [n1r];simp only [Eff.appF,ASt.fn,FSt.mk.injEq,true_and];funext j;by_cases h:j=k
  ·subst h;rw [a0q,if_pos rfl]
  ·rw [a0o _ _ _ _ h,if_neg h]
omit [Tabs]in
theorem f0o(k:Nat)(o:AObj)(d:Tmp)(x:AV)(f:FSt):(Eff.upp k o d x).appF f=(Eff.put d x).appF ((Eff.upd k o).appF f):=rfl
omit [Tabs]in
theorem b0s(e:Eff)(st:ASt)(i:Nat):lkF (e.app st).fr i=(e.appF st.fn).fr i:=congrFun (congrArg FSt.fr (f1n e st)) i
omit [Tabs]in
theorem g0d(e:Eff)(st:ASt)(i:Nat):lkO (e.app st).ob i=(e.appF st.fn).ob i:=congrFun (congrArg FSt.ob (f1n e st)) i
theorem Rel.congr{N:Nat}{F:Nat→Prop}{ρ:Env}{s s' :ASt}{a:Act}{w:World}(h:Rel N F ρ s a w)(e:s.fn=s'.fn):Rel N F ρ s' a w:=by
 simp only [ASt.fn,FSt.mk.injEq]at e;exact⟨h.rw,fun i=>e.1▸h.fr i,fun k=>e.2▸h.ob k,h.sz,h.df⟩
mutual
def AC.refsP(p:Nat→Bool):AC→Bool
 | .d _=>false
 | .own j=>p j
 | .ptr j _=>p j
 | .elt j _ _ _=>p j
 | .osl j _ _ _=>p j
 | .pn j=>p j
 | .ifo _ j=>p j
 | .mpr j=>p j
 | .fn _ fs cs=>AC.refsPL p fs || AC.refsPL p cs
 | .junk=>false
def AC.refsPL(p:Nat→Bool):List AC→Bool
 | []=>false
 | c::r=>AC.refsP p c || AC.refsPL p r
end
def AC.killP(p:Nat→Bool)(c:AC):AC:=bif c.refsP p then .junk else c
mutual
def AV.killP(p:Nat→Bool):AV→AV
 | .cell c=> .cell (c.killP p)
 | .agg cs=> .agg (cs.map (AC.killP p))
 | .aggD cs=> .aggD cs
 | .tup vs=> .tup (AV.killPL p vs)
 | .whn g w x=> .whn g w (AV.killP p x)
 | .junk=> .junk
def AV.killPL(p:Nat→Bool):List AV→List AV
 | []=> []
 | v::r=>AV.killP p v::AV.killPL p r
end
def AObj.killP(p:Nat→Bool):AObj→AObj
 | .box cs ty=> .box (cs.map (AC.killP p)) ty
 | o=>o
mutual
def AV.usesP(q:Nat→Bool):AV→Bool
 | .whn h _ x=>q h || AV.usesP q x
 | .tup vs=>AV.usesPL q vs
 | _=>false
def AV.usesPL(q:Nat→Bool):List AV→Bool
 | []=>false
 | v::r=>AV.usesP q v || AV.usesPL q r
end
def AV.dropP(q:Nat→Bool)(v:AV):AV:=bif v.usesP q then .junk else v
omit [Tabs]in
mutual
theorem AC.refsP_or(p q:Nat→Bool): ∀c:AC,c.refsP (fun j=>p j || q j)=(c.refsP p || c.refsP q)
 | .d _=>rfl
 | .own j=>rfl
 | .ptr j _=>rfl
 | .elt j _ _ _=>rfl
 | .osl j _ _ _=>rfl
 | .pn j=>rfl
 | .ifo _ j=>rfl
 | .mpr j=>rfl
 | .fn _ fs cs=>by
  simp only [AC.refsP,AC.refsPL_or p q fs,AC.refsPL_or p q cs];cases AC.refsPL p fs<;>cases AC.refsPL p cs<;>cases AC.refsPL q fs<;>cases AC.refsPL q cs<;>rfl
 | .junk=>rfl
theorem AC.refsPL_or(p q:Nat→Bool): ∀c:List AC,AC.refsPL (fun j=>p j || q j) c=(AC.refsPL p c || AC.refsPL q c)
 | []=>rfl
 | c::r=>by
  simp only [AC.refsPL,AC.refsP_or p q c,AC.refsPL_or p q r];cases AC.refsP p c<;>cases AC.refsP q c<;>cases AC.refsPL p r<;>cases AC.refsPL q r<;>rfl
end
omit [Tabs]in
mutual
theorem AC.refs_eq(k:Nat): ∀c:AC,c.refs k=c.refsP (fun j=>Nat.beq j k)
 | .d _=>rfl
 | .own j=>rfl
 | .ptr j _=>rfl
 | .elt j _ _ _=>rfl
 | .osl j _ _ _=>rfl
 | .pn j=>rfl
 | .ifo _ j=>rfl
 | .mpr j=>rfl
 | .fn _ fs cs=>by simp only [AC.refs,AC.refsP,AC.refsL_eq k fs,AC.refsL_eq k cs]
 | .junk=>rfl
theorem AC.refsL_eq(k:Nat): ∀c:List AC,AC.refsL k c=AC.refsPL (fun j=>Nat.beq j k) c
 | []=>rfl
 | c::r=>by simp only [AC.refsL,AC.refsPL,AC.refs_eq k c,AC.refsL_eq k r]
end
omit [Tabs]in
theorem AC.killP_killP(p q:Nat→Bool)(c:AC):(c.killP q).killP p=c.killP (fun j=>p j || q j):=by
 unfold AC.killP;rw [AC.refsP_or];cases h1:c.refsP q with
 | true=>simp [AC.refsP]
 | false=>simp
omit [Tabs]in
theorem AC.kill_eq(k:Nat)(c:AC):c.kill k=c.killP (fun j=>Nat.beq j k):=by unfold AC.kill AC.killP;rw [AC.refs_eq]
omit [Tabs]in
theorem AV.killPL_map(p:Nat→Bool)(l:List AV):AV.killPL p l=l.map (AV.killP p):=by
 induction l with
 | nil=>rfl
 | cons v r ih=>simp [AV.killPL,ih]
omit [Tabs]in
mutual
theorem AV.kill_eq(k:Nat): ∀v:AV,v.kill k=v.killP (fun j=>Nat.beq j k)
 | .cell c=>by simp only [AV.kill,AV.killP,AC.kill_eq]
 | .agg cs=>by
  simp only [AV.kill,AV.killP];congr 1;exact List.map_congr_left fun c _=>AC.kill_eq k c
 | .aggD cs=>rfl
 | .tup vs=>by simp only [AV.kill,AV.killP,AV.killL_eq' k vs]
 | .whn g w x=>by simp only [AV.kill,AV.killP,AV.kill_eq k x]
 | .junk=>rfl
theorem AV.killL_eq' (k:Nat): ∀v:List AV,AV.killL k v=AV.killPL (fun j=>Nat.beq j k) v
 | []=>rfl
 | v::r=>by simp only [AV.killL,AV.killPL,AV.kill_eq k v,AV.killL_eq' k r]
end
omit [Tabs]in
theorem AObj.kill_eq(k:Nat)(o:AObj):o.kill k=o.killP (fun j=>Nat.beq j k):=by
 cases o with
 | box cs=>
  simp only [AObj.kill,AObj.killP];congr 1;exact List.map_congr_left fun c _=>AC.kill_eq k c
 | _=>rfl
omit [Tabs]in
mutual
theorem AV.killP_killP(p q:Nat→Bool): ∀v:AV,(v.killP q).killP p=v.killP (fun j=>p j || q j)
 | .cell c=>by simp only [AV.killP,AC.killP_killP]
 | .agg cs=>by
  simp only [AV.killP,List.map_map];congr 1;exact List.map_congr_left fun c _=>AC.killP_killP p q c
 | .aggD cs=>rfl
 | .tup vs=>by simp only [AV.killP,AV.killPL_killPL p q vs]
 | .whn g w x=>by simp only [AV.killP,AV.killP_killP p q x]
 | .junk=>rfl
theorem AV.killPL_killPL(p q:Nat→Bool): ∀v:List AV,AV.killPL p (AV.killPL q v)=AV.killPL (fun j=>p j || q j) v
 | []=>rfl
 | v::r=>by simp only [AV.killPL,AV.killP_killP p q v,AV.killPL_killPL p q r]
end
omit [Tabs]in
theorem AObj.killP_killP(p q:Nat→Bool)(o:AObj):(o.killP q).killP p=o.killP (fun j=>p j || q j):=by
 cases o with
 | box cs=>
  simp only [AObj.killP,List.map_map];congr 1;exact List.map_congr_left fun c _=>AC.killP_killP p q c
 | _=>rfl
omit [Tabs]in
mutual
theorem AV.usesP_killP(p q:Nat→Bool): ∀v:AV,(v.killP p).usesP q=v.usesP q
 | .cell c=>rfl
 | .agg cs=>rfl
 | .aggD cs=>rfl
 | .tup vs=>by simp only [AV.killP,AV.usesP,AV.usesPL_killPL p q vs]
 | .whn g w x=>by simp only [AV.killP,AV.usesP,AV.usesP_killP p q x]
 | .junk=>rfl
theorem AV.usesPL_killPL(p q:Nat→Bool): ∀v:List AV,AV.usesPL q (AV.killPL p v)=AV.usesPL q v
 | []=>rfl
 | v::r=>by simp only [AV.killPL,AV.usesPL,AV.usesP_killP p q v,AV.usesPL_killPL p q r]
theorem AV.usesP_or(p q:Nat→Bool): ∀v:AV,v.usesP (fun j=>p j || q j)=(v.usesP p || v.usesP q)
 | .cell c=>rfl
 | .agg cs=>rfl
 | .aggD cs=>rfl
 | .tup vs=>by simp only [AV.usesP,AV.usesPL_or p q vs]
 | .whn g w x=>by
  simp only [AV.usesP,AV.usesP_or p q x];cases p g<;>cases q g<;>cases x.usesP p<;>cases x.usesP q<;>rfl
 | .junk=>rfl
theorem AV.usesPL_or(p q:Nat→Bool): ∀v:List AV,AV.usesPL (fun j=>p j || q j) v=(AV.usesPL p v || AV.usesPL q v)
 | []=>rfl
 | v::r=>by
  simp only [AV.usesPL,AV.usesP_or p q v,AV.usesPL_or p q r];cases AV.usesP p v<;>cases AV.usesP q v<;>cases AV.usesPL p r<;>cases AV.usesPL q r<;>rfl
theorem AV.uses_eq(d:Nat): ∀v:AV,v.uses d=v.usesP (fun j=>Nat.beq j d)
 | .cell c=>rfl
 | .agg cs=>rfl
 | .aggD cs=>rfl
 | .tup vs=>by simp only [AV.uses,AV.usesP,AV.usesL_eq d vs]
 | .whn g w x=>by simp only [AV.uses,AV.usesP,AV.uses_eq d x]
 | .junk=>rfl
theorem AV.usesL_eq(d:Nat): ∀v:List AV,AV.usesL d v=AV.usesPL (fun j=>Nat.beq j d) v
 | []=>rfl
 | v::r=>by simp only [AV.usesL,AV.usesPL,AV.uses_eq d v,AV.usesL_eq d r]
end
omit [Tabs]in
theorem AV.dropW_eq(d:Nat)(v:AV):v.dropW d=v.dropP (fun j=>Nat.beq j d):=by unfold AV.dropW AV.dropP;rw [AV.uses_eq]
omit [Tabs]in
theorem AV.dropP_dropP(p q:Nat→Bool)(v:AV):(v.dropP q).dropP p=v.dropP (fun j=>p j || q j):=by
 unfold AV.dropP;rw [AV.usesP_or];cases h1:v.usesP q with
 | true=>simp [AV.usesP]
 | false=>simp
omit [Tabs]in
theorem AV.killP_dropP(p q:Nat→Bool)(v:AV):(v.dropP q).killP p=(v.killP p).dropP q:=by
 unfold AV.dropP;rw [AV.usesP_killP];cases v.usesP q with
 | true=>rfl
 | false=>rfl
omit [Tabs]in
theorem c0u(p q:Nat→Bool):(fun j=>p j || q j)=fun j=>q j || p j:=by funext j;exact Bool.or_comm _ _
omit [Tabs]in
theorem j0v(p:Nat→Bool)(k:Nat)(h:p k=true):(fun j=>p j || Nat.beq j k)=p:=by
 funext j;cases hb:Nat.beq j k with
 | false=>simp
 | true=>rw [j2t hb,h];rfl
def FSt.strike(p q dk:Nat→Bool)(f:FSt):FSt:=
 ⟨fun i=>bif q i then .junk else((f.fr i).killP p).dropP q,fun j=>bif dk j then .gone else(f.ob j).killP p⟩
def Eff.inside(p q dk:Nat→Bool)(e:Eff):Bool:=
 match e with
 | .put d _=>q d
 | .new k _ d _=>q d&&p k&&dk k
 | .upd k _=>dk k
 | .upp k _ d _=>q d&&dk k
omit [Tabs]in
theorem b0z{p q dk:Nat→Bool}{e:Eff}(hu: ∀k o d x,e≠ .upp k o d x)(h:e.inside p q dk=true)(f:FSt):(e.appF f).strike p q dk=f.strike p q dk:=by
 cases e with
 | upp k o d x=>exact absurd rfl (hu k o d x)
 | put d x=>
  simp only [Eff.inside]at h;simp only [FSt.strike,Eff.appF,FSt.mk.injEq,and_true];funext i;cases hq:q i with
  | true=>rfl
  | false=>
   simp only [cond_false];have hne:i≠d:=fun e=>by rw [e,h]at hq;cases hq
   rw [if_neg hne,AV.dropW_eq,AV.killP_dropP,AV.dropP_dropP,j0v q d h]
 | new k o d x=>
  simp only [Eff.inside,j2s]at h;obtain⟨⟨h1,h2⟩,h3⟩:=h;simp only [FSt.strike,Eff.appF,FSt.mk.injEq];refine⟨?_, ?_⟩
  ·funext i
   cases hq:q i with
   | true=>rfl
   | false=>
    simp only [cond_false];have hne:i≠d:=fun e=>by rw [e,h1]at hq;cases hq
    rw [if_neg hne,AV.dropW_eq,AV.killP_dropP,AV.dropP_dropP,j0v q d h1,AV.kill_eq,AV.killP_killP,j0v p k h2]
  ·funext j
   cases hd:dk j with
   | true=>rfl
   | false=>
    simp only [cond_false];have hne:j≠k:=fun e=>by rw [e,h3]at hd;cases hd
    rw [if_neg hne,AObj.kill_eq,AObj.killP_killP,j0v p k h2]
 | upd k o=>
  simp only [Eff.inside]at h;simp only [FSt.strike,Eff.appF,FSt.mk.injEq,true_and];funext j;cases hd:dk j with
  | true=>rfl
  | false=>
   simp only [cond_false];have hne:j≠k:=fun e=>by rw [e,h]at hd;cases hd
   rw [if_neg hne]
omit [Tabs]in
theorem k0s{p q dk:Nat→Bool}{e:Eff}(h:e.inside p q dk=true)(f:FSt):(e.appF f).strike p q dk=f.strike p q dk:=by
 cases e with
 | upp k o d x=>
  simp only [Eff.inside,j2s]at h;rw [f0o,b0z (e:= .put d x) (fun _ _ _ _ e=>by cases e) h.1,b0z (e:= .upd k o) (fun _ _ _ _ e=>by cases e) h.2]
 | put d x=>exact b0z (fun _ _ _ _ e=>by cases e) h f
 | new k o d x=>exact b0z (fun _ _ _ _ e=>by cases e) h f
 | upd k o=>exact b0z (fun _ _ _ _ e=>by cases e) h f
omit [Tabs]in
theorem c0l{p q dk:Nat→Bool}(e:Eff)(hu: ∀k o d x,e≠ .upp k o d x){f f' :FSt}(h:f.strike p q dk=f'.strike p q dk):(e.appF f).strike p q dk=(e.appF f').strike p q dk:=by
 simp only [FSt.strike,FSt.mk.injEq]at h;obtain⟨h1,h2⟩:=h;have g1:=fun i=>congrFun h1 i;have g2:=fun j=>congrFun h2 j;have sw: ∀(v:AV) (d:Nat),(((v.dropW d).killP p).dropP q)=((v.killP p).dropP q).dropW d:=by
  intro v d;rw [AV.dropW_eq,AV.killP_dropP,AV.dropP_dropP,AV.dropW_eq,AV.dropP_dropP,c0u]
 have sk: ∀(v:AV) (k:Nat),(((v.kill k).killP p).dropP q)=((v.killP p).dropP q).kill k:=by
  intro v k;rw [AV.kill_eq,AV.killP_killP,AV.kill_eq,AV.killP_dropP,AV.killP_killP,c0u]
 have so: ∀(o:AObj) (k:Nat),((o.kill k).killP p)=(o.killP p).kill k:=by
  intro o k;rw [AObj.kill_eq,AObj.killP_killP,AObj.kill_eq,AObj.killP_killP,c0u]
 cases e with
 | upp k o d x=>exact absurd rfl (hu k o d x)
 | put d x=>
  simp only [FSt.strike,Eff.appF,FSt.mk.injEq];refine⟨?_,h2⟩;funext i;cases hq:q i with
  | true=>rfl
  | false=>
   simp only [cond_false];by_cases hi:i=d
   ·rw [if_pos hi,if_pos hi]
   ·have:=g1 i
    rw [hq,cond_false,cond_false]at this;rw [if_neg hi,if_neg hi,sw,sw,this]
 | new k o d x=>
  simp only [FSt.strike,Eff.appF,FSt.mk.injEq];refine⟨?_, ?_⟩
  ·funext i
   cases hq:q i with
   | true=>rfl
   | false=>
    simp only [cond_false];by_cases hi:i=d
    ·rw [if_pos hi,if_pos hi]
    ·have:=g1 i
     rw [hq,cond_false,cond_false]at this;rw [if_neg hi,if_neg hi,sw,sw,sk,sk,this]
  ·funext j
   cases hd:dk j with
   | true=>rfl
   | false=>
    simp only [cond_false];by_cases hj:j=k
    ·rw [if_pos hj,if_pos hj]
    ·have:=g2 j
     rw [hd,cond_false,cond_false]at this;rw [if_neg hj,if_neg hj,so,so,this]
 | upd k o=>
  simp only [FSt.strike,Eff.appF,FSt.mk.injEq];refine⟨h1, ?_⟩;funext j;cases hd:dk j with
  | true=>rfl
  | false=>
   simp only [cond_false];by_cases hj:j=k
   ·rw [if_pos hj,if_pos hj]
   ·have:=g2 j
    rw [hd,cond_false,cond_false]at this;rw [if_neg hj,if_neg hj,this]
omit [Tabs]in
theorem z0a{p q dk:Nat→Bool}(e:Eff){f f' :FSt}(h:f.strike p q dk=f'.strike p q dk):(e.appF f).strike p q dk=(e.appF f').strike p q dk:=by
 cases e with
 | upp k o d x=>exact c0l (.put d x) (fun _ _ _ _ e=>by cases e) (c0l (.upd k o) (fun _ _ _ _ e=>by cases e) h)
 | put d x=>exact c0l _ (fun _ _ _ _ e=>by cases e) h
 | new k o d x=>exact c0l _ (fun _ _ _ _ e=>by cases e) h
 | upd k o=>exact c0l _ (fun _ _ _ _ e=>by cases e) h
def ASt.weak(p q:Nat→Bool)(dk:List Nat)(f:Nat→AObj)(s:ASt):ASt:=
 {fr:=s.fr.map fun z=>(z.1,bif q z.1 then .junk else(z.2.killP p).dropP q),
  ob:=(dk.map fun k=>(k,f k))++s.ob.map fun z=>(z.1,z.2.killP p)}
omit [Tabs]in
theorem d1t(g:Nat→AV→AV)(hg: ∀i,g i .junk= .junk): ∀(fr:List (Nat×AV)) (i:Nat),lkF (fr.map fun z=>(z.1,g z.1 z.2)) i=g i (lkF fr i)
 | [],i=>(hg i).symm
 | (j,v)::r,i=>by
  simp only [k2l,lkF];cases hb:Nat.beq i j with
  | true=>rw [j2t hb];rfl
  | false=>simpa using d1t g hg r i
def memB(k:Nat):List Nat→Bool
 | []=>false
 | j::r=>Nat.beq k j || memB k r
omit [Tabs]in
theorem s0z(f:Nat→AObj)(r:List (Nat×AObj)): ∀(dk:List Nat) (k:Nat),lkO ((dk.map fun k=>(k,f k))++r) k=bif memB k dk then f k else lkO r k
 | [],k=>rfl
 | j::dk,k=>by
  simp only [k2l,List.cons_append,lkO,memB];cases hb:Nat.beq k j with
  | true=>rw [j2t hb];rfl
  | false=>simpa using s0z f r dk k
omit [Tabs]in
theorem z1a(p q:Nat→Bool)(dk:List Nat)(f:Nat→AObj)(s:ASt):(s.weak p q dk f).fn=
  ⟨fun i=>bif q i then .junk else((lkF s.fr i).killP p).dropP q,fun j=>bif memB j dk then f j else(lkO s.ob j).killP p⟩:=by
 simp only [ASt.fn,ASt.weak,FSt.mk.injEq];refine⟨?_, ?_⟩
 ·funext i
  rw [d1t (fun i v=>bif q i then .junk else(v.killP p).dropP q) (fun i=>by cases q i<;>simp [AV.killP,AV.dropP,AV.usesP])]
 ·funext j
  rw [s0z,d0i (AObj.killP p) rfl]
omit [Tabs]in
theorem RelAC.killP{w:World}{F:Nat→Prop}{ρ:Env}{x:AC}{v:Value}(p:Nat→Bool)(h:RelAC w F ρ x v):RelAC w F ρ (x.killP p) v:=by
 unfold AC.killP;cases x.refsP p with
 | true=>exact .junk v
 | false=>exact h
omit [Tabs]in
theorem RelAV.killP{w:World}{F:Nat→Prop}{ρ:Env}{tm:Array Value}{x:AV}{v:Value}(p:Nat→Bool)(h:RelAV w F ρ tm x v):RelAV w F ρ tm (x.killP p) v:=by
 induction h with
 | cell c v h=>exact .cell _ v (h.killP p)
 | agg cs arr hz h=>
  simp only [AV.killP];exact .agg _ arr (by simpa using hz) fun i hi=>by simpa using(h i (by simpa using hi)).killP p
 | aggD cs arr hz h=>exact .aggD cs arr hz h
 | tup vs arr hz h ih=>
  simp only [AV.killP,AV.killPL_map];exact .tup _ arr (by simpa using hz) fun i hi=>by simpa using ih i (by simpa using hi)
 | whn g want x v h h' ih=>exact .whn g want _ v ih h'
 | junk v=>exact .junk v
omit [Tabs]in
theorem RelAV.dropP{w:World}{F:Nat→Prop}{ρ:Env}{tm:Array Value}{x:AV}{v:Value}(q:Nat→Bool)(h:RelAV w F ρ tm x v):RelAV w F ρ tm (x.dropP q) v:=by
 unfold AV.dropP;cases x.usesP q with
 | true=>exact .junk v
 | false=>exact h
omit [Tabs]in
theorem RelOb.killP{w:World}{F:Nat→Prop}{ρ:Env}{k:Nat}{x:AObj}(p:Nat→Bool)(h:RelOb w F ρ k x):RelOb w F ρ k (x.killP p):=by
 induction h with
 | gone h=>exact .gone h
 | na t ee xs h ih=>exact .na t ee xs ih
 | any o h ih=>exact .any _ ih
 | box cs oty b c t hoty hk hb hs h=>exact .box _ _ b c t hoty hk hb (by simpa using hs) fun i hi=>by simpa using(h i (by simpa using hi)).killP p
 | arr t ee n cs u xs hk hown hs h=>exact .arr t ee n cs u xs hk hown hs h
 | tab b o hk hF hb=>exact .tab b o hk hF hb
 | it s pos b hk hb=>exact .it s pos b hk hb
 | mi kt vt l cur b mo si se la hk hb hm=>exact .mi kt vt l cur b mo si se la hk hb hm
 | mp t kt vt l b es c hk hb hs h dn hd=>exact .mp t kt vt l b es c hk hb hs h dn hd
section
variable{P:Program}{N:Nat}{ops:Array Oper}{Q:Exit→ASt→Prop}{st st' :ASt}{l:List Nat}
theorem IEff.lift{p q:Nat→Bool}{dk:List Nat}{i:Nat}{e:Eff}{s s0:ASt}(h: ∀f,IEff P N ops i (s0.weak p q dk f) e)
  (hs:s.fn.strike p q (memB · dk)=s0.fn.strike p q (memB · dk)):IEff P N ops i s e:=by
 intro F ρ a w hr K R k;have hwk:Rel N F ρ (s0.weak p q dk (lkO s.ob)) a w:=by
  simp only [FSt.strike,ASt.fn,FSt.mk.injEq]at hs;have hf:=z1a p q dk (lkO s.ob) s0;simp only [ASt.fn,FSt.mk.injEq]at hf;refine⟨hr.rw,fun i=> ?_,fun j=> ?_,hr.sz,hr.df⟩
  ·have hfi:=congrFun hf.1 i
   have e1:=congrFun hs.1 i;rw [hfi, ←e1];cases q i with
   | true=>exact .junk _
   | false=>exact((hr.fr i).killP p).dropP q
  ·have hfj:=congrFun hf.2 j
   have:=congrFun hs.2 j;rw [hfj];cases hm:memB j dk with
   | true=>exact hr.ob j
   | false=>
    rw [hm,cond_false,cond_false]at this;rw [cond_false, ←this];exact(hr.ob j).killP p
 refine h (lkO s.ob) F ρ a w hwk K R fun v w' F' ρ' hr' hf ht=>k v w' F' ρ' ?_ hf ht;have hF: ∀b,F b→w'.heap[b]? =w.heap[b]? :=fun b hb=>hf.keep b (hr.rw.lt b hb) (hr.rw.dis b hb);have oth: ∀j,e.touch≠some j→∀l b,ρ j=some l→l.blk=some b→w'.heap[b]? =w.heap[b]? :=fun j hj l b hl hb=>
  ht.keep b ((hr.ob j).lt hl hb) fun k' l' hk' hl' hb' =>hj (by rw [hk',hr.rw.inj _ _ _ _ b hl hl' hb hb'])
 refine⟨hr'.rw,fun i=> ?_,fun j=> ?_,hr'.sz,hr'.df⟩
 ·have h1:=hr'.fr i
  have h0:=hr.fr i;cases e with
  | put d x=>
   have hρ:ρ' =ρ:=by funext j;exact ht.off j (by simp [Eff.key])
   subst hρ;rw [b0s]at h1;rw [b0s];simp only [Eff.appF,Eff.dst,Act.put]at h1⊢;by_cases hi:i=d
   ·rw [if_pos hi]at h1⊢
    exact h1
   ·rw [if_neg hi,a0m _ _ _ _ _ hi]
    exact(h0.mono hF hf.sub fun _ _ h=>h).dropW
  | new kk o d x=>
   rw [b0s]at h1;rw [b0s];simp only [Eff.appF,Eff.dst,Act.put]at h1⊢;by_cases hi:i=d
   ·rw [if_pos hi]at h1⊢
    exact h1
   ·rw [if_neg hi,a0m _ _ _ _ _ hi]
    have hoff:offK kk ρ ρ' :=fun j hj=>ht.off j (by simp only [Eff.key,ne_eq,j2v];exact fun e=>hj e.symm);exact((h0.kill hoff).mono hF hf.sub fun _ _ h=>h).dropW
  | upd kk o=>
   have hρ:ρ' =ρ:=by funext j;exact ht.off j (by simp [Eff.key])
   subst hρ;rw [b0s];simp only [Eff.appF,Eff.dst,Act.put];exact h0.mono hF hf.sub fun _ _ h=>h
  | upp kk o d x=>
   have hρ:ρ' =ρ:=by funext j;exact ht.off j (by simp [Eff.key])
   subst hρ;rw [b0s]at h1;rw [b0s];simp only [Eff.appF,Eff.dst,Act.put]at h1⊢;by_cases hi:i=d
   ·rw [if_pos hi]at h1⊢
    exact h1
   ·rw [if_neg hi,a0m _ _ _ _ _ hi]
    exact(h0.mono hF hf.sub fun _ _ h=>h).dropW
 ·have h1:=hr'.ob j
  have h0:=hr.ob j;rw [g0d]at h1;rw [g0d];cases e with
  | put d x=>
   have hρ:ρ' =ρ:=by funext j;exact ht.off j (by simp [Eff.key])
   subst hρ;simp only [Eff.appF];exact h0.through hF hf.sub (oth j (by simp [Eff.touch]))
  | new kk o d x=>
   simp only [Eff.appF]at h1⊢;by_cases hj:j=kk
   ·rw [if_pos hj]at h1⊢
    exact h1
   ·rw [if_neg hj]
    have hoff:offK kk ρ ρ' :=fun j hj=>ht.off j (by simp only [Eff.key,ne_eq,j2v];exact fun e=>hj e.symm);have h2:=h0.kill hoff hj;refine h2.through hF hf.sub fun l b hl hb=>oth j (by simp only [Eff.touch,ne_eq,j2v];exact fun e=>hj e.symm) l b ?_ hb;rw [←hoff j hj];exact hl
  | upd kk o=>
   have hρ:ρ' =ρ:=by funext j;exact ht.off j (by simp [Eff.key])
   subst hρ;simp only [Eff.appF]at h1⊢;by_cases hj:j=kk
   ·rw [if_pos hj]at h1⊢
    exact h1
   ·rw [if_neg hj]
    exact h0.through hF hf.sub (oth j (by simp only [Eff.touch,ne_eq,j2v];exact fun e=>hj e.symm))
  | upp kk o d x=>
   have hρ:ρ' =ρ:=by funext j;exact ht.off j (by simp [Eff.key])
   subst hρ;simp only [Eff.appF]at h1⊢;by_cases hj:j=kk
   ·rw [if_pos hj]at h1⊢
    exact h1
   ·rw [if_neg hj]
    exact h0.through hF hf.sub (oth j (by simp only [Eff.touch,ne_eq,j2v];exact fun e=>hj e.symm))
end
end Esp
namespace Esp
open Go
set_option linter.unusedSimpArgs false
set_option linter.unusedVariables false
variable [Tabs]
mutual
def AV.hasRef(k:Nat):AV→Bool
 | .cell c=>c.refs k
 | .agg cs=>cs.any (AC.refs k)
 | .aggD _=>false
 | .tup vs=>AV.hasRefL k vs
 | .whn _ _ x=>AV.hasRef k x
 | .junk=>false
def AV.hasRefL(k:Nat):List AV→Bool
 | []=>false
 | v::r=>AV.hasRef k v || AV.hasRefL k r
end
def AObj.hasRef(k:Nat):AObj→Bool
 | .box cs _=>cs.any (AC.refs k)
 | _=>false
omit [Tabs]in
theorem AC.kill_noref{k:Nat}{c:AC}(h:c.refs k=false):c.kill k=c:=by unfold AC.kill;rw [h];rfl
omit [Tabs]in
theorem o0g{k:Nat}: ∀{cs:List AC},cs.any (AC.refs k)=false→cs.map (AC.kill k)=cs
 | [],_=>rfl
 | c::r,h=>by
  simp only [List.any_cons,k2c]at h;rw [k2l,AC.kill_noref h.1,o0g h.2]
omit [Tabs]in
mutual
theorem AV.kill_noref(k:Nat): ∀v:AV,v.hasRef k=false→v.kill k=v
 | .cell c,h=>by simp only [AV.kill,AC.kill_noref (show c.refs k=false from h)]
 | .agg cs,h=>by simp only [AV.kill,o0g (show cs.any (AC.refs k)=false from h)]
 | .aggD cs,_=>rfl
 | .tup vs,h=>by simp only [AV.kill,AV.killL_noref k vs h]
 | .whn g w x,h=>by simp only [AV.kill,AV.kill_noref k x h]
 | .junk,_=>rfl
theorem AV.killL_noref(k:Nat): ∀v:List AV,AV.hasRefL k v=false→AV.killL k v=v
 | [],_=>rfl
 | v::r,h=>by
  simp only [AV.hasRefL,k2c]at h;simp only [AV.killL,AV.kill_noref k v h.1,AV.killL_noref k r h.2]
end
omit [Tabs]in
theorem AObj.kill_noref{k:Nat}{o:AObj}(h:o.hasRef k=false):o.kill k=o:=by
 cases o with
 | box cs=>simp only [AObj.kill,o0g (show cs.any (AC.refs k)=false from h)]
 | _=>rfl
omit [Tabs]in
theorem AV.dropW_nouse{d:Nat}{v:AV}(h:v.uses d=false):v.dropW d=v:=by unfold AV.dropW;rw [h];rfl
omit [Tabs]in
theorem AV.dropW_comm(d e:Nat)(v:AV):(v.dropW d).dropW e=(v.dropW e).dropW d:=by
 rw [AV.dropW_eq,AV.dropW_eq,AV.dropW_eq,AV.dropW_eq,AV.dropP_dropP,AV.dropP_dropP,c0u]
omit [Tabs]in
theorem AV.kill_comm(d e:Nat)(v:AV):(v.kill d).kill e=(v.kill e).kill d:=by
 rw [AV.kill_eq,AV.kill_eq,AV.kill_eq,AV.kill_eq,AV.killP_killP,AV.killP_killP,c0u]
omit [Tabs]in
theorem AObj.kill_comm(d e:Nat)(v:AObj):(v.kill d).kill e=(v.kill e).kill d:=by
 rw [AObj.kill_eq,AObj.kill_eq,AObj.kill_eq,AObj.kill_eq,AObj.killP_killP,AObj.killP_killP,c0u]
omit [Tabs]in
theorem AV.kill_dropW(k d:Nat)(v:AV):(v.dropW d).kill k=(v.kill k).dropW d:=by
 rw [AV.kill_eq,AV.dropW_eq,AV.kill_eq,AV.dropW_eq,AV.killP_dropP]
def b0y:Eff→Eff→Bool
 | .put d x, .put d' x' => !Nat.beq d d' && !x.uses d' && !x'.uses d
 | .put d x, .new k _ d' x' => !Nat.beq d d' && !x.uses d' && !x'.uses d&& !x.hasRef k
 | .new k _ d' x', .put d x=> !Nat.beq d d' && !x.uses d' && !x'.uses d&& !x.hasRef k
 | .new k o d x, .new k' o' d' x' => !Nat.beq d d' && !Nat.beq k k' && !x.uses d' && !x'.uses d&& !x.hasRef k' && !x'.hasRef k&& !o.hasRef k' && !o'.hasRef k
 | .put _ _, .upd _ _=>true
 | .upd _ _, .put _ _=>true
 | .upd k o, .new k' _ _ _=> !Nat.beq k k' && !o.hasRef k'
 | .new k' _ _ _, .upd k o=> !Nat.beq k k' && !o.hasRef k'
 | .upd k _, .upd k' _=> !Nat.beq k k'
 | _,_=>false
def h1d:Eff→Eff→Bool
 | .upp k o d x, .upp k' o' d' x' =>b0y (.upd k o) (.upd k' o')&&b0y (.upd k o) (.put d' x')&& (b0y (.put d x) (.upd k' o')&&b0y (.put d x) (.put d' x'))
 | .upp k o d x,e=>b0y (.upd k o) e&&b0y (.put d x) e
 | e, .upp k o d x=>b0y e (.upd k o)&&b0y e (.put d x)
 | e,e' =>b0y e e'
omit [Tabs]in
theorem m0v{d d' k:Nat}{x x' :AV}{o:AObj}(h:(!Nat.beq d d' && !x.uses d' && !x'.uses d&& !x.hasRef k)=true)(f:FSt):
  (Eff.new k o d' x').appF ((Eff.put d x).appF f)=(Eff.put d x).appF ((Eff.new k o d' x').appF f):=by
 simp only [j2s,l2l]at h;obtain⟨⟨⟨h1,h2⟩,h3⟩,h4⟩:=h;have hne:=k2p h1;simp only [Eff.appF,FSt.mk.injEq,and_true];funext i;by_cases e1:i=d'
 ·subst e1
  rw [if_pos rfl,if_neg (fun e=>hne e.symm),if_pos rfl,AV.dropW_nouse h3]
 ·rw [if_neg e1]
  by_cases e2:i=d
  ·subst e2
   rw [if_pos rfl,if_pos rfl,AV.kill_noref k x h4,AV.dropW_nouse h2]
  ·rw [if_neg e2,if_neg e2,if_neg e1,AV.kill_dropW,AV.dropW_comm]
omit [Tabs]in
theorem n0a{k k' d' :Nat}{x' :AV}{o o' :AObj}(h:(!Nat.beq k k' && !o.hasRef k')=true)(f:FSt):
  (Eff.new k' o' d' x').appF ((Eff.upd k o).appF f)=(Eff.upd k o).appF ((Eff.new k' o' d' x').appF f):=by
 simp only [j2s,l2l]at h;have hne:=k2p h.1;simp only [Eff.appF,FSt.mk.injEq,true_and];funext j;by_cases e1:j=k'
 ·subst e1
  rw [if_pos rfl,if_neg (fun e=>hne e.symm),if_pos rfl]
 ·rw [if_neg e1]
  by_cases e2:j=k
  ·subst e2
   rw [if_pos rfl,if_pos rfl,AObj.kill_noref h.2]
  ·rw [if_neg e2,if_neg e2,if_neg e1]
omit [Tabs]in
theorem d0x{e e' :Eff}(h:b0y e e' =true)(f:FSt):e'.appF (e.appF f)=e.appF (e'.appF f):=by
 cases e with
 | put d x=>
  cases e' with
  | put d' x' =>
   simp only [b0y,j2s,l2l]at h;obtain⟨⟨h1,h2⟩,h3⟩:=h;have hne:=k2p h1;simp only [Eff.appF,FSt.mk.injEq,and_true];funext i;by_cases e1:i=d'
   ·subst e1
    rw [if_pos rfl,if_neg (fun e=>hne e.symm),if_pos rfl,AV.dropW_nouse h3]
   ·rw [if_neg e1]
    by_cases e2:i=d
    ·subst e2
     rw [if_pos rfl,if_pos rfl,AV.dropW_nouse h2]
    ·rw [if_neg e2,if_neg e2,if_neg e1,AV.dropW_comm]
  | new k o d' x' =>exact m0v h f
  | upd k o=>rfl
  | upp k o d x=>simp [b0y]at h
 | new k o d x=>
  cases e' with
  | put d' x' =>exact(m0v h f).symm
  | new k' o' d' x' =>
   simp only [b0y,j2s,l2l]at h;obtain⟨⟨⟨⟨⟨⟨⟨h1,h2⟩,h3⟩,h4⟩,h5⟩,h6⟩,h7⟩,h8⟩:=h;have hne:=k2p h1;have hnk:=k2p h2;simp only [Eff.appF,FSt.mk.injEq];refine⟨?_, ?_⟩
   ·funext i
    by_cases e1:i=d'
    ·subst e1
     rw [if_pos rfl,if_neg (fun e=>hne e.symm),if_pos rfl,AV.kill_noref k x' h6,AV.dropW_nouse h4]
    ·rw [if_neg e1]
     by_cases e2:i=d
     ·subst e2
      rw [if_pos rfl,if_pos rfl,AV.kill_noref k' x h5,AV.dropW_nouse h3]
     ·rw [if_neg e2,if_neg e2,if_neg e1,AV.kill_dropW,AV.kill_dropW,AV.dropW_comm,AV.kill_comm]
   ·funext j
    by_cases e1:j=k'
    ·subst e1
     rw [if_pos rfl,if_neg (fun e=>hnk e.symm),if_pos rfl,AObj.kill_noref h8]
    ·rw [if_neg e1]
     by_cases e2:j=k
     ·subst e2
      rw [if_pos rfl,if_pos rfl,AObj.kill_noref h7]
     ·rw [if_neg e2,if_neg e2,if_neg e1,AObj.kill_comm]
  | upd k' o' =>exact(n0a h f).symm
  | upp k o d x=>simp [b0y]at h
 | upd k o=>
  cases e' with
  | put d' x' =>rfl
  | new k' o' d' x' =>exact n0a h f
  | upd k' o' =>
   simp only [b0y,l2l]at h;have hnk:=k2p h;simp only [Eff.appF,FSt.mk.injEq,true_and];funext j;by_cases e1:j=k'
   ·subst e1
    rw [if_pos rfl,if_neg (fun e=>hnk e.symm),if_pos rfl]
   ·rw [if_neg e1]
    by_cases e2:j=k
    ·rw [if_pos e2,if_pos e2]
    ·rw [if_neg e2,if_neg e2,if_neg e1]
  | upp k o d x=>simp [b0y]at h
 | upp k o d x=>cases e' <;>simp [b0y]at h
omit [Tabs]in
theorem g1s{e e' :Eff}(h:h1d e e' =true)(f:FSt):e'.appF (e.appF f)=e.appF (e'.appF f):=by
 have two: ∀{k:Nat} {o:AObj} {d:Tmp} {x:AV} {e:Eff},b0y (.upd k o) e=true→b0y (.put d x) e=true→∀f,e.appF ((Eff.upp k o d x).appF f)=(Eff.upp k o d x).appF (e.appF f):=by
  intro k o d x e h1 h2 f;rw [f0o,d0x h2,d0x h1, ←f0o]
 have two' : ∀{k:Nat} {o:AObj} {d:Tmp} {x:AV} {e:Eff},b0y e (.upd k o)=true→b0y e (.put d x)=true→∀f,(Eff.upp k o d x).appF (e.appF f)=e.appF ((Eff.upp k o d x).appF f):=by
  intro k o d x e h1 h2 f;rw [f0o,d0x h1,d0x h2, ←f0o]
 unfold h1d at h;split at h
 ·rename_i k o d x k' o' d' x'
  simp only [j2s]at h;have q1:=two' (k:=k') (o:=o') (d:=d') (x:=x') h.1.1 h.1.2;have q2:=two' (k:=k') (o:=o') (d:=d') (x:=x') h.2.1 h.2.2;rw [f0o k o,q2,q1, ←f0o]
 ·simp only [j2s]at h
  exact two h.1 h.2 f
 ·simp only [j2s]at h
  exact two' h.1 h.2 f
 ·exact d0x h f
def orD(bs:List Nat)(es:List Edge):Nat:=
 match es with
 | []=>0
 | e::r=>bif Region.binds .any e then 2 ^ e.on ||| bs.getD e.on 0 ||| orD bs r else orD bs r
def q1b(i:Nat)(es:List Edge):Bool:=es.all fun e=> !Region.binds .any e || Nat.blt e.on i
def y0u(bs:List Nat):Nat→List Oper→Bool
 | _, []=>true
 | i,o::r=>Nat.beq (bs.getD i 0) (orD bs o.after.toList)&&q1b i o.after.toList&&y0u bs (i+1) r
omit [Tabs]in
theorem g0o{bs:List Nat}: ∀{l:List Oper} {s:Nat},y0u bs s l=true→∀i o,l[i]? =some o→bs.getD (s+i) 0=orD bs o.after.toList∧q1b (s+i) o.after.toList=true
 | [],s,_,i,o,ho=>by simp at ho
 | x::r,s,h,i,o,ho=>by
  simp only [y0u,j2s]at h;cases i with
  | zero=>
   simp only [m2c,j2v]at ho;subst ho;exact⟨j2t h.1.1,h.1.2⟩
  | succ i=>
   have:=g0o h.2 i o (by simpa using ho);rwa [show s+(i+1)=s+1+i by omega]
omit [Tabs]in
theorem u0j{bs:List Nat}{j:Nat}: ∀{es:List Edge},(orD bs es).testBit j=true→∃e∈es,Region.binds .any e=true∧(e.on=j∨(bs.getD e.on 0).testBit j=true)
 | [],h=>by simp [orD]at h
 | e::r,h=>by
  simp only [orD]at h;cases hb:Region.binds .any e with
  | false=>
   rw [hb,cond_false]at h;obtain⟨e',he',h'⟩:=u0j h;exact⟨e',l2c _ he',h'⟩
  | true=>
   rw [hb,cond_true]at h;simp only [Nat.testBit_or,m2g]at h;rcases h with(h | h) | h
   ·refine⟨e,List.mem_cons_self,hb, .inl ?_⟩
    rw [Nat.testBit_two_pow]at h;exact of_decide_eq_true h
   ·exact⟨e,List.mem_cons_self,hb, .inr h⟩
   ·obtain⟨e',he',h'⟩:=u0j h
    exact⟨e',l2c _ he',h'⟩
section
variable{ops:Array Oper}{bs:List Nat}
omit [Tabs]in
theorem o1c(hb:y0u bs 0 ops.toList=true): ∀(i:Nat),i<ops.size→∀j,(bs.getD i 0).testBit j=true→j<i:=by
 intro i
 induction i using Nat.strongRecOn with
 | _ i ih=>
  intro hi j hj;have ho:ops.toList[i]? =some ops[i]:=by simp [hi]
  obtain⟨h1,h2⟩:=g0o hb i _ ho;simp only [l2b]at h1 h2;rw [h1]at hj;obtain⟨e,he,hbd,h⟩:=u0j hj;have hlt:e.on<i:=by
   have:=k2f.1 h2 e he;rw [hbd]at this;exact a0j (by simpa using this)
  rcases h with rfl | h
  ·exact hlt
  ·exact Nat.lt_trans (ih _ hlt (by omega) j h) hlt
def n0c(ops:Array Oper)(L:Nat→Bool)(i:Nat):Prop:=∀o,ops[i]? =some o→∀e∈o.after.toList,Region.binds .any e=true→L e.on=true
omit [Tabs]in
theorem f0w(hb:y0u bs 0 ops.toList=true){L:Nat→Bool}(hL: ∀i,i<ops.size→L i=true→n0c ops L i): ∀(i:Nat),i<ops.size→n0c ops L i→∀j,(bs.getD i 0).testBit j=true→L j=true:=by
 intro i
 induction i using Nat.strongRecOn with
 | _ i ih=>
  intro hi hw j hj;have ho:ops.toList[i]? =some ops[i]:=by simp [hi]
  obtain⟨h1,h2⟩:=g0o hb i _ ho;simp only [l2b]at h1 h2;rw [h1]at hj;obtain⟨e,he,hbd,h⟩:=u0j hj;have hlt:e.on<i:=by
   have:=k2f.1 h2 e he;rw [hbd]at this;exact a0j (by simpa using this)
  have hl:L e.on=true:=hw ops[i] (by simp [hi]) e he hbd;rcases h with rfl | h
  ·exact hl
  ·exact ih _ hlt (by omega) (hL _ (by omega) hl) j h
end
def ub(bs:List Nat)(i j:Nat):Bool:= !Nat.beq i j&& !(bs.getD i 0).testBit j&& !(bs.getD j 0).testBit i
def c0t(L:Nat→Bool):Nat→List Eff→FSt→FSt
 | _, [],f=>f
 | i,e::r,f=>c0t L (i+1) r (bif L i then e.appF f else f)
def k0h(L:Nat→Bool):Nat→List Eff→ASt→ASt
 | _, [],s=>s
 | i,e::r,s=>k0h L (i+1) r (bif L i then e.app s else s)
omit [Tabs]in
theorem t0y(L:Nat→Bool): ∀(r:List Eff) (i:Nat) (s:ASt),(k0h L i r s).fn=c0t L i r s.fn
 | [],_,_=>rfl
 | e::r,i,s=>by
  simp only [k0h,c0t];rw [t0y L r];cases L i with
  | true=>rw [cond_true,cond_true,f1n]
  | false=>rfl
omit [Tabs]in
theorem o0f(L L' :Nat→Bool): ∀(r:List Eff) (i:Nat) (f:FSt),(∀j,i≤j→L j=L' j)→c0t L i r f=c0t L' i r f
 | [],_,_,_=>rfl
 | e::r,i,f,h=>by
  simp only [c0t];rw [h i (k2h _),o0f L L' r (i+1) _ fun j hj=>h j (by omega)]
omit [Tabs]in
theorem m0m{p q dk:Nat→Bool}(L L' :Nat→Bool): ∀(r:List Eff) (i:Nat) (f f' :FSt),(∀j e,r[j]? =some e→e.inside p q dk=true∨L (i+j)=L' (i+j))→f.strike p q dk=f'.strike p q dk→
  (c0t L i r f).strike p q dk=(c0t L' i r f').strike p q dk
 | [],_,_,_,_,h=>h
 | e::r,i,f,f',hh,h=>by
  simp only [c0t];refine m0m L L' r (i+1) _ _ (fun j e' he' => ?_) ?_
  ·have:=hh (j+1) e' (by simpa using he')
   rwa [show i+(j+1)=i+1+j by omega]at this
  ·rcases hh 0 e rfl with hin | he
   ·have e1:=k0s hin f
    have e2:=k0s hin f';cases L i<;>cases L' i<;>simp only [cond_true,cond_false]
    ·exact h
    ·exact h.trans e2.symm
    ·exact e1.trans h
    ·exact(e1.trans h).trans e2.symm
   ·simp only [m2p]at he
    rw [he];cases L' i with
    | true=>exact z0a e h
    | false=>exact h
omit [Tabs]in
theorem m0d(L:Nat→Bool)(e:Eff): ∀(r:List Eff) (i:Nat) (f:FSt),(∀j e',r[j]? =some e' →L (i+j)=true→h1d e e' =true)→c0t L i r (e.appF f)=e.appF (c0t L i r f)
 | [],_,_,_=>rfl
 | e' ::r,i,f,h=>by
  simp only [c0t];have hr: ∀j e'',r[j]? =some e'' →L (i+1+j)=true→h1d e e'' =true:=fun j e'' he hl=>h (j+1) e'' (by simpa using he) (by rwa [show i+(j+1)=i+1+j by omega]);cases hl:L i with
  | true=>
   simp only [cond_true];rw [g1s (h 0 e' rfl (by simpa using hl)),m0d L e r (i+1) _ hr]
  | false=>
   simp only [cond_false];exact m0d L e r (i+1) _ hr
omit [Tabs]in
theorem q0s(L L' :Nat→Bool)(e:Eff): ∀(r:List Eff) (s m:Nat) (f:FSt),r[m]? =some e→L (s+m)=false→L' (s+m)=true→(∀j,j≠s+m→L' j=L j)→
  (∀j e',m<j→r[j]? =some e' →L (s+j)=true→h1d e e' =true)→c0t L' s r f=e.appF (c0t L s r f)
 | [],s,m,f,h,_,_,_,_=>by simp at h
 | e0::r,s,0,f,h,h1,h2,h3,h4=>by
  simp only [m2c,j2v]at h;subst h;simp only [m2p]at h1 h2 h3;simp only [c0t,h1,h2,cond_true,cond_false];rw [o0f L' L r (s+1) _ fun j hj=>h3 j (by omega)];exact m0d L e0 r (s+1) f fun j e' he hl=>h4 (j+1) e' (by omega) (by simpa using he) (by rwa [show s+(j+1)=s+1+j by omega])
 | e0::r,s,m+1,f,h,h1,h2,h3,h4=>by
  simp only [c0t];rw [h3 s (by omega)];refine q0s L L' e r (s+1) m _ (by simpa using h) (by rwa [show s+1+m=s+(m+1)by omega]) (by rwa [show s+1+m=s+(m+1)by omega]) (fun j hj=>h3 j (by omega)) fun j e' hj he hl=> ?_;exact h4 (j+1) e' (by omega) (by simpa using he) (by rwa [show s+(j+1)=s+1+j by omega])
def c0g(bs:List Nat)(i:Nat):Nat→List Eff→List Eff
 | _, []=> []
 | j,e::r=>bif ub bs i j then e::c0g bs i (j+1) r else c0g bs i (j+1) r
def k0y(es:List Eff)(k:Nat):Bool:=es.any fun e=>match e with | .new j _ _ _=>Nat.beq k j | _=>false
def k0u(es:List Eff)(d:Nat):Bool:=es.any fun e=>match e with | .new _ _ j _=>Nat.beq d j | .put j _=>Nat.beq d j | .upp _ _ j _=>Nat.beq d j | _=>false
def tchs:List Eff→List Nat
 | []=> []
 | .put _ _::r=>tchs r
 | .new k _ _ _::r=>k::tchs r
 | .upd k _::r=>k::tchs r
 | .upp k _ _ _::r=>k::tchs r
omit [Tabs]in
theorem r0v(bs:List Nat)(i:Nat): ∀(r:List Eff) (s j:Nat) (e:Eff),r[j]? =some e→ub bs i (s+j)=true→e∈c0g bs i s r
 | [],s,j,e,h,_=>by simp at h
 | e0::r,s,0,e,h,hu=>by
  simp only [m2c,j2v]at h;subst h;simp only [m2p]at hu;simp [c0g,hu]
 | e0::r,s,j+1,e,h,hu=>by
  have:=r0v bs i r (s+1) j e (by simpa using h) (by rwa [show s+1+j=s+(j+1)by omega]);simp only [c0g];cases ub bs i s with
  | true=>exact l2c _ this
  | false=>exact this
omit [Tabs]in
theorem n0n: ∀{es:List Eff} {e:Eff},e∈es→∀k,e.touch=some k→memB k (tchs es)=true
 | e0::r,e,h,k,hk=>by
  rcases k2b.1 h with rfl | h
  ·cases e with
   | put d x=>cases hk
   | new k' o d x=>cases hk;simp [tchs,memB]
   | upd k' o=>cases hk;simp [tchs,memB]
   | upp k' o d x=>cases hk;simp [tchs,memB]
  ·have:=n0n h k hk
   cases e0 with
   | put d x=>exact this
   | new k' o d x=>simp [tchs,memB,this]
   | upd k' o=>simp [tchs,memB,this]
   | upp k' o d x=>simp [tchs,memB,this]
omit [Tabs]in
theorem s0p{es:List Eff}{e:Eff}(h:e∈es):e.inside (k0y es) (k0u es) (memB · (tchs es))=true:=by
 cases e with
 | put d x=>exact List.any_eq_true.2 ⟨_,h,by simp⟩
 | new k o d x=>
  simp only [Eff.inside,j2s];exact⟨⟨List.any_eq_true.2 ⟨_,h,by simp⟩,List.any_eq_true.2 ⟨_,h,by simp⟩⟩,n0n h k rfl⟩
 | upd k o=>exact n0n h k rfl
 | upp k o d x=>
  simp only [Eff.inside,j2s];exact⟨List.any_eq_true.2 ⟨_,h,by simp⟩,n0n h k rfl⟩
def e1u(bs:List Nat)(effs:List Eff)(st:ASt)(i:Nat)(f:Nat→AObj):ASt:=
 (k0h (Nat.blt · i) 0 effs st).weak (k0y (c0g bs i 0 effs)) (k0u (c0g bs i 0 effs)) (tchs (c0g bs i 0 effs)) f
def a1q(bs:List Nat)(effs:List Eff):Bool:=
 (List.range effs.length).all fun i=>(List.range effs.length).all fun j=> !(Nat.blt i j&&ub bs i j) || (match effs[i]?,effs[j]? with | some e,some e' =>h1d e e' | _,_=>true)
def m1f(bs fl:List Nat)(m n:Nat):Bool:=(List.range (n - m)).all fun d=>(List.range (m+d)).all fun i=>(bs.getD (m+d) 0).testBit i || memB i fl
omit [Tabs]in
theorem u0l{x:Nat}: ∀{l:List Nat},memB x l=true→x∈l
 | y::r,h=>by
  simp only [memB,m2g]at h;rcases h with h | h
  ·rw [j2t h];simp
  ·exact l2c _ (u0l h)
omit [Tabs]in
theorem m1r{x:Nat}: ∀{l:List Nat},x∈l→memB x l=true
 | y::r,h=>by
  simp only [memB,m2g];rcases k2b.1 h with rfl | h
  ·exact .inl (m2n _)
  ·exact .inr (m1r h)
def t1q(ops:Array Oper)(m:Nat)(fl:List Nat):Bool:=
 Region.noSelect ops&&fl.all fun i=>Nat.blt i m&& (match ops[i]? with
  | some o=>(match o.op with | .move _ | .assign _=>true | _=>false)&&o.guard.isNone&&o.after.all (fun e=> !Region.binds .any e)
  | none=>false)&&Region.free .any ops (Array.replicate ops.size false) i
omit [Tabs]in
theorem w0g{P:Program}{ops:Array Oper}{o:Oper}{a:Act}(h:(match o.op with | .move _ | .assign _=>true | _=>false)=true)(hg:o.guard.isNone=true): ∃v,Yields P ops o v a:=by
 have hw:Region.wanted o (yielded ops a.tmps)=true:=by
  unfold Region.wanted;rw [Option.isNone_iff_eq_none.1 hg]
 split at h
 ·rename_i x hx
  exact⟨a.eval x, .inl ⟨hw,fun w=>by unfold execOp;rw [hx];rfl⟩⟩
 ·rename_i x hx
  exact⟨a.eval x, .inl ⟨hw,fun w=>by unfold execOp;rw [hx];rfl⟩⟩
 ·cases h
omit [Tabs]in
theorem r0m{P:Program}{ops:Array Oper}{i:Nat}{o:Oper}{v:Value}{a:Act}{w:World}{K:Act→World→Prop}(hi:ops[i]? =some o)(hy:Yields P ops o v a)(h:wpOp P ops (fun _ _ _=>False) i K a w):K (a.put o.dst v) w:=by
 unfold wpOp at h;simp only [hi]at h;rcases hy with⟨hw,hv⟩ | ⟨hw,rfl⟩
 ·simp only [hw,if_true,Oper.wp,hv w,Oper.upon]at h
  rcases h with h | ⟨_,h⟩
  ·exact h
  ·exact absurd h (by rintro⟨_,_,h⟩;exact h)
 ·simp only [hw,m2o,if_false]at h
  exact h
theorem AW.drawSeq{P:Program}{N:Nat}{c:Code}{st st' :ASt}{Q:Exit→ASt→Prop}(hk:kind c=11)(hm:P.follows .mixedOrders=true)(effs:List Eff)(bs:List Nat)(hn:effs.length≤(cops c).size)
  (hb:y0u bs 0 (cops c).toList=true)(hc:a1q bs effs=true)
  (hok: ∀i e,effs[i]? =some e→∀f,IEff P N (cops c) i (e1u bs effs st i f) e)(hst:k0h (fun _=>true) 0 effs st=st')(fl:List Nat)(hfl:fl= []∨(t1q (cops c) effs.length fl=true∧∀e s,Q e s→e= .normal))(hq:m1f bs fl effs.length (cops c).size=true)(h:AOps P N (cops c) (List.range' effs.length ((cops c).size - effs.length)) st' Q):AW P N c st Q:=by
 intro F ρ a w hr;cases c<;>first | (simp [kind]at hk;done) | skip
 rename_i id ops d;cases d with
 | false=>simp [kind]at hk
 | true=>
 simp only [cops]at hn hb hok hq h hfl;refine wp_region_any hm ?_;have flm: ∀i,memB i fl=true→i<effs.length:=fun i hi=>by
  rcases hfl with rfl | ⟨h1,_⟩
  ·cases hi
  ·unfold t1q at h1
   rw [j2s]at h1;have h2:=k2f.1 h1.2 i (u0l hi);simp only [j2s]at h2;exact a0j h2.1.1
 have cnt: ∀(l:List Bool) (m:Nat) (hm:m<l.length),l[m]=false→((l.set m true).filter (! ·)).length+1=(l.filter (! ·)).length:=by
  intro l
  induction l with
  | nil=>intro m hm;simp at hm
  | cons b r ihl=>
   intro m hm hb;cases m with
   | zero=>
    simp only [List.getElem_cons_zero]at hb;subst hb;simp
   | succ m=>
    have:=ihl m (by simpa using hm) (by simpa using hb);cases b with
    | true=>simpa using this
    | false=>simpa using this
 have full: ∀(listed:Array Bool),listed.size=ops.size→(listed.toList.filter (! ·)).length=0→∀i,i<ops.size→listed.getD i false=true:=by
  intro listed hz hfu i hi;have hli:i<listed.size:=by omega
  have hnil:=k2q hfu;rw [List.filter_eq_nil_iff]at hnil;have:=hnil listed[i] (by simp);have e:listed.getD i false=listed[i]:=by simp [j2u,hli]
  rw [e];simpa using this
 have none_ready: ∀(listed:Array Bool),listed.size=ops.size→(∀i,i<ops.size→listed.getD i false=true)→Region.ready .any ops listed= []:=by
  intro listed hz hall;unfold Region.ready;rw [List.filter_eq_nil_iff];intro i hi;have hi' :=m2e.1 hi;have hli:i<listed.size:=by omega
  have e:listed.getD i true=true:=by
   have:=hall i hi';simp only [j2u,k2r hli,l2x]at this⊢;exact this
  simp [e]
 have ready_of: ∀(listed:Array Bool),listed.size=ops.size→∀i,i∈Region.ready .any ops listed→i<ops.size∧listed.getD i false=false∧n0c ops (fun j=>listed.getD j false) i:=by
  intro listed hz i hi;unfold Region.ready at hi;rw [List.mem_filter]at hi;obtain⟨hi1,hi2⟩:=hi;have hi' :=m2e.1 hi1;have hli:i<listed.size:=by omega
  simp only [j2s,l2l]at hi2;have ho:ops[i]? =some ops[i]:=by simp [hi']
  rw [ho]at hi2;simp only [l2i,l2x]at hi2;refine⟨hi', ?_, ?_⟩
  ·have:=hi2.1
   simp only [j2u,k2r hli,l2x]at this⊢;exact this
  ·intro o ho' e he hbd
   rw [ho]at ho';cases ho';have:=hi2.2;rw [←Array.all_toList,k2f]at this;simpa [hbd]using this e he
 have set_get: ∀(listed:Array Bool) (i:Nat),i<listed.size→∀j,(listed.setIfInBounds i true).getD j false=if j=i then true else listed.getD j false:=by
  intro listed i hli j;by_cases hj:j=i
  ·subst hj
   simp [j2u,hli]
  ·rw [if_neg hj]
   simp [j2u,Ne.symm hj]
 have closed_set: ∀(listed:Array Bool) (i:Nat),i<listed.size→n0c ops (fun j=>listed.getD j false) i→(∀i,i<ops.size→listed.getD i false=true→n0c ops (fun j=>listed.getD j false) i)→
   ∀j,j<ops.size→(listed.setIfInBounds i true).getD j false=true→n0c ops (fun j=>(listed.setIfInBounds i true).getD j false) j:=by
  intro listed i hli hwi hcl j hj hlj o ho' e he hbd;have hL' :=set_get listed i hli;simp only [hL']at hlj⊢;by_cases hji:j=i
  ·subst hji
   have:=hwi o ho' e he hbd;split
   ·rfl
   ·exact this
  ·rw [if_neg hji]at hlj
   have:=hcl j hj hlj o ho' e he hbd;split
   ·rfl
   ·exact this
 have fuel_set: ∀(listed:Array Bool) (i fuel:Nat),i<listed.size→listed.getD i false=false→(listed.toList.filter (! ·)).length=fuel+1→((listed.setIfInBounds i true).toList.filter (! ·)).length=fuel:=by
  intro listed i fuel hli hLi hfu;have e1:listed[i]=false:=by
   have:listed.getD i false=listed[i]:=by simp [j2u,hli]
   rw [←this];exact hLi
  have hli2:i<listed.toList.length:=by simpa using hli
  have:=cnt listed.toList i hli2 (by simpa using e1);rw [Array.toList_setIfInBounds];omega
 have seqb: ∀j,effs.length≤j→j<ops.size→∀i,i<j→memB i fl=false→(bs.getD j 0).testBit i=true:=by
  intro j hj hjn i hi hif;have h1:=k2f.1 hq (j - effs.length) (m2e.2 (by omega));have h2:=k2f.1 h1 i (m2e.2 (by omega));rwa [show effs.length+(j - effs.length)=j by omega,hif,l2f]at h2
 have nofl: ∀i,effs.length≤i→memB i fl=false:=fun i hi=>by
  cases hb:memB i fl with
  | false=>rfl
  | true=>exact absurd (flm i hb) (by omega)
 -- those that stand in one order
 have tail: ∀(Q' :Exit→Act→World→Prop) (fuel p:Nat) (listed:Array Bool) (a1:Act) (w1:World),listed.size=ops.size→(listed.toList.filter (! ·)).length=fuel→effs.length≤p→p≤ops.size→
   (∀j,j<ops.size→listed.getD j false=Nat.blt j p)→(∀i,i<ops.size→listed.getD i false=true→n0c ops (fun j=>listed.getD j false) i)→wpOps P ops Q' (List.range' p (ops.size - p)) a1 w1→wpAny P .any ops Q' fuel listed a1 w1:=by
  intro Q' fuel;have bltf: ∀x y:Nat,¬x<y→Nat.blt x y=false:=fun x y hxy=>by
   cases hbb:Nat.blt x y with
   | false=>rfl
   | true=>exact absurd (a0j hbb) hxy
  have bltt: ∀x y:Nat,x<y→Nat.blt x y=true:=fun x y hxy=>k2k hxy
  induction fuel with
  | zero=>
   intro p listed a1 w1 hz hfu hp hpn hl hcl hw;have hall:=full listed hz hfu;have hpe:p=ops.size:=by
    refine Classical.byContradiction fun hc=> ?_;have h1:=hall p (by omega);rw [hl p (by omega),bltf p p (by omega)]at h1;cases h1
   subst hpe;rw [m2t]at hw;exact⟨none_ready listed hz hall,hw⟩
  | succ fuel ih=>
   intro p listed a1 w1 hz hfu hp hpn hl hcl hw;have hpl:p<ops.size:=by
    refine Classical.byContradiction fun hc=> ?_;have hall: ∀i,i<ops.size→listed.getD i false=true:=fun i hi=>by rw [hl i hi,bltt i p (by omega)]
    have:(listed.toList.filter (! ·))= []:=by
     rw [List.filter_eq_nil_iff];intro x hx;obtain⟨i,hi,rfl⟩:=List.getElem_of_mem hx;have hi' :i<listed.size:=by simpa using hi
     have:=hall i (by omega);simp only [j2u,k2r hi',l2x]at this;simpa using this
    rw [this]at hfu;cases hfu
   have hne:p∈Region.ready .any ops listed:=by
    unfold Region.ready;rw [List.mem_filter];refine⟨m2e.2 hpl, ?_⟩;have hli:p<listed.size:=by omega
    have e1:listed.getD p true=false:=by
     have:=hl p hpl;rw [bltf p p (by omega)]at this;simp only [j2u,k2r hli,l2x]at this⊢;exact this
    have ho:ops[p]? =some ops[p]:=by simp [hpl]
    rw [e1,ho];simp only [k2w,l2e,l2i,l2x];rw [←Array.all_toList,k2f];intro e he;cases hbd:Region.binds .any e with
    | false=>rfl
    | true=>
     have hlt:e.on<p:=by
      have h2:=(g0o hb p ops[p] (by simp [hpl])).2;simp only [l2b]at h2;have:=k2f.1 h2 e he;rw [hbd]at this;exact a0j (by simpa using this)
     have h3:=hl e.on (by omega);rw [bltt _ _ hlt]at h3;simpa using h3
   refine⟨fun hnil=>absurd hne (by rw [hnil];simp),fun i hi=> ?_⟩;obtain⟨hi',hLi,hwi⟩:=ready_of listed hz i hi;have hip:i=p:=by
    have h1: ¬i<p:=fun h=>by rw [hl i hi',bltt i p h]at hLi;cases hLi
    refine Classical.byContradiction fun hc=> ?_;have h2:listed.getD p false=true:=f0w hb hcl i hi' hwi p (seqb i (by omega) hi' p (by omega) (nofl p hp));rw [hl p hpl,bltf p p (by omega)]at h2;cases h2
   subst hip;rw [show ops.size - i=(ops.size - (i+1))+1 by omega,l2t,wpOps_cons]at hw;refine wpOp_mono (fun a2 w2 hw2=> ?_) hw;refine ih (i+1) _ a2 w2 (by simpa using hz) (fuel_set listed i fuel (by omega) hLi hfu) (by omega) (by omega) (fun j hj=> ?_) (closed_set listed i (by omega) hwi hcl) hw2;rw [set_get listed i (by omega)];by_cases hji:j=i
   ·rw [if_pos hji,bltt j (i+1) (by omega)]
   ·rw [if_neg hji,hl j hj]
    by_cases hlt:j<i
    ·rw [bltt j i hlt,bltt j (i+1) (by omega)]
    ·rw [bltf j i hlt,bltf j (i+1) (by omega)]
 have endst: ∀(listed:Array Bool),(∀i,i<effs.length→listed.getD i false=true)→ ∀{s:ASt},s.fn=c0t (fun j=>listed.getD j false) 0 effs st.fn→s.fn=st'.fn:=by
  intro listed hall s hfn;rw [hfn, ←hst,t0y];have: ∀(r:List Eff) (i:Nat) (f:FSt),i+r.length≤effs.length→c0t (fun j=>listed.getD j false) i r f=c0t (fun _=>true) i r f:=by
   intro r
   induction r with
   | nil=>intro i f _;rfl
   | cons e r ih=>
    intro i f hi;simp only [k2i]at hi;simp only [c0t,hall i (by omega)];exact ih (i+1) _ (by omega)
  exact this effs 0 st.fn (by omega)
 -- nobody is ready: all are listed
 have idle: ∀(listed:Array Bool),listed.size=ops.size→Region.ready .any ops listed= []→ ∀i,i<ops.size→listed.getD i false=true:=by
  intro listed hz hnil i
  induction i using Nat.strongRecOn with
  | _ i ih=>
   intro hi;refine Classical.byContradiction fun hc=> ?_;have hmem:i∈Region.ready .any ops listed:=by
    unfold Region.ready;rw [List.mem_filter];refine⟨m2e.2 hi, ?_⟩;have hli:i<listed.size:=by omega
    have e1:listed.getD i true=false:=by
     have:listed.getD i false=listed[i]:=by simp [j2u,hli]
     rw [this]at hc;simp [j2u,hli];simpa using hc
    have ho:ops[i]? =some ops[i]:=by simp [hi]
    rw [e1,ho];simp only [k2w,l2e,l2i,l2x];rw [←Array.all_toList,k2f];intro e he;cases hbd:Region.binds .any e with
    | false=>rfl
    | true=>
     have hlt:e.on<i:=by
      have h2:=(g0o hb i ops[i] (by simp [hi])).2;simp only [l2b]at h2;have:=k2f.1 h2 e he;rw [hbd]at this;exact a0j (by simpa using this)
     simpa using ih _ hlt (by omega)
   rw [hnil]at hmem;cases hmem
 have step: ∀(listed:Array Bool) (F1:Nat→Prop) (ρ1:Env) (a1:Act) (w1:World) (i:Nat),listed.size=ops.size→i<effs.length→listed.getD i false=false→n0c ops (fun j=>listed.getD j false) i→
   (∀i,i<ops.size→listed.getD i false=true→n0c ops (fun j=>listed.getD j false) i)→(∃s,Rel N F1 ρ1 s a1 w1∧s.fn=c0t (fun j=>listed.getD j false) 0 effs st.fn)→
   ∀(K:Act→World→Prop) (R:Exit→Act→World→Prop),(∀a2 w2 F2 ρ2,(∃s,Rel N F2 ρ2 s a2 w2∧s.fn=c0t (fun j=>(listed.setIfInBounds i true).getD j false) 0 effs st.fn)→Fr F1 ρ1 w1 F2 ρ2 w2→K a2 w2)→wpOp P ops R i K a1 w1:=by
  intro listed F1 ρ1 a1 w1 i hz hie hLi hwi hcl hs K R hK;obtain⟨s,hsr,hfn⟩:=hs;have hi' :i<ops.size:=by omega
  have hli:i<listed.size:=by omega
  have hei:effs[i]? =some effs[i]:=by simp [hie]
  -- who is ordered with i is listed just if he stands ahead of it
  have hord: ∀j,j<effs.length→ub bs i j=false→listed.getD j false=Nat.blt j i:=by
   intro j hj hu;simp only [ub,m2l,Bool.not_eq_false']at hu;have bltf: ∀x y:Nat,¬x<y→Nat.blt x y=false:=fun x y hxy=>by
    cases hbb:Nat.blt x y with
    | false=>rfl
    | true=>exact absurd (a0j hbb) hxy
   rcases hu with(hu | hu) | hu
   ·have:=j2t hu
    subst this;rw [hLi,bltf _ _ (by omega)]
   ·have h1:=f0w hb hcl i hi' hwi j hu
    have h2:=o1c hb i hi' j hu;have h3:Nat.blt j i=true:=by
     cases hbb:Nat.blt j i with
     | true=>rfl
     | false=>
      have:Nat.ble (j+1) i=true:=k2k h2;exact absurd (show Nat.blt j i=true from this) (by rw [hbb];simp)
    rw [h1,h3]
   ·have h2:=o1c hb j (by omega) i hu
    rw [bltf _ _ (by omega)];cases hlj:listed.getD j false with
    | false=>rfl
    | true=>
     have:=f0w hb hcl j (by omega) (hcl j (by omega) hlj) i hu;rw [hLi]at this;cases this
  have hstr:s.fn.strike (k0y (c0g bs i 0 effs)) (k0u (c0g bs i 0 effs)) (memB · (tchs (c0g bs i 0 effs)))=
    (k0h (Nat.blt · i) 0 effs st).fn.strike (k0y (c0g bs i 0 effs)) (k0u (c0g bs i 0 effs)) (memB · (tchs (c0g bs i 0 effs))):=by
   rw [hfn,t0y];refine m0m _ _ effs 0 _ _ (fun j e he=> ?_) rfl;simp only [l2b];cases hu:ub bs i j with
   | true=>exact .inl (s0p (r0v bs i effs 0 j e he (by simpa using hu)))
   | false=>exact .inr (hord j ((k2a.1 he).1) hu)
  have hieff:IEff P N ops i s effs[i]:= .lift (fun f=>hok i effs[i] hei f) hstr;have hL' :=set_get listed i hli;refine hieff F1 ρ1 a1 w1 hsr _ _ fun v w2 F2 ρ2 hr2 hf2 _=>hK _ w2 F2 ρ2 ⟨_,hr2, ?_⟩ hf2;rw [f1n,hfn];refine(q0s (fun j=>listed.getD j false) (fun j=>(listed.setIfInBounds i true).getD j false) effs[i] effs 0 i st.fn hei (by simpa using hLi) (by simp only [l2b,hL',if_pos]) (fun j hj=>by simp only [l2b]at hj;simp only [hL',if_neg hj]) fun j e' hj he hl=> ?_).symm;simp only [l2b]at hl;have hjl:=(k2a.1 he).1;have hu:ub bs i j=true:=by
   cases hu:ub bs i j with
   | true=>rfl
   | false=>
    have:=hord j hjl hu;rw [hl]at this;have:=a0j this.symm;omega
  have h1:=k2f.1 hc i (m2e.2 hie);have h2:=k2f.1 h1 j (m2e.2 hjl);have hblt:Nat.blt i j=true:=k2k hj;simp only [hblt,hu,Bool.and_self,k2e,k2m,hei,he]at h2;exact h2
 -- the induction over what is listed
 have key: ∀(fuel:Nat) (listed:Array Bool) (F1:Nat→Prop) (ρ1:Env) (a1:Act) (w1:World),listed.size=ops.size→(listed.toList.filter (! ·)).length=fuel→
   (∀i,i<ops.size→listed.getD i false=true→n0c ops (fun j=>listed.getD j false) i)→(∀j,effs.length≤j→j<ops.size→listed.getD j false=false)→(∀i,memB i fl=true→listed.getD i false=true)→
   (∃s,Rel N F1 ρ1 s a1 w1∧s.fn=c0t (fun j=>listed.getD j false) 0 effs st.fn)→Fr F ρ w F1 ρ1 w1→
   wpAny P .any ops (fun ex a' w' =>∃F' ρ' st',Q ex st' ∧Rel N F' ρ' st' a' w' ∧Fr F ρ w F' ρ' w') fuel listed a1 w1:=by
  intro fuel
  induction fuel with
  | zero=>
   intro listed F1 ρ1 a1 w1 hz hfu hcl hsf hfi hs hf;have hall:=full listed hz hfu;have hme:effs.length=ops.size:=by
    refine Classical.byContradiction fun hc=> ?_;have h1:=hall effs.length (by omega);rw [hsf effs.length (k2h _) (by omega)]at h1;cases h1
   obtain⟨s,hs,hfn⟩:=hs;refine⟨none_ready listed hz hall, ?_⟩;have h2:=h F1 ρ1 a1 w1 (hs.congr (endst listed (fun i hi=>hall i (by omega)) hfn));rw [←hme,m2t]at h2;obtain⟨F',ρ',st2,q1,q2,q3⟩:=h2;exact⟨F',ρ',st2,q1,q2,hf.trans hs.rw.dis q3⟩
  | succ fuel ih=>
   intro listed F1 ρ1 a1 w1 hz hfu hcl hsf hfi hs hf;by_cases hpre: ∀i,i<effs.length→listed.getD i false=true
   ·obtain⟨s,hs,hfn⟩:=hs
    refine tail _ (fuel+1) effs.length listed a1 w1 hz hfu (k2h _) hn (fun j hj=> ?_) hcl ?_
    ·by_cases hjm:j<effs.length
     ·rw [hpre j hjm];exact(k2k hjm).symm
     ·rw [hsf j (by omega) hj]
      cases hbb:Nat.blt j effs.length with
      | false=>rfl
      | true=>exact absurd (a0j hbb) hjm
    ·refine b0p (fun e a2 w2 ⟨F',ρ',st2,q1,q2,q3⟩=>⟨F',ρ',st2,q1,q2,hf.trans hs.rw.dis q3⟩) _ _ _ (h F1 ρ1 a1 w1 (hs.congr (endst listed hpre hfn)))
   obtain⟨i0,hi0,hl0⟩: ∃i0,i0<effs.length∧listed.getD i0 false=false:=by
    refine Classical.byContradiction fun hc=>hpre fun i hi=> ?_;cases hb:listed.getD i false with
    | true=>rfl
    | false=>exact absurd ⟨i,hi,hb⟩ hc
   refine⟨fun hnil=>(by have:=idle listed hz hnil i0 (by omega);rw [hl0]at this;cases this),fun i hi=> ?_⟩;obtain⟨hi',hLi,hwi⟩:=ready_of listed hz i hi;have hli:i<listed.size:=by omega
   have ho:ops[i]? =some ops[i]:=by simp [hi']
   obtain⟨s,hsr,hfn⟩:=hs;have hie:i<effs.length:=by
    refine Classical.byContradiction fun hc=> ?_;have h2:listed.getD i0 false=true:=f0w hb hcl i hi' hwi i0 (seqb i (by omega) hi' i0 (by omega) (by
     cases hb2:memB i0 fl with
     | false=>rfl
     | true=>rw [hfi i0 hb2]at hl0;cases hl0))
    rw [hl0]at h2;cases h2
   have hzl:(listed.setIfInBounds i true).size=ops.size:=by simpa using hz
   have hL' :=set_get listed i hli;exact step listed F1 ρ1 a1 w1 i hz hie hLi hwi hcl ⟨s,hsr,hfn⟩ _ _ fun a2 w2 F2 ρ2 hs2 hf2=>ih _ F2 ρ2 a2 w2 hzl (fuel_set listed i fuel hli hLi hfu) (closed_set listed i hli hwi hcl) (fun j hj hjn=>by rw [hL',if_neg (by omega)];exact hsf j hj hjn) (fun j hj=>by rw [hL'];split<;>first | rfl | exact hfi j hj) hs2 (hf.trans hsr.rw.dis hf2)
 -- those that may be taken first are taken first
 have start: ∀(todo:List Nat),(∀i∈todo,memB i fl=true)→ ∀(fuel:Nat) (listed:Array Bool) (F1:Nat→Prop) (ρ1:Env) (a1:Act) (w1:World),listed.size=ops.size→(listed.toList.filter (! ·)).length=fuel→
   (∀i,i<ops.size→listed.getD i false=true→n0c ops (fun j=>listed.getD j false) i)→(∀j,effs.length≤j→j<ops.size→listed.getD j false=false)→(∀i,memB i fl=true→i∈todo∨listed.getD i false=true)→
   (∃s,Rel N F1 ρ1 s a1 w1∧s.fn=c0t (fun j=>listed.getD j false) 0 effs st.fn)→Fr F ρ w F1 ρ1 w1→
   wpAny P .any ops (fun ex a' w' =>∃F' ρ' st',Q ex st' ∧Rel N F' ρ' st' a' w' ∧Fr F ρ w F' ρ' w') fuel listed a1 w1:=by
  intro todo
  induction todo with
  | nil=>intro _ fuel listed F1 ρ1 a1 w1 hz hfu hcl hsf hfi hs hf;exact key fuel listed F1 ρ1 a1 w1 hz hfu hcl hsf (fun i hi=>(hfi i hi).resolve_left (by simp)) hs hf
  | cons i todo iht=>
   intro ht fuel listed F1 ρ1 a1 w1 hz hfu hcl hsf hfi hs hf;cases hLi:listed.getD i false with
   | true=>exact iht (fun j hj=>ht j (by simp [hj])) fuel listed F1 ρ1 a1 w1 hz hfu hcl hsf (fun j hj=>by
     rcases hfi j hj with h | h
     ·rcases k2b.1 h with rfl | h
      ·exact .inr hLi
      ·exact .inl h
     ·exact .inr h) hs hf
   | false=>
    have hif:=ht i (by simp);rcases hfl with rfl | ⟨hfo,hQn⟩
    ·cases hif
    have him:=flm i hif;have hi' :i<ops.size:=by omega
    have hli:i<listed.size:=by omega
    have ho:ops[i]? =some ops[i]:=by simp [hi']
    unfold t1q at hfo;rw [j2s]at hfo;have h2:=k2f.1 hfo.2 i (u0l hif);rw [ho]at h2;simp only [j2s]at h2;obtain⟨⟨_,⟨⟨m1,m2⟩,m3⟩⟩,m4⟩:=h2;have nob: ∀e∈ops[i].after,Region.binds .any e=true→False:=fun e he hbd=>by
     have:=Array.all_eq_true_iff_forall_mem.1 m3 e he;rw [hbd]at this;cases this
    have hwi:n0c ops (fun j=>listed.getD j false) i:=fun o ho' e he hbd=>by
     rw [ho]at ho';cases ho';exact(nob e (by simpa using he) hbd).elim
    obtain⟨v,hy⟩:=w0g (P:=P) (ops:=ops) (o:=ops[i]) (a:=a1) m1 m2;cases fuel with
    | zero=>
     have:=full listed hz hfu i hi';rw [hLi]at this;cases this
    | succ fuel=>
     refine wpAny_first ho (Region.noSelect_spec hfo.1) (fun c a w ⟨_,_,s,hq,_⟩=>(by cases hQn _ _ hq)) fuel listed a1 w1 (fun j oj hj hne _ hno=>Region.free_spec ho m4 j oj hj hne (by simp [(k2j.1 hj).1]) hno) (mem_ready.2 ⟨by
      simp only [j2u,k2r hli,l2x]at hLi⊢;exact hLi,ops[i],ho,fun e he hbd=>(nob e he hbd).elim⟩) hy ?_
     have hL' :=set_get listed i hli;obtain⟨s,hsr,hfn⟩:=hs;obtain⟨F2,ρ2,hs2,hf2⟩:=r0m ho hy (step listed F1 ρ1 a1 w1 i hz him hLi hwi hcl ⟨s,hsr,hfn⟩ (fun a2 w2=>∃F2 ρ2,(∃s,Rel N F2 ρ2 s a2 w2∧s.fn=c0t (fun j=>(listed.setIfInBounds i true).getD j false) 0 effs st.fn)∧Fr F1 ρ1 w1 F2 ρ2 w2) (fun _ _ _=>False) fun a2 w2 F2 ρ2 h1 h2=>⟨F2,ρ2,h1,h2⟩);refine iht (fun j hj=>ht j (by simp [hj])) fuel _ F2 ρ2 _ w1 (by simpa using hz) (fuel_set listed i fuel hli hLi hfu) (closed_set listed i hli hwi hcl) (fun j hj hjn=>by rw [hL',if_neg (by omega)];exact hsf j hj hjn) (fun j hj=> ?_) hs2 (hf.trans hsr.rw.dis hf2);rcases hfi j hj with h | h
     ·rcases k2b.1 h with rfl | h
      ·exact .inr (by rw [hL',if_pos rfl])
      ·exact .inl h
     ·exact .inr (by rw [hL'];split<;>first | rfl | exact h)
 have hcnt: ∀n:Nat,((List.replicate n false).filter (! ·)).length=n:=by
  intro n
  induction n with
  | zero=>rfl
  | succ n ih=>simp [List.replicate_succ]
 have hd:Fr F ρ w F ρ {w with drawn:=w.drawn+1}:=⟨rfl,rfl,rfl,k2h _,fun _ h=>h,fun _ _ _=>rfl,fun _ _ h=>h,fun _ _=>Stab.refl _ _⟩
 have hrd:Rel N F ρ st a {w with drawn:=w.drawn+1}:=
  ⟨⟨hr.rw.dis,hr.rw.lt,hr.rw.inj,hr.rw.tab⟩,fun i=>(hr.fr i).mono (w:=w) (w' :={w with drawn:=w.drawn+1}) (fun _ _=>rfl) (fun _ h=>h) (fun _ _ h=>h),fun k=>(hr.ob k).through (w:=w) (w' :={w with drawn:=w.drawn+1}) (fun _ _=>rfl) (fun _ h=>h) (fun _ _ _ _=>rfl),hr.sz,hr.df⟩
 have hnone: ∀j,(Array.replicate ops.size false).getD j false=false:=by
  intro j;simp only [j2u,Array.getElem?_replicate];split<;>rfl
 refine start fl (fun i hi=>m1r hi) ops.size (Array.replicate ops.size false) F ρ a _ (by simp) (by rw [Array.toList_replicate];exact hcnt _) (fun i _ hl=>by rw [hnone]at hl;cases hl) (fun j _ _=>hnone j) (fun i hi=> .inl (u0l hi)) ⟨st,hrd, ?_⟩ hd;have: ∀(r:List Eff) (i:Nat) (f:FSt),c0t (fun j=>(Array.replicate ops.size false).getD j false) i r f=f:=by
  intro r
  induction r with
  | nil=>intro i f;rfl
  | cons e r ih=>
   intro i f;show c0t _ (i+1) r (bif (Array.replicate ops.size false).getD i false then e.appF f else f)=f
   rw [hnone];exact ih _ _
 exact(this effs 0 st.fn).symm
end Esp
namespace Esp
open Go
set_option linter.unusedSimpArgs false
set_option linter.unusedVariables false
variable [Tabs]
section
variable{P:Program}{N:Nat}{ops:Array Oper}{Q:Exit→ASt→Prop}{st st' :ASt}{l:List Nat}
def v1u(P:Program)(N:Nat)(ops:Array Oper)(i:Nat)(st:ASt):Option (Tmp×FuncId×List AV):=
 match opK ops st.fr i with
 | some ⟨some d, .call c,_,_,_,_⟩=>match b0k st.fr c with
  | some (f,args)=>bif a0p P f&&Nat.blt d N then some (d,f,args)else none
  | none=>none
 | _=>none
theorem IEff.qpcall{i d:Nat}{f:FuncId}{args:List AV}{x:AV}(h:v1u P N ops i st=some (d,f,args))(hz:AV.frozenL args=true)(spec:PCalls P f args x)(hx:x.frozen=true):IEff P N ops i st (.put d x):=by
 unfold v1u at h;split at h
 ·rename_i d' c ty pos after guard ho
  split at h
  ·rename_i f' args' hc
   cases hb:(a0p P f' &&Nat.blt d' N)with
   | false=>rw [hb]at h;cases h
   | true=>
    rw [hb]at h;cases h;simp only [j2s]at hb;exact .pcall ho hc hb.1 hz hb.2 spec hx
  ·cases h
 ·cases h
theorem Then.go{c:Code}(h:AW P N c st Q):Then P N c Q .normal st:=h
theorem Then.ret{c:Code}(h:Q .ret st):Then P N c Q .ret st:=h
theorem Then.exit{c:Code}{i:Nat}(h:Q (.exit i) st):Then P N c Q (.exit i) st:=h
omit [Tabs]in
theorem InBlk.ret{i:Nat}(h:Q .ret st):InBlk i Q .ret st:=h
omit [Tabs]in
theorem InBlk.exit{i:Nat}(h:Q .normal st):InBlk i Q (.exit i) st:=by
 have:Nat.beq i i=true:=m2n i;simp only [InBlk,this];exact h
def LoopP{α:Type}(I:α→ASt)(J:α→Prop)(μ:α→Nat)(x:α)(Q:Exit→ASt→Prop)(ex:Exit)(s:ASt):Prop:=
 match ex with
 | .normal=>∃y ks os,s.keep ks os=I y∧J y∧μ y<μ x
 | e=>Q e s
omit [Tabs]in
theorem LoopP.ret{α:Type}{I:α→ASt}{J:α→Prop}{μ:α→Nat}{x:α}(h:Q .ret st):LoopP I J μ x Q .ret st:=h
omit [Tabs]in
theorem LoopP.exit{α:Type}{I:α→ASt}{J:α→Prop}{μ:α→Nat}{x:α}{i:Nat}(h:Q (.exit i) st):LoopP I J μ x Q (.exit i) st:=h
def RetF(P:Program)(rs:List ResultVar)(R:AEnd→List (Nat×AObj)→Prop)(ex:Exit)(s:ASt):Prop:=
 match ex with
 | .normal=>∃(ks:List Nat) (x:AV),res1 P (ks.foldl ASt.freeze s) rs=some x∧R (.ret x) (ks.foldl ASt.freeze s).ob
 | .ret=>∃(ks:List Nat) (x:AV),res1 P (ks.foldl ASt.freeze s) rs=some x∧R (.ret x) (ks.foldl ASt.freeze s).ob
 | .panic chain=>R (.panicked chain) s.ob
 | _=>False
theorem Rel.freezes{F:Nat→Prop}{ρ:Env}{a:Act}{w:World}: ∀(ks:List Nat) {st:ASt} {F:Nat→Prop} {ρ:Env},Rel N F ρ st a w→∃F' ρ',Rel N F' ρ' (ks.foldl ASt.freeze st) a w∧Fr F ρ w F' ρ' w
 | [],_,F,ρ,h=>⟨F,ρ,h,Fr.refl F ρ w⟩
 | k::r,_,_,_,h=>by
  obtain⟨F1,ρ1,h1,f1⟩:=h.freeze k;obtain⟨F2,ρ2,h2,f2⟩:=Rel.freezes (F:=F) (ρ:=ρ) r h1;exact⟨F2,ρ2,h2,f1.trans h1.rw.dis f2⟩
theorem ACalls.of_AWF [QuietD P] {f:FuncId}{fn:Func}{c:Code}{N:Nat}{rs:List ResultVar}{args:List AV}{ob:List (Nat×AObj)}{R:AEnd→List (Nat×AObj)→Prop}
  (hf:P.funcs[f]? =some fn)(hb:fn.body=some c)(hN:fn.ntmps=N)(hrs:fn.results.toList=rs)(hargs:(Nat.ble args.length N&&Nat.ble N 1000000)=true)(hpl:AV.plainL args=true)
  (hnp: ∀chain o,¬R (.panicked chain) o)(h:AW P N c {fr:=frOf args 0,ob} (RetF P rs R)):ACalls P f args ob R:=by
 intro F ρ vs w hrw hob hra;refine calls_of_wp_defers hf hb ?_;have hsz:=hra.sz;simp only [j2s]at hargs;have hargs1:=k2d hargs.1;have hN1:=k2d hargs.2;have hr:Rel N F ρ {fr:=frOf args 0,ob} {tmps:=vs++Array.replicate (fn.ntmps - vs.size) undef,defers:= []} w:=by
  refine⟨hrw,fun i=> ?_,hob,by simp;omega,DfInv.nil (QuietD.free P),hN1⟩;simp only;rw [h0y];split
  ·rename_i hi
   have hi' :i<vs.size:=by omega
   have e:(vs++Array.replicate (fn.ntmps - vs.size) undef).getD i undef=vs.getD (i - 0) undef:=by
    simp [j2u,Array.getElem?_append,hi']
   rw [e];exact(hra.rel (i - 0) (by omega)).retm (AV.plainL_get hpl _ (by omega))
  ·exact .junk _
 refine wp_mono (h F ρ _ w hr) fun e a1 w1 ⟨F1,ρ1,s1,hq,hr1,hf1⟩=> ?_;have ret: ∀(ks:List Nat) (x:AV),res1 P (ks.foldl ASt.freeze s1) rs=some x→R (.ret x) (ks.foldl ASt.freeze s1).ob→∃v,(results fn a1.tmps).run P w1= .ok v w1∧
   ∃F' ρ' r ob',R r ob' ∧m0k w1 F' ρ' r (.returned v)∧RelW F' ρ' w1∧(∀k,RelOb w1 F' ρ' k (lkO ob' k))∧Fr F ρ w F' ρ' w1:=by
  intro ks x hx hR;subst hrs;obtain⟨F2,ρ2,hr2,hf2⟩:=Rel.freezes (F:=F1) (ρ:=ρ1) ks hr1;obtain⟨v,hrun,hv⟩:=t1p hr2 hx;exact⟨v,hrun,F2,ρ2, .ret x,_,hR,hv,hr2.rw,hr2.ob,hf1.trans hr1.rw.dis hf2⟩
 cases e with
 | normal=>obtain⟨ks,x,hx,hR⟩:=hq;exact g0n (ret ks x hx hR) _ (hr1.df.1.po (QuietD.free P))
 | ret=>obtain⟨ks,x,hx,hR⟩:=hq;exact g0n (ret ks x hx hR) _ (hr1.df.1.po (QuietD.free P))
 | panic chain=>exact absurd hq (hnp chain s1.ob)
 | exit id=>exact hq.elim
 | goto l=>exact hq.elim
 | outgrown=>exact hq.elim
def AllOk(P:Program)(N:Nat)(ops:Array Oper)(bs:List Nat)(effs:List Eff)(st:ASt):Nat→List Eff→Prop
 | _, []=>True
 | i,e::r=>(∀f,IEff P N ops i (e1u bs effs st i f) e)∧AllOk P N ops bs effs st (i+1) r
theorem AllOk.get{bs:List Nat}{effs:List Eff}: ∀{l:List Eff} {s:Nat},AllOk P N ops bs effs st s l→∀i e,l[i]? =some e→∀f,IEff P N ops (s+i) (e1u bs effs st (s+i) f) e
 | [],s,_,i,e,he=>by simp at he
 | x::r,s,h,i,e,he=>by
  cases i with
  | zero=>
   simp only [m2c,j2v]at he;subst he;exact h.1
  | succ i=>
   have:=AllOk.get h.2 i e (by simpa using he);rwa [show s+(i+1)=s+1+i by omega]
end
def band(k:IntKind)(a b:Int):Int:=k.wrap ((BitVec.ofInt k.bits a&&&BitVec.ofInt k.bits b).toNat:Int)
def bor(k:IntKind)(a b:Int):Int:=k.wrap ((BitVec.ofInt k.bits a ||| BitVec.ofInt k.bits b).toNat:Int)
def bshl(k:IntKind)(a b:Int):Int:=k.wrap (a*2 ^ (min b.toNat k.bits))
def bshr(k:IntKind)(a b:Int):Int:=a.fdiv (2 ^ (min b.toNat k.bits))
def bquo(k:IntKind)(a b:Int):Int:=k.wrap (a.tdiv b)
def brem(k:IntKind)(a b:Int):Int:=a.tmod b
def seq(a b:ByteArray):Bool:=a.toList==b.toList
def c0w(a b:ByteArray):Bool:=Op.bytesLess a.toList b.toList
theorem PCalls.law{P:Program}{f:FuncId}{args:List AV}{b:Bool}(spec:PCalls P f args (.cell (.d (.sc (.bool b))))){vs:Array Value}{W:World}(ht: ∀b o,Tabs.get b=some o→W.heap[b]? =some o)(hra:RelArgs W (fun b=>b<W.heap.size) (fun _=>none) args vs):
  Calls P f vs W fun e W' =>e= .returned (.bool b)∧Go.RowKit.Below W.heap.size W W' :=by
 have hnl: ∀b,¬live (fun _=>none) b:=fun b ⟨k,l,hk,_⟩=>by cases hk
 refine(spec _ (fun _=>none) vs W ⟨fun b _=>hnl b,fun b h=>h,(fun k k' l l' b hk=>by cases hk),fun b o hb=>⟨(k2j.1 (ht b o hb)).1,ht b o hb⟩⟩ (fun k=> .gone rfl) hra).mono fun e W' ⟨F',ρ',r,ob',hq,hre,_,_,hf⟩=> ?_;subst hq;cases e with
 | returned v=>
  have hv:RelAV W' F' ρ' #[] (.cell (.d (.sc (.bool b)))) v:=hre;have:=(a0n hv (u:= .bool b) rfl).1;subst this;exact⟨rfl,hf.os,hf.tape,hf.output,hf.size,fun k hk=>hf.keep k hk (hnl k)⟩
 | panicked c=>exact hre.elim
 | outgrown=>exact hre.elim
end Esp

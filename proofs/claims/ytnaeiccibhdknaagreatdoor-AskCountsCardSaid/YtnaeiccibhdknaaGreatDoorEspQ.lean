import Derived.Test.YtnaeiccibhdknaaGreatDoorEspRisk
set_option linter.unusedSimpArgs false
set_option linter.unusedVariables false
namespace Esp
open Go
variable [Tabs]
def AC.killR (k:Nat):AC->AC
 |.mpr j=>.mpr j
 |c=>c.kill k
mutual
def AV.killR (k:Nat):AV->AV
 |.cell c=>.cell (c.killR k)
 |.agg cs=>.agg (cs.map (AC.killR k))
 |.aggD cs=>.aggD cs
 |.tup vs=>.tup (AV.killRL k vs)
 |.whn g w x=>.whn g w (AV.killR k x)
 |.junk=>.junk
def AV.killRL (k:Nat):List AV->List AV
 |[]=>[]
 |v::r=>AV.killR k v::AV.killRL k r
end
omit [Tabs]in
theorem AV.killRL_eq (k:Nat)(l:List AV):AV.killRL k l=l.map (AV.killR k):=by
 induction l with
 |nil=>simp[AV.killRL]
 |cons v r ih=>simp[AV.killRL,ih]
def AObj.killR (k:Nat):AObj->AObj
 |.box cs ty=>.box (cs.map (AC.killR k)) ty
 |o=>o
def ASt.moved (st:ASt)(k:Nat)(o:AObj):ASt:={fr:=st.fr.map λp=>(p.1,p.2.killR k),ob:=ASt.setO k o (st.ob.map λp=>(p.1,p.2.killR k))}
section
variable{w:World}{F:Nat->Prop}{ρ ρ' :Env}{k:Nat}{L L' :Loc}
omit [Tabs]in
theorem RelAC.killR (hk:ρ k=some L)(aG:ρ' k=some L')(ht:L'.top=L.top)(ho:offK k ρ ρ'){x:AC}{v:Value}(h:RelAC w F ρ x v):RelAC w F ρ' (x.killR k) v:=by
 cases h with
 |mpr j v h=>
  refine .mpr j v λl b' hb hl=>?_;by_cases e:j=k
  ·subst e
   rw[aG]at hb;cases hb;exact h _ b' hk (ht▸hl)
  ·exact h l b' (by rw [<-ho j e];exact hb) hl
 |d x v h=>exact RelAC.kill ho (.d x v h)
 |own j v h=>exact RelAC.kill ho (.own j v h)
 |ptr j off v h=>exact RelAC.kill ho (.ptr j off v h)
 |elt j e q off v h=>exact RelAC.kill ho (.elt j e q off v h)
 |osl j e q off v h=>exact RelAC.kill ho (.osl j e q off v h)
 |pn j v h=>exact RelAC.kill ho (.pn j v h)
 |ifo t j v h=>exact RelAC.kill ho (.ifo t j v h)
 |row j i v h=>exact RelAC.kill ho (.row j i v h)
 |fn f fs cs vs us h1 h2 hf hc=>exact RelAC.kill ho (.fn f fs cs vs us h1 h2 hf hc)
 |junk v=>exact RelAC.kill ho (.junk v)
omit [Tabs]in
theorem RelAV.killR {tm:Array Value}(hk:ρ k=some L)(aG:ρ' k=some L')(ht:L'.top=L.top)(ho:offK k ρ ρ'){x:AV}{v:Value}(h:RelAV w F ρ tm x v):RelAV w F ρ' tm (x.killR k) v:=by
 induction h with
 |cell c v h=>exact .cell _ v (h.killR hk aG ht ho)
 |agg cs arr hz h=>
  simp only[AV.killR];exact .agg _ arr (by simpa using hz) λi hi=>by simpa using(h i (by simpa using hi)).killR hk aG ht ho
 |aggD cs arr hz h=>exact .aggD cs arr hz h
 |tup vs arr hz h ih=>
  simp only[AV.killR,AV.killRL_eq];exact .tup _ arr (by simpa using hz) λi hi=>by simpa using ih i (by simpa using hi)
 |whn g want x v h h' ih=>exact .whn g want _ v ih h'
 |junk v=>exact .junk v
omit [Tabs]in
theorem RelOb.killR {j:Nat}(hk:ρ k=some L)(aG:ρ' k=some L')(ht:L'.top=L.top)(ho:offK k ρ ρ')(hj:j≠k){x:AObj}(h:RelOb w F ρ j x):RelOb w F ρ' j (x.killR k):=by
 have e:=ho j hj
 induction h with
 |any o h ih=>exact .any _ ih
 |na t ee xs h ih=>exact .na t ee xs ih
 |gone h=>exact .gone (e.trans h)
 |box cs oty b c t aQ p7 hb hs h=>exact .box _ _ b c t aQ (e.trans p7) hb (by simpa using hs) λi hi=>by simpa using(h i (by simpa using hi)).killR hk aG ht ho
 |arr t ee n cs u xs hk hown hs h=>exact .arr t ee n cs u xs (e.trans hk) hown hs h
 |tab b o hk hF hb=>exact .tab b o (e.trans hk) hF hb
 |it s pos b hk hb=>exact .it s pos b (e.trans hk) hb
 |fz t xs u hk h=>exact .fz t xs u (e.trans hk) h
 |mi kt vt l cur b mo si se la hk hb hm=>exact .mi kt vt l cur b mo si se la (e.trans hk) hb hm
 |mp t kt vt l b es c hk hb hs h dn hd=>exact .mp t kt vt l b es c (e.trans hk) hb hs h dn hd
 |mr tm te kt ee l pd b es c pv us hk hb hM=>exact .mr tm te kt ee l pd b es c pv us (e.trans hk) hb hM
end
section
variable{P:Program}{N:Nat}{F:Nat->Prop}{ρ:Env}{st:ASt}{a:Act}{w w' :World}
theorem Rel.moved (h:Rel N F ρ st a w)(iE:w'.os=w.os)(ky:w'.tape=w.tape)(jK:w'.output=w.output)(aR:w.heap.size<=w'.heap.size){k:Nat}{L L' :Loc}{o:AObj}{G:Nat->Prop}(hk:ρ k=some L)(ht:L'.top=L.top)
  (aF:∀b,b<w.heap.size->¬L.has b->w'.heap[b]?=w.heap[b]?)
  (hL:∀b,L'.has b->b<w'.heap.size/\(w.heap.size<=b\/L.has b))(hG:∀b,G b->L.has b/\¬L'.has b)
  (ho:RelOb w' (λb=>F b\/G b) (ρ.set k (some L')) k o)(hst:k<1000000):
  Rel N (λb=>F b\/G b) (ρ.set k (some L')) (st.moved k o) a w' /\Fr F ρ w (λb=>F b\/G b) (ρ.set k (some L')) w' :=by
 have hF:∀b,F b->w'.heap[b]?=w.heap[b]?:=λb hb=>aF b (h.rw.lt b hb) λe=>h.rw.dis b hb ⟨k,L,hk,e⟩;have aP:∀b,F b->F b\/G b:=λ_ h=>.inl h;have aI:=Env.set_off ρ k (some L');have cU:=Env.set_same ρ k (some L');have bL:∀b,live (ρ.set k (some L')) b->live ρ b\/w.heap.size<=b:=by
  rintro b ⟨j,l,hj,hb⟩;by_cases e:j=k
  ·subst e
   rw[cU]at hj;cases hj;rcases(hL b hb).2 with h'|hb'
   ·exact .inr h'
   ·exact .inl ⟨j,L,hk,hb'⟩
  ·rw[Env.set_other _ _ _ e]at hj
   exact .inl ⟨j,l,hj,hb⟩
 refine⟨⟨⟨?_,?_,?_,h.rw.tab_of hF aP⟩,?_,?_,h.sz,h.df⟩,⟨iE,ky,jK,aR,aP,?_,?_,?_⟩⟩
 ·rintro b (hb|hb) hl
  ·rcases bL b hl with h'|h'
   ·exact h.rw.dis b hb h'
   ·have:=h.rw.lt b hb;omega
  ·obtain⟨g1,g2⟩:=hG b hb
   obtain⟨j,l,hj,hb'⟩:=hl;by_cases e:j=k
   ·subst e
    rw[cU]at hj;cases hj;exact g2 hb'
   ·rw[Env.set_other _ _ _ e]at hj
    exact e (h.rw.inj _ _ _ _ b hj hk hb' g1)
 ·rintro b (hb|hb)
  ·have:=h.rw.lt b hb;omega
  ·have:=(h.ob k).lt hk (hG b hb).1
   omega
 ·intro i j l l' b hi hj hb hb'
  by_cases e1:i=k<;>by_cases e2:j=k
  ·exact e1.trans e2.symm
  ·subst e1
   rw[cU]at hi;cases hi;rw[Env.set_other _ _ _ e2]at hj;rcases(hL b hb).2 with h'|hb2
   ·have:=(h.ob j).lt hj hb';omega
   ·exact h.rw.inj _ _ _ _ b hk hj hb2 hb'
  ·subst e2
   rw[cU]at hj;cases hj;rw[Env.set_other _ _ _ e1]at hi;rcases(hL b hb').2 with h'|hb2
   ·have:=(h.ob i).lt hi hb;omega
   ·exact h.rw.inj _ _ _ _ b hi hk hb hb2
  ·rw[Env.set_other _ _ _ e1]at hi
   rw[Env.set_other _ _ _ e2]at hj;exact h.rw.inj _ _ _ _ b hi hj hb hb'
 ·intro i
  simp only[ASt.moved];rw[d0i (AV.killR k) (by simp[AV.killR])];exact((h.fr i).killR hk cU ht aI).mono hF aP (λ_ _ h=>h)
 ·intro j
  by_cases e:j=k
  ·subst e
   simp only[ASt.moved];rw[a0o];exact ho
  ·simp only[ASt.moved]
   rw[a0j _ _ _ _ e,e0b (AObj.killR k) rfl];have h1:=(h.ob j).killR hk cU ht aI e;refine h1.through hF aP λl b hl hb=>?_;rw[Env.set_other _ _ _ e]at hl;exact aF b ((h.ob j).lt hl hb) λhb' =>e (h.rw.inj _ _ _ _ b hl hk hb hb')
 ·intro b hb hl
  exact aF b hb λe=>hl ⟨k,L,hk,e⟩
 ·rintro b hb ((hf|hg)| hl)
  ·exact .inl hf
  ·exact .inr ⟨k,L,hk,(hG b hg).1⟩
  ·rcases bL b hl with h'|h'
   ·exact .inr h'
   ·omega
 ·intro j hj
  by_cases e:j=k
  ·omega
  ·rw[Env.set_other _ _ _ e]
   exact Stab.refl _ _
end
end Esp
namespace Esp
open Go
variable [Tabs]
omit [Tabs]in
theorem g0f{P:Program}{w:World}(t tx ty e:TypeId)(i:TypeInfo)(z:Value)(ht:P.underlying t=some (.slice e))(hi:P.info? e=some i)(hz:i.zero=some z)
  (iq:z.cells.size=i.size)(v:Value)(n:Nat)(xs:List Value)(hown:w.ownsRow 0 e i.size v n xs)
  (x:Value)(m:Nat)(news:List Value)(hs:Src P i.size tx x m news w)(je:n+m<=maxLen)(hbytes:(n+m)*i.bytes<=140737488355328):
  ∃v' w',(Builtin.append_ #[t,tx] ty #[v,x]).run P w=.ok v' w' /\w'.ownsRow 0 e i.size v' (n+m) (xs++news)/\w.grownBy w' v.ownBlock/\
   (∀b,v'.ownBlock=some b->b<w'.heap.size/\(w.heap.size<=b\/v.ownBlock=some b)):=by
 have mz:n+m<=9223372036854775807:=by simp only[maxLen]at je;omega
 have hlen:(xs++news).length=(n+m)*i.size:=by rw[r2t,hown.1,hs.newsLen,t2w]
 have grown:∀(old:Nat),old<n+m->∀(row:Option Nat),
   (w.drew.alloc (.cells ((xs++news).toArray++Builtin.zeroCells z.cells (grownCap w (n+m) old e - (n+m))) e)).ownsRow 0 e i.size
    (.slice (some ⟨w.heap.size,0,none⟩) (n+m) (grownCap w (n+m) old e)) (n+m) (xs++news)/\
   w.grownBy (w.drew.alloc (.cells ((xs++news).toArray++Builtin.zeroCells z.cells (grownCap w (n+m) old e - (n+m))) e)) row:=by
  intro old ho row;have dT:=grownCap_ge w (n+m) old e;have dX:grownCap w (n+m) old e<=maxLen:=grownCap_le_maxLen w (n+m) old e je;refine⟨⟨hlen,.inr ⟨w.heap.size,_,_,rfl,s2i _,heap_alloc_new w.drew _,dT,dX,?_,?_⟩⟩,⟨rfl,rfl,rfl,by simp,λk hk _=>heap_alloc_old w.drew _ k hk⟩⟩
  ·simp only[Array.size_append,List.size_toArray,size_zeroCells,iq,hlen, <-t2w]
   congr 1;omega
  ·simp only[Array.toList_append]
   rw [<-hlen];exact List.take_left
 rcases hown.2 with⟨rfl,rfl⟩| ⟨g,cap,cur,rfl,eJ,hg,jI,dX,bE,bK⟩
 ·have hx:xs=[]:=s2f (by simpa using hown.1)
  subst hx;by_cases hm:m=0
  ·subst hm
   have hn:news=[]:=s2f (by simpa using hs.newsLen);subst hn;refine⟨.slice none 0 0,w,?_,World.ownsRow_nil w 0 e i.size,⟨rfl,rfl,rfl,r2q _,λ_ _ _=>rfl⟩,λb hb=>by cases hb⟩;rcases hs.kind with⟨e',hk⟩| hk<;>simp[Builtin.append_,run_underlying ht,run_underlying hk,Go.sizeOf,typeInfo,hi,hs.len,hs.cells]
  ·have hold:(Builtin.firstCells i.size 0 (.slice none 0 0)).run P w.drew=.ok ([]:List Value).toArray w.drew:=run_firstCells_none w.drew i.size 0 0 0
   have hr:=run_append_grow_src (P:=P) w t tx ty e i z ht hi hz none 0 0 [] hold x m news hs (by omega) (by omega) (growslice_fits (by omega) hbytes);have hgr:=grown 0 (by omega) (Value.ownBlock (.slice none 0 0));exact⟨_,_,hr,hgr.1,hgr.2,λb hb=>by cases hb;exact⟨by simp,.inl (r2q _)⟩⟩
 ·by_cases cD:n+m<=cap
  ·have bZ:n*i.size+news.length<=cur.size:=by rw[hs.newsLen,bE, <-t2w];exact t2b _ cD
   have hst:=run_storeCells_at P g (n*i.size) e news 0 cur w hg (by simpa using bZ) hs.one;simp only[u2e]at hst;have hr:(Builtin.append_ #[t,tx] ty #[.slice (some ⟨g,0,none⟩) n cap,x]).run P w=.ok (.slice (some ⟨g,0,none⟩) (n+m) cap)
     (w.setRow g (cur.toList.take (n*i.size)++news++cur.toList.drop (n*i.size+news.length)).toArray):=by
    rcases hs.kind with⟨e',hk⟩| hk<;>simp[Builtin.append_,run_underlying ht,run_underlying hk,Go.sizeOf,typeInfo,hi,hs.len,cD,hs.cells,Addr.add_lit,hst]
   refine⟨_,_,hr,⟨hlen,.inr ⟨g,cap,_,rfl,eJ,setRow_heap w g cur _ e _ hg,cD,dX,?_,?_⟩⟩,⟨rfl,rfl,rfl,by simp,λk _ hk=>setRow_other w g k _ (λe=>hk (by simp[Value.ownBlock,e]))⟩,λb hb=>?_⟩
   ·simp only[List.size_toArray,r2t,s2g,s2n,s2p]
    omega
   ·rw[bK, <-hlen]
    exact List.take_left
   ·exact⟨by cases hb;simpa using(r2r.1 hg).1,.inr hb⟩
  ·have holds:∀j u,xs[j]?=some u->w.cell? ((⟨g,0,none⟩:Addr).add j)=some u:=hown.cells (g:=g) rfl
   have hold:(Builtin.firstCells i.size n (.slice (some ⟨g,0,none⟩) n cap)).run P w.drew=.ok xs.toArray w.drew:=run_firstCells_some w.drew i.size n ⟨g,0,none⟩ n cap xs hown.1 (by simpa using holds);have hr:=run_append_grow_src (P:=P) w t tx ty e i z ht hi hz (some ⟨g,0,none⟩) n cap xs hold x m news hs (by omega) (by omega) (growslice_fits (by omega) hbytes);have hgr:=grown cap (by omega) (Value.ownBlock (.slice (some ⟨g,0,none⟩) n cap));exact⟨_,_,hr,hgr.1,hgr.2,λb hb=>by cases hb;exact⟨by simp,.inl (r2q _)⟩⟩
def srcV(P:Program)(ob:List (Nat×AObj))(k e:Nat)(tx:TypeId)(y:AV):Option (Nat×List D):=
 match P.underlying tx with
 |some (.slice _)=>match y with
  |.cell (.d (.sl e' m ys))=>bif Nat.beq e' e then some (m,ys)else none
  |.cell (.d (.sc (.slice none 0 _)))=>some (0,[])
  |.cell (.own k')=>bif Nat.beq k' k then none else match lkO ob k' with
   |.arr _ e' m ys=>bif Nat.beq e' e then some (m,ys)else none
   |_=>none
  |_=>none
 |some .string=>match y with
  |.cell (.d (.sc (.string s)))=>bif Nat.beq e 1 then some (s.size,g0d s.data.toList)else none
  |_=>none
 |_=>none
section
variable{P:Program}{N:Nat}{ops:Array Oper}{Q:Exit->ASt->Prop}{st st' :ASt}{l:List Nat}
theorem j1i{F:Nat->Prop}{ρ:Env}{a:Act}{w:World}(h:Rel N F ρ st a w){k e:Nat}{tx:TypeId}{y:AV}{v:Value}(hy:RelAV w F ρ a.tmps y v){m:Nat}{ys:List D}
  (hs:srcV P st.ob k e tx y=some (m,ys)):∃news,Src P e tx v m news w/\news.length=ys.length/\∀i (hi:i<ys.length),RelD w F ys[i] (news.getD i undef):=by
 unfold srcV at hs;split at hs
 ·rename_i e0 hu
  split at hs
  ·rename_i e' m' ys'
   cases hb:Nat.beq e' e with
   |false=>rw[hb]at hs;cases hs
   |true=>
    rw[hb]at hs;cases hs;have:=r2h hb;subst this;have hD:=a0w hy;cases hD with
    |nil _ ad cap=>
     cases ad with
     |none=>exact⟨[],Src.ofNil w hu cap,rfl,λi hi=>by simp at hi⟩
     |some ad=>exact⟨[],Src.ofSlice w hu ad 0 cap [] (by simp) (λj u hj=>by simp at hj) (λu hu=>by cases hu),rfl,λi hi=>by simp at hi⟩
    |sl _ _ _ b off cap c hF hl aU hc hr=>
     have hlen:((List.range ys.length).map c).length=ys.length:=by simp
     refine⟨(List.range ys.length).map c,Src.ofSlice w hu ⟨b,off,none⟩ m cap _ (by rw[hlen];exact hl) (λj u hj=>?_) (λu hu=>?_),hlen,λi hi=>?_⟩
     ·have gp:j<ys.length:=by
       have:=(r2p.1 hj).1;rwa[hlen]at this
      rw[Addr.add_lit,hc j gp];simpa[gp]using hj
     ·simp only[s2c,u2a]at hu
      obtain⟨j,hj,rfl⟩:=hu;exact(hr j hj).oneCell
     ·have e1:((List.range ys.length).map c).getD i undef=c i:=by simp[r2o,hi]
      rw[e1];exact hr i hi
  ·cases hs
   rename_i cap;have hv:=(a0i (u:=.slice none 0 cap) hy rfl).1;subst hv;exact⟨[],Src.ofNil w hu cap,rfl,λi hi=>by simp at hi⟩
  ·rename_i k'
   cases aV:Nat.beq k' k with
   |true=>rw[aV]at hs;cases hs
   |false=>
    rw[aV,u2k]at hs;split at hs
    ·rename_i t' e' m' ys' aH
     cases hb:Nat.beq e' e with
     |false=>rw[hb]at hs;cases hs
     |true=>
      rw[hb]at hs;cases hs;have:=r2h hb;subst this;have ho:=h.ob k';rw[aH]at ho;cases ho with
      |arr t e n cs u xs hk ho hz hh=>
       have hv:v=u:=by
        cases hy with
        |cell c v hy=>cases hy with
         |own k v hy=>exact hy u hk
       subst hv;have kQ:=ho.1;rcases ho.2 with⟨rfl,rfl⟩| ⟨g,cap,cur,rfl,eJ,hg,jI,dX,bE,bK⟩
       ·have hx:xs=[]:=s2f (by simpa using kQ)
        subst hx;exact⟨[],Src.ofNil w hu 0,hz,hh⟩
       ·refine⟨xs,Src.ofSlice w hu ⟨g,0,none⟩ m cap xs kQ (ho.cells (g:=g) rfl) (λu' cK=>?_),hz,hh⟩
        obtain⟨i,hi,rfl⟩:=List.getElem_of_mem cK;have:=(hh i (by omega)).oneCell;simpa[r2o,hi]using this
    ·cases hs
  ·cases hs
 ·rename_i hu
  split at hs
  ·rename_i s
   cases hb:Nat.beq e 1 with
   |false=>rw[hb]at hs;cases hs
   |true=>
    rw[hb]at hs;cases hs;have:=r2h hb;subst this;have hv:=(a0i (u:=.string s) hy rfl).1;subst hv;refine⟨byteCells s,Src.ofString w hu s,by rw[byteCells_length,c0i,s2p];rfl,λi hi=>?_⟩;rw[c0i]at hi;have e1:(byteCells s).getD i undef=.int .u8 (s.data.toList[i].toNat:Int):=by
     simp only[byteCells,r2o,t2a,r2k hi,s2z,t2r]
    rw[e1];simp only[g0d,List.getElem_map];exact .sc _ rfl
  ·cases hs
 ·cases hs
def rowB(P:Program)(t:TypeId):Option (TypeId×Nat×Nat):=
 match P.underlying t with
 |some (.slice e)=>match P.info? e with
  |some i=>match i.zero with
   |some z=>bif Nat.beq z.cells.size i.size then some (e,i.size,i.bytes)else none
   |none=>none
  |none=>none
 |_=>none
omit [Tabs]in
theorem v0j{t e:TypeId}{s b:Nat}(h:rowB P t=some (e,s,b)):P.underlying t=some (.slice e)/\ ∃i z,P.info? e=some i/\i.zero=some z/\z.cells.size=i.size/\i.size=s/\i.bytes=b:=by
 unfold rowB at h;split at h
 ·split at h
  ·split at h
   ·rename_i hu _ i hi _ z hz
    cases hb:Nat.beq z.cells.size i.size with
    |false=>rw[hb]at h;cases h
    |true=>
     rw[hb]at h;cases h;exact⟨hu,i,z,hi,hz,r2h hb,rfl,rfl⟩
   ·cases h
  ·cases h
 ·cases h
theorem s0d{F:Nat->Prop}{ρ:Env}{a:Act}{w:World}(h:Rel N F ρ st a w){t tx te:TypeId}{e bytes:Nat}(ht:rowB P t=some (te,e,bytes))(ty:TypeId)(k d:Nat)(hd:d<N)
  {v:Value}{n:Nat}{cs:List D}{xs:List Value}(hown:w.ownsRow 0 te e v n xs)(fR:xs.length=cs.length)(hrel:∀i (hi:i<cs.length),RelD w F cs[i] (xs.getD i undef))
  (kP:∀b,v.ownBlock=some b->ρ k=some (.arr v))(hst:∀v',1000000<=k->Stab k (ρ k) (some (.arr v')))
  (y:Operand){m:Nat}{ys:List D}(hs:srcV P st.ob k e tx (ev st.fr y)=some (m,ys))(je:n+m<=maxLen)(hbytes:(n+m)*bytes<=140737488355328):
  ∃v' w' ρ',(Builtin.append_ #[t,tx] ty #[v,a.eval y]).run P w=.ok v' w' /\Rel N F ρ' ((st.newOb k (.arr te e (n+m) (cs++ys))).put (some d) (.cell (.own k))) (a.put (some d) v') w' /\Fr F ρ w F ρ' w' /\Tch (.new k (.arr te e (n+m) (cs++ys)) d (.cell (.own k))) ρ w ρ' w' :=by
 obtain⟨hu,i,z,hi,hz,iq,rfl,rfl⟩:=v0j ht;obtain⟨news,gE,bP,mc⟩:=j1i h (a0d h y) hs;obtain⟨v',w',hrun,hown',hg,hb'⟩:=g0f (P:=P) t tx ty te i z hu hi hz iq v n xs hown _ m news gE je hbytes;have hF:∀b,F b->w'.heap[b]?=w.heap[b]?:=λb hb=>hg.block b (h.rw.lt b hb) λe=>h.rw.dis b hb ⟨k,_,kP b e.symm,e.symm⟩;obtain⟨h1,h2⟩:=h.setOb (w' :=w') hg.os hg.tape hg.output hg.size k (.arr v') (.arr te i.size (n+m) (cs++ys))
  (λb hb aS=>hg.block b hb λe=>aS _ (kP b e.symm) e.symm)
  (λb hb=>⟨(hb' b hb).1,(hb' b hb).2.imp id λe=>⟨_,kP b e,e⟩⟩)
  (by
   refine .arr _ _ _ _ v' (xs++news) (Env.set_same _ _ _) hown' (by simp[fR,bP]) λj hj=>?_;by_cases aJ:j<cs.length
   ·have e1:(xs++news).getD j undef=xs.getD j undef:=by
     rw[r2o,s2w (by omega),r2o]
    rw[e1,t2e aJ];exact(hrel j aJ).mono hF λ_ h=>h
   ·have e1:(xs++news).getD j undef=news.getD (j - cs.length) undef:=by
     rw[r2o,t2c (by omega),r2o,fR]
    rw[e1,List.getElem_append_right (by omega)];exact(mc _ (by rw[r2t]at hj;omega)).mono hF λ_ h=>h) (hst _)
 exact⟨v',w',_,hrun,h1.put d hd (.cell _ _ (.own _ _ λu cK=>by rw[Env.set_same]at cK;cases cK;rfl)),h2,⟨λj hj=>Env.set_other _ _ _ λe=>hj (by rw[e];rfl),λb hb hn=>hg.block b hb λe=>hn k _ rfl (kP b e.symm) e.symm⟩⟩
theorem IEff.append {i d k e n m bytes:Nat}{t tx ty te:TypeId}{s y:Operand}{pos:String}{after:Array Edge}{guard:Option (Nat×Bool)}{cs ys zs:List D}{n' :Nat}
  (ho:opK ops st.fr i=some ⟨some d,.call {callee:=.builtin .append,args:=#[s,y],argTypes:=#[t,tx]},ty,pos,after,guard⟩)(gG:ev st.fr s=.cell (.own k))(hk:lkO st.ob k=.arr te e n cs)
  (ht:rowB P t=some (te,e,bytes))(hd:Nat.blt d N=true)(hs:srcV P st.ob k e tx (ev st.fr y)=some (m,ys))(je:n+m<=maxLen)(hbytes:(n+m)*bytes<=140737488355328)
  (hn' :n+m=n')(hz:cs++ys=zs)(eH:Nat.blt k 2000000=true):IEff P N ops i st (.new k (.arr te e n' zs) d (.cell (.own k))):=by
 subst hn';subst hz;refine .of_opK ho ⟨rfl,λF ρ a w hr=>?_⟩;have aH:=hr.ob k;rw[hk]at aH;cases aH with
 |arr t' e' n' cT u xs lQ hown hz hh=>
  have hv:a.eval s=u:=by
   have:=a0d hr s;rw[gG]at this;generalize a.eval s=sv at this;cases this with
   |cell c v h=>cases h with
    |own k v h=>exact h u lQ
  obtain⟨v',w',ρ',hrun,h1,h2,h3⟩:=s0d hr ht ty k d (a0e hd) hown hz hh (λb hb=>lQ) (λv' _=>by rw[lQ];exact λh=>absurd (a0e eH) (by omega)) y hs je hbytes;refine⟨v',w',F,ρ',.inl ?_,h1,h2,h3⟩;simp only[execOp,resolve,invoke,builtin,Sem.run_bind,Sem.run_pure,Result.andThen_ok,List.map_toArray,r2z,t2u,hv,hrun]
theorem IEff.appendNil {i d e m bytes:Nat}{t tx ty te:TypeId}{s y:Operand}{pos:String}{after:Array Edge}{guard:Option (Nat×Bool)}{ys:List D}
  (ho:opK ops st.fr i=some ⟨some d,.call {callee:=.builtin .append,args:=#[s,y],argTypes:=#[t,tx]},ty,pos,after,guard⟩)(gG:ev st.fr s=.cell (.d (.sc (.slice none 0 0))))
  (ht:rowB P t=some (te,e,bytes))(hd:Nat.blt d N=true)(hs:srcV P st.ob d e tx (ev st.fr y)=some (m,ys))(je:m<=maxLen)(hbytes:m*bytes<=140737488355328):
  IEff P N ops i st (.new d (.arr te e m ys) d (.cell (.own d))):=by
 refine .of_opK ho ⟨rfl,λF ρ a w hr=>?_⟩;have hv:=(a0i (a0d hr s) (by rw[gG];rfl)).1;obtain⟨v',w',ρ',hrun,h1,h2,h3⟩:=s0d (n:=0) (cs:=[]) (xs:=[]) hr ht ty d d (a0e hd) (World.ownsRow_nil w 0 te e) rfl (λi hi=>by simp at hi) (λb hb=>by cases hb) (λv' hk=>by have:=hr.df.2;have:=a0e hd;omega) y hs (by omega) (by rw[s2u];exact hbytes);rw[s2u,s2m]at h1 h3;refine⟨v',w',F,ρ',.inl ?_,h1,h2,h3⟩;simp only[execOp,resolve,invoke,builtin,Sem.run_bind,Sem.run_pure,Result.andThen_ok,List.map_toArray,r2z,t2u,hv,hrun]
theorem Rel.adopt {F:Nat->Prop}{ρ:Env}{a:Act}{w:World}(h:Rel N F ρ st a w)(i k:Nat)(te e:Nat)(hk:Nat.blt k N=true)(hi:lkF st.fr i=.cell (.d (.sc (.slice none 0 0)))):
  ∃ρ',Rel N F ρ' {(st.newOb k (.arr te e 0 []))with fr:=setF i (.cell (.own k)) (st.newOb k (.arr te e 0 [])).fr} a w/\Fr F ρ w F ρ' w:=by
 obtain⟨h1,h2⟩:=h.setOb (w' :=w) rfl rfl rfl (r2q _) k (.arr (.slice none 0 0)) (.arr te e 0 []) (λ_ _ _=>rfl) (λb hb=>by cases hb)
  (.arr _ _ _ _ _ [] (Env.set_same _ _ _) (World.ownsRow_nil w 0 te e) rfl λi hi=>by simp at hi) (λaG=>by have:=h.df.2;have:=a0e hk;omega)
 refine⟨_,⟨h1.rw,λj=>?_,h1.ob,h1.sz,h1.df⟩,h2⟩;by_cases e1:j=i
 ·subst e1
  rw[f0y];have:=h.fr j;rw[hi]at this;have hv:=(a0i this (u:=.slice none 0 0) rfl).1;rw[hv];exact .cell _ _ (.own _ _ λu hu=>by rw[Env.set_same]at hu;cases hu;rfl)
 ·rw[f0e _ _ _ _ e1]
  have:=h1.fr j;unfold AV.dropW;cases hx:(lkF (st.newOb k (.arr te e 0 [])).fr j).uses i with
  |true=>exact .junk _
  |false=>exact this
def AC.frz (k:Nat)(x:D):AC->AC
 |.own j=>bif Nat.beq j k then .d x else .own j
 |.fn f fs cs=>AC.kill k (.fn f fs cs)
 |c=>c
mutual
def AV.frz (k:Nat)(x:D):AV->AV
 |.cell c=>.cell (c.frz k x)
 |.agg cs=>d1a (cs.map (AC.frz k x))
 |.aggD cs=>.aggD cs
 |.tup vs=>.tup (AV.frzL k x vs)
 |.whn g w y=>.whn g w (AV.frz k x y)
 |.junk=>.junk
def AV.frzL (k:Nat)(x:D):List AV->List AV
 |[]=>[]
 |v::r=>AV.frz k x v::AV.frzL k x r
end
omit [Tabs]in
theorem AV.frzL_eq (k:Nat)(x:D)(l:List AV):AV.frzL k x l=l.map (AV.frz k x):=by
 induction l with
 |nil=>simp[AV.frzL]
 |cons v r ih=>simp[AV.frzL,ih]
def AObj.frz (k:Nat)(x:D):AObj->AObj
 |.box cs ty=>.box (cs.map (AC.frz k x)) ty
 |o=>o
def AC.frzM (k:Nat)(x:D):AC->AC
 |.mpr j=>bif Nat.beq j k then .d x else .mpr j
 |.fn f fs cs=>AC.kill k (.fn f fs cs)
 |c=>c
mutual
def AV.frzM (k:Nat)(x:D):AV->AV
 |.cell c=>.cell (c.frzM k x)
 |.agg cs=>d1a (cs.map (AC.frzM k x))
 |.aggD cs=>.aggD cs
 |.tup vs=>.tup (AV.frzML k x vs)
 |.whn g w y=>.whn g w (AV.frzM k x y)
 |.junk=>.junk
def AV.frzML (k:Nat)(x:D):List AV->List AV
 |[]=>[]
 |v::r=>AV.frzM k x v::AV.frzML k x r
end
omit [Tabs]in
theorem AV.frzML_eq (k:Nat)(x:D)(l:List AV):AV.frzML k x l=l.map (AV.frzM k x):=by
 induction l with
 |nil=>simp[AV.frzML]
 |cons v r ih=>simp[AV.frzML,ih]
def AObj.frzM (k:Nat)(x:D):AObj->AObj
 |.box cs ty=>.box (cs.map (AC.frzM k x)) ty
 |o=>o
def AC.frzB (k:Nat)(x:List D):AC->AC
 |.ptr j off=>bif Nat.beq j k then .d (.rp (x.drop off))else .ptr j off
 |.fn f fs cs=>AC.kill k (.fn f fs cs)
 |c=>c
mutual
def AV.frzB (k:Nat)(x:List D):AV->AV
 |.cell c=>.cell (c.frzB k x)
 |.agg cs=>d1a (cs.map (AC.frzB k x))
 |.aggD cs=>.aggD cs
 |.tup vs=>.tup (AV.frzBL k x vs)
 |.whn g w y=>.whn g w (AV.frzB k x y)
 |.junk=>.junk
def AV.frzBL (k:Nat)(x:List D):List AV->List AV
 |[]=>[]
 |v::r=>AV.frzB k x v::AV.frzBL k x r
end
omit [Tabs]in
theorem AV.frzBL_eq (k:Nat)(x:List D)(l:List AV):AV.frzBL k x l=l.map (AV.frzB k x):=by
 induction l with
 |nil=>simp[AV.frzBL]
 |cons v r ih=>simp[AV.frzBL,ih]
def AObj.frzB (k:Nat)(x:List D):AObj->AObj
 |.box cs ty=>.box (cs.map (AC.frzB k x)) ty
 |o=>o
def ASt.freeze (st:ASt)(k:Nat):ASt:=
 match lkO st.ob k with
 |.arr _ e n cs=>{fr:=st.fr.map λp=>(p.1,p.2.frz k (.sl e n cs)),ob:=ASt.setO k .gone (st.ob.map λp=>(p.1,p.2.frz k (.sl e n cs)))}
 |.na _ e xs=>{fr:=st.fr.map λp=>(p.1,p.2.frz k (.nl e xs)),ob:=ASt.setO k .gone (st.ob.map λp=>(p.1,p.2.frz k (.nl e xs)))}
 |.mp _ kt vt l _=>{fr:=st.fr.map λp=>(p.1,p.2.frzM k (.nm kt vt l)),ob:=ASt.setO k .gone (st.ob.map λp=>(p.1,p.2.frzM k (.nm kt vt l)))}
 |.box cs _=>match allD cs with
  |some ds=>{fr:=st.fr.map λp=>(p.1,p.2.frzB k ds),ob:=ASt.setO k .gone (st.ob.map λp=>(p.1,p.2.frzB k ds))}
  |none=>st
 |.mr tm _ kt e l none=>bif Nat.blt k 1000000 then st.moved k (.mp tm kt (.lst e) l false)else st
 |_=>st
omit [Tabs]in
theorem RelAC.frz {w:World}{F F' :Nat->Prop}{ρ ρ' :Env}{k:Nat}{u:Value}{x:D}(hk:ρ k=some (.arr u))(aI:offK k ρ ρ')(hn:ρ' k=none)(hs:∀b,F b->F' b)(hx:RelD w F' x u){c:AC}{v:Value}
  (h:RelAC w F ρ c v):RelAC w F' ρ' (c.frz k x) v:=by
 cases h with
 |d y v h=>exact .d _ _ (h.mono (λ_ _=>rfl) hs)
 |own j v h=>
  simp only[AC.frz];cases hb:Nat.beq j k with
  |true=>
   have:=r2h hb;subst this;rw[h u hk];exact .d _ _ hx
  |false=>
   exact .own _ _ λu hu=>h u (by rw [<-aI j (s2d hb)];exact hu)
 |ptr j off v h=>
  refine .ptr _ _ _ λb hb=>?_;by_cases e:j=k
  ·subst e
   rw[hn]at hb;cases hb
  ·exact h b (by rw [<-aI j e];exact hb)
 |elt j e q off v h=>
  refine .elt _ _ _ _ _ λu' hb=>?_;by_cases e:j=k
  ·subst e
   rw[hn]at hb;cases hb
  ·exact h u' (by rw [<-aI j e];exact hb)
 |osl j e q off v h=>
  refine .osl _ _ _ _ _ λu' hb=>?_;by_cases e:j=k
  ·subst e
   rw[hn]at hb;cases hb
  ·exact h u' (by rw [<-aI j e];exact hb)
 |pn j v h=>
  refine .pn _ _ λb hb=>?_;by_cases e:j=k
  ·subst e
   rw[hn]at hb;cases hb
  ·exact h b (by rw [<-aI j e];exact hb)
 |ifo t j v h=>
  refine .ifo _ _ _ λb hb=>?_;by_cases e:j=k
  ·subst e
   rw[hn]at hb;cases hb
  ·exact h b (by rw [<-aI j e];exact hb)
 |mpr j v h=>
  refine .mpr _ _ λl b hb hl=>?_;by_cases e:j=k
  ·subst e
   rw[hn]at hb;cases hb
  ·exact h l b (by rw [<-aI j e];exact hb) hl
 |row j i v h=>
  refine .row _ _ _ λb us hb=>?_;by_cases e:j=k
  ·subst e
   rw[hn]at hb;cases hb
  ·exact h b us (by rw [<-aI j e];exact hb)
 |fn f fs cs vs us h1 h2 hf hc=>exact(RelAC.kill aI (.fn f fs cs vs us h1 h2 hf hc)).mono (λ_ _=>rfl) hs λ_ _ h=>h
 |junk v=>exact .junk v
omit [Tabs]in
theorem RelAV.frz {w:World}{F F' :Nat->Prop}{ρ ρ' :Env}{tm:Array Value}{k:Nat}{u:Value}{x:D}(hk:ρ k=some (.arr u))(aI:offK k ρ ρ')(hn:ρ' k=none)(hs:∀b,F b->F' b)(hx:RelD w F' x u){c:AV}{v:Value}
  (h:RelAV w F ρ tm c v):RelAV w F' ρ' tm (c.frz k x) v:=by
 induction h with
 |cell c v h=>exact .cell _ _ (h.frz hk aI hn hs hx)
 |agg cs arr hz h=>
  simp only[AV.frz];exact c0r (.agg _ _ (by simpa using hz) λi hi=>by simpa using(h i (by simpa using hi)).frz hk aI hn hs hx)
 |aggD cs arr hz h=>exact .aggD _ _ hz λi hi=>(h i hi).mono (λ_ _=>rfl) hs
 |tup vs arr hz h ih=>
  simp only[AV.frz,AV.frzL_eq];exact .tup _ _ (by simpa using hz) λi hi=>by simpa using ih i (by simpa using hi)
 |whn g want x v h h' ih=>exact .whn _ _ _ _ ih h'
 |junk v=>exact .junk v
omit [Tabs]in
theorem RelAC.frzM {w:World}{F F' :Nat->Prop}{ρ ρ' :Env}{k:Nat}{b0:Nat}{x:D}(hk:ρ k=some (.box b0))(aI:offK k ρ ρ')(hn:ρ' k=none)(hs:∀b,F b->F' b)(hx:RelD w F' x (.map (some b0))){c:AC}{v:Value}
  (h:RelAC w F ρ c v):RelAC w F' ρ' (c.frzM k x) v:=by
 cases h with
 |d y v h=>exact .d _ _ (h.mono (λ_ _=>rfl) hs)
 |own j v h=>
  refine .own _ _ λu hb=>?_;by_cases e:j=k
  ·subst e
   rw[hn]at hb;cases hb
  ·exact h u (by rw [<-aI j e];exact hb)
 |ptr j off v h=>
  refine .ptr _ _ _ λb hb=>?_;by_cases e:j=k
  ·subst e
   rw[hn]at hb;cases hb
  ·exact h b (by rw [<-aI j e];exact hb)
 |elt j e q off v h=>
  refine .elt _ _ _ _ _ λu' hb=>?_;by_cases e:j=k
  ·subst e
   rw[hn]at hb;cases hb
  ·exact h u' (by rw [<-aI j e];exact hb)
 |osl j e q off v h=>
  refine .osl _ _ _ _ _ λu' hb=>?_;by_cases e:j=k
  ·subst e
   rw[hn]at hb;cases hb
  ·exact h u' (by rw [<-aI j e];exact hb)
 |pn j v h=>
  refine .pn _ _ λb hb=>?_;by_cases e:j=k
  ·subst e
   rw[hn]at hb;cases hb
  ·exact h b (by rw [<-aI j e];exact hb)
 |ifo t j v h=>
  refine .ifo _ _ _ λb hb=>?_;by_cases e:j=k
  ·subst e
   rw[hn]at hb;cases hb
  ·exact h b (by rw [<-aI j e];exact hb)
 |mpr j v h=>
  simp only[AC.frzM];cases hb:Nat.beq j k with
  |true=>
   have:=r2h hb;subst this;rw[h _ b0 hk rfl];exact .d _ _ hx
  |false=>
   exact .mpr _ _ λu b hu=>h u b (by rw [<-aI j (s2d hb)];exact hu)
 |row j i v h=>
  refine .row _ _ _ λb us hb=>?_;by_cases e:j=k
  ·subst e
   rw[hn]at hb;cases hb
  ·exact h b us (by rw [<-aI j e];exact hb)
 |fn f fs cs vs us h1 h2 hf hc=>exact(RelAC.kill aI (.fn f fs cs vs us h1 h2 hf hc)).mono (λ_ _=>rfl) hs λ_ _ h=>h
 |junk v=>exact .junk v
omit [Tabs]in
theorem RelAV.frzM {w:World}{F F' :Nat->Prop}{ρ ρ' :Env}{tm:Array Value}{k:Nat}{b0:Nat}{x:D}(hk:ρ k=some (.box b0))(aI:offK k ρ ρ')(hn:ρ' k=none)(hs:∀b,F b->F' b)(hx:RelD w F' x (.map (some b0))){c:AV}{v:Value}
  (h:RelAV w F ρ tm c v):RelAV w F' ρ' tm (c.frzM k x) v:=by
 induction h with
 |cell c v h=>exact .cell _ _ (h.frzM hk aI hn hs hx)
 |agg cs arr hz h=>
  simp only[AV.frzM];exact c0r (.agg _ _ (by simpa using hz) λi hi=>by simpa using(h i (by simpa using hi)).frzM hk aI hn hs hx)
 |aggD cs arr hz h=>exact .aggD _ _ hz λi hi=>(h i hi).mono (λ_ _=>rfl) hs
 |tup vs arr hz h ih=>
  simp only[AV.frzM,AV.frzML_eq];exact .tup _ _ (by simpa using hz) λi hi=>by simpa using ih i (by simpa using hi)
 |whn g want x v h h' ih=>exact .whn _ _ _ _ ih h'
 |junk v=>exact .junk v
omit [Tabs]in
theorem RelAC.frzB {w:World}{F F' :Nat->Prop}{ρ ρ' :Env}{k:Nat}{b0:Nat}{x:List D}(hk:ρ k=some (.box b0))(aI:offK k ρ ρ')(hn:ρ' k=none)(hs:∀b,F b->F' b)(hx:∀off,RelD w F' (.rp (x.drop off)) (.pointer (some ⟨b0,off,none⟩))){c:AC}{v:Value}
  (h:RelAC w F ρ c v):RelAC w F' ρ' (c.frzB k x) v:=by
 cases h with
 |d y v h=>exact .d _ _ (h.mono (λ_ _=>rfl) hs)
 |own j v h=>
  refine .own _ _ λu hb=>?_;by_cases e:j=k
  ·subst e
   rw[hn]at hb;cases hb
  ·exact h u (by rw [<-aI j e];exact hb)
 |ptr j off v h=>
  simp only[AC.frzB];cases hb:Nat.beq j k with
  |true=>
   have:=r2h hb;subst this;rw[h b0 hk];exact .d _ _ (hx off)
  |false=>
   exact .ptr _ _ _ λu hu=>h u (by rw [<-aI j (s2d hb)];exact hu)
 |elt j e q off v h=>
  refine .elt _ _ _ _ _ λu' hb=>?_;by_cases e:j=k
  ·subst e
   rw[hn]at hb;cases hb
  ·exact h u' (by rw [<-aI j e];exact hb)
 |osl j e q off v h=>
  refine .osl _ _ _ _ _ λu' hb=>?_;by_cases e:j=k
  ·subst e
   rw[hn]at hb;cases hb
  ·exact h u' (by rw [<-aI j e];exact hb)
 |pn j v h=>
  refine .pn _ _ λb hb=>?_;by_cases e:j=k
  ·subst e
   rw[hn]at hb;cases hb
  ·exact h b (by rw [<-aI j e];exact hb)
 |ifo t j v h=>
  refine .ifo _ _ _ λb hb=>?_;by_cases e:j=k
  ·subst e
   rw[hn]at hb;cases hb
  ·exact h b (by rw [<-aI j e];exact hb)
 |mpr j v h=>
  refine .mpr _ _ λl b hb hl=>?_;by_cases e:j=k
  ·subst e
   rw[hn]at hb;cases hb
  ·exact h l b (by rw [<-aI j e];exact hb) hl
 |row j i v h=>
  refine .row _ _ _ λb us hb=>?_;by_cases e:j=k
  ·subst e
   rw[hn]at hb;cases hb
  ·exact h b us (by rw [<-aI j e];exact hb)
 |fn f fs cs vs us h1 h2 hf hc=>exact(RelAC.kill aI (.fn f fs cs vs us h1 h2 hf hc)).mono (λ_ _=>rfl) hs λ_ _ h=>h
 |junk v=>exact .junk v
omit [Tabs]in
theorem RelAV.frzB {w:World}{F F' :Nat->Prop}{ρ ρ' :Env}{tm:Array Value}{k:Nat}{b0:Nat}{x:List D}(hk:ρ k=some (.box b0))(aI:offK k ρ ρ')(hn:ρ' k=none)(hs:∀b,F b->F' b)(hx:∀off,RelD w F' (.rp (x.drop off)) (.pointer (some ⟨b0,off,none⟩))){c:AV}{v:Value}
  (h:RelAV w F ρ tm c v):RelAV w F' ρ' tm (c.frzB k x) v:=by
 induction h with
 |cell c v h=>exact .cell _ _ (h.frzB hk aI hn hs hx)
 |agg cs arr hz h=>
  simp only[AV.frzB];exact c0r (.agg _ _ (by simpa using hz) λi hi=>by simpa using(h i (by simpa using hi)).frzB hk aI hn hs hx)
 |aggD cs arr hz h=>exact .aggD _ _ hz λi hi=>(h i hi).mono (λ_ _=>rfl) hs
 |tup vs arr hz h ih=>
  simp only[AV.frzB,AV.frzBL_eq];exact .tup _ _ (by simpa using hz) λi hi=>by simpa using ih i (by simpa using hi)
 |whn g want x v h h' ih=>exact .whn _ _ _ _ ih h'
 |junk v=>exact .junk v
omit [Tabs]in
theorem i0w{w:World}{F F' :Nat->Prop}{te:TypeId}{e n:Nat}{u:Value}{xs:List Value}{cs:List D}(ho:w.ownsRow 0 te e u n xs)(hz:xs.length=cs.length)(hh:∀i (h:i<cs.length),RelD w F cs[i] (xs.getD i undef))
  (hs:∀b,F b->F' b)(hb:∀b,u.ownBlock=some b->F' b):RelD w F' (.sl e n cs) u:=by
 rcases ho.2 with⟨rfl,rfl⟩| ⟨g,cap,cur,rfl,eJ,hg,jI,dX,bE,bK⟩
 ·have hx:xs=[]:=s2f (by simpa using ho.1)
  subst hx;have:cs=[]:=s2f hz.symm;subst this;exact .nil _ _ _
 ·refine .sl e n cs g 0 cap (λi=>xs.getD i undef) (hb g rfl) (by rw [<-hz,ho.1]) jI (λi hi=>?_) λi hi=>(hh i hi).mono (λ_ _=>rfl) hs
  have:=ho.cells (g:=g) rfl i (xs.getD i undef) (by simp[r2o,show i<xs.length by omega]);rw[Addr.add_lit]at this;exact this
theorem Rel.freezeD1 {F:Nat->Prop}{ρ:Env}{a:Act}{w:World}(h:Rel N F ρ st a w)(k:Nat)(D0:D){te:TypeId}{e n:Nat}{cs:List D}(ho:RelOb w F ρ k (.arr te e n cs))(hD0:∀F' u,RelD w F' (.sl e n cs) u->RelD w F' D0 u):
  ∃F',Rel N F' (ρ.set k none) {fr:=st.fr.map λp=>(p.1,p.2.frz k D0),ob:=ASt.setO k .gone (st.ob.map λp=>(p.1,p.2.frz k D0))} a w/\Fr F ρ w F' (ρ.set k none) w:=by
  cases ho with
  |arr t e n cs u xs hk ho hz hh=>
   let F' :Nat->Prop:=λb=>F b\/u.ownBlock=some b
   have aI:=Env.set_off ρ k none;have hn:(ρ.set k none) k=none:=Env.set_same _ _ _;have aP:∀b,F b->F' b:=λb hb=>.inl hb;have hD:RelD w F' D0 u:=hD0 _ _ (i0w ho hz hh aP λb hb=>.inr hb);have bH:∀j l,(ρ.set k none) j=some l->j≠k/\ρ j=some l:=by
    intro j l hj;by_cases e:j=k
    ·subst e;rw[hn]at hj;cases hj
    ·rw[Env.set_other _ _ _ e]at hj;exact⟨e,hj⟩
   refine⟨F',⟨⟨?_,?_,?_,h.rw.tab_of (λ_ _=>rfl) aP⟩,?_,?_,h.sz,h.df⟩,⟨rfl,rfl,rfl,r2q _,aP,λ_ _ _=>rfl,?_,?_⟩⟩
   ·rintro b hb ⟨j,l,hj,hl⟩
    obtain⟨aS,bN⟩:=bH j l hj;rcases hb with hb|hb
    ·exact h.rw.dis b hb ⟨j,l,bN,hl⟩
    ·exact aS (h.rw.inj _ _ _ _ b bN hk hl hb)
   ·rintro b (hb|hb)
    ·exact h.rw.lt b hb
    ·exact(ho.lt b hb).2
   ·intro i j l l' b hi hj hb hb'
    exact h.rw.inj _ _ _ _ b (bH i l hi).2 (bH j l' hj).2 hb hb'
   ·intro i
    simp only;rw[d0i (AV.frz k D0) (by simp[AV.frz])];exact(h.fr i).frz hk aI hn aP hD
   ·intro j
    simp only;by_cases ej:j=k
    ·subst ej
     rw[a0o];exact .gone hn
    ·rw[a0j _ _ _ _ ej,e0b (AObj.frz k D0) rfl]
     have hj:=h.ob j;have hkj:(ρ.set k none) j=ρ j:=Env.set_other _ _ _ ej;generalize lkO st.ob j=o at hj
     induction hj with
     |gone hj=>exact .gone (hkj.trans hj)
     |na t ee xs h ih=>exact .na t ee xs ih
     |any o h ih=>exact .any _ ih
     |box cT oty b c t aQ aG hb hs cS=>exact .box _ _ b c t aQ (hkj.trans aG) hb (by simpa using hs) λi hi=>by simpa using(cS i (by simpa using hi)).frz hk aI hn aP hD
     |arr t e n cT u xs aG ho' hz cS=>exact .arr t e n cT u xs (hkj.trans aG) ho' hz λi hi=>(cS i hi).mono (λ_ _=>rfl) aP
     |tab b o aG hF hb=>exact .tab b o (hkj.trans aG) (aP b hF) hb
     |it s pos b aG hb=>exact .it s pos b (hkj.trans aG) hb
     |fz t xs u aG h=>exact .fz t xs u (hkj.trans aG) h
     |mi kt vt l cur b mo si se la aG hb hm=>exact .mi kt vt l cur b mo si se la (hkj.trans aG) hb (hm.mono (λ_ _=>rfl) aP)
     |mp t kt vt l b es c aG hb hz cS dn hdn=>exact .mp t kt vt l b es c (hkj.trans aG) hb hz (λi h1 h2=>⟨(cS i h1 h2).1.mono (λ_ _=>rfl) aP,(cS i h1 h2).2.mono (λ_ _=>rfl) aP⟩) dn hdn
     |mr tm te kt e l pd b es c pv us aG hb hM=>exact .mr tm te kt e l pd b es c pv us (hkj.trans aG) hb (hM.mono (λ_ _=>rfl) aP λ_ _ _ _=>rfl)
   ·rintro b hb ((hf|hf)| ⟨j,l,hj,hl⟩)
    ·exact .inl hf
    ·exact .inr ⟨k,_,hk,hf⟩
    ·exact .inr ⟨j,l,(bH j l hj).2,hl⟩
   ·intro j hj
    by_cases ej:j=k
    ·subst ej
     rw[hn];cases ρ j<;>trivial
    ·rw[Env.set_other _ _ _ ej]
     exact Stab.refl _ _
omit [Tabs]in
theorem RelE.cells {w:World}{F:Nat->Prop}{τ:Ev.Ty}{x:τ.den}{v:Value}(h:RelE w F τ x v):∃a:Array Value,a.size=(Esp.cells τ x).length/\v=r0f τ.sz a/\∀j (h:j<(Esp.cells τ x).length),RelD w F (Esp.cells τ x)[j] (a.getD j undef):=by
 unfold RelE at h;split at h
 ·rename_i hz
  obtain⟨c,h1,h2⟩:=h;refine⟨#[v],by simp[h1],by simp[r0f,hz],λj hj=>?_⟩;have jl:j=0:=by rw[h1]at hj;simpa using hj
  subst jl;simpa[h1]using h2
 ·rename_i hz
  obtain⟨arr,h1,h2,h3⟩:=h;exact⟨arr,h2,by rw[r0f,if_neg hz];exact h1,h3⟩
omit [Tabs]in
theorem RelE.of_cells {w:World}{F:Nat->Prop}{τ:Ev.Ty}{x:τ.den}{a:Array Value}(hz:a.size=(Esp.cells τ x).length)(h:∀j (h:j<(Esp.cells τ x).length),RelD w F (Esp.cells τ x)[j] (a.getD j undef)):RelE w F τ x (r0f τ.sz a):=by
 unfold RelE r0f;split
 ·rename_i hs
  have hl:=a0u τ x;rw[hs]at hl
  match hc:Esp.cells τ x,hl with
  |[c],_=>
   refine⟨c,rfl,?_⟩;have:=h 0 (by rw[hc];simp);simpa[hc]using this
 ·exact⟨a,rfl,hz,h⟩
omit [Tabs]in
theorem d1p{w:World}{F:Nat->Prop}{kt vt:Ev.Ty}{l:List (kt.den×vt.den)}{b:Nat}{es:Array MapEntry}{clock:Nat}(hF:F b)(hb:w.heap[b]?=some (.map es clock))(hs:es.size=l.length)
  (h:∀i (h:i<l.length) (h' :i<es.size),RelE w F kt l[i].1 es[i].key/\RelE w F vt l[i].2 es[i].val)(hst:StOk es clock):RelD w F (.nm kt vt l) (.map (some b)):=by
 have hk:∀i,∃a:Array Value,∀(h:i<l.length) (h' :i<es.size),a.size=(cells kt l[i].1).length/\es[i].key=r0f kt.sz a/\∀j (h:j<(cells kt l[i].1).length),RelD w F (cells kt l[i].1)[j] (a.getD j undef):=by
  intro i;by_cases hi:i<l.length
  ·obtain⟨a,h1,h2,h3⟩:=(h i hi (by omega)).1.cells
   exact⟨a,λ_ _=>⟨h1,h2,h3⟩⟩
  ·exact⟨#[],λh=>absurd h hi⟩
 have hv:∀i,∃a:Array Value,∀(h:i<l.length) (h' :i<es.size),a.size=(cells vt l[i].2).length/\es[i].val=r0f vt.sz a/\∀j (h:j<(cells vt l[i].2).length),RelD w F (cells vt l[i].2)[j] (a.getD j undef):=by
  intro i;by_cases hi:i<l.length
  ·obtain⟨a,h1,h2,h3⟩:=(h i hi (by omega)).2.cells
   exact⟨a,λ_ _=>⟨h1,h2,h3⟩⟩
  ·exact⟨#[],λh=>absurd h hi⟩
 obtain⟨ka,l8⟩:=Classical.axiomOfChoice hk;obtain⟨va,lh⟩:=Classical.axiomOfChoice hv;exact .nm kt vt l b es clock ka va hF hb hs (λi hi=>⟨(l8 i hi (by omega)).1,(lh i hi (by omega)).1⟩) (λi hi=>⟨(l8 i (by omega) hi).2.1,(lh i (by omega) hi).2.1⟩) (λi hi j hj=>(l8 i hi (by omega)).2.2 j hj) (λi hi j hj=>(lh i hi (by omega)).2.2 j hj) hst
theorem Rel.freezeM1 {F:Nat->Prop}{ρ:Env}{a:Act}{w:World}(h:Rel N F ρ st a w)(k:Nat){te:TypeId}{kt vt:Ev.Ty}{l:List (kt.den×vt.den)}{dn:Bool}(ho:RelOb w F ρ k (.mp te kt vt l dn)):
  ∃F',Rel N F' (ρ.set k none) {fr:=st.fr.map λp=>(p.1,p.2.frzM k (.nm kt vt l)),ob:=ASt.setO k .gone (st.ob.map λp=>(p.1,p.2.frzM k (.nm kt vt l)))} a w/\Fr F ρ w F' (ρ.set k none) w:=by
  cases ho with
  |mp t kt vt l b0 es clock hk hb hs hh _ hdn0=>
   let F' :Nat->Prop:=λb=>F b\/b0=b
   have aI:=Env.set_off ρ k none;have hn:(ρ.set k none) k=none:=Env.set_same _ _ _;have aP:∀b,F b->F' b:=λb hb=>.inl hb;have hD:RelD w F' (.nm kt vt l) (.map (some b0)):=d1p (.inr rfl) hb hs (λi h1 h2=>⟨(hh i h1 h2).1.mono (λ_ _=>rfl) aP,(hh i h1 h2).2.mono (λ_ _=>rfl) aP⟩) hdn0.2;have bH:∀j l,(ρ.set k none) j=some l->j≠k/\ρ j=some l:=by
    intro j l hj;by_cases e:j=k
    ·subst e;rw[hn]at hj;cases hj
    ·rw[Env.set_other _ _ _ e]at hj;exact⟨e,hj⟩
   refine⟨F',⟨⟨?_,?_,?_,h.rw.tab_of (λ_ _=>rfl) aP⟩,?_,?_,h.sz,h.df⟩,⟨rfl,rfl,rfl,r2q _,aP,λ_ _ _=>rfl,?_,?_⟩⟩
   ·rintro b hb ⟨j,l,hj,hl⟩
    obtain⟨aS,bN⟩:=bH j l hj;rcases hb with hb|hb
    ·exact h.rw.dis b hb ⟨j,l,bN,hl⟩
    ·exact aS (h.rw.inj _ _ _ _ b bN hk hl (by rw[hb];rfl))
   ·rintro b (hb|hb)
    ·exact h.rw.lt b hb
    ·subst hb;exact(r2r.1 ‹w.heap[b0]?=_›).1
   ·intro i j l l' b hi hj hb hb'
    exact h.rw.inj _ _ _ _ b (bH i l hi).2 (bH j l' hj).2 hb hb'
   ·intro i
    simp only;rw[d0i (AV.frzM k (.nm kt vt l)) (by simp[AV.frzM])];exact(h.fr i).frzM hk aI hn aP hD
   ·intro j
    simp only;by_cases ej:j=k
    ·subst ej
     rw[a0o];exact .gone hn
    ·rw[a0j _ _ _ _ ej,e0b (AObj.frzM k (.nm kt vt l)) rfl]
     have hj:=h.ob j;have hkj:(ρ.set k none) j=ρ j:=Env.set_other _ _ _ ej;generalize lkO st.ob j=o at hj
     induction hj with
     |gone hj=>exact .gone (hkj.trans hj)
     |na t ee xs h ih=>exact .na t ee xs ih
     |any o h ih=>exact .any _ ih
     |box cT oty b c t aQ aG hb hs cS=>exact .box _ _ b c t aQ (hkj.trans aG) hb (by simpa using hs) λi hi=>by simpa using(cS i (by simpa using hi)).frzM hk aI hn aP hD
     |arr t e n cT u xs aG ho' hz cS=>exact .arr t e n cT u xs (hkj.trans aG) ho' hz λi hi=>(cS i hi).mono (λ_ _=>rfl) aP
     |tab b o aG hF hb=>exact .tab b o (hkj.trans aG) (aP b hF) hb
     |it s pos b aG hb=>exact .it s pos b (hkj.trans aG) hb
     |fz t xs u aG h=>exact .fz t xs u (hkj.trans aG) h
     |mi kt vt l cur b mo si se la aG hb hm=>exact .mi kt vt l cur b mo si se la (hkj.trans aG) hb (hm.mono (λ_ _=>rfl) aP)
     |mp t kt' fg l' b es c aG hb hz cS iJ hdn=>exact .mp t kt' fg l' b es c (hkj.trans aG) hb hz (λi h1 h2=>⟨(cS i h1 h2).1.mono (λ_ _=>rfl) aP,(cS i h1 h2).2.mono (λ_ _=>rfl) aP⟩) iJ hdn
     |mr tm te kt e l pd b es c pv us aG hb hM=>exact .mr tm te kt e l pd b es c pv us (hkj.trans aG) hb (hM.mono (λ_ _=>rfl) aP λ_ _ _ _=>rfl)
   ·rintro b hb ((hf|hf)| ⟨j,l,hj,hl⟩)
    ·exact .inl hf
    ·exact .inr ⟨k,_,hk,by rw[hf];rfl⟩
    ·exact .inr ⟨j,l,(bH j l hj).2,hl⟩
   ·intro j hj
    by_cases ej:j=k
    ·subst ej
     rw[hn];cases ρ j<;>trivial
    ·rw[Env.set_other _ _ _ ej]
     exact Stab.refl _ _
theorem Rel.freezeB1 {F:Nat->Prop}{ρ:Env}{a:Act}{w:World}(h:Rel N F ρ st a w)(k:Nat){cs:List AC}{ty:Option TypeId}{ds:List D}(ho:RelOb w F ρ k (.box cs ty))(dY:allD cs=some ds):
  ∃F',Rel N F' (ρ.set k none) {fr:=st.fr.map λp=>(p.1,p.2.frzB k ds),ob:=ASt.setO k .gone (st.ob.map λp=>(p.1,p.2.frzB k ds))} a w/\Fr F ρ w F' (ρ.set k none) w:=by
  cases ho with
  |box cs ty b0 c0 t0 kz hk j5 hs hh=>
   have bE:=j0n dY;subst bE
   let F' :Nat->Prop:=λb=>F b\/b0=b
   have aI:=Env.set_off ρ k none;have hn:(ρ.set k none) k=none:=Env.set_same _ _ _;have aP:∀b,F b->F' b:=λb hb=>.inl hb;have hD:∀off,RelD w F' (.rp (ds.drop off)) (.pointer (some ⟨b0,off,none⟩)):=by
    intro off;have hlen:∀i,i<(ds.drop off).length->off+i<ds.length:=λi hi=>by rw[s2n]at hi;omega
    refine .rp _ b0 off (λi=>c0.getD (off+i) undef) (λ_=>.inr rfl) (λi hi=>?_) λi hi=>?_
    ·have h1:off+i<c0.size:=by rw[hs];simpa using hlen i hi
     rw[cell_of_row w b0 (off+i) c0 t0 _ j5];simp[r2j,h1]
    ·have h1:off+i<(ds.map AC.d).length:=by simpa using hlen i hi
     have h2:=hh (off+i) h1;simp only[List.getElem_map]at h2;rw[List.getElem_drop];cases h2 with
     |d x v h3=>exact h3.mono (λ_ _=>rfl) aP
   have bH:∀j l,(ρ.set k none) j=some l->j≠k/\ρ j=some l:=by
    intro j l hj;by_cases e:j=k
    ·subst e;rw[hn]at hj;cases hj
    ·rw[Env.set_other _ _ _ e]at hj;exact⟨e,hj⟩
   refine⟨F',⟨⟨?_,?_,?_,h.rw.tab_of (λ_ _=>rfl) aP⟩,?_,?_,h.sz,h.df⟩,⟨rfl,rfl,rfl,r2q _,aP,λ_ _ _=>rfl,?_,?_⟩⟩
   ·rintro b hb ⟨j,l,hj,hl⟩
    obtain⟨aS,bN⟩:=bH j l hj;rcases hb with hb|hb
    ·exact h.rw.dis b hb ⟨j,l,bN,hl⟩
    ·exact aS (h.rw.inj _ _ _ _ b bN hk hl (by rw[hb];rfl))
   ·rintro b (hb|hb)
    ·exact h.rw.lt b hb
    ·subst hb;exact(r2r.1 j5).1
   ·intro i j l l' b hi hj hb hb'
    exact h.rw.inj _ _ _ _ b (bH i l hi).2 (bH j l' hj).2 hb hb'
   ·intro i
    simp only;rw[d0i (AV.frzB k ds) (by simp[AV.frzB])];exact(h.fr i).frzB hk aI hn aP hD
   ·intro j
    simp only;by_cases ej:j=k
    ·subst ej
     rw[a0o];exact .gone hn
    ·rw[a0j _ _ _ _ ej,e0b (AObj.frzB k ds) rfl]
     have hj:=h.ob j;have hkj:(ρ.set k none) j=ρ j:=Env.set_other _ _ _ ej;generalize lkO st.ob j=o at hj
     induction hj with
     |gone hj=>exact .gone (hkj.trans hj)
     |na t ee xs h ih=>exact .na t ee xs ih
     |any o h ih=>exact .any _ ih
     |box cT oty b c t aQ aG hb hs cS=>exact .box _ _ b c t aQ (hkj.trans aG) hb (by simpa using hs) λi hi=>by simpa using(cS i (by simpa using hi)).frzB hk aI hn aP hD
     |arr t e n cT u xs aG ho' hz cS=>exact .arr t e n cT u xs (hkj.trans aG) ho' hz λi hi=>(cS i hi).mono (λ_ _=>rfl) aP
     |tab b o aG hF hb=>exact .tab b o (hkj.trans aG) (aP b hF) hb
     |it s pos b aG hb=>exact .it s pos b (hkj.trans aG) hb
     |fz t xs u aG h=>exact .fz t xs u (hkj.trans aG) h
     |mi kt vt l cur b mo si se la aG hb hm=>exact .mi kt vt l cur b mo si se la (hkj.trans aG) hb (hm.mono (λ_ _=>rfl) aP)
     |mp t kt' fg l' b es c aG hb hz cS iJ hdn=>exact .mp t kt' fg l' b es c (hkj.trans aG) hb hz (λi h1 h2=>⟨(cS i h1 h2).1.mono (λ_ _=>rfl) aP,(cS i h1 h2).2.mono (λ_ _=>rfl) aP⟩) iJ hdn
     |mr tm te kt e l pd b es c pv us aG hb hM=>exact .mr tm te kt e l pd b es c pv us (hkj.trans aG) hb (hM.mono (λ_ _=>rfl) aP λ_ _ _ _=>rfl)
   ·rintro b hb ((hf|hf)| ⟨j,l,hj,hl⟩)
    ·exact .inl hf
    ·exact .inr ⟨k,_,hk,by rw[hf];rfl⟩
    ·exact .inr ⟨j,l,(bH j l hj).2,hl⟩
   ·intro j hj
    by_cases ej:j=k
    ·subst ej
     rw[hn];cases ρ j<;>trivial
    ·rw[Env.set_other _ _ _ ej]
     exact Stab.refl _ _
theorem Rel.freezeD {F:Nat->Prop}{ρ:Env}{a:Act}{w:World}(h:Rel N F ρ st a w)(k:Nat)(D0:D){te:TypeId}{e n:Nat}{cs:List D}(ho:RelOb w F ρ k (.arr te e n cs))(hD0:∀F' u,RelD w F' (.sl e n cs) u->RelD w F' D0 u):
  ∃F' ρ',Rel N F' ρ' {fr:=st.fr.map λp=>(p.1,p.2.frz k D0),ob:=ASt.setO k .gone (st.ob.map λp=>(p.1,p.2.frz k D0))} a w/\Fr F ρ w F' ρ' w:=by
 obtain⟨F',h1,h2⟩:=h.freezeD1 k D0 ho hD0;exact⟨F',_,h1,h2⟩
theorem Rel.settle {F:Nat->Prop}{ρ:Env}{a:Act}{w:World}(h:Rel N F ρ st a w)(k:Nat)(dU:k<1000000){tm te:TypeId}{kt e:Ev.Ty}{l:List (kt.den×(Ev.Ty.lst e).den)}(ho:RelOb w F ρ k (.mr tm te kt e l none)):
  ∃F' ρ',Rel N F' ρ' (st.moved k (.mp tm kt (.lst e) l false)) a w/\Fr F ρ w F' ρ' w:=by
 cases ho with
 |mr tm te kt e l pd b es c pv us hk hb hM=>
  have iH:us.length=l.length:=by
   rcases hM.hu with⟨_,h1⟩| ⟨_,_,h1,_⟩
   ·exact h1
   ·cases h1
  have cX:∀i (hi:i<us.length) (h1:i<l.length) (h2:i<es.size),es[i].val=us[i]/\RowOwn w F te e l[i].2 us[i]:=λi hi h1 h2=>hM.ent i h1 h2 hi λp hp=>by cases hp
  have aR:=hM.hs;have hG:∀c,(∃u,u∈us/\u.ownBlock=some c)->c≠b:=λc ⟨u,hu,hc⟩ e=>by
   subst e;obtain⟨i,hi,rfl⟩:=List.getElem_of_mem hu;obtain⟨_,xs,h1,_⟩:=(cX i hi (by omega) (by omega)).2;rcases h1.2 with⟨h2,_⟩| ⟨g,cap,cur,h2,_,h3,_⟩
   ·rw[h2]at hc;cases hc
   ·rw[h2]at hc;cases hc
    rw[hb]at h3;cases h3
  obtain⟨h1,h2⟩:=h.moved (w' :=w) rfl rfl rfl (r2q _) (L' :=.box b) (o:=.mp tm kt (.lst e) l false) (G:=λc=>∃u,u∈us/\u.ownBlock=some c) hk rfl (λ_ _ _=>rfl)
   (λb' hb' =>by
    have:some b=some b' :=hb';cases this;exact⟨(r2r.1 hb).1,.inr (.inl rfl)⟩)
   (λb' hb' =>⟨.inr (hb'.imp λu hu=>⟨s2x _ hu.1,hu.2⟩),λe=>hG b' hb' (by have:some b=some b' :=e;cases this;rfl)⟩)
   (.mp _ _ _ _ b es c (Env.set_same _ _ _) hb hM.hs (λi hi aK=>by
    have n7:i<us.length:=by omega
    obtain⟨e1,h0,xs,e2,e3,e4⟩:=cX i n7 hi aK;refine⟨(hM.key i hi aK).mono (λ_ _=>rfl) λ_ h=>.inl h,?_⟩;unfold RelE;rw[if_pos (show(Ev.Ty.lst e).sz=1 from rfl),e1]
    refine⟨_,rfl,.nl _ _ _ (i0w e2 e3 e4 (λ_ h=>.inl h) λb' hb' =>.inr ⟨_,s2s n7,hb'⟩)⟩) false ⟨nofun,hM.st⟩) dU
  exact⟨_,_,h1,h2⟩
theorem Rel.freeze {F:Nat->Prop}{ρ:Env}{a:Act}{w:World}(h:Rel N F ρ st a w)(k:Nat):∃F' ρ',Rel N F' ρ' (st.freeze k) a w/\Fr F ρ w F' ρ' w:=by
 have ho:=h.ob k;unfold ASt.freeze;split
 ·rename_i te e n cs aH
  rw[aH]at ho;exact h.freezeD k (.sl e n cs) ho λ_ _ h=>h
 ·rename_i te e xs aH
  rw[aH]at ho;cases ho with
  |na t ee xs ho=>exact h.freezeD k (.nl e xs) ho λ_ _ h=>.nl _ _ _ h
 ·rename_i te kt vt l dn aH
  rw[aH]at ho;obtain⟨F',h1,h2⟩:=h.freezeM1 k ho;exact⟨F',_,h1,h2⟩
 ·rename_i cs ty aH
  rw[aH]at ho;split
  ·rename_i ds dY
   obtain⟨F',h1,h2⟩:=h.freezeB1 k ho dY;exact⟨F',_,h1,h2⟩
  ·exact⟨F,ρ,h,Fr.refl F ρ w⟩
 ·rename_i tm te kt e l aH
  rw[aH]at ho;cases hb:Nat.blt k 1000000 with
  |false=>exact⟨F,ρ,h,Fr.refl F ρ w⟩
  |true=>
   obtain⟨F',ρ',h1,h2⟩:=h.settle k (a0e hb) ho;exact⟨F',ρ',h1,h2⟩
 ·exact⟨F,ρ,h,Fr.refl F ρ w⟩
theorem AW.freeze {c:Code}(k:Nat)(hs:st.freeze k=st')(kk:AW P N c st' Q):AW P N c st Q:=by
 subst hs;intro F ρ a w hr;obtain⟨F',ρ',h1,h2⟩:=hr.freeze k;exact kk.after h1 h2
theorem AOps.freeze (k:Nat)(hs:st.freeze k=st')(kk:AOps P N ops l st' Q):AOps P N ops l st Q:=by
 subst hs;intro F ρ a w hr;obtain⟨F',ρ',h1,h2⟩:=hr.freeze k;exact kk.after h1 h2
def a0m(P:Program)(f:FuncId):Bool:=
 match P.funcs[f]? with
 | some fn => !(fn.name == "runtime.NumGoroutine") && fn.body.isSome
 |none=>false
omit [Tabs]in
theorem o0o{f:FuncId}(h:a0m P f=true)(args:Array Value)(w:World):(callFunc f args).run P w=.ok (.enter f args) w:=by
 unfold a0m at h;split at h
 ·rename_i fn hf
  simp only[r2i,s2v]at h;cases hb:fn.body with
  |none=>rw[hb]at h;simp at h
  |some c=>
   have h1 : ¬ fn.name = "runtime.NumGoroutine" := by simpa using h.1
   simp[callFunc,hf,h1,hb]
 ·cases h
def b0u(fr:List (Nat×AV))(c:Call):Option (FuncId×List AV):=
 match c.callee with
 |.value g=>match ev fr g with
  |.cell (.fn (.func f) fs cs)=>some (f,fs.map .cell++(c.args.toList.map (ev fr)++cs.map .cell))
  |_=>none
 |_=>none
theorem c0t{F:Nat->Prop}{ρ:Env}{a:Act}{w:World}(h:Rel N F ρ st a w){c:Call}{f:FuncId}{args:List AV}(hc:b0u st.fr c=some (f,args))(hf:a0m P f=true)(t:TypeId):
  ∃vs:Array Value,(do let d <-resolve a.eval c t;invoke d.target d.args:Sem Next).run P w=.ok (.enter f vs) w/\vs.size=args.length/\∀i (hi:i<args.length),RelAV w F ρ a.tmps args[i] (vs.getD i undef):=by
 unfold b0u at hc;split at hc
 ·rename_i g hg
  split at hc
  ·rename_i f' fs cs he
   cases hc;have hr:=a0d h g;rw[he]at hr;generalize j7:a.eval g=gv at hr;cases hr with
   |cell _ _ hr=>cases hr with
    |fn _ _ _ vs us h1 h2 kX bE=>
     refine⟨vs++c.args.map a.eval++us,?_,by simp[h1,h2]<;>omega,λi hi=>?_⟩
     ·simp only[resolve,hg,j7,Deferred.ofValue,Sem.run_bind,Sem.run_pure,Result.andThen_ok,invoke]
      exact o0o hf _ w
     ·simp only[r2t,s2k,s2p]at hi
      by_cases fN:i<fs.length
      ·have e1:(vs++c.args.map a.eval++us).getD i undef=vs.getD i undef:=by
        simp only[r2j];rw[Array.append_assoc,t2t (by omega)]
       rw[e1,t2e (by simpa using fN),List.getElem_map];exact .cell _ _ (kX i fN)
      ·rw[List.getElem_append_right (by simp;omega)]
       by_cases hi2:i - fs.length<c.args.size
       ·have e1:(vs++c.args.map a.eval++us).getD i undef=a.eval c.args[i - fs.length]:=by
         simp only[r2j];rw[Array.append_assoc,Array.getElem?_append_right (by omega),t2t (by simp only[Array.size_map];omega),h1];simp[hi2]
        rw[e1,t2e (by simp;omega)];simp only[List.getElem_map,s2k,Array.getElem_toList];exact a0d h _
       ·have e1:(vs++c.args.map a.eval++us).getD i undef=us.getD (i - fs.length - c.args.size) undef:=by
         simp only[r2j];rw[Array.append_assoc,Array.getElem?_append_right (by omega),Array.getElem?_append_right (by simp;omega),h1];simp
        rw[e1,List.getElem_append_right (by simp;omega)];simp only[List.getElem_map,s2k,s2p];exact .cell _ _ (bE _ (by omega))
  ·cases hc
 ·cases hc
mutual
def AV.frozen:AV->Bool
 |.cell (.d _)=>true
 |.cell (.fn _ [] [])=>true
 |.aggD _=>true
 |.tup vs=>AV.frozenL vs
 |_=>false
def AV.frozenL:List AV->Bool
 |[]=>true
 |v::r=>AV.frozen v&&AV.frozenL r
end
omit [Tabs]in
theorem AV.frozenL_get:∀{l:List AV},AV.frozenL l=true->∀i (h:i<l.length),AV.frozen l[i]=true
 |[],_,i,h=>by simp at h
 |c::r,h,i,hi=>by
  simp only[AV.frozenL,r2i]at h;cases i with
  |zero=>simpa using h.1
  |succ i=>simpa using AV.frozenL_get h.2 i (by simpa using hi)
omit [Tabs]in
theorem RelAV.frozen_any {w:World}{F:Nat->Prop}{ρ ρ' :Env}{tm eZ:Array Value}{x:AV}{v:Value}(h:RelAV w F ρ tm x v)(hx:x.frozen=true):RelAV w F ρ' eZ x v:=by
 induction h with
 |cell c v h=>cases h with
  |d x v h=>exact .cell _ _ (.d _ _ h)
  |own=>simp[AV.frozen]at hx
  |ptr=>simp[AV.frozen]at hx
  |elt=>simp[AV.frozen]at hx
  |osl=>simp[AV.frozen]at hx
  |pn=>simp[AV.frozen]at hx
  |ifo=>simp[AV.frozen]at hx
  |mpr=>simp[AV.frozen]at hx
  |row=>simp[AV.frozen]at hx
  |fn f fs cs vs us h1 h2 hf hc=>
   cases fs with
   |cons _ _=>simp[AV.frozen]at hx
   |nil=>cases cs with
    |cons _ _=>simp[AV.frozen]at hx
    |nil=>exact .cell _ _ (.fn f [] [] vs us h1 h2 (λi hi=>by simp at hi) (λi hi=>by simp at hi))
  |junk=>simp[AV.frozen]at hx
 |agg cs arr hz h=>simp[AV.frozen]at hx
 |aggD cs arr hz h=>exact .aggD cs arr hz h
 |tup vs arr hz h ih=>exact .tup vs arr hz λi hi=>ih i hi (AV.frozenL_get (by simpa[AV.frozen]using hx) i hi)
 |whn g want x v h h' ih=>simp[AV.frozen]at hx
 |junk v=>simp[AV.frozen]at hx
def PCalls(P:Program)(f:FuncId)(args:List AV)(x:AV):Prop:=ACalls P f args [] λr _=>r=.ret x
theorem IEff.pcall {i d:Nat}{c:Call}{ty:TypeId}{pos:String}{after:Array Edge}{guard:Option (Nat×Bool)}{f:FuncId}{args:List AV}{x:AV}
  (ho:opK ops st.fr i=some ⟨some d,.call c,ty,pos,after,guard⟩)(hc:b0u st.fr c=some (f,args))(hf:a0m P f=true)(hz:AV.frozenL args=true)(hd:Nat.blt d N=true)
  (spec:PCalls P f args x)(hx:x.frozen=true):IEff P N ops i st (.put d x):=by
 intro F ρ a w hr K R kk;obtain⟨e,hw⟩:=a0x hr ho;obtain⟨vs,hrun,aR,hrel⟩:=c0t hr hc hf ty;simp only[wpOp,e];rw[if_pos hw];left;have bD:(execOp a.eval ⟨some d,.call c,ty,pos,after,guard⟩).run P w=.ok (.enter f vs) w:=hrun;simp only[Oper.wp,Oper.upon,bD];have h0:RelW F (λ_=>none) w:=⟨(λb _ ⟨k,l,hk,_⟩=>by cases hk),hr.rw.lt,(λk k' l l' b hk=>by cases hk),hr.rw.tab⟩;refine(spec F (λ_=>none) vs w h0 (λk=>.gone rfl) ⟨aR,λj hj=>(hrel j hj).frozen_any (AV.frozenL_get hz j hj)⟩).mono λen w' ⟨F',ρ',r,bG,hq,hre,hrw,bR,hfr⟩=>?_;subst hq;have bP:∀b,¬live (λ_=>none) b:=λb ⟨k,l,hk,_⟩=>by cases hk
 cases en with
 |returned v=>
  have hv:RelAV w' F' ρ' #[] x v:=hre;have aF:∀b,b<w.heap.size->w'.heap[b]?=w.heap[b]?:=λb hb=>hfr.keep b hb (bP b);have fk:∀b,F' b->¬live ρ b:=by
   rintro b hb ⟨k,l,hk,hl⟩;have aJ:=(hr.ob k).lt hk hl;rcases hfr.old b aJ (.inl hb)with h|h
   ·exact hr.rw.dis b h ⟨k,l,hk,hl⟩
   ·exact bP b h
  have hrel' :Rel N F' ρ st a w' :=by
   refine⟨⟨fk,hrw.lt,hr.rw.inj,hrw.tab⟩,λj=>(hr.fr j).mono (λb hb=>aF b (hr.rw.lt b hb)) hfr.sub λ_ _ h=>h,
    λj=>(hr.ob j).through (λb hb=>aF b (hr.rw.lt b hb)) hfr.sub λl b hl hb=>aF b ((hr.ob j).lt hl hb),hr.sz,hr.df⟩
  have dC:Fr F ρ w F' ρ w' :=by
   refine⟨hfr.os,hfr.tape,hfr.output,hfr.size,hfr.sub,λb hb _=>aF b hb,?_,λ_ _=>Stab.refl _ _⟩;rintro b hb (h|h)
   ·rcases hfr.old b hb (.inl h)with h'|h'
    ·exact .inl h'
    ·exact absurd h' (bP b)
   ·exact .inr h
  exact kk v w' F' ρ (hrel'.put d (a0e hd) (hv.frozen_any hx)) dC (.none aF)
 |panicked chain=>exact hre.elim
 |outgrown=>exact hre.elim
end
end Esp
namespace Esp
open Go
variable [Tabs]
structure FSt where
 fr:Nat->AV
 ob:Nat->AObj
def ASt.fn (s:ASt):FSt:=⟨lkF s.fr,lkO s.ob⟩
def Eff.appF:Eff->FSt->FSt
 |.put d x,f=>⟨λi=>if i=d then x else(f.fr i).dropW d,f.ob⟩
 |.new k o d x,f=>⟨λi=>if i=d then x else((f.fr i).kill k).dropW d,λj=>if j=k then o else(f.ob j).kill k⟩
 |.upd k o,f=>⟨f.fr,λj=>if j=k then o else f.ob j⟩
 |.upp k o d x,f=>⟨λi=>if i=d then x else(f.fr i).dropW d,λj=>if j=k then o else f.ob j⟩
omit [Tabs]in
theorem t1b(st:ASt)(d:Tmp)(x:AV):(st.put (some d) x).fn=⟨λi=>if i=d then x else(lkF st.fr i).dropW d,lkO st.ob⟩:=by
 simp only[ASt.fn,ASt.put,FSt.mk.injEq,and_true];funext i;by_cases h:i=d
 ·subst h;rw[f0y,if_pos rfl]
 ·rw[f0e _ _ _ _ h,if_neg h]
omit [Tabs]in
theorem k1e(e:Eff)(st:ASt):(e.app st).fn=e.appF st.fn:=by
 cases e with
 |put d x=>exact t1b st d x
 |new k o d x=>
  simp only[Eff.app];rw[t1b];simp only[Eff.appF,ASt.fn,FSt.mk.injEq];refine⟨?_,?_⟩
  ·funext i
   simp only[ASt.newOb,ASt.killF,d0i (AV.kill k) (AV.kill_junk k)]
  ·funext j
   by_cases h:j=k
   ·subst h;simp only[ASt.newOb,a0o,if_pos]
   ·simp only[ASt.newOb,ASt.killO,a0j _ _ _ _ h,e0b (AObj.kill k) rfl,if_neg h]
 |upd k o=>
  simp only[Eff.app,Eff.appF,ASt.fn,FSt.mk.injEq,true_and];funext j;by_cases h:j=k
  ·subst h;rw[a0o,if_pos rfl]
  ·rw[a0j _ _ _ _ h,if_neg h]
 |upp k o d x=>
  simp only[Eff.app];rw[t1b];simp only[Eff.appF,ASt.fn,FSt.mk.injEq,true_and];funext j;by_cases h:j=k
  ·subst h;rw[a0o,if_pos rfl]
  ·rw[a0j _ _ _ _ h,if_neg h]
omit [Tabs]in
theorem h0s(k:Nat)(o:AObj)(d:Tmp)(x:AV)(f:FSt):(Eff.upp k o d x).appF f=(Eff.put d x).appF ((Eff.upd k o).appF f):=rfl
omit [Tabs]in
theorem c0m(e:Eff)(st:ASt)(i:Nat):lkF (e.app st).fr i=(e.appF st.fn).fr i:=congrFun (congrArg FSt.fr (k1e e st)) i
omit [Tabs]in
theorem i0c(e:Eff)(st:ASt)(i:Nat):lkO (e.app st).ob i=(e.appF st.fn).ob i:=congrFun (congrArg FSt.ob (k1e e st)) i
theorem Rel.congr {N:Nat}{F:Nat->Prop}{ρ:Env}{s s' :ASt}{a:Act}{w:World}(h:Rel N F ρ s a w)(e:s.fn=s'.fn):Rel N F ρ s' a w:=by
 simp only[ASt.fn,FSt.mk.injEq]at e;exact⟨h.rw,λi=>e.1▸h.fr i,λk=>e.2▸h.ob k,h.sz,h.df⟩
mutual
def AC.refsP (p:Nat->Bool):AC->Bool
 |.d _=>false
 |.own j=>p j
 |.ptr j _=>p j
 |.elt j _ _ _=>p j
 |.osl j _ _ _=>p j
 |.pn j=>p j
 |.ifo _ j=>p j
 |.mpr j=>p j
 |.row j _=>p j
 |.fn _ fs cs=>AC.refsPL p fs || AC.refsPL p cs
 |.junk=>false
def AC.refsPL (p:Nat->Bool):List AC->Bool
 |[]=>false
 |c::r=>AC.refsP p c || AC.refsPL p r
end
def AC.killP (p:Nat->Bool)(c:AC):AC:=bif c.refsP p then .junk else c
mutual
def AV.killP (p:Nat->Bool):AV->AV
 |.cell c=>.cell (c.killP p)
 |.agg cs=>.agg (cs.map (AC.killP p))
 |.aggD cs=>.aggD cs
 |.tup vs=>.tup (AV.killPL p vs)
 |.whn g w x=>.whn g w (AV.killP p x)
 |.junk=>.junk
def AV.killPL (p:Nat->Bool):List AV->List AV
 |[]=>[]
 |v::r=>AV.killP p v::AV.killPL p r
end
def AObj.killP (p:Nat->Bool):AObj->AObj
 |.box cs ty=>.box (cs.map (AC.killP p)) ty
 |o=>o
mutual
def AV.usesP (q:Nat->Bool):AV->Bool
 |.whn h _ x=>q h || AV.usesP q x
 |.tup vs=>AV.usesPL q vs
 |_=>false
def AV.usesPL (q:Nat->Bool):List AV->Bool
 |[]=>false
 |v::r=>AV.usesP q v || AV.usesPL q r
end
def AV.dropP (q:Nat->Bool)(v:AV):AV:=bif v.usesP q then .junk else v
omit [Tabs]in
mutual
theorem AC.refsP_or (p q:Nat->Bool):∀c:AC,c.refsP (λj=>p j || q j)=(c.refsP p || c.refsP q)
 |.d _=>rfl
 |.own j=>rfl
 |.ptr j _=>rfl
 |.elt j _ _ _=>rfl
 |.osl j _ _ _=>rfl
 |.pn j=>rfl
 |.ifo _ j=>rfl
 |.mpr j=>rfl
 |.row j _=>rfl
 |.fn _ fs cs=>by
  simp only[AC.refsP,AC.refsPL_or p q fs,AC.refsPL_or p q cs];cases AC.refsPL p fs<;>cases AC.refsPL p cs<;>cases AC.refsPL q fs<;>cases AC.refsPL q cs<;>rfl
 |.junk=>rfl
theorem AC.refsPL_or (p q:Nat->Bool):∀c:List AC,AC.refsPL (λj=>p j || q j) c=(AC.refsPL p c || AC.refsPL q c)
 |[]=>rfl
 |c::r=>by
  simp only[AC.refsPL,AC.refsP_or p q c,AC.refsPL_or p q r];cases AC.refsP p c<;>cases AC.refsP q c<;>cases AC.refsPL p r<;>cases AC.refsPL q r<;>rfl
end
omit [Tabs]in
mutual
theorem AC.refs_eq (k:Nat):∀c:AC,c.refs k=c.refsP (λj=>Nat.beq j k)
 |.d _=>rfl
 |.own j=>rfl
 |.ptr j _=>rfl
 |.elt j _ _ _=>rfl
 |.osl j _ _ _=>rfl
 |.pn j=>rfl
 |.ifo _ j=>rfl
 |.mpr j=>rfl
 |.row j _=>rfl
 |.fn _ fs cs=>by simp only[AC.refs,AC.refsP,AC.refsL_eq k fs,AC.refsL_eq k cs]
 |.junk=>rfl
theorem AC.refsL_eq (k:Nat):∀c:List AC,AC.refsL k c=AC.refsPL (λj=>Nat.beq j k) c
 |[]=>rfl
 |c::r=>by simp only[AC.refsL,AC.refsPL,AC.refs_eq k c,AC.refsL_eq k r]
end
omit [Tabs]in
theorem AC.killP_killP (p q:Nat->Bool)(c:AC):(c.killP q).killP p=c.killP (λj=>p j || q j):=by
 unfold AC.killP;rw[AC.refsP_or];cases h1:c.refsP q with
 |true=>simp[AC.refsP]
 |false=>simp
omit [Tabs]in
theorem AC.kill_eq (k:Nat)(c:AC):c.kill k=c.killP (λj=>Nat.beq j k):=by unfold AC.kill AC.killP;rw[AC.refs_eq]
omit [Tabs]in
theorem AV.killPL_map (p:Nat->Bool)(l:List AV):AV.killPL p l=l.map (AV.killP p):=by
 induction l with
 |nil=>rfl
 |cons v r ih=>simp[AV.killPL,ih]
omit [Tabs]in
mutual
theorem AV.kill_eq (k:Nat):∀v:AV,v.kill k=v.killP (λj=>Nat.beq j k)
 |.cell c=>by simp only[AV.kill,AV.killP,AC.kill_eq]
 |.agg cs=>by
  simp only[AV.kill,AV.killP];congr 1;exact List.map_congr_left λc _=>AC.kill_eq k c
 |.aggD cs=>rfl
 |.tup vs=>by simp only[AV.kill,AV.killP,AV.killL_eq' k vs]
 |.whn g w x=>by simp only[AV.kill,AV.killP,AV.kill_eq k x]
 |.junk=>rfl
theorem AV.killL_eq' (k:Nat):∀v:List AV,AV.killL k v=AV.killPL (λj=>Nat.beq j k) v
 |[]=>rfl
 |v::r=>by simp only[AV.killL,AV.killPL,AV.kill_eq k v,AV.killL_eq' k r]
end
omit [Tabs]in
theorem AObj.kill_eq (k:Nat)(o:AObj):o.kill k=o.killP (λj=>Nat.beq j k):=by
 cases o with
 |box cs=>
  simp only[AObj.kill,AObj.killP];congr 1;exact List.map_congr_left λc _=>AC.kill_eq k c
 |_=>rfl
omit [Tabs]in
mutual
theorem AV.killP_killP (p q:Nat->Bool):∀v:AV,(v.killP q).killP p=v.killP (λj=>p j || q j)
 |.cell c=>by simp only[AV.killP,AC.killP_killP]
 |.agg cs=>by
  simp only[AV.killP,List.map_map];congr 1;exact List.map_congr_left λc _=>AC.killP_killP p q c
 |.aggD cs=>rfl
 |.tup vs=>by simp only[AV.killP,AV.killPL_killPL p q vs]
 |.whn g w x=>by simp only[AV.killP,AV.killP_killP p q x]
 |.junk=>rfl
theorem AV.killPL_killPL (p q:Nat->Bool):∀v:List AV,AV.killPL p (AV.killPL q v)=AV.killPL (λj=>p j || q j) v
 |[]=>rfl
 |v::r=>by simp only[AV.killPL,AV.killP_killP p q v,AV.killPL_killPL p q r]
end
omit [Tabs]in
theorem AObj.killP_killP (p q:Nat->Bool)(o:AObj):(o.killP q).killP p=o.killP (λj=>p j || q j):=by
 cases o with
 |box cs=>
  simp only[AObj.killP,List.map_map];congr 1;exact List.map_congr_left λc _=>AC.killP_killP p q c
 |_=>rfl
omit [Tabs]in
mutual
theorem AV.usesP_killP (p q:Nat->Bool):∀v:AV,(v.killP p).usesP q=v.usesP q
 |.cell c=>rfl
 |.agg cs=>rfl
 |.aggD cs=>rfl
 |.tup vs=>by simp only[AV.killP,AV.usesP,AV.usesPL_killPL p q vs]
 |.whn g w x=>by simp only[AV.killP,AV.usesP,AV.usesP_killP p q x]
 |.junk=>rfl
theorem AV.usesPL_killPL (p q:Nat->Bool):∀v:List AV,AV.usesPL q (AV.killPL p v)=AV.usesPL q v
 |[]=>rfl
 |v::r=>by simp only[AV.killPL,AV.usesPL,AV.usesP_killP p q v,AV.usesPL_killPL p q r]
theorem AV.usesP_or (p q:Nat->Bool):∀v:AV,v.usesP (λj=>p j || q j)=(v.usesP p || v.usesP q)
 |.cell c=>rfl
 |.agg cs=>rfl
 |.aggD cs=>rfl
 |.tup vs=>by simp only[AV.usesP,AV.usesPL_or p q vs]
 |.whn g w x=>by
  simp only[AV.usesP,AV.usesP_or p q x];cases p g<;>cases q g<;>cases x.usesP p<;>cases x.usesP q<;>rfl
 |.junk=>rfl
theorem AV.usesPL_or (p q:Nat->Bool):∀v:List AV,AV.usesPL (λj=>p j || q j) v=(AV.usesPL p v || AV.usesPL q v)
 |[]=>rfl
 |v::r=>by
  simp only[AV.usesPL,AV.usesP_or p q v,AV.usesPL_or p q r];cases AV.usesP p v<;>cases AV.usesP q v<;>cases AV.usesPL p r<;>cases AV.usesPL q r<;>rfl
theorem AV.uses_eq (d:Nat):∀v:AV,v.uses d=v.usesP (λj=>Nat.beq j d)
 |.cell c=>rfl
 |.agg cs=>rfl
 |.aggD cs=>rfl
 |.tup vs=>by simp only[AV.uses,AV.usesP,AV.usesL_eq d vs]
 |.whn g w x=>by simp only[AV.uses,AV.usesP,AV.uses_eq d x]
 |.junk=>rfl
theorem AV.usesL_eq (d:Nat):∀v:List AV,AV.usesL d v=AV.usesPL (λj=>Nat.beq j d) v
 |[]=>rfl
 |v::r=>by simp only[AV.usesL,AV.usesPL,AV.uses_eq d v,AV.usesL_eq d r]
end
omit [Tabs]in
theorem AV.dropW_eq (d:Nat)(v:AV):v.dropW d=v.dropP (λj=>Nat.beq j d):=by unfold AV.dropW AV.dropP;rw[AV.uses_eq]
omit [Tabs]in
theorem AV.dropP_dropP (p q:Nat->Bool)(v:AV):(v.dropP q).dropP p=v.dropP (λj=>p j || q j):=by
 unfold AV.dropP;rw[AV.usesP_or];cases h1:v.usesP q with
 |true=>simp[AV.usesP]
 |false=>simp
omit [Tabs]in
theorem AV.killP_dropP (p q:Nat->Bool)(v:AV):(v.dropP q).killP p=(v.killP p).dropP q:=by
 unfold AV.dropP;rw[AV.usesP_killP];cases v.usesP q with
 |true=>rfl
 |false=>rfl
omit [Tabs]in
theorem e0d(p q:Nat->Bool):(λj=>p j || q j)=λj=>q j || p j:=by funext j;exact Bool.or_comm _ _
omit [Tabs]in
theorem l0x(p:Nat->Bool)(k:Nat)(h:p k=true):(λj=>p j || Nat.beq j k)=p:=by
 funext j;cases hb:Nat.beq j k with
 |false=>simp
 |true=>rw[r2h hb,h];rfl
def FSt.strike (p q dk:Nat->Bool)(f:FSt):FSt:=
 ⟨λi=>bif q i then .junk else((f.fr i).killP p).dropP q,λj=>bif dk j then .gone else(f.ob j).killP p⟩
def Eff.inside (p q dk:Nat->Bool)(e:Eff):Bool:=
 match e with
 |.put d _=>q d
 |.new k _ d _=>q d&&p k&&dk k
 |.upd k _=>dk k
 |.upp k _ d _=>q d&&dk k
omit [Tabs]in
theorem c0q{p q dk:Nat->Bool}{e:Eff}(hu:∀k o d x,e≠ .upp k o d x)(h:e.inside p q dk=true)(f:FSt):(e.appF f).strike p q dk=f.strike p q dk:=by
 cases e with
 |upp k o d x=>exact absurd rfl (hu k o d x)
 |put d x=>
  simp only[Eff.inside]at h;simp only[FSt.strike,Eff.appF,FSt.mk.injEq,and_true];funext i;cases hq:q i with
  |true=>rfl
  |false=>
   simp only[u2k];have aS:i≠d:=λe=>by rw[e,h]at hq;cases hq
   rw[if_neg aS,AV.dropW_eq,AV.killP_dropP,AV.dropP_dropP,l0x q d h]
 |new k o d x=>
  simp only[Eff.inside,r2i]at h;obtain⟨⟨h1,h2⟩,h3⟩:=h;simp only[FSt.strike,Eff.appF,FSt.mk.injEq];refine⟨?_,?_⟩
  ·funext i
   cases hq:q i with
   |true=>rfl
   |false=>
    simp only[u2k];have aS:i≠d:=λe=>by rw[e,h1]at hq;cases hq
    rw[if_neg aS,AV.dropW_eq,AV.killP_dropP,AV.dropP_dropP,l0x q d h1,AV.kill_eq,AV.killP_killP,l0x p k h2]
  ·funext j
   cases hd:dk j with
   |true=>rfl
   |false=>
    simp only[u2k];have aS:j≠k:=λe=>by rw[e,h3]at hd;cases hd
    rw[if_neg aS,AObj.kill_eq,AObj.killP_killP,l0x p k h2]
 |upd k o=>
  simp only[Eff.inside]at h;simp only[FSt.strike,Eff.appF,FSt.mk.injEq,true_and];funext j;cases hd:dk j with
  |true=>rfl
  |false=>
   simp only[u2k];have aS:j≠k:=λe=>by rw[e,h]at hd;cases hd
   rw[if_neg aS]
omit [Tabs]in
theorem n0a{p q dk:Nat->Bool}{e:Eff}(h:e.inside p q dk=true)(f:FSt):(e.appF f).strike p q dk=f.strike p q dk:=by
 cases e with
 |upp k o d x=>
  simp only[Eff.inside,r2i]at h;rw[h0s,c0q (e:=.put d x) (λ_ _ _ _ e=>by cases e) h.1,c0q (e:=.upd k o) (λ_ _ _ _ e=>by cases e) h.2]
 |put d x=>exact c0q (λ_ _ _ _ e=>by cases e) h f
 |new k o d x=>exact c0q (λ_ _ _ _ e=>by cases e) h f
 |upd k o=>exact c0q (λ_ _ _ _ e=>by cases e) h f
omit [Tabs]in
theorem d0v{p q dk:Nat->Bool}(e:Eff)(hu:∀k o d x,e≠ .upp k o d x){f f' :FSt}(h:f.strike p q dk=f'.strike p q dk):(e.appF f).strike p q dk=(e.appF f').strike p q dk:=by
 simp only[FSt.strike,FSt.mk.injEq]at h;obtain⟨h1,h2⟩:=h;have g1:=λi=>congrFun h1 i;have g2:=λj=>congrFun h2 j;have sw:∀(v:AV) (d:Nat),(((v.dropW d).killP p).dropP q)=((v.killP p).dropP q).dropW d:=by
  intro v d;rw[AV.dropW_eq,AV.killP_dropP,AV.dropP_dropP,AV.dropW_eq,AV.dropP_dropP,e0d]
 have sk:∀(v:AV) (k:Nat),(((v.kill k).killP p).dropP q)=((v.killP p).dropP q).kill k:=by
  intro v k;rw[AV.kill_eq,AV.killP_killP,AV.kill_eq,AV.killP_dropP,AV.killP_killP,e0d]
 have so:∀(o:AObj) (k:Nat),((o.kill k).killP p)=(o.killP p).kill k:=by
  intro o k;rw[AObj.kill_eq,AObj.killP_killP,AObj.kill_eq,AObj.killP_killP,e0d]
 cases e with
 |upp k o d x=>exact absurd rfl (hu k o d x)
 |put d x=>
  simp only[FSt.strike,Eff.appF,FSt.mk.injEq];refine⟨?_,h2⟩;funext i;cases hq:q i with
  |true=>rfl
  |false=>
   simp only[u2k];by_cases hi:i=d
   ·rw[if_pos hi,if_pos hi]
   ·have:=g1 i
    rw[hq,u2k,u2k]at this;rw[if_neg hi,if_neg hi,sw,sw,this]
 |new k o d x=>
  simp only[FSt.strike,Eff.appF,FSt.mk.injEq];refine⟨?_,?_⟩
  ·funext i
   cases hq:q i with
   |true=>rfl
   |false=>
    simp only[u2k];by_cases hi:i=d
    ·rw[if_pos hi,if_pos hi]
    ·have:=g1 i
     rw[hq,u2k,u2k]at this;rw[if_neg hi,if_neg hi,sw,sw,sk,sk,this]
  ·funext j
   cases hd:dk j with
   |true=>rfl
   |false=>
    simp only[u2k];by_cases hj:j=k
    ·rw[if_pos hj,if_pos hj]
    ·have:=g2 j
     rw[hd,u2k,u2k]at this;rw[if_neg hj,if_neg hj,so,so,this]
 |upd k o=>
  simp only[FSt.strike,Eff.appF,FSt.mk.injEq];refine⟨h1,?_⟩;funext j;cases hd:dk j with
  |true=>rfl
  |false=>
   simp only[u2k];by_cases hj:j=k
   ·rw[if_pos hj,if_pos hj]
   ·have:=g2 j
    rw[hd,u2k,u2k]at this;rw[if_neg hj,if_neg hj,this]
omit [Tabs]in
theorem b1t{p q dk:Nat->Bool}(e:Eff){f f' :FSt}(h:f.strike p q dk=f'.strike p q dk):(e.appF f).strike p q dk=(e.appF f').strike p q dk:=by
 cases e with
 |upp k o d x=>exact d0v (.put d x) (λ_ _ _ _ e=>by cases e) (d0v (.upd k o) (λ_ _ _ _ e=>by cases e) h)
 |put d x=>exact d0v _ (λ_ _ _ _ e=>by cases e) h
 |new k o d x=>exact d0v _ (λ_ _ _ _ e=>by cases e) h
 |upd k o=>exact d0v _ (λ_ _ _ _ e=>by cases e) h
def ASt.weak (p q:Nat->Bool)(dk:List Nat)(f:Nat->AObj)(s:ASt):ASt:=
 {fr:=s.fr.map λz=>(z.1,bif q z.1 then .junk else(z.2.killP p).dropP q),
  ob:=(dk.map λk=>(k,f k))++s.ob.map λz=>(z.1,z.2.killP p)}
omit [Tabs]in
theorem j1o(g:Nat->AV->AV)(hg:∀i,g i .junk=.junk):∀(fr:List (Nat×AV)) (i:Nat),lkF (fr.map λz=>(z.1,g z.1 z.2)) i=g i (lkF fr i)
 |[],i=>(hg i).symm
 |(j,v)::r,i=>by
  simp only[r2z,lkF];cases hb:Nat.beq i j with
  |true=>rw[r2h hb];rfl
  |false=>simpa using j1o g hg r i
def memB(k:Nat):List Nat->Bool
 |[]=>false
 |j::r=>Nat.beq k j || memB k r
omit [Tabs]in
theorem x0i(f:Nat->AObj)(r:List (Nat×AObj)):∀(dk:List Nat) (k:Nat),lkO ((dk.map λk=>(k,f k))++r) k=bif memB k dk then f k else lkO r k
 |[],k=>rfl
 |j::dk,k=>by
  simp only[r2z,List.cons_append,lkO,memB];cases hb:Nat.beq k j with
  |true=>rw[r2h hb];rfl
  |false=>simpa using x0i f r dk k
omit [Tabs]in
theorem k2e(p q:Nat->Bool)(dk:List Nat)(f:Nat->AObj)(s:ASt):(s.weak p q dk f).fn=
  ⟨λi=>bif q i then .junk else((lkF s.fr i).killP p).dropP q,λj=>bif memB j dk then f j else(lkO s.ob j).killP p⟩:=by
 simp only[ASt.fn,ASt.weak,FSt.mk.injEq];refine⟨?_,?_⟩
 ·funext i
  rw[j1o (λi v=>bif q i then .junk else(v.killP p).dropP q) (λi=>by cases q i<;>simp[AV.killP,AV.dropP,AV.usesP])]
 ·funext j
  rw[x0i,e0b (AObj.killP p) rfl]
omit [Tabs]in
theorem RelAC.killP {w:World}{F:Nat->Prop}{ρ:Env}{x:AC}{v:Value}(p:Nat->Bool)(h:RelAC w F ρ x v):RelAC w F ρ (x.killP p) v:=by
 unfold AC.killP;cases x.refsP p with
 |true=>exact .junk v
 |false=>exact h
omit [Tabs]in
theorem RelAV.killP {w:World}{F:Nat->Prop}{ρ:Env}{tm:Array Value}{x:AV}{v:Value}(p:Nat->Bool)(h:RelAV w F ρ tm x v):RelAV w F ρ tm (x.killP p) v:=by
 induction h with
 |cell c v h=>exact .cell _ v (h.killP p)
 |agg cs arr hz h=>
  simp only[AV.killP];exact .agg _ arr (by simpa using hz) λi hi=>by simpa using(h i (by simpa using hi)).killP p
 |aggD cs arr hz h=>exact .aggD cs arr hz h
 |tup vs arr hz h ih=>
  simp only[AV.killP,AV.killPL_map];exact .tup _ arr (by simpa using hz) λi hi=>by simpa using ih i (by simpa using hi)
 |whn g want x v h h' ih=>exact .whn g want _ v ih h'
 |junk v=>exact .junk v
omit [Tabs]in
theorem RelAV.dropP {w:World}{F:Nat->Prop}{ρ:Env}{tm:Array Value}{x:AV}{v:Value}(q:Nat->Bool)(h:RelAV w F ρ tm x v):RelAV w F ρ tm (x.dropP q) v:=by
 unfold AV.dropP;cases x.usesP q with
 |true=>exact .junk v
 |false=>exact h
omit [Tabs]in
theorem RelOb.killP {w:World}{F:Nat->Prop}{ρ:Env}{k:Nat}{x:AObj}(p:Nat->Bool)(h:RelOb w F ρ k x):RelOb w F ρ k (x.killP p):=by
 induction h with
 |gone h=>exact .gone h
 |na t ee xs h ih=>exact .na t ee xs ih
 |any o h ih=>exact .any _ ih
 |box cs oty b c t aQ hk hb hs h=>exact .box _ _ b c t aQ hk hb (by simpa using hs) λi hi=>by simpa using(h i (by simpa using hi)).killP p
 |arr t ee n cs u xs hk hown hs h=>exact .arr t ee n cs u xs hk hown hs h
 |tab b o hk hF hb=>exact .tab b o hk hF hb
 |it s pos b hk hb=>exact .it s pos b hk hb
 |fz t xs u hk h=>exact .fz t xs u hk h
 |mi kt vt l cur b mo si se la hk hb hm=>exact .mi kt vt l cur b mo si se la hk hb hm
 |mp t kt vt l b es c hk hb hs h dn hd=>exact .mp t kt vt l b es c hk hb hs h dn hd
 |mr tm te kt e l pd b es c pv us hk hb hM=>exact .mr tm te kt e l pd b es c pv us hk hb hM
section
variable{P:Program}{N:Nat}{ops:Array Oper}{Q:Exit->ASt->Prop}{st st' :ASt}{l:List Nat}
theorem IEff.lift {p q:Nat->Bool}{dk:List Nat}{i:Nat}{e:Eff}{s s0:ASt}(h:∀f,IEff P N ops i (s0.weak p q dk f) e)
  (hs:s.fn.strike p q (memB · dk)=s0.fn.strike p q (memB · dk)):IEff P N ops i s e:=by
 intro F ρ a w hr K R k;have jN:Rel N F ρ (s0.weak p q dk (lkO s.ob)) a w:=by
  simp only[FSt.strike,ASt.fn,FSt.mk.injEq]at hs;have hf:=k2e p q dk (lkO s.ob) s0;simp only[ASt.fn,FSt.mk.injEq]at hf;refine⟨hr.rw,λi=>?_,λj=>?_,hr.sz,hr.df⟩
  ·have dO:=congrFun hf.1 i
   have e1:=congrFun hs.1 i;rw[dO, <-e1];cases q i with
   |true=>exact .junk _
   |false=>exact((hr.fr i).killP p).dropP q
  ·have qm:=congrFun hf.2 j
   have:=congrFun hs.2 j;rw[qm];cases hm:memB j dk with
   |true=>exact hr.ob j
   |false=>
    rw[hm,u2k,u2k]at this;rw[u2k, <-this];exact(hr.ob j).killP p
 refine h (lkO s.ob) F ρ a w jN K R λv w' F' ρ' hr' hf ht=>k v w' F' ρ' ?_ hf ht;have hF:∀b,F b->w'.heap[b]?=w.heap[b]?:=λb hb=>hf.keep b (hr.rw.lt b hb) (hr.rw.dis b hb);have oth:∀j,e.touch≠some j->∀l b,ρ j=some l->l.has b->w'.heap[b]?=w.heap[b]?:=λj hj l b hl hb=>
  ht.keep b ((hr.ob j).lt hl hb) λk' l' aG bT hb' =>hj (by rw[aG,hr.rw.inj _ _ _ _ b hl bT hb hb'])
 refine⟨hr'.rw,λi=>?_,λj=>?_,hr'.sz,hr'.df⟩
 ·have h1:=hr'.fr i
  have h0:=hr.fr i;cases e with
  |put d x=>
   have hρ:ρ' =ρ:=by funext j;exact ht.off j (by simp[Eff.key])
   subst hρ;rw[c0m]at h1;rw[c0m];simp only[Eff.appF,Eff.dst,Act.put]at h1⊢;by_cases hi:i=d
   ·rw[if_pos hi]at h1⊢
    exact h1
   ·rw[if_neg hi,a0l _ _ _ _ _ hi]
    exact(h0.mono hF hf.sub λ_ _ h=>h).dropW
  |new kk o d x=>
   rw[c0m]at h1;rw[c0m];simp only[Eff.appF,Eff.dst,Act.put]at h1⊢;by_cases hi:i=d
   ·rw[if_pos hi]at h1⊢
    exact h1
   ·rw[if_neg hi,a0l _ _ _ _ _ hi]
    have aI:offK kk ρ ρ' :=λj hj=>ht.off j (by simp only[Eff.key,ne_eq,r2l];exact λe=>hj e.symm);exact((h0.kill aI).mono hF hf.sub λ_ _ h=>h).dropW
  |upd kk o=>
   have hρ:ρ' =ρ:=by funext j;exact ht.off j (by simp[Eff.key])
   subst hρ;rw[c0m];simp only[Eff.appF,Eff.dst,Act.put];exact h0.mono hF hf.sub λ_ _ h=>h
  |upp kk o d x=>
   have hρ:ρ' =ρ:=by funext j;exact ht.off j (by simp[Eff.key])
   subst hρ;rw[c0m]at h1;rw[c0m];simp only[Eff.appF,Eff.dst,Act.put]at h1⊢;by_cases hi:i=d
   ·rw[if_pos hi]at h1⊢
    exact h1
   ·rw[if_neg hi,a0l _ _ _ _ _ hi]
    exact(h0.mono hF hf.sub λ_ _ h=>h).dropW
 ·have h1:=hr'.ob j
  have h0:=hr.ob j;rw[i0c]at h1;rw[i0c];cases e with
  |put d x=>
   have hρ:ρ' =ρ:=by funext j;exact ht.off j (by simp[Eff.key])
   subst hρ;simp only[Eff.appF];exact h0.through hF hf.sub (oth j (by simp[Eff.touch]))
  |new kk o d x=>
   simp only[Eff.appF]at h1⊢;by_cases hj:j=kk
   ·rw[if_pos hj]at h1⊢
    exact h1
   ·rw[if_neg hj]
    have aI:offK kk ρ ρ' :=λj hj=>ht.off j (by simp only[Eff.key,ne_eq,r2l];exact λe=>hj e.symm);have h2:=h0.kill aI hj;refine h2.through hF hf.sub λl b hl hb=>oth j (by simp only[Eff.touch,ne_eq,r2l];exact λe=>hj e.symm) l b ?_ hb;rw [<-aI j hj];exact hl
  |upd kk o=>
   have hρ:ρ' =ρ:=by funext j;exact ht.off j (by simp[Eff.key])
   subst hρ;simp only[Eff.appF]at h1⊢;by_cases hj:j=kk
   ·rw[if_pos hj]at h1⊢
    exact h1
   ·rw[if_neg hj]
    exact h0.through hF hf.sub (oth j (by simp only[Eff.touch,ne_eq,r2l];exact λe=>hj e.symm))
  |upp kk o d x=>
   have hρ:ρ' =ρ:=by funext j;exact ht.off j (by simp[Eff.key])
   subst hρ;simp only[Eff.appF]at h1⊢;by_cases hj:j=kk
   ·rw[if_pos hj]at h1⊢
    exact h1
   ·rw[if_neg hj]
    exact h0.through hF hf.sub (oth j (by simp only[Eff.touch,ne_eq,r2l];exact λe=>hj e.symm))
end
end Esp
namespace Esp
open Go
variable [Tabs]
mutual
def AV.hasRef (k:Nat):AV->Bool
 |.cell c=>c.refs k
 |.agg cs=>cs.any (AC.refs k)
 |.aggD _=>false
 |.tup vs=>AV.hasRefL k vs
 |.whn _ _ x=>AV.hasRef k x
 |.junk=>false
def AV.hasRefL (k:Nat):List AV->Bool
 |[]=>false
 |v::r=>AV.hasRef k v || AV.hasRefL k r
end
def AObj.hasRef (k:Nat):AObj->Bool
 |.box cs _=>cs.any (AC.refs k)
 |_=>false
omit [Tabs]in
theorem AC.kill_noref {k:Nat}{c:AC}(h:c.refs k=false):c.kill k=c:=by unfold AC.kill;rw[h];rfl
omit [Tabs]in
theorem r0n{k:Nat}:∀{cs:List AC},cs.any (AC.refs k)=false->cs.map (AC.kill k)=cs
 |[],_=>rfl
 |c::r,h=>by
  simp only[List.any_cons,r2x]at h;rw[r2z,AC.kill_noref h.1,r0n h.2]
omit [Tabs]in
mutual
theorem AV.kill_noref (k:Nat):∀v:AV,v.hasRef k=false->v.kill k=v
 |.cell c,h=>by simp only[AV.kill,AC.kill_noref (show c.refs k=false from h)]
 |.agg cs,h=>by simp only[AV.kill,r0n (show cs.any (AC.refs k)=false from h)]
 |.aggD cs,_=>rfl
 |.tup vs,h=>by simp only[AV.kill,AV.killL_noref k vs h]
 |.whn g w x,h=>by simp only[AV.kill,AV.kill_noref k x h]
 |.junk,_=>rfl
theorem AV.killL_noref (k:Nat):∀v:List AV,AV.hasRefL k v=false->AV.killL k v=v
 |[],_=>rfl
 |v::r,h=>by
  simp only[AV.hasRefL,r2x]at h;simp only[AV.killL,AV.kill_noref k v h.1,AV.killL_noref k r h.2]
end
omit [Tabs]in
theorem AObj.kill_noref {k:Nat}{o:AObj}(h:o.hasRef k=false):o.kill k=o:=by
 cases o with
 |box cs=>simp only[AObj.kill,r0n (show cs.any (AC.refs k)=false from h)]
 |_=>rfl
omit [Tabs]in
theorem AV.dropW_nouse {d:Nat}{v:AV}(h:v.uses d=false):v.dropW d=v:=by unfold AV.dropW;rw[h];rfl
omit [Tabs]in
theorem AV.dropW_comm (d e:Nat)(v:AV):(v.dropW d).dropW e=(v.dropW e).dropW d:=by
 rw[AV.dropW_eq,AV.dropW_eq,AV.dropW_eq,AV.dropW_eq,AV.dropP_dropP,AV.dropP_dropP,e0d]
omit [Tabs]in
theorem AV.kill_comm (d e:Nat)(v:AV):(v.kill d).kill e=(v.kill e).kill d:=by
 rw[AV.kill_eq,AV.kill_eq,AV.kill_eq,AV.kill_eq,AV.killP_killP,AV.killP_killP,e0d]
omit [Tabs]in
theorem AObj.kill_comm (d e:Nat)(v:AObj):(v.kill d).kill e=(v.kill e).kill d:=by
 rw[AObj.kill_eq,AObj.kill_eq,AObj.kill_eq,AObj.kill_eq,AObj.killP_killP,AObj.killP_killP,e0d]
omit [Tabs]in
theorem AV.kill_dropW (k d:Nat)(v:AV):(v.dropW d).kill k=(v.kill k).dropW d:=by
 rw[AV.kill_eq,AV.dropW_eq,AV.kill_eq,AV.dropW_eq,AV.killP_dropP]
def c0o:Eff->Eff->Bool
 |.put d x,.put d' x' => !Nat.beq d d' && !x.uses d' && !x'.uses d
 |.put d x,.new k _ d' x' => !Nat.beq d d' && !x.uses d' && !x'.uses d&& !x.hasRef k
 |.new k _ d' x',.put d x=> !Nat.beq d d' && !x.uses d' && !x'.uses d&& !x.hasRef k
 |.new k o d x,.new k' o' d' x' => !Nat.beq d d' && !Nat.beq k k' && !x.uses d' && !x'.uses d&& !x.hasRef k' && !x'.hasRef k&& !o.hasRef k' && !o'.hasRef k
 |.put _ _,.upd _ _=>true
 |.upd _ _,.put _ _=>true
 |.upd k o,.new k' _ _ _=> !Nat.beq k k' && !o.hasRef k'
 |.new k' _ _ _,.upd k o=> !Nat.beq k k' && !o.hasRef k'
 |.upd k _,.upd k' _=> !Nat.beq k k'
 |_,_=>false
def n1m:Eff->Eff->Bool
 |.upp k o d x,.upp k' o' d' x' =>c0o (.upd k o) (.upd k' o')&&c0o (.upd k o) (.put d' x')&& (c0o (.put d x) (.upd k' o')&&c0o (.put d x) (.put d' x'))
 |.upp k o d x,e=>c0o (.upd k o) e&&c0o (.put d x) e
 |e,.upp k o d x=>c0o e (.upd k o)&&c0o e (.put d x)
 |e,e' =>c0o e e'
omit [Tabs]in
theorem o0r{d d' k:Nat}{x x' :AV}{o:AObj}(h:(!Nat.beq d d' && !x.uses d' && !x'.uses d&& !x.hasRef k)=true)(f:FSt):
  (Eff.new k o d' x').appF ((Eff.put d x).appF f)=(Eff.put d x).appF ((Eff.new k o d' x').appF f):=by
 simp only[r2i,s2v]at h;obtain⟨⟨⟨h1,h2⟩,h3⟩,h4⟩:=h;have aS:=s2d h1;simp only[Eff.appF,FSt.mk.injEq,and_true];funext i;by_cases e1:i=d'
 ·subst e1
  rw[if_pos rfl,if_neg (λe=>aS e.symm),if_pos rfl,AV.dropW_nouse h3]
 ·rw[if_neg e1]
  by_cases e2:i=d
  ·subst e2
   rw[if_pos rfl,if_pos rfl,AV.kill_noref k x h4,AV.dropW_nouse h2]
  ·rw[if_neg e2,if_neg e2,if_neg e1,AV.kill_dropW,AV.dropW_comm]
omit [Tabs]in
theorem o0u{k k' d' :Nat}{x' :AV}{o o' :AObj}(h:(!Nat.beq k k' && !o.hasRef k')=true)(f:FSt):
  (Eff.new k' o' d' x').appF ((Eff.upd k o).appF f)=(Eff.upd k o).appF ((Eff.new k' o' d' x').appF f):=by
 simp only[r2i,s2v]at h;have aS:=s2d h.1;simp only[Eff.appF,FSt.mk.injEq,true_and];funext j;by_cases e1:j=k'
 ·subst e1
  rw[if_pos rfl,if_neg (λe=>aS e.symm),if_pos rfl]
 ·rw[if_neg e1]
  by_cases e2:j=k
  ·subst e2
   rw[if_pos rfl,if_pos rfl,AObj.kill_noref h.2]
  ·rw[if_neg e2,if_neg e2,if_neg e1]
omit [Tabs]in
theorem f0o{e e' :Eff}(h:c0o e e' =true)(f:FSt):e'.appF (e.appF f)=e.appF (e'.appF f):=by
 cases e with
 |put d x=>
  cases e' with
  |put d' x' =>
   simp only[c0o,r2i,s2v]at h;obtain⟨⟨h1,h2⟩,h3⟩:=h;have aS:=s2d h1;simp only[Eff.appF,FSt.mk.injEq,and_true];funext i;by_cases e1:i=d'
   ·subst e1
    rw[if_pos rfl,if_neg (λe=>aS e.symm),if_pos rfl,AV.dropW_nouse h3]
   ·rw[if_neg e1]
    by_cases e2:i=d
    ·subst e2
     rw[if_pos rfl,if_pos rfl,AV.dropW_nouse h2]
    ·rw[if_neg e2,if_neg e2,if_neg e1,AV.dropW_comm]
  |new k o d' x' =>exact o0r h f
  |upd k o=>rfl
  |upp k o d x=>simp[c0o]at h
 |new k o d x=>
  cases e' with
  |put d' x' =>exact(o0r h f).symm
  |new k' o' d' x' =>
   simp only[c0o,r2i,s2v]at h;obtain⟨⟨⟨⟨⟨⟨⟨h1,h2⟩,h3⟩,h4⟩,h5⟩,h6⟩,h7⟩,h8⟩:=h;have aS:=s2d h1;have l6:=s2d h2;simp only[Eff.appF,FSt.mk.injEq];refine⟨?_,?_⟩
   ·funext i
    by_cases e1:i=d'
    ·subst e1
     rw[if_pos rfl,if_neg (λe=>aS e.symm),if_pos rfl,AV.kill_noref k x' h6,AV.dropW_nouse h4]
    ·rw[if_neg e1]
     by_cases e2:i=d
     ·subst e2
      rw[if_pos rfl,if_pos rfl,AV.kill_noref k' x h5,AV.dropW_nouse h3]
     ·rw[if_neg e2,if_neg e2,if_neg e1,AV.kill_dropW,AV.kill_dropW,AV.dropW_comm,AV.kill_comm]
   ·funext j
    by_cases e1:j=k'
    ·subst e1
     rw[if_pos rfl,if_neg (λe=>l6 e.symm),if_pos rfl,AObj.kill_noref h8]
    ·rw[if_neg e1]
     by_cases e2:j=k
     ·subst e2
      rw[if_pos rfl,if_pos rfl,AObj.kill_noref h7]
     ·rw[if_neg e2,if_neg e2,if_neg e1,AObj.kill_comm]
  |upd k' o' =>exact(o0u h f).symm
  |upp k o d x=>simp[c0o]at h
 |upd k o=>
  cases e' with
  |put d' x' =>rfl
  |new k' o' d' x' =>exact o0u h f
  |upd k' o' =>
   simp only[c0o,s2v]at h;have l6:=s2d h;simp only[Eff.appF,FSt.mk.injEq,true_and];funext j;by_cases e1:j=k'
   ·subst e1
    rw[if_pos rfl,if_neg (λe=>l6 e.symm),if_pos rfl]
   ·rw[if_neg e1]
    by_cases e2:j=k
    ·rw[if_pos e2,if_pos e2]
    ·rw[if_neg e2,if_neg e2,if_neg e1]
  |upp k o d x=>simp[c0o]at h
 |upp k o d x=>cases e' <;>simp[c0o]at h
omit [Tabs]in
theorem l1v{e e' :Eff}(h:n1m e e' =true)(f:FSt):e'.appF (e.appF f)=e.appF (e'.appF f):=by
 have two:∀{k:Nat} {o:AObj} {d:Tmp} {x:AV} {e:Eff},c0o (.upd k o) e=true->c0o (.put d x) e=true->∀f,e.appF ((Eff.upp k o d x).appF f)=(Eff.upp k o d x).appF (e.appF f):=by
  intro k o d x e h1 h2 f;rw[h0s,f0o h2,f0o h1, <-h0s]
 have iK:∀{k:Nat} {o:AObj} {d:Tmp} {x:AV} {e:Eff},c0o e (.upd k o)=true->c0o e (.put d x)=true->∀f,(Eff.upp k o d x).appF (e.appF f)=e.appF ((Eff.upp k o d x).appF f):=by
  intro k o d x e h1 h2 f;rw[h0s,f0o h1,f0o h2, <-h0s]
 unfold n1m at h;split at h
 ·rename_i k o d x k' o' d' x'
  simp only[r2i]at h;have q1:=iK (k:=k') (o:=o') (d:=d') (x:=x') h.1.1 h.1.2;have q2:=iK (k:=k') (o:=o') (d:=d') (x:=x') h.2.1 h.2.2;rw[h0s k o,q2,q1, <-h0s]
 ·simp only[r2i]at h
  exact two h.1 h.2 f
 ·simp only[r2i]at h
  exact iK h.1 h.2 f
 ·exact f0o h f
def orD(bs:List Nat)(es:List Edge):Nat:=
 match es with
 |[]=>0
 |e::r=>bif Region.binds .any e then 2 ^ e.on ||| bs.getD e.on 0 ||| orD bs r else orD bs r
def x1q(i:Nat)(es:List Edge):Bool:=es.all λe=> !Region.binds .any e || Nat.blt e.on i
def d1i(bs:List Nat):Nat->List Oper->Bool
 |_,[]=>true
 |i,o::r=>Nat.beq (bs.getD i 0) (orD bs o.after.toList)&&x1q i o.after.toList&&d1i bs (i+1) r
omit [Tabs]in
theorem i0h{bs:List Nat}:∀{l:List Oper} {s:Nat},d1i bs s l=true->∀i o,l[i]?=some o->bs.getD (s+i) 0=orD bs o.after.toList/\x1q (s+i) o.after.toList=true
 |[],s,_,i,o,ho=>by simp at ho
 |x::r,s,h,i,o,ho=>by
  simp only[d1i,r2i]at h;cases i with
  |zero=>
   simp only[t2o,r2l]at ho;subst ho;exact⟨r2h h.1.1,h.1.2⟩
  |succ i=>
   have:=i0h h.2 i o (by simpa using ho);rwa[show s+(i+1)=s+1+i by omega]
omit [Tabs]in
theorem w0w{bs:List Nat}{j:Nat}:∀{es:List Edge},(orD bs es).testBit j=true->∃e∈es,Region.binds .any e=true/\(e.on=j\/(bs.getD e.on 0).testBit j=true)
 |[],h=>by simp[orD]at h
 |e::r,h=>by
  simp only[orD]at h;cases hb:Region.binds .any e with
  |false=>
   rw[hb,u2k]at h;obtain⟨e',gf,h'⟩:=w0w h;exact⟨e',s2x _ gf,h'⟩
  |true=>
   rw[hb,u2j]at h;simp only[Nat.testBit_or,u2c]at h;rcases h with(h|h)| h
   ·refine⟨e,List.mem_cons_self,hb,.inl ?_⟩
    rw[Nat.testBit_two_pow]at h;exact of_decide_eq_true h
   ·exact⟨e,List.mem_cons_self,hb,.inr h⟩
   ·obtain⟨e',gf,h'⟩:=w0w h
    exact⟨e',s2x _ gf,h'⟩
section
variable{ops:Array Oper}{bs:List Nat}
omit [Tabs]in
theorem o1v(hb:d1i bs 0 ops.toList=true):∀(i:Nat),i<ops.size->∀j,(bs.getD i 0).testBit j=true->j<i:=by
 intro i
 induction i using Nat.strongRecOn with
 |_ i ih=>
  intro hi j hj;have ho:ops.toList[i]?=some ops[i]:=by simp[hi]
  obtain⟨h1,h2⟩:=i0h hb i _ ho;simp only[s2u]at h1 h2;rw[h1]at hj;obtain⟨e,he,c8,h⟩:=w0w hj;have aJ:e.on<i:=by
   have:=s2b.1 h2 e he;rw[c8]at this;exact a0e (by simpa using this)
  rcases h with rfl|h
  ·exact aJ
  ·exact Nat.lt_trans (ih _ aJ (by omega) j h) aJ
def p0u(ops:Array Oper)(L:Nat->Bool)(i:Nat):Prop:=∀o,ops[i]?=some o->∀e∈o.after.toList,Region.binds .any e=true->L e.on=true
omit [Tabs]in
theorem h0x(hb:d1i bs 0 ops.toList=true){L:Nat->Bool}(hL:∀i,i<ops.size->L i=true->p0u ops L i):∀(i:Nat),i<ops.size->p0u ops L i->∀j,(bs.getD i 0).testBit j=true->L j=true:=by
 intro i
 induction i using Nat.strongRecOn with
 |_ i ih=>
  intro hi hw j hj;have ho:ops.toList[i]?=some ops[i]:=by simp[hi]
  obtain⟨h1,h2⟩:=i0h hb i _ ho;simp only[s2u]at h1 h2;rw[h1]at hj;obtain⟨e,he,c8,h⟩:=w0w hj;have aJ:e.on<i:=by
   have:=s2b.1 h2 e he;rw[c8]at this;exact a0e (by simpa using this)
  have hl:L e.on=true:=hw ops[i] (by simp[hi]) e he c8;rcases h with rfl|h
  ·exact hl
  ·exact ih _ aJ (by omega) (hL _ (by omega) hl) j h
end
def ub(bs:List Nat)(i j:Nat):Bool:= !Nat.beq i j&& !(bs.getD i 0).testBit j&& !(bs.getD j 0).testBit i
def e0h(L:Nat->Bool):Nat->List Eff->FSt->FSt
 |_,[],f=>f
 |i,e::r,f=>e0h L (i+1) r (bif L i then e.appF f else f)
def l0p(L:Nat->Bool):Nat->List Eff->ASt->ASt
 |_,[],s=>s
 |i,e::r,s=>l0p L (i+1) r (bif L i then e.app s else s)
omit [Tabs]in
theorem v0y(L:Nat->Bool):∀(r:List Eff) (i:Nat) (s:ASt),(l0p L i r s).fn=e0h L i r s.fn
 |[],_,_=>rfl
 |e::r,i,s=>by
  simp only[l0p,e0h];rw[v0y L r];cases L i with
  |true=>rw[u2j,u2j,k1e]
  |false=>rfl
omit [Tabs]in
theorem q0w(L L' :Nat->Bool):∀(r:List Eff) (i:Nat) (f:FSt),(∀j,i<=j->L j=L' j)->e0h L i r f=e0h L' i r f
 |[],_,_,_=>rfl
 |e::r,i,f,h=>by
  simp only[e0h];rw[h i (r2q _),q0w L L' r (i+1) _ λj hj=>h j (by omega)]
omit [Tabs]in
theorem p0b{p q dk:Nat->Bool}(L L' :Nat->Bool):∀(r:List Eff) (i:Nat) (f f' :FSt),(∀j e,r[j]?=some e->e.inside p q dk=true\/L (i+j)=L' (i+j))->f.strike p q dk=f'.strike p q dk->
  (e0h L i r f).strike p q dk=(e0h L' i r f').strike p q dk
 |[],_,_,_,_,h=>h
 |e::r,i,f,f',hh,h=>by
  simp only[e0h];refine p0b L L' r (i+1) _ _ (λj e' gf=>?_) ?_
  ·have:=hh (j+1) e' (by simpa using gf)
   rwa[show i+(j+1)=i+1+j by omega]at this
  ·rcases hh 0 e rfl with hin|he
   ·have e1:=n0a hin f
    have e2:=n0a hin f';cases L i<;>cases L' i<;>simp only[u2j,u2k]
    ·exact h
    ·exact h.trans e2.symm
    ·exact e1.trans h
    ·exact(e1.trans h).trans e2.symm
   ·simp only[u2e]at he
    rw[he];cases L' i with
    |true=>exact b1t e h
    |false=>exact h
omit [Tabs]in
theorem n0n(L:Nat->Bool)(e:Eff):∀(r:List Eff) (i:Nat) (f:FSt),(∀j e',r[j]?=some e' ->L (i+j)=true->n1m e e' =true)->e0h L i r (e.appF f)=e.appF (e0h L i r f)
 |[],_,_,_=>rfl
 |e' ::r,i,f,h=>by
  simp only[e0h];have hr:∀j e'',r[j]?=some e'' ->L (i+1+j)=true->n1m e e'' =true:=λj e'' he hl=>h (j+1) e'' (by simpa using he) (by rwa[show i+(j+1)=i+1+j by omega]);cases hl:L i with
  |true=>
   simp only[u2j];rw[l1v (h 0 e' rfl (by simpa using hl)),n0n L e r (i+1) _ hr]
  |false=>
   simp only[u2k];exact n0n L e r (i+1) _ hr
omit [Tabs]in
theorem t0r(L L' :Nat->Bool)(e:Eff):∀(r:List Eff) (s m:Nat) (f:FSt),r[m]?=some e->L (s+m)=false->L' (s+m)=true->(∀j,j≠s+m->L' j=L j)->
  (∀j e',m<j->r[j]?=some e' ->L (s+j)=true->n1m e e' =true)->e0h L' s r f=e.appF (e0h L s r f)
 |[],s,m,f,h,_,_,_,_=>by simp at h
 |e0::r,s,0,f,h,h1,h2,h3,h4=>by
  simp only[t2o,r2l]at h;subst h;simp only[u2e]at h1 h2 h3;simp only[e0h,h1,h2,u2j,u2k];rw[q0w L' L r (s+1) _ λj hj=>h3 j (by omega)];exact n0n L e0 r (s+1) f λj e' he hl=>h4 (j+1) e' (by omega) (by simpa using he) (by rwa[show s+(j+1)=s+1+j by omega])
 |e0::r,s,m+1,f,h,h1,h2,h3,h4=>by
  simp only[e0h];rw[h3 s (by omega)];refine t0r L L' e r (s+1) m _ (by simpa using h) (by rwa[show s+1+m=s+(m+1)by omega]) (by rwa[show s+1+m=s+(m+1)by omega]) (λj hj=>h3 j (by omega)) λj e' hj he hl=>?_;exact h4 (j+1) e' (by omega) (by simpa using he) (by rwa[show s+(j+1)=s+1+j by omega])
def d0e(bs:List Nat)(i:Nat):Nat->List Eff->List Eff
 |_,[]=>[]
 |j,e::r=>bif ub bs i j then e::d0e bs i (j+1) r else d0e bs i (j+1) r
def m0j(es:List Eff)(k:Nat):Bool:=es.any λe=>match e with|.new j _ _ _=>Nat.beq k j|_=>false
def n0g(es:List Eff)(d:Nat):Bool:=es.any λe=>match e with|.new _ _ j _=>Nat.beq d j|.put j _=>Nat.beq d j|.upp _ _ j _=>Nat.beq d j|_=>false
def tchs:List Eff->List Nat
 |[]=>[]
 |.put _ _::r=>tchs r
 |.new k _ _ _::r=>k::tchs r
 |.upd k _::r=>k::tchs r
 |.upp k _ _ _::r=>k::tchs r
omit [Tabs]in
theorem u0t(bs:List Nat)(i:Nat):∀(r:List Eff) (s j:Nat) (e:Eff),r[j]?=some e->ub bs i (s+j)=true->e∈d0e bs i s r
 |[],s,j,e,h,_=>by simp at h
 |e0::r,s,0,e,h,hu=>by
  simp only[t2o,r2l]at h;subst h;simp only[u2e]at hu;simp[d0e,hu]
 |e0::r,s,j+1,e,h,hu=>by
  have:=u0t bs i r (s+1) j e (by simpa using h) (by rwa[show s+1+j=s+(j+1)by omega]);simp only[d0e];cases ub bs i s with
  |true=>exact s2x _ this
  |false=>exact this
omit [Tabs]in
theorem q0c:∀{es:List Eff} {e:Eff},e∈es->∀k,e.touch=some k->memB k (tchs es)=true
 |e0::r,e,h,k,hk=>by
  rcases r2s.1 h with rfl|h
  ·cases e with
   |put d x=>cases hk
   |new k' o d x=>cases hk;simp[tchs,memB]
   |upd k' o=>cases hk;simp[tchs,memB]
   |upp k' o d x=>cases hk;simp[tchs,memB]
  ·have:=q0c h k hk
   cases e0 with
   |put d x=>exact this
   |new k' o d x=>simp[tchs,memB,this]
   |upd k' o=>simp[tchs,memB,this]
   |upp k' o d x=>simp[tchs,memB,this]
omit [Tabs]in
theorem y0a{es:List Eff}{e:Eff}(h:e∈es):e.inside (m0j es) (n0g es) (memB · (tchs es))=true:=by
 cases e with
 |put d x=>exact List.any_eq_true.2 ⟨_,h,by simp⟩
 |new k o d x=>
  simp only[Eff.inside,r2i];exact⟨⟨List.any_eq_true.2 ⟨_,h,by simp⟩,List.any_eq_true.2 ⟨_,h,by simp⟩⟩,q0c h k rfl⟩
 |upd k o=>exact q0c h k rfl
 |upp k o d x=>
  simp only[Eff.inside,r2i];exact⟨List.any_eq_true.2 ⟨_,h,by simp⟩,q0c h k rfl⟩
def e2q(bs:List Nat)(effs:List Eff)(st:ASt)(i:Nat)(f:Nat->AObj):ASt:=
 (l0p (Nat.blt · i) 0 effs st).weak (m0j (d0e bs i 0 effs)) (n0g (d0e bs i 0 effs)) (tchs (d0e bs i 0 effs)) f
def g1b(bs:List Nat)(effs:List Eff):Bool:=
 (List.range effs.length).all λi=>(List.range effs.length).all λj=> !(Nat.blt i j&&ub bs i j) || (match effs[i]?,effs[j]? with|some e,some e' =>n1m e e'|_,_=>true)
def t1x(bs fl:List Nat)(m n:Nat):Bool:=(List.range (n - m)).all λd=>(List.range (m+d)).all λi=>(bs.getD (m+d) 0).testBit i || memB i fl
omit [Tabs]in
theorem y0e{x:Nat}:∀{l:List Nat},memB x l=true->x∈l
 |y::r,h=>by
  simp only[memB,u2c]at h;rcases h with h|h
  ·rw[r2h h];simp
  ·exact s2x _ (y0e h)
omit [Tabs]in
theorem q1c{x:Nat}:∀{l:List Nat},x∈l->memB x l=true
 |y::r,h=>by
  simp only[memB,u2c];rcases r2s.1 h with rfl|h
  ·exact .inl (u2f _)
  ·exact .inr (q1c h)
def b2b(ops:Array Oper)(m:Nat)(fl:List Nat):Bool:=
 Region.noSelect ops&&fl.all λi=>Nat.blt i m&& (match ops[i]? with
  |some o=>(match o.op with|.move _|.assign _=>true|_=>false)&&o.guard.isNone&&o.after.all (λe=> !Region.binds .any e)
  |none=>false)&&Region.free .any ops (Array.replicate ops.size false) i
omit [Tabs]in
theorem c1w{P:Program}{ops:Array Oper}{o:Oper}{a:Act}(h:(match o.op with|.move _|.assign _=>true|_=>false)=true)(hg:o.guard.isNone=true):∃v,Yields P ops o v a:=by
 have hw:Region.wanted o (yielded ops a.tmps)=true:=by
  unfold Region.wanted;rw[Option.isNone_iff_eq_none.1 hg]
 split at h
 ·rename_i x hx
  exact⟨a.eval x,.inl ⟨hw,λw=>by unfold execOp;rw[hx];rfl⟩⟩
 ·rename_i x hx
  exact⟨a.eval x,.inl ⟨hw,λw=>by unfold execOp;rw[hx];rfl⟩⟩
 ·cases h
omit [Tabs]in
theorem u0q{P:Program}{ops:Array Oper}{i:Nat}{o:Oper}{v:Value}{a:Act}{w:World}{K:Act->World->Prop}(hi:ops[i]?=some o)(hy:Yields P ops o v a)(h:wpOp P ops (λ_ _ _=>False) i K a w):K (a.put o.dst v) w:=by
 unfold wpOp at h;simp only[hi]at h;rcases hy with⟨hw,hv⟩| ⟨hw,rfl⟩
 ·simp only[hw,if_true,Oper.wp,hv w,Oper.upon]at h
  rcases h with h|⟨_,h⟩
  ·exact h
  ·exact absurd h (by rintro⟨_,_,h⟩;exact h)
 ·simp only[hw,u2g,if_false]at h
  exact h
theorem AW.drawSeq {P:Program}{N:Nat}{c:Code}{st st' :ASt}{Q:Exit->ASt->Prop}(hk:kind c=11)(hm:P.follows .mixedOrders=true)(effs:List Eff)(bs:List Nat)(hn:effs.length<=(cops c).size)
  (hb:d1i bs 0 (cops c).toList=true)(hc:g1b bs effs=true)
  (bY:∀i e,effs[i]?=some e->∀f,IEff P N (cops c) i (e2q bs effs st i f) e)(hst:l0p (λ_=>true) 0 effs st=st')(fl:List Nat)(bS:fl=[]\/(b2b (cops c) effs.length fl=true/\∀e s,Q e s->e=.normal))(hq:t1x bs fl effs.length (cops c).size=true)(h:AOps P N (cops c) (List.range' effs.length ((cops c).size - effs.length)) st' Q):AW P N c st Q:=by
 intro F ρ a w hr;cases c<;>first|(simp[kind]at hk;done)| skip
 rename_i id ops d;cases d with
 |false=>simp[kind]at hk
 |true=>
 simp only[cops]at hn hb bY hq h bS;refine wp_region_any hm ?_;have flm:∀i,memB i fl=true->i<effs.length:=λi hi=>by
  rcases bS with rfl|⟨h1,_⟩
  ·cases hi
  ·unfold b2b at h1
   rw[r2i]at h1;have h2:=s2b.1 h1.2 i (y0e hi);simp only[r2i]at h2;exact a0e h2.1.1
 have cnt:∀(l:List Bool) (m:Nat) (hm:m<l.length),l[m]=false->((l.set m true).filter (! ·)).length+1=(l.filter (! ·)).length:=by
  intro l
  induction l with
  |nil=>intro m hm;simp at hm
  |cons b r ihl=>
   intro m hm hb;cases m with
   |zero=>
    simp only[List.getElem_cons_zero]at hb;subst hb;simp
   |succ m=>
    have:=ihl m (by simpa using hm) (by simpa using hb);cases b with
    |true=>simpa using this
    |false=>simpa using this
 have full:∀(listed:Array Bool),listed.size=ops.size->(listed.toList.filter (! ·)).length=0->∀i,i<ops.size->listed.getD i false=true:=by
  intro listed hz dA i hi;have b9:i<listed.size:=by omega
  have dL:=s2f dA;rw[List.filter_eq_nil_iff]at dL;have:=dL listed[i] (by simp);have e:listed.getD i false=listed[i]:=by simp[r2j,b9]
  rw[e];simpa using this
 have none_ready:∀(listed:Array Bool),listed.size=ops.size->(∀i,i<ops.size->listed.getD i false=true)->Region.ready .any ops listed=[]:=by
  intro listed hz bB;unfold Region.ready;rw[List.filter_eq_nil_iff];intro i hi;have aK:=u2a.1 hi;have b9:i<listed.size:=by omega
  have e:listed.getD i true=true:=by
   have:=bB i aK;simp only[r2j,s2h b9,t2r]at this⊢;exact this
  simp[e]
 have ready_of:∀(listed:Array Bool),listed.size=ops.size->∀i,i∈Region.ready .any ops listed->i<ops.size/\listed.getD i false=false/\p0u ops (λj=>listed.getD j false) i:=by
  intro listed hz i hi;unfold Region.ready at hi;rw[t2s]at hi;obtain⟨fN,hi2⟩:=hi;have aK:=u2a.1 fN;have b9:i<listed.size:=by omega
  simp only[r2i,s2v]at hi2;have ho:ops[i]?=some ops[i]:=by simp[aK]
  rw[ho]at hi2;simp only[s2z,t2r]at hi2;refine⟨aK,?_,?_⟩
  ·have:=hi2.1
   simp only[r2j,s2h b9,t2r]at this⊢;exact this
  ·intro o ho' e he c8
   rw[ho]at ho';cases ho';have:=hi2.2;rw [<-Array.all_toList,s2b]at this;simpa[c8]using this e he
 have set_get:∀(listed:Array Bool) (i:Nat),i<listed.size->∀j,(listed.setIfInBounds i true).getD j false=if j=i then true else listed.getD j false:=by
  intro listed i b9 j;by_cases hj:j=i
  ·subst hj
   simp[r2j,b9]
  ·rw[if_neg hj]
   simp[r2j,Ne.symm hj]
 have closed_set:∀(listed:Array Bool) (i:Nat),i<listed.size->p0u ops (λj=>listed.getD j false) i->(∀i,i<ops.size->listed.getD i false=true->p0u ops (λj=>listed.getD j false) i)->
   ∀j,j<ops.size->(listed.setIfInBounds i true).getD j false=true->p0u ops (λj=>(listed.setIfInBounds i true).getD j false) j:=by
  intro listed i b9 eT bU j hj jF o ho' e he c8;have hL' :=set_get listed i b9;simp only[hL']at jF⊢;by_cases cN:j=i
  ·subst cN
   have:=eT o ho' e he c8;split
   ·rfl
   ·exact this
  ·rw[if_neg cN]at jF
   have:=bU j hj jF o ho' e he c8;split
   ·rfl
   ·exact this
 have fuel_set:∀(listed:Array Bool) (i fuel:Nat),i<listed.size->listed.getD i false=false->(listed.toList.filter (! ·)).length=fuel+1->((listed.setIfInBounds i true).toList.filter (! ·)).length=fuel:=by
  intro listed i fuel b9 hLi dA;have e1:listed[i]=false:=by
   have:listed.getD i false=listed[i]:=by simp[r2j,b9]
   rw [<-this];exact hLi
  have nc:i<listed.toList.length:=by simpa using b9
  have:=cnt listed.toList i nc (by simpa using e1);rw[Array.toList_setIfInBounds];omega
 have seqb:∀j,effs.length<=j->j<ops.size->∀i,i<j->memB i fl=false->(bs.getD j 0).testBit i=true:=by
  intro j hj kC i hi j4;have h1:=s2b.1 hq (j - effs.length) (u2a.2 (by omega));have h2:=s2b.1 h1 i (u2a.2 (by omega));rwa[show effs.length+(j - effs.length)=j by omega,j4,t2i]at h2
 have nofl:∀i,effs.length<=i->memB i fl=false:=λi hi=>by
  cases hb:memB i fl with
  |false=>rfl
  |true=>exact absurd (flm i hb) (by omega)
 -- those that stand in one order
 have tail:∀(Q' :Exit->Act->World->Prop) (fuel p:Nat) (listed:Array Bool) (a1:Act) (w1:World),listed.size=ops.size->(listed.toList.filter (! ·)).length=fuel->effs.length<=p->p<=ops.size->
   (∀j,j<ops.size->listed.getD j false=Nat.blt j p)->(∀i,i<ops.size->listed.getD i false=true->p0u ops (λj=>listed.getD j false) i)->wpOps P ops Q' (List.range' p (ops.size - p)) a1 w1->wpAny P .any ops Q' fuel listed a1 w1:=by
  intro Q' fuel;have bltf:∀x y:Nat,¬x<y->Nat.blt x y=false:=λx y gM=>by
   cases aW:Nat.blt x y with
   |false=>rfl
   |true=>exact absurd (a0e aW) gM
  have bltt:∀x y:Nat,x<y->Nat.blt x y=true:=λx y gM=>r2y gM
  induction fuel with
  |zero=>
   intro p listed a1 w1 hz dA hp oY hl bU hw;have bB:=full listed hz dA;have hpe:p=ops.size:=by
    refine Classical.byContradiction λhc=>?_;have h1:=bB p (by omega);rw[hl p (by omega),bltf p p (by omega)]at h1;cases h1
   subst hpe;rw[Nat.sub_self]at hw;exact⟨none_ready listed hz bB,hw⟩
  |succ fuel ih=>
   intro p listed a1 w1 hz dA hp oY hl bU hw;have b7:p<ops.size:=by
    refine Classical.byContradiction λhc=>?_;have bB:∀i,i<ops.size->listed.getD i false=true:=λi hi=>by rw[hl i hi,bltt i p (by omega)]
    have:(listed.toList.filter (! ·))=[]:=by
     rw[List.filter_eq_nil_iff];intro x hx;obtain⟨i,hi,rfl⟩:=List.getElem_of_mem hx;have aK:i<listed.size:=by simpa using hi
     have:=bB i (by omega);simp only[r2j,s2h aK,t2r]at this;simpa using this
    rw[this]at dA;cases dA
   have aS:p∈Region.ready .any ops listed:=by
    unfold Region.ready;rw[t2s];refine⟨u2a.2 b7,?_⟩;have b9:p<listed.size:=by omega
    have e1:listed.getD p true=false:=by
     have:=hl p b7;rw[bltf p p (by omega)]at this;simp only[r2j,s2h b9,t2r]at this⊢;exact this
    have ho:ops[p]?=some ops[p]:=by simp[b7]
    rw[e1,ho];simp only[t2m,t2k,s2z,t2r];rw [<-Array.all_toList,s2b];intro e he;cases c8:Region.binds .any e with
    |false=>rfl
    |true=>
     have aJ:e.on<p:=by
      have h2:=(i0h hb p ops[p] (by simp[b7])).2;simp only[s2u]at h2;have:=s2b.1 h2 e he;rw[c8]at this;exact a0e (by simpa using this)
     have h3:=hl e.on (by omega);rw[bltt _ _ aJ]at h3;simpa using h3
   refine⟨λdL=>absurd aS (by rw[dL];simp),λi hi=>?_⟩;obtain⟨aK,hLi,eT⟩:=ready_of listed hz i hi;have pF:i=p:=by
    have h1:¬i<p:=λh=>by rw[hl i aK,bltt i p h]at hLi;cases hLi
    refine Classical.byContradiction λhc=>?_;have h2:listed.getD p false=true:=h0x hb bU i aK eT p (seqb i (by omega) aK p (by omega) (nofl p hp));rw[hl p b7,bltf p p (by omega)]at h2;cases h2
   subst pF;rw[show ops.size - i=(ops.size - (i+1))+1 by omega,t2j,wpOps_cons]at hw;refine wpOp_mono (λa2 w2 gY=>?_) hw;refine ih (i+1) _ a2 w2 (by simpa using hz) (fuel_set listed i fuel (by omega) hLi dA) (by omega) (by omega) (λj hj=>?_) (closed_set listed i (by omega) eT bU) gY;rw[set_get listed i (by omega)];by_cases cN:j=i
   ·rw[if_pos cN,bltt j (i+1) (by omega)]
   ·rw[if_neg cN,hl j hj]
    by_cases aJ:j<i
    ·rw[bltt j i aJ,bltt j (i+1) (by omega)]
    ·rw[bltf j i aJ,bltf j (i+1) (by omega)]
 have endst:∀(listed:Array Bool),(∀i,i<effs.length->listed.getD i false=true)-> ∀{s:ASt},s.fn=e0h (λj=>listed.getD j false) 0 effs st.fn->s.fn=st'.fn:=by
  intro listed bB s cJ;rw[cJ, <-hst,v0y];have:∀(r:List Eff) (i:Nat) (f:FSt),i+r.length<=effs.length->e0h (λj=>listed.getD j false) i r f=e0h (λ_=>true) i r f:=by
   intro r
   induction r with
   |nil=>intro i f _;rfl
   |cons e r ih=>
    intro i f hi;simp only[r2w]at hi;simp only[e0h,bB i (by omega)];exact ih (i+1) _ (by omega)
  exact this effs 0 st.fn (by omega)
 -- nobody is ready: all are listed
 have idle:∀(listed:Array Bool),listed.size=ops.size->Region.ready .any ops listed=[]-> ∀i,i<ops.size->listed.getD i false=true:=by
  intro listed hz dL i
  induction i using Nat.strongRecOn with
  |_ i ih=>
   intro hi;refine Classical.byContradiction λhc=>?_;have aX:i∈Region.ready .any ops listed:=by
    unfold Region.ready;rw[t2s];refine⟨u2a.2 hi,?_⟩;have b9:i<listed.size:=by omega
    have e1:listed.getD i true=false:=by
     have:listed.getD i false=listed[i]:=by simp[r2j,b9]
     rw[this]at hc;simp[r2j,b9];simpa using hc
    have ho:ops[i]?=some ops[i]:=by simp[hi]
    rw[e1,ho];simp only[t2m,t2k,s2z,t2r];rw [<-Array.all_toList,s2b];intro e he;cases c8:Region.binds .any e with
    |false=>rfl
    |true=>
     have aJ:e.on<i:=by
      have h2:=(i0h hb i ops[i] (by simp[hi])).2;simp only[s2u]at h2;have:=s2b.1 h2 e he;rw[c8]at this;exact a0e (by simpa using this)
     simpa using ih _ aJ (by omega)
   rw[dL]at aX;cases aX
 have step:∀(listed:Array Bool) (F1:Nat->Prop) (ρ1:Env) (a1:Act) (w1:World) (i:Nat),listed.size=ops.size->i<effs.length->listed.getD i false=false->p0u ops (λj=>listed.getD j false) i->
   (∀i,i<ops.size->listed.getD i false=true->p0u ops (λj=>listed.getD j false) i)->(∃s,Rel N F1 ρ1 s a1 w1/\s.fn=e0h (λj=>listed.getD j false) 0 effs st.fn)->
   ∀(K:Act->World->Prop) (R:Exit->Act->World->Prop),(∀a2 w2 F2 ρ2,(∃s,Rel N F2 ρ2 s a2 w2/\s.fn=e0h (λj=>(listed.setIfInBounds i true).getD j false) 0 effs st.fn)->Fr F1 ρ1 w1 F2 ρ2 w2->K a2 w2)->wpOp P ops R i K a1 w1:=by
  intro listed F1 ρ1 a1 w1 i hz kK hLi eT bU hs K R hK;obtain⟨s,hsr,cJ⟩:=hs;have aK:i<ops.size:=by omega
  have b9:i<listed.size:=by omega
  have lf:effs[i]?=some effs[i]:=by simp[kK]
  -- who is ordered with i is listed just if he stands ahead of it
  have gD:∀j,j<effs.length->ub bs i j=false->listed.getD j false=Nat.blt j i:=by
   intro j hj hu;simp only[ub,Bool.and_eq_false_iff,Bool.not_eq_false']at hu;have bltf:∀x y:Nat,¬x<y->Nat.blt x y=false:=λx y gM=>by
    cases aW:Nat.blt x y with
    |false=>rfl
    |true=>exact absurd (a0e aW) gM
   rcases hu with(hu|hu)| hu
   ·have:=r2h hu
    subst this;rw[hLi,bltf _ _ (by omega)]
   ·have h1:=h0x hb bU i aK eT j hu
    have h2:=o1v hb i aK j hu;have h3:Nat.blt j i=true:=by
     cases aW:Nat.blt j i with
     |true=>rfl
     |false=>
      have:Nat.ble (j+1) i=true:=r2y h2;exact absurd (show Nat.blt j i=true from this) (by rw[aW];simp)
    rw[h1,h3]
   ·have h2:=o1v hb j (by omega) i hu
    rw[bltf _ _ (by omega)];cases jF:listed.getD j false with
    |false=>rfl
    |true=>
     have:=h0x hb bU j (by omega) (bU j (by omega) jF) i hu;rw[hLi]at this;cases this
  have mB:s.fn.strike (m0j (d0e bs i 0 effs)) (n0g (d0e bs i 0 effs)) (memB · (tchs (d0e bs i 0 effs)))=
    (l0p (Nat.blt · i) 0 effs st).fn.strike (m0j (d0e bs i 0 effs)) (n0g (d0e bs i 0 effs)) (memB · (tchs (d0e bs i 0 effs))):=by
   rw[cJ,v0y];refine p0b _ _ effs 0 _ _ (λj e he=>?_) rfl;simp only[s2u];cases hu:ub bs i j with
   |true=>exact .inl (y0a (u0t bs i effs 0 j e he (by simpa using hu)))
   |false=>exact .inr (gD j ((r2p.1 he).1) hu)
  have jC:IEff P N ops i s effs[i]:=.lift (λf=>bY i effs[i] lf f) mB;have hL' :=set_get listed i b9;refine jC F1 ρ1 a1 w1 hsr _ _ λv w2 F2 ρ2 hr2 hf2 _=>hK _ w2 F2 ρ2 ⟨_,hr2,?_⟩ hf2;rw[k1e,cJ];refine(t0r (λj=>listed.getD j false) (λj=>(listed.setIfInBounds i true).getD j false) effs[i] effs 0 i st.fn lf (by simpa using hLi) (by simp only[s2u,hL',if_pos]) (λj hj=>by simp only[s2u]at hj;simp only[hL',if_neg hj]) λj e' hj he hl=>?_).symm;simp only[s2u]at hl;have gp:=(r2p.1 he).1;have hu:ub bs i j=true:=by
   cases hu:ub bs i j with
   |true=>rfl
   |false=>
    have:=gD j gp hu;rw[hl]at this;have:=a0e this.symm;omega
  have h1:=s2b.1 hc i (u2a.2 kK);have h2:=s2b.1 h1 j (u2a.2 gp);have iU:Nat.blt i j=true:=r2y hj;simp only[iU,hu,Bool.and_self,s2l,s2q,lf,he]at h2;exact h2
 -- the induction over what is listed
 have key:∀(fuel:Nat) (listed:Array Bool) (F1:Nat->Prop) (ρ1:Env) (a1:Act) (w1:World),listed.size=ops.size->(listed.toList.filter (! ·)).length=fuel->
   (∀i,i<ops.size->listed.getD i false=true->p0u ops (λj=>listed.getD j false) i)->(∀j,effs.length<=j->j<ops.size->listed.getD j false=false)->(∀i,memB i fl=true->listed.getD i false=true)->
   (∃s,Rel N F1 ρ1 s a1 w1/\s.fn=e0h (λj=>listed.getD j false) 0 effs st.fn)->Fr F ρ w F1 ρ1 w1->
   wpAny P .any ops (λex a' w' =>∃F' ρ' st',Q ex st' /\Rel N F' ρ' st' a' w' /\Fr F ρ w F' ρ' w') fuel listed a1 w1:=by
  intro fuel
  induction fuel with
  |zero=>
   intro listed F1 ρ1 a1 w1 hz dA bU gl dO hs hf;have bB:=full listed hz dA;have qk:effs.length=ops.size:=by
    refine Classical.byContradiction λhc=>?_;have h1:=bB effs.length (by omega);rw[gl effs.length (r2q _) (by omega)]at h1;cases h1
   obtain⟨s,hs,cJ⟩:=hs;refine⟨none_ready listed hz bB,?_⟩;have h2:=h F1 ρ1 a1 w1 (hs.congr (endst listed (λi hi=>bB i (by omega)) cJ));rw [<-qk,Nat.sub_self]at h2;obtain⟨F',ρ',st2,q1,q2,q3⟩:=h2;exact⟨F',ρ',st2,q1,q2,hf.trans hs.rw.dis q3⟩
  |succ fuel ih=>
   intro listed F1 ρ1 a1 w1 hz dA bU gl dO hs hf;by_cases jg:∀i,i<effs.length->listed.getD i false=true
   ·obtain⟨s,hs,cJ⟩:=hs
    refine tail _ (fuel+1) effs.length listed a1 w1 hz dA (r2q _) hn (λj hj=>?_) bU ?_
    ·by_cases l7:j<effs.length
     ·rw[jg j l7];exact(r2y l7).symm
     ·rw[gl j (by omega) hj]
      cases aW:Nat.blt j effs.length with
      |false=>rfl
      |true=>exact absurd (a0e aW) l7
    ·refine c0h (λe a2 w2 ⟨F',ρ',st2,q1,q2,q3⟩=>⟨F',ρ',st2,q1,q2,hf.trans hs.rw.dis q3⟩) _ _ _ (h F1 ρ1 a1 w1 (hs.congr (endst listed jg cJ)))
   obtain⟨i0,hi0,fp⟩:∃i0,i0<effs.length/\listed.getD i0 false=false:=by
    refine Classical.byContradiction λhc=>jg λi hi=>?_;cases hb:listed.getD i false with
    |true=>rfl
    |false=>exact absurd ⟨i,hi,hb⟩ hc
   refine⟨λdL=>(by have:=idle listed hz dL i0 (by omega);rw[fp]at this;cases this),λi hi=>?_⟩;obtain⟨aK,hLi,eT⟩:=ready_of listed hz i hi;have b9:i<listed.size:=by omega
   have ho:ops[i]?=some ops[i]:=by simp[aK]
   obtain⟨s,hsr,cJ⟩:=hs;have kK:i<effs.length:=by
    refine Classical.byContradiction λhc=>?_;have h2:listed.getD i0 false=true:=h0x hb bU i aK eT i0 (seqb i (by omega) aK i0 (by omega) (by
     cases hb2:memB i0 fl with
     |false=>rfl
     |true=>rw[dO i0 hb2]at fp;cases fp))
    rw[fp]at h2;cases h2
   have cH:(listed.setIfInBounds i true).size=ops.size:=by simpa using hz
   have hL' :=set_get listed i b9;exact step listed F1 ρ1 a1 w1 i hz kK hLi eT bU ⟨s,hsr,cJ⟩ _ _ λa2 w2 F2 ρ2 im hf2=>ih _ F2 ρ2 a2 w2 cH (fuel_set listed i fuel b9 hLi dA) (closed_set listed i b9 eT bU) (λj hj kC=>by rw[hL',if_neg (by omega)];exact gl j hj kC) (λj hj=>by rw[hL'];split<;>first|rfl|exact dO j hj) im (hf.trans hsr.rw.dis hf2)
 -- those that may be taken first are taken first
 have start:∀(todo:List Nat),(∀i∈todo,memB i fl=true)-> ∀(fuel:Nat) (listed:Array Bool) (F1:Nat->Prop) (ρ1:Env) (a1:Act) (w1:World),listed.size=ops.size->(listed.toList.filter (! ·)).length=fuel->
   (∀i,i<ops.size->listed.getD i false=true->p0u ops (λj=>listed.getD j false) i)->(∀j,effs.length<=j->j<ops.size->listed.getD j false=false)->(∀i,memB i fl=true->i∈todo\/listed.getD i false=true)->
   (∃s,Rel N F1 ρ1 s a1 w1/\s.fn=e0h (λj=>listed.getD j false) 0 effs st.fn)->Fr F ρ w F1 ρ1 w1->
   wpAny P .any ops (λex a' w' =>∃F' ρ' st',Q ex st' /\Rel N F' ρ' st' a' w' /\Fr F ρ w F' ρ' w') fuel listed a1 w1:=by
  intro todo
  induction todo with
  |nil=>intro _ fuel listed F1 ρ1 a1 w1 hz dA bU gl dO hs hf;exact key fuel listed F1 ρ1 a1 w1 hz dA bU gl (λi hi=>(dO i hi).resolve_left (by simp)) hs hf
  |cons i todo iht=>
   intro ht fuel listed F1 ρ1 a1 w1 hz dA bU gl dO hs hf;cases hLi:listed.getD i false with
   |true=>exact iht (λj hj=>ht j (by simp[hj])) fuel listed F1 ρ1 a1 w1 hz dA bU gl (λj hj=>by
     rcases dO j hj with h|h
     ·rcases r2s.1 h with rfl|h
      ·exact .inr hLi
      ·exact .inl h
     ·exact .inr h) hs hf
   |false=>
    have j4:=ht i (by simp);rcases bS with rfl|⟨hfo,hQn⟩
    ·cases j4
    have oM:=flm i j4;have aK:i<ops.size:=by omega
    have b9:i<listed.size:=by omega
    have ho:ops[i]?=some ops[i]:=by simp[aK]
    unfold b2b at hfo;rw[r2i]at hfo;have h2:=s2b.1 hfo.2 i (y0e j4);rw[ho]at h2;simp only[r2i]at h2;obtain⟨⟨_,⟨⟨m1,m2⟩,m3⟩⟩,m4⟩:=h2;have nob:∀e∈ops[i].after,Region.binds .any e=true->False:=λe he c8=>by
     have:=Array.all_eq_true_iff_forall_mem.1 m3 e he;rw[c8]at this;cases this
    have eT:p0u ops (λj=>listed.getD j false) i:=λo ho' e he c8=>by
     rw[ho]at ho';cases ho';exact(nob e (by simpa using he) c8).elim
    obtain⟨v,hy⟩:=c1w (P:=P) (ops:=ops) (o:=ops[i]) (a:=a1) m1 m2;cases fuel with
    |zero=>
     have:=full listed hz dA i aK;rw[hLi]at this;cases this
    |succ fuel=>
     refine wpAny_first ho (Region.noSelect_spec hfo.1) (λc a w ⟨_,_,s,hq,_⟩=>(by cases hQn _ _ hq)) fuel listed a1 w1 (λj oj hj aS _ oG=>Region.free_spec ho m4 j oj hj aS (by simp[(r2r.1 hj).1]) oG) (mem_ready.2 ⟨by
      simp only[r2j,s2h b9,t2r]at hLi⊢;exact hLi,ops[i],ho,λe he c8=>(nob e he c8).elim⟩) hy ?_
     have hL' :=set_get listed i b9;obtain⟨s,hsr,cJ⟩:=hs;obtain⟨F2,ρ2,im,hf2⟩:=u0q ho hy (step listed F1 ρ1 a1 w1 i hz oM hLi eT bU ⟨s,hsr,cJ⟩ (λa2 w2=>∃F2 ρ2,(∃s,Rel N F2 ρ2 s a2 w2/\s.fn=e0h (λj=>(listed.setIfInBounds i true).getD j false) 0 effs st.fn)/\Fr F1 ρ1 w1 F2 ρ2 w2) (λ_ _ _=>False) λa2 w2 F2 ρ2 h1 h2=>⟨F2,ρ2,h1,h2⟩);refine iht (λj hj=>ht j (by simp[hj])) fuel _ F2 ρ2 _ w1 (by simpa using hz) (fuel_set listed i fuel b9 hLi dA) (closed_set listed i b9 eT bU) (λj hj kC=>by rw[hL',if_neg (by omega)];exact gl j hj kC) (λj hj=>?_) im (hf.trans hsr.rw.dis hf2);rcases dO j hj with h|h
     ·rcases r2s.1 h with rfl|h
      ·exact .inr (by rw[hL',if_pos rfl])
      ·exact .inl h
     ·exact .inr (by rw[hL'];split<;>first|rfl|exact h)
 have lB:∀n:Nat,((List.replicate n false).filter (! ·)).length=n:=by
  intro n
  induction n with
  |zero=>rfl
  |succ n ih=>simp[List.replicate_succ]
 have hd:Fr F ρ w F ρ {w with drawn:=w.drawn+1}:=⟨rfl,rfl,rfl,r2q _,λ_ h=>h,λ_ _ _=>rfl,λ_ _ h=>h,λ_ _=>Stab.refl _ _⟩
 have mN:Rel N F ρ st a {w with drawn:=w.drawn+1}:=
  ⟨⟨hr.rw.dis,hr.rw.lt,hr.rw.inj,hr.rw.tab⟩,λi=>(hr.fr i).mono (w:=w) (w' :={w with drawn:=w.drawn+1}) (λ_ _=>rfl) (λ_ h=>h) (λ_ _ h=>h),λk=>(hr.ob k).through (w:=w) (w' :={w with drawn:=w.drawn+1}) (λ_ _=>rfl) (λ_ h=>h) (λ_ _ _ _=>rfl),hr.sz,hr.df⟩
 have fj:∀j,(Array.replicate ops.size false).getD j false=false:=by
  intro j;simp only[r2j,Array.getElem?_replicate];split<;>rfl
 refine start fl (λi hi=>q1c hi) ops.size (Array.replicate ops.size false) F ρ a _ (by simp) (by rw[Array.toList_replicate];exact lB _) (λi _ hl=>by rw[fj]at hl;cases hl) (λj _ _=>fj j) (λi hi=>.inl (y0e hi)) ⟨st,mN,?_⟩ hd;have:∀(r:List Eff) (i:Nat) (f:FSt),e0h (λj=>(Array.replicate ops.size false).getD j false) i r f=f:=by
  intro r
  induction r with
  |nil=>intro i f;rfl
  |cons e r ih=>
   intro i f;show e0h _ (i+1) r (bif (Array.replicate ops.size false).getD i false then e.appF f else f)=f
   rw[fj];exact ih _ _
 exact(this effs 0 st.fn).symm
end Esp
namespace Esp
open Go
variable [Tabs]
section
variable{P:Program}{N:Nat}{ops:Array Oper}{Q:Exit->ASt->Prop}{st st' :ASt}{l:List Nat}
def a2b(P:Program)(N:Nat)(ops:Array Oper)(i:Nat)(st:ASt):Option (Tmp×FuncId×List AV):=
 match opK ops st.fr i with
 |some ⟨some d,.call c,_,_,_,_⟩=>match b0u st.fr c with
  |some (f,args)=>bif a0m P f&&Nat.blt d N then some (d,f,args)else none
  |none=>none
 |_=>none
theorem IEff.qpcall {i d:Nat}{f:FuncId}{args:List AV}{x:AV}(h:a2b P N ops i st=some (d,f,args))(hz:AV.frozenL args=true)(spec:PCalls P f args x)(hx:x.frozen=true):IEff P N ops i st (.put d x):=by
 unfold a2b at h;split at h
 ·rename_i d' c ty pos after guard ho
  split at h
  ·rename_i f' args' hc
   cases hb:(a0m P f' &&Nat.blt d' N)with
   |false=>rw[hb]at h;cases h
   |true=>
    rw[hb]at h;cases h;simp only[r2i]at hb;exact .pcall ho hc hb.1 hz hb.2 spec hx
  ·cases h
 ·cases h
theorem Then.go {c:Code}(h:AW P N c st Q):Then P N c Q .normal st:=h
def RetF(P:Program)(rs:List ResultVar)(R:AEnd->List (Nat×AObj)->Prop)(ex:Exit)(s:ASt):Prop:=
 match ex with
 |.normal=>∃(ks:List Nat) (x:AV),res1 P (ks.foldl ASt.freeze s) rs=some x/\R (.ret x) (ks.foldl ASt.freeze s).ob
 |.ret=>∃(ks:List Nat) (x:AV),res1 P (ks.foldl ASt.freeze s) rs=some x/\R (.ret x) (ks.foldl ASt.freeze s).ob
 |.panic chain=>R (.panicked chain) s.ob
 |_=>False
theorem Rel.freezes {F:Nat->Prop}{ρ:Env}{a:Act}{w:World}:∀(ks:List Nat) {st:ASt} {F:Nat->Prop} {ρ:Env},Rel N F ρ st a w->∃F' ρ',Rel N F' ρ' (ks.foldl ASt.freeze st) a w/\Fr F ρ w F' ρ' w
 |[],_,F,ρ,h=>⟨F,ρ,h,Fr.refl F ρ w⟩
 |k::r,_,_,_,h=>by
  obtain⟨F1,ρ1,h1,f1⟩:=h.freeze k;obtain⟨F2,ρ2,h2,f2⟩:=Rel.freezes (F:=F) (ρ:=ρ) r h1;exact⟨F2,ρ2,h2,f1.trans h1.rw.dis f2⟩
theorem ACalls.of_AWF [QuietD P] {f:FuncId}{fn:Func}{c:Code}{N:Nat}{rs:List ResultVar}{args:List AV}{ob:List (Nat×AObj)}{R:AEnd->List (Nat×AObj)->Prop}
  (hf:P.funcs[f]?=some fn)(hb:fn.body=some c)(hN:fn.ntmps=N)(gd:fn.results.toList=rs)(hargs:(Nat.ble args.length N&&Nat.ble N 1000000)=true)(b7:AV.plainL args=true)
  (pX:∀chain o,¬R (.panicked chain) o)(h:AW P N c {fr:=frOf args 0,ob} (RetF P rs R)):ACalls P f args ob R:=by
 intro F ρ vs w hrw aH hra;refine calls_of_wp_defers hf hb ?_;have aR:=hra.sz;simp only[r2i]at hargs;have lY:=r2u hargs.1;have hN1:=r2u hargs.2;have hr:Rel N F ρ {fr:=frOf args 0,ob} {tmps:=vs++Array.replicate (fn.ntmps - vs.size) undef,defers:=[]} w:=by
  refine⟨hrw,λi=>?_,aH,by simp;omega,DfInv.nil (QuietD.free P),hN1⟩;simp only;rw[n0e];split
  ·rename_i hi
   have aK:i<vs.size:=by omega
   have e:(vs++Array.replicate (fn.ntmps - vs.size) undef).getD i undef=vs.getD (i - 0) undef:=by
    simp[r2j,Array.getElem?_append,aK]
   rw[e];exact(hra.rel (i - 0) (by omega)).retm (AV.plainL_get b7 _ (by omega))
  ·exact .junk _
 refine wp_mono (h F ρ _ w hr) λe a1 w1 ⟨F1,ρ1,s1,hq,hr1,hf1⟩=>?_;have ret:∀(ks:List Nat) (x:AV),res1 P (ks.foldl ASt.freeze s1) rs=some x->R (.ret x) (ks.foldl ASt.freeze s1).ob->∃v,(results fn a1.tmps).run P w1=.ok v w1/\
   ∃F' ρ' r bG,R r bG/\p0g w1 F' ρ' r (.returned v)/\RelW F' ρ' w1/\(∀k,RelOb w1 F' ρ' k (lkO bG k))/\Fr F ρ w F' ρ' w1:=by
  intro ks x hx hR;subst gd;obtain⟨F2,ρ2,hr2,hf2⟩:=Rel.freezes (F:=F1) (ρ:=ρ1) ks hr1;obtain⟨v,hrun,hv⟩:=b2l hr2 hx;exact⟨v,hrun,F2,ρ2,.ret x,_,hR,hv,hr2.rw,hr2.ob,hf1.trans hr1.rw.dis hf2⟩
 cases e with
 |normal=>obtain⟨ks,x,hx,hR⟩:=hq;exact j0b (ret ks x hx hR) _ (hr1.df.1.po (QuietD.free P))
 |ret=>obtain⟨ks,x,hx,hR⟩:=hq;exact j0b (ret ks x hx hR) _ (hr1.df.1.po (QuietD.free P))
 |panic chain=>exact absurd hq (pX chain s1.ob)
 |exit id=>exact hq.elim
 |goto l=>exact hq.elim
 |outgrown=>exact hq.elim
end
def bxor(k:IntKind)(a b:Int):Int:=k.wrap ((BitVec.ofInt k.bits a ^^^ BitVec.ofInt k.bits b).toNat:Int)
def band(k:IntKind)(a b:Int):Int:=k.wrap ((BitVec.ofInt k.bits a&&&BitVec.ofInt k.bits b).toNat:Int)
def bor(k:IntKind)(a b:Int):Int:=k.wrap ((BitVec.ofInt k.bits a ||| BitVec.ofInt k.bits b).toNat:Int)
def bshl(k:IntKind)(a b:Int):Int:=k.wrap (a*2 ^ (min b.toNat k.bits))
def bshr(k:IntKind)(a b:Int):Int:=a.fdiv (2 ^ (min b.toNat k.bits))
def bquo(k:IntKind)(a b:Int):Int:=k.wrap (a.tdiv b)
def brem(k:IntKind)(a b:Int):Int:=a.tmod b
def seq(a b:Bt):Bool:=a.toList==b.toList
def e0r(a b:Bt):Bool:=Op.bytesLess a.toList b.toList
theorem PCalls.law {P:Program}{f:FuncId}{args:List AV}{b:Bool}(spec:PCalls P f args (.cell (.d (.sc (.bool b))))){vs:Array Value}{W:World}(ht:∀b o,Tabs.get b=some o->W.heap[b]?=some o)(hra:RelArgs W (λb=>b<W.heap.size) (λ_=>none) args vs):
  Calls P f vs W λe W' =>e=.returned (.bool b)/\Go.RowKit.Below W.heap.size W W' :=by
 have bP:∀b,¬live (λ_=>none) b:=λb ⟨k,l,hk,_⟩=>by cases hk
 refine(spec _ (λ_=>none) vs W ⟨λb _=>bP b,λb h=>h,(λk k' l l' b hk=>by cases hk),λb o hb=>⟨(r2r.1 (ht b o hb)).1,ht b o hb⟩⟩ (λk=>.gone rfl) hra).mono λe W' ⟨F',ρ',r,bG,hq,hre,_,_,hf⟩=>?_;subst hq;cases e with
 |returned v=>
  have hv:RelAV W' F' ρ' #[] (.cell (.d (.sc (.bool b)))) v:=hre;have:=(a0i hv (u:=.bool b) rfl).1;subst this;exact⟨rfl,hf.os,hf.tape,hf.output,hf.size,λk hk=>hf.keep k hk (bP k)⟩
 |panicked c=>exact hre.elim
 |outgrown=>exact hre.elim
end Esp

import Derived.Test.YtnaeiccibhdknaaGreatDoorEvEff
set_option linter.unusedSimpArgs false
set_option linter.unusedVariables false
namespace Esp
open Go
variable [Tabs]
section
variable{P:Program}{N:Nat}{ops:Array Oper}{Q:Exit->ASt->Prop}{st st' :ASt}{l:List Nat}
theorem s0b{F:Nat->Prop}{ρ:Env}{a:Act}{w:World}(hr:Rel N F ρ st a w){lo:Option Operand}{hi mx:Operand}{len cap:Nat}{l h m:Int}(hl:bndV st.fr lo 0=some l)(hh:bndV st.fr (some hi) 0=some h)(hm:bndV st.fr (some mx) 0=some m)
  (h0:0<=l)(h1:l<=h)(h2:h<=m)(h3:m<=cap):(Instr.sliceBounds true len cap (lo.map a.eval) (some (a.eval hi)) (some (a.eval mx))).run P w=.ok (l.toNat,h.toNat,m.toNat) w:=by
 have e3:=i0l (P:=P) hr hm cap .slice3Acap (by omega) h3;have e2:=i0l (P:=P) hr hh m.toNat .slice3B (by omega) (by omega);have e1:(match lo.map a.eval with|some v=>Instr.sliceBound v h.toNat .slice3C|none=>pure 0:Sem Nat).run P w=.ok l.toNat w:=by
  cases lo with
  |none=>
   simp only[bndV,r2l]at hl;subst hl;rfl
  |some q=>exact i0l hr hl h.toNat _ h0 (by omega)
 unfold Instr.sliceBounds;simp only[Sem.run_bind,Sem.run_pure,Result.andThen_ok,Option.isSome_some,if_true,e3,e2];cases lo with
 |none=>simp only[t2q,Sem.run_pure,Result.andThen_ok]at e1⊢;simp_all
 |some p=>simp only[s2z,Sem.run_pure,Result.andThen_ok]at e1⊢;simp_all
theorem IEff.slice3 {i d e n:Nat}{t ty te:TypeId}{x:Operand}{lo:Option Operand}{hi mx:Operand}{pos:String}{after:Array Edge}{guard:Option (Nat×Bool)}{cs es:List D}{p q z:Int}{m:Nat}
  (ho:opK ops st.fr i=some ⟨some d,.slice t x lo (some hi) (some mx),ty,pos,after,guard⟩)(hx:ev st.fr x=.cell (.d (.sl e n cs)))
  (ht:f0c P t=some (te,e))(hl:bndV st.fr lo 0=some p)(hh:bndV st.fr (some hi) 0=some q)(hm:bndV st.fr (some mx) 0=some z)(hd:Nat.blt d N=true)(h0:0<=p)(h1:p<=q)(h2:q<=z)(h3:z<=n)
  (ni:(q - p).toNat=m)(eU:(cs.drop (p.toNat*e)).take (m*e)=es):
  IEff P N ops i st (.put d (.cell (.d (.sl e m es)))):=by
 refine .of_opK ho (.of_plain rfl hd rfl λF ρ a w hr=>?_);obtain⟨hu,hs⟩:=g0e ht;have hv:=a0d hr x;rw[hx]at hv;have hD:=a0w hv;generalize bI:a.eval x=xv at hD;subst eU;subst ni;have fD:q.toNat - p.toNat=(q - p).toNat:=by omega
 cases hD with
 |nil e ad cap=>
  have hb:=s0b (P:=P) (len:=0) (cap:=cap) hr hl hh hm h0 h1 h2 (by omega);refine⟨.slice (if z.toNat=p.toNat then ad else ad.map (·.add (p.toNat*e))) (q.toNat - p.toNat) (z.toNat - p.toNat),?_,?_⟩
  ·simp only[execOp,bI,Instr.sliceAt,Sem.run_bind,run_underlying hu,Result.andThen_ok,Instr.slice,s2z,hb,a0g hs]
   rfl
  ·have e1:(q - p).toNat=0:=by omega
   have e2:q.toNat - p.toNat=0:=by omega
   rw[e2,e1];simp only[List.drop_nil,List.take_nil,Nat.zero_mul];exact .cell _ _ (.d _ _ (.nil _ _ _))
 |sl e n cs b off cap c hF hlen aU hc fh=>
  have hb:=s0b (P:=P) (len:=n) (cap:=cap) hr hl hh hm h0 h1 h2 (by omega);refine⟨.slice (if z.toNat=p.toNat then some ⟨b,off,none⟩else some ⟨b,off+p.toNat*e,none⟩) (q.toNat - p.toNat) (z.toNat - p.toNat),?_,?_⟩
  ·simp only[execOp,bI,Instr.sliceAt,Sem.run_bind,run_underlying hu,Result.andThen_ok,Instr.slice,s2z,hb,a0g hs,Addr.add_lit]
   rfl
  ·rw[fD]
   by_cases hz:(q - p).toNat=0
   ·rw[hz]
    simp only[Nat.zero_mul,List.take_zero];exact .cell _ _ (.d _ _ (.nil _ _ _))
   ·rw[if_neg (by omega)]
    have hle:(p.toNat+(q - p).toNat)*e<=n*e:=t2b e (by omega);have lX:p.toNat*e+(q - p).toNat*e<=cs.length:=by rw [<-t2w,hlen];exact hle
    refine .cell _ _ (.d _ _ (.sl _ _ _ _ _ _ (λz=>c (p.toNat*e+z)) hF ?_ (by omega) (λz dI=>?_) λz dI=>?_))
    ·rw[s2g,s2n];omega
    ·rw[s2g,s2n]at dI
     rw[u2h];exact hc _ (by omega)
    ·have hz2:=dI
     rw[s2g,s2n]at hz2;rw[List.getElem_take,List.getElem_drop];exact fh _ (by omega)
omit [Tabs]in
theorem l0y(s:ASt)(o:Option Operand)(z:Int):bndV s.low.fr o z=bndV s.fr o z:=by
 cases o with
 |none=>rfl
 |some y=>
  simp only[bndV,c0l];generalize ev s.fr y=v;cases v with
  |cell c=>cases c with
   |d u=>cases u<;>rfl
   |_=>rfl
  |_=>rfl
theorem IEff.slice3N {i d:Nat}{t ty te:TypeId}{x:Operand}{lo:Option Operand}{hi mx:Operand}{pos:String}{after:Array Edge}{guard:Option (Nat×Bool)}{τ:Ev.Ty}{xs:List τ.den}{p q z:Int}
  (ho:opK ops st.fr i=some ⟨some d,.slice t x lo (some hi) (some mx),ty,pos,after,guard⟩)(hx:ev st.fr x=.cell (.d (.nl τ xs)))(ht:f0c P t=some (te,τ.sz))
  (hl:bndV st.fr lo 0=some p)(hh:bndV st.fr (some hi) 0=some q)(hm:bndV st.fr (some mx) 0=some z)(hd:Nat.blt d N=true)(h0:0<=p)(h1:p<=q)(h2:q<=z)(h3:z<=xs.length):
  IEff P N ops i st (.put d (.cell (.d (.nl τ ((xs.drop p.toNat).take (q - p).toNat))))):=by
 have h:=IEff.slice3 (P:=P) (N:=N) (st:=st.low) (es:=flat τ ((xs.drop p.toNat).take (q - p).toNat)) (by rw[d0p];exact ho) (by rw[c0l,hx];rfl) ht (by rw[l0y];exact hl) (by rw[l0y];exact hh) (by rw[l0y];exact hm) hd h0 h1 h2 h3 rfl (by rw[g0z,j0r]);exact(IEff.ofLow h).put_nl τ _ rfl (by simp;omega) rfl
def ASt.adoptB (st:ASt)(p:Nat×Nat×Nat×TypeId×Nat):ASt:=
 match lkO st.ob p.1 with
 |.box cs oty=>match cs[p.2.1]? with
  |some (.d (.sc (.slice none 0 0)))=>bif Nat.blt p.2.2.1 1000000&& !Nat.beq p.1 p.2.2.1 then
    {fr:=(st.newOb p.2.2.1 (.arr p.2.2.2.1 p.2.2.2.2 0 [])).fr
     ob:=ASt.setO p.1 (.box ((cs.map (AC.kill p.2.2.1)).set p.2.1 (.own p.2.2.1)) oty) (st.newOb p.2.2.1 (.arr p.2.2.2.1 p.2.2.2.2 0 [])).ob} else st
  |_=>st
 |_=>st
theorem Goes.adoptB (p:Nat×Nat×Nat×TypeId×Nat)(st:ASt):Goes N st (st.adoptB p):=by
 obtain⟨k,off,j,te,e⟩:=p;intro F ρ a w hr;unfold ASt.adoptB;dsimp only;split
 ·rename_i cs oty hk
  split
  ·rename_i hc
   cases hb:(Nat.blt j 1000000&& !Nat.beq k j)with
   |false=>exact⟨F,ρ,hr,Fr.refl F ρ w⟩
   |true=>
    simp only[r2i,s2v]at hb;have hj:=a0e hb.1;have aS:k≠j:=s2d hb.2;obtain⟨h1,h2⟩:=hr.setOb (w' :=w) rfl rfl rfl (r2q _) j (.arr (.slice none 0 0)) (.arr te e 0 []) (λ_ _ _=>rfl) (λb hb=>by cases hb)
     (.arr _ _ _ _ _ [] (Env.set_same _ _ _) (World.ownsRow_nil w 0 te e) rfl λi hi=>by simp at hi) (λaG=>by omega)
    refine⟨F,_,⟨h1.rw,h1.fr,λi=>?_,h1.sz,h1.df⟩,h2⟩;have hi:=h1.ob i;by_cases ei:i=k
    ·subst ei
     show RelOb w F _ i (lkO (ASt.setO i _ _) i);rw[a0o];have e1:lkO (st.newOb j (.arr te e 0 [])).ob i=.box (cs.map (AC.kill j)) oty:=by
      show lkO (ASt.setO j _ (ASt.killO j st.ob)) i=_;rw[a0j _ _ _ _ aS];unfold ASt.killO;rw[e0b (AObj.kill j) rfl,hk];rfl
     rw[e1]at hi;cases hi with
     |box cT oty b c t aQ aV aW hs hh=>
      refine .box _ _ b c t aQ aV aW (by simpa using hs) λq hq=>?_;have hq' :q<(cs.map (AC.kill j)).length:=by simpa using hq
      have hv:=hh q hq';by_cases eq:q=off
      ·subst eq
       rw[List.getElem_set_self];obtain⟨aJ,gj⟩:=r2p.1 hc;have e2:(cs.map (AC.kill j))[q]=.d (.sc (.slice none 0 0)):=by
        simp only[List.getElem_map,gj];rfl
       rw[e2]at hv;have jc:=(a0i (F:=F) (tm:=#[]) (.cell _ _ hv) (u:=.slice none 0 0) rfl).1;rw[jc];exact .own _ _ λu hu=>by rw[Env.set_same]at hu;cases hu;rfl
      ·rw[List.getElem_set_ne (λe=>eq e.symm)]
       exact hv
    ·show RelOb w F _ i (lkO (ASt.setO k _ _) i)
     rw[a0j _ _ _ _ ei];exact hi
  ·exact⟨F,ρ,hr,Fr.refl F ρ w⟩
 ·exact⟨F,ρ,hr,Fr.refl F ρ w⟩
def ASt.pnB (st:ASt)(k:Nat):ASt:=
 match lkO st.ob k with
 |.box (.d (.sc (.pointer none))::cs) oty=>{fr:=st.fr,ob:=ASt.setO k (.box (.pn k::cs) oty) st.ob}
 |_=>st
theorem Goes.pnB (k:Nat)(st:ASt):Goes N st (st.pnB k):=by
 intro F ρ a w hr;refine⟨F,ρ,?_,Fr.refl F ρ w⟩;unfold ASt.pnB;split
 ·rename_i cs oty hk
  refine⟨hr.rw,hr.fr,λi=>?_,hr.sz,hr.df⟩;have hi:=hr.ob i;by_cases ei:i=k
  ·subst ei
   show RelOb w F ρ i (lkO (ASt.setO i _ _) i);rw[a0o];rw[hk]at hi;cases hi with
   |box cT oty b c t aQ aV aW hs hh=>
    refine .box _ _ b c t aQ aV aW (by simpa using hs) λq hq=>?_;have hv:=hh q (by simpa using hq);cases q with
    |zero=>
     have dP:RelAC w F ρ (.d (.sc (.pointer none))) (c.getD 0 undef):=hv;cases dP with
     |d x v hd=>
      generalize c.getD 0 undef=v0 at hd⊢;cases hd with
      |sc v nZ=>exact .pn i _ λb _=>.inl rfl
    |succ q=>exact hv
  ·show RelOb w F ρ i (lkO (ASt.setO k _ st.ob) i)
   rw[a0j _ _ _ _ ei];exact hi
 ·exact hr
def ASt.bld (st:ASt)(d:Nat)(te:TypeId):ASt:=(st.pnB d).adoptB (d,1,d+500000,te,1)
theorem Goes.bld (d:Nat)(te:TypeId)(st:ASt):Goes N st (st.bld d te):=λF ρ x w hr=>by
 obtain⟨F1,ρ1,h1,f1⟩:=Goes.pnB d st F ρ x w hr;obtain⟨F2,ρ2,h2,f2⟩:=Goes.adoptB (d,1,d+500000,te,1) (st.pnB d) F1 ρ1 x w h1;exact⟨F2,ρ2,h2,f1.trans h1.rw.dis f2⟩
def made(z:List Value)(n:Nat):List D:=(List.range n).map λi=>.sc (z.getD (i%z.length) undef)
omit [Tabs]in
theorem b2x(z:List Value)(m:Nat):made z (z.length*m+z.length)=made z (z.length*m)++z.map .sc:=by
 simp only[made,List.range_add,List.map_append,List.map_map];congr 1;apply List.ext_getElem
 ·simp
 ·intro i h1 h2
  simp only[s2k,List.length_range]at h1 h2;have:(z.length*m+i)%z.length=i:=by rw[Nat.mul_add_mod];exact Nat.mod_eq_of_lt (by omega)
  simp[this,r2o,h2]
omit [Tabs]in
theorem q1w{τ:Ev.Ty}{z:List Value}{zv:τ.den}(h:rd τ (z.map .sc)=some zv):∀n,dsle (made z (z.length*n)) (flat τ (List.replicate n zv))
 | 0=>by simp[made,flat];trivial
 |n+1=>by
  rw[Nat.mul_succ,b2x,List.replicate_succ',b0o];refine(q1w h n).append ?_;simp only[flat,s2o,List.flatMap_nil,s2a];exact y0x h
theorem IEff.makeN {i d:Nat}{t ty te:TypeId}{n m:Operand}{pos:String}{after:Array Edge}{guard:Option (Nat×Bool)}{τ:Ev.Ty}{bytes:Nat}{z:List Value}{zv:τ.den}{k1 k2:IntKind}{j:Int}
  (ho:opK ops st.fr i=some ⟨some d,.makeSlice t n m,ty,pos,after,guard⟩)(hn:ev st.fr n=.cell (.d (.sc (.int k1 j))))(hm:ev st.fr m=.cell (.d (.sc (.int k2 j))))
  (ht:rowB P t=some (te,τ.sz,bytes))(hz:k0g P te=some z)(cH:z.length=τ.sz)(fC:rd τ (z.map .sc)=some zv)(hd:Nat.blt d N=true)(h0:0<=j)(hr:room j.toNat bytes=true):
  IEff P N ops i st (.new d (.na te τ (List.replicate j.toNat zv)) d (.cell (.own d))):=by
 refine IEff.new_ob (o:=.arr te τ.sz j.toNat (made z (z.length*j.toNat))) (λw F ρ hw=>hw.to_na (by simp) (q1w fC _)) (.of_opK ho ⟨rfl,λF ρ a w h=>?_⟩);obtain⟨hu,ii,zz,hi,dI,iq,aR,mE⟩:=v0j ht;obtain⟨r1,r2⟩:=n0u hr;have e1:=(a0i (a0d h n) (by rw[hn];rfl)).1;have e2:=(a0i (a0d h m) (by rw[hm];rfl)).1;have hj:((j.toNat:Nat):Int)=j:=by omega
 have hzc:zz.cells.toList=z/\∀v∈z,v.oneCell' =true:=by
  unfold k0g at hz;rw[hi]at hz;dsimp only at hz;rw[dI]at hz;dsimp only at hz;cases hb:zz.cells.toList.all Value.oneCell' with
  |false=>rw[hb]at hz;cases hz
  |true=>
   rw[hb]at hz;cases hz;exact⟨rfl,λv hv=>s2b.1 hb v hv⟩
 have ju:0<τ.sz:=by
  exact τ.sz_pos
 obtain⟨w',hrun,hown,hgr⟩:=run_make_full (P:=P) w 0 t te ii zz τ.sz hu hi dI aR k1 k2 j.toNat (by rw[Nat.mul_comm,mE];omega) r1 (s2i _);rw[hj]at hrun;have hF:∀b,F b->w'.heap[b]?=w.heap[b]?:=λb hb=>hgr.block b (h.rw.lt b hb) (by simp);have bW:w.heap.size<w'.heap.size:=by
  rcases hown.2 with⟨h1,h2⟩| ⟨g,cap,cur,h1,_,h3,_⟩
  ·simp at h1
  ·simp only[Value.slice.injEq,r2l,Addr.mk.injEq]at h1
   rw [<-h1.1.1]at h3;exact(r2r.1 h3).1
 obtain⟨h1,h2⟩:=h.setOb (w' :=w') hgr.os hgr.tape hgr.output hgr.size d (.arr (.slice (some ⟨w.heap.size,0,none⟩) j.toNat j.toNat)) (.arr te τ.sz j.toNat (made z (z.length*j.toNat)))
  (λb hb _=>hgr.block b hb (by simp)) (λb hb=>by cases hb;exact⟨bW,.inl (r2q _)⟩)
  (by
   refine .arr te τ.sz j.toNat _ _ _ (Env.set_same _ _ _) hown (by rw[s2p,size_madeCells];simp[made,cH,Nat.mul_comm]) λq hq=>?_;have hq' :q<z.length*j.toNat:=by simpa[made]using hq
   have nh:q%z.length<z.length:=Nat.mod_lt _ (by omega);have e5:(madeCells zz.cells (j.toNat*τ.sz)).toList.getD q undef=z.getD (q%z.length) undef:=by
    rw [<-hzc.1];have jP:zz.cells.size=z.length:=by rw [<-hzc.1];simp
    have fQ:q<j.toNat*τ.sz:=by rw [<-cH,Nat.mul_comm];exact hq'
    simp only[madeCells,Array.toList_map,Array.toList_range,r2o,t2a,List.getElem?_range fQ,s2z,t2r,s2p];rw[getElem!_pos zz.cells _ (by rw[jP];omega)];simp[jP,nh]
   rw[e5];simp only[made,List.getElem_map,List.getElem_range];refine .sc _ (hzc.2 _ ?_);rw[r2o,r2k nh];exact s2s nh) (λhk=>by have:=h.df.2;have:=a0e hd;omega)
 refine⟨.slice (some ⟨w.heap.size,0,none⟩) j.toNat j.toNat,w',F,_,.inl ?_,h1.put d (a0e hd) (.cell _ _ (.own _ _ λu cK=>?_)),h2,⟨λj hj=>Env.set_other _ _ _ λe=>hj (by rw[e];rfl),λb hb _=>hgr.block b hb (by simp)⟩⟩
 ·simp only[execOp,e1,e2,Sem.run_bind,hrun,Result.andThen_ok]
  rfl
 ·rw[Env.set_same]at cK
  cases cK;rfl
end
end Esp

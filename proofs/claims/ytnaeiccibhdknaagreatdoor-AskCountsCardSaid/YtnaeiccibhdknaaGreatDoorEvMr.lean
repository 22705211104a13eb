import Derived.Test.YtnaeiccibhdknaaGreatDoorEvMap
set_option linter.unusedSimpArgs false
set_option linter.unusedVariables false
namespace Esp
open Go Go.ChangeShapes
variable [Tabs]
def d0x(kt e:Ev.Ty)(l:List (kt.den×(Ev.Ty.lst e).den))(i:Nat):List e.den:=match l[i]? with|some p=>p.2|none=>[]
omit [Tabs]in
theorem i1g{kt vt:Ev.Ty}(k:kt.den):∀l:List (kt.den×vt.den),a0q kt vt l k<=l.length
 |[]=>r2q _
 |p::r=>by
  rw[a0q];cases b0l kt k p.1 with
  |true=>simp
  |false=>simpa using i1g k r
omit [Tabs]in
theorem c1p{kt e:Ev.Ty}(k:kt.den):∀l:List (kt.den×(Ev.Ty.lst e).den),d0x kt e l (a0q kt (.lst e) l k)=a0k kt (.lst e) [] l k
 |[]=>rfl
 |p::r=>by
  rw[a0q,a0k];cases b0l kt k p.1 with
  |true=>rfl
  |false=>
   have:=c1p k r;unfold d0x at this⊢;simpa using this
section
variable{P:Program}{N:Nat}{st:ASt}
def ASt.thaw (te:TypeId)(st:ASt)(k:Nat):ASt:=
 match lkO st.ob k with
 |.mp tm kt (.lst e) [] _=>bif Nat.blt k 1000000 then st.moved k (.mr tm te kt e [] none)else st
 |_=>st
theorem Goes.thaw (te:TypeId)(st:ASt)(k:Nat):Goes N st (st.thaw te k):=by
 unfold ASt.thaw;split
 ·rename_i tm kt e dn aH
  cases hb:Nat.blt k 1000000 with
  |false=>exact λF ρ a w hr=>⟨F,ρ,hr,Fr.refl F ρ w⟩
  |true=>
   intro F ρ a w hr;have ho:=hr.ob k;rw[aH]at ho;cases ho with
   |mp t kt vt l b es c hk aW hs hh dn hd=>
    obtain⟨h1,h2⟩:=hr.moved (w' :=w) rfl rfl rfl (r2q _) (L' :=.many b [.slice none 0 0]) (o:=.mr tm te kt e [] none) (G:=λ_=>False) hk rfl (λ_ _ _=>rfl)
     (λb' hb' =>by
      rcases hb' with hb'|⟨u,hu,hb'⟩
      ·cases hb'
       exact⟨(r2r.1 aW).1,.inr rfl⟩
      ·simp only[r2s,List.not_mem_nil,or_false]at hu
       subst hu;cases hb')
     (λb' hb' =>hb'.elim)
     (.mr _ _ _ _ _ _ b es c (.slice none 0 0) [] (Env.set_same _ _ _) aW ⟨hs,.inl ⟨rfl,rfl⟩,λi h=>by simp at h,λi h=>by simp at h,λi j h=>by simp at h,hd.2,λ_=>.inl rfl,nofun⟩) (a0e hb)
    exact⟨_,_,h1,h2⟩
 ·exact λF ρ a w hr=>⟨F,ρ,hr,Fr.refl F ρ w⟩
inductive RowOp where
 |put(d:Nat)(x:AV)
 |upd(kk:Nat)(o:AObj)(t:Bool)
 |app(d kk bytes n:Nat)(ok:Bool)(o:AObj)
def nilZ(P:Program)(e:TypeId):Bool:=
 match P.info? e with
 |some i=>match i.zero with
  |some (.slice none 0 0)=>true
  |_=>false
 |none=>false
omit [Tabs]in
theorem y1t{e:TypeId}(h:nilZ P e=true)(w:World):(zeroValue e).run P w=.ok (.slice none 0 0) w:=by
 unfold nilZ at h;split at h
 ·rename_i i hi
  split at h
  ·rename_i hz
   simp[zeroValue,typeInfo,hi,hz]
  ·cases h
 ·cases h
def d1j(P:Program)(N:Nat)(st:ASt)(d:Nat)(t:TypeId)(m x:Operand):Option RowOp:=
 match ev st.fr m with
 |.cell (.mpr kk)=>match lkO st.ob kk with
  |.mr _ _ kt e l none=>match P.underlying t,m0p kt (ev st.fr x)with
   |some (.map a e'),some k=>bif Nat.blt d N&&keyA P a kt&&b0x kt&&nilZ P e' then some (.put d (.cell (.row kk (a0q kt (.lst e) l k+1))))else none
   |_,_=>none
  |_=>none
 |_=>none
def p1a(P:Program)(N:Nat)(st:ASt)(d:Nat)(op:BinOp)(t:TypeId)(x y:Operand):Option RowOp:=
 match ev st.fr x,ev st.fr y with
 |.cell (.row kk (i+1)),.cell (.d (.sc (.slice none 0 0)))=>match lkO st.ob kk with
  |.mr _ _ kt e l none=>match P.underlying t with
   |some (.slice _)=>bif Nat.blt d N then match op with
    |.eql=>some (.put d (bV (d0x kt e l i).isEmpty))
    |.neq=>some (.put d (bV (!(d0x kt e l i).isEmpty)))
    |_=>none
    else none
   |_=>none
  |_=>none
 |_,_=>none
def rowApp(P:Program)(N:Nat)(st:ASt)(d:Nat)(t tx:TypeId)(s y:Operand):Option RowOp:=
 match ev st.fr s with
 |.cell (.row kk (i+1))=>match lkO st.ob kk with
  |.mr tm te kt e l none=>match rowB P t with
   |some (a7,sz,bytes)=>bif Nat.blt d N&&Nat.blt kk 1000000&&Nat.beq te a7&&Nat.beq sz e.sz then(srcN P st.ob kk e tx (ev st.fr y)).bind λys=>bif ys.isEmpty then none else
     some (.app d kk bytes (d0x kt e l i++ys).length (Nat.ble i l.length) (.mr tm te kt e l (some (i,d0x kt e l i++ys))))else none
   |none=>none
  |_=>none
 |_=>none
def s1c(P:Program)(st:ASt)(t:TypeId)(m x v:Operand):Option RowOp:=
 match ev st.fr v with
 |.cell (.row jn 0)=>match ev st.fr m with
  |.cell (.mpr kk)=>match lkO st.ob kk with
   |.mr tm te kt e l (some (i,ys))=>match P.underlying t,m0p kt (ev st.fr x)with
    |some (.map a _),some k=>bif keyA P a kt&&b0x kt&&Nat.beq kk jn then some (.upd kk (.mr tm te kt e (b0d kt (.lst e) l k ys) none) (Nat.beq i (a0q kt (.lst e) l k)))else none
    |_,_=>none
   |_=>none
  |_=>none
 |_=>none
def g2s(P:Program)(N:Nat)(st:ASt)(o:Oper):Option RowOp:=
 match o with
 |⟨some d,.lookup t m x false,_,_,_,_⟩=>d1j P N st d t m x
 |⟨some d,.binOp op t x y _,_,_,_,_⟩=>p1a P N st d op t x y
 |⟨some d,.call ⟨.builtin .append,⟨[s,y]⟩,⟨[t,tx]⟩⟩,_,_,_,_⟩=>rowApp P N st d t tx s y
 |⟨none,.mapUpdate t m x v,_,_,_,_⟩=>s1c P st t m x v
 |_=>none
def RowOp.go {ρ:Type}(q:RowOp)(st:ASt)(k:ASt->Option ρ):Option ρ:=
 match q with
 |.put d x=>k (st.put (some d) x)
 |.upd kk o t=>bif t then k {st with ob:=ASt.setO kk o st.ob} else none
 |.app d kk bytes n ok o=>bif room n bytes&&ok then k ((st.moved kk o).put (some d) (.cell (.row kk 0)))else none
theorem j1w{F:Nat->Prop}{ρ:Env}{ac:Act}{w:World}(hr:Rel N F ρ st ac w){kk:Nat}{tm te:TypeId}{kt e:Ev.Ty}{l:List (kt.den×(Ev.Ty.lst e).den)}{pd:Option (Nat×(Ev.Ty.lst e).den)}(aH:lkO st.ob kk=.mr tm te kt e l pd):
  ∃b es clock pv us,ρ kk=some (.many b (pv::us))/\w.heap[b]?=some (.map es clock)/\MrRel w F te kt e l pd es clock pv us:=by
 have b8:=hr.ob kk;rw[aH]at b8;cases b8 with
 |mr tm te kt e l pd b es c pv us hk hb hM=>exact⟨b,es,c,pv,us,hk,hb,hM⟩
theorem s1r{F:Nat->Prop}{ρ:Env}{ac:Act}{w:World}(hr:Rel N F ρ st ac w){m:Operand}{kk:Nat}(hm:ev st.fr m=.cell (.mpr kk)){b:Nat}{us:List Value}(hk:ρ kk=some (.many b us)):ac.eval m=.map (some b):=by
 have dQ:=a0d hr m;rw[hm]at dQ;generalize ac.eval m=v at dQ;cases dQ with
 |cell c v h=>cases h with
  |mpr k v h=>exact h _ b hk rfl
theorem f1e{F:Nat->Prop}{ρ:Env}{ac:Act}{w:World}(hr:Rel N F ρ st ac w){m:Operand}{kk i:Nat}(hm:ev st.fr m=.cell (.row kk i)){b:Nat}{us:List Value}(hk:ρ kk=some (.many b us)):ac.eval m=us.getD i (.slice none 0 0):=by
 have dQ:=a0d hr m;rw[hm]at dQ;generalize ac.eval m=v at dQ;cases dQ with
 |cell c v h=>cases h with
  |row k i v h=>exact h _ _ hk
omit [Tabs]in
theorem MrRel.keysE {w:World}{F:Nat->Prop}{te:TypeId}{kt e:Ev.Ty}{l:List (kt.den×(Ev.Ty.lst e).den)}{pd:Option (Nat×(Ev.Ty.lst e).den)}{es:Array MapEntry}{clock:Nat}{pv:Value}{us:List Value}(h:MrRel w F te kt e l pd es clock pv us)(hk:b0x kt=true):
  es.toList.map (·.key)=l.map (λp=>keyV kt p.1):=by
 apply List.ext_getElem
 ·simpa using h.hs
 ·intro i h1 h2
  simp only[s2k,s2p]at h1;simp only[List.getElem_map,Array.getElem_toList];exact e0m hk (h.key i (by rw [<-h.hs];exact h1) h1)
omit [Tabs]in
theorem MrRel.rowD {w:World}{F:Nat->Prop}{te:TypeId}{kt e:Ev.Ty}{l:List (kt.den×(Ev.Ty.lst e).den)}{es:Array MapEntry}{clock:Nat}{pv:Value}{us:List Value}(h:MrRel w F te kt e l none es clock pv us)(i:Nat):
  RowOwn w F te e (d0x kt e l i) (us.getD i (.slice none 0 0)):=by
 have iH:us.length=l.length:=by
  rcases h.hu with⟨_,h1⟩| ⟨_,_,h1,_⟩
  ·exact h1
  ·cases h1
 by_cases hi:i<l.length
 ·have:=(h.ent i hi (by rw[h.hs];exact hi) (by omega) nofun).2
  unfold d0x;rw[r2k hi,r2o,r2k (by omega)];exact this
 ·unfold d0x
  rw[u2b (by omega),r2o,u2b (by omega)];exact⟨λ_=>rfl,[],World.ownsRow_nil w 0 te e.sz,rfl,λi hi=>by simp[flat]at hi⟩
theorem f1g{d:Nat}{o:Oper}{t:TypeId}{m x:Operand}{q:RowOp}(hd:o.dst=some d)(ho:o.op=.lookup t m x false)(h:d1j P N st d t m x=some q):∃y,q=.put d y/\OpEff P N o st (.put d y):=by
 unfold d1j at h;split at h
 ·rename_i kk hm
  split at h
  ·rename_i tm te kt e l aH
   split at h
   ·rename_i a e' k ht hk
    cases hb:(Nat.blt d N&&keyA P a kt&&b0x kt&&nilZ P e')with
    |false=>rw[hb]at h;cases h
    |true=>
     rw[hb]at h;cases h;simp only[r2i]at hb;obtain⟨⟨⟨b1,b2⟩,b3⟩,b4⟩:=hb;refine⟨_,rfl,hd,λF ρ ac w hr=>?_⟩;obtain⟨b,es,clock,pv,us,aV,aW,hM⟩:=j1w hr aH;have hmv:=s1r hr hm aV;have bI:ac.eval x=keyV kt k:=e0m (w:=w) (F:=F) b3 (b0s (e0w hk (a0d hr x)));have iH:us.length=l.length:=by
      rcases hM.hu with⟨_,h1⟩| ⟨_,_,h1,_⟩
      ·exact h1
      ·cases h1
     have h1:=b0i (P:=P) (w:=w) b2 es.isEmpty k;have h2:=b0y (P:=P) (w:=w) (vt:=.lst e) b2 k es.toList l (hM.keysE b3);have fin:∀v,(Instr.lookup t (.map (some b)) (keyV kt k) false).run P w=.ok v w->v=us.getD (a0q kt (.lst e) l k) (.slice none 0 0)->
       ∃v w' F' ρ',((execOp ac.eval o).run P w=.ok (.value v) w' \/((execOp ac.eval o).run P w=.ok .skip w' /\v=undef))/\
        Rel N F' ρ' ((Eff.put d (.cell (.row kk (a0q kt (.lst e) l k+1)))).app st) (ac.put (some d) v) w' /\Fr F ρ w F' ρ' w' /\Tch (.put d (.cell (.row kk (a0q kt (.lst e) l k+1)))) ρ w ρ' w' :=λv hv he=>by
      refine⟨v,w,F,ρ,.inl ?_,hr.put d (a0e b1) (.cell _ _ (.row _ _ _ λb' us' hb' =>?_)),Fr.refl F ρ w,Tch.none λ_ _=>rfl⟩
      ·simp only[execOp,ho,hmv,bI,Sem.run_bind,hv,Result.andThen_ok]
       rfl
      ·rw[aV]at hb'
       cases hb';rw[he];simp
     rcases j0u (kt:=kt) (vt:=.lst e) ([]:List e.den) k (λ_ _=>True) es.toList l 0 (by simpa using hM.hs) (λ_ _ _=>trivial)with⟨a1,a2,a3,a4⟩| ⟨a1,v,a2,a3,a4⟩
     ·refine fin (.slice none 0 0) ?_ ?_
      ·rw[a2]at h2
       simp[Instr.lookup,run_underlying ht,MapKept.run_getObj_map aW,h1,h2,y1t b4,Result.andThen]
      ·rw[a4,r2o,u2b (by omega)]
       rfl
     ·refine fin v ?_ ?_
      ·rw[a2]at h2
       simp[Instr.lookup,run_underlying ht,MapKept.run_getObj_map aW,h1,h2,Result.andThen]
      ·obtain⟨_,y,hy,_,gr⟩:=q0g (kt:=kt) (vt:=.lst e) b3 k es.toList l 0 _ v (hM.keysE b3) a2
       rw[s2u,Nat.sub_zero]at hy;have aJ:a0q kt (.lst e) l k<es.size:=by rw[hM.hs];exact a4
       have dS:es[a0q kt (.lst e) l k]=y:=by
        have:=hy;rw[t2g,s2h aJ]at this;exact Option.some.inj this
       have:=(hM.ent _ a4 aJ (by omega) nofun).1;rw[dS,gr]at this;rw[this,r2o,r2k (by omega)];rfl
   ·cases h
  ·cases h
 ·cases h
theorem n1l{d:Nat}{o:Oper}{op:BinOp}{t u:TypeId}{x y:Operand}{q:RowOp}(hd:o.dst=some d)(ho:o.op=.binOp op t x y u)(h:p1a P N st d op t x y=some q):∃z,q=.put d z/\OpEff P N o st (.put d z):=by
 unfold p1a at h;split at h
 ·rename_i kk i hx hy
  split at h
  ·rename_i tm te kt e l aH
   split at h
   ·rename_i e' hu
    cases hb:Nat.blt d N with
    |false=>rw[hb]at h;cases h
    |true=>
     rw[hb,u2j]at h;have go:∀(c:Bool),(∀(w:World) (ad:Option Addr) (n cp:Nat),(ad=none↔d0x kt e l i=[])->(do eqGuard op t x y (.slice ad n cp) (.slice none 0 0);binOp op t (.slice ad n cp) (.slice none 0 0):Sem Value).run P w=.ok (.bool c) w)->OpEff P N o st (.put d (bV c)):=λc hc=>by
      refine⟨hd,λF ρ ac w hr=>?_⟩;obtain⟨b,es,clock,pv,us,aV,aW,hM⟩:=j1w hr aH;have gr:=(a0i (a0d hr y) (by rw[hy];rfl)).1;have bI:=f1e hr hx aV;rw[show(pv::us).getD (i+1) (.slice none 0 0)=us.getD i (.slice none 0 0)by simp]at bI;obtain⟨h0,xs,h1,h2,_⟩:=hM.rowD i;obtain⟨ad,n,cp,hv,hn⟩:∃ad n cp,us.getD i (.slice none 0 0)=.slice ad n cp/\(ad=none↔d0x kt e l i=[]):=by
       rcases h1.2 with⟨h3,h4⟩| ⟨g,cap,cur,h3,_⟩
       ·exact⟨none,0,0,h3,λ_=>s2f h4,λ_=>rfl⟩
       ·refine⟨_,_,_,h3,λh=>(by cases h),λh=>?_⟩
        rw[h0 h]at h3;cases h3
      have hb2:=hc w ad n cp hn;refine⟨.bool c,w,F,ρ,.inl ?_,hr.put d (a0e hb) (.cell _ _ (.d _ _ (.sc _ rfl))),Fr.refl F ρ w,Tch.none λ_ _=>rfl⟩;rw[hv]at bI;simp only[Sem.run_bind]at hb2;simp only[execOp,ho,bI,gr,Sem.run_bind];generalize (eqGuard op t x y (.slice ad n cp) (.slice none 0 0)).run P w=z at hb2⊢;cases z<;>simp_all[Result.andThen]
     have iso:∀(ad:Option Addr),(ad=none↔d0x kt e l i=[])->ad.isNone=(d0x kt e l i).isEmpty:=λad h=>by
      cases ad with
      |none=>rw[h.1 rfl];rfl
      |some p=>
       cases hr:d0x kt e l i with
       |nil=>cases h.2 hr
       |cons _ _=>rfl
     split at h
     ·cases h
      refine⟨_,rfl,go _ λw ad n cp hn=>?_⟩;have:=s0v (P:=P) w t e' ad n cp hu;rw[iso ad hn]at this;simp[eqGuard,this]
     ·cases h
      refine⟨_,rfl,go _ λw ad n cp hn=>?_⟩;have:=r0k (P:=P) w t e' ad n cp hu;rw[iso ad hn]at this;simp[eqGuard,this]
     ·cases h
   ·cases h
  ·cases h
 ·cases h
theorem n1h{o:Oper}{t:TypeId}{m x v:Operand}{q:RowOp}(hd:o.dst=none)(ho:o.op=.mapUpdate t m x v)(h:s1c P st t m x v=some q):∃kk ob c,q=.upd kk ob c/\(c=true->OpEff P N o st (.upd kk ob)):=by
 unfold s1c at h;split at h
 ·rename_i jn hv
  split at h
  ·rename_i kk hm
   split at h
   ·rename_i tm te kt e l i ys aH
    split at h
    ·rename_i a e' k ht hk
     cases hb:(keyA P a kt&&b0x kt&&Nat.beq kk jn)with
     |false=>rw[hb]at h;cases h
     |true=>
      rw[hb]at h;cases h;refine⟨_,_,_,rfl,λhi=>⟨hd,λF ρ ac w hr=>?_⟩⟩;simp only[r2i]at hb;obtain⟨⟨b2,b3⟩,b4⟩:=hb;have hi:=r2h hi;have:=r2h b4;subst this;obtain⟨b,es,clock,pv,us,aV,aW,hM⟩:=j1w hr aH;have hmv:=s1r hr hm aV;have jt:=f1e hr hv aV;rw[show(pv::us).getD 0 (.slice none 0 0)=pv from rfl]at jt
      have bI:ac.eval x=keyV kt k:=e0m (w:=w) (F:=F) b3 (b0s (e0w hk (a0d hr x)));have kc:=hM.keysE b3;obtain⟨es',clock',hrun,jr⟩:=n0y (P:=P) (vt:=.lst e) ht b2 b3 k pv aW kc;have cG:b<w.heap.size:=(r2r.1 aW).1;have cP:∀b',b' ≠b->({w with heap:=w.heap.setIfInBounds b (.map es' clock')}:World).heap[b']?=w.heap[b']?:=λb' h' =>by
       simp[s2r,Ne.symm h']
      have eB:=hM.st.write jr;obtain⟨p1,p2⟩:=hM.pnd i ys rfl;have jE:i<us.length:=(r2p.1 p1).1;have hui:us[i]=pv:=by rw[r2k jE]at p1;exact Option.some.inj p1
      have cX:∀j (hj:j<us.length) (h1:j<l.length),j≠i->RowOwn w F te e l[j].2 us[j]:=λj hj h1 aS=>(hM.ent j h1 (by rw[hM.hs];exact h1) hj λp hp=>by cases hp;exact Ne.symm aS).2
      -- blocks of rows are not the map's
      have hblk:∀u,u∈us->∀g,u.ownBlock=some g->g≠b:=λu hu g hg e=>by
       subst e;obtain⟨j,hj,rfl⟩:=List.getElem_of_mem hu;have⟨zs,hz⟩:∃zs:List e.den,RowOwn w F te e zs us[j]:=by
        by_cases cN:j=i
        ·subst cN;rw[hui];exact⟨_,p2⟩
        ·have h1:j<l.length:=by
          rcases hM.hu with⟨h0,_⟩| ⟨_,_,h0,⟨_,h1⟩| ⟨h2,h1⟩⟩
          ·cases h0
          ·omega
          ·cases h0;omega
         exact⟨_,cX j hj h1 cN⟩
       obtain⟨_,xs,h1,_⟩:=hz;rcases h1.2 with⟨h2,_⟩| ⟨g',cap,cur,h2,_,h3,_⟩
       ·rw[h2]at hg;cases hg
       ·rw[h2]at hg;cases hg
        rw[aW]at h3;cases h3
      have hFb:∀b',F b' ->({w with heap:=w.heap.setIfInBounds b (.map es' clock')}:World).heap[b']?=w.heap[b']?:=λb' hb' =>cP b' λhe=>by
       subst he;exact hr.rw.dis _ hb' ⟨kk,_,aV,.inl rfl⟩
      have eN:∀(ys' :List e.den) u,u∈us->RowOwn w F te e ys' u->RowOwn ({w with heap:=w.heap.setIfInBounds b (.map es' clock')}:World) F te e ys' u:=λys' u hu h=>h.mono hFb (λ_ h=>h) λg hg=>cP g (hblk u hu g hg)
      have bJ:MrRel ({w with heap:=w.heap.setIfInBounds b (.map es' clock')}:World) F te kt e (b0d kt (.lst e) l k ys) none es' clock' pv us:=by
       have eI:pv∈us:=hui▸s2s jE;rcases j0u (kt:=kt) (vt:=.lst e) ([]:List e.den) k (λ_ _=>True) es.toList l 0 (by simpa using hM.hs) (λ_ _ _=>trivial)with⟨_,a2,_,a4⟩| ⟨_,u,a2,_,a4⟩
       ·-- a new key
        have dF:b0d kt (.lst e) l k ys=l++ [(k,ys)]:=q0e k ys es.toList l 0 (by simpa using hM.hs) a2;rcases jr with⟨_,rfl,rfl⟩| ⟨_,_,hf,_,_⟩
        case inr=>rw[a2]at hf;cases hf
        rw[a4]at hi;have lO:us.length=l.length+1:=by
         rcases hM.hu with⟨h0,_⟩| ⟨_,_,h0,⟨h1,_⟩| ⟨_,h1⟩⟩
         ·cases h0
         ·cases h0;omega
         ·exact h1
        have aR:=hM.hs;rw[dF];refine⟨by simp[aR],.inl ⟨rfl,by simp[lO]⟩,λj h1 h2=>?_,λj h1 h2 h3 _=>?_,hM.dis,eB,λ_=>.inr eI,nofun⟩
        ·by_cases e1:j<l.length
         ·rw[t2e e1,Array.getElem_push_lt (by omega)]
          exact(hM.key j e1 (by omega)).mono hFb λ_ h=>h
         ·have e2:j=l.length:=by simp at h1;omega
          subst e2;have e3:(es.push {key:=keyV kt k,val:=pv,born:=clock})[l.length]'h2={key:=keyV kt k,val:=pv,born:=clock}:=by
           simp [<-aR]
          rw[e3];simp only[List.getElem_concat_length];exact x0v b3 k
        ·by_cases e1:j<l.length
         ·rw[t2e e1,Array.getElem_push_lt (by omega)]
          obtain⟨q1,q2⟩:=hM.ent j e1 (by omega) h3 λp hp=>by cases hp;show i≠j;omega
          exact⟨q1,eN _ _ (s2s h3) q2⟩
         ·have e2:j=l.length:=by simp at h1;omega
          subst e2;have e3:(es.push {key:=keyV kt k,val:=pv,born:=clock})[l.length]'h2={key:=keyV kt k,val:=pv,born:=clock}:=by
           simp [<-aR]
          rw[e3];subst hi;simp only[List.getElem_concat_length];exact⟨hui.symm,hui.symm▸eN _ _ eI p2⟩
       ·rw[s2u]at a2
        have jl:a0q kt (.lst e) l k<l.length:=a4;obtain⟨_,dF⟩:=q0m (kt:=kt) (vt:=.lst e) k ys es.toList l 0 _ u (by simpa using hM.hs) a2;rw[Nat.sub_zero, <-hi]at dF;rw [<-hi]at jl a2;rcases jr with⟨hf,_,_⟩| ⟨j',u',hf,rfl,rfl⟩
        ·rw[a2]at hf;cases hf
        rw[a2]at hf;cases hf;have lO:us.length=l.length:=by
         rcases hM.hu with⟨h0,_⟩| ⟨_,_,h0,⟨_,h1⟩| ⟨h2,_⟩⟩
         ·cases h0
         ·exact h1
         ·cases h0;omega
        have aR:=hM.hs;rw[dF];refine⟨by simp[aR],.inl ⟨rfl,by simp[lO]⟩,λj h1 h2=>?_,λj h1 h2 h3 _=>?_,hM.dis,eB,λ_=>.inr eI,nofun⟩
        ·have h1' :j<l.length:=by simpa using h1
         rw[List.getElem_set,Array.getElem_modify];by_cases cN:i=j
         ·rw[if_pos cN,if_pos cN]
          exact x0v b3 k
         ·rw[if_neg cN,if_neg cN]
          exact(hM.key j h1' (by omega)).mono hFb λ_ h=>h
        ·have h1' :j<l.length:=by simpa using h1
         rw[Array.getElem_modify];by_cases cN:i=j
         ·subst cN
          rw[if_pos rfl];have e5:(l.set i (k,ys))[i]'h1=(k,ys):=List.getElem_set_self ..;rw[e5];exact⟨hui.symm,hui.symm▸eN _ _ eI p2⟩
         ·rw[if_neg cN]
          have e5:(l.set i (k,ys))[j]'h1=l[j]:=List.getElem_set_ne cN h1;rw[e5];obtain⟨q1,q2⟩:=hM.ent j h1' (by omega) h3 λp hp=>by cases hp;exact cN
          exact⟨q1,eN _ _ (s2s h3) q2⟩
      obtain⟨h1,h2⟩:=hr.setBox (w' :={w with heap:=w.heap.setIfInBounds b (.map es' clock')}) rfl rfl rfl (by simp) kk (.mr tm te kt e (b0d kt (.lst e) l k ys) none)
       (λb' hb' =>cP b' λhe=>hb' _ aV (by rw[he];exact .inl rfl))
       (.mr _ _ _ _ _ _ b es' clock' pv us aV (by simp[s2r,cG]) bJ)
      refine⟨undef,_,F,ρ,.inr ⟨?_,rfl⟩,h1,h2,⟨λ_ _=>rfl,λb' hb' hn=>cP b' λheq=>hn kk _ rfl aV (by rw[heq];exact .inl rfl)⟩⟩;simp[execOp,ho,hmv,bI,jt,hrun,Result.andThen]
    ·cases h
   ·cases h
  ·cases h
 ·cases h
variable{ops:Array Oper}{Q:Exit->ASt->Prop}
theorem AOps.rowApp {i n d:Nat}{t tx ty:TypeId}{s y:Operand}{pos:String}{after:Array Edge}{guard:Option (Nat×Bool)}{q:RowOp}(ho:opK ops st.fr i=some ⟨some d,.call ⟨.builtin .append,⟨[s,y]⟩,⟨[t,tx]⟩⟩,ty,pos,after,guard⟩)(h:rowApp P N st d t tx s y=some q):
  ∃kk bytes m ok ob,q=.app d kk bytes m ok ob/\(room m bytes=true->ok=true->AOps P N ops (List.range' (i+1) n) ((st.moved kk ob).put (some d) (.cell (.row kk 0))) Q->AOps P N ops (List.range' i (n+1)) st Q):=by
 unfold Esp.rowApp at h;split at h
 ·rename_i kk p gG
  split at h
  ·rename_i tm te kt e l aH
   split at h
   ·rename_i a7 sz bytes ht
    cases hb:(Nat.blt d N&&Nat.blt kk 1000000&&Nat.beq te a7&&Nat.beq sz e.sz)with
    |false=>rw[hb]at h;cases h
    |true=>
     rw[hb,u2j]at h;simp only[r2i]at hb;obtain⟨⟨⟨b1,b2⟩,b3⟩,b4⟩:=hb;have q1:=r2h b3;have q2:=r2h b4;subst q1;subst q2;simp only[r2m]at h;obtain⟨ys,h1,h2⟩:=h;cases kM:ys.isEmpty with
     |true=>rw[kM]at h2;cases h2
     |false=>
     rw[kM]at h2;cases h2;refine⟨_,_,_,_,_,rfl,λcD bY kq=>?_⟩;have hp:=r2u bY;obtain⟨r1,r2⟩:=n0u cD;rw[t2j];intro F ρ a w hr;rw[wpOps_cons];obtain⟨eo,hw⟩:=a0x hr ho;obtain⟨b,es,clock,pv,us,aV,aW,hM⟩:=j1w hr aH;have iH:us.length=l.length:=by
      rcases hM.hu with⟨_,h1⟩| ⟨_,_,h1,_⟩
      ·exact h1
      ·cases h1
     have jt:=f1e hr gG aV;rw[show(pv::us).getD (p+1) (.slice none 0 0)=us.getD p (.slice none 0 0)by simp]at jt;generalize dP:us.getD p (.slice none 0 0)=v at jt;have cX:=hM.rowD p;rw[dP]at cX;obtain⟨_,xs,hown,fR,bO⟩:=cX;obtain⟨hu,ii,z,hi,hz,iq,aR,qh⟩:=v0j ht;have gL:=hr.low;have ou:=q0o h1;obtain⟨news,gE,bP,mc⟩:=j1i (P:=P) (k:=kk) (y:=(ev st.fr y).low) gL (by have:=a0d gL y;rw[c0l]at this;exact this) ou;rw [<-aR]at hown gE;have hlen:(d0x kt e l p).length+ys.length=(d0x kt e l p++ys).length:=by simp
     obtain⟨v',w',hrun,hown',hg,hb'⟩:=g0f (P:=P) t tx ty te ii z hu hi hz iq v _ xs hown _ _ news gE (by rw[hlen];exact r1) (by rw[hlen,qh];exact r2);have hY:∀g,v.ownBlock=some g->p<us.length/\∃h:p<us.length,us[p]=v:=λg hg=>by
      by_cases b7:p<us.length
      ·refine⟨b7,b7,?_⟩
       rw[r2o,r2k b7]at dP;exact dP
      ·rw[r2o,u2b (by omega)]at dP
       rw [<-dP]at hg;cases hg
     have jo:v.ownBlock≠some b:=λhe=>by
      rcases hown.2 with⟨h3,_⟩| ⟨g',cap,cur,h3,_,h4,_⟩
      ·rw[h3]at he;cases he
      ·rw[h3]at he;cases he
       rw[aW]at h4;cases h4
     have cG:b<w.heap.size:=(r2r.1 aW).1;have hLv:∀g,v.ownBlock=some g->(Loc.many b (pv::us)).has g:=λg hg=>by
      obtain⟨_,h5,h6⟩:=hY g hg;exact .inr ⟨v,s2x _ (h6▸s2s h5),hg⟩
     have hF:∀b',F b' ->w'.heap[b']?=w.heap[b']?:=λb' hb' =>hg.block b' (hr.rw.lt b' hb') λe=>hr.rw.dis b' hb' ⟨kk,_,aV,hLv _ e.symm⟩
     -- the rows behind it
     obtain⟨us',lE,iv,mh⟩:∃us' :List Value,((p<l.length/\us'.length=l.length)\/(p=l.length/\us'.length=l.length+1))/\us'[p]?=some v' /\∀j,j≠p->us'[j]?=us[j]?:=by
      by_cases b7:p<l.length
      ·exact⟨us.set p v',.inl ⟨b7,by simp[iH]⟩,by simp[iH,b7],λj hj=>by simp[List.getElem?_set,Ne.symm hj]⟩
      ·have e1:p=l.length:=by omega
       refine⟨us++ [v'],.inr ⟨e1,by simp[iH]⟩,by rw[e1, <-iH];simp,λj hj=>?_⟩;by_cases gp:j<us.length
       ·rw[s2w gp]
       ·rw[u2b (by simp;omega),u2b (by omega)]
     have eS:∀j (hj:j<us'.length),j≠p->∃h:j<us.length,us'[j]=us[j]:=λj hj aS=>by
      have:=mh j aS;rw[r2k hj]at this;obtain⟨h5,h6⟩:=r2p.1 this.symm;exact⟨h5,h6.symm⟩
     have jb:∀(hj:p<us'.length),us'[p]=v' :=λhj=>by
      rw[r2k hj]at iv;exact Option.some.inj iv
     have jj:∀j (hj:j<us.length),j≠p->∀g,us[j].ownBlock=some g->v.ownBlock≠some g:=λj hj aS g h5 h6=>by
      obtain⟨_,h7,h8⟩:=hY g h6;exact aS (hM.dis j p hj h7 g h5 (h8▸h6))
     have aJ:∀j (hj:j<us.length) g,us[j].ownBlock=some g->g<w.heap.size:=λj hj g hg=>hM.lt (s2x _ (s2s hj)) hg;have bJ:RowOwn w' F te e (d0x kt e l p++ys) v' :=by
      refine⟨λh=>?_,xs++news,?_,?_,λj hj=>?_⟩
      ·rw[List.append_eq_nil_iff]at h
       rw[h.2]at kM;cases kM
      ·rw [<-hlen, <-aR];exact hown'
      ·rw[b0o,r2t,r2t,fR,bP]
      ·rw[b0o]at hj
       have e0:(flat e (d0x kt e l p++ys))[j]'(by rw[b0o];exact hj)=(flat e (d0x kt e l p)++flat e ys)[j]:=by simp only[b0o]
       rw[e0];by_cases aJ:j<(flat e (d0x kt e l p)).length
       ·have e1:(xs++news).getD j undef=xs.getD j undef:=by
         rw[r2o,s2w (by omega),r2o]
        rw[e1,t2e aJ];exact(bO j aJ).mono hF λ_ h=>h
       ·have e1:(xs++news).getD j undef=news.getD (j - (flat e (d0x kt e l p)).length) undef:=by
         rw[r2o,t2c (by omega),r2o,fR]
        rw[e1,List.getElem_append_right (by omega)];exact(mc _ (by rw[r2t]at hj;omega)).mono hF λ_ h=>h
     have hMnew:MrRel w' F te kt e l (some (p,d0x kt e l p++ys)) es clock v' us' :=by
      refine⟨hM.hs,.inr ⟨p,_,rfl,lE⟩,λj h3 h4=>(hM.key j h3 h4).mono hF λ_ h=>h,λj h3 h4 h5 h6=>?_,λj1 j2 h3 h4 g h5 h6=>?_,hM.st,nofun,λi' ys' h=>?_⟩
      ·have aS:j≠p:=λe=>h6 _ rfl e.symm
       obtain⟨h7,h8⟩:=eS j h5 aS;obtain⟨g1,g2⟩:=hM.ent j h3 h4 h7 nofun;rw[h8];exact⟨g1,g2.mono hF (λ_ h=>h) λg nT=>hg.block g (aJ j h7 g nT) λe=>jj j h7 aS g nT e.symm⟩
      ·by_cases e1:j1=p<;>by_cases e2:j2=p
       ·omega
       ·exfalso
        subst e1;obtain⟨h7,h8⟩:=eS j2 h4 e2;rw[jb h3]at h5;rw[h8]at h6;rcases(hb' g h5).2 with h9|h9
        ·have:=aJ j2 h7 g h6;omega
        ·exact jj j2 h7 e2 g h6 h9
       ·exfalso
        subst e2;obtain⟨h7,h8⟩:=eS j1 h3 e1;rw[jb h4]at h6;rw[h8]at h5;rcases(hb' g h6).2 with h9|h9
        ·have:=aJ j1 h7 g h5;omega
        ·exact jj j1 h7 e1 g h5 h9
       ·obtain⟨h7,h8⟩:=eS j1 h3 e1
        obtain⟨pj,qA⟩:=eS j2 h4 e2;rw[h8]at h5;rw[qA]at h6;exact hM.dis j1 j2 h7 pj g h5 h6
      ·cases h
       exact⟨iv,bJ⟩
     have hLhas:∀b',(Loc.many b (v' ::us')).has b' ->b' <w'.heap.size/\(w.heap.size<=b' \/(Loc.many b (pv::us)).has b'):=λb' h3=>by
      have od:v'.ownBlock=some b' ->b' <w'.heap.size/\(w.heap.size<=b' \/(Loc.many b (pv::us)).has b'):=λh=>⟨(hb' b' h).1,(hb' b' h).2.imp id λh=>hLv b' h⟩;rcases h3 with h3|⟨u,hu,h3⟩
      ·cases h3
       exact⟨t2h cG hg.size,.inr (.inl rfl)⟩
      ·rcases r2s.1 hu with rfl|hu
       ·exact od h3
       ·obtain⟨j,hj,rfl⟩:=List.getElem_of_mem hu
        by_cases nQ:j=p
        ·subst nQ
         rw[jb hj]at h3;exact od h3
        ·obtain⟨h7,h8⟩:=eS j hj nQ
         rw[h8]at h3;exact⟨t2h (aJ j h7 b' h3) hg.size,.inr (.inr ⟨_,s2x _ (s2s h7),h3⟩)⟩
     obtain⟨g1,g2⟩:=hr.moved (w' :=w') hg.os hg.tape hg.output hg.size (L' :=.many b (v' ::us')) (o:=.mr tm te kt e l (some (p,d0x kt e l p++ys))) (G:=λ_=>False) aV rfl
      (λb' h3 h4=>hg.block b' h3 λe=>h4 (hLv b' e.symm)) hLhas (λ_ h=>h.elim)
      (.mr _ _ _ _ _ _ b es clock v' us' (Env.set_same _ _ _) ((hg.block b cG λe=>jo e.symm).trans aW) (hMnew.mono (λ_ _=>rfl) (λ_ h=>.inl h) λ_ _ _ _=>rfl)) (a0e b2)
     have bD:(execOp a.eval ⟨some d,.call ⟨.builtin .append,⟨[s,y]⟩,⟨[t,tx]⟩⟩,ty,pos,after,guard⟩).run P w=.ok (.value v') w' :=by
      simp only[execOp,resolve,invoke,builtin,Sem.run_bind,Sem.run_pure,Result.andThen_ok,List.map_toArray,r2z,t2u,jt,hrun]
     simp only[wpOp,eo];rw[if_pos hw];left;simp only[Oper.wp,Oper.upon,bD];exact kq.after (g1.put d (a0e b1) (.cell _ _ (.row _ _ _ λb' us'' hb' =>by rw[Env.set_same]at hb';cases hb';rfl))) g2
   ·cases h
  ·cases h
 ·cases h
theorem e1w{ρ:Type}{r:ρ}{i n:Nat}{o:Oper}{q:RowOp}{k:ASt->Option ρ}(ho:opK ops st.fr i=some o)(hq:g2s P N st o=some q)(h:q.go st k=some r)(kk:∀s,k s=some r->AOps P N ops (List.range' (i+1) n) s Q):AOps P N ops (List.range' i (n+1)) st Q:=by
 unfold g2s at hq;split at hq
 ·rename_i d t m x ty pos after guard
  obtain⟨y,rfl,h1⟩:=f1g (o:=⟨some d,.lookup t m x false,ty,pos,after,guard⟩) rfl rfl hq;rw[t2j];exact .ieff (.of_opK ho h1) (kk _ h)
 ·rename_i d op t x y u ty pos after guard
  obtain⟨y,rfl,h1⟩:=n1l (o:=⟨some d,.binOp op t x y u,ty,pos,after,guard⟩) rfl rfl hq;rw[t2j];exact .ieff (.of_opK ho h1) (kk _ h)
 ·obtain⟨k',bytes,m,ok,ob,rfl,h1⟩:=AOps.rowApp ho hq
  simp only[RowOp.go]at h;cases hb:(room m bytes&&ok)with
  |false=>rw[hb]at h;cases h
  |true=>
   rw[hb]at h;rw[r2i]at hb;exact h1 hb.1 hb.2 (kk _ h)
 ·rename_i t m x v ty pos after guard
  obtain⟨k',ob,c,rfl,h1⟩:=n1h (o:=⟨none,.mapUpdate t m x v,ty,pos,after,guard⟩) rfl rfl hq;simp only[RowOp.go]at h;cases c with
  |false=>cases h
  |true=>
   rw[t2j];exact .ieff (.of_opK ho (h1 rfl)) (kk _ h)
 ·cases hq
end
end Esp

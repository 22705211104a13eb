import Derived.Test.YtnaeiccibhdknaaGreatDoorEvSortF
import Derived.Shelf.GgSortFunc.Tiny
import Derived.Shelf.SlSortFuncK.WholeK
import Derived.Shelf.SlSortCmp.Whole1
set_option linter.unusedSimpArgs false
set_option linter.unusedVariables false
namespace Esp
open Go
variable [Tabs]
section
variable{P:Program}
open Go.Sort Go.Proofs
theorem b2j{F:Nat->Prop}{ρ:Env}{w:World}{te:TypeId}{τ:Ev.Ty}{l l' :List τ.den}{g cap:Nat}{cur new:Array Value}{w' :World}{ob bG:List (Nat×AObj)}(hrw:RelW F ρ w)(aH:∀k,RelOb w F ρ k (lkO ob k))
  (hu:ρ 2000000=some (.arr (.slice (some ⟨g,0,none⟩) l.length cap)))(hl:l'.length=l.length)(aU:l.length<=cap)(hm:cap<=maxLen)(bE:cur.size=cap*τ.sz)(bJ:new.size=cur.size)
  (ig:w'.heap[g]?=some (.cells new te (0,0)))(iE:w'.os=w.os)(jS:w'.tape=w.tape)(lA:w'.output=w.output)(cE:w.heap.size<=w'.heap.size)(aF:∀b,b<w.heap.size->b≠g->w'.heap[b]?=w.heap[b]?)
  (hrel:∀i (h:i<(flat τ l').length),RelD w F (flat τ l')[i] (new.toList.getD i undef))(oz:lkO bG 2000000=.na te τ l')(ho2:∀k,k≠2000000->lkO bG k=lkO ob k):
  ∃F' ρ' rr ob2,EX (.tup []) bG rr ob2/\p0g w' F' ρ' rr (.returned (.tuple #[]))/\RelW F' ρ' w' /\(∀k,RelOb w' F' ρ' k (lkO ob2 k))/\Fr F ρ w F' ρ' w' :=by
 have hg:∀b,F b->b≠g:=λb hf e=>hrw.dis b hf ⟨2000000,_,hu,by rw[e];rfl⟩;have hF:∀b,F b->w'.heap[b]?=w.heap[b]?:=λb hf=>aF b (hrw.lt b hf) (hg b hf);have bS:∀m:List τ.den,(flat τ m).length=m.length*τ.sz:=λm=>b0j τ m;have bP:new.toList.length=new.size:=s2p;have hle:l'.length*τ.sz<=new.size:=by rw[bJ,bE,hl];exact t2b _ aU
 refine⟨F,ρ,.ret (.tup []),bG,⟨rfl,rfl⟩,?_,⟨hrw.dis,λb hf=>t2h (hrw.lt b hf) cE,hrw.inj,hrw.tab_of hF λ_ h=>h⟩,λk=>?_,
  ⟨iE,jS,lA,cE,λ_ h=>h,λb aW bP=>aF b aW λe=>bP ⟨2000000,_,hu,by rw[e];rfl⟩,λ_ _ h=>h,λ_ _=>Stab.refl _ _⟩⟩
 ·exact .tup [] #[] rfl λi hi=>by simp at hi
 ·by_cases hk:k=2000000
  ·subst hk
   rw[oz];refine .na _ _ _ (.arr te _ l'.length _ _ (new.toList.take (l'.length*τ.sz)) hu ⟨?_,.inr ⟨g,cap,new,by rw[hl],s2i _,ig,by omega,hm,by rw[bJ,bE],rfl⟩⟩ ?_ λi hi=>?_)
   ·rw[s2g,bP]
    omega
   ·rw[s2g,bP,bS]
    omega
   ·have hi2:i<l'.length*τ.sz:=by rw[bS]at hi;exact hi
    have e:(new.toList.take (l'.length*τ.sz)).getD i undef=new.toList.getD i undef:=by
     rw[r2o,t2x,if_pos hi2,r2o]
    rw[e];exact(hrel i hi).mono hF λ_ h=>h
  ·rw[ho2 k hk]
   refine(aH k).through hF (λ_ h=>h) λlc b kJ hb=>aF b ((aH k).lt kJ hb) λe=>?_;subst e;exact hk (hrw.inj k 2000000 lc _ b kJ hu hb rfl)
structure ScalT(τ:Ev.Ty) where
 enc:τ.den->List Value
 cell:∀x,cells τ x=(enc x).map .sc
 one:∀x,∀v∈enc x,v.oneCell' =true
 pos:0<τ.sz
end
end Esp
namespace Esp
open Go
def p0r:List Int->List Int->Int
 |[],[]=>0
 |[],_::_=> -1
 |_::_,[]=>1
 |a::r,b::q=>if cmpI a b≠0 then cmpI a b else p0r r q
def ltLL(x y:List Int):Bool:=decide (p0r x y<0)
theorem w0t{a b:Int}:cmpI a b<0↔a<b:=by
 unfold cmpI;by_cases h:a<b
 ·simp[h]
 ·by_cases h2:a>b<;>simp[h,h2]
theorem cmpI_0{a b:Int}:cmpI a b=0↔a=b:=by
 unfold cmpI;by_cases h:a<b
 ·simp[h];omega
 ·by_cases h2:a>b
  ·simp[h,h2];omega
  ·simp[h,h2];omega
theorem v0m(x:List Int):ltLL x []=false:=by cases x<;>rfl
theorem m0z(a b:Int)(r q:List Int):ltLL (a::r) (b::q)=true↔a<b\/(a=b/\ltLL r q=true):=by
 unfold ltLL;rw[p0r];by_cases h:cmpI a b=0
 ·have:=cmpI_0.1 h
  subst this;simp[h]
 ·rw[if_pos h,decide_eq_true_iff,w0t]
  have:a≠b:=λe=>h (cmpI_0.2 e);simp[this]
theorem ltLL_ok:LtOk ltLL:=by
 have tr:∀x y z,ltLL x y=true->ltLL y z=true->ltLL x z=true:=by
  intro x
  induction x with
  |nil=>
   intro y z h1 h2;cases z with
   |nil=>rw[v0m]at h2;cases h2
   |cons c s=>rfl
  |cons a r ih=>
   intro y z h1 h2;cases y with
   |nil=>rw[v0m]at h1;cases h1
   |cons b q=>
    cases z with
    |nil=>rw[v0m]at h2;cases h2
    |cons c s=>
     rw[m0z]at*;rcases h1 with h1|⟨rfl,h1⟩
     ·rcases h2 with h2|⟨rfl,h2⟩
      ·exact .inl (by omega)
      ·exact .inl h1
     ·rcases h2 with h2|⟨rfl,h2⟩
      ·exact .inl h2
      ·exact .inr ⟨rfl,ih q s h1 h2⟩
 have tot:∀x y,ltLL x y=false->ltLL y x=false->x=y:=by
  intro x
  induction x with
  |nil=>intro y h1 h2;cases y with
   |nil=>rfl
   |cons b q=>cases h1
  |cons a r ih=>
   intro y h1 h2;cases y with
   |nil=>cases h2
   |cons b q=>
    have h1' :¬(a<b\/(a=b/\ltLL r q=true)):=λh=>by rw[(m0z a b r q).2 h]at h1;cases h1
    have fU:¬(b<a\/(b=a/\ltLL q r=true)):=λh=>by rw[(m0z b a q r).2 h]at h2;cases h2
    have fV:a=b:=by
     have u1:¬a<b:=λh=>h1' (.inl h);have u2:¬b<a:=λh=>fU (.inl h);omega
    subst fV;have e1:ltLL r q=false:=by cases h:ltLL r q with
     |false=>rfl
     |true=>exact absurd (.inr ⟨rfl,h⟩) h1'
    have e2:ltLL q r=false:=by cases h:ltLL q r with
     |false=>rfl
     |true=>exact absurd (.inr ⟨rfl,h⟩) fU
    rw[ih q e1 e2]
 have irr:∀x,ltLL x x=false:=by
  intro x
  induction x with
  |nil=>rfl
  |cons a r ih=>
   cases h:ltLL (a::r) (a::r)with
   |false=>rfl
   |true=>
    rcases(m0z a a r r).1 h with h|⟨_,h⟩
    ·omega
    ·rw[ih]at h;cases h
 refine⟨irr,tr,λx y z h1 h2=>?_,tot⟩;cases h:ltLL x z with
 |false=>rfl
 |true=>
  cases h3:ltLL y x with
  |false=>
   have:=tot x y h1 h3;subst this;rw[h]at h2;cases h2
  |true=>
   have:=tr y x z h3 h;rw[this]at h2;cases h2
def RdI(w:World)(x:List Int)(v:Value):Prop:=∃p c,v=.slice p x.length c/\(x≠ []-> ∃b o,p=some ⟨b,o,none⟩/\ ∀i (h:i<x.length),w.cell? ⟨b,o+i,none⟩=some (.int .i64 x[i]))
theorem m1k(a:Int)(r q:List Int):p0r (a::r) (a::q)=p0r r q:=by rw[p0r,cmpI_0.2 rfl];simp
theorem s0n{x:List Int}{k:Nat}(h:k<x.length):x.drop k=x[k]::x.drop (k+1):=(t2v h)
end Esp
namespace Esp
open Go
variable [Tabs]
section
variable{P:Program}
open Go.Sort Go.Proofs Go.Shelf
omit [Tabs]in
theorem y0m(l:List (List Int)):flat (.lst .i64) l=l.map (D.nl .i64):=by
 unfold flat;exact c2i (f:=D.nl .i64) l
omit [Tabs]in
theorem t1q{w:World}{F:Nat->Prop}{x:List Int}{v:Value}(h:RelD w F (.nl .i64 x) v):RdI w x v:=by
 cases h with
 |nl _ _ _ h=>
  rw[w0r]at h;generalize hn:x.length=n at h;generalize bE:x.map (iC .i64)=cs at h;have hz:(Ev.Ty.i64).sz=1:=rfl;rw[hz]at h;cases h with
  |nil e a cap=>exact⟨a,cap,by rw[hn],λhx=>absurd (s2f hn) hx⟩
  |sl e n cs b off cap c hF hl aU hc hr=>
   refine⟨some ⟨b,off,none⟩,cap,by rw[hn],λ_=>⟨b,off,rfl,λi hi=>?_⟩⟩;have hi2:i<cs.length:=by rw [<-bE];simpa using hi
   have h1:=hr i hi2;have e1:cs[i]=.sc (.int .i64 x[i]):=by
    subst bE;rw[List.getElem_map];rfl
   rw[e1]at h1;rw[hc i hi2,u0n h1]
omit [Tabs]in
theorem o2a{w:World}{F:Nat->Prop}{x:List Int}{v:Value}(h:RelD w F (.nl .i64 x) v):v.oneCell' =true:=by
 obtain⟨p,c,rfl,_⟩:=t1q h;rfl
def sfLL:List (List Int)×Unit->Option (List (List Int)×Unit):=λ(l,_)=>bif Nat.ble l.length 4000000000000000000&&l.all (λx=>Nat.ble x.length 1000000)then some (i0p ltLL l,())else none
abbrev RA(w:World)(F:Nat->Prop):Type:={p:List Int×Value // p.1.length<=1000000/\RelD w F (.nl .i64 p.1) p.2}
theorem u1l{r:Go.Shelf.Ren}(L:SlLaysF.n6 P r)(te:TypeId)(g:FuncId)(eg:∀args w,(callFunc g args).run P w=.ok (.enter g args) w)
  (bU:∀(x y:List Int) (vx vy:Value) (W:World),RdI W x vx->RdI W y vy->x.length<=1000000->Calls P g #[vx,vy] W λe w' =>e=.returned (.int .i64 (p0r x y))/\w' =W):
  Contract P (r.f 6) (F_sf te (.lst .i64) g) sfLL:=by
 rintro⟨l,u⟩ y hy;unfold sfLL at hy;cases hs:Nat.ble l.length 4000000000000000000&&l.all (λx=>Nat.ble x.length 1000000)with
 |false=>dsimp only at hy;rw[hs]at hy;cases hy
 |true=>
 dsimp only at hy;rw[hs]at hy;cases hy;rw[r2i,s2b]at hs;have oZ:=r2u hs.1;have bB:∀x∈l,x.length<=1000000:=λx hx=>r2u (hs.2 x hx);intro F ρ vs w hrw aH hra;have aH:∀k,RelOb w F ρ k (lkO [(2000000,.na te (.lst .i64) l)] k):=aH;have aR:vs.size=2:=hra.sz;obtain⟨v0,v1,rfl⟩:∃v0 v1,vs=#[v0,v1]:=by
  refine⟨vs[0],vs[1],?_⟩;apply Array.ext
  ·simpa using aR
  ·intro q h1 h2
   have:q=0\/q=1:=by simp at h2;omega
   rcases this with rfl|rfl<;>rfl
 have h0:RelAV w F ρ #[] (.cell (.own 2000000)) v0:=hra.rel 0 (by show 0<2;omega);have h1:RelAV w F ρ #[] (.cell (.fn (.func g) [] [])) v1:=hra.rel 1 (by show 1<2;omega);have e1:v1=.func (.func g) #[] #[]:=by
  cases h1 with
  |cell _ _ h=>cases h with
   |fn _ _ _ a b h1 h2 hf hc=>
    rw[Array.eq_empty_of_size_eq_zero h1,Array.eq_empty_of_size_eq_zero h2]
 subst e1;have hr:RelOb w F ρ 2000000 (.na te (.lst .i64) l):=aH 2000000;obtain⟨u0,xs,dU,hown,fR,hh⟩:∃u xs,ρ 2000000=some (.arr u)/\w.ownsRow 0 te 1 u l.length xs/\xs.length=(flat (.lst .i64) l).length/\∀i (h:i<(flat (.lst .i64) l).length),RelD w F (flat (.lst .i64) l)[i] (xs.getD i undef):=by
  cases hr with
  |na _ _ _ hr' =>exact n0w hr'
 have ev0:=y0l h0 dU;subst ev0;have fin:∀(l' :List (List Int)) (e:Ending) (w' :World),(∃F' ρ' rr bG,EX (.tup []) [(2000000,.na te (.lst .i64) l')] rr bG/\p0g w' F' ρ' rr e/\RelW F' ρ' w' /\(∀k,RelOb w' F' ρ' k (lkO bG k))/\Fr F ρ w F' ρ' w')->
   ∃F' ρ' rr bG,EX ((F_sf te (.lst .i64) g).res (l',())) ((F_sf te (.lst .i64) g).ob2 (l',())) rr bG/\p0g w' F' ρ' rr e/\RelW F' ρ' w' /\(∀k,RelOb w' F' ρ' k (lkO bG k))/\Fr F ρ w F' ρ' w' :=λ_ _ _ h=>h
 have noRow:∀p cap,v0=.slice p 0 cap->l=[]->Calls P (r.f 6) #[v0,.func (.func g) #[] #[]] w λe w' =>
   ∃F' ρ' rr bG,EX ((F_sf te (.lst .i64) g).res (i0p ltLL l,())) ((F_sf te (.lst .i64) g).ob2 (i0p ltLL l,())) rr bG/\p0g w' F' ρ' rr e/\RelW F' ρ' w' /\(∀k,RelOb w' F' ρ' k (lkO bG k))/\Fr F ρ w F' ρ' w' :=by
  rintro p cap rfl rfl;refine(AnyF.slices_SortFunc_none {L with} p cap _ w).mono λe w' ⟨he,hw⟩=>?_
  subst he;subst hw;rw[show i0p ltLL ([]:List (List Int))=[]by simp[i0p]];exact fin _ _ _ ⟨F,ρ,.ret (.tup []),_,⟨rfl,rfl⟩,.tup [] #[] rfl λi hi=>by simp at hi,hrw,aH,Fr.refl F ρ w'⟩
 by_cases fp:l=[]
 ·rcases hown.2 with⟨hv,hn⟩| ⟨gb,cap,cur,hv,_⟩
  ·exact noRow _ _ hv fp
  ·exact noRow _ _ (by rw[hv,fp];rfl) fp
 rcases hown.2 with⟨_,hn⟩| ⟨gb,cap,cur,rfl,_,kF,aU,dX,bE,bK⟩
 ·exact absurd (s2f hn) fp
 have hblk:gb<w.heap.size:=(r2r.1 kF).1;have pZ:∀b,F b->b≠gb:=λb hf e=>hrw.dis b hf ⟨2000000,_,dU,by rw[e];rfl⟩;have bS:(flat (.lst .i64) l).length=l.length:=by rw[y0m,s2k]
 have p8:cur.size=cap:=by rw[bE,Nat.mul_one]
 rw[Nat.mul_one]at bK;have hrel:∀i (h:i<l.length),RelD w F (.nl .i64 l[i]) (xs.getD i undef):=λi hi=>by
  have:=hh i (by rw[bS];exact hi);have e:(flat (.lst .i64) l)[i]'(by rw[bS];exact hi)=.nl .i64 l[i]:=by
   have:(flat (.lst .i64) l)[i]?=some (.nl .i64 l[i]):=by rw[y0m,t2a,r2k hi];rfl
   exact List.getElem_eq_iff _ |>.2 this
  rwa[e]at this
 letI:Inhabited (RA w F):=⟨⟨([],.slice none 0 0),by simp,.nl _ _ _ (.nil 1 none 0)⟩⟩
 let d:Array (RA w F):=Array.ofFn (n:=l.length) λi=>⟨(l[i],xs.getD i undef),bB _ (s2s i.2),hrel i i.2⟩
 have hd:d.size=l.length:=by simp[d]
 have ov:∀i (h:i<l.length),(d[i]'(by rw[hd];exact h)).1=(l[i],xs.getD i undef):=λi h=>by simp[d]
 let enc:RA w F->Value:=λp=>p.1.2
 have kj:OneCell enc:=λp=>o2a p.2.2
 let cf:RA w F->RA w F->Int:=λp q=>p0r p.1.1 q.1.1
 have gk:∀x y:RA w F,ltOf cf x y=ltLL x.1.1 y.1.1:=λ_ _=>rfl;have hO2:SWO (ltOf cf):=⟨λx=>by rw[gk];exact ltLL_ok.irrefl _,λx y z h1 h2=>by rw[gk]at*;exact ltLL_ok.trans _ _ _ h1 h2,λx y z h1 h2=>by rw[gk]at*;exact ltLL_ok.ntrans _ _ _ h1 h2⟩;have fu:∀(m:Nat) (os:Array Obj) (dk:Array (RA w F)) (b:Nat),b<w.heap.size->b≠gb->(sortWorld enc w gb 0 m dk os).heap[b]?=w.heap[b]?:=λm os dk b hb aS=>by
  show((w.heap.modify gb (onCells (putCells enc 0 dk)))++os)[b]?=_;rw[t2t (by simpa using hb),Array.getElem?_modify,if_neg (Ne.symm aS)]
 have nj:CmpLays1 P g #[] enc cf gb 0 d.size w:=λm os dk _ x y=>by
  have hF:∀b,F b->(sortWorld enc w gb 0 m dk os).heap[b]?=w.heap[b]?:=λb hf=>fu m os dk b (hrw.lt b hf) (pZ b hf);exact(bU x.1.1 y.1.1 x.1.2 y.1.2 _ (t1q (x.2.2.mono hF λ_ h=>h)) (t1q (y.2.2.mono hF λ_ h=>h)) x.2.1).mono λe w' ⟨he,hw⟩=>⟨he,0,#[],by rw[hw,grow_empty];rfl⟩
 have hH:Holds enc w gb 0 d:=λj hj=>by
  rw[hd]at hj;refine⟨?_,Lib.frozen_of_heap kF _⟩;rw[Lib.cell_of_heap kF,s2u,getElem!_pos d j (by rw[hd];exact hj)];show cur[j]?=some (d[j]'_).1.2;rw[ov j hj];have n5:j<xs.length:=by omega
  have:(cur.toList.take l.length)[j]?=some xs[j]:=by rw[bK,r2k n5]
  rw[t2x,if_pos hj,t2g]at this;rw[this];simp[r2o,n5]
 have main:=Any.slices_SortFunc L enc kj cf hO2 g #[] gb 0 cap d w eg nj hH hblk (by rw[hd];omega);rw[hd]at main;refine main.mono λe w' ⟨he,d',n,os,⟨gS,_,hpm⟩,ke,ig⟩=>?_;subst he;rw[hd]at gS;have jX:∀a:Array (RA w F),a.size=l.length->(a.extract 0 l.length).toList=a.toList:=λa ha=>by rw [<-ha,Array.extract_size]
 rw[jX d' gS,jX _ hd]at hpm;have kT:d.toList.map (λp=>p.1.1)=l:=by
  apply List.ext_getElem
  ·simp[hd]
  ·intro i h1 h2
   rw[List.getElem_map,Array.getElem_toList];rw[ov i h2]
 have iP:i0p ltLL l=d'.toList.map λp=>p.1.1:=z1h ltLL_ok (by rw [<-kT];exact(hpm.map _).symm) (by
  rw[List.pairwise_iff_getElem];intro i j hi hj fY;simp only[s2k,s2p]at hi hj;have:=ke i j (s2i _) fY (by omega);rw[getElem!_pos d' i (by omega),getElem!_pos d' j (by omega),gk]at this;simpa using this)
 have jU:w'.heap[gb]?=some (.cells (putCells enc 0 d' cur) te (0,0)):=by
  rw[ig];show((w.heap.modify gb (onCells (putCells enc 0 d')))++os)[gb]?=_;rw[t2t (by simpa using hblk),Array.getElem?_modify,if_pos rfl,kF];rfl
 have cE:w.heap.size<=w'.heap.size:=by
  rw[ig];show w.heap.size<=((w.heap.modify gb _)++os).size;rw[Array.size_append,Array.size_modify];omega
 have gU:(i0p ltLL l).length=l.length:=p0f ltLL l;refine fin _ _ _ (b2j (cur:=cur) (τ:=.lst .i64) hrw aH dU gU aU dX bE (by simp[putCells]) jU (by rw[ig];rfl) (by rw[ig];rfl) (by rw[ig];rfl) cE (λb hb aS=>by rw[ig];exact fu n os d' b hb aS) (λi hi=>?_) rfl λk hk=>by
  simp only[lkO];cases hb:Nat.beq k 2000000 with
  |true=>exact absurd (r2h hb) hk
  |false=>rfl)
 have hil:i<l.length:=by rw[y0m,s2k,gU]at hi;exact hi
 have hid:i<d'.size:=by omega
 have e1:(flat (.lst .i64) (i0p ltLL l))[i]=.nl .i64 d'[i].1.1:=by
  have:(flat (.lst .i64) (i0p ltLL l))[i]?=some (.nl .i64 d'[i].1.1):=by
   rw[y0m,t2a,iP,t2a,t2g,s2h hid];rfl
  exact List.getElem_eq_iff _ |>.2 this
 have e2:(putCells enc 0 d' cur).toList.getD i undef=d'[i].1.2:=by
  rw[r2o,t2g];unfold putCells;rw[Array.getElem?_mapIdx,s2h (by omega),s2z,if_pos ⟨s2i _,by omega⟩,Nat.sub_zero,getElem!_pos d' i hid];rfl
 rw[e1,e2];exact d'[i].2.2
end
end Esp

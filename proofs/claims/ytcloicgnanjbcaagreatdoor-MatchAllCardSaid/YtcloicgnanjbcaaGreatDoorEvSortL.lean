import Derived.Test.YtcloicgnanjbcaaGreatDoorEvSortF
import Derived.Test.YtcloicgnanjbcaaGreatDoorEvRise2
import Derived.Test.YtcloicgnanjbcaaGreatDoorEvWalk
import Derived.Shelf.GgSortFunc.Tiny
import Derived.Shelf.SlSortFuncK.WholeK
import Derived.Test.YtcloicgnanjbcaaGreatDoorEvRows
import Derived.Shelf.SlSortCmp.Whole1
namespace Esp
open Go
set_option linter.unusedSimpArgs false
set_option linter.unusedVariables false
variable [Tabs]
section
variable{P:Program}
open Go.Sort Go.Proofs
set_option linter.unusedSimpArgs false
set_option linter.unusedVariables false
theorem u1z{F:Nat→Prop}{ρ:Env}{w:World}{te:TypeId}{τ:Ev.Ty}{l l' :List τ.den}{g cap:Nat}{cur new:Array Value}{w' :World}{ob ob' :List (Nat×AObj)}(hrw:RelW F ρ w)(hob: ∀k,RelOb w F ρ k (lkO ob k))
  (hu:ρ 2000000=some (.arr (.slice (some ⟨g,0,none⟩) l.length cap)))(hl:l'.length=l.length)(hcap:l.length≤cap)(hm:cap≤maxLen)(hcs:cur.size=cap*τ.sz)(hnew:new.size=cur.size)
  (hw' :w'.heap[g]? =some (.cells new te (0,0)))(hos:w'.os=w.os)(htape:w'.tape=w.tape)(hout:w'.output=w.output)(hsize:w.heap.size≤w'.heap.size)(hkeep: ∀b,b<w.heap.size→b≠g→w'.heap[b]? =w.heap[b]?)
  (hrel: ∀i (h:i< (flat τ l').length),RelD w F (flat τ l')[i] (new.toList.getD i undef))(ho1:lkO ob' 2000000= .na te τ l')(ho2: ∀k,k≠2000000→lkO ob' k=lkO ob k):
  ∃F' ρ' rr ob2,EX (.tup []) ob' rr ob2∧m0k w' F' ρ' rr (.returned (.tuple #[]))∧RelW F' ρ' w' ∧(∀k,RelOb w' F' ρ' k (lkO ob2 k))∧Fr F ρ w F' ρ' w' :=by
 have hg: ∀b,F b→b≠g:=fun b hf e=>hrw.dis b hf ⟨2000000,_,hu,by rw [e];rfl⟩;have hF: ∀b,F b→w'.heap[b]? =w.heap[b]? :=fun b hf=>hkeep b (hrw.lt b hf) (hg b hf);have hfl: ∀m:List τ.den,(flat τ m).length=m.length*τ.sz:=fun m=>b0i τ m;have hnl:new.toList.length=new.size:=k2z;have hle:l'.length*τ.sz≤new.size:=by rw [hnew,hcs,hl];exact l2o _ hcap
 refine⟨F,ρ, .ret (.tup []),ob',⟨rfl,rfl⟩, ?_,⟨hrw.dis,fun b hf=>l2s (hrw.lt b hf) hsize,hrw.inj,hrw.tab_of hF fun _ h=>h⟩,fun k=> ?_,
  ⟨hos,htape,hout,hsize,fun _ h=>h,fun b hbb hnl=>hkeep b hbb fun e=>hnl ⟨2000000,_,hu,by rw [e];rfl⟩,fun _ _ h=>h,fun _ _=>Stab.refl _ _⟩⟩
 ·exact .tup [] #[] rfl fun i hi=>by simp at hi
 ·by_cases hk:k=2000000
  ·subst hk
   rw [ho1];refine .na _ _ _ (.arr te _ l'.length _ _ (new.toList.take (l'.length*τ.sz)) hu ⟨?_, .inr ⟨g,cap,new,by rw [hl],k2o _,hw',by omega,hm,by rw [hnew,hcs],rfl⟩⟩ ?_ fun i hi=> ?_)
   ·rw [k2g,hnl]
    omega
   ·rw [k2g,hnl,hfl]
    omega
   ·have hi2:i<l'.length*τ.sz:=by rw [hfl]at hi;exact hi
    have e:(new.toList.take (l'.length*τ.sz)).getD i undef=new.toList.getD i undef:=by
     rw [j2z,l2y,if_pos hi2,j2z]
    rw [e];exact(hrel i hi).mono hF fun _ h=>h
  ·rw [ho2 k hk]
   refine(hob k).through hF (fun _ h=>h) fun lc b hlc hb=>hkeep b ((hob k).lt hlc hb) fun e=> ?_;subst e;exact hk (hrw.inj k 2000000 lc _ b hlc hu hb rfl)
structure ScalT(τ:Ev.Ty) where
 enc:τ.den→List Value
 cell: ∀x,cells τ x=(enc x).map .sc
 one: ∀x,∀v∈enc x,v.oneCell' =true
 pos:0<τ.sz
end
end Esp
namespace Esp
open Go
set_option linter.unusedSimpArgs false
set_option linter.unusedVariables false
def n0d:List Int→List Int→Int
 | [], []=>0
 | [],_::_=> -1
 | _::_, []=>1
 | a::r,b::q=>if cmpI a b≠0 then cmpI a b else n0d r q
def ltLL(x y:List Int):Bool:=decide (n0d x y<0)
theorem n1w{a b:Int}:cmpI a b<0↔a<b:=by
 unfold cmpI;by_cases h:a<b
 ·simp [h]
 ·by_cases h2:a>b<;>simp [h,h2]
theorem cmpI_0{a b:Int}:cmpI a b=0↔a=b:=by
 unfold cmpI;by_cases h:a<b
 ·simp [h];omega
 ·by_cases h2:a>b
  ·simp [h,h2];omega
  ·simp [h,h2];omega
theorem t0i(x:List Int):ltLL x []=false:=by cases x<;>rfl
theorem j0e(a b:Int)(r q:List Int):ltLL (a::r) (b::q)=true↔a<b∨(a=b∧ltLL r q=true):=by
 unfold ltLL;rw [n0d];by_cases h:cmpI a b=0
 ·have:=cmpI_0.1 h
  subst this;simp [h]
 ·rw [if_pos h,decide_eq_true_iff,n1w]
  have:a≠b:=fun e=>h (cmpI_0.2 e);simp [this]
theorem ltLL_ok:LtOk ltLL:=by
 have tr: ∀x y z,ltLL x y=true→ltLL y z=true→ltLL x z=true:=by
  intro x
  induction x with
  | nil=>
   intro y z h1 h2;cases z with
   | nil=>rw [t0i]at h2;cases h2
   | cons c s=>rfl
  | cons a r ih=>
   intro y z h1 h2;cases y with
   | nil=>rw [t0i]at h1;cases h1
   | cons b q=>
    cases z with
    | nil=>rw [t0i]at h2;cases h2
    | cons c s=>
     rw [j0e]at*;rcases h1 with h1 | ⟨rfl,h1⟩
     ·rcases h2 with h2 | ⟨rfl,h2⟩
      ·exact .inl (by omega)
      ·exact .inl h1
     ·rcases h2 with h2 | ⟨rfl,h2⟩
      ·exact .inl h2
      ·exact .inr ⟨rfl,ih q s h1 h2⟩
 have tot: ∀x y,ltLL x y=false→ltLL y x=false→x=y:=by
  intro x
  induction x with
  | nil=>intro y h1 h2;cases y with
   | nil=>rfl
   | cons b q=>cases h1
  | cons a r ih=>
   intro y h1 h2;cases y with
   | nil=>cases h2
   | cons b q=>
    have h1' : ¬(a<b∨(a=b∧ltLL r q=true)):=fun h=>by rw [(j0e a b r q).2 h]at h1;cases h1
    have h2' : ¬(b<a∨(b=a∧ltLL q r=true)):=fun h=>by rw [(j0e b a q r).2 h]at h2;cases h2
    have hab:a=b:=by
     have u1: ¬a<b:=fun h=>h1' (.inl h);have u2: ¬b<a:=fun h=>h2' (.inl h);omega
    subst hab;have e1:ltLL r q=false:=by cases h:ltLL r q with
     | false=>rfl
     | true=>exact absurd (.inr ⟨rfl,h⟩) h1'
    have e2:ltLL q r=false:=by cases h:ltLL q r with
     | false=>rfl
     | true=>exact absurd (.inr ⟨rfl,h⟩) h2'
    rw [ih q e1 e2]
 have irr: ∀x,ltLL x x=false:=by
  intro x
  induction x with
  | nil=>rfl
  | cons a r ih=>
   cases h:ltLL (a::r) (a::r)with
   | false=>rfl
   | true=>
    rcases(j0e a a r r).1 h with h | ⟨_,h⟩
    ·omega
    ·rw [ih]at h;cases h
 refine⟨irr,tr,fun x y z h1 h2=> ?_,tot⟩;cases h:ltLL x z with
 | false=>rfl
 | true=>
  cases h3:ltLL y x with
  | false=>
   have:=tot x y h1 h3;subst this;rw [h]at h2;cases h2
  | true=>
   have:=tr y x z h3 h;rw [this]at h2;cases h2
def RdI(w:World)(x:List Int)(v:Value):Prop:=∃p c,v= .slice p x.length c∧(x≠ []→ ∃b o,p=some ⟨b,o,none⟩∧ ∀i (h:i<x.length),w.cell? ⟨b,o+i,none⟩=some (.int .i64 x[i]))
theorem g1t(a:Int)(r q:List Int):n0d (a::r) (a::q)=n0d r q:=by rw [n0d,cmpI_0.2 rfl];simp
theorem q0c{x:List Int}{k:Nat}(h:k<x.length):x.drop k=x[k]::x.drop (k+1):=(m2d h)
end Esp
namespace Esp
open Go
set_option linter.unusedSimpArgs false
set_option linter.unusedVariables false
variable [Tabs]
section
variable{P:Program}
open Go.Sort Go.Proofs Go.Shelf
set_option linter.unusedSimpArgs false
set_option linter.unusedVariables false
omit [Tabs]in
theorem u0m(l:List (List Int)):flat (.lst .i64) l=l.map (D.nl .i64):=by
 unfold flat;exact e0j (f:=D.nl .i64) l
omit [Tabs]in
theorem o1z{w:World}{F:Nat→Prop}{x:List Int}{v:Value}(h:RelD w F (.nl .i64 x) v):RdI w x v:=by
 cases h with
 | nl _ _ _ h=>
  rw [u0f]at h;generalize hn:x.length=n at h;generalize hcs:x.map (iC .i64)=cs at h;have hz:(Ev.Ty.i64).sz=1:=rfl;rw [hz]at h;cases h with
  | nil e a cap=>exact⟨a,cap,by rw [hn],fun hx=>absurd (k2q hn) hx⟩
  | sl e n cs b off cap c hF hl hcap hc hr=>
   refine⟨some ⟨b,off,none⟩,cap,by rw [hn],fun _=>⟨b,off,rfl,fun i hi=> ?_⟩⟩;have hi2:i<cs.length:=by rw [←hcs];simpa using hi
   have h1:=hr i hi2;have e1:cs[i]= .sc (.int .i64 x[i]):=by
    subst hcs;rw [List.getElem_map];rfl
   rw [e1]at h1;rw [hc i hi2,s0e h1]
omit [Tabs]in
theorem e2f{w:World}{F:Nat→Prop}{x:List Int}{v:Value}(h:RelD w F (.nl .i64 x) v):v.oneCell' =true:=by
 obtain⟨p,c,rfl,_⟩:=o1z h;rfl
def sfLL:List (List Int)×Unit→Option (List (List Int)×Unit):=fun(l,_)=>bif Nat.ble l.length 4000000000000000000&&l.all (fun x=>Nat.ble x.length 1000000)then some (g0h ltLL l,())else none
abbrev RA(w:World)(F:Nat→Prop):Type:={p:List Int×Value // p.1.length≤1000000∧RelD w F (.nl .i64 p.1) p.2}
theorem r1h{r:Go.Shelf.Ren}(L:SlLaysF.n6 P r)(te:TypeId)(g:FuncId)(eg: ∀args w,(callFunc g args).run P w= .ok (.enter g args) w)
  (hcl: ∀(x y:List Int) (vx vy:Value) (W:World),RdI W x vx→RdI W y vy→x.length≤1000000→Calls P g #[vx,vy] W fun e w' =>e= .returned (.int .i64 (n0d x y))∧w' =W):
  Contract P (r.f 6) (F_sf te (.lst .i64) g) sfLL:=by
 rintro⟨l,u⟩ y hy;unfold sfLL at hy;cases hs:Nat.ble l.length 4000000000000000000&&l.all (fun x=>Nat.ble x.length 1000000)with
 | false=>dsimp only at hy;rw [hs]at hy;cases hy
 | true=>
 dsimp only at hy;rw [hs]at hy;cases hy;rw [j2s,k2f]at hs;have hlim:=k2d hs.1;have hall: ∀x∈l,x.length≤1000000:=fun x hx=>k2d (hs.2 x hx);intro F ρ vs w hrw hob hra;have hob: ∀k,RelOb w F ρ k (lkO [(2000000, .na te (.lst .i64) l)] k):=hob;have hsz:vs.size=2:=hra.sz;obtain⟨v0,v1,rfl⟩: ∃v0 v1,vs= #[v0,v1]:=by
  refine⟨vs[0],vs[1], ?_⟩;apply Array.ext
  ·simpa using hsz
  ·intro q h1 h2
   have:q=0∨q=1:=by simp at h2;omega
   rcases this with rfl | rfl<;>rfl
 have h0:RelAV w F ρ #[] (.cell (.own 2000000)) v0:=hra.rel 0 (by show 0<2;omega);have h1:RelAV w F ρ #[] (.cell (.fn (.func g) [] [])) v1:=hra.rel 1 (by show 1<2;omega);have e1:v1= .func (.func g) #[] #[]:=by
  cases h1 with
  | cell _ _ h=>cases h with
   | fn _ _ _ a b h1 h2 hf hc=>
    rw [Array.eq_empty_of_size_eq_zero h1,Array.eq_empty_of_size_eq_zero h2]
 subst e1;have hr:RelOb w F ρ 2000000 (.na te (.lst .i64) l):=hob 2000000;obtain⟨u0,xs,hk0,hown,hxs,hh⟩: ∃u xs,ρ 2000000=some (.arr u)∧w.ownsRow 0 te 1 u l.length xs∧xs.length=(flat (.lst .i64) l).length∧∀i (h:i< (flat (.lst .i64) l).length),RelD w F (flat (.lst .i64) l)[i] (xs.getD i undef):=by
  cases hr with
  | na _ _ _ hr' =>exact l0p hr'
 have ev0:=s0t h0 hk0;subst ev0;have fin: ∀(l' :List (List Int)) (e:Ending) (w' :World),(∃F' ρ' rr ob',EX (.tup []) [(2000000, .na te (.lst .i64) l')] rr ob' ∧m0k w' F' ρ' rr e∧RelW F' ρ' w' ∧(∀k,RelOb w' F' ρ' k (lkO ob' k))∧Fr F ρ w F' ρ' w')→
   ∃F' ρ' rr ob',EX ((F_sf te (.lst .i64) g).res (l',())) ((F_sf te (.lst .i64) g).ob2 (l',())) rr ob' ∧m0k w' F' ρ' rr e∧RelW F' ρ' w' ∧(∀k,RelOb w' F' ρ' k (lkO ob' k))∧Fr F ρ w F' ρ' w' :=fun _ _ _ h=>h
 have noRow: ∀p cap,v0= .slice p 0 cap→l= []→Calls P (r.f 6) #[v0, .func (.func g) #[] #[]] w fun e w' =>
   ∃F' ρ' rr ob',EX ((F_sf te (.lst .i64) g).res (g0h ltLL l,())) ((F_sf te (.lst .i64) g).ob2 (g0h ltLL l,())) rr ob' ∧m0k w' F' ρ' rr e∧RelW F' ρ' w' ∧(∀k,RelOb w' F' ρ' k (lkO ob' k))∧Fr F ρ w F' ρ' w' :=by
  rintro p cap rfl rfl;refine(AnyF.slices_SortFunc_none {L with} p cap _ w).mono fun e w' ⟨he,hw⟩=> ?_
  subst he;subst hw;rw [show g0h ltLL ([]:List (List Int))= []by simp [g0h]];exact fin _ _ _ ⟨F,ρ, .ret (.tup []),_,⟨rfl,rfl⟩, .tup [] #[] rfl fun i hi=>by simp at hi,hrw,hob,Fr.refl F ρ w'⟩
 by_cases hl0:l= []
 ·rcases hown.2 with⟨hv,hn⟩ | ⟨gb,cap,cur,hv,_⟩
  ·exact noRow _ _ hv hl0
  ·exact noRow _ _ (by rw [hv,hl0];rfl) hl0
 rcases hown.2 with⟨_,hn⟩ | ⟨gb,cap,cur,rfl,_,hgb,hcap,hcm,hcs,htake⟩
 ·exact absurd (k2q hn) hl0
 have hblk:gb<w.heap.size:=(k2j.1 hgb).1;have hgF: ∀b,F b→b≠gb:=fun b hf e=>hrw.dis b hf ⟨2000000,_,hk0,by rw [e];rfl⟩;have hfl:(flat (.lst .i64) l).length=l.length:=by rw [u0m,k2v]
 have hcs1:cur.size=cap:=by rw [hcs,Nat.mul_one]
 rw [Nat.mul_one]at htake;have hrel: ∀i (h:i<l.length),RelD w F (.nl .i64 l[i]) (xs.getD i undef):=fun i hi=>by
  have:=hh i (by rw [hfl];exact hi);have e:(flat (.lst .i64) l)[i]'(by rw [hfl];exact hi)= .nl .i64 l[i]:=by
   have:(flat (.lst .i64) l)[i]? =some (.nl .i64 l[i]):=by rw [u0m,l2d,j2x hi];rfl
   exact List.getElem_eq_iff _ |>.2 this
  rwa [e]at this
 letI:Inhabited (RA w F):=⟨⟨([], .slice none 0 0),by simp, .nl _ _ _ (.nil 1 none 0)⟩⟩
 let d:Array (RA w F):=Array.ofFn (n:=l.length) fun i=>⟨(l[i],xs.getD i undef),hall _ (l2p i.2),hrel i i.2⟩
 have hd:d.size=l.length:=by simp [d]
 have hdi: ∀i (h:i<l.length),(d[i]'(by rw [hd];exact h)).1=(l[i],xs.getD i undef):=fun i h=>by simp [d]
 let enc:RA w F→Value:=fun p=>p.1.2
 have henc1:OneCell enc:=fun p=>e2f p.2.2
 let cf:RA w F→RA w F→Int:=fun p q=>n0d p.1.1 q.1.1
 have hltO: ∀x y:RA w F,ltOf cf x y=ltLL x.1.1 y.1.1:=fun _ _=>rfl;have hO2:SWO (ltOf cf):=⟨fun x=>by rw [hltO];exact ltLL_ok.irrefl _,fun x y z h1 h2=>by rw [hltO]at*;exact ltLL_ok.trans _ _ _ h1 h2,fun x y z h1 h2=>by rw [hltO]at*;exact ltLL_ok.ntrans _ _ _ h1 h2⟩;have hkeepW: ∀(m:Nat) (os:Array Obj) (dk:Array (RA w F)) (b:Nat),b<w.heap.size→b≠gb→(sortWorld enc w gb 0 m dk os).heap[b]? =w.heap[b]? :=fun m os dk b hb hne=>by
  show((w.heap.modify gb (onCells (putCells enc 0 dk)))++os)[b]? =_;rw [m2b (by simpa using hb),Array.getElem?_modify,if_neg (Ne.symm hne)]
 have hcmp:CmpLays1 P g #[] enc cf gb 0 d.size w:=fun m os dk _ x y=>by
  have hF: ∀b,F b→(sortWorld enc w gb 0 m dk os).heap[b]? =w.heap[b]? :=fun b hf=>hkeepW m os dk b (hrw.lt b hf) (hgF b hf);exact(hcl x.1.1 y.1.1 x.1.2 y.1.2 _ (o1z (x.2.2.mono hF fun _ h=>h)) (o1z (y.2.2.mono hF fun _ h=>h)) x.2.1).mono fun e w' ⟨he,hw⟩=>⟨he,0, #[],by rw [hw,grow_empty];rfl⟩
 have hH:Holds enc w gb 0 d:=fun j hj=>by
  rw [hd]at hj;refine⟨?_,Lib.frozen_of_heap hgb _⟩;rw [Lib.cell_of_heap hgb,l2b,getElem!_pos d j (by rw [hd];exact hj)];show cur[j]? =some (d[j]'_).1.2;rw [hdi j hj];have hjx:j<xs.length:=by omega
  have:(cur.toList.take l.length)[j]? =some xs[j]:=by rw [htake,j2x hjx]
  rw [l2y,if_pos hj,l2n]at this;rw [this];simp [j2z,hjx]
 have main:=Any.slices_SortFunc L enc henc1 cf hO2 g #[] gb 0 cap d w eg hcmp hH hblk (by rw [hd];omega);rw [hd]at main;refine main.mono fun e w' ⟨he,d',n,os,⟨hd',_,hpm⟩,hsort,hw'⟩=> ?_;subst he;rw [hd]at hd';have hext: ∀a:Array (RA w F),a.size=l.length→(a.extract 0 l.length).toList=a.toList:=fun a ha=>by rw [←ha,Array.extract_size]
 rw [hext d' hd',hext _ hd]at hpm;have hdl:d.toList.map (fun p=>p.1.1)=l:=by
  apply List.ext_getElem
  ·simp [hd]
  ·intro i h1 h2
   rw [List.getElem_map,Array.getElem_toList];rw [hdi i h2]
 have hsl:g0h ltLL l=d'.toList.map fun p=>p.1.1:=f1l ltLL_ok (by rw [←hdl];exact(hpm.map _).symm) (by
  rw [List.pairwise_iff_getElem];intro i j hi hj hij;simp only [k2v,k2z]at hi hj;have:=hsort i j (k2o _) hij (by omega);rw [getElem!_pos d' i (by omega),getElem!_pos d' j (by omega),hltO]at this;simpa using this)
 have hheap:w'.heap[gb]? =some (.cells (putCells enc 0 d' cur) te (0,0)):=by
  rw [hw'];show((w.heap.modify gb (onCells (putCells enc 0 d')))++os)[gb]? =_;rw [m2b (by simpa using hblk),Array.getElem?_modify,if_pos rfl,hgb];rfl
 have hsize:w.heap.size≤w'.heap.size:=by
  rw [hw'];show w.heap.size≤((w.heap.modify gb _)++os).size;rw [Array.size_append,Array.size_modify];omega
 have hrl:(g0h ltLL l).length=l.length:=y0r ltLL l;refine fin _ _ _ (u1z (cur:=cur) (τ:= .lst .i64) hrw hob hk0 hrl hcap hcm hcs (by simp [putCells]) hheap (by rw [hw'];rfl) (by rw [hw'];rfl) (by rw [hw'];rfl) hsize (fun b hb hne=>by rw [hw'];exact hkeepW n os d' b hb hne) (fun i hi=> ?_) rfl fun k hk=>by
  simp only [lkO];cases hb:Nat.beq k 2000000 with
  | true=>exact absurd (j2t hb) hk
  | false=>rfl)
 have hil:i<l.length:=by rw [u0m,k2v,hrl]at hi;exact hi
 have hid:i<d'.size:=by omega
 have e1:(flat (.lst .i64) (g0h ltLL l))[i]= .nl .i64 d'[i].1.1:=by
  have:(flat (.lst .i64) (g0h ltLL l))[i]? =some (.nl .i64 d'[i].1.1):=by
   rw [u0m,l2d,hsl,l2d,l2n,k2r hid];rfl
  exact List.getElem_eq_iff _ |>.2 this
 have e2:(putCells enc 0 d' cur).toList.getD i undef=d'[i].1.2:=by
  rw [j2z,l2n];unfold putCells;rw [Array.getElem?_mapIdx,k2r (by omega),l2i,if_pos ⟨k2o _,by omega⟩,Nat.sub_zero,getElem!_pos d' i hid];rfl
 rw [e1,e2];exact d'[i].2.2
end
end Esp

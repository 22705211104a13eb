import Derived.Test.YtcloicgnanjbcaaGreatDoorEvCode
noncomputable section
namespace Esp
open Go
set_option linter.unusedSimpArgs false
set_option linter.unusedVariables false
variable [Tabs]
section
variable{ρ:Type}{P:Program}
def k1v(t:FnT)(nf:t.ins.den→Option t.den)(a:List AV)(o:List (Nat×AObj))(k:AV→List (Nat×AObj)→Option ρ):Option ρ:=
 bif Nat.beq a.length t.nargs then(t.ins.dec ⟨frOf a 0,o⟩).bind fun x=>(nf x).bind fun y=>n0w t.outs y fun l u=>k (one1 l) (oEnc t.obs u)else none
def w1k:Orc ρ:=fun _ _ _ _=>none
def fits(t:FnT)(a:List AV)(o:List (Nat×AObj)):Bool:=Nat.beq a.length t.nargs&&rDec (frOf a 0) t.ins.rs
def l0n(f:FuncId)(t:FnT)(nf:t.ins.den→Option t.den)(O:Orc ρ):Orc ρ:=fun g a o k=>bif Nat.beq g f&&fits t a o then k1v t nf a o k else O g a o k
theorem r1v:(w1k:Orc ρ).ok P:=fun _ _ _ _ _ h=>by cases h
def h0d(P:Program)(f:FuncId)(t:FnT)(nf:t.ins.den→Option t.den):Prop:=∀x y,nf x=some y→XCall P f (t.args x) (t.res y)∧(t.res y).plain=true∧t.ob2 y= []
omit [Tabs]in
theorem e0f(t:FnT)(x:t.ins.den):(t.args x).length=t.nargs:=by simp [FnT.args]
omit [Tabs]in
theorem n0t(t:FnT)(x:t.ins.den)(i:Nat)(h:i< (t.args x).length):(t.args x)[i]=lkF (t.ins.enc x).fr i:=by simp [FnT.args]
omit [Tabs]in
theorem f0v{w:World}{F:Nat→Prop}{ρ' :Env}{tm:Array Value}{t:Tm}{s:ASt}{x:t.den}(h:t.dec s=some x)(i:Nat){v:Value}(hr:RelAV w F ρ' tm (lkF s.fr i) v):RelAV w F ρ' tm (lkF (t.enc x).fr i) v:=by
 unfold Tm.dec at h;cases hb:rDec s.fr t.rs with
 | false=>rw [hb]at h;cases h
 | true=>
  rw [hb]at h;rcases u0r (l:=(t.enc x).fr) (i:=i)with e | e
  ·rw [e];exact .junk _
  ·simp only [Tm.enc,l2v]at e⊢
   rcases e with e | e
   ·exact c1q hb _ e _ hr
   ·rcases e with e | e
    ·exact(h0p h).2 _ e _ hr
    ·exact(l0u (h0p (w:=w) (F:=F) (ρ:=ρ') (tm:=tm) h).1).2 _ e _ hr
omit [Tabs]in
theorem p1b{w:World}{F:Nat→Prop}{ρ0:Env}{os:List (Nat×OT)}{ob:List (Nat×AObj)}{y:x0u os}(h:oDec ob os=some y)(hob: ∀k,RelOb w F ρ0 k (lkO ob k)):
  ∀k,RelOb w F (fun j=>if j∈os.map (·.1)then ρ0 j else none) k (lkO (oEnc os y) k):=by
 have hs: ∀j l,(if j∈os.map (·.1)then ρ0 j else none)=some l→ρ0 j=some l:=by
  intro j l hj;split at hj
  ·exact hj
  ·cases hj
 intro k;rcases p1j (l:=oEnc os y) (i:=k)with⟨e,hn⟩ | e
 ·rw [e]
  refine .gone (if_neg fun hk=> ?_);have:k∈(oEnc os y).map (·.1):=by rw [h0f];exact hk
  obtain⟨p,hp,hpk⟩:=k2s.1 this;exact hn p hp hpk
 ·have hk:k∈os.map (·.1):=by
   rw [←h0f os y];exact k2s.2 ⟨_,e,rfl⟩
  exact c1h h _ e ((hob k).cut (if_pos hk) hs)
theorem b1l{f:FuncId}{t:FnT}{nf:t.ins.den→Option t.den}(hc:Contract P f t nf){a:List AV}{o:List (Nat×AObj)}{k:AV→List (Nat×AObj)→Option ρ}{r:ρ}(h:k1v t nf a o k=some r):
  ∃x o2,ACalls P f a o (EX x o2)∧k x o2=some r:=by
 unfold k1v at h;cases hb:Nat.beq a.length t.nargs with
 | false=>rw [hb]at h;cases h
 | true=>
  rw [hb]at h;have hlen:=j2t hb;simp only [cond_true,j2w]at h;obtain⟨x,h1,y,h2,h3⟩:=h;rw [d0s]at h3;refine⟨t.res y,t.ob2 y,fun F ρ0 vs w hrw hob hra=> ?_,h3⟩;have hod:oDec o t.ins.os=some (b1m t.ins.ms (u0a t.ins.vs x)):=by
   have h4:=h1;unfold Tm.dec at h4;cases hb:rDec (frOf a 0) t.ins.rs with
   | false=>rw [hb]at h4;cases h4
   | true=>rw [hb]at h4;exact(l0u (w:=w) (F:=F) (ρ:=ρ0) (tm:= #[]) (h0p (w:=w) (F:=F) (ρ:=ρ0) (tm:= #[]) h4).1).1
  refine(hc x y h2 F _ vs w (q0y (t.ins.os.map (·.1)) hrw) (p1b hod hob) ⟨by rw [e0f];exact hra.sz.trans hlen,fun i hi=> ?_⟩).mono fun e w' ⟨F',ρ',rr,ob',hq,hre,hrw',hrob,hfr⟩=>
   ⟨F',ρ',rr,ob',hq,hre,hrw',hrob,(f1k (t.ins.os.map (·.1))).trans (q0y _ hrw).dis hfr⟩
  rw [n0t];have hi' :i<a.length:=by rw [e0f]at hi;omega
  have e1:lkF (frOf a 0) i=a[i]:=by rw [h0y,dif_pos ⟨k2o _,by omega⟩];simp
  refine f0v h1 i (v:=vs.getD i undef) ?_;rw [e1];refine(hra.rel i hi').mono (fun _ _=>rfl) (fun _ h=>h) fun j l hj=> ?_;split at hj
  ·exact hj
  ·cases hj
theorem r1o{f:FuncId}{t:FnT}{nf:t.ins.den→Option t.den}(hc:h0d P f t nf){a:List AV}{o:List (Nat×AObj)}{k:AV→List (Nat×AObj)→Option ρ}{r:ρ}(h:k1v t nf a o k=some r):
  ∃x,XCall P f a x∧x.plain=true∧k x []=some r:=by
 unfold k1v at h;cases hb:Nat.beq a.length t.nargs with
 | false=>rw [hb]at h;cases h
 | true=>
  rw [hb]at h;have hlen:=j2t hb;simp only [cond_true,j2w]at h;obtain⟨x,h1,y,h2,h3⟩:=h;obtain⟨c1,c2,c3⟩:=hc x y h2;rw [d0s]at h3;have h3:k (t.res y) (t.ob2 y)=some r:=h3;rw [c3]at h3;refine⟨_,fun F ρ0 vs w hrw hra=> ?_,c2,h3⟩;refine c1 F ρ0 vs w hrw ⟨by rw [e0f];exact hra.sz.trans hlen,fun i hi=> ?_⟩;rw [n0t];have hi' :i<a.length:=by rw [e0f]at hi;omega
  have e1:lkF (frOf a 0) i=a[i]:=by rw [h0y,dif_pos ⟨k2o _,by omega⟩];simp
  refine f0v h1 i (v:=vs.getD i undef) ?_;rw [e1];exact hra.rel i hi'
theorem j1v{f:FuncId}{t:FnT}{nf:t.ins.den→Option t.den}{O:Orc ρ}(he:a0p P f=false)(hc:h0d P f t nf)(hO:O.ok P):(l0n f t nf O).ok P:=by
 intro g a o k r h;unfold l0n at h;cases hb:Nat.beq g f&&fits t a o with
 | true=>
  rw [hb]at h;rw [j2s]at hb;rw [j2t hb.1];exact .inr (.inl ⟨he,r1o hc h⟩)
 | false=>rw [hb]at h;exact hO _ _ _ _ _ h
theorem i1u{f:FuncId}{t:FnT}{nf:t.ins.den→Option t.den}{O:Orc ρ}(he:a0p P f=true)(hc:Contract P f t nf)(hO:O.ok P):(l0n f t nf O).ok P:=by
 intro g a o k r h;unfold l0n at h;cases hb:Nat.beq g f&&fits t a o with
 | true=>
  rw [hb]at h;rw [j2s]at hb;rw [j2t hb.1];exact .inl ⟨he,b1l hc h⟩
 | false=>rw [hb]at h;exact hO _ _ _ _ _ h
def fzFT:List FT→List AC→List Nat
 | .d t::r,cs=>(cs.take t.sz).flatMap AC.owns++fzFT r (cs.drop t.sz)
 | .ref _::r,cs=>fzFT r (cs.drop 1)
 | .rp _::r,cs=>fzFT r (cs.drop 1)
 | [],_=> []
def l1u:List RI→List AV→List Nat
 | .v _::r,x::xs=>x.owns++l1u r xs
 | .mix l::r, .agg cs::xs=>fzFT l cs++l1u r xs
 | _::r,_::xs=>l1u r xs
 | _,_=> []
def fzOb(ob:List (Nat×AObj)):List (Nat×OT)→List Nat
 | []=> []
 | (k, .box l _)::r=>(match lkO ob k with | .box cs _=>fzFT l cs | _=> [])++fzOb ob r
 | _::r=>fzOb ob r
def finN(P:Program)(rs:List ResultVar)(t:FnT)(s:ASt):Option t.den:=
 match resV P s rs with
 | some l=>match resV P ((l1u t.outs l++fzOb s.ob t.obs).foldl ASt.freeze s) rs with
  | some l' =>bif AV.plainL l' then n0f t.outs (oDec ((l1u t.outs l++fzOb s.ob t.obs).foldl ASt.freeze s).ob t.obs) l' else none
  | none=>none
 | none=>none
def finK(P:Program)(rs:List ResultVar)(t:FnT)(e:Exit)(s:ASt):Option t.den:=
 match e with
 | .ret=>finN P rs t s
 | .normal=>finN P rs t s
 | _=>none
def evF(P:Program)(N:Nat)(T:List (TypeId×Ev.Ty))(M:List (Nat×ArgM))(t:FnT)(O:Orc t.den)(L:LOrc t.den)(D:DOrc t.den)(pre:Pre)(rs:List ResultVar)(c:Code)(x:t.ins.den):Option t.den:=
 evC P N T M O L D 1000 c (t.ins.enc x) fun e s=>finK P rs t e (pre.app N s)
omit [Tabs]in
theorem v1j{t:Ev.Ty}{x:AV}{y:Option t.den}(h:b2a t x=some y){w:World}{F:Nat→Prop}{ρ0:Env}{tm:Array Value}{v:Value}(hr:RelAV w F ρ0 tm x v):RelAV w F ρ0 tm (d2v t y) v:=by
 unfold b2a at h;split at h
 ·simp only [l2k]at h
  obtain⟨a,h1,rfl⟩:=h;exact(k1d (w0b h1)).rel hr
 ·cases h
  exact hr
 ·cases h
omit [Tabs]in
theorem k0c{w:World}{F:Nat→Prop}{ρ0:Env}{tm:Array Value}: ∀{l:List RI} {u:Type} {z:Option u} {xs:List AV} {y:p0e l u},n0f l z xs=some y→
  z=some (p0y l y)∧xs.length=(g0j l y).length∧∀i (h:i<xs.length) (h' :i< (g0j l y).length) v,RelAV w F ρ0 tm xs[i] v→RelAV w F ρ0 tm (g0j l y)[i] v
 | [],u,z, [],y,h=>⟨h,rfl,fun i hi=>by simp at hi⟩
 | [],u,z,_::_,y,h=>by cases h
 | .v t::r,u,z,x::xs,y,h=>by
  simp only [n0f,j2w,j2v]at h;obtain⟨a,h1,b,h2,rfl⟩:=h;obtain⟨h3,h4,h5⟩:=k0c (w:=w) (F:=F) (ρ0:=ρ0) (tm:=tm) h2;refine⟨h3,by simp [g0j,h4],fun i hi hi' v hv=> ?_⟩;cases i with
  | zero=>exact e0r h1 hv
  | succ i=>exact h5 i (by simpa using hi) (by simpa [g0j]using hi') v hv
 | .v t::r,u,z, [],y,h=>by cases h
 | .ref c::r,u,z, .cell a::xs,y,h=>by
  simp only [n0f]at h;cases hb:c.is a with
  | false=>rw [hb]at h;cases h
  | true=>
   rw [hb]at h;obtain⟨h3,h4,h5⟩:=k0c (w:=w) (F:=F) (ρ0:=ρ0) (tm:=tm) h;refine⟨h3,by simp [g0j,h4],fun i hi hi' v hv=> ?_⟩;cases i with
   | zero=>rw [Ref.is_eq hb]at hv;exact hv
   | succ i=>exact h5 i (by simpa using hi) (by simpa [g0j]using hi') v hv
 | .ref c::r,u,z, [],y,h=>by cases h
 | .opt t::r,u,z,x::xs,y,h=>by
  simp only [n0f,j2w,j2v]at h;obtain⟨a,h1,b,h2,rfl⟩:=h;obtain⟨h3,h4,h5⟩:=k0c (w:=w) (F:=F) (ρ0:=ρ0) (tm:=tm) h2;refine⟨h3,by simp [g0j,h4],fun i hi hi' v hv=> ?_⟩;cases i with
  | zero=>exact v1j h1 hv
  | succ i=>exact h5 i (by simpa using hi) (by simpa [g0j]using hi') v hv
 | .opt t::r,u,z, [],y,h=>by cases h
 | .mix l::r,u,z, .agg cs::xs,y,h=>by
  simp only [n0f,j2w,j2v]at h;obtain⟨a,h1,b,h2,rfl⟩:=h;obtain⟨h3,h4,h5⟩:=k0c (w:=w) (F:=F) (ρ0:=ρ0) (tm:=tm) h2;refine⟨h3,by simp [g0j,h4],fun i hi hi' v hv=> ?_⟩;cases i with
  | zero=>
   have hl:=FT.dec_le (w:=w) (F:=F) (ρ:=ρ0) h1;have hv' :RelAV w F ρ0 tm (.agg cs) v:=hv;cases hv' with
   | agg cs arr hs hh=>exact .agg _ arr (hs.trans hl.length) fun i hi=>hl.get i (by rw [hl.length];exact hi) hi _ (hh i (by rw [hl.length];exact hi))
  | succ i=>exact h5 i (by simpa using hi) (by simpa [g0j]using hi') v hv
 | .mix l::r,u,z, [],y,h=>by cases h
 | .mix l::r,u,z, .cell _::xs,y,h=>by cases h
 | .mix l::r,u,z, .aggD _::xs,y,h=>by cases h
 | .mix l::r,u,z, .tup _::xs,y,h=>by cases h
 | .mix l::r,u,z, .whn _ _ _::xs,y,h=>by cases h
 | .mix l::r,u,z, .junk::xs,y,h=>by cases h
 | .ref c::r,u,z, .agg _::xs,y,h=>by cases h
 | .ref c::r,u,z, .aggD _::xs,y,h=>by cases h
 | .ref c::r,u,z, .tup _::xs,y,h=>by cases h
 | .ref c::r,u,z, .whn _ _ _::xs,y,h=>by cases h
 | .ref c::r,u,z, .junk::xs,y,h=>by cases h
omit [Tabs]in
theorem u1y{w:World}{F:Nat→Prop}{ρ0:Env}{tm:Array Value}{l m:List AV}(hl:l.length=m.length)(h: ∀i (h:i<l.length) (h' :i<m.length) v,RelAV w F ρ0 tm l[i] v→RelAV w F ρ0 tm m[i] v){v:Value}(hr:RelAV w F ρ0 tm (one1 l) v):
  RelAV w F ρ0 tm (one1 m) v:=by
 have tupc: ∀{l m:List AV},l.length=m.length→(∀i (h:i<l.length) (h' :i<m.length) v,RelAV w F ρ0 tm l[i] v→RelAV w F ρ0 tm m[i] v)→RelAV w F ρ0 tm (.tup l) v→RelAV w F ρ0 tm (.tup m) v:=by
  intro l m hl h hr;cases hr with
  | tup vs arr hs hh=>exact .tup _ arr (hs.trans hl) fun i hi=>h i (by omega) hi _ (hh i (by omega))
 match l,m,hl with
 | [], [],_=>exact hr
 | [x], [y],_=>exact h 0 (by simp) (by simp) v hr
 | x::y::r,x' ::y' ::r',hl=>exact tupc hl h hr
omit [Tabs]in
theorem r1y{st:ASt}{rs:List ResultVar}{l:List AV}(h:resV P st rs=some l)(hp:AV.plainL l=true):res1 P st rs=some (one1 l):=by
 unfold res1;rw [h]
 match l with
 | []=>rfl
 | [x]=>
  simp only [AV.plainL,m2m]at hp;simp [one1,hp]
 | x::y::r=>simp [one1,hp]
omit [Tabs]in
theorem c1a(t:FnT)(x:t.ins.den):AV.plainL (t.args x)=true:=by
 have h1: ∀(l:List AV),(∀y∈l,AV.plain y=true)→AV.plainL l=true:=by
  intro l
  induction l with
  | nil=>intro _;rfl
  | cons y r ih=>intro h;simp only [AV.plainL,j2s];exact⟨h y (by simp),ih fun z hz=>h z (l2c _ hz)⟩
 have h2: ∀(l:List (Nat×Ev.Ty)) {u:Type} (x:x0g l u),∀p∈vEnc l x,p.2.plain=true:=by
  intro l
  induction l with
  | nil=>intro u x p hp;cases hp
  | cons q r ih=>
   intro u x p hp;rcases k2b.1 hp with rfl | hp
   ·exact h0v _ _
   ·exact ih x.2 p hp
 have h3: ∀(l:List (Nat×List FT)) {u:Type} (x:v0q l u),∀p∈mEnc l x,p.2.plain=true:=by
  intro l
  induction l with
  | nil=>intro u x p hp;cases hp
  | cons q r ih=>
   intro u x p hp;rcases k2b.1 hp with rfl | hp
   ·unfold w0z
    cases Nat.ble 1000000 q.1<;>rfl
   ·exact ih x.2 p hp
 refine h1 _ fun y hy=> ?_;simp only [FnT.args,k2s,m2e]at hy;obtain⟨i,_,rfl⟩:=hy;rcases u0r (l:=(t.ins.enc x).fr) (i:=i)with e | e
 ·rw [e];rfl
 ·simp only [Tm.enc,l2v]at e⊢
  rcases e with e | e
  ·obtain⟨p,_,hp⟩:=k2s.1 e
   have h9:p.2.av=lkF (rEnc t.ins.rs++(vEnc t.ins.vs x++mEnc t.ins.ms (u0a t.ins.vs x))) i:=congrArg Prod.snd hp;rw [←h9];cases p.2<;>rfl
  ·rcases e with e | e
   ·exact h2 _ _ _ e
   ·exact h3 _ _ _ e
theorem Contract.of_ev [QuietD P] {f:FuncId}{fn:Func}{c:Code}{N:Nat}{rs:List ResultVar}{T:List (TypeId×Ev.Ty)}{M:List (Nat×ArgM)} [DfOk M] {t:FnT}{O:Orc t.den}{L:LOrc t.den}{D:DOrc t.den}{pre:Pre}{nf:t.ins.den→Option t.den}
  (hf:P.funcs[f]? =some fn)(hb:fn.body=some c)(hN:fn.ntmps=N)(hrs:fn.results.toList=rs)(hn:(Nat.ble t.nargs N&&Nat.ble N 1000000&&t.ins.rs.all (fun p=>Nat.blt p.1 t.nargs)&&t.ins.vs.all (fun p=>Nat.blt p.1 t.nargs)&&t.ins.ms.all (fun p=>Nat.blt (w0z p.1 []).1 t.nargs))=true)
  (hO:O.ok P)(hD:D.ok P N)(hl:LoopsOk P N L 1000 c)(h: ∀x,evF P N T M t O L D pre rs c x=nf x):Contract P f t nf:=by
 intro x y hy;rw [←h]at hy;simp only [j2s]at hn;have main:ACalls P f (t.args x) (t.ob x) (fun e o=>∃l',e= .ret (one1 l')∧n0f t.outs (oDec o t.obs) l' =some y):=by
  refine ACalls.of_AWF hf hb hN hrs (by rw [e0f];simp only [j2s];exact⟨hn.1.1.1.1,hn.1.1.1.2⟩) (c1a t x) (fun chain o hh=>by obtain⟨l,e,_⟩:=hh;cases e) ?_;have hgo:Goes N ⟨frOf (t.args x) 0,t.ob x⟩ (t.ins.enc x):=by
   intro F ρ0 a w hr;refine⟨F,ρ0,⟨hr.rw,fun i=> ?_,hr.ob,hr.sz,hr.df⟩,Fr.refl F ρ0 w⟩;have hi:=hr.fr i;simp only at hi;rw [h0y]at hi;split at hi
   ·rename_i h0
    rw [n0t]at hi;exact hi
   ·rename_i h0
    have:lkF (t.ins.enc x).fr i= .junk:=by
     rcases u0r (l:=(t.ins.enc x).fr) (i:=i)with e | e
     ·exact e
     ·exfalso
      simp only [Tm.enc,l2v]at e;rw [e0f]at h0;rcases e with e | e
      ·obtain⟨p,hp,hp2⟩:=k2s.1 e
       have h1:=k2f.1 hn.1.1.2 p hp;have h2:=a0j h1;have h3:p.1=i:=congrArg Prod.fst hp2;omega
      ·rcases e with e | e
       case inr=>
        have key: ∀(l:List (Nat×List FT)) {u:Type} (x:v0q l u),l.all (fun p=>Nat.blt (w0z p.1 []).1 t.nargs)=true→∀p∈mEnc l x,p.1<t.nargs:=by
         intro l
         induction l with
         | nil=>intro u x _ p hp;cases hp
         | cons q r ih=>
          intro u x hq p hp;simp only [List.all_cons,j2s]at hq;rcases k2b.1 hp with rfl | hp
          ·have h7:=a0j hq.1
           unfold w0z at h7⊢;cases hb:Nat.ble 1000000 q.1<;>(rw [hb]at h7;exact h7)
          ·exact ih x.2 hq.2 p hp
        have:=key _ _ hn.2 _ e;dsimp only at this;omega
       have key: ∀(l:List (Nat×Ev.Ty)) {u:Type} (x:x0g l u),l.all (fun p=>Nat.blt p.1 t.nargs)=true→∀p∈vEnc l x,p.1<t.nargs:=by
        intro l
        induction l with
        | nil=>intro u x _ p hp;cases hp
        | cons q r ih=>
         intro u x hq p hp;simp only [List.all_cons,j2s]at hq;rcases k2b.1 hp with rfl | hp
         ·exact a0j hq.1
         ·exact ih x.2 hq.2 p hp
       have:=key _ _ hn.1.2 _ e;dsimp only at this;omega
    rw [this];exact .junk _
  refine .goes hgo ((d0z hO hD hl hy).post fun e s0 hs=>⟨pre.app N s0,Goes.pre pre s0, ?_⟩);generalize pre.app N s0=s at hs⊢;have fin:finN P rs t s=some y→∃(ks:List Nat) (x0:AV),res1 P (ks.foldl ASt.freeze s) rs=some x0∧∃l',AEnd.ret x0= .ret (one1 l')∧n0f t.outs (oDec (ks.foldl ASt.freeze s).ob t.obs) l' =some y:=by
   intro hs;unfold finN at hs;split at hs
   ·rename_i l hl
    split at hs
    ·rename_i l' hl'
     cases hp:AV.plainL l' with
     | false=>rw [hp]at hs;cases hs
     | true=>
      rw [hp]at hs;exact⟨_,_,r1y hl' hp,l',rfl,hs⟩
    ·cases hs
   ·cases hs
  cases e with
  | ret=>exact fin hs
  | normal=>exact fin hs
  | _=>cases hs
 intro F ρ0 vs w hrw hob hra;refine(main F ρ0 vs w hrw hob hra).mono fun e w' ⟨F',ρ',rr,ob',⟨l',h1,h2⟩,hre,hrw',hrob,hfr⟩=> ?_;subst h1;have hdec:=fun ρ1=>k0c (w:=w') (F:=F') (ρ0:=ρ1) (tm:= #[]) h2;refine⟨F',fun j=>if j∈t.obs.map (·.1)then ρ' j else none, .ret (t.res y),t.ob2 y,⟨rfl,rfl⟩, ?_,q0y _ hrw',p1b (hdec ρ').1 hrob,hfr.trans hrw'.dis (f1k _)⟩
 cases e with
 | returned v=>
  have hv:RelAV w' F' ρ' #[] (one1 l') v:=hre;refine u1y (hdec ρ').2.1 (hdec _).2.2 (hv.mono (fun _ _=>rfl) (fun _ h=>h) fun j l hj=> ?_);split at hj
  ·exact hj
  ·cases hj
 | panicked c=>exact hre.elim
 | outgrown=>exact hre.elim
def e0y:Nat→Code→List (Nat×Code)
 | b, .loop x=> [(b,x)]
 | b, .seq x y=>e0y b x++e0y b y
 | b, .cond _ x y=>e0y b x++e0y b y
 | _, .block id x=>e0y id x
 | _,_=> []
def p1i(b:Nat)(c:Code)(j:Nat):Code:=match(e0y b c)[j]? with | some p=>p.2 | none=> .skip
def LOk(P:Program)(N:Nat)(L:LOrc ρ)(b:Nat)(x:Code):Prop:=∀st k r,L b st k=some r→AW P N (.loop x) st fun e s=>k e s=some r
def LOkL(P:Program)(N:Nat)(L:LOrc ρ):List (Nat×Code)→Prop
 | []=>True
 | p::r=>LOk P N L p.1 p.2∧LOkL P N L r
theorem LOkL.app{N:Nat}{L:LOrc ρ}: ∀{l m:List (Nat×Code)},LOkL P N L (l++m)→LOkL P N L l∧LOkL P N L m
 | [],m,h=>⟨trivial,h⟩
 | p::r,m,h=>⟨⟨h.1,(LOkL.app h.2).1⟩,(LOkL.app h.2).2⟩
theorem LoopsOk.of_list{N:Nat}{L:LOrc ρ}: ∀{c:Code} {b:Nat},LOkL P N L (e0y b c)→LoopsOk P N L b c
 | .loop x,b,h=>h.1
 | .seq x y,b,h=>⟨LoopsOk.of_list (LOkL.app h).1,LoopsOk.of_list (LOkL.app h).2⟩
 | .cond _ x y,b,h=>⟨LoopsOk.of_list (LOkL.app h).1,LoopsOk.of_list (LOkL.app h).2⟩
 | .block id x,b,h=>LoopsOk.of_list (c:=x) (b:=id) h
 | .skip,_,_=>trivial
 | .region ..,_,_=>trivial
 | .exit _,_,_=>trivial
 | .ret,_,_=>trivial
 | .rangeFunc ..,_,_=>trivial
 | .scope _,_,_=>trivial
 | .label _,_,_=>trivial
 | .goto _,_,_=>trivial
 | .refuse _,_,_=>trivial
theorem LoopsOk.of{N:Nat}{L:LOrc ρ}{c:Code}{b:Nat}{l:List (Nat×Code)}(h:e0y b c=l)(k:LOkL P N L l):LoopsOk P N L b c:= .of_list (h▸k)
def b2v:LOrc ρ:=fun _ _ _=>none
def h0u(b:Nat)(f:ASt→(Exit→ASt→Option ρ)→Option ρ)(L:LOrc ρ):LOrc ρ:=fun c st k=>bif Nat.beq c b then f st k else L c st k
theorem LOk.head{N:Nat}{L:LOrc ρ}{b:Nat}{x:Code}{f:ASt→(Exit→ASt→Option ρ)→Option ρ}(h: ∀st k r,f st k=some r→AW P N (.loop x) st fun e s=>k e s=some r):LOk P N (h0u b f L) b x:=fun st k r hk=>by
 unfold h0u at hk;rw [m2n]at hk;exact h st k r hk
theorem LOk.tail{N:Nat}{L:LOrc ρ}{b b' :Nat}{x:Code}{f:ASt→(Exit→ASt→Option ρ)→Option ρ}(hb:Nat.beq b b' =false)(h:LOk P N L b x):LOk P N (h0u b' f L) b x:=fun st k r hk=>by
 unfold h0u at hk;rw [hb]at hk;exact h st k r hk
def b1k:DOrc ρ:=fun _ _ _=>none
theorem r0y{N:Nat}:(b1k:DOrc ρ).ok P N:=fun _ _ _ _ _ h=>by cases h
def g0e(fn:Func):Code:=match fn.body with | some c=>c | none=> .skip
end
end Esp

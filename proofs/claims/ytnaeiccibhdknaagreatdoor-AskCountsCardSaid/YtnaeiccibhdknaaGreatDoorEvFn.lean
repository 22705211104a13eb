import Derived.Test.YtnaeiccibhdknaaGreatDoorEvCode
set_option linter.unusedSimpArgs false
set_option linter.unusedVariables false
noncomputable section
namespace Esp
open Go
variable [Tabs]
section
variable{ρ:Type}{P:Program}
def r1s(t:FnT)(nf:t.ins.den->Option t.den)(a:List AV)(o:List (Nat×AObj))(k:AV->List (Nat×AObj)->Option ρ):Option ρ:=
 bif Nat.beq a.length t.nargs then(t.ins.dec ⟨frOf a 0,o⟩).bind λx=>(nf x).bind λy=>r0z t.outs y λl u=>k (one1 l) (oEnc t.obs u)else none
def q1e:Orc ρ:=λ_ _ _ _=>none
def fits(t:FnT)(a:List AV)(o:List (Nat×AObj)):Bool:=Nat.beq a.length t.nargs&&rDec (frOf a 0) t.ins.rs
def g0j(f:FuncId)(t:FnT)(nf:t.ins.den->Option t.den)(O:Orc ρ):Orc ρ:=λg a o k=>bif Nat.beq g f&&fits t a o then r1s t nf a o k else O g a o k
theorem b1v:(q1e:Orc ρ).ok P:=λ_ _ _ _ _ h=>by cases h
def b0r(P:Program)(f:FuncId)(t:FnT)(nf:t.ins.den->Option t.den):Prop:=∀x y,nf x=some y->XCall P f (t.args x) (t.res y)/\(t.res y).plain=true/\t.ob2 y=[]
omit [Tabs]in
theorem k0c(t:FnT)(x:t.ins.den):(t.args x).length=t.nargs:=by simp[FnT.args]
omit [Tabs]in
theorem w0f(t:FnT)(x:t.ins.den)(i:Nat)(h:i<(t.args x).length):(t.args x)[i]=lkF (t.ins.enc x).fr i:=by simp[FnT.args]
omit [Tabs]in
theorem n0f{w:World}{F:Nat->Prop}{ρ' :Env}{tm:Array Value}{t:Tm}{s:ASt}{x:t.den}(h:t.dec s=some x)(i:Nat){v:Value}(hr:RelAV w F ρ' tm (lkF s.fr i) v):RelAV w F ρ' tm (lkF (t.enc x).fr i) v:=by
 unfold Tm.dec at h;cases hb:rDec s.fr t.rs with
 |false=>rw[hb]at h;cases h
 |true=>
  rw[hb]at h;rcases y0g (l:=(t.enc x).fr) (i:=i)with e|e
  ·rw[e];exact .junk _
  ·simp only[Tm.enc,s2j]at e⊢
   rcases e with e|e
   ·exact d1t hb _ e _ hr
   ·rcases e with e|e
    ·exact(k0q h).2 _ e _ hr
    ·exact(s0j (k0q (w:=w) (F:=F) (ρ:=ρ') (tm:=tm) h).1).2 _ e _ hr
omit [Tabs]in
theorem d2n{w:World}{F:Nat->Prop}{ρ0:Env}{os:List (Nat×OT)}{ob:List (Nat×AObj)}{y:b1d os}(h:oDec ob os=some y)(aH:∀k,RelOb w F ρ0 k (lkO ob k)):
  ∀k,RelOb w F (λj=>if j∈os.map (·.1)then ρ0 j else none) k (lkO (oEnc os y) k):=by
 have hs:∀j l,(if j∈os.map (·.1)then ρ0 j else none)=some l->ρ0 j=some l:=by
  intro j l hj;split at hj
  ·exact hj
  ·cases hj
 intro k;rcases u1u (l:=oEnc os y) (i:=k)with⟨e,hn⟩| e
 ·rw[e]
  refine .gone (if_neg λhk=>?_);have:k∈(oEnc os y).map (·.1):=by rw[j0i];exact hk
  obtain⟨p,hp,mX⟩:=s2c.1 this;exact hn p hp mX
 ·have hk:k∈os.map (·.1):=by
   rw [<-j0i os y];exact s2c.2 ⟨_,e,rfl⟩
  exact h1u h _ e ((aH k).cut (if_pos hk) hs)
theorem f1h{f:FuncId}{t:FnT}{nf:t.ins.den->Option t.den}(hc:Contract P f t nf){a:List AV}{o:List (Nat×AObj)}{k:AV->List (Nat×AObj)->Option ρ}{r:ρ}(h:r1s t nf a o k=some r):
  ∃x o2,ACalls P f a o (EX x o2)/\k x o2=some r:=by
 unfold r1s at h;cases hb:Nat.beq a.length t.nargs with
 |false=>rw[hb]at h;cases h
 |true=>
  rw[hb]at h;have hlen:=r2h hb;simp only[u2j,r2m]at h;obtain⟨x,h1,y,h2,h3⟩:=h;rw[f0m]at h3;refine⟨t.res y,t.ob2 y,λF ρ0 vs w hrw aH hra=>?_,h3⟩;have pc:oDec o t.ins.os=some (m1y t.ins.ms (b1x t.ins.vs x)):=by
   have h4:=h1;unfold Tm.dec at h4;cases hb:rDec (frOf a 0) t.ins.rs with
   |false=>rw[hb]at h4;cases h4
   |true=>rw[hb]at h4;exact(s0j (w:=w) (F:=F) (ρ:=ρ0) (tm:=#[]) (k0q (w:=w) (F:=F) (ρ:=ρ0) (tm:=#[]) h4).1).1
  refine(hc x y h2 F _ vs w (l1d (t.ins.os.map (·.1)) hrw) (d2n pc aH) ⟨by rw[k0c];exact hra.sz.trans hlen,λi hi=>?_⟩).mono λe w' ⟨F',ρ',rr,bG,hq,hre,hrw',bR,hfr⟩=>
   ⟨F',ρ',rr,bG,hq,hre,hrw',bR,(x1o (t.ins.os.map (·.1))).trans (l1d _ hrw).dis hfr⟩
  rw[w0f];have aK:i<a.length:=by rw[k0c]at hi;omega
  have e1:lkF (frOf a 0) i=a[i]:=by rw[n0e,dif_pos ⟨s2i _,by omega⟩];simp
  refine n0f h1 i (v:=vs.getD i undef) ?_;rw[e1];refine(hra.rel i aK).mono (λ_ _=>rfl) (λ_ h=>h) λj l hj=>?_;split at hj
  ·exact hj
  ·cases hj
theorem v1v{f:FuncId}{t:FnT}{nf:t.ins.den->Option t.den}(hc:b0r P f t nf){a:List AV}{o:List (Nat×AObj)}{k:AV->List (Nat×AObj)->Option ρ}{r:ρ}(h:r1s t nf a o k=some r):
  ∃x,XCall P f a x/\x.plain=true/\k x []=some r:=by
 unfold r1s at h;cases hb:Nat.beq a.length t.nargs with
 |false=>rw[hb]at h;cases h
 |true=>
  rw[hb]at h;have hlen:=r2h hb;simp only[u2j,r2m]at h;obtain⟨x,h1,y,h2,h3⟩:=h;obtain⟨c1,c2,c3⟩:=hc x y h2;rw[f0m]at h3;have h3:k (t.res y) (t.ob2 y)=some r:=h3;rw[c3]at h3;refine⟨_,λF ρ0 vs w hrw hra=>?_,c2,h3⟩;refine c1 F ρ0 vs w hrw ⟨by rw[k0c];exact hra.sz.trans hlen,λi hi=>?_⟩;rw[w0f];have aK:i<a.length:=by rw[k0c]at hi;omega
  have e1:lkF (frOf a 0) i=a[i]:=by rw[n0e,dif_pos ⟨s2i _,by omega⟩];simp
  refine n0f h1 i (v:=vs.getD i undef) ?_;rw[e1];exact hra.rel i aK
theorem q1j{f:FuncId}{t:FnT}{nf:t.ins.den->Option t.den}{O:Orc ρ}(he:a0m P f=false)(hc:b0r P f t nf)(hO:O.ok P):(g0j f t nf O).ok P:=by
 intro g a o k r h;unfold g0j at h;cases hb:Nat.beq g f&&fits t a o with
 |true=>
  rw[hb]at h;rw[r2i]at hb;rw[r2h hb.1];exact .inr (.inl ⟨he,v1v hc h⟩)
 |false=>rw[hb]at h;exact hO _ _ _ _ _ h
theorem g0y{f:FuncId}{t:FnT}{nf:t.ins.den->Option t.den}{O:Orc ρ}(he:a0m P f=true)(hc:Contract P f t nf)(hO:O.ok P):(g0j f t nf O).ok P:=by
 intro g a o k r h;unfold g0j at h;cases hb:Nat.beq g f&&fits t a o with
 |true=>
  rw[hb]at h;rw[r2i]at hb;rw[r2h hb.1];exact .inl ⟨he,f1h hc h⟩
 |false=>rw[hb]at h;exact hO _ _ _ _ _ h
def fzFT:List FT->List AC->List Nat
 |.d t::r,cs=>(cs.take t.sz).flatMap AC.owns++fzFT r (cs.drop t.sz)
 |.ref _::r,cs=>fzFT r (cs.drop 1)
 |.rp _::r,cs=>fzFT r (cs.drop 1)
 |[],_=>[]
def r1a:List RI->List AV->List Nat
 |.v _::r,x::xs=>x.owns++r1a r xs
 |.mix l::r,.agg cs::xs=>fzFT l cs++r1a r xs
 |_::r,_::xs=>r1a r xs
 |_,_=>[]
def fzOb(ob:List (Nat×AObj)):List (Nat×OT)->List Nat
 |[]=>[]
 |(k,.box l _)::r=>(match lkO ob k with|.box cs _=>fzFT l cs|_=>[])++fzOb ob r
 |_::r=>fzOb ob r
def finN(P:Program)(rs:List ResultVar)(t:FnT)(s:ASt):Option t.den:=
 match resV P s rs with
 |some l=>match resV P ((r1a t.outs l++fzOb s.ob t.obs).foldl ASt.freeze s) rs with
  |some l' =>bif AV.plainL l' then p0v t.outs (oDec ((r1a t.outs l++fzOb s.ob t.obs).foldl ASt.freeze s).ob t.obs) l' else none
  |none=>none
 |none=>none
def finK(P:Program)(rs:List ResultVar)(t:FnT)(e:Exit)(s:ASt):Option t.den:=
 match e with
 |.ret=>finN P rs t s
 |.normal=>finN P rs t s
 |_=>none
def evF(P:Program)(N:Nat)(T:List (TypeId×Ev.Ty))(M:List (Nat×ArgM))(t:FnT)(O:Orc t.den)(L:LOrc t.den)(D:DOrc t.den)(pre:Pre)(rs:List ResultVar)(c:Code)(x:t.ins.den):Option t.den:=
 evC P N T M O L D 1000 c (t.ins.enc x) λe s=>finK P rs t e (pre.app N s)
omit [Tabs]in
theorem y1u{t:Ev.Ty}{x:AV}{y:Option t.den}(h:f2o t x=some y){w:World}{F:Nat->Prop}{ρ0:Env}{tm:Array Value}{v:Value}(hr:RelAV w F ρ0 tm x v):RelAV w F ρ0 tm (m2z t y) v:=by
 unfold f2o at h;split at h
 ·simp only[t2f]at h
  obtain⟨a,h1,rfl⟩:=h;exact(s1j (z0i h1)).rel hr
 ·cases h
  exact hr
 ·cases h
omit [Tabs]in
theorem m0r{w:World}{F:Nat->Prop}{ρ0:Env}{tm:Array Value}:∀{l:List RI} {u:Type} {z:Option u} {xs:List AV} {y:q0t l u},p0v l z xs=some y->
  z=some (r0o l y)/\xs.length=(i0o l y).length/\∀i (h:i<xs.length) (h' :i<(i0o l y).length) v,RelAV w F ρ0 tm xs[i] v->RelAV w F ρ0 tm (i0o l y)[i] v
 |[],u,z,[],y,h=>⟨h,rfl,λi hi=>by simp at hi⟩
 |[],u,z,_::_,y,h=>by cases h
 |.v t::r,u,z,x::xs,y,h=>by
  simp only[p0v,r2m,r2l]at h;obtain⟨a,h1,b,h2,rfl⟩:=h;obtain⟨h3,h4,h5⟩:=m0r (w:=w) (F:=F) (ρ0:=ρ0) (tm:=tm) h2;refine⟨h3,by simp[i0o,h4],λi hi aK v hv=>?_⟩;cases i with
  |zero=>exact e0w h1 hv
  |succ i=>exact h5 i (by simpa using hi) (by simpa[i0o]using aK) v hv
 |.v t::r,u,z,[],y,h=>by cases h
 |.ref c::r,u,z,.cell a::xs,y,h=>by
  simp only[p0v]at h;cases hb:c.is a with
  |false=>rw[hb]at h;cases h
  |true=>
   rw[hb]at h;obtain⟨h3,h4,h5⟩:=m0r (w:=w) (F:=F) (ρ0:=ρ0) (tm:=tm) h;refine⟨h3,by simp[i0o,h4],λi hi aK v hv=>?_⟩;cases i with
   |zero=>rw[Ref.is_eq hb]at hv;exact hv
   |succ i=>exact h5 i (by simpa using hi) (by simpa[i0o]using aK) v hv
 |.ref c::r,u,z,[],y,h=>by cases h
 |.opt t::r,u,z,x::xs,y,h=>by
  simp only[p0v,r2m,r2l]at h;obtain⟨a,h1,b,h2,rfl⟩:=h;obtain⟨h3,h4,h5⟩:=m0r (w:=w) (F:=F) (ρ0:=ρ0) (tm:=tm) h2;refine⟨h3,by simp[i0o,h4],λi hi aK v hv=>?_⟩;cases i with
  |zero=>exact y1u h1 hv
  |succ i=>exact h5 i (by simpa using hi) (by simpa[i0o]using aK) v hv
 |.opt t::r,u,z,[],y,h=>by cases h
 |.mix l::r,u,z,.agg cs::xs,y,h=>by
  simp only[p0v,r2m,r2l]at h;obtain⟨a,h1,b,h2,rfl⟩:=h;obtain⟨h3,h4,h5⟩:=m0r (w:=w) (F:=F) (ρ0:=ρ0) (tm:=tm) h2;refine⟨h3,by simp[i0o,h4],λi hi aK v hv=>?_⟩;cases i with
  |zero=>
   have hl:=FT.dec_le (w:=w) (F:=F) (ρ:=ρ0) h1;have cM:RelAV w F ρ0 tm (.agg cs) v:=hv;cases cM with
   |agg cs arr hs hh=>exact .agg _ arr (hs.trans hl.length) λi hi=>hl.get i (by rw[hl.length];exact hi) hi _ (hh i (by rw[hl.length];exact hi))
  |succ i=>exact h5 i (by simpa using hi) (by simpa[i0o]using aK) v hv
 |.mix l::r,u,z,[],y,h=>by cases h
 |.mix l::r,u,z,.cell _::xs,y,h=>by cases h
 |.mix l::r,u,z,.aggD _::xs,y,h=>by cases h
 |.mix l::r,u,z,.tup _::xs,y,h=>by cases h
 |.mix l::r,u,z,.whn _ _ _::xs,y,h=>by cases h
 |.mix l::r,u,z,.junk::xs,y,h=>by cases h
 |.ref c::r,u,z,.agg _::xs,y,h=>by cases h
 |.ref c::r,u,z,.aggD _::xs,y,h=>by cases h
 |.ref c::r,u,z,.tup _::xs,y,h=>by cases h
 |.ref c::r,u,z,.whn _ _ _::xs,y,h=>by cases h
 |.ref c::r,u,z,.junk::xs,y,h=>by cases h
omit [Tabs]in
theorem z1n{w:World}{F:Nat->Prop}{ρ0:Env}{tm:Array Value}{l m:List AV}(hl:l.length=m.length)(h:∀i (h:i<l.length) (h' :i<m.length) v,RelAV w F ρ0 tm l[i] v->RelAV w F ρ0 tm m[i] v){v:Value}(hr:RelAV w F ρ0 tm (one1 l) v):
  RelAV w F ρ0 tm (one1 m) v:=by
 have tupc:∀{l m:List AV},l.length=m.length->(∀i (h:i<l.length) (h' :i<m.length) v,RelAV w F ρ0 tm l[i] v->RelAV w F ρ0 tm m[i] v)->RelAV w F ρ0 tm (.tup l) v->RelAV w F ρ0 tm (.tup m) v:=by
  intro l m hl h hr;cases hr with
  |tup vs arr hs hh=>exact .tup _ arr (hs.trans hl) λi hi=>h i (by omega) hi _ (hh i (by omega))
 match l,m,hl with
 |[],[],_=>exact hr
 |[x],[y],_=>exact h 0 (by simp) (by simp) v hr
 |x::y::r,x' ::y' ::r',hl=>exact tupc hl h hr
omit [Tabs]in
theorem a2l{st:ASt}{rs:List ResultVar}{l:List AV}(h:resV P st rs=some l)(hp:AV.plainL l=true):res1 P st rs=some (one1 l):=by
 unfold res1;rw[h]
 match l with
 |[]=>rfl
 |[x]=>
  simp only[AV.plainL,Bool.and_true]at hp;simp[one1,hp]
 |x::y::r=>simp[one1,hp]
omit [Tabs]in
theorem g1f(t:FnT)(x:t.ins.den):AV.plainL (t.args x)=true:=by
 have h1:∀(l:List AV),(∀y∈l,AV.plain y=true)->AV.plainL l=true:=by
  intro l
  induction l with
  |nil=>intro _;rfl
  |cons y r ih=>intro h;simp only[AV.plainL,r2i];exact⟨h y (by simp),ih λz hz=>h z (s2x _ hz)⟩
 have h2:∀(l:List (Nat×Ev.Ty)) {u:Type} (x:a1m l u),∀p∈vEnc l x,p.2.plain=true:=by
  intro l
  induction l with
  |nil=>intro u x p hp;cases hp
  |cons q r ih=>
   intro u x p hp;rcases r2s.1 hp with rfl|hp
   ·exact j0y _ _
   ·exact ih x.2 p hp
 have h3:∀(l:List (Nat×List FT)) {u:Type} (x:b1y l u),∀p∈mEnc l x,p.2.plain=true:=by
  intro l
  induction l with
  |nil=>intro u x p hp;cases hp
  |cons q r ih=>
   intro u x p hp;rcases r2s.1 hp with rfl|hp
   ·unfold z0m
    cases Nat.ble 1000000 q.1<;>rfl
   ·exact ih x.2 p hp
 refine h1 _ λy hy=>?_;simp only[FnT.args,s2c,u2a]at hy;obtain⟨i,_,rfl⟩:=hy;rcases y0g (l:=(t.ins.enc x).fr) (i:=i)with e|e
 ·rw[e];rfl
 ·simp only[Tm.enc,s2j]at e⊢
  rcases e with e|e
  ·obtain⟨p,_,hp⟩:=s2c.1 e
   have h9:p.2.av=lkF (rEnc t.ins.rs++(vEnc t.ins.vs x++mEnc t.ins.ms (b1x t.ins.vs x))) i:=congrArg Prod.snd hp;rw [<-h9];cases p.2<;>rfl
  ·rcases e with e|e
   ·exact h2 _ _ _ e
   ·exact h3 _ _ _ e
theorem Contract.of_ev [QuietD P] {f:FuncId}{fn:Func}{c:Code}{N:Nat}{rs:List ResultVar}{T:List (TypeId×Ev.Ty)}{M:List (Nat×ArgM)} [DfOk M] {t:FnT}{O:Orc t.den}{L:LOrc t.den}{D:DOrc t.den}{pre:Pre}{nf:t.ins.den->Option t.den}
  (hf:P.funcs[f]?=some fn)(hb:fn.body=some c)(hN:fn.ntmps=N)(gd:fn.results.toList=rs)(hn:(Nat.ble t.nargs N&&Nat.ble N 1000000&&t.ins.rs.all (λp=>Nat.blt p.1 t.nargs)&&t.ins.vs.all (λp=>Nat.blt p.1 t.nargs)&&t.ins.ms.all (λp=>Nat.blt (z0m p.1 []).1 t.nargs))=true)
  (hO:O.ok P)(hD:D.ok P N)(hl:LoopsOk P N L 1000 c)(h:∀x,evF P N T M t O L D pre rs c x=nf x):Contract P f t nf:=by
 intro x y hy;rw [<-h]at hy;simp only[r2i]at hn;have main:ACalls P f (t.args x) (t.ob x) (λe o=>∃l',e=.ret (one1 l')/\p0v t.outs (oDec o t.obs) l' =some y):=by
  refine ACalls.of_AWF hf hb hN gd (by rw[k0c];simp only[r2i];exact⟨hn.1.1.1.1,hn.1.1.1.2⟩) (g1f t x) (λchain o hh=>by obtain⟨l,e,_⟩:=hh;cases e) ?_;have pU:Goes N ⟨frOf (t.args x) 0,t.ob x⟩ (t.ins.enc x):=by
   intro F ρ0 a w hr;refine⟨F,ρ0,⟨hr.rw,λi=>?_,hr.ob,hr.sz,hr.df⟩,Fr.refl F ρ0 w⟩;have hi:=hr.fr i;simp only at hi;rw[n0e]at hi;split at hi
   ·rename_i h0
    rw[w0f]at hi;exact hi
   ·rename_i h0
    have:lkF (t.ins.enc x).fr i=.junk:=by
     rcases y0g (l:=(t.ins.enc x).fr) (i:=i)with e|e
     ·exact e
     ·exfalso
      simp only[Tm.enc,s2j]at e;rw[k0c]at h0;rcases e with e|e
      ·obtain⟨p,hp,oI⟩:=s2c.1 e
       have h1:=s2b.1 hn.1.1.2 p hp;have h2:=a0e h1;have h3:p.1=i:=congrArg Prod.fst oI;omega
      ·rcases e with e|e
       case inr=>
        have key:∀(l:List (Nat×List FT)) {u:Type} (x:b1y l u),l.all (λp=>Nat.blt (z0m p.1 []).1 t.nargs)=true->∀p∈mEnc l x,p.1<t.nargs:=by
         intro l
         induction l with
         |nil=>intro u x _ p hp;cases hp
         |cons q r ih=>
          intro u x hq p hp;simp only[List.all_cons,r2i]at hq;rcases r2s.1 hp with rfl|hp
          ·have h7:=a0e hq.1
           unfold z0m at h7⊢;cases hb:Nat.ble 1000000 q.1<;>(rw[hb]at h7;exact h7)
          ·exact ih x.2 hq.2 p hp
        have:=key _ _ hn.2 _ e;dsimp only at this;omega
       have key:∀(l:List (Nat×Ev.Ty)) {u:Type} (x:a1m l u),l.all (λp=>Nat.blt p.1 t.nargs)=true->∀p∈vEnc l x,p.1<t.nargs:=by
        intro l
        induction l with
        |nil=>intro u x _ p hp;cases hp
        |cons q r ih=>
         intro u x hq p hp;simp only[List.all_cons,r2i]at hq;rcases r2s.1 hp with rfl|hp
         ·exact a0e hq.1
         ·exact ih x.2 hq.2 p hp
       have:=key _ _ hn.1.2 _ e;dsimp only at this;omega
    rw[this];exact .junk _
  refine .goes pU ((f0s hO hD hl hy).post λe s0 hs=>⟨pre.app N s0,Goes.pre pre s0,?_⟩);generalize pre.app N s0=s at hs⊢;have fin:finN P rs t s=some y->∃(ks:List Nat) (x0:AV),res1 P (ks.foldl ASt.freeze s) rs=some x0/\∃l',AEnd.ret x0=.ret (one1 l')/\p0v t.outs (oDec (ks.foldl ASt.freeze s).ob t.obs) l' =some y:=by
   intro hs;unfold finN at hs;split at hs
   ·rename_i l hl
    split at hs
    ·rename_i l' bT
     cases hp:AV.plainL l' with
     |false=>rw[hp]at hs;cases hs
     |true=>
      rw[hp]at hs;exact⟨_,_,a2l bT hp,l',rfl,hs⟩
    ·cases hs
   ·cases hs
  cases e with
  |ret=>exact fin hs
  |normal=>exact fin hs
  |_=>cases hs
 intro F ρ0 vs w hrw aH hra;refine(main F ρ0 vs w hrw aH hra).mono λe w' ⟨F',ρ',rr,bG,⟨l',h1,h2⟩,hre,hrw',bR,hfr⟩=>?_;subst h1;have iX:=λρ1=>m0r (w:=w') (F:=F') (ρ0:=ρ1) (tm:=#[]) h2;refine⟨F',λj=>if j∈t.obs.map (·.1)then ρ' j else none,.ret (t.res y),t.ob2 y,⟨rfl,rfl⟩,?_,l1d _ hrw',d2n (iX ρ').1 bR,hfr.trans hrw'.dis (x1o _)⟩
 cases e with
 |returned v=>
  have hv:RelAV w' F' ρ' #[] (one1 l') v:=hre;refine z1n (iX ρ').2.1 (iX _).2.2 (hv.mono (λ_ _=>rfl) (λ_ h=>h) λj l hj=>?_);split at hj
  ·exact hj
  ·cases hj
 |panicked c=>exact hre.elim
 |outgrown=>exact hre.elim
def j0e:Nat->Code->List (Nat×Code)
 |b,.loop x=>[(b,x)]
 |b,.seq x y=>j0e b x++j0e b y
 |b,.cond _ x y=>j0e b x++j0e b y
 |_,.block id x=>j0e id x
 |_,_=>[]
def q1v(b:Nat)(c:Code)(j:Nat):Code:=match(j0e b c)[j]? with|some p=>p.2|none=>.skip
def LOk(P:Program)(N:Nat)(L:LOrc ρ)(b:Nat)(x:Code):Prop:=∀st k r,L b st k=some r->AW P N (.loop x) st λe s=>k e s=some r
def LOkL(P:Program)(N:Nat)(L:LOrc ρ):List (Nat×Code)->Prop
 |[]=>True
 |p::r=>LOk P N L p.1 p.2/\LOkL P N L r
theorem LOkL.app {N:Nat}{L:LOrc ρ}:∀{l m:List (Nat×Code)},LOkL P N L (l++m)->LOkL P N L l/\LOkL P N L m
 |[],m,h=>⟨trivial,h⟩
 |p::r,m,h=>⟨⟨h.1,(LOkL.app h.2).1⟩,(LOkL.app h.2).2⟩
theorem LoopsOk.of_list {N:Nat}{L:LOrc ρ}:∀{c:Code} {b:Nat},LOkL P N L (j0e b c)->LoopsOk P N L b c
 |.loop x,b,h=>h.1
 |.seq x y,b,h=>⟨LoopsOk.of_list (LOkL.app h).1,LoopsOk.of_list (LOkL.app h).2⟩
 |.cond _ x y,b,h=>⟨LoopsOk.of_list (LOkL.app h).1,LoopsOk.of_list (LOkL.app h).2⟩
 |.block id x,b,h=>LoopsOk.of_list (c:=x) (b:=id) h
 |.skip,_,_=>trivial
 |.region ..,_,_=>trivial
 |.exit _,_,_=>trivial
 |.ret,_,_=>trivial
 |.rangeFunc ..,_,_=>trivial
 |.scope _,_,_=>trivial
 |.label _,_,_=>trivial
 |.goto _,_,_=>trivial
 |.refuse _,_,_=>trivial
theorem LoopsOk.of {N:Nat}{L:LOrc ρ}{c:Code}{b:Nat}{l:List (Nat×Code)}(h:j0e b c=l)(k:LOkL P N L l):LoopsOk P N L b c:=.of_list (h▸k)
def p1u:LOrc ρ:=λ_ _ _=>none
def k0e(b:Nat)(f:ASt->(Exit->ASt->Option ρ)->Option ρ)(L:LOrc ρ):LOrc ρ:=λc st k=>bif Nat.beq c b then f st k else L c st k
theorem LOk.head {N:Nat}{L:LOrc ρ}{b:Nat}{x:Code}{f:ASt->(Exit->ASt->Option ρ)->Option ρ}(h:∀st k r,f st k=some r->AW P N (.loop x) st λe s=>k e s=some r):LOk P N (k0e b f L) b x:=λst k r hk=>by
 unfold k0e at hk;rw[u2f]at hk;exact h st k r hk
theorem LOk.tail {N:Nat}{L:LOrc ρ}{b b' :Nat}{x:Code}{f:ASt->(Exit->ASt->Option ρ)->Option ρ}(hb:Nat.beq b b' =false)(h:LOk P N L b x):LOk P N (k0e b' f L) b x:=λst k r hk=>by
 unfold k0e at hk;rw[hb]at hk;exact h st k r hk
def x0y:DOrc ρ:=λ_ _ _=>none
theorem n0m{N:Nat}:(x0y:DOrc ρ).ok P N:=λ_ _ _ _ _ h=>by cases h
def h0c(fn:Func):Code:=match fn.body with|some c=>c|none=>.skip
end
end Esp

import Derived.Test.YtnaeiccibhdknaaGreatDoorEvCode
set_option linter.unusedSimpArgs false
set_option linter.unusedVariables false
noncomputable section
namespace Esp
open Go
variable [Tabs]
section
variable{ρ:Type}{P:Program}
def v1r(t:FnT)(nf:t.ins.den->Option t.den)(a:List AV)(o:List (Nat×AObj))(k:AV->List (Nat×AObj)->Option ρ):Option ρ:=
 bif Nat.beq a.length t.nargs then(t.ins.dec ⟨frOf a 0,o⟩).bind λx=>(nf x).bind λy=>s0t t.outs y λl u=>k (one1 l) (oEnc t.obs u)else none
def r1e:Orc ρ:=λ_ _ _ _=>none
def fits(t:FnT)(a:List AV)(o:List (Nat×AObj)):Bool:=Nat.beq a.length t.nargs&&rDec (frOf a 0) t.ins.rs
def g0p(f:FuncId)(t:FnT)(nf:t.ins.den->Option t.den)(O:Orc ρ):Orc ρ:=λg a o k=>bif Nat.beq g f&&fits t a o then v1r t nf a o k else O g a o k
theorem a1z:(r1e:Orc ρ).ok P:=λ_ _ _ _ _ h=>by cases h
def b0s(P:Program)(f:FuncId)(t:FnT)(nf:t.ins.den->Option t.den):Prop:=∀x y,nf x=some y->XCall P f (t.args x) (t.res y)/\(t.res y).plain=true/\t.ob2 y=[]
omit [Tabs]in
theorem k0b(t:FnT)(x:t.ins.den):(t.args x).length=t.nargs:=by simp[FnT.args]
omit [Tabs]in
theorem y0f(t:FnT)(x:t.ins.den)(i:Nat)(h:i<(t.args x).length):(t.args x)[i]=lkF (t.ins.enc x).fr i:=by simp[FnT.args]
omit [Tabs]in
theorem n0b{w:World}{F:Nat->Prop}{ρ' :Env}{tm:Array Value}{t:Tm}{s:ASt}{x:t.den}(h:t.dec s=some x)(i:Nat){v:Value}(hr:RelAV w F ρ' tm (lkF s.fr i) v):RelAV w F ρ' tm (lkF (t.enc x).fr i) v:=by
 unfold Tm.dec at h;cases hb:rDec s.fr t.rs with
 |false=>rw[hb]at h;cases h
 |true=>
  rw[hb]at h;rcases w0z (l:=(t.enc x).fr) (i:=i)with e|e
  ·rw[e];exact .junk _
  ·simp only[Tm.enc,r2x]at e⊢
   rcases e with e|e
   ·exact h1u hb _ e _ hr
   ·rcases e with e|e
    ·exact(l0i h).2 _ e _ hr
    ·exact(s0c (l0i (w:=w) (F:=F) (ρ:=ρ') (tm:=tm) h).1).2 _ e _ hr
omit [Tabs]in
theorem e2h{w:World}{F:Nat->Prop}{ρ0:Env}{os:List (Nat×OT)}{ob:List (Nat×AObj)}{y:z0h os}(h:oDec ob os=some y)(aH:∀k,RelOb w F ρ0 k (lkO ob k)):
  ∀k,RelOb w F (λj=>if j∈os.map (·.1)then ρ0 j else none) k (lkO (oEnc os y) k):=by
 have hs:∀j l,(if j∈os.map (·.1)then ρ0 j else none)=some l->ρ0 j=some l:=by
  intro j l hj;split at hj
  ·exact hj
  ·cases hj
 intro k;rcases s1p (l:=oEnc os y) (i:=k)with⟨e,hn⟩| e
 ·rw[e]
  refine .gone (if_neg λhk=>?_);have:k∈(oEnc os y).map (·.1):=by rw[j0f];exact hk
  obtain⟨p,hp,nt⟩:=r2s.1 this;exact hn p hp nt
 ·have hk:k∈os.map (·.1):=by
   rw [<-j0f os y];exact r2s.2 ⟨_,e,rfl⟩
  exact d1m h _ e ((aH k).cut (if_pos hk) hs)
theorem e1t{f:FuncId}{t:FnT}{nf:t.ins.den->Option t.den}(hc:Contract P f t nf){a:List AV}{o:List (Nat×AObj)}{k:AV->List (Nat×AObj)->Option ρ}{r:ρ}(h:v1r t nf a o k=some r):
  ∃x o2,ACalls P f a o (EX x o2)/\k x o2=some r:=by
 unfold v1r at h;cases hb:Nat.beq a.length t.nargs with
 |false=>rw[hb]at h;cases h
 |true=>
  rw[hb]at h;have hlen:=q2v hb;simp only[u2a,r2b]at h;obtain⟨x,h1,y,h2,h3⟩:=h;rw[f0r]at h3;refine⟨t.res y,t.ob2 y,λF ρ0 vs w hrw aH hra=>?_,h3⟩;have oT:oDec o t.ins.os=some (l1t t.ins.ms (a1y t.ins.vs x)):=by
   have h4:=h1;unfold Tm.dec at h4;cases hb:rDec (frOf a 0) t.ins.rs with
   |false=>rw[hb]at h4;cases h4
   |true=>rw[hb]at h4;exact(s0c (w:=w) (F:=F) (ρ:=ρ0) (tm:=#[]) (l0i (w:=w) (F:=F) (ρ:=ρ0) (tm:=#[]) h4).1).1
  refine(hc x y h2 F _ vs w (l1g (t.ins.os.map (·.1)) hrw) (e2h oT aH) ⟨by rw[k0b];exact hra.sz.trans hlen,λi hi=>?_⟩).mono λe w' ⟨F',ρ',rr,bH,hq,hre,hrw',bQ,hfr⟩=>
   ⟨F',ρ',rr,bH,hq,hre,hrw',bQ,(w1g (t.ins.os.map (·.1))).trans (l1g _ hrw).dis hfr⟩
  rw[y0f];have aK:i<a.length:=by rw[k0b]at hi;omega
  have e1:lkF (frOf a 0) i=a[i]:=by rw[m0m,dif_pos ⟨r2y _,by omega⟩];simp
  refine n0b h1 i (v:=vs.getD i undef) ?_;rw[e1];refine(hra.rel i aK).mono (λ_ _=>rfl) (λ_ h=>h) λj l hj=>?_;split at hj
  ·exact hj
  ·cases hj
theorem u1z{f:FuncId}{t:FnT}{nf:t.ins.den->Option t.den}(hc:b0s P f t nf){a:List AV}{o:List (Nat×AObj)}{k:AV->List (Nat×AObj)->Option ρ}{r:ρ}(h:v1r t nf a o k=some r):
  ∃x,XCall P f a x/\x.plain=true/\k x []=some r:=by
 unfold v1r at h;cases hb:Nat.beq a.length t.nargs with
 |false=>rw[hb]at h;cases h
 |true=>
  rw[hb]at h;have hlen:=q2v hb;simp only[u2a,r2b]at h;obtain⟨x,h1,y,h2,h3⟩:=h;obtain⟨c1,c2,c3⟩:=hc x y h2;rw[f0r]at h3;have h3:k (t.res y) (t.ob2 y)=some r:=h3;rw[c3]at h3;refine⟨_,λF ρ0 vs w hrw hra=>?_,c2,h3⟩;refine c1 F ρ0 vs w hrw ⟨by rw[k0b];exact hra.sz.trans hlen,λi hi=>?_⟩;rw[y0f];have aK:i<a.length:=by rw[k0b]at hi;omega
  have e1:lkF (frOf a 0) i=a[i]:=by rw[m0m,dif_pos ⟨r2y _,by omega⟩];simp
  refine n0b h1 i (v:=vs.getD i undef) ?_;rw[e1];exact hra.rel i aK
theorem s1e{f:FuncId}{t:FnT}{nf:t.ins.den->Option t.den}{O:Orc ρ}(he:a0m P f=false)(hc:b0s P f t nf)(hO:O.ok P):(g0p f t nf O).ok P:=by
 intro g a o k r h;unfold g0p at h;cases hb:Nat.beq g f&&fits t a o with
 |true=>
  rw[hb]at h;rw[q2w]at hb;rw[q2v hb.1];exact .inr (.inl ⟨he,u1z hc h⟩)
 |false=>rw[hb]at h;exact hO _ _ _ _ _ h
theorem g0v{f:FuncId}{t:FnT}{nf:t.ins.den->Option t.den}{O:Orc ρ}(he:a0m P f=true)(hc:Contract P f t nf)(hO:O.ok P):(g0p f t nf O).ok P:=by
 intro g a o k r h;unfold g0p at h;cases hb:Nat.beq g f&&fits t a o with
 |true=>
  rw[hb]at h;rw[q2w]at hb;rw[q2v hb.1];exact .inl ⟨he,e1t hc h⟩
 |false=>rw[hb]at h;exact hO _ _ _ _ _ h
def fzFT:List FT->List AC->List Nat
 |.d t::r,cs=>(cs.take t.sz).flatMap AC.owns++fzFT r (cs.drop t.sz)
 |.ref _::r,cs=>fzFT r (cs.drop 1)
 |.rp _::r,cs=>fzFT r (cs.drop 1)
 |[],_=>[]
def t1f:List RI->List AV->List Nat
 |.v _::r,x::xs=>x.owns++t1f r xs
 |.mix l::r,.agg cs::xs=>fzFT l cs++t1f r xs
 |_::r,_::xs=>t1f r xs
 |_,_=>[]
def fzOb(ob:List (Nat×AObj)):List (Nat×OT)->List Nat
 |[]=>[]
 |(k,.box l _)::r=>(match lkO ob k with|.box cs _=>fzFT l cs|_=>[])++fzOb ob r
 |_::r=>fzOb ob r
def finN(P:Program)(rs:List ResultVar)(t:FnT)(s:ASt):Option t.den:=
 match resV P s rs with
 |some l=>match resV P ((t1f t.outs l++fzOb s.ob t.obs).foldl ASt.freeze s) rs with
  |some l' =>bif AV.plainL l' then p0n t.outs (oDec ((t1f t.outs l++fzOb s.ob t.obs).foldl ASt.freeze s).ob t.obs) l' else none
  |none=>none
 |none=>none
def finK(P:Program)(rs:List ResultVar)(t:FnT)(e:Exit)(s:ASt):Option t.den:=
 match e with
 |.ret=>finN P rs t s
 |.normal=>finN P rs t s
 |_=>none
def evF(P:Program)(N:Nat)(T:List (TypeId×Ev.Ty))(M:List (Nat×ArgM))(t:FnT)(O:Orc t.den)(L:LOrc t.den)(D:DOrc t.den)(pre:Pre)(rs:List ResultVar)(c:Code)(x:t.ins.den):Option t.den:=
 evC P N T M O L D 1000 c (t.ins.enc x) λe s=>finK P rs t e (pre.app N s)
omit [Tabs]in
theorem b2c{t:Ev.Ty}{x:AV}{y:Option t.den}(h:g2p t x=some y){w:World}{F:Nat->Prop}{ρ0:Env}{tm:Array Value}{v:Value}(hr:RelAV w F ρ0 tm x v):RelAV w F ρ0 tm (l2q t y) v:=by
 unfold g2p at h;split at h
 ·simp only[s2s]at h
  obtain⟨a,h1,rfl⟩:=h;exact(s1q (b1d h1)).rel hr
 ·cases h
  exact hr
 ·cases h
omit [Tabs]in
theorem m0r{w:World}{F:Nat->Prop}{ρ0:Env}{tm:Array Value}:∀{l:List RI} {u:Type} {z:Option u} {xs:List AV} {y:q0q l u},p0n l z xs=some y->
  z=some (r0w l y)/\xs.length=(j0p l y).length/\∀i (h:i<xs.length) (h' :i<(j0p l y).length) v,RelAV w F ρ0 tm xs[i] v->RelAV w F ρ0 tm (j0p l y)[i] v
 |[],u,z,[],y,h=>⟨h,rfl,λi hi=>by simp at hi⟩
 |[],u,z,_::_,y,h=>by cases h
 |.v t::r,u,z,x::xs,y,h=>by
  simp only[p0n,r2b,r2a]at h;obtain⟨a,h1,b,h2,rfl⟩:=h;obtain⟨h3,h4,h5⟩:=m0r (w:=w) (F:=F) (ρ0:=ρ0) (tm:=tm) h2;refine⟨h3,by simp[j0p,h4],λi hi aK v hv=>?_⟩;cases i with
  |zero=>exact f0e h1 hv
  |succ i=>exact h5 i (by simpa using hi) (by simpa[j0p]using aK) v hv
 |.v t::r,u,z,[],y,h=>by cases h
 |.ref c::r,u,z,.cell a::xs,y,h=>by
  simp only[p0n]at h;cases hb:c.is a with
  |false=>rw[hb]at h;cases h
  |true=>
   rw[hb]at h;obtain⟨h3,h4,h5⟩:=m0r (w:=w) (F:=F) (ρ0:=ρ0) (tm:=tm) h;refine⟨h3,by simp[j0p,h4],λi hi aK v hv=>?_⟩;cases i with
   |zero=>rw[Ref.is_eq hb]at hv;exact hv
   |succ i=>exact h5 i (by simpa using hi) (by simpa[j0p]using aK) v hv
 |.ref c::r,u,z,[],y,h=>by cases h
 |.opt t::r,u,z,x::xs,y,h=>by
  simp only[p0n,r2b,r2a]at h;obtain⟨a,h1,b,h2,rfl⟩:=h;obtain⟨h3,h4,h5⟩:=m0r (w:=w) (F:=F) (ρ0:=ρ0) (tm:=tm) h2;refine⟨h3,by simp[j0p,h4],λi hi aK v hv=>?_⟩;cases i with
  |zero=>exact b2c h1 hv
  |succ i=>exact h5 i (by simpa using hi) (by simpa[j0p]using aK) v hv
 |.opt t::r,u,z,[],y,h=>by cases h
 |.mix l::r,u,z,.agg cs::xs,y,h=>by
  simp only[p0n,r2b,r2a]at h;obtain⟨a,h1,b,h2,rfl⟩:=h;obtain⟨h3,h4,h5⟩:=m0r (w:=w) (F:=F) (ρ0:=ρ0) (tm:=tm) h2;refine⟨h3,by simp[j0p,h4],λi hi aK v hv=>?_⟩;cases i with
  |zero=>
   have hl:=FT.dec_le (w:=w) (F:=F) (ρ:=ρ0) h1;have cN:RelAV w F ρ0 tm (.agg cs) v:=hv;cases cN with
   |agg cs arr hs hh=>exact .agg _ arr (hs.trans hl.length) λi hi=>hl.get i (by rw[hl.length];exact hi) hi _ (hh i (by rw[hl.length];exact hi))
  |succ i=>exact h5 i (by simpa using hi) (by simpa[j0p]using aK) v hv
 |.mix l::r,u,z,[],y,h=>by cases h
 |.mix l::r,u,z,.cell _::xs,y,h=>by cases h
 |.mix l::r,u,z,.aggD _::xs,y,h=>by cases h
 |.mix l::r,u,z,.tup _::xs,y,h=>by cases h
 |.mix l::r,u,z,.whn _ _ _::xs,y,h=>by cases h
 |.mix l::r,u,z,.junk::xs,y,h=>by cases h
 |.ref c::r,u,z,.agg _::xs,y,h=>by cases h
 |.ref c::r,u,z,.aggD _::xs,y,h=>by cases h
 |.ref c::r,u,z,.tup _::xs,y,h=>by cases h
 |.ref c::r,u,z,.whn _ _ _::xs,y,h=>by cases h
 |.ref c::r,u,z,.junk::xs,y,h=>by cases h
omit [Tabs]in
theorem y1r{w:World}{F:Nat->Prop}{ρ0:Env}{tm:Array Value}{l m:List AV}(hl:l.length=m.length)(h:∀i (h:i<l.length) (h' :i<m.length) v,RelAV w F ρ0 tm l[i] v->RelAV w F ρ0 tm m[i] v){v:Value}(hr:RelAV w F ρ0 tm (one1 l) v):
  RelAV w F ρ0 tm (one1 m) v:=by
 have tupc:∀{l m:List AV},l.length=m.length->(∀i (h:i<l.length) (h' :i<m.length) v,RelAV w F ρ0 tm l[i] v->RelAV w F ρ0 tm m[i] v)->RelAV w F ρ0 tm (.tup l) v->RelAV w F ρ0 tm (.tup m) v:=by
  intro l m hl h hr;cases hr with
  |tup vs arr hs hh=>exact .tup _ arr (hs.trans hl) λi hi=>h i (by omega) hi _ (hh i (by omega))
 match l,m,hl with
 |[],[],_=>exact hr
 |[x],[y],_=>exact h 0 (by simp) (by simp) v hr
 |x::y::r,x' ::y' ::r',hl=>exact tupc hl h hr
omit [Tabs]in
theorem c2y{st:ASt}{rs:List ResultVar}{l:List AV}(h:resV P st rs=some l)(hp:AV.plainL l=true):res1 P st rs=some (one1 l):=by
 unfold res1;rw[h]
 match l with
 |[]=>rfl
 |[x]=>
  simp only[AV.plainL,Bool.and_true]at hp;simp[one1,hp]
 |x::y::r=>simp[one1,hp]
omit [Tabs]in
theorem f1t(t:FnT)(x:t.ins.den):AV.plainL (t.args x)=true:=by
 have h1:∀(l:List AV),(∀y∈l,AV.plain y=true)->AV.plainL l=true:=by
  intro l
  induction l with
  |nil=>intro _;rfl
  |cons y r ih=>intro h;simp only[AV.plainL,q2w];exact⟨h y (by simp),ih λz hz=>h z (s2m _ hz)⟩
 have h2:∀(l:List (Nat×Ev.Ty)) {u:Type} (x:b1m l u),∀p∈vEnc l x,p.2.plain=true:=by
  intro l
  induction l with
  |nil=>intro u x p hp;cases hp
  |cons q r ih=>
   intro u x p hp;rcases r2g.1 hp with rfl|hp
   ·exact k0i _ _
   ·exact ih x.2 p hp
 have h3:∀(l:List (Nat×List FT)) {u:Type} (x:z0s l u),∀p∈mEnc l x,p.2.plain=true:=by
  intro l
  induction l with
  |nil=>intro u x p hp;cases hp
  |cons q r ih=>
   intro u x p hp;rcases r2g.1 hp with rfl|hp
   ·unfold a1o
    cases Nat.ble 1000000 q.1<;>rfl
   ·exact ih x.2 p hp
 refine h1 _ λy hy=>?_;simp only[FnT.args,r2s,t2r]at hy;obtain⟨i,_,rfl⟩:=hy;rcases w0z (l:=(t.ins.enc x).fr) (i:=i)with e|e
 ·rw[e];rfl
 ·simp only[Tm.enc,r2x]at e⊢
  rcases e with e|e
  ·obtain⟨p,_,hp⟩:=r2s.1 e
   have h9:p.2.av=lkF (rEnc t.ins.rs++(vEnc t.ins.vs x++mEnc t.ins.ms (a1y t.ins.vs x))) i:=congrArg Prod.snd hp;rw [<-h9];cases p.2<;>rfl
  ·rcases e with e|e
   ·exact h2 _ _ _ e
   ·exact h3 _ _ _ e
theorem Contract.of_ev [QuietD P] {f:FuncId}{fn:Func}{c:Code}{N:Nat}{rs:List ResultVar}{T:List (TypeId×Ev.Ty)}{M:List (Nat×ArgM)} [DfOk M] {t:FnT}{O:Orc t.den}{L:LOrc t.den}{D:DOrc t.den}{pre:Pre}{nf:t.ins.den->Option t.den}
  (hf:P.funcs[f]?=some fn)(hb:fn.body=some c)(hN:fn.ntmps=N)(gd:fn.results.toList=rs)(hn:(Nat.ble t.nargs N&&Nat.ble N 1000000&&t.ins.rs.all (λp=>Nat.blt p.1 t.nargs)&&t.ins.vs.all (λp=>Nat.blt p.1 t.nargs)&&t.ins.ms.all (λp=>Nat.blt (a1o p.1 []).1 t.nargs))=true)
  (hO:O.ok P)(hD:D.ok P N)(hl:LoopsOk P N L 1000 c)(h:∀x,evF P N T M t O L D pre rs c x=nf x):Contract P f t nf:=by
 intro x y hy;rw [<-h]at hy;simp only[q2w]at hn;have main:ACalls P f (t.args x) (t.ob x) (λe o=>∃l',e=.ret (one1 l')/\p0n t.outs (oDec o t.obs) l' =some y):=by
  refine ACalls.of_AWF hf hb hN gd (by rw[k0b];simp only[q2w];exact⟨hn.1.1.1.1,hn.1.1.1.2⟩) (f1t t x) (λchain o hh=>by obtain⟨l,e,_⟩:=hh;cases e) ?_;have qh:Goes N ⟨frOf (t.args x) 0,t.ob x⟩ (t.ins.enc x):=by
   intro F ρ0 a w hr;refine⟨F,ρ0,⟨hr.rw,λi=>?_,hr.ob,hr.sz,hr.df⟩,Fr.refl F ρ0 w⟩;have hi:=hr.fr i;simp only at hi;rw[m0m]at hi;split at hi
   ·rename_i h0
    rw[y0f]at hi;exact hi
   ·rename_i h0
    have:lkF (t.ins.enc x).fr i=.junk:=by
     rcases w0z (l:=(t.ins.enc x).fr) (i:=i)with e|e
     ·exact e
     ·exfalso
      simp only[Tm.enc,r2x]at e;rw[k0b]at h0;rcases e with e|e
      ·obtain⟨p,hp,pM⟩:=r2s.1 e
       have h1:=r2r.1 hn.1.1.2 p hp;have h2:=a0e h1;have h3:p.1=i:=congrArg Prod.fst pM;omega
      ·rcases e with e|e
       case inr=>
        have key:∀(l:List (Nat×List FT)) {u:Type} (x:z0s l u),l.all (λp=>Nat.blt (a1o p.1 []).1 t.nargs)=true->∀p∈mEnc l x,p.1<t.nargs:=by
         intro l
         induction l with
         |nil=>intro u x _ p hp;cases hp
         |cons q r ih=>
          intro u x hq p hp;simp only[List.all_cons,q2w]at hq;rcases r2g.1 hp with rfl|hp
          ·have h7:=a0e hq.1
           unfold a1o at h7⊢;cases hb:Nat.ble 1000000 q.1<;>(rw[hb]at h7;exact h7)
          ·exact ih x.2 hq.2 p hp
        have:=key _ _ hn.2 _ e;dsimp only at this;omega
       have key:∀(l:List (Nat×Ev.Ty)) {u:Type} (x:b1m l u),l.all (λp=>Nat.blt p.1 t.nargs)=true->∀p∈vEnc l x,p.1<t.nargs:=by
        intro l
        induction l with
        |nil=>intro u x _ p hp;cases hp
        |cons q r ih=>
         intro u x hq p hp;simp only[List.all_cons,q2w]at hq;rcases r2g.1 hp with rfl|hp
         ·exact a0e hq.1
         ·exact ih x.2 hq.2 p hp
       have:=key _ _ hn.1.2 _ e;dsimp only at this;omega
    rw[this];exact .junk _
  refine .goes qh ((f0w hO hD hl hy).post λe s0 hs=>⟨pre.app N s0,Goes.pre pre s0,?_⟩);generalize pre.app N s0=s at hs⊢;have fin:finN P rs t s=some y->∃(ks:List Nat) (x0:AV),res1 P (ks.foldl ASt.freeze s) rs=some x0/\∃l',AEnd.ret x0=.ret (one1 l')/\p0n t.outs (oDec (ks.foldl ASt.freeze s).ob t.obs) l' =some y:=by
   intro hs;unfold finN at hs;split at hs
   ·rename_i l hl
    split at hs
    ·rename_i l' bS
     cases hp:AV.plainL l' with
     |false=>rw[hp]at hs;cases hs
     |true=>
      rw[hp]at hs;exact⟨_,_,c2y bS hp,l',rfl,hs⟩
    ·cases hs
   ·cases hs
  cases e with
  |ret=>exact fin hs
  |normal=>exact fin hs
  |_=>cases hs
 intro F ρ0 vs w hrw aH hra;refine(main F ρ0 vs w hrw aH hra).mono λe w' ⟨F',ρ',rr,bH,⟨l',h1,h2⟩,hre,hrw',bQ,hfr⟩=>?_;subst h1;have jk:=λρ1=>m0r (w:=w') (F:=F') (ρ0:=ρ1) (tm:=#[]) h2;refine⟨F',λj=>if j∈t.obs.map (·.1)then ρ' j else none,.ret (t.res y),t.ob2 y,⟨rfl,rfl⟩,?_,l1g _ hrw',e2h (jk ρ').1 bQ,hfr.trans hrw'.dis (w1g _)⟩
 cases e with
 |returned v=>
  have hv:RelAV w' F' ρ' #[] (one1 l') v:=hre;refine y1r (jk ρ').2.1 (jk _).2.2 (hv.mono (λ_ _=>rfl) (λ_ h=>h) λj l hj=>?_);split at hj
  ·exact hj
  ·cases hj
 |panicked c=>exact hre.elim
 |outgrown=>exact hre.elim
def i0s:Nat->Code->List (Nat×Code)
 |b,.loop x=>[(b,x)]
 |b,.seq x y=>i0s b x++i0s b y
 |b,.cond _ x y=>i0s b x++i0s b y
 |_,.block id x=>i0s id x
 |_,_=>[]
def v1u(b:Nat)(c:Code)(j:Nat):Code:=match(i0s b c)[j]? with|some p=>p.2|none=>.skip
def LOk(P:Program)(N:Nat)(L:LOrc ρ)(b:Nat)(x:Code):Prop:=∀st k r,L b st k=some r->AW P N (.loop x) st λe s=>k e s=some r
def LOkL(P:Program)(N:Nat)(L:LOrc ρ):List (Nat×Code)->Prop
 |[]=>True
 |p::r=>LOk P N L p.1 p.2/\LOkL P N L r
theorem LOkL.app {N:Nat}{L:LOrc ρ}:∀{l m:List (Nat×Code)},LOkL P N L (l++m)->LOkL P N L l/\LOkL P N L m
 |[],m,h=>⟨trivial,h⟩
 |p::r,m,h=>⟨⟨h.1,(LOkL.app h.2).1⟩,(LOkL.app h.2).2⟩
theorem LoopsOk.of_list {N:Nat}{L:LOrc ρ}:∀{c:Code} {b:Nat},LOkL P N L (i0s b c)->LoopsOk P N L b c
 |.loop x,b,h=>h.1
 |.seq x y,b,h=>⟨LoopsOk.of_list (LOkL.app h).1,LoopsOk.of_list (LOkL.app h).2⟩
 |.cond _ x y,b,h=>⟨LoopsOk.of_list (LOkL.app h).1,LoopsOk.of_list (LOkL.app h).2⟩
 |.block id x,b,h=>LoopsOk.of_list (c:=x) (b:=id) h
 |.skip,_,_=>trivial
 |.region ..,_,_=>trivial
 |.exit _,_,_=>trivial
 |.ret,_,_=>trivial
 |.rangeFunc ..,_,_=>trivial
 |.scope _,_,_=>trivial
 |.label _,_,_=>trivial
 |.goto _,_,_=>trivial
 |.refuse _,_,_=>trivial
theorem LoopsOk.of {N:Nat}{L:LOrc ρ}{c:Code}{b:Nat}{l:List (Nat×Code)}(h:i0s b c=l)(k:LOkL P N L l):LoopsOk P N L b c:=.of_list (h▸k)
def t1o:LOrc ρ:=λ_ _ _=>none
def k0l(b:Nat)(f:ASt->(Exit->ASt->Option ρ)->Option ρ)(L:LOrc ρ):LOrc ρ:=λc st k=>bif Nat.beq c b then f st k else L c st k
theorem LOk.head {N:Nat}{L:LOrc ρ}{b:Nat}{x:Code}{f:ASt->(Exit->ASt->Option ρ)->Option ρ}(h:∀st k r,f st k=some r->AW P N (.loop x) st λe s=>k e s=some r):LOk P N (k0l b f L) b x:=λst k r hk=>by
 unfold k0l at hk;rw[t2v]at hk;exact h st k r hk
theorem LOk.tail {N:Nat}{L:LOrc ρ}{b b' :Nat}{x:Code}{f:ASt->(Exit->ASt->Option ρ)->Option ρ}(hb:Nat.beq b b' =false)(h:LOk P N L b x):LOk P N (k0l b' f L) b x:=λst k r hk=>by
 unfold k0l at hk;rw[hb]at hk;exact h st k r hk
def x0y:DOrc ρ:=λ_ _ _=>none
theorem n0o{N:Nat}:(x0y:DOrc ρ).ok P N:=λ_ _ _ _ _ h=>by cases h
def g0x(fn:Func):Code:=match fn.body with|some c=>c|none=>.skip
end
end Esp

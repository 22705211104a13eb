import Derived.Test.YtnaeiccibhdknaaGreatDoorEv
set_option linter.unusedSimpArgs false
set_option linter.unusedVariables false
namespace Esp
open Go
variable [Tabs]
inductive Ref where
 |own(k:Nat)
 |ptr(k off:Nat)
 |fn(f:FuncId)
 |nilp
 |clo(f:FuncId)(ks:List Nat)
 |nils
 |pn(k:Nat)
 |nili
 |ifo(t k:Nat)
 |mpr(k:Nat)
 |cls(f:FuncId)(k b o:Nat)
 |two(x y:Ref)
 |hd(b o:Nat)
 |nilf
 |bnd(f:FuncId)(ks:List Nat)
 deriving Inhabited
def x1p(ks:List Nat):List AC:=ks.map λk=>.ptr k 0
def a1h:List Nat->List AC->Bool
 |[],[]=>true
 |k::r,.ptr j 0::cs=>Nat.beq k j&&a1h r cs
 |_,_=>false
omit [Tabs]in
theorem s0h:∀{ks:List Nat} {cs:List AC},a1h ks cs=true->cs=x1p ks
 |[],[],_=>rfl
 |k::r,.ptr j 0::cs,h=>by
  simp only[a1h,r2i]at h;rw[s0h h.2,r2h h.1];rfl
 |[],_::_,h=>by cases h
 |_::_,[],h=>by cases h
 |_::_,.ptr _ (_+1)::_,h=>by cases h
 |_::_,.own _::_,h=>by cases h
 |_::_,.elt _ _ _ _::_,h=>by cases h
 |_::_,.osl _ _ _ _::_,h=>by cases h
 |_::_,.pn _::_,h=>by cases h
 |_::_,.ifo _ _::_,h=>by cases h
 |_::_,.mpr _::_,h=>by cases h
 |_::_,.row _ _::_,h=>by cases h
 |_::_,.d _::_,h=>by cases h
 |_::_,.fn _ _ _::_,h=>by cases h
 |_::_,.junk::_,h=>by cases h
def Ref.ac:Ref->AC
 |.own k=>.own k
 |.ptr k off=>.ptr k off
 |.fn f=>.fn (.func f) [] []
 |.nilp=>.d (.sc (.pointer none))
 |.clo f ks=>.fn (.func f) [] (x1p ks)
 |.nils=>.d (.sc (.slice none 0 0))
 |.pn k=>.pn k
 |.nili=>.d (.sc .nilIface)
 |.ifo t k=>.ifo t k
 |.mpr k=>.mpr k
 |.cls f k b o=>.fn (.func f) [] [.own k,.d (.sc (.pointer (some ⟨b,o,none⟩)))]
 |.two _ _=>.junk
 |.hd b o=>.d (.sc (.pointer (some ⟨b,o,none⟩)))
 |.nilf=>.d (.sc .nilFunc)
 |.bnd f ks=>.fn (.func f) (x1p ks) []
def Ref.is:Ref->AC->Bool
 |.own k,.own j=>Nat.beq k j
 |.ptr k o,.ptr j p=>Nat.beq k j&&Nat.beq o p
 |.fn f,.fn (.func g) [] []=>Nat.beq f g
 |.nilp,.d (.sc (.pointer none))=>true
 |.clo f ks,.fn (.func g) [] cs=>Nat.beq f g&&a1h ks cs
 |.nils,.d (.sc (.slice none 0 0))=>true
 |.pn k,.pn j=>Nat.beq k j
 |.nili,.d (.sc .nilIface)=>true
 |.ifo t k,.ifo u j=>Nat.beq t u&&Nat.beq k j
 |.mpr k,.mpr j=>Nat.beq k j
 |.cls f k b o,.fn (.func g) [] [.own j,.d (.sc (.pointer (some ⟨c,q,none⟩)))]=>Nat.beq f g&&Nat.beq k j&&Nat.beq b c&&Nat.beq o q
 |.hd b o,.d (.sc (.pointer (some ⟨c,q,none⟩)))=>Nat.beq b c&&Nat.beq o q
 |.nilf,.d (.sc .nilFunc)=>true
 |.bnd f ks,.fn (.func g) fs []=>Nat.beq f g&&a1h ks fs
 |_,_=>false
omit [Tabs]in
theorem Ref.is_eq {r:Ref}{c:AC}(h:r.is c=true):c=r.ac:=by
 unfold Ref.is at h;split at h
 ·rw[r2h h];rfl
 ·simp only[r2i]at h
  rw[r2h h.1,r2h h.2];rfl
 ·rw[r2h h];rfl
 ·rfl
 ·simp only[r2i]at h
  rw[r2h h.1,s0h h.2];rfl
 ·rfl
 ·rw[r2h h];rfl
 ·rfl
 ·simp only[r2i]at h
  rw[r2h h.1,r2h h.2];rfl
 ·rw[r2h h];rfl
 ·simp only[r2i]at h
  rw[r2h h.1.1.1,r2h h.1.1.2,r2h h.1.2,r2h h.2];rfl
 ·simp only[r2i]at h
  rw[r2h h.1,r2h h.2];rfl
 ·rfl
 ·simp only[r2i]at h
  rw[r2h h.1,s0h h.2];rfl
 ·cases h
def Ref.av:Ref->AV
 |.two x y=>.agg [x.ac,y.ac]
 |r=>.cell r.ac
def Ref.isv:Ref->AV->Bool
 |.two x y,.agg [a,b]=>x.is a&&y.is b
 |.two _ _,_=>false
 |r,.cell a=>r.is a
 |_,_=>false
omit [Tabs]in
theorem Ref.isv_eq {r:Ref}{v:AV}(h:r.isv v=true):v=r.av:=by
 unfold Ref.isv at h;split at h
 ·rw[r2i]at h
  rw[Ref.is_eq h.1,Ref.is_eq h.2];rfl
 ·cases h
 ·rename_i h1
  rw[Ref.is_eq h];cases r<;>first|rfl|exact absurd rfl (h1 _ _)
 ·cases h
inductive FT where
 |d(t:Ev.Ty)
 |ref(x:Ref)
 |rp(l:List Ev.Ty)
 deriving Inhabited
@[reducible] def c1o:List Ev.Ty->Type
  |[]=>Unit
  |t::r=>t.den×c1o r
def h2f:(l:List Ev.Ty)->c1o l->List D
 |[],_=>[]
 |t::r,x=>cells t x.1++h2f r x.2
def z1y:(l:List Ev.Ty)->List D->Option (c1o l)
 |[],[]=>some ()
 |[],_=>none
 |t::r,ds=>(rd t (ds.take t.sz)).bind λx=>(z1y r (ds.drop t.sz)).bind λy=>some (x,y)
omit [Tabs]in
theorem k1w:∀{l:List Ev.Ty} {ds:List D} {x:c1o l},z1y l ds=some x->dsle ds (h2f l x)
 |[],[],_,_=>trivial
 |[],_::_,_,h=>by cases h
 |t::r,ds,x,h=>by
  simp only[z1y,r2m,r2l]at h;obtain⟨y,h1,z,h2,rfl⟩:=h;have:=(y0x h1).append (k1w h2);rwa[t2z]at this
@[reducible] def FT.dens:List FT->Type
  |[]=>Unit
  |.rp l::r=>c1o l×FT.dens r
  |.d t::r=>t.den×FT.dens r
  |.ref _::r=>FT.dens r
def FT.enc:(l:List FT)->FT.dens l->List AC
 |[],_=>[]
 |.rp l::r,x=>.d (.rp (h2f l x.1))::FT.enc r x.2
 |.d t::r,x=>(cells t x.1).map .d++FT.enc r x.2
 |.ref c::r,x=>c.ac::FT.enc r x
def a2j:Nat->List AC->Option (List D×List AC)
 | 0,cs=>some ([],cs)
 |n+1,.d x::cs=>(a2j n cs).bind λp=>some (x::p.1,p.2)
 |_,_=>none
def i2y:AC->Option (List D)
 |.d (.rp ds)=>some ds
 |_=>none
omit [Tabs]in
theorem y1z{c:AC}{ds:List D}(h:i2y c=some ds):c=.d (.rp ds):=by
 unfold i2y at h;split at h
 ·cases h;rfl
 ·cases h
def FT.dec:(l:List FT)->List AC->Option (FT.dens l)
 |[],[]=>some ()
 |.rp l::r,c::cs=>(i2y c).bind λds=>(z1y l ds).bind λx=>(FT.dec r cs).bind λy=>some (x,y)
 |.d t::r,cs=>(a2j t.sz cs).bind λp=>(rd t p.1).bind λx=>(FT.dec r p.2).bind λy=>some (x,y)
 |.ref c::r,x::cs=>bif c.is x then FT.dec r cs else none
 |_,_=>none
def acsle(w:World)(F:Nat->Prop)(ρ:Env):List AC->List AC->Prop
 |[],[]=>True
 |x::r,y::s=>(∀v,RelAC w F ρ x v->RelAC w F ρ y v)/\acsle w F ρ r s
 |_,_=>False
omit [Tabs]in
theorem acsle.length {w:World}{F:Nat->Prop}{ρ:Env}:∀{a b:List AC},acsle w F ρ a b->a.length=b.length
 |[],[],_=>rfl
 |x::r,y::s,h=>by simp[acsle.length h.2]
 |[],_::_,h=>h.elim
 |_::_,[],h=>h.elim
omit [Tabs]in
theorem acsle.get {w:World}{F:Nat->Prop}{ρ:Env}:∀{a b:List AC},acsle w F ρ a b->∀i (h1:i<a.length) (h2:i<b.length) v,RelAC w F ρ a[i] v->RelAC w F ρ b[i] v
 |x::r,y::s,h,0,_,_=>h.1
 |x::r,y::s,h,i+1,h1,h2=>acsle.get h.2 i (by simpa using h1) (by simpa using h2)
 |[],[],_,i,h1,_=>by simp at h1
 |[],_::_,h,_,_,_=>h.elim
 |_::_,[],h,_,_,_=>h.elim
omit [Tabs]in
theorem acsle.append {w:World}{F:Nat->Prop}{ρ:Env}:∀{a b c d:List AC},acsle w F ρ a b->acsle w F ρ c d->acsle w F ρ (a++c) (b++d)
 |[],[],_,_,_,h=>h
 |x::r,y::s,_,_,h,k=>⟨h.1,acsle.append h.2 k⟩
 |[],_::_,_,_,h,_=>h.elim
 |_::_,[],_,_,h,_=>h.elim
omit [Tabs]in
theorem acsle.of_dsle {w:World}{F:Nat->Prop}{ρ:Env}:∀{a b:List D},dsle a b->acsle w F ρ (a.map .d) (b.map .d)
 |[],[],_=>trivial
 |x::r,y::s,h=>⟨λv hv=>by
   cases hv with
   |d x v hd=>exact .d _ _ (h.1 _ _ _ hd),acsle.of_dsle h.2⟩
 |[],_::_,h=>h.elim
 |_::_,[],h=>h.elim
omit [Tabs]in
theorem j1p:∀{n:Nat} {cs:List AC} {p:List D×List AC},a2j n cs=some p->cs=p.1.map .d++p.2
 | 0,cs,p,h=>by cases h;rfl
 |n+1,.d x::cs,p,h=>by
  simp only[a2j,r2m,r2l]at h;obtain⟨q,h1,rfl⟩:=h;simp[j1p h1]
 |n+1,[],_,h=>by cases h
 |n+1,.own _::_,_,h=>by cases h
 |n+1,.ptr _ _::_,_,h=>by cases h
 |n+1,.elt _ _ _ _::_,_,h=>by cases h
 |n+1,.osl _ _ _ _::_,_,h=>by cases h
 |n+1,.pn _::_,_,h=>by cases h
 |n+1,.ifo _ _::_,_,h=>by cases h
 |n+1,.mpr _::_,_,h=>by cases h
 |n+1,.row _ _::_,_,h=>by cases h
 |n+1,.fn _ _ _::_,_,h=>by cases h
 |n+1,.junk::_,_,h=>by cases h
omit [Tabs]in
theorem FT.dec_le {w:World}{F:Nat->Prop}{ρ:Env}:∀{l:List FT} {cs:List AC} {x:FT.dens l},FT.dec l cs=some x->acsle w F ρ cs (FT.enc l x)
 |[],[],_,_=>trivial
 |[],_::_,_,h=>by cases h
 |.d t::r,cs,x,h=>by
  simp only[FT.dec,r2m,r2l]at h;obtain⟨p,h1,y,h2,z,h3,rfl⟩:=h;rw[j1p h1];exact(acsle.of_dsle (y0x h2)).append (FT.dec_le h3)
 |.ref c::r,y::cs,x,h=>by
  simp only[FT.dec]at h;cases hb:c.is y with
  |false=>rw[hb]at h;cases h
  |true=>
   rw[hb]at h;rw[Ref.is_eq hb];exact⟨λ_ h=>h,FT.dec_le h⟩
 |.ref c::r,[],x,h=>by cases h
 |.rp l::r,y::cs,x,h=>by
  simp only[FT.dec,r2m,r2l]at h;obtain⟨ds,h0,y,h1,z,h2,rfl⟩:=h;rw[y1z h0];exact⟨λv hv=>by
   cases hv with
   |d _ _ hd=>exact .d _ _ (s1j (k1w h1) _ _ _ hd),FT.dec_le h2⟩
 |.rp l::r,[],x,h=>by cases h
def tyLe:Option TypeId->Option TypeId->Bool
 |none,_=>true
 |some a,some b=>Nat.beq a b
 |_,_=>false
omit [Tabs]in
theorem f2v{a b:Option TypeId}(h:tyLe a b=true){t:TypeId}(hb:∀t',b=some t' ->t=t'):∀t',a=some t' ->t=t' :=by
 intro t' ha;subst ha;cases b with
 |none=>cases h
 |some b=>rw[hb b rfl];exact(r2h h).symm
inductive OT where
 |arr(te:TypeId)(t:Ev.Ty)
 |box(l:List FT)(ty:Option TypeId:=none)
 |it
 |fz(te:TypeId)
 |mi(kt vt:Ev.Ty)
 |mp(t:TypeId)(kt vt:Ev.Ty)(dn:Bool)
 |mr(tm te:TypeId)(kt e:Ev.Ty)
 deriving Inhabited
@[reducible] def OT.den:OT->Type
  |.arr _ t=>List t.den
  |.box l _=>FT.dens l
  |.it=>Bt×Nat
  |.fz _=>List Int
  |.mi kt vt=>List (kt.den×vt.den)
  |.mp _ kt vt _=>List (kt.den×vt.den)
  |.mr _ _ kt e=>List (kt.den×(Ev.Ty.lst e).den)
def OT.enc:(o:OT)->o.den->AObj
 |.arr te t,xs=>.na te t xs
 |.box l ty,x=>.box (FT.enc l x) ty
 |.it,x=>.it x.1 x.2
 |.fz te,x=>.fz te x
 |.mi kt vt,x=>.mi kt vt x none
 |.mp t kt vt dn,x=>.mp t kt vt x dn
 |.mr tm te kt e,x=>.mr tm te kt e x none
def m2l(kt kt' e e' :Ev.Ty)(l:List (kt.den×(Ev.Ty.lst e).den)):Option (List (kt'.den×(Ev.Ty.lst e').den)):=Ev.castM kt kt' (.lst e) (.lst e') l
def OT.dec:(o:OT)->AObj->Option o.den
 |.arr te t,.na a7 t' xs=>bif Nat.beq te a7 then Ev.castL t' t xs else none
 |.arr te t,.arr a7 e 0 []=>bif Nat.beq te a7&&Nat.beq e t.sz then some []else none
 |.box l ty,.box cs fJ=>bif tyLe ty fJ then FT.dec l cs else none
 |.it,.it s pos=>some (s,pos)
 |.fz te,.fz a7 xs=>bif Nat.beq te a7 then some xs else none
 |.mi kt vt,.mi kt' fg l _=>Ev.castM kt' kt fg vt l
 |.mp t kt vt dn,.mp t' kt' fg xs iJ=>bif Nat.beq t t' && (!dn || iJ)then Ev.castM kt' kt fg vt xs else none
 |.mr tm te kt e,.mr eZ a7 kt' e' xs none=>bif Nat.beq tm eZ&&Nat.beq te a7 then m2l kt' kt e' e xs else none
 |_,_=>none
section
omit [Tabs]in
theorem OT.dec_le {w:World}{F:Nat->Prop}{ρ:Env}{k:Nat}{o:OT}{b:AObj}{x:o.den}(h:o.dec b=some x)(hr:RelOb w F ρ k b):RelOb w F ρ k (o.enc x):=by
 unfold OT.dec at h;split at h
 ·rename_i te t a7 t' xs
  cases hb:Nat.beq te a7 with
  |false=>rw[hb]at h;cases h
  |true=>
   rw[hb]at h;obtain⟨e,rfl⟩:=Ev.castL_eq h;subst e;rw[r2h hb];exact hr
 ·rename_i te t a7 e
  cases hb:(Nat.beq te a7&&Nat.beq e t.sz)with
  |false=>rw[hb]at h;cases h
  |true=>
   rw[hb]at h;cases h;simp only[r2i]at hb;have:=r2h hb.2;subst this;rw[r2h hb.1];exact hr.to_na rfl trivial
 ·rename_i l ty cs fJ
  cases ht:tyLe ty fJ with
  |false=>rw[ht]at h;cases h
  |true=>
  rw[ht,u2j]at h;cases hr with
  |box cs oty b c t aQ hk hb hs hh=>
   have:=FT.dec_le (w:=w) (F:=F) (ρ:=ρ) h;refine .box _ _ b c t (f2v ht aQ) hk hb (hs.trans this.length) λi hi=>this.get i (by rw[this.length];exact hi) hi _ (hh i (by rw[this.length];exact hi))
 ·cases h
  exact hr
 ·rename_i te a7 xs
  cases hb:Nat.beq te a7 with
  |false=>rw[hb]at h;cases h
  |true=>
   rw[hb]at h;cases h;rw[r2h hb];exact hr
 ·rename_i kt vt kt' fg xs cur
  obtain⟨e1,e2,rfl⟩:=Ev.castM_eq h;subst e1;subst e2;cases hr with
  |mi _ _ _ _ b mo si se la hk hb hm=>
   refine .mi _ _ _ _ b mo si se la hk hb ?_;rcases hm with⟨h1,h2,h3⟩| ⟨m,es,js,h1,h2,h3,h4,h5,h6,h7,h8,h9⟩
   ·exact .inl ⟨h1,h2,rfl⟩
   ·exact .inr ⟨m,es,js,h1,h2,h3,h4,h5,h6,h7,h8,λe he=>by cases he⟩
 ·rename_i t kt vt dn t' kt' fg xs iJ
  cases hb:(Nat.beq t t' && (!dn || iJ))with
  |false=>rw[hb]at h;cases h
  |true=>
   rw[hb]at h;rw[r2i]at hb;obtain⟨e1,e2,rfl⟩:=Ev.castM_eq h;subst e1;subst e2;rw[r2h hb.1];cases hr with
   |mp _ _ _ _ b es c hk hb2 hs hh _ hd=>
    refine .mp _ _ _ _ b es c hk hb2 hs hh dn ⟨λir=>hd.1 ?_,hd.2⟩;subst ir;simpa using hb.2
 ·rename_i tm te kt e eZ a7 kt' e' xs
  cases hb:(Nat.beq tm eZ&&Nat.beq te a7)with
  |false=>rw[hb]at h;cases h
  |true=>
   rw[hb]at h;rw[r2i]at hb;obtain⟨e1,e2,rfl⟩:=Ev.castM_eq (show Ev.castM kt' kt (.lst e') (.lst e) xs=some x from h)
   subst e1;cases e2;rw[r2h hb.1,r2h hb.2];exact hr
 ·cases h
end
structure Tm where
 rs:List (Nat×Ref)
 vs:List (Nat×Ev.Ty)
 os:List (Nat×OT)
 ms:List (Nat×List FT)
@[reducible] def a1m:List (Nat×Ev.Ty)->Type->Type
  |[],u=>u
  |(_,t)::r,u=>t.den×a1m r u
@[reducible] def b1d:List (Nat×OT)->Type
  |[]=>Unit
  |(_,o)::r=>o.den×b1d r
@[reducible] def b1y:List (Nat×List FT)->Type->Type
  |[],u=>u
  |(_,l)::r,u=>FT.dens l×b1y r u
@[reducible] def Tm.den (t:Tm):Type:=a1m t.vs (b1y t.ms (b1d t.os))
def z0m(i:Nat)(cs:List AC):Nat×AV:=bif Nat.ble 1000000 i then(i - 1000000,.cell (cs.headD .junk))else(i,.agg cs)
def p2w(fr:List (Nat×AV))(i:Nat):Option (List AC):=
 bif Nat.ble 1000000 i then(match lkF fr (i - 1000000)with
  |.cell c=>some [c]
  |_=>none)else match lkF fr i with
  |.agg cs=>some cs
  |_=>none
def mEnc:(l:List (Nat×List FT))->{u:Type}->b1y l u->List (Nat×AV)
 |[],_,_=>[]
 |(i,t)::r,_,x=>z0m i (FT.enc t x.1)::mEnc r x.2
def m1y:(l:List (Nat×List FT))->{u:Type}->b1y l u->u
 |[],_,x=>x
 |_::r,_,x=>m1y r x.2
def vEnc:(l:List (Nat×Ev.Ty))->{u:Type}->a1m l u->List (Nat×AV)
 |[],_,_=>[]
 |(i,t)::r,_,x=>(i,avOf t x.1)::vEnc r x.2
def b1x:(l:List (Nat×Ev.Ty))->{u:Type}->a1m l u->u
 |[],_,x=>x
 |_::r,_,x=>b1x r x.2
def oEnc:(l:List (Nat×OT))->b1d l->List (Nat×AObj)
 |[],_=>[]
 |(k,o)::r,x=>(k,o.enc x.1)::oEnc r x.2
def rEnc(l:List (Nat×Ref)):List (Nat×AV):=l.map λp=>(p.1,p.2.av)
def Tm.enc (t:Tm)(x:t.den):ASt:=⟨rEnc t.rs++(vEnc t.vs x++mEnc t.ms (b1x t.vs x)),oEnc t.os (m1y t.ms (b1x t.vs x))⟩
def rDec(fr:List (Nat×AV)):List (Nat×Ref)->Bool
 |[]=>true
 |(i,c)::r=>c.isv (lkF fr i)&&rDec fr r
def vDec(fr:List (Nat×AV)):(l:List (Nat×Ev.Ty))->{u:Type}->Option u->Option (a1m l u)
 |[],_,u=>u
 |(i,t)::r,_,u=>(m0p t (lkF fr i)).bind λx=>(vDec fr r u).bind λy=>some (x,y)
def mDec(fr:List (Nat×AV)):(l:List (Nat×List FT))->{u:Type}->Option u->Option (b1y l u)
 |[],_,u=>u
 |(i,t)::r,_,u=>(p2w fr i).bind λcs=>(FT.dec t cs).bind λx=>(mDec fr r u).bind λy=>some (x,y)
def oDec(ob:List (Nat×AObj)):(l:List (Nat×OT))->Option (b1d l)
 |[]=>some ()
 |(k,o)::r=>(o.dec (lkO ob k)).bind λx=>(oDec ob r).bind λy=>some (x,y)
def Tm.dec (t:Tm)(s:ASt):Option t.den:=bif rDec s.fr t.rs then vDec s.fr t.vs (mDec s.fr t.ms (oDec s.ob t.os))else none
section
omit [Tabs]in
theorem k0q{w:World}{F:Nat->Prop}{ρ:Env}{tm:Array Value}{fr:List (Nat×AV)}:∀{l:List (Nat×Ev.Ty)} {u:Type} {z:Option u} {x:a1m l u},vDec fr l z=some x->z=some (b1x l x)/\
  ∀p∈vEnc l x,∀v,RelAV w F ρ tm (lkF fr p.1) v->RelAV w F ρ tm p.2 v
 |[],u,z,x,h=>⟨h,λp hp=>by cases hp⟩
 |(i,t)::r,u,z,x,h=>by
  simp only[vDec,r2m,r2l]at h;obtain⟨y,h1,q,h2,rfl⟩:=h;obtain⟨h3,h4⟩:=k0q h2;refine⟨h3,λp hp v hv=>?_⟩;rcases r2s.1 hp with rfl|hp
  ·exact e0w h1 hv
  ·exact h4 p hp v hv
omit [Tabs]in
theorem s0j{w:World}{F:Nat->Prop}{ρ:Env}{tm:Array Value}{fr:List (Nat×AV)}:∀{l:List (Nat×List FT)} {u:Type} {z:Option u} {x:b1y l u},mDec fr l z=some x->z=some (m1y l x)/\
  ∀p∈mEnc l x,∀v,RelAV w F ρ tm (lkF fr p.1) v->RelAV w F ρ tm p.2 v
 |[],u,z,x,h=>⟨h,λp hp=>by cases hp⟩
 |(i,t)::r,u,z,x,h=>by
  simp only[mDec,r2m,r2l]at h;obtain⟨cs,bE,y,h1,q,h2,rfl⟩:=h;obtain⟨h3,h4⟩:=s0j h2;refine⟨h3,λp hp v hv=>?_⟩;rcases r2s.1 hp with rfl|hp
  ·have hl:=FT.dec_le (w:=w) (F:=F) (ρ:=ρ) h1
   unfold p2w at bE;unfold z0m at hv⊢;cases hb:Nat.ble 1000000 i with
   |true=>
    rw[hb,u2j]at bE hv;rw[u2j];dsimp only at hv⊢;split at bE
    ·rename_i c hc
     cases bE;rw[hc]at hv;cases hv with
     |cell _ _ hv=>
      match hq:FT.enc t y,hl with
      |[z],hl=>exact .cell _ _ (hl.1 _ hv)
      |[],hl=>exact hl.elim
      |_::_::_,hl=>exact hl.2.elim
    ·cases bE
   |false=>
    rw[hb,u2k]at bE hv;rw[u2k];dsimp only at hv⊢;split at bE
    ·rename_i cT hc
     cases bE;rw[hc]at hv;cases hv with
     |agg cs arr hs hh=>exact .agg _ arr (hs.trans hl.length) λi hi=>hl.get i (by rw[hl.length];exact hi) hi _ (hh i (by rw[hl.length];exact hi))
    ·cases bE
  ·exact h4 p hp v hv
omit [Tabs]in
theorem d1t{w:World}{F:Nat->Prop}{ρ:Env}{tm:Array Value}{fr:List (Nat×AV)}:∀{l:List (Nat×Ref)},rDec fr l=true->∀p∈rEnc l,∀v,RelAV w F ρ tm (lkF fr p.1) v->RelAV w F ρ tm p.2 v
 |[],_,p,hp=>by cases hp
 |(i,c)::r,h,p,hp=>by
  simp only[rDec,r2i]at h;intro v hv;rcases r2s.1 hp with rfl|hp
  ·dsimp only at hv⊢
   rw[Ref.isv_eq h.1]at hv;exact hv
  ·exact d1t h.2 p hp v hv
omit [Tabs]in
theorem h1u{w:World}{F:Nat->Prop}{ρ:Env}{ob:List (Nat×AObj)}:∀{l:List (Nat×OT)} {x:b1d l},oDec ob l=some x->∀p∈oEnc l x,RelOb w F ρ p.1 (lkO ob p.1)->RelOb w F ρ p.1 p.2
 |[],_,_,p,hp=>by cases hp
 |(k,o)::r,x,h,p,hp=>by
  simp only[oDec,r2m,r2l]at h;obtain⟨y,h1,q,h2,rfl⟩:=h;intro hv;rcases r2s.1 hp with rfl|hp
  ·exact OT.dec_le h1 hv
  ·exact h1u h2 p hp hv
omit [Tabs]in
theorem y0g{l:List (Nat×AV)}{i:Nat}:lkF l i=.junk\/(i,lkF l i)∈l:=by
 induction l with
 |nil=>exact .inl rfl
 |cons p r ih=>
  obtain⟨j,x⟩:=p;simp only[lkF];cases hb:Nat.beq i j with
  |true=>rw[r2h hb];exact .inr (by simp)
  |false=>
   simp only[u2k];rcases ih with h|h
   ·exact .inl h
   ·exact .inr (s2x _ h)
omit [Tabs]in
theorem u1u{l:List (Nat×AObj)}{i:Nat}:(lkO l i=.gone/\∀p∈l,p.1≠i)\/(i,lkO l i)∈l:=by
 induction l with
 |nil=>exact .inl ⟨rfl,by simp⟩
 |cons p r ih=>
  obtain⟨j,x⟩:=p;simp only[lkO];cases hb:Nat.beq i j with
  |true=>rw[r2h hb];exact .inr (by simp)
  |false=>
   simp only[u2k];rcases ih with h|h
   ·exact .inl ⟨h.1,λp hp=>by
     rcases r2s.1 hp with rfl|hp
     ·exact λe=>s2d hb e.symm
     ·exact h.2 p hp⟩
   ·exact .inr (s2x _ h)
omit [Tabs]in
theorem j0i:∀(l:List (Nat×OT)) (x:b1d l),(oEnc l x).map (·.1)=l.map (·.1)
 |[],_=>rfl
 |(k,o)::r,x=>by simp[oEnc,j0i r x.2]
theorem Tm.dec_rel {N:Nat}{F:Nat->Prop}{ρ:Env}{a:Act}{w:World}{t:Tm}{s:ASt}{x:t.den}(h:t.dec s=some x)(hr:Rel N F ρ s a w):∃ρ',Rel N F ρ' (t.enc x) a w/\Fr F ρ w F ρ' w:=by
 unfold Tm.dec at h;cases hb:rDec s.fr t.rs with
 |false=>rw[hb]at h;cases h
 |true=>
  rw[hb]at h;have hs:∀j l,(if j∈t.os.map (·.1)then ρ j else none)=some l->ρ j=some l:=by
   intro j l hj;split at hj
   ·exact hj
   ·cases hj
  refine⟨λj=>if j∈t.os.map (·.1)then ρ j else none,⟨⟨λb hb hl=>?_,hr.rw.lt,λk k' l l' b hk aG=>hr.rw.inj k k' l l' b (hs _ _ hk) (hs _ _ aG),hr.rw.tab⟩,λi=>?_,λk=>?_,hr.sz,hr.df⟩,?_⟩
  ·obtain⟨j,l,hj,hb'⟩:=hl
   exact hr.rw.dis b hb ⟨j,l,hs _ _ hj,hb'⟩
  ·have mA:RelAV w F (λj=>if j∈t.os.map (·.1)then ρ j else none) a.tmps (lkF s.fr i) (a.tmps.getD i undef):=(hr.fr i).mono (λ_ _=>rfl) (λ_ h=>h) hs
   rcases y0g (l:=(t.enc x).fr) (i:=i)with e|e
   ·rw[e];exact .junk _
   ·simp only[Tm.enc,s2j]at e⊢
    rcases e with e|e
    ·exact d1t hb _ e _ mA
    ·rcases e with e|e
     ·exact(k0q h).2 _ e _ mA
     ·exact(s0j (k0q (w:=w) (F:=F) (ρ:=ρ) (tm:=a.tmps) h).1).2 _ e _ mA
  ·rcases u1u (l:=(t.enc x).ob) (i:=k)with⟨e,hn⟩| e
   ·rw[e]
    refine .gone (if_neg λhk=>?_);have:k∈(oEnc t.os (m1y t.ms (b1x t.vs x))).map (·.1):=by rw[j0i];exact hk
    obtain⟨p,hp,mX⟩:=s2c.1 this;exact hn p hp mX
   ·have hk:k∈t.os.map (·.1):=by
     rw [<-j0i t.os (m1y t.ms (b1x t.vs x))];exact s2c.2 ⟨_,e,rfl⟩
    exact h1u (s0j (w:=w) (F:=F) (ρ:=ρ) (tm:=a.tmps) (k0q (w:=w) (F:=F) (ρ:=ρ) (tm:=a.tmps) h).1).1 _ e ((hr.ob k).cut (if_pos hk) hs)
  ·refine⟨rfl,rfl,rfl,r2q _,λ_ h=>h,λ_ _ _=>rfl,λb _ hh=>?_,λk _=>?_⟩
   ·rcases hh with hf|⟨j,l,hj,hb⟩
    ·exact .inl hf
    ·exact .inr ⟨j,l,hs _ _ hj,hb⟩
   ·split
    ·exact Stab.refl _ _
    ·cases ρ k<;>trivial
end
end Esp

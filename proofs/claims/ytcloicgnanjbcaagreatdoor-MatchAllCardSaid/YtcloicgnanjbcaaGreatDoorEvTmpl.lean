import Derived.Test.YtcloicgnanjbcaaGreatDoorEv
namespace Esp
open Go
set_option linter.unusedSimpArgs false
set_option linter.unusedVariables false
variable [Tabs]
inductive Ref where
 | own(k:Nat)
 | ptr(k off:Nat)
 | fn(f:FuncId)
 | nilp
 | clo(f:FuncId)(ks:List Nat)
 | nils
 | pn(k:Nat)
 | nili
 | ifo(t k:Nat)
 | mpr(k:Nat)
 | cls(f:FuncId)(k b o:Nat)
 | two(x y:Ref)
 | hd(b o:Nat)
 | nilf
 | bnd(f:FuncId)(ks:List Nat)
 deriving Inhabited
def k1g(ks:List Nat):List AC:=ks.map fun k=> .ptr k 0
def x0p:List Nat→List AC→Bool
 | [], []=>true
 | k::r, .ptr j 0::cs=>Nat.beq k j&&x0p r cs
 | _,_=>false
omit [Tabs]in
theorem q0d: ∀{ks:List Nat} {cs:List AC},x0p ks cs=true→cs=k1g ks
 | [], [],_=>rfl
 | k::r, .ptr j 0::cs,h=>by
  simp only [x0p,j2s]at h;rw [q0d h.2,j2t h.1];rfl
 | [],_::_,h=>by cases h
 | _::_, [],h=>by cases h
 | _::_, .ptr _ (_+1)::_,h=>by cases h
 | _::_, .own _::_,h=>by cases h
 | _::_, .elt _ _ _ _::_,h=>by cases h
 | _::_, .osl _ _ _ _::_,h=>by cases h
 | _::_, .pn _::_,h=>by cases h
 | _::_, .ifo _ _::_,h=>by cases h
 | _::_, .mpr _::_,h=>by cases h
 | _::_, .d _::_,h=>by cases h
 | _::_, .fn _ _ _::_,h=>by cases h
 | _::_, .junk::_,h=>by cases h
def Ref.ac:Ref→AC
 | .own k=> .own k
 | .ptr k off=> .ptr k off
 | .fn f=> .fn (.func f) [] []
 | .nilp=> .d (.sc (.pointer none))
 | .clo f ks=> .fn (.func f) [] (k1g ks)
 | .nils=> .d (.sc (.slice none 0 0))
 | .pn k=> .pn k
 | .nili=> .d (.sc .nilIface)
 | .ifo t k=> .ifo t k
 | .mpr k=> .mpr k
 | .cls f k b o=> .fn (.func f) [] [.own k, .d (.sc (.pointer (some ⟨b,o,none⟩)))]
 | .two _ _=> .junk
 | .hd b o=> .d (.sc (.pointer (some ⟨b,o,none⟩)))
 | .nilf=> .d (.sc .nilFunc)
 | .bnd f ks=> .fn (.func f) (k1g ks) []
def Ref.is:Ref→AC→Bool
 | .own k, .own j=>Nat.beq k j
 | .ptr k o, .ptr j p=>Nat.beq k j&&Nat.beq o p
 | .fn f, .fn (.func g) [] []=>Nat.beq f g
 | .nilp, .d (.sc (.pointer none))=>true
 | .clo f ks, .fn (.func g) [] cs=>Nat.beq f g&&x0p ks cs
 | .nils, .d (.sc (.slice none 0 0))=>true
 | .pn k, .pn j=>Nat.beq k j
 | .nili, .d (.sc .nilIface)=>true
 | .ifo t k, .ifo u j=>Nat.beq t u&&Nat.beq k j
 | .mpr k, .mpr j=>Nat.beq k j
 | .cls f k b o, .fn (.func g) [] [.own j, .d (.sc (.pointer (some ⟨c,q,none⟩)))]=>Nat.beq f g&&Nat.beq k j&&Nat.beq b c&&Nat.beq o q
 | .hd b o, .d (.sc (.pointer (some ⟨c,q,none⟩)))=>Nat.beq b c&&Nat.beq o q
 | .nilf, .d (.sc .nilFunc)=>true
 | .bnd f ks, .fn (.func g) fs []=>Nat.beq f g&&x0p ks fs
 | _,_=>false
omit [Tabs]in
theorem Ref.is_eq{r:Ref}{c:AC}(h:r.is c=true):c=r.ac:=by
 unfold Ref.is at h;split at h
 ·rw [j2t h];rfl
 ·simp only [j2s]at h
  rw [j2t h.1,j2t h.2];rfl
 ·rw [j2t h];rfl
 ·rfl
 ·simp only [j2s]at h
  rw [j2t h.1,q0d h.2];rfl
 ·rfl
 ·rw [j2t h];rfl
 ·rfl
 ·simp only [j2s]at h
  rw [j2t h.1,j2t h.2];rfl
 ·rw [j2t h];rfl
 ·simp only [j2s]at h
  rw [j2t h.1.1.1,j2t h.1.1.2,j2t h.1.2,j2t h.2];rfl
 ·simp only [j2s]at h
  rw [j2t h.1,j2t h.2];rfl
 ·rfl
 ·simp only [j2s]at h
  rw [j2t h.1,q0d h.2];rfl
 ·cases h
def Ref.av:Ref→AV
 | .two x y=> .agg [x.ac,y.ac]
 | r=> .cell r.ac
def Ref.isv:Ref→AV→Bool
 | .two x y, .agg [a,b]=>x.is a&&y.is b
 | .two _ _,_=>false
 | r, .cell a=>r.is a
 | _,_=>false
omit [Tabs]in
theorem Ref.isv_eq{r:Ref}{v:AV}(h:r.isv v=true):v=r.av:=by
 unfold Ref.isv at h;split at h
 ·rw [j2s]at h
  rw [Ref.is_eq h.1,Ref.is_eq h.2];rfl
 ·cases h
 ·rename_i h1
  rw [Ref.is_eq h];cases r<;>first | rfl | exact absurd rfl (h1 _ _)
 ·cases h
inductive FT where
 | d(t:Ev.Ty)
 | ref(x:Ref)
 | rp(l:List Ev.Ty)
 deriving Inhabited
@[reducible] def v0s:List Ev.Ty→Type
  | []=>Unit
  | t::r=>t.den×v0s r
def z1v:(l:List Ev.Ty)→v0s l→List D
 | [],_=> []
 | t::r,x=>cells t x.1++z1v r x.2
def s1e:(l:List Ev.Ty)→List D→Option (v0s l)
 | [], []=>some ()
 | [],_=>none
 | t::r,ds=>(rd t (ds.take t.sz)).bind fun x=>(s1e r (ds.drop t.sz)).bind fun y=>some (x,y)
omit [Tabs]in
theorem f1h: ∀{l:List Ev.Ty} {ds:List D} {x:v0s l},s1e l ds=some x→dsle ds (z1v l x)
 | [], [],_,_=>trivial
 | [],_::_,_,h=>by cases h
 | t::r,ds,x,h=>by
  simp only [s1e,j2w,j2v]at h;obtain⟨y,h1,z,h2,rfl⟩:=h;have:=(t0c h1).append (f1h h2);rwa [List.take_append_drop]at this
@[reducible] def FT.dens:List FT→Type
  | []=>Unit
  | .rp l::r=>v0s l×FT.dens r
  | .d t::r=>t.den×FT.dens r
  | .ref _::r=>FT.dens r
def FT.enc:(l:List FT)→FT.dens l→List AC
 | [],_=> []
 | .rp l::r,x=> .d (.rp (z1v l x.1))::FT.enc r x.2
 | .d t::r,x=>(cells t x.1).map .d++FT.enc r x.2
 | .ref c::r,x=>c.ac::FT.enc r x
def s1i:Nat→List AC→Option (List D×List AC)
 | 0,cs=>some ([],cs)
 | n+1, .d x::cs=>(s1i n cs).bind fun p=>some (x::p.1,p.2)
 | _,_=>none
def a2b:AC→Option (List D)
 | .d (.rp ds)=>some ds
 | _=>none
omit [Tabs]in
theorem u1s{c:AC}{ds:List D}(h:a2b c=some ds):c= .d (.rp ds):=by
 unfold a2b at h;split at h
 ·cases h;rfl
 ·cases h
def FT.dec:(l:List FT)→List AC→Option (FT.dens l)
 | [], []=>some ()
 | .rp l::r,c::cs=>(a2b c).bind fun ds=>(s1e l ds).bind fun x=>(FT.dec r cs).bind fun y=>some (x,y)
 | .d t::r,cs=>(s1i t.sz cs).bind fun p=>(rd t p.1).bind fun x=>(FT.dec r p.2).bind fun y=>some (x,y)
 | .ref c::r,x::cs=>bif c.is x then FT.dec r cs else none
 | _,_=>none
def acsle(w:World)(F:Nat→Prop)(ρ:Env):List AC→List AC→Prop
 | [], []=>True
 | x::r,y::s=>(∀v,RelAC w F ρ x v→RelAC w F ρ y v)∧acsle w F ρ r s
 | _,_=>False
omit [Tabs]in
theorem acsle.length{w:World}{F:Nat→Prop}{ρ:Env}: ∀{a b:List AC},acsle w F ρ a b→a.length=b.length
 | [], [],_=>rfl
 | x::r,y::s,h=>by simp [acsle.length h.2]
 | [],_::_,h=>h.elim
 | _::_, [],h=>h.elim
omit [Tabs]in
theorem acsle.get{w:World}{F:Nat→Prop}{ρ:Env}: ∀{a b:List AC},acsle w F ρ a b→∀i (h1:i<a.length) (h2:i<b.length) v,RelAC w F ρ a[i] v→RelAC w F ρ b[i] v
 | x::r,y::s,h,0,_,_=>h.1
 | x::r,y::s,h,i+1,h1,h2=>acsle.get h.2 i (by simpa using h1) (by simpa using h2)
 | [], [],_,i,h1,_=>by simp at h1
 | [],_::_,h,_,_,_=>h.elim
 | _::_, [],h,_,_,_=>h.elim
omit [Tabs]in
theorem acsle.append{w:World}{F:Nat→Prop}{ρ:Env}: ∀{a b c d:List AC},acsle w F ρ a b→acsle w F ρ c d→acsle w F ρ (a++c) (b++d)
 | [], [],_,_,_,h=>h
 | x::r,y::s,_,_,h,k=>⟨h.1,acsle.append h.2 k⟩
 | [],_::_,_,_,h,_=>h.elim
 | _::_, [],_,_,h,_=>h.elim
omit [Tabs]in
theorem acsle.of_dsle{w:World}{F:Nat→Prop}{ρ:Env}: ∀{a b:List D},dsle a b→acsle w F ρ (a.map .d) (b.map .d)
 | [], [],_=>trivial
 | x::r,y::s,h=>⟨fun v hv=>by
    cases hv with
    | d x v hd=>exact .d _ _ (h.1 _ _ _ hd),acsle.of_dsle h.2⟩
 | [],_::_,h=>h.elim
 | _::_, [],h=>h.elim
omit [Tabs]in
theorem e1b: ∀{n:Nat} {cs:List AC} {p:List D×List AC},s1i n cs=some p→cs=p.1.map .d++p.2
 | 0,cs,p,h=>by cases h;rfl
 | n+1, .d x::cs,p,h=>by
  simp only [s1i,j2w,j2v]at h;obtain⟨q,h1,rfl⟩:=h;simp [e1b h1]
 | n+1, [],_,h=>by cases h
 | n+1, .own _::_,_,h=>by cases h
 | n+1, .ptr _ _::_,_,h=>by cases h
 | n+1, .elt _ _ _ _::_,_,h=>by cases h
 | n+1, .osl _ _ _ _::_,_,h=>by cases h
 | n+1, .pn _::_,_,h=>by cases h
 | n+1, .ifo _ _::_,_,h=>by cases h
 | n+1, .mpr _::_,_,h=>by cases h
 | n+1, .fn _ _ _::_,_,h=>by cases h
 | n+1, .junk::_,_,h=>by cases h
omit [Tabs]in
theorem FT.dec_le{w:World}{F:Nat→Prop}{ρ:Env}: ∀{l:List FT} {cs:List AC} {x:FT.dens l},FT.dec l cs=some x→acsle w F ρ cs (FT.enc l x)
 | [], [],_,_=>trivial
 | [],_::_,_,h=>by cases h
 | .d t::r,cs,x,h=>by
  simp only [FT.dec,j2w,j2v]at h;obtain⟨p,h1,y,h2,z,h3,rfl⟩:=h;rw [e1b h1];exact(acsle.of_dsle (t0c h2)).append (FT.dec_le h3)
 | .ref c::r,y::cs,x,h=>by
  simp only [FT.dec]at h;cases hb:c.is y with
  | false=>rw [hb]at h;cases h
  | true=>
   rw [hb]at h;rw [Ref.is_eq hb];exact⟨fun _ h=>h,FT.dec_le h⟩
 | .ref c::r, [],x,h=>by cases h
 | .rp l::r,y::cs,x,h=>by
  simp only [FT.dec,j2w,j2v]at h;obtain⟨ds,h0,y,h1,z,h2,rfl⟩:=h;rw [u1s h0];exact⟨fun v hv=>by
   cases hv with
   | d _ _ hd=>exact .d _ _ (k1d (f1h h1) _ _ _ hd),FT.dec_le h2⟩
 | .rp l::r, [],x,h=>by cases h
def tyLe:Option TypeId→Option TypeId→Bool
 | none,_=>true
 | some a,some b=>Nat.beq a b
 | _,_=>false
omit [Tabs]in
theorem x1q{a b:Option TypeId}(h:tyLe a b=true){t:TypeId}(hb: ∀t',b=some t' →t=t'): ∀t',a=some t' →t=t' :=by
 intro t' ha;subst ha;cases b with
 | none=>cases h
 | some b=>rw [hb b rfl];exact(j2t h).symm
inductive OT where
 | arr(te:TypeId)(t:Ev.Ty)
 | box(l:List FT)(ty:Option TypeId:=none)
 | it
 | mi(kt vt:Ev.Ty)
 | mp(t:TypeId)(kt vt:Ev.Ty)(dn:Bool)
 deriving Inhabited
@[reducible] def OT.den:OT→Type
  | .arr _ t=>List t.den
  | .box l _=>FT.dens l
  | .it=>ByteArray×Nat
  | .mi kt vt=>List (kt.den×vt.den)
  | .mp _ kt vt _=>List (kt.den×vt.den)
def OT.enc:(o:OT)→o.den→AObj
 | .arr te t,xs=> .na te t xs
 | .box l ty,x=> .box (FT.enc l x) ty
 | .it,x=> .it x.1 x.2
 | .mi kt vt,x=> .mi kt vt x none
 | .mp t kt vt dn,x=> .mp t kt vt x dn
def OT.dec:(o:OT)→AObj→Option o.den
 | .arr te t, .na te' t' xs=>bif Nat.beq te te' then Ev.castL t' t xs else none
 | .arr te t, .arr te' e 0 []=>bif Nat.beq te te' &&Nat.beq e t.sz then some []else none
 | .box l ty, .box cs ty' =>bif tyLe ty ty' then FT.dec l cs else none
 | .it, .it s pos=>some (s,pos)
 | .mi kt vt, .mi kt' vt' l _=>Ev.castM kt' kt vt' vt l
 | .mp t kt vt dn, .mp t' kt' vt' xs dn' =>bif Nat.beq t t' && (!dn || dn')then Ev.castM kt' kt vt' vt xs else none
 | _,_=>none
section
omit [Tabs]in
theorem OT.dec_le{w:World}{F:Nat→Prop}{ρ:Env}{k:Nat}{o:OT}{b:AObj}{x:o.den}(h:o.dec b=some x)(hr:RelOb w F ρ k b):RelOb w F ρ k (o.enc x):=by
 unfold OT.dec at h;split at h
 ·rename_i te t te' t' xs
  cases hb:Nat.beq te te' with
  | false=>rw [hb]at h;cases h
  | true=>
   rw [hb]at h;obtain⟨e,rfl⟩:=Ev.castL_eq h;subst e;rw [j2t hb];exact hr
 ·rename_i te t te' e
  cases hb:(Nat.beq te te' &&Nat.beq e t.sz)with
  | false=>rw [hb]at h;cases h
  | true=>
   rw [hb]at h;cases h;simp only [j2s]at hb;have:=j2t hb.2;subst this;rw [j2t hb.1];exact hr.to_na rfl trivial
 ·rename_i l ty cs ty'
  cases ht:tyLe ty ty' with
  | false=>rw [ht]at h;cases h
  | true=>
  rw [ht,cond_true]at h;cases hr with
  | box cs oty b c t hoty hk hb hs hh=>
   have:=FT.dec_le (w:=w) (F:=F) (ρ:=ρ) h;refine .box _ _ b c t (x1q ht hoty) hk hb (hs.trans this.length) fun i hi=>this.get i (by rw [this.length];exact hi) hi _ (hh i (by rw [this.length];exact hi))
 ·cases h
  exact hr
 ·rename_i kt vt kt' vt' xs cur
  obtain⟨e1,e2,rfl⟩:=Ev.castM_eq h;subst e1;subst e2;cases hr with
  | mi _ _ _ _ b mo si se la hk hb hm=>
   refine .mi _ _ _ _ b mo si se la hk hb ?_;rcases hm with⟨h1,h2,h3⟩ | ⟨m,es,js,h1,h2,h3,h4,h5,h6,h7,h8,h9⟩
   ·exact .inl ⟨h1,h2,rfl⟩
   ·exact .inr ⟨m,es,js,h1,h2,h3,h4,h5,h6,h7,h8,fun e he=>by cases he⟩
 ·rename_i t kt vt dn t' kt' vt' xs dn'
  cases hb:(Nat.beq t t' && (!dn || dn'))with
  | false=>rw [hb]at h;cases h
  | true=>
   rw [hb]at h;rw [j2s]at hb;obtain⟨e1,e2,rfl⟩:=Ev.castM_eq h;subst e1;subst e2;rw [j2t hb.1];cases hr with
   | mp _ _ _ _ b es c hk hb2 hs hh _ hd=>
    refine .mp _ _ _ _ b es c hk hb2 hs hh dn ⟨fun hdt=>hd.1 ?_,hd.2⟩;subst hdt;simpa using hb.2
 ·cases h
end
structure Tm where
 rs:List (Nat×Ref)
 vs:List (Nat×Ev.Ty)
 os:List (Nat×OT)
 ms:List (Nat×List FT)
@[reducible] def x0g:List (Nat×Ev.Ty)→Type→Type
  | [],u=>u
  | (_,t)::r,u=>t.den×x0g r u
@[reducible] def x0u:List (Nat×OT)→Type
  | []=>Unit
  | (_,o)::r=>o.den×x0u r
@[reducible] def v0q:List (Nat×List FT)→Type→Type
  | [],u=>u
  | (_,l)::r,u=>FT.dens l×v0q r u
@[reducible] def Tm.den(t:Tm):Type:=x0g t.vs (v0q t.ms (x0u t.os))
def w0z(i:Nat)(cs:List AC):Nat×AV:=bif Nat.ble 1000000 i then(i - 1000000, .cell (cs.headD .junk))else(i, .agg cs)
def c2s(fr:List (Nat×AV))(i:Nat):Option (List AC):=
 bif Nat.ble 1000000 i then(match lkF fr (i - 1000000)with
  | .cell c=>some [c]
  | _=>none)else match lkF fr i with
  | .agg cs=>some cs
  | _=>none
def mEnc:(l:List (Nat×List FT))→{u:Type}→v0q l u→List (Nat×AV)
 | [],_,_=> []
 | (i,t)::r,_,x=>w0z i (FT.enc t x.1)::mEnc r x.2
def b1m:(l:List (Nat×List FT))→{u:Type}→v0q l u→u
 | [],_,x=>x
 | _::r,_,x=>b1m r x.2
def vEnc:(l:List (Nat×Ev.Ty))→{u:Type}→x0g l u→List (Nat×AV)
 | [],_,_=> []
 | (i,t)::r,_,x=>(i,avOf t x.1)::vEnc r x.2
def u0a:(l:List (Nat×Ev.Ty))→{u:Type}→x0g l u→u
 | [],_,x=>x
 | _::r,_,x=>u0a r x.2
def oEnc:(l:List (Nat×OT))→x0u l→List (Nat×AObj)
 | [],_=> []
 | (k,o)::r,x=>(k,o.enc x.1)::oEnc r x.2
def rEnc(l:List (Nat×Ref)):List (Nat×AV):=l.map fun p=>(p.1,p.2.av)
def Tm.enc(t:Tm)(x:t.den):ASt:=⟨rEnc t.rs++(vEnc t.vs x++mEnc t.ms (u0a t.vs x)),oEnc t.os (b1m t.ms (u0a t.vs x))⟩
def rDec(fr:List (Nat×AV)):List (Nat×Ref)→Bool
 | []=>true
 | (i,c)::r=>c.isv (lkF fr i)&&rDec fr r
def vDec(fr:List (Nat×AV)):(l:List (Nat×Ev.Ty))→{u:Type}→Option u→Option (x0g l u)
 | [],_,u=>u
 | (i,t)::r,_,u=>(n0e t (lkF fr i)).bind fun x=>(vDec fr r u).bind fun y=>some (x,y)
def mDec(fr:List (Nat×AV)):(l:List (Nat×List FT))→{u:Type}→Option u→Option (v0q l u)
 | [],_,u=>u
 | (i,t)::r,_,u=>(c2s fr i).bind fun cs=>(FT.dec t cs).bind fun x=>(mDec fr r u).bind fun y=>some (x,y)
def oDec(ob:List (Nat×AObj)):(l:List (Nat×OT))→Option (x0u l)
 | []=>some ()
 | (k,o)::r=>(o.dec (lkO ob k)).bind fun x=>(oDec ob r).bind fun y=>some (x,y)
def Tm.dec(t:Tm)(s:ASt):Option t.den:=bif rDec s.fr t.rs then vDec s.fr t.vs (mDec s.fr t.ms (oDec s.ob t.os))else none
section
omit [Tabs]in
theorem h0p{w:World}{F:Nat→Prop}{ρ:Env}{tm:Array Value}{fr:List (Nat×AV)}: ∀{l:List (Nat×Ev.Ty)} {u:Type} {z:Option u} {x:x0g l u},vDec fr l z=some x→z=some (u0a l x)∧
  ∀p∈vEnc l x,∀v,RelAV w F ρ tm (lkF fr p.1) v→RelAV w F ρ tm p.2 v
 | [],u,z,x,h=>⟨h,fun p hp=>by cases hp⟩
 | (i,t)::r,u,z,x,h=>by
  simp only [vDec,j2w,j2v]at h;obtain⟨y,h1,q,h2,rfl⟩:=h;obtain⟨h3,h4⟩:=h0p h2;refine⟨h3,fun p hp v hv=> ?_⟩;rcases k2b.1 hp with rfl | hp
  ·exact e0r h1 hv
  ·exact h4 p hp v hv
omit [Tabs]in
theorem l0u{w:World}{F:Nat→Prop}{ρ:Env}{tm:Array Value}{fr:List (Nat×AV)}: ∀{l:List (Nat×List FT)} {u:Type} {z:Option u} {x:v0q l u},mDec fr l z=some x→z=some (b1m l x)∧
  ∀p∈mEnc l x,∀v,RelAV w F ρ tm (lkF fr p.1) v→RelAV w F ρ tm p.2 v
 | [],u,z,x,h=>⟨h,fun p hp=>by cases hp⟩
 | (i,t)::r,u,z,x,h=>by
  simp only [mDec,j2w,j2v]at h;obtain⟨cs,hcs,y,h1,q,h2,rfl⟩:=h;obtain⟨h3,h4⟩:=l0u h2;refine⟨h3,fun p hp v hv=> ?_⟩;rcases k2b.1 hp with rfl | hp
  ·have hl:=FT.dec_le (w:=w) (F:=F) (ρ:=ρ) h1
   unfold c2s at hcs;unfold w0z at hv⊢;cases hb:Nat.ble 1000000 i with
   | true=>
    rw [hb,cond_true]at hcs hv;rw [cond_true];dsimp only at hv⊢;split at hcs
    ·rename_i c hc
     cases hcs;rw [hc]at hv;cases hv with
     | cell _ _ hv=>
      match hq:FT.enc t y,hl with
      | [z],hl=>exact .cell _ _ (hl.1 _ hv)
      | [],hl=>exact hl.elim
      | _::_::_,hl=>exact hl.2.elim
    ·cases hcs
   | false=>
    rw [hb,cond_false]at hcs hv;rw [cond_false];dsimp only at hv⊢;split at hcs
    ·rename_i cs' hc
     cases hcs;rw [hc]at hv;cases hv with
     | agg cs arr hs hh=>exact .agg _ arr (hs.trans hl.length) fun i hi=>hl.get i (by rw [hl.length];exact hi) hi _ (hh i (by rw [hl.length];exact hi))
    ·cases hcs
  ·exact h4 p hp v hv
omit [Tabs]in
theorem c1q{w:World}{F:Nat→Prop}{ρ:Env}{tm:Array Value}{fr:List (Nat×AV)}: ∀{l:List (Nat×Ref)},rDec fr l=true→∀p∈rEnc l,∀v,RelAV w F ρ tm (lkF fr p.1) v→RelAV w F ρ tm p.2 v
 | [],_,p,hp=>by cases hp
 | (i,c)::r,h,p,hp=>by
  simp only [rDec,j2s]at h;intro v hv;rcases k2b.1 hp with rfl | hp
  ·dsimp only at hv⊢
   rw [Ref.isv_eq h.1]at hv;exact hv
  ·exact c1q h.2 p hp v hv
omit [Tabs]in
theorem c1h{w:World}{F:Nat→Prop}{ρ:Env}{ob:List (Nat×AObj)}: ∀{l:List (Nat×OT)} {x:x0u l},oDec ob l=some x→∀p∈oEnc l x,RelOb w F ρ p.1 (lkO ob p.1)→RelOb w F ρ p.1 p.2
 | [],_,_,p,hp=>by cases hp
 | (k,o)::r,x,h,p,hp=>by
  simp only [oDec,j2w,j2v]at h;obtain⟨y,h1,q,h2,rfl⟩:=h;intro hv;rcases k2b.1 hp with rfl | hp
  ·exact OT.dec_le h1 hv
  ·exact c1h h2 p hp hv
omit [Tabs]in
theorem u0r{l:List (Nat×AV)}{i:Nat}:lkF l i= .junk∨(i,lkF l i)∈l:=by
 induction l with
 | nil=>exact .inl rfl
 | cons p r ih=>
  obtain⟨j,x⟩:=p;simp only [lkF];cases hb:Nat.beq i j with
  | true=>rw [j2t hb];exact .inr (by simp)
  | false=>
   simp only [cond_false];rcases ih with h | h
   ·exact .inl h
   ·exact .inr (l2c _ h)
omit [Tabs]in
theorem p1j{l:List (Nat×AObj)}{i:Nat}:(lkO l i= .gone∧∀p∈l,p.1≠i)∨(i,lkO l i)∈l:=by
 induction l with
 | nil=>exact .inl ⟨rfl,by simp⟩
 | cons p r ih=>
  obtain⟨j,x⟩:=p;simp only [lkO];cases hb:Nat.beq i j with
  | true=>rw [j2t hb];exact .inr (by simp)
  | false=>
   simp only [cond_false];rcases ih with h | h
   ·exact .inl ⟨h.1,fun p hp=>by
     rcases k2b.1 hp with rfl | hp
     ·exact fun e=>k2p hb e.symm
     ·exact h.2 p hp⟩
   ·exact .inr (l2c _ h)
omit [Tabs]in
theorem h0f: ∀(l:List (Nat×OT)) (x:x0u l),(oEnc l x).map (·.1)=l.map (·.1)
 | [],_=>rfl
 | (k,o)::r,x=>by simp [oEnc,h0f r x.2]
theorem Tm.dec_rel{N:Nat}{F:Nat→Prop}{ρ:Env}{a:Act}{w:World}{t:Tm}{s:ASt}{x:t.den}(h:t.dec s=some x)(hr:Rel N F ρ s a w): ∃ρ',Rel N F ρ' (t.enc x) a w∧Fr F ρ w F ρ' w:=by
 unfold Tm.dec at h;cases hb:rDec s.fr t.rs with
 | false=>rw [hb]at h;cases h
 | true=>
  rw [hb]at h;have hs: ∀j l,(if j∈t.os.map (·.1)then ρ j else none)=some l→ρ j=some l:=by
   intro j l hj;split at hj
   ·exact hj
   ·cases hj
  refine⟨fun j=>if j∈t.os.map (·.1)then ρ j else none,⟨⟨fun b hb hl=> ?_,hr.rw.lt,fun k k' l l' b hk hk' =>hr.rw.inj k k' l l' b (hs _ _ hk) (hs _ _ hk'),hr.rw.tab⟩,fun i=> ?_,fun k=> ?_,hr.sz,hr.df⟩, ?_⟩
  ·obtain⟨j,l,hj,hb'⟩:=hl
   exact hr.rw.dis b hb ⟨j,l,hs _ _ hj,hb'⟩
  ·have hri:RelAV w F (fun j=>if j∈t.os.map (·.1)then ρ j else none) a.tmps (lkF s.fr i) (a.tmps.getD i undef):=(hr.fr i).mono (fun _ _=>rfl) (fun _ h=>h) hs
   rcases u0r (l:=(t.enc x).fr) (i:=i)with e | e
   ·rw [e];exact .junk _
   ·simp only [Tm.enc,l2v]at e⊢
    rcases e with e | e
    ·exact c1q hb _ e _ hri
    ·rcases e with e | e
     ·exact(h0p h).2 _ e _ hri
     ·exact(l0u (h0p (w:=w) (F:=F) (ρ:=ρ) (tm:=a.tmps) h).1).2 _ e _ hri
  ·rcases p1j (l:=(t.enc x).ob) (i:=k)with⟨e,hn⟩ | e
   ·rw [e]
    refine .gone (if_neg fun hk=> ?_);have:k∈(oEnc t.os (b1m t.ms (u0a t.vs x))).map (·.1):=by rw [h0f];exact hk
    obtain⟨p,hp,hpk⟩:=k2s.1 this;exact hn p hp hpk
   ·have hk:k∈t.os.map (·.1):=by
     rw [←h0f t.os (b1m t.ms (u0a t.vs x))];exact k2s.2 ⟨_,e,rfl⟩
    exact c1h (l0u (w:=w) (F:=F) (ρ:=ρ) (tm:=a.tmps) (h0p (w:=w) (F:=F) (ρ:=ρ) (tm:=a.tmps) h).1).1 _ e ((hr.ob k).cut (if_pos hk) hs)
  ·refine⟨rfl,rfl,rfl,k2h _,fun _ h=>h,fun _ _ _=>rfl,fun b _ hh=> ?_,fun k _=> ?_⟩
   ·rcases hh with hf | ⟨j,l,hj,hb⟩
    ·exact .inl hf
    ·exact .inr ⟨j,l,hs _ _ hj,hb⟩
   ·split
    ·exact Stab.refl _ _
    ·cases ρ k<;>trivial
end
end Esp

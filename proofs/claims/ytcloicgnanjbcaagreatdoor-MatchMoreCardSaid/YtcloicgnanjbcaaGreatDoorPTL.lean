import Derived.Test.YtcloicgnanjbcaaGreatDoorPA
import Derived.KernelRfl
import Derived.Shelf.Bits.Mul64
import Derived.Test.YtcloicgnanjbcaaGreatDoorEvRead6
noncomputable section
namespace Pure
open Esp Ev Go
set_option linter.unusedSimpArgs false
set_option linter.unusedVariables false
def cmpS(a b:ByteArray):Int:=bif f0r a b then -1 else bif seq a b then 0 else 1
theorem p1o(a b:Int):cmpI a b<0↔a<b:=by
 unfold cmpI
 by_cases h:a<b
 ·simp [h]
 ·by_cases h2:a>b<;>simp [h,h2]
mutual
def ordV:Val→Val→Int
 | .mk k a s l, .mk k' a' s' l' =>bif cmpI k k' !=0 then cmpI k k' else bif cmpI a a' !=0 then cmpI a a' else bif cmpS s s' !=0 then cmpS s s' else ordL l l'
def ordL:List Val→List Val→Int
 | [], []=>0
 | [],_::_=> -1
 | _::_, []=>1
 | x::r,y::t=>bif ordV x y !=0 then ordV x y else ordL r t
end
mutual
def vSz:Val→Nat
 | .mk _ _ _ l=>1+lSz l
def lSz:List Val→Nat
 | []=>0
 | x::r=>1+vSz x+lSz r
end
theorem n0c: ∀l:List Val,l.length≤lSz l
 | []=>Nat.le_refl _
 | x::r=>by have:=n0c r;rw [lSz,List.length_cons];omega
theorem y0k: ∀{l:List Val} {x:Val},x∈l→vSz x<lSz l
 | y::r,x,h=>by
  rw [lSz]
  rcases List.mem_cons.1 h with rfl | h
  ·omega
  ·have:=y0k h;omega
theorem same_eq: ∀(x y:List UInt8),(∀j,j<min x.length y.length→x[j]! =y[j]!)→x.length=y.length→x=y
 | [], [],_,_=>rfl
 | [],_::_,_,h=>by simp at h
 | _::_, [],_,h=>by simp at h
 | a::x,b::y,hj,h=>by
  have h0:a=b:=by simpa using hj 0 (by simp)
  rw [h0,same_eq x y (fun j h=>by simpa using hj (j+1) (by simp only [List.length_cons];omega)) (by simpa using h)]
end Pure
namespace Pure
open Esp Ev Go
set_option linter.unusedSimpArgs false
set_option linter.unusedVariables false
theorem p2a{k n:Int}{s:ByteArray}{l:List Val}(h:vOk (.mk k n s l)):l.length≤maxLen∧∀x∈l,vOk x:=by
 rw [vOk,c0w]at h
 exact h.2.2.2
end Pure
namespace Pure
open Esp Ev Go
set_option linter.unusedSimpArgs false
set_option linter.unusedVariables false
theorem m1y(a b:ByteArray):q15z (a,b,())=some (cmpS a b,()):=by
 unfold q15z q22z cmpS
 dsimp only
 rw [e0b,e0b,Option.bind_some,Option.bind_some]
 dsimp only
 have h:=j0u b a
 cases h1:f0r a b
 ·cases h2:seq a b<;>rfl
 ·rfl
theorem o2x(a b c:Int)(n:Nat)(hn:5≤n):q58z n ([a,b,c],())=some (bif a !=0 then a else bif b !=0 then b else c,()):=by
 unfold q58z
 refine(l0p n _ _ [a,b,c] n 0 (by simp) (by simp;omega)).trans ?_
 unfold a0i d1c
 dsimp only
 cases a !=0
 ·rw [cond_false,cond_false]
  unfold a0i
  dsimp only
  cases b !=0
  ·rw [cond_false,cond_false]
   unfold a0i
   dsimp only
   cases hc:c !=0
   ·have:c=0:=by simpa using hc
    rw [this];rfl
   ·rfl
  ·rfl
 ·rfl
theorem s1u(cmpf:Val×Val×Unit→Option (Int×Unit))(w:List Val): ∀(r p r' :List Val),(∀x∈r,∀y∈w,cmpf (x,y,())=some (ordV x y,()))→(p.length≤w.length→w.drop p.length=r')→p.length≤w.length→
  a0i (fun(i:Int) (x:Val) (u:Unit) (rec:Unit→Option (Int×Unit))=>bif decide ((i:Int) ≥(w.length:Int))then some (1,())else(ix w i).bind fun y=>(cmpf (x,y,())).bind fun c=>bif c.1 !=0 then some (c.1,())else rec ())
   (fun _=>bif decide (((p.length+r.length:Nat):Int)< (w.length:Int))then some (-1,())else some (0,())) (p.length:Int) r ()=some (ordL r r',()):=by
 intro r
 induction r with
 | nil=>
  intro p r' _ h2 h3
  have h4:=h2 h3
  rw [a0i]
  cases r' with
  | nil=>
   have:w.length≤p.length:=by rw [←List.drop_eq_nil_iff];exact h4
   rw [decide_eq_false (by simp;omega)]
   rfl
  | cons y r' =>
   have:p.length<w.length:=by
    rcases Nat.lt_or_ge p.length w.length with h | h
    ·exact h
    ·rw [List.drop_eq_nil_iff.2 h]at h4;cases h4
   rw [decide_eq_true (by simp;omega)]
   rfl
 | cons x r ih=>
  intro p r' h1 h2 h3
  have h4:=h2 h3
  rw [a0i]
  cases r' with
  | nil=>
   have:w.length≤p.length:=by rw [←List.drop_eq_nil_iff];exact h4
   rw [decide_eq_true (by omega)]
   rfl
  | cons y r' =>
   have hlt:p.length<w.length:=by
    rcases Nat.lt_or_ge p.length w.length with h | h
    ·exact h
    ·rw [List.drop_eq_nil_iff.2 h]at h4;cases h4
   have hy:w[p.length]? =some y:=by
    have:=congrArg List.head? h4
    rw [List.head?_drop]at this
    exact this
   have h5:w.drop (p++ [x]).length=r' :=by
    rw [List.length_append,List.length_singleton, ←List.drop_drop,h4]
    rfl
   have i1:=ih (p++ [x]) r' (fun z hz=>h1 z (by simp [hz])) (fun _=>h5) (by simp;omega)
   have e1:((p.length:Int)+1)=((p++ [x]).length:Int):=by simp
   have e2:p.length+(x::r).length=(p++ [x]).length+r.length:=by simp;omega
   rw [decide_eq_false (by omega),cond_false,a0z hy,Option.bind_some,h1 x (by simp) y (List.mem_of_getElem? hy),Option.bind_some,ordL,e1,e2,i1]
   dsimp only
   cases ordV x y !=0<;>rfl
theorem d1m(v:Val): ∀(w:Val) (n:Nat),vOk v→vSz v+6≤n→q54z n (v,w,())=some (ordV v w,()):=by
 induction v using j0e with
 | _ k a s l ih=>
  intro w n hok hn
  obtain⟨k',a',s',l'⟩:=w
  obtain⟨m,rfl⟩: ∃m,n=m+1:=⟨n - 1,by omega⟩
  obtain⟨h1,h2⟩:=p2a hok
  rw [vSz]at hn
  have hl:=n0c l
  rw [q54z]
  unfold i1g
  dsimp+instances only [c0g,n_mk,s_mk,l_mk]
  have key:q0z (q54z m) m (l,l',())=some (ordL l l',()):=by
   unfold q0z
   refine(a0h l (fun i (u:Unit)=>(l,l',l,(l.length:Int),i,())) _ (fun(i:Int) (x:Val) (u:Unit) (rec:Unit→Option (Int×Unit))=>bif decide ((i:Int) ≥(l'.length:Int))then some (1,())else(ix l' i).bind fun y=>(q54z m (x,y,())).bind fun c=>bif c.1 !=0 then some (c.1,())else rec ())
    (fun _=>bif decide ((l.length:Int)< (l'.length:Int))then some (-1,())else some (0,())) (fun rec i u=> ?_) (by unfold maxLen at h1;omega) m () (by omega)).trans ?_
   ·unfold z0v
    simp only [Val.eta]
   ·have:=s1u (q54z m) l' l [] l' (fun x hx y hy=>ih x hx y m (h2 x hx) (by have:=y0k (show x∈l from hx);omega)) (fun _=>rfl) (by simp)
    rw [List.length_nil,Nat.zero_add]at this
    exact this
  rw [f0p,f0p,m1y,Option.bind_some,key,ordV]
  dsimp only
  cases cmpI k k' !=0
  ·rw [cond_false,cond_false,Option.bind_some,Option.bind_some,Option.bind_some]
   dsimp only
   rw [o2x _ _ _ m (by omega)]
   rfl
  ·rfl
end Pure
namespace Pure
open Esp Ev Go
set_option linter.unusedSimpArgs false
set_option linter.unusedVariables false
def tV(c:Int):Val:=bif c==2 then .mk 0 0 ⟨#[]⟩ []else .mk 1 c ⟨#[]⟩ []
mutual
def smV:Val→Val→Int
 | .mk k a s l, .mk k' a' s' l' =>bif (k==0) || (k' ==0)then 2 else bif (k !=4) || (k' !=4)then(bif ordV (.mk k a s l) (.mk k' a' s' l')==0 then 1 else 0)else bif (l.length:Int) !=(l'.length:Int)then 0 else smL 1 l l'
def smL(acc:Int):List Val→List Val→Int
 | x::r,y::t=>bif smV x y==2 then smL 2 r t else bif smV x y==0 then 0 else smL acc r t
 | _,_=>acc
end
theorem j2h{l:List Val}(h: ∀x∈l,∀y,smV x y=0∨smV x y=1∨smV x y=2): ∀(acc:Int) (m:List Val),(acc=1∨acc=2)→smL acc l m=0∨smL acc l m=1∨smL acc l m=2:=by
 induction l with
 | nil=>intro acc m ha;rw [smL]; · omega
        intro x r y t h;cases h
 | cons x r ih=>
  intro acc m ha
  cases m with
  | nil=>rw [smL]; · omega
         intro x r y t _ h;cases h
  | cons y t=>
   rw [smL]
   have ih' :=ih fun z hz=>h z (by simp [hz])
   cases smV x y==2
   ·rw [cond_false]
    cases smV x y==0
    ·rw [cond_false];exact ih' acc t ha
    ·exact .inl rfl
   ·rw [cond_true];exact ih' 2 t (.inr rfl)
theorem q1o(v:Val): ∀w,smV v w=0∨smV v w=1∨smV v w=2:=by
 induction v using j0e with
 | _ k a s l ih=>
  intro w
  obtain⟨k',a',s',l'⟩:=w
  rw [smV]
  cases (k==0) || (k' ==0)
  ·rw [cond_false]
   cases (k !=4) || (k' !=4)
   ·rw [cond_false]
    cases (l.length:Int) !=(l'.length:Int)
    ·rw [cond_false];exact j2h ih 1 l' (.inl rfl)
    ·exact .inl rfl
   ·rw [cond_true]
    cases ordV (.mk k a s l) (.mk k' a' s' l')==0
    ·exact .inl rfl
    ·exact .inr (.inl rfl)
  ·exact .inr (.inr rfl)
theorem l2q{c:Int}:((tV c).kind==0)=(c==2):=by
 unfold tV;cases h:c==2<;>rfl
theorem tV_n{c:Int}(h:(c==2)=false):(tV c).n=c:=by
 unfold tV;rw [h];rfl
theorem e2u(c:Int)(h:c=0∨c=1∨c=2)(d:Int):Right (tV c) d:=by
 rcases h with h | h | h
 ·subst h;exact .truth 0 d (.inl rfl)
 ·subst h;exact .truth 1 d (.inr rfl)
 ·subst h;exact .null d
theorem neI{a b:Nat}(h:((a:Int) !=(b:Int))=false):a=b:=by
 have h2:(a:Int)=b:=by simpa using h
 omega
def lsV(v w:Val):Int:=bif (v.kind !=w.kind) || ((v.kind !=2)&& (v.kind !=3))then 2 else bif decide (ordV v w<0)then 1 else 0
theorem u1r(v w:Val):lsV v w=0∨lsV v w=1∨lsV v w=2:=by
 unfold lsV
 cases (v.kind !=w.kind) || ((v.kind !=2)&& (v.kind !=3))
 ·cases decide (ordV v w<0)
  ·exact .inl rfl
  ·exact .inr (.inl rfl)
 ·exact .inr (.inr rfl)
end Pure
namespace Pure
open Esp Ev Go
set_option linter.unusedSimpArgs false
set_option linter.unusedVariables false
theorem y0h(b:Bool):q57z (b,())=some (tV (bif b then 1 else 0),()):=by cases b<;>rfl
theorem y1h{ρ:Type}(self:Val×Val×Unit→Option (Val×Unit))(n:Nat)(v w:Val)(hv:v.l.length≤maxLen)(hs: ∀x∈v.l,∀y∈w.l,self (x,y,())=some (tV (smV x y),()))(kx:(Val×Unit)×(Val×Unit)×Unit→Option ρ)(kr:(Val×Unit)×Unit→Option ρ):
  ∀(r p r' p' :List Val) (u:Val) (acc:Int),v.l=p++r→w.l=p' ++r' →p.length=p'.length→r.length=r'.length→(acc=1∨acc=2)→ ∀fuel,r.length<fuel→
  ∃u',a0k (fun rc=>j0t self n rc kx kr) fuel ((v.l.length:Int),(p.length:Int),(v,()),(w,()),(u,()),(tV acc,()),())=bif smL acc r r' ==0 then kr ((tV 0,()),())else kx ((u',()),(tV (smL acc r r'),()),()):=by
 intro r
 induction r with
 | nil=>
  intro p r' p' u acc h1 h2 h3 h4 ha fuel hf
  obtain⟨m,rfl⟩: ∃m,fuel=m+1:=⟨fuel - 1,by omega⟩
  have e:decide ((p.length:Int)< (v.l.length:Int))=false:=by rw [decide_eq_false_iff_not,h1];simp
  have hr:r' = []:=by cases r' with
   | nil=>rfl
   | cons y t=>simp at h4
  subst hr
  refine⟨u, ?_⟩
  rw [a0k]
  unfold j0t
  dsimp only
  rw [e,cond_false,smL]
  ·have:(acc==0)=false:=by rcases ha with rfl | rfl<;>rfl
   rw [this,cond_false]
   simp only [Val.eta]
  ·intro x xs y ys h;cases h
 | cons x r ih=>
  intro p r' p' u acc h1 h2 h3 h4 ha fuel hf
  obtain⟨m,rfl⟩: ∃m,fuel=m+1:=⟨fuel - 1,by omega⟩
  cases r' with
  | nil=>simp at h4
  | cons y r' =>
   have hlen:v.l.length=p.length+(r.length+1):=by rw [h1];simp
   have e:decide ((p.length:Int)< (v.l.length:Int))=true:=by rw [decide_eq_true_iff];omega
   have e3:ix v.l (p.length:Int)=some x:=a0z (by rw [h1];simp)
   have e4:ix w.l (p.length:Int)=some y:=by rw [h3];exact a0z (by rw [h2];simp)
   have e5:IntKind.wrap .i64 ((p.length:Int)+1)=((p++ [x]).length:Int):=by unfold maxLen at hv;rw [b0i (by omega) (by omega)];simp
   have i1:=fun u acc ha=>ih (p++ [x]) r' (p' ++ [y]) u acc (by simp [h1]) (by simp [h2]) (by simp [h3]) (by simpa using h4) ha m (by simp at hf;omega)
   have hxy:=hs x (by rw [h1];simp) y (by rw [h2];simp)
   rw [a0k]
   generalize a0k (fun rc=>j0t self n rc kx kr) m=R at i1⊢
   unfold j0t
   dsimp only
   simp only [e,e3,e4,e5,cond_true,Option.bind_some,Val.eta,hxy,smL,l2q]
   cases hc:smV x y==2
   ·simp only [cond_false]
    rw [tV_n hc]
    cases hz:smV x y==0
    ·simp only [cond_false]
     exact i1 u acc ha
    ·have hz' :smV x y=0:=by simpa using hz
     rw [hz']
     exact⟨u,rfl⟩
   ·have hc' :smV x y=2:=by simpa using hc
    rw [hc']
    simp only [cond_true]
    exact i1 _ 2 (.inr rfl)
theorem k1d(v:Val): ∀(w:Val) (n:Nat),vOk v→vSz v+7≤n→q68z n (v,w,())=some (tV (smV v w),()):=by
 induction v using j0e with
 | _ k a s l ih=>
  intro w n hok hn
  obtain⟨k',a',s',l'⟩:=w
  obtain⟨m,rfl⟩: ∃m,n=m+1:=⟨n - 1,by omega⟩
  obtain⟨h1,h2⟩:=p2a hok
  have hord:=d1m (.mk k a s l) (.mk k' a' s' l') m hok (by omega)
  rw [vSz]at hn
  have hl:=n0c l
  rw [q68z]
  unfold k1v
  dsimp+instances only [c0g,n_mk,s_mk,l_mk]
  rw [smV]
  cases h0:(k==0) || (k' ==0)
  ·simp only [cond_false]
   cases h4:(k !=4) || (k' !=4)
   ·simp only [cond_false]
    cases hll:(l.length:Int) !=(l'.length:Int)
    ·have hll' :l.length=l'.length:=neI hll
     simp only [cond_false]
     rw [y0h,Option.bind_some]
     dsimp only
     obtain⟨u',key⟩:=y1h (ρ:=Val×Unit) (q68z m) m (.mk k a s l) (.mk k' a' s' l') h1 (fun x hx y hy=>ih x hx y m (h2 x hx) (by have:=y0k (show x∈l from hx);omega)) (fun z=>some (z.2.1.1,())) (fun z=>some (z.1.1,())) l [] l' [] (.mk 0 0 ⟨#[]⟩ []) 1 rfl rfl rfl hll' (.inl rfl) m (by omega)
     simp only [Val.eta]
     refine Eq.trans key ?_
     cases hz:smL 1 l l' ==0
     ·rfl
     ·have hz' :smL 1 l l' =0:=by simpa using hz
      rw [hz'];rfl
    ·rfl
   ·simp only [cond_true]
    rw [hord,Option.bind_some]
    dsimp only
    rw [y0h]
    cases ordV (.mk k a s l) (.mk k' a' s' l')==0<;>rfl
  ·rfl
theorem q1n(v w:Val)(n:Nat)(hok:vOk v)(hn:vSz v+6≤n):q67z n (v,w,())=some (tV (lsV v w),()):=by
 unfold q67z lsV
 dsimp only
 cases (v.kind !=w.kind) || ((v.kind !=2)&& (v.kind !=3))
 ·simp only [cond_false,Val.eta,d1m v w n hok hn,Option.bind_some,y0h]
 ·rfl
end Pure
namespace Pure
open Esp Ev Go
set_option linter.unusedSimpArgs false
set_option linter.unusedVariables false
def inR(x:Int):Bool:=decide (-9223372036854775808≤x)&&decide (x≤9223372036854775807)
theorem m2m(x:Int):IntKind.i64.wrap x=(x+9223372036854775808)%18446744073709551616 - 9223372036854775808:=by rw [IntKind.wrap_i64]
theorem t2g(a b:Int)(ha:inR a=true)(hb:inR b=true):f0s (a,b,())=some (IntKind.wrap .i64 (a+b),inR (a+b),()):=by
 unfold f0s inR at*
 dsimp only
 rw [m2m]
 simp only [Bool.and_eq_true,decide_eq_true_eq]at ha hb
 have:(decide ((a+b+9223372036854775808)%18446744073709551616 - 9223372036854775808>a)==decide (b>0))=(decide (-9223372036854775808≤a+b)&&decide (a+b≤9223372036854775807)):=by
  rw [Bool.eq_iff_iff]
  simp only [beq_iff_eq,Bool.and_eq_true,decide_eq_true_eq,decide_eq_decide]
  omega
 rw [this]
theorem o2r(a b:Int)(ha:inR a=true)(hb:inR b=true):f0u (a,b,())=some (IntKind.wrap .i64 (a - b),inR (a - b),()):=by
 unfold f0u inR at*
 dsimp only
 rw [m2m]
 simp only [Bool.and_eq_true,decide_eq_true_eq]at ha hb
 have:(decide ((a - b+9223372036854775808)%18446744073709551616 - 9223372036854775808<a)==decide (b>0))=(decide (-9223372036854775808≤a - b)&&decide (a - b≤9223372036854775807)):=by
  rw [Bool.eq_iff_iff]
  simp only [beq_iff_eq,Bool.and_eq_true,decide_eq_true_eq,decide_eq_decide]
  omega
 rw [this]
theorem shrN(a:Nat):bshr .u64 (a:Int) 32=((a / 4294967296:Nat):Int):=by
 unfold bshr
 rw [show(2:Int) ^ (min (32:Int).toNat IntKind.u64.bits)=4294967296 from rfl,Int.fdiv_eq_ediv_of_nonneg _ (by omega)]
 omega
theorem t1o(a:Nat)(ha:a<18446744073709551616):band .u64 (a:Int) 4294967295=((a%4294967296:Nat):Int):=Go.Proofs.Mul64.maskN a ha
theorem e2b(x y:Nat)(hx:x<18446744073709551616)(hy:y<18446744073709551616):q28z (x,y,())=some (((x*y / 18446744073709551616:Nat):Int),((x*y%18446744073709551616:Nat):Int),()):=by
 obtain⟨bd,bt,bw,hhi⟩:=Lib.mul64_hi x y hx hy
 have ba:=Lib.half_mul_le (a:=x / 4294967296) (b:=y / 4294967296) (by omega) (by omega)
 have bb:=Lib.half_mul_le (a:=x / 4294967296) (b:=y%4294967296) (by omega) (by omega)
 have bc:=Lib.half_mul_le (a:=x%4294967296) (b:=y / 4294967296) (by omega) (by omega)
 have ba' :x / 4294967296*(y / 4294967296)<18446744073709551616:=by omega
 have bb' :x / 4294967296*(y%4294967296)<18446744073709551616:=by omega
 have bc' :x%4294967296*(y / 4294967296)<18446744073709551616:=by omega
 have bh1:x / 4294967296*(y / 4294967296)+(x / 4294967296*(y%4294967296)+x%4294967296*(y%4294967296) / 4294967296) / 4294967296<18446744073709551616:=by omega
 have bh:x / 4294967296*(y / 4294967296)+(x / 4294967296*(y%4294967296)+x%4294967296*(y%4294967296) / 4294967296) / 4294967296+((x / 4294967296*(y%4294967296)+x%4294967296*(y%4294967296) / 4294967296)%4294967296+x%4294967296*(y / 4294967296)) / 4294967296<18446744073709551616:=by omega
 unfold q28z
 dsimp only
 simp only [t1o x hx,t1o y hy,shrN,Go.Proofs.Mul64.mulN,Go.Proofs.Mul64.addN,Go.Proofs.Mul64.wrapN _ bd,Go.Proofs.Mul64.wrapN _ bb',Go.Proofs.Mul64.wrapN _ bt,t1o _ bt,Go.Proofs.Mul64.wrapN _ bc',Go.Proofs.Mul64.wrapN _ bw,Go.Proofs.Mul64.wrapN _ ba',Go.Proofs.Mul64.wrapN _ bh1,Go.Proofs.Mul64.wrapN _ bh,Go.Proofs.Mul64.wrapM (x*y)]
 rw [hhi]
theorem x1d(a:Int)(ha:inR a=true):q56z (a,())=some ((a.natAbs:Int),()):=by
 unfold q56z inR at*
 simp only [Bool.and_eq_true,decide_eq_true_eq]at ha
 dsimp only
 simp only [IntKind.wrap_u64]
 by_cases h:a<0
 ·rw [decide_eq_true h,cond_true]
  congr 2;omega
 ·rw [decide_eq_false h,cond_false]
  congr 2;omega
theorem p2q(a b:Int)(ha:inR a=true)(hb:inR b=true): ∃z,f0n (a,b,())=some (z,inR (a*b),())∧(inR (a*b)=true→z=a*b):=by
 have h1:=x1d a ha
 have h2:=x1d b hb
 have h3:=e2b a.natAbs b.natAbs (by unfold inR at ha;simp only [Bool.and_eq_true,decide_eq_true_eq]at ha;omega) (by unfold inR at hb;simp only [Bool.and_eq_true,decide_eq_true_eq]at hb;omega)
 have hab:(a*b).natAbs=a.natAbs*b.natAbs:=Int.natAbs_mul a b
 have hsg:(a<0↔b<0)→0≤a*b:=fun h=>by
  rcases(show a<0∨0≤a by omega)with h1 | h1
  ·exact Int.mul_nonneg_of_nonpos_of_nonpos (by omega) (by have:=h.1 h1;omega)
  ·exact Int.mul_nonneg h1 (by rcases(show b<0∨0≤b by omega)with h2 | h2
                               ·have:=h.2 h2;omega
                               ·exact h2)
 have hsn: ¬(a<0↔b<0)→a*b≤0:=fun h=>by
  rcases(show a<0∨0≤a by omega)with h1 | h1
  ·exact Int.mul_nonpos_of_nonpos_of_nonneg (by omega) (by rcases(show b<0∨0≤b by omega)with h2 | h2
                                                           ·exact absurd ⟨fun _=>h2,fun _=>h1⟩ h
                                                           ·exact h2)
  ·exact Int.mul_nonpos_of_nonneg_of_nonpos h1 (by rcases(show b<0∨0≤b by omega)with h2 | h2
                                                   ·omega
                                                   ·exact absurd ⟨fun h=>by omega,fun h=>by omega⟩ h)
 unfold f0n
 dsimp only
 rw [h1,h2,Option.bind_some,Option.bind_some]
 dsimp only
 rw [h3,Option.bind_some]
 dsimp only
 rw [←hab]
 generalize a*b=m at*
 have hneg:(decide (a<0)==decide (b<0))=decide (a<0↔b<0):=by
  by_cases h4:a<0<;>by_cases h5:b<0<;>simp [h4,h5]
 rw [hneg]
 by_cases hs:(a<0↔b<0)
 ·have hm:=hsg hs
  rw [decide_eq_true hs]
  simp only [Bool.not_true,Bool.not_false,Bool.and_true,cond_false]
  by_cases hin:m≤9223372036854775807
  ·have e1:inR m=true:=by unfold inR;simp only [Bool.and_eq_true,decide_eq_true_eq];omega
   have e2:((((m.natAbs / 18446744073709551616:Nat):Int) !=0) || decide (((m.natAbs%18446744073709551616:Nat):Int) >9223372036854775808) || (((m.natAbs%18446744073709551616:Nat):Int)==9223372036854775808))=false:=by
    simp only [Bool.or_eq_false_iff,bne_eq_false_iff_eq,decide_eq_false_iff_not,beq_eq_false_iff_ne]
    omega
   rw [e2,cond_false,e1]
   refine⟨_,rfl,fun _=> ?_⟩
   rw [b0i (by omega) (by omega)]
   omega
  ·have e1:inR m=false:=by unfold inR;simp only [Bool.and_eq_false_iff,decide_eq_false_iff_not];omega
   have e2:((((m.natAbs / 18446744073709551616:Nat):Int) !=0) || decide (((m.natAbs%18446744073709551616:Nat):Int) >9223372036854775808) || (((m.natAbs%18446744073709551616:Nat):Int)==9223372036854775808))=true:=by
    simp only [Bool.or_eq_true,bne_iff_ne,decide_eq_true_eq,beq_iff_eq]
    omega
   rw [e2,cond_true,e1]
   exact⟨_,rfl,fun h=>by cases h⟩
 ·have hm:=hsn hs
  rw [decide_eq_false hs]
  simp only [Bool.not_true,Bool.not_false,Bool.and_false,Bool.or_false,cond_true]
  by_cases hin: -9223372036854775808≤m
  ·have e1:inR m=true:=by unfold inR;simp only [Bool.and_eq_true,decide_eq_true_eq];omega
   have e2:((((m.natAbs / 18446744073709551616:Nat):Int) !=0) || decide (((m.natAbs%18446744073709551616:Nat):Int) >9223372036854775808))=false:=by
    simp only [Bool.or_eq_false_iff,bne_eq_false_iff_eq,decide_eq_false_iff_not]
    omega
   rw [e2,cond_false,e1]
   refine⟨_,rfl,fun _=> ?_⟩
   rw [m2m,IntKind.wrap_u64]
   omega
  ·have e1:inR m=false:=by unfold inR;simp only [Bool.and_eq_false_iff,decide_eq_false_iff_not];omega
   have e2:((((m.natAbs / 18446744073709551616:Nat):Int) !=0) || decide (((m.natAbs%18446744073709551616:Nat):Int) >9223372036854775808))=true:=by
    simp only [Bool.or_eq_true,bne_iff_ne,decide_eq_true_eq]
    omega
   rw [e2,cond_true,e1]
   exact⟨_,rfl,fun h=>by cases h⟩
def nV(x:Int):Val:= .mk 2 x ⟨#[]⟩ []
def zV:Val:= .mk 0 0 ⟨#[]⟩ []
theorem n2i:seq (⟨#[43]⟩:ByteArray) (⟨#[43]⟩:ByteArray)=true:=e0b _
theorem p2t(a b:Int)(ha:inR a=true)(hb:inR b=true)(n:Nat):q43z n (⟨#[43]⟩,nV a,nV b,())=some (bif inR (a+b)then nV (a+b)else zV,bif inR (a+b)then 0 else 4,()):=by
 unfold q43z
 dsimp only
 have h:=t2g a b ha hb
 rw [n2i,cond_true]
 unfold nV
 dsimp+instances only [c0g,n_mk]
 rw [h,Option.bind_some]
 dsimp only
 cases hi:inR (a+b)
 ·rfl
 ·have:IntKind.wrap .i64 (a+b)=a+b:=by unfold inR at hi;simp only [Bool.and_eq_true,decide_eq_true_eq]at hi;exact b0i hi.1 hi.2
  rw [this];rfl
theorem s2u(a b:Int)(ha:inR a=true)(hb:inR b=true)(n:Nat):q43z n (⟨#[45]⟩,nV a,nV b,())=some (bif inR (a - b)then nV (a - b)else zV,bif inR (a - b)then 0 else 4,()):=by
 unfold q43z
 dsimp only
 have h:=o2r a b ha hb
 rw [show seq (⟨#[45]⟩:ByteArray) (⟨#[43]⟩:ByteArray)=false by decide+kernel,show seq (⟨#[45]⟩:ByteArray) (⟨#[45]⟩:ByteArray)=true from e0b _,cond_true,cond_false]
 unfold nV
 dsimp+instances only [c0g,n_mk]
 rw [h,Option.bind_some]
 dsimp only
 cases hi:inR (a - b)
 ·rfl
 ·have:IntKind.wrap .i64 (a - b)=a - b:=by unfold inR at hi;simp only [Bool.and_eq_true,decide_eq_true_eq]at hi;exact b0i hi.1 hi.2
  rw [this];rfl
theorem o2p(a b:Int)(ha:inR a=true)(hb:inR b=true)(n:Nat):q43z n (⟨#[42]⟩,nV a,nV b,())=some (bif inR (a*b)then nV (a*b)else zV,bif inR (a*b)then 0 else 4,()):=by
 unfold q43z
 dsimp only
 obtain⟨z,h,hz⟩:=p2q a b ha hb
 rw [show seq (⟨#[42]⟩:ByteArray) (⟨#[43]⟩:ByteArray)=false by decide+kernel,show seq (⟨#[42]⟩:ByteArray) (⟨#[45]⟩:ByteArray)=false by decide+kernel,show seq (⟨#[42]⟩:ByteArray) (⟨#[42]⟩:ByteArray)=true from e0b _,cond_true,cond_false,cond_false]
 unfold nV
 dsimp+instances only [c0g,n_mk]
 rw [h,Option.bind_some]
 dsimp only
 cases hi:inR (a*b)
 ·rfl
 ·rw [hz hi];rfl
end Pure
namespace Pure
open Esp Ev Go
set_option linter.unusedSimpArgs false
set_option linter.unusedVariables false
theorem p1p{v:Val}{d:Int}(h:Right v d):chk v d=0:=by
 induction h with
 | null d=>rw [chk,e0b];rfl
 | truth a d h=>rcases h with rfl | rfl<;>(rw [chk,e0b];rfl)
 | int a d h=>rw [chk,e0b];rfl
 | text s d h1 h2=>
  rw [chk]
  rw [show((3:Int)==0)=false from rfl,show((3:Int)==1)=false from rfl,show((3:Int)==2)=false from rfl,show((3:Int)==3)=true from rfl,h2]
  simp only [cond_false,cond_true]
  rw [show decide ((s.size:Int) >4000)=false by rw [decide_eq_false_iff_not];omega]
  rfl
 | list l d h1 h2 h3 ih=>
  have hc: ∀(r:List Val),(∀x∈r,chk x (d+1)=0)→chks r (d+1)=0:=by
   intro r
   induction r with
   | nil=>intro _;rfl
   | cons x r ih2=>
    intro hr
    rw [chks,hr x (by simp)]
    exact ih2 fun y hy=>hr y (by simp [hy])
  rw [chk,hc l ih]
  rw [show((4:Int)==0)=false from rfl,show((4:Int)==1)=false from rfl,show((4:Int)==2)=false from rfl,show((4:Int)==3)=false from rfl,show((4:Int)==4)=true from rfl]
  simp only [cond_false,cond_true]
  rw [show decide ((l.length:Int) >30)=false by rw [decide_eq_false_iff_not];omega,show decide (d>6)=false by rw [decide_eq_false_iff_not];omega,e0b]
  rfl
theorem c0z{v:Val}{d:Int}(h:Right v d):vOk v:=by
 induction h with
 | null d=>rw [vOk,c0w];exact⟨by unfold wfI;decide,by unfold wfI;decide,Nat.zero_le _,Nat.zero_le _,fun x hx=>by cases hx⟩
 | truth n d h=>
  rw [vOk,c0w]
  refine⟨by unfold wfI;decide, ?_,Nat.zero_le _,Nat.zero_le _,fun x hx=>by cases hx⟩
  rcases h with rfl | rfl<;>(unfold wfI;decide)
 | int n d h=>rw [vOk,c0w];exact⟨by unfold wfI;decide,h,Nat.zero_le _,Nat.zero_le _,fun x hx=>by cases hx⟩
 | text s d h1 h2=>rw [vOk,c0w];exact⟨by unfold wfI;decide,by unfold wfI;decide,by unfold maxLen;omega,Nat.zero_le _,fun x hx=>by cases hx⟩
 | list l d h1 h2 h3 ih=>rw [vOk,c0w];exact⟨by unfold wfI;decide,by unfold wfI;decide,Nat.zero_le _,by unfold maxLen;omega,ih⟩
theorem m1z{v:Val}{d:Int}(h:Right v d): ∀d',d' ≤d→Right v d' :=by
 induction h with
 | null d=>exact fun d' _=> .null d'
 | truth n d h=>exact fun d' _=> .truth n d' h
 | int n d h=>exact fun d' _=> .int n d' h
 | text s d h1 h2=>exact fun d' _=> .text s d' h1 h2
 | list l d h1 h2 h3 ih=>exact fun d' hd=> .list l d' h1 (by omega) fun x hx=>ih x hx (d' +1) (by omega)
theorem e0k{v:Val}{d:Int}(h:Right v d):v.l.length≤30∧v.s.size≤4000:=by
 cases h with
 | null=>exact⟨Nat.zero_le _,Nat.zero_le _⟩
 | truth=>exact⟨Nat.zero_le _,Nat.zero_le _⟩
 | int=>exact⟨Nat.zero_le _,Nat.zero_le _⟩
 | text s d h1 h2=>exact⟨Nat.zero_le _,h1⟩
 | list l d h1 h2 h3=>exact⟨h1,Nat.zero_le _⟩
theorem i1h{v:Val}{d:Int}(h:Right v d):v.kind=2→inR v.n=true:=by
 intro hk
 cases h with
 | int n d h=>exact h
 | null=>simp [c0g]at hk
 | truth=>simp [c0g]at hk
 | text=>simp [c0g]at hk
 | list=>simp [c0g]at hk
theorem l0x{v:Val}{d:Int}(h:Right v d): ∀x∈v.l,Right x (d+1):=by
 cases h with
 | list l d h1 h2 h3=>exact h3
 | null=>intro x hx;cases hx
 | truth=>intro x hx;cases hx
 | int=>intro x hx;cases hx
 | text=>intro x hx;cases hx
theorem k2l{n b:Nat}(h:n≤1000)(hb:b≤1000):room n b=true:=d0d h hb
theorem k0t{v:Val}(h:Right v 1)(n:Nat)(hn:60≤n):q37z n (v,())=some ((v.kind,v.n,v.s,()),v.l,()):=by
 have hl:=(e0k h).1
 have hs:=l0x h
 obtain⟨k,a,s,l⟩:=v
 unfold q37z
 dsimp+instances only [c0g,n_mk,s_mk,l_mk]
 rw [l_mk]at hl hs
 rw [l0i n _ _ l n _ _ _ (by omega) (by omega)]
 have key: ∀(r p:List Val) (i:Int),(∀x∈r,Right x 2)→p.length+r.length≤30→
   a0i (l0j n (fun _=>none)) (fun(z:(Int×Int×ByteArray×Unit)×(Val×Unit)×List Val×Unit)=>some ((z.1.1,z.1.2.1,z.1.2.2.1,()),z.2.2.1,())) i r ((k,a,s,()),((.mk 0 0 ⟨#[]⟩ []),()),p,())=some ((k,a,s,()),p++r,()):=by
  intro r
  induction r with
  | nil=>intro p i _ _;simp [a0i]
  | cons x r ih=>
   intro p i hx hl
   have h1:=p1p (hx x (by simp))
   rw [a0i]
   generalize hR:a0i (l0j n (fun _=>none)) _ (i+1) r=R
   unfold l0j
   dsimp only
   rw [Val.eta,w0i x 2 n (by omega) (by omega) (by simp;omega) h1,Option.bind_some]
   dsimp only
   rw [Val.eta,h0j (k2l (by simp at hl⊢;omega) (by omega)), ←hR]
   refine(ih (p++ [x]) (i+1) (fun y hy=>hx y (by simp [hy])) (by simp at hl⊢;omega)).trans ?_
   simp
 exact(key l [] 0 hs (by simp;omega)).trans (by simp)
def gI(z:Int):Val×Int:=(bif inR z then nV z else zV,bif inR z then 0 else 4)
def o0l(sg:ByteArray)(a b:Val):Val×Int:=
 bif (seq sg ⟨#[43]⟩ || seq sg ⟨#[45]⟩) || seq sg ⟨#[42]⟩then
  (bif (a.kind==0) || (b.kind==0)then(zV,0)
  else bif (a.kind==2)&& (b.kind==2)then gI (bif seq sg ⟨#[43]⟩then a.n+b.n else bif seq sg ⟨#[45]⟩then a.n - b.n else a.n*b.n)
  else bif (seq sg ⟨#[43]⟩&& (a.kind==3))&& (b.kind==3)then(bif decide (((a.s.size+b.s.size:Nat):Int) >4000)then(zV,2)else(.mk 3 0 (a.s++b.s) [],0))
  else bif (seq sg ⟨#[43]⟩&& (a.kind==4))&& (b.kind==4)then(bif decide (((a.l.length+b.l.length:Nat):Int) >30)then(zV,2)else(.mk 4 0 ⟨#[]⟩ (a.l++b.l),0))
  else(zV,3))
 else(zV,5)
theorem d2x(sg:ByteArray){a b:Val}(ha:Right a 1)(hb:Right b 1)(n:Nat)(hn:100≤n):q43z n (sg,a,b,())=some ((o0l sg a b).1,(o0l sg a b).2,()):=by
 have la:=e0k ha
 have lb:=e0k hb
 have ia:=i1h ha
 have ib:=i1h hb
 have ca:=k0t ha n (by omega)
 have cb:=k0t hb n (by omega)
 have w1:IntKind.wrap .i64 ((a.s.size:Int)+(b.s.size:Int))=((a.s.size+b.s.size:Nat):Int):=by rw [b0i (by omega) (by omega)];omega
 have w2:IntKind.wrap .i64 ((a.l.length:Int)+(b.l.length:Int))=((a.l.length+b.l.length:Nat):Int):=by rw [b0i (by omega) (by omega)];omega
 have c1:cat? a.s b.s=some (a.s++b.s):=by unfold cat?;rw [if_pos (by omega)]
 have ints: ∀sg:ByteArray,(a.kind==0 || b.kind==0)=false→(a.kind==2&&b.kind==2)=true→q43z n (sg,a,b,())=q43z n (sg,nV a.n,nV b.n,()):=by
  intro sg h0 h2
  unfold q43z nV
  dsimp+instances only [c0g,n_mk,s_mk,l_mk]
  rw [h0,h2]
  rfl
 by_cases hint:(a.kind==2&&b.kind==2)=true
 ·have h2:=hint
  rw [Bool.and_eq_true]at h2
  have ka:a.kind=2:=by simpa using h2.1
  have kb:b.kind=2:=by simpa using h2.2
  have h0:(a.kind==0 || b.kind==0)=false:=by rw [ka,kb];rfl
  unfold o0l gI
  rw [h0,hint]
  cases h1:seq sg ⟨#[43]⟩with
  | true=>
   rw [(b0e _ _).1 h1,ints _ h0 hint,p2t a.n b.n (ia ka) (ib kb) n]
   rfl
  | false=>
   cases h3:seq sg ⟨#[45]⟩with
   | true=>
    rw [(b0e _ _).1 h3,ints _ h0 hint,s2u a.n b.n (ia ka) (ib kb) n]
    rfl
   | false=>
    cases h4:seq sg ⟨#[42]⟩with
    | true=>
     rw [(b0e _ _).1 h4,ints _ h0 hint,o2p a.n b.n (ia ka) (ib kb) n]
     rfl
    | false=>
     unfold q43z
     dsimp only
     rw [h1,h3,h4,h0]
     rfl
 ·have hi:(a.kind==2&&b.kind==2)=false:=by simpa using hint
  unfold q43z o0l
  dsimp only
  rw [Val.eta,Val.eta,hi,w1,w2,c1,ca,cb]
  cases h1:seq sg ⟨#[43]⟩with
  | true=>
   cases h0:(a.kind==0 || b.kind==0)with
   | true=>rfl
   | false=>
    cases h3:((true&&a.kind==3)&&b.kind==3)with
    | true=>
     cases decide (((a.s.size+b.s.size:Nat):Int) >4000)<;>rfl
    | false=>
     cases h4:((true&&a.kind==4)&&b.kind==4)with
     | true=>
      cases decide (((a.l.length+b.l.length:Nat):Int) >30)with
      | true=>rfl
      | false=>
       simp only [cond_true,cond_false,Option.bind_some]
       rw [h0j (k2l (by rw [List.length_append];omega) (by omega))]
       rfl
     | false=>rfl
  | false=>
   cases h3:seq sg ⟨#[45]⟩with
   | true=>cases (a.kind==0 || b.kind==0)<;>rfl
   | false=>
    cases h4:seq sg ⟨#[42]⟩with
    | true=>cases (a.kind==0 || b.kind==0)<;>rfl
    | false=>rfl
end Pure
namespace Pure
open Esp Ev Go
set_option linter.unusedSimpArgs false
set_option linter.unusedVariables false
theorem Term.eta(t:Term):Term.mk t.kind t.v t.name t.a=t:=by cases t;rfl
theorem Term.eta2(t:Term):Term.mk t.kind (Val.mk t.v.kind t.v.n t.v.s t.v.l) t.name t.a=t:=by rw [Val.eta,Term.eta]
theorem y1j(k:Int)(v:Val)(s:ByteArray)(l:List Term):(Term.mk k v s l).kind=k:=rfl
theorem r1z(k:Int)(v:Val)(s:ByteArray)(l:List Term):(Term.mk k v s l).v=v:=rfl
theorem o1b(k:Int)(v:Val)(s:ByteArray)(l:List Term):(Term.mk k v s l).name=s:=rfl
theorem d2b(k:Int)(v:Val)(s:ByteArray)(l:List Term):(Term.mk k v s l).a=l:=rfl
mutual
theorem y0i{p:Term→Prop}(h: ∀k v s l,(∀x∈l,p x)→p (.mk k v s l)): ∀t,p t
 | .mk k v s l=>h k v s l (d1t h l)
theorem d1t{p:Term→Prop}(h: ∀k v s l,(∀x∈l,p x)→p (.mk k v s l)): ∀l:List Term,∀x∈l,p x
 | []=>fun _ hx=>by cases hx
 | y::r=>List.forall_mem_cons.2 ⟨y0i h y,d1t h r⟩
end
theorem x0u(l:List ByteArray)(s:ByteArray)(n:Nat)(hl:l.length≤100)(hn:200≤n):q7z n (l,s,())=some (hasL l s,()):=by
 obtain⟨j,h1,h2⟩:=u0d s (fun _=>some (-1,())) rfl l 0 (by omega)
 have h3:q9z n (l,s,())=some (j,()):=
  (d0j l (fun i (u:Unit)=>(l,s,(l.length:Int),i,())) _ (fun(i:Int) (x:ByteArray) (u:Unit) (rec:Unit→Option (Int×Unit))=>bif seq s x then some (i,())else rec u) (fun _=>some (-1,()))
   (fun rec i u=>rfl) (by omega) n () (by omega)).trans h1
 unfold q7z
 dsimp only
 rw [h3,Option.bind_some]
 dsimp only
 rw [h2]
def resB(s:ByteArray):Bool:=((q40z 200 (s,())).getD (false,())).1
theorem h1n(s:ByteArray)(n:Nat)(hn:200≤n):q40z n (s,())=some (resB s,()):=by
 unfold resB
 unfold q40z
 dsimp only
 rw [x0u _ s n (by decide) hn,x0u _ s 200 (by decide) (by omega)]
 rfl
def s0g(s:ByteArray):Bool:=nmB s&& !resB s
theorem x0m(s:ByteArray)(n:Nat)(hn:200≤n):b0q n (s,())=some (s0g s,()):=by
 unfold b0q s0g
 dsimp only
 rw [h0x s n (by omega),Option.bind_some]
 cases nmB s with
 | false=>rfl
 | true=>dsimp only;rw [cond_true,h1n s n hn];rfl
def arN(s:ByteArray):Int×Bool:=
 bif ((((((((seq s ⟨#[43]⟩) || seq s ⟨#[45]⟩) || seq s ⟨#[42]⟩) || seq s ⟨#[61]⟩) || seq s ⟨#[60]⟩) || seq s ⟨#[60,61]⟩) || seq s ⟨#[97,110,100]⟩) || seq s ⟨#[111,114]⟩) || seq s ⟨#[105,110]⟩then(2,true)else bif (((((seq s ⟨#[110,111,116]⟩) || seq s ⟨#[110,117,108,108]⟩) || seq s ⟨#[115,105,122,101]⟩) || seq s ⟨#[104,101,97,100]⟩) || seq s ⟨#[105,100]⟩) || seq s ⟨#[116,121,112,101]⟩then(1,true)else bif (seq s ⟨#[99,111,97,108,101,115,99,101]⟩) || seq s ⟨#[108,105,115,116]⟩then(-1,true)else(0,false)
theorem b2k(s:ByteArray):q62z (s,())=some ((arN s).1,(arN s).2,()):=by
 unfold q62z arN
 dsimp only
 cases h43:seq s ⟨#[43]⟩with
 | true=>simp only [cond_true,cond_false,Bool.or_true,Bool.true_or,Bool.or_false,Bool.false_or]
 | false=>
  cases h45:seq s ⟨#[45]⟩with
  | true=>simp only [cond_true,cond_false,Bool.or_true,Bool.true_or,Bool.or_false,Bool.false_or]
  | false=>
   cases h42:seq s ⟨#[42]⟩with
   | true=>simp only [cond_true,cond_false,Bool.or_true,Bool.true_or,Bool.or_false,Bool.false_or]
   | false=>
    cases h61:seq s ⟨#[61]⟩with
    | true=>simp only [cond_true,cond_false,Bool.or_true,Bool.true_or,Bool.or_false,Bool.false_or]
    | false=>
     cases h60:seq s ⟨#[60]⟩with
     | true=>simp only [cond_true,cond_false,Bool.or_true,Bool.true_or,Bool.or_false,Bool.false_or]
     | false=>
      cases h6061:seq s ⟨#[60,61]⟩with
      | true=>simp only [cond_true,cond_false,Bool.or_true,Bool.true_or,Bool.or_false,Bool.false_or]
      | false=>
       cases h97110100:seq s ⟨#[97,110,100]⟩with
       | true=>simp only [cond_true,cond_false,Bool.or_true,Bool.true_or,Bool.or_false,Bool.false_or]
       | false=>
        cases h111114:seq s ⟨#[111,114]⟩with
        | true=>simp only [cond_true,cond_false,Bool.or_true,Bool.true_or,Bool.or_false,Bool.false_or]
        | false=>
         cases h105110:seq s ⟨#[105,110]⟩with
         | true=>simp only [cond_true,cond_false,Bool.or_true,Bool.true_or,Bool.or_false,Bool.false_or]
         | false=>
          cases h110111116:seq s ⟨#[110,111,116]⟩with
          | true=>simp only [cond_true,cond_false,Bool.or_true,Bool.true_or,Bool.or_false,Bool.false_or]
          | false=>
           cases h110117108108:seq s ⟨#[110,117,108,108]⟩with
           | true=>simp only [cond_true,cond_false,Bool.or_true,Bool.true_or,Bool.or_false,Bool.false_or]
           | false=>
            cases h115105122101:seq s ⟨#[115,105,122,101]⟩with
            | true=>simp only [cond_true,cond_false,Bool.or_true,Bool.true_or,Bool.or_false,Bool.false_or]
            | false=>
             cases h10410197100:seq s ⟨#[104,101,97,100]⟩with
             | true=>simp only [cond_true,cond_false,Bool.or_true,Bool.true_or,Bool.or_false,Bool.false_or]
             | false=>
              cases h105100:seq s ⟨#[105,100]⟩with
              | true=>simp only [cond_true,cond_false,Bool.or_true,Bool.true_or,Bool.or_false,Bool.false_or]
              | false=>
               cases h116121112101:seq s ⟨#[116,121,112,101]⟩with
               | true=>simp only [cond_true,cond_false,Bool.or_true,Bool.true_or,Bool.or_false,Bool.false_or]
               | false=>
                cases h991119710810:seq s ⟨#[99,111,97,108,101,115,99,101]⟩with
                | true=>simp only [cond_true,cond_false,Bool.or_true,Bool.true_or,Bool.or_false,Bool.false_or]
                | false=>
                 cases h108105115116:seq s ⟨#[108,105,115,116]⟩with
                 | true=>simp only [cond_true,cond_false,Bool.or_true,Bool.true_or,Bool.or_false,Bool.false_or]
                 | false=>
                  rfl
def zrB(v:Val):Bool:=((((v.kind==0)&& (v.n==0))&& (seq v.s ⟨#[]⟩))&& ((v.l.length:Int)==0))
def lstB(b:List (ByteArray×Bool))(s:ByteArray)(x:Term):Int:=
 bif seq s ⟨#[105,100]⟩then(bif x.kind !=2 then 3 else 0)
 else bif seq s ⟨#[116,121,112,101]⟩then(bif x.kind !=2 then 3 else bif !(b0c .str .bool false b x.name)then 3 else 0)else 0
def hdT(l:List Term):Term:=l.headD (.mk 0 (.mk 0 0 ⟨#[]⟩ []) ⟨#[]⟩ [])
mutual
def tchk(b:List (ByteArray×Bool)):Term→Int→Int
 | .mk k v s a,d=>
  bif decide (d>6)then 2
  else bif k==1 then(bif (!(seq s ⟨#[]⟩)) || decide ((a.length:Int) >0)then 6 else bif v.kind==4 then 6 else chk v 1)
  else bif k==2 then(bif (!zrB v) || decide ((a.length:Int) >0)then 6 else bif !s0g s then 6 else bif !d0v .str .bool b s then 5 else 0)
  else bif k==3 then(bif (!zrB v) || ((a.length:Int) !=1)then 6 else bif (hdT a).kind !=2 then 6 else bif !nmB s then 6 else j0q b a (d+1))
  else bif k==4 then(bif ((!(arN s).2) || !zrB v) || (decide ((arN s).1≥0)&& ((a.length:Int) !=(arN s).1))then 6 else bif decide ((a.length:Int) >30)then 2
   else bif j0q b a (d+1) !=0 then j0q b a (d+1)else lstB b s (hdT a))
  else 6
def j0q(b:List (ByteArray×Bool)):List Term→Int→Int
 | [],_=>0
 | x::r,d=>bif tchk b x d !=0 then tchk b x d else j0q b r d
end
theorem r0j{ρ:Type}(self:Term×List (ByteArray×Bool)×Int×Unit→Option (Int×Unit))(n:Nat)(b:List (ByteArray×Bool))(d:Int)(hd:IntKind.wrap .i64 (d+1)=d+1)(o:Term)(kr:Int×Unit→Option ρ)(k:List (ByteArray×Bool)×Int×(Term×Unit)×Unit→Option ρ):
  ∀(l:List Term) (i:Int),(∀x∈l,self (x,b,d+1,())=some (tchk b x (d+1),()))→a0i (l0r self n kr) k i l (b,d,(o,()),())=bif j0q b l (d+1) !=0 then kr (j0q b l (d+1),())else k (b,d,(o,()),())
 | [],_,_=>rfl
 | x::r,i,h=>by
  rw [a0i]
  have ih:=r0j self n b d hd o kr k r (i+1) fun y hy=>h y (by simp [hy])
  generalize a0i (l0r self n kr) k (i+1) r=R at ih
  unfold l0r
  dsimp only
  rw [Term.eta2,Term.eta2,hd,h x (by simp),Option.bind_some,j0q]
  dsimp only
  cases hc:tchk b x (d+1) !=0 with
  | true=>rw [cond_true,cond_true,hc];rfl
  | false=>rw [cond_false,cond_false];exact ih
theorem k2m{l:List Term}(h:((l.length:Int) !=1)=false):ix l 0=some (hdT l)∧l= [hdT l]:=by
 have:l.length=1:=by simp at h;omega
 match l,this with
 | [x],_=>exact⟨rfl,rfl⟩
theorem g2v{s:ByteArray}{l:List Term}{b:Bool}(h:(((!(arN s).2) || b) || (decide ((arN s).1≥0)&& ((l.length:Int) !=(arN s).1)))=false)(h1:(arN s).1=1):ix l 0=some (hdT l)∧l= [hdT l]:=by
 rw [Bool.or_eq_false_iff,h1]at h
 exact k2m h.2
theorem u1a(b:List (ByteArray×Bool))(t:Term): ∀(d:Int) (n:Nat),1≤d→d≤7→300≤n+d.toNat→q63z n (t,b,d,())=some (tchk b t d,()):=by
 induction t using y0i with
 | _ k v s a ih=>
  intro d n h1 h7 hn
  obtain⟨m,rfl⟩: ∃m,n=m+1:=⟨n - 1,by omega⟩
  rw [q63z,tchk]
  unfold k1i
  dsimp+instances only [y1j,r1z,o1b,d2b]
  cases hd:decide (d>6)with
  | true=>rfl
  | false=>
   have h6:=of_decide_eq_false hd
   have hw:IntKind.wrap .i64 (d+1)=d+1:=b0i (by omega) (by omega)
   have hs: ∀x∈a,q63z m (x,b,d+1,())=some (tchk b x (d+1),()):=fun x hx=>ih x hx (d+1) m (by omega) (by omega) (by omega)
   rw [show(((((v.kind:Int)==0)&& ((v.n:Int)==0))&& (seq v.s (⟨#[]⟩:ByteArray)))&& (((v.l.length:Int):Int)==0))=zrB v from rfl]
   cases h1:k==1 with
   | true=>
    cases (!(seq s ⟨#[]⟩)) || decide ((a.length:Int) >0)with
    | true=>rfl
    | false=>
     cases v.kind==4 with
     | true=>rfl
     | false=>
      simp only [cond_true,cond_false]
      rw [Val.eta,o0z v m (by omega),Option.bind_some]
   | false=>
    cases h2:k==2 with
    | true=>
     cases (!zrB v) || decide ((a.length:Int) >0)with
     | true=>rfl
     | false=>
      simp only [cond_true,cond_false]
      rw [x0m s m (by omega),Option.bind_some]
      cases !s0g s with
      | true=>rfl
      | false=>cases !d0v .str .bool b s<;>rfl
    | false=>
     cases h3:k==3 with
     | true=>
      cases hz:(!zrB v) || ((a.length:Int) !=1)with
      | true=>rfl
      | false=>
       rw [Bool.or_eq_false_iff]at hz
       obtain⟨e1,e2⟩:=k2m hz.2
       simp only [cond_true,cond_false]
       rw [e1,Option.bind_some]
       cases (hdT a).kind !=2 with
       | true=>rfl
       | false=>
        simp only [cond_true,cond_false]
        rw [h0x s m (by omega),Option.bind_some]
        cases !nmB s with
        | true=>rfl
        | false=>
         simp only [cond_false]
         rw [Option.bind_some,Term.eta2,hw,hs (hdT a) (by rw [e2];simp [hdT]),Option.bind_some]
         have:j0q b a (d+1)=tchk b (hdT a) (d+1):=by
          conv=>lhs;rw [e2]
          rw [j0q,j0q]
          cases hc:tchk b (hdT a) (d+1) !=0 with
          | true=>rfl
          | false=>
           have h0:tchk b (hdT a) (d+1)=0:=by simpa using hc
           exact h0.symm
         rw [this]
     | false=>
      cases h4:k==4 with
      | false=>rfl
      | true=>
       simp only [cond_true,cond_false]
       rw [b2k,Option.bind_some]
       dsimp only
       cases hz:((!(arN s).2) || !zrB v) || (decide ((arN s).1≥0)&& ((a.length:Int) !=(arN s).1))with
       | true=>rfl
       | false=>
        cases h30:decide ((a.length:Int) >30)with
        | true=>rfl
        | false=>
         have hl:=of_decide_eq_false h30
         simp only [cond_false]
         rw [m0e _ m _ _ a m _ _ _ (by omega) (by omega),r0j _ m b d hw _ _ _ a 0 hs]
         cases hc:j0q b a (d+1) !=0 with
         | true=>rfl
         | false=>
          simp only [cond_false]
          dsimp+instances only [y1j,r1z,o1b,d2b]
          unfold lstB
          cases hid:seq s ⟨#[105,100]⟩with
          | true=>
           have har:(arN s).1=1:=by rw [(b0e _ _).1 hid];kernel_rfl
           obtain⟨e1,e2⟩:=g2v hz har
           have hty:seq s (⟨#[116,121,112,101]⟩:ByteArray)=false:=by rw [(b0e _ _).1 hid];kernel_rfl
           simp only [cond_true]
           rw [e1,Option.bind_some,hty]
           cases (hdT a).kind !=2<;>rfl
          | false=>
           simp only [cond_false]
           cases hty:seq s (⟨#[116,121,112,101]⟩:ByteArray)with
           | false=>rfl
           | true=>
            have har:(arN s).1=1:=by rw [(b0e _ _).1 hty];kernel_rfl
            obtain⟨e1,e2⟩:=g2v hz har
            simp only [cond_true]
            rw [e1,Option.bind_some]
            cases (hdT a).kind !=2 with
            | true=>rfl
            | false=>
             simp only [cond_false]
             rw [Option.bind_some]
             cases !b0c .str .bool false b (hdT a).name<;>rfl
theorem z0u(b:List (ByteArray×Bool))(t:Term)(n:Nat)(hn:300≤n):q61z n (t,b,())=some (tchk b t 1,()):=by
 unfold q61z
 dsimp only
 rw [Term.eta2,u1a b t 1 n (by omega) (by omega) (by omega)]
 rfl
end Pure
namespace Pure
open Esp Ev Go
set_option linter.unusedSimpArgs false
set_option linter.unusedVariables false
theorem q0y: ∀(n:Nat) (l:List UInt8),(∀b∈l,b.toNat<128)→Lib.validGoD n l=true
 | 0,l,_=>rfl
 | n+1, [],_=>rfl
 | n+1,b::r,h=>by
  have hb:=h b (by simp)
  have hd:Lib.decodeL (b::r)=(b.toNat,1):=by
   have h0:(⟨(b::r).toArray⟩:ByteArray).get! 0=b:=rfl
   unfold Lib.decodeL Utf8.decode
   simp only [Nat.zero_add,h0]
   rw [if_pos (by omega)]
  have h3: ¬((b.toNat,1).1=65533∧(b.toNat,1).2=1):=fun h=>by
   have:=h.1
   dsimp only at this
   omega
  rw [Lib.validGoD,if_neg (List.cons_ne_nil b r),hd,if_neg h3]
  exact q0y n r fun x hx=>h x (List.mem_cons_of_mem _ hx)
theorem d1e: ∀(l:List UInt8) (i:Int),nmF i (bi l)=true→∀b∈l,b.toNat<128
 | [],_,_=>fun b hb=>by cases hb
 | c::r,i,h=>by
  rw [m2k,nmF]at h
  intro b hb
  cases hc:(!(lttI (c.toNat:Int))&& (((i==0) || (decide ((c.toNat:Int)<48))) || (decide ((c.toNat:Int) >57))))with
  | true=>rw [hc]at h;cases h
  | false=>
   rw [hc]at h
   rcases List.mem_cons.1 hb with rfl | hb
   ·unfold lttI at hc
    simp only [Bool.and_eq_false_iff,Bool.not_eq_false',Bool.or_eq_true,Bool.and_eq_true,decide_eq_true_eq,Bool.or_eq_false_iff,decide_eq_false_iff_not,beq_iff_eq]at hc
    omega
   ·exact d1e r (i+1) h b hb
theorem d2g{s:ByteArray}(h:nmB s=true):n0p s=true∧s.size≤12:=by
 unfold nmB at h
 cases hc:(seq s ⟨#[]⟩) || (decide ((s.size:Int) >12))with
 | true=>rw [hc]at h;cases h
 | false=>
  rw [hc]at h
  rw [Bool.or_eq_false_iff]at hc
  have h12:=of_decide_eq_false hc.2
  exact⟨q0y _ _ (d1e _ _ h),by omega⟩
def stV(v:Val):Int:=bif v.kind==1 then(bif v.n==1 then 1 else 0)else 2
def ngS(c:Int):Int:=bif c==2 then 2 else bif c==1 then 0 else 1
def orS(a b:Int):Int:=bif (a==1) || (b==1)then 1 else bif (a==0)&& (b==0)then 0 else 2
theorem r0f{c:Int}:ngS c=0∨ngS c=1∨ngS c=2:=by
 unfold ngS
 cases c==2<;>cases c==1<;>simp
theorem x0v{a b:Int}:orS a b=0∨orS a b=1∨orS a b=2:=by
 unfold orS
 cases (a==1) || (b==1)<;>cases (a==0)&& (b==0)<;>simp
theorem v0j{c:Int}(h:c=0∨c=1∨c=2):stV (tV c)=c:=by
 rcases h with rfl | rfl | rfl<;>rfl
theorem z0r(b:Bool):q65z (b,())=some (tV (bif b then 1 else 0),()):=by cases b<;>rfl
theorem h0v(v:Val):q50z (v,())=some (tV (ngS (stV v)),()):=by
 unfold q50z q64z stV
 dsimp+instances only [c0g,n_mk]
 cases v.kind==1<;>cases v.n==1<;>rfl
theorem s0e(v w:Val):q49z (v,w,())=some (tV (orS (stV v) (stV w)),()):=by
 unfold q49z q64z stV
 dsimp+instances only [c0g,n_mk]
 cases v.kind==1<;>cases v.n==1<;>cases w.kind==1<;>cases w.n==1<;>rfl
theorem tV_r(c:Int)(h:c=0∨c=1∨c=2):Right (tV c) 1:=e2u c h 1
def inS(x:Val):Int→List Val→Int
 | c, []=>c
 | c,y::r=>inS x (orS c (smV x y)) r
theorem t1w(x:Val): ∀(l:List Val) (c:Int),(c=0∨c=1∨c=2)→inS x c l=0∨inS x c l=1∨inS x c l=2
 | [],c,h=>h
 | y::r,c,_=>t1w x r _ x0v
def coal:List Val→Val
 | []=>zV
 | x::r=>bif x.kind !=0 then x else coal r
def arg0(l:List Val):Val:=l.headD zV
def arg1(l:List Val):Val:=(l.drop 1).headD zV
def q1v(g:Graph)(s:ByteArray)(l:List Val):Val:=
 bif (seq s ⟨#[43]⟩ || seq s ⟨#[45]⟩) || seq s ⟨#[42]⟩then(bif chk (o0l s (arg0 l) (arg1 l)).1 1 !=0 then zV else(o0l s (arg0 l) (arg1 l)).1)
 else bif seq s ⟨#[61]⟩then tV (smV (arg0 l) (arg1 l))
 else bif seq s ⟨#[60]⟩then tV (lsV (arg0 l) (arg1 l))
 else bif seq s ⟨#[60,61]⟩then tV (ngS (lsV (arg1 l) (arg0 l)))
 else bif seq s ⟨#[97,110,100]⟩then tV (ngS (orS (ngS (stV (arg0 l))) (ngS (stV (arg1 l)))))
 else bif seq s ⟨#[111,114]⟩then tV (orS (stV (arg0 l)) (stV (arg1 l)))
 else bif seq s ⟨#[110,111,116]⟩then tV (ngS (stV (arg0 l)))
 else bif seq s ⟨#[110,117,108,108]⟩then tV (bif (arg0 l).kind==0 then 1 else 0)
 else bif seq s ⟨#[105,110]⟩then(bif (arg1 l).kind !=4 then zV else tV (inS (arg0 l) 0 (arg1 l).l))
 else bif seq s ⟨#[115,105,122,101]⟩then(bif (arg0 l).kind==3 then nV ((b0k (arg0 l).s).length:Int)else bif (arg0 l).kind==4 then nV ((arg0 l).l.length:Int)else zV)
 else bif seq s ⟨#[104,101,97,100]⟩then(bif (arg0 l).kind==4 then(arg0 l).l.headD zV else zV)
 else bif seq s ⟨#[99,111,97,108,101,115,99,101]⟩then coal l
 else bif seq s ⟨#[108,105,115,116]⟩then(bif chk (.mk 4 0 ⟨#[]⟩ l) 1==0 then .mk 4 0 ⟨#[]⟩ l else zV)
 else bif seq s ⟨#[105,100]⟩then arg0 l
 else bif seq s ⟨#[116,121,112,101]⟩then(match s0f g.edges (arg0 l).n with | some x=> .mk 3 0 x.type [] | none=>zV)
 else zV
theorem zV_r:Right zV 1:= .null 1
theorem c2x(sg:ByteArray){a b:Val}(ha:Right a 1)(hb:Right b 1):vOk (o0l sg a b).1:=by
 have oa:=c0z ha
 have ob:=c0z hb
 have la:=e0k ha
 have lb:=e0k hb
 have hz:vOk zV:=c0z zV_r
 have hn: ∀z,vOk (gI z).1:=by
  intro z
  unfold gI
  cases h:inR z with
  | true=>exact c0z (Right.int z 1 h)
  | false=>exact hz
 unfold o0l
 cases (seq sg ⟨#[43]⟩ || seq sg ⟨#[45]⟩) || seq sg ⟨#[42]⟩with
 | false=>exact hz
 | true=>
  cases (a.kind==0) || (b.kind==0)with
  | true=>exact hz
  | false=>
   cases (a.kind==2)&& (b.kind==2)with
   | true=>exact hn _
   | false=>
    cases (seq sg ⟨#[43]⟩&& (a.kind==3))&& (b.kind==3)with
    | true=>
     cases decide (((a.s.size+b.s.size:Nat):Int) >4000)with
     | true=>exact hz
     | false=>
      simp only [cond_true,cond_false]
      rw [vOk,c0w]
      exact⟨by unfold wfI;decide,by unfold wfI;decide,by rw [ByteArray.size_append];unfold maxLen;omega,Nat.zero_le _,fun x hx=>by cases hx⟩
    | false=>
     cases (seq sg ⟨#[43]⟩&& (a.kind==4))&& (b.kind==4)with
     | true=>
      cases decide (((a.l.length+b.l.length:Nat):Int) >30)with
      | true=>exact hz
      | false=>
       simp only [cond_true,cond_false]
       rw [vOk,c0w]
       refine⟨by unfold wfI;decide,by unfold wfI;decide,Nat.zero_le _,by rw [List.length_append];unfold maxLen;omega,fun y hy=> ?_⟩
       rcases List.mem_append.1 hy with hy | hy
       ·exact c0z (l0x ha y hy)
       ·exact c0z (l0x hb y hy)
     | false=>exact hz
theorem t0w(s:ByteArray): ∀(n i:Nat),(n0m s n i).length≤n
 | 0,_=>by simp [n0m]
 | n+1,i=>by
  rw [n0m]
  split
  ·simpa using t0w s n _
  ·simp
theorem f1f(g:Graph)(s:ByteArray)(l:List Val)(hl: ∀x∈l,Right x 1)(h30:l.length≤30)(hg: ∀x∈g.edges,nmB x.type=true):Right (q1v g s l) 1:=by
 have h0:Right (arg0 l) 1:=by
  unfold arg0
  cases l with
  | nil=>exact zV_r
  | cons x r=>exact hl x (by simp)
 have h1:Right (arg1 l) 1:=by
  unfold arg1
  match l,hl with
  | [],_=>exact zV_r
  | [_],_=>exact zV_r
  | _::y::_,hl=>exact hl y (by simp)
 unfold q1v
 cases (seq s ⟨#[43]⟩ || seq s ⟨#[45]⟩) || seq s ⟨#[42]⟩with
 | true=>
  simp only [cond_true]
  cases hc:chk (o0l s (arg0 l) (arg1 l)).1 1 !=0 with
  | true=>exact zV_r
  | false=>exact o0o _ 1 (c2x s h0 h1) (by simpa using hc)
 | false=>
 cases seq s ⟨#[61]⟩with
 | true=>exact tV_r _ (q1o _ _)
 | false=>
 cases seq s ⟨#[60]⟩with
 | true=>exact tV_r _ (u1r _ _)
 | false=>
 cases seq s ⟨#[60,61]⟩with
 | true=>exact tV_r _ r0f
 | false=>
 cases seq s ⟨#[97,110,100]⟩with
 | true=>exact tV_r _ r0f
 | false=>
 cases seq s ⟨#[111,114]⟩with
 | true=>exact tV_r _ x0v
 | false=>
 cases seq s ⟨#[110,111,116]⟩with
 | true=>exact tV_r _ r0f
 | false=>
 cases seq s ⟨#[110,117,108,108]⟩with
 | true=>exact tV_r _ (by cases (arg0 l).kind==0<;>simp)
 | false=>
 cases seq s ⟨#[105,110]⟩with
 | true=>
  simp only [cond_true,cond_false]
  cases (arg1 l).kind !=4 with
  | true=>exact zV_r
  | false=>exact tV_r _ (t1w _ _ _ (.inl rfl))
 | false=>
 cases seq s ⟨#[115,105,122,101]⟩with
 | true=>
  have l0:=e0k h0
  have hr:(b0k (arg0 l).s).length≤4000:=Nat.le_trans (t0w _ _ _) l0.2
  have hn: ∀k:Nat,k≤4000→Right (nV (k:Int)) 1:=fun k hk=> .int _ 1 (by
   have h:inR (k:Int)=true:=by unfold inR;rw [Bool.and_eq_true,decide_eq_true_eq,decide_eq_true_eq];omega
   exact h)
  simp only [cond_true,cond_false]
  cases (arg0 l).kind==3 with
  | true=>exact hn _ hr
  | false=>
   cases (arg0 l).kind==4 with
   | true=>exact hn _ (by omega)
   | false=>exact zV_r
 | false=>
 cases seq s ⟨#[104,101,97,100]⟩with
 | true=>
  simp only [cond_true,cond_false]
  cases (arg0 l).kind==4 with
  | false=>exact zV_r
  | true=>
   have hs:=l0x h0
   cases hl0:(arg0 l).l with
   | nil=>exact zV_r
   | cons x r=>exact m1z (hs x (by rw [hl0];simp)) 1 (by omega)
 | false=>
 cases seq s ⟨#[99,111,97,108,101,115,99,101]⟩with
 | true=>
  simp only [cond_true,cond_false]
  clear h0 h1 h30
  induction l with
  | nil=>exact zV_r
  | cons x r ih=>
   rw [coal]
   cases x.kind !=0 with
   | true=>exact hl x (by simp)
   | false=>exact ih fun y hy=>hl y (by simp [hy])
 | false=>
 cases seq s ⟨#[108,105,115,116]⟩with
 | true=>
  simp only [cond_true,cond_false]
  cases hc:chk (.mk 4 0 ⟨#[]⟩ l) 1==0 with
  | false=>exact zV_r
  | true=>
   simp only [cond_true]
   refine o0o _ 1 ?_ (by simpa using hc)
   rw [vOk,c0w]
   exact⟨by unfold wfI;decide,by unfold wfI;decide,Nat.zero_le _,by unfold maxLen;omega,fun x hx=>c0z (hl x hx)⟩
 | false=>
 cases seq s ⟨#[105,100]⟩with
 | true=>exact h0
 | false=>
 cases seq s ⟨#[116,121,112,101]⟩with
 | true=>
  simp only [cond_true,cond_false]
  cases he:s0f g.edges (arg0 l).n with
  | none=>exact zV_r
  | some x=>
   have hm:=hg x (u0b he)
   have:=d2g hm
   exact .text _ 1 (by omega) this.1
 | false=>exact zV_r
end Pure
namespace Pure
open Esp Ev Go
set_option linter.unusedSimpArgs false
set_option linter.unusedVariables false
theorem ar2{l:List Val}(h:l.length=2):ix l 0=some (arg0 l)∧ix l 1=some (arg1 l)∧arg0 l∈l∧arg1 l∈l:=by
 match l,h with
 | [x,y],_=>exact⟨rfl,rfl,by simp [arg0],by simp [arg1]⟩
theorem ar1{l:List Val}(h:l.length=1):ix l 0=some (arg0 l)∧arg0 l∈l:=by
 match l,h with
 | [x],_=>exact⟨rfl,by simp [arg0]⟩
def ArOk(s:ByteArray)(k:Nat):Prop:=(arN s).2=true∧((arN s).1≥0→(k:Int)=(arN s).1)
theorem ArOk.two{s:ByteArray}{k:Nat}(h:ArOk s k)(h2:arN s=(2,true)):k=2:=by
 have:=h.2 (by rw [h2];decide)
 rw [h2]at this
 simp at this
 omega
theorem ArOk.one{s:ByteArray}{k:Nat}(h:ArOk s k)(h2:arN s=(1,true)):k=1:=by
 have:=h.2 (by rw [h2];decide)
 rw [h2]at this
 simp at this
 omega
theorem p1v{ρ:Type}(n:Nat)(kr:Unit→Option ρ)(k:List Val×(Val×Unit)×(Val×Unit)×Unit→Option ρ)(args:List Val)(x:Val)(h0:ix args 0=some x)(hx:vOk x)(hn:vSz x+7≤n)(o:Val):
  ∀(l:List Val) (i:Int) (c:Int),(c=0∨c=1∨c=2)→a0i (m0d n kr) k i l (args,(o,()),(tV c,()),())=k (args,(o,()),(tV (inS x c l),()),())
 | [],_,_,_=>rfl
 | y::r,i,c,hc=>by
  rw [a0i]
  have ih:=p1v n kr k args x h0 hx hn o r (i+1) (orS c (smV x y)) x0v
  generalize a0i (m0d n kr) k (i+1) r=R at ih
  unfold m0d
  dsimp only
  rw [h0,Option.bind_some]
  rw [Val.eta,Val.eta,Val.eta,Val.eta,k1d x y n hx hn,Option.bind_some]
  dsimp only
  rw [Val.eta,s0e,Option.bind_some,v0j hc,v0j (q1o x y)]
  dsimp only
  rw [Val.eta]
  exact ih
theorem c1l(n:Nat)(k:(Val×Unit)×Unit→Option (Val×Unit))(o:Val)(hk:k ((o,()),())=some (zV,())):
  ∀(l:List Val) (i:Int),a0i (k0l n (fun(o81,_)=>some ((Ev.Val.mk o81.1.kind o81.1.n o81.1.s o81.1.l),()))) k i l ((o,()),())=some (coal l,())
 | [],_=>hk
 | y::r,i=>by
  rw [a0i]
  have ih:=c1l n k o hk r (i+1)
  generalize a0i (k0l n (fun(o81,_)=>some ((Ev.Val.mk o81.1.kind o81.1.n o81.1.s o81.1.l),()))) k (i+1) r=R at ih
  unfold k0l
  dsimp only
  rw [coal]
  cases y.kind !=0 with
  | true=>
   simp only [cond_true]
   rw [Val.eta,Val.eta]
  | false=>
   simp only [cond_false]
   rw [Val.eta]
   exact ih
theorem l2u(g:Graph)(at_:List (ByteArray×Int))(t:Term)(l:List Val)(n:Nat)(hl: ∀x∈l,Right x 1)(h30:l.length≤30)(har:ArOk t.name l.length)(hr:Rise Edg.id g.edges)(h60:g.edges.length≤60)
  (hn:lSz l+1000≤n):q39z n (⟨g,at_⟩,t,l,())=some (q1v g t.name l,()):=by
 obtain⟨k0,v0,s,a0⟩:=t
 rw [o1b]at har⊢
 have sz: ∀x∈l,vSz x+900≤n:=fun x hx=>by have:=y0k hx;omega
 unfold q39z q1v
 dsimp+instances only [o1b]
 have reck:arN s=(2,true)→((ix l 0).bind fun x7=>(ix l 1).bind fun x8=>(q43z n (s,(Ev.Val.mk x7.kind x7.n x7.s x7.l),(Ev.Val.mk x8.kind x8.n x8.s x8.l),())).bind fun(y9,y10,_)=>(q53z n ((Ev.Val.mk y9.kind y9.n y9.s y9.l),())).bind fun(y11,_)=>
   (bif (y11:Int) !=0 then some ((Ev.Val.mk 0 0 (⟨#[]⟩:ByteArray) ([]:List Ev.Val)),())else some ((Ev.Val.mk y9.kind y9.n y9.s y9.l),())))=some (bif chk (o0l s (arg0 l) (arg1 l)).1 1 !=0 then zV else(o0l s (arg0 l) (arg1 l)).1,()):=by
  intro h2
  obtain⟨e0,e1,m0,m1⟩:=ar2 (har.two h2)
  rw [e0,Option.bind_some,e1,Option.bind_some,Val.eta,Val.eta,d2x s (hl _ m0) (hl _ m1) n (by omega),Option.bind_some]
  dsimp only
  rw [Val.eta,o0z _ n (by omega),Option.bind_some]
  dsimp only
  cases chk (o0l s (arg0 l) (arg1 l)).1 1 !=0<;>rfl
 cases h1:seq s ⟨#[43]⟩with
 | true=>
  simp only [cond_true,Bool.true_or]
  exact reck (by rw [(b0e _ _).1 h1];kernel_rfl)
 | false=>
 cases h2:seq s ⟨#[45]⟩with
 | true=>
  simp only [cond_true,cond_false,Bool.true_or,Bool.false_or]
  exact reck (by rw [(b0e _ _).1 h2];kernel_rfl)
 | false=>
 cases h3:seq s ⟨#[42]⟩with
 | true=>
  simp only [cond_true,cond_false,Bool.true_or,Bool.false_or]
  exact reck (by rw [(b0e _ _).1 h3];kernel_rfl)
 | false=>
 simp only [cond_false,Bool.false_or]
 cases h4:seq s ⟨#[61]⟩with
 | true=>
  simp only [cond_true]
  obtain⟨e0,e1,m0,m1⟩:=ar2 (har.two (by rw [(b0e _ _).1 h4];kernel_rfl))
  rw [e0,Option.bind_some,e1,Option.bind_some,Val.eta,Val.eta,k1d _ _ n (c0z (hl _ m0)) (by have:=sz _ m0;omega),Option.bind_some]
  dsimp only
  rw [Val.eta]
 | false=>
 cases h5:seq s ⟨#[60]⟩with
 | true=>
  simp only [cond_true,cond_false]
  obtain⟨e0,e1,m0,m1⟩:=ar2 (har.two (by rw [(b0e _ _).1 h5];kernel_rfl))
  rw [e0,Option.bind_some,e1,Option.bind_some,Val.eta,Val.eta,q1n _ _ n (c0z (hl _ m0)) (by have:=sz _ m0;omega),Option.bind_some]
  dsimp only
  rw [Val.eta]
 | false=>
 cases h6:seq s ⟨#[60,61]⟩with
 | true=>
  simp only [cond_true,cond_false]
  obtain⟨e0,e1,m0,m1⟩:=ar2 (har.two (by rw [(b0e _ _).1 h6];kernel_rfl))
  rw [e1,Option.bind_some,e0,Option.bind_some,Val.eta,Val.eta,q1n _ _ n (c0z (hl _ m1)) (by have:=sz _ m1;omega),Option.bind_some]
  dsimp only
  rw [Val.eta,h0v,Option.bind_some,v0j (u1r _ _)]
  dsimp only
  rw [Val.eta]
 | false=>
 cases h7:seq s ⟨#[97,110,100]⟩with
 | true=>
  simp only [cond_true,cond_false]
  obtain⟨e0,e1,m0,m1⟩:=ar2 (har.two (by rw [(b0e _ _).1 h7];kernel_rfl))
  rw [e0,Option.bind_some,Val.eta,h0v,Option.bind_some,e1,Option.bind_some,Val.eta,h0v,Option.bind_some]
  dsimp only
  rw [Val.eta,Val.eta,s0e,Option.bind_some,v0j r0f,v0j r0f]
  dsimp only
  rw [Val.eta,h0v,Option.bind_some,v0j x0v]
  dsimp only
  rw [Val.eta]
 | false=>
 cases h8:seq s ⟨#[111,114]⟩with
 | true=>
  simp only [cond_true,cond_false]
  obtain⟨e0,e1,m0,m1⟩:=ar2 (har.two (by rw [(b0e _ _).1 h8];kernel_rfl))
  rw [e0,Option.bind_some,e1,Option.bind_some,Val.eta,Val.eta,s0e,Option.bind_some]
  dsimp only
  rw [Val.eta]
 | false=>
 cases h9:seq s ⟨#[110,111,116]⟩with
 | true=>
  simp only [cond_true,cond_false]
  obtain⟨e0,m0⟩:=ar1 (har.one (by rw [(b0e _ _).1 h9];kernel_rfl))
  rw [e0,Option.bind_some,Val.eta,h0v,Option.bind_some]
  dsimp only
  rw [Val.eta]
 | false=>
 cases h10:seq s ⟨#[110,117,108,108]⟩with
 | true=>
  simp only [cond_true,cond_false]
  obtain⟨e0,m0⟩:=ar1 (har.one (by rw [(b0e _ _).1 h10];kernel_rfl))
  rw [e0,Option.bind_some,z0r,Option.bind_some]
  dsimp only
  rw [Val.eta]
 | false=>
 cases h11:seq s ⟨#[105,110]⟩with
 | true=>
  simp only [cond_true,cond_false]
  obtain⟨e0,e1,m0,m1⟩:=ar2 (har.two (by rw [(b0e _ _).1 h11];kernel_rfl))
  have l1:=(e0k (hl _ m1)).1
  rw [e1,Option.bind_some]
  cases (arg1 l).kind !=4 with
  | true=>rfl
  | false=>
   simp only [cond_false]
   rw [z0r,Option.bind_some,Option.bind_some]
   dsimp only
   rw [m0c n _ _ _ n _ _ _ (by omega) (by omega)]
   have:=p1v n (fun(_:Unit)=>(none:Option (Val×Unit))) (fun(v53,o57,o58,_)=>some ((Ev.Val.mk o58.1.kind o58.1.n o58.1.s o58.1.l),())) l (arg0 l) e0 (c0z (hl _ m0)) (by have:=sz _ m0;omega) (.mk 0 0 ⟨#[]⟩ []) (arg1 l).l 0 0 (.inl rfl)
   refine this.trans ?_
   dsimp only
   rw [Val.eta]
 | false=>
 cases h12:seq s ⟨#[115,105,122,101]⟩with
 | true=>
  simp only [cond_true,cond_false]
  obtain⟨e0,m0⟩:=ar1 (har.one (by rw [(b0e _ _).1 h12];kernel_rfl))
  rw [e0,Option.bind_some]
  cases (arg0 l).kind==3 with
  | true=>rfl
  | false=>cases (arg0 l).kind==4<;>rfl
 | false=>
 cases h13:seq s ⟨#[104,101,97,100]⟩with
 | true=>
  simp only [cond_true,cond_false]
  obtain⟨e0,m0⟩:=ar1 (har.one (by rw [(b0e _ _).1 h13];kernel_rfl))
  rw [e0,Option.bind_some]
  cases (arg0 l).kind==4 with
  | false=>rfl
  | true=>
   simp only [cond_true]
   rw [Option.bind_some]
   cases hll:(arg0 l).l with
   | nil=>rfl
   | cons x r=>
    have:decide (((x::r).length:Int) >0)=true:=by simp
    rw [this]
    simp only [cond_true]
    rw [Option.bind_some,hll]
    show some (Val.mk x.kind x.n x.s x.l,())=some (x,())
    rw [Val.eta]
 | false=>
 cases h14:seq s ⟨#[99,111,97,108,101,115,99,101]⟩with
 | true=>
  simp only [cond_true,cond_false]
  rw [l0b n _ _ l n _ (by omega) (by omega)]
  exact c1l n _ _ rfl l 0
 | false=>
 cases h15:seq s ⟨#[108,105,115,116]⟩with
 | true=>
  simp only [cond_true,cond_false]
  rw [o0z _ n (by omega),Option.bind_some]
  dsimp only
  cases chk (.mk 4 0 ⟨#[]⟩ l) 1==0<;>rfl
 | false=>
 cases h16:seq s ⟨#[105,100]⟩with
 | true=>
  simp only [cond_true,cond_false]
  obtain⟨e0,m0⟩:=ar1 (har.one (by rw [(b0e _ _).1 h16];kernel_rfl))
  rw [e0,Option.bind_some,Val.eta]
 | false=>
 cases h17:seq s ⟨#[116,121,112,101]⟩with
 | true=>
  simp only [cond_true,cond_false]
  obtain⟨e0,m0⟩:=ar1 (har.one (by rw [(b0e _ _).1 h17];kernel_rfl))
  rw [e0,Option.bind_some]
  obtain⟨k,hk,hf⟩:=l1n g (arg0 l).n n hr h60 (by omega)
  rw [show(Graph.mk g.nodes g.edges g.next)=g from rfl,hk,Option.bind_some]
  dsimp only
  rw [hf.ge]
  rcases hf with⟨_,hnn⟩ | ⟨_,x,hx,hs⟩
  ·rw [hnn];rfl
  ·rw [hs,hx];rfl
 | false=>rfl
end Pure
namespace Pure
open Esp Ev Go
set_option linter.unusedSimpArgs false
set_option linter.unusedVariables false
def fldV(g:Graph)(id:Int)(s:ByteArray):Val:=
 match b0a g.nodes id with
 | some x=>i0s x.props s
 | none=>match s0f g.edges id with
  | some x=>i0s x.props s
  | none=>zV
mutual
def tval(g:Graph)(at_:List (ByteArray×Int)):Term→Val
 | .mk k v s a=>bif k==1 then v else bif k==2 then .mk 2 (b0c .str .i64 0 at_ s) ⟨#[]⟩ []else bif k==3 then fldV g (b0c .str .i64 0 at_ (hdT a).name) s else q1v g s (t0p g at_ a)
def t0p(g:Graph)(at_:List (ByteArray×Int)):List Term→List Val
 | []=> []
 | x::r=>tval g at_ x::t0p g at_ r
end
theorem q0o(g:Graph)(at_:List (ByteArray×Int)): ∀l:List Term,t0p g at_ l=l.map (tval g at_)
 | []=>rfl
 | x::r=>by rw [t0p,q0o g at_ r];rfl
structure GOk(g:Graph):Prop where
 ok:gOk g
 cg:chkG g=0
theorem GOk.riseN{g:Graph}(h:GOk g):Rise Ev.Node.id g.nodes∧g.nodes.length≤40:=⟨(f0w (f0d h.cg).2.2.1).2.1,(f0d h.cg).1⟩
theorem GOk.riseE{g:Graph}(h:GOk g):Rise Edg.id g.edges∧g.edges.length≤60:=⟨(p0b (f0d h.cg).2.2.2).2.1,(f0d h.cg).2.1⟩
theorem b1x{nodes:List Ev.Node}: ∀{l:List Edg} {last:Int},edgF nodes last l=0→∀x∈l,nmB x.type=true
 | [],_,_=>fun x hx=>(by cases hx)
 | y::r,last,h=>by
  rw [edgF]at h
  cases h1:decide (y.id≤last)with
  | true=>rw [h1]at h;cases h
  | false=>
  rw [h1,cond_false]at h
  cases h2:(b0a nodes y.id).isSome with
  | true=>rw [h2]at h;cases h
  | false=>
  rw [h2,cond_false]at h
  cases h3:nmB y.type with
  | false=>rw [h3]at h;cases h
  | true=>
  rw [h3,Bool.not_true,cond_false]at h
  cases h4:(b0a nodes y.src).isNone with
  | true=>rw [h4]at h;cases h
  | false=>
  rw [h4,cond_false]at h
  cases h5:(b0a nodes y.dst).isNone with
  | true=>rw [h5]at h;cases h
  | false=>
  rw [h5,cond_false]at h
  cases h6:prpE y.props !=0 with
  | true=>rw [h6,cond_true]at h;rw [h]at h6;cases h6
  | false=>
  rw [h6,cond_false]at h
  intro x hx
  rcases List.mem_cons.1 hx with rfl | hx
  ·exact h3
  ·exact b1x h x hx
theorem GOk.types{g:Graph}(h:GOk g): ∀x∈g.edges,nmB x.type=true:=b1x (f0d h.cg).2.2.2
theorem GOk.propsN{g:Graph}(h:GOk g){x:Ev.Node}(hx:x∈g.nodes):x.props.length≤6∧(∀p∈x.props,chk p.val 1=0)∧ ∀p∈x.props,vOk p.val:=
 have h1:=r1k (c1r (f0d h.cg).2.2.1 x hx).2
 ⟨h1.1,h1.2,fun p hp=>((h.ok.1.2 x hx).2.2.2 p hp).2⟩
theorem GOk.propsE{g:Graph}(h:GOk g){x:Edg}(hx:x∈g.edges):x.props.length≤6∧(∀p∈x.props,chk p.val 1=0)∧ ∀p∈x.props,vOk p.val:=
 have h1:=r1k (b1r (f0d h.cg).2.2.2 x hx).1
 ⟨h1.1,h1.2,fun p hp=>((h.ok.2.1.2 x hx).2.2.2.2.2 p hp).2⟩
theorem n0z{l:List Prp}(h1: ∀p∈l,chk p.val 1=0)(h2: ∀p∈l,vOk p.val)(s:ByteArray):Right (i0s l s) 1:=by
 rcases v0a s l with h | ⟨x,hx,h⟩
 ·rw [h];exact .null 1
 ·rw [h];exact o0o _ 1 (h2 x hx) (h1 x hx)
theorem l1e{g:Graph}(h:GOk g)(at_:List (ByteArray×Int))(i:Int)(s:ByteArray)(n:Nat)(hn:100≤n):q36z n (⟨g,at_⟩,i,s,())=some (fldV g i s,())∧Right (fldV g i s) 1:=by
 obtain⟨k,hk,hf⟩:=m0t g i n h.riseN.1 h.riseN.2 (by omega)
 obtain⟨k',hk',hf'⟩:=l1n g i n h.riseE.1 h.riseE.2 (by omega)
 unfold q36z fldV
 dsimp only
 rw [show(Graph.mk g.nodes g.edges g.next)=g from rfl,hk,Option.bind_some]
 dsimp only
 rw [hf.ge]
 rcases hf with⟨_,hnn⟩ | ⟨_,x,hx,hs⟩
 ·rw [hnn]
  simp only [Option.isSome_none,cond_false]
  rw [hk',Option.bind_some]
  dsimp only
  rw [hf'.ge]
  rcases hf' with⟨_,hnn'⟩ | ⟨_,x,hx,hs⟩
  ·rw [hnn'];exact⟨rfl, .null 1⟩
  ·have hm:=u0b hs
   have hp:=h.propsE hm
   rw [hs,hx]
   simp only [Option.isSome_some,cond_true,Option.bind_some]
   rw [g2x x.props s n (by omega) hp.1 hp.2.1,Option.bind_some]
   dsimp only
   rw [Val.eta]
   exact⟨rfl,n0z hp.2.1 hp.2.2 s⟩
 ·have hm:=n1x hs
  have hp:=h.propsN hm
  rw [hs,hx]
  simp only [Option.isSome_some,cond_true,Option.bind_some]
  rw [g2x x.props s n (by omega) hp.1 hp.2.1,Option.bind_some]
  dsimp only
  rw [Val.eta]
  exact⟨rfl,n0z hp.2.1 hp.2.2 s⟩
def atOk(at_:List (ByteArray×Int)):Prop:=∀p∈at_,wfI .i64 p.2
theorem k1m(s:ByteArray): ∀{at_:List (ByteArray×Int)},atOk at_→wfI .i64 (b0c .str .i64 0 at_ s)
 | [],_=>by show wfI .i64 0;unfold wfI;decide
 | p::r,h=>by
  rw [b0c]
  cases c0l .str s p.1 with
  | true=>exact h p (by simp)
  | false=>exact k1m s fun q hq=>h q (by simp [hq])
theorem k2s{b:List (ByteArray×Bool)}{l:List Term}{d:Int}(h:j0q b l d=0): ∀x∈l,tchk b x d=0:=by
 induction l with
 | nil=>intro x hx;cases hx
 | cons y r ih=>
  rw [j0q]at h
  cases hc:tchk b y d !=0
  ·rw [hc]at h
   have hc0:tchk b y d=0:=by simpa using hc
   intro x hx
   rcases List.mem_cons.1 hx with rfl | hx
   ·exact hc0
   ·exact ih h x hx
  ·rw [hc,cond_true]at h
   rw [h]at hc
   cases hc
inductive TR(b:List (ByteArray×Bool)):Term→Int→Prop
 | const (v:Val) (s:ByteArray) (a:List Term) (d:Int):d≤6→chk v 1=0→TR b (.mk 1 v s a) d
 | var (v:Val) (s:ByteArray) (a:List Term) (d:Int):d≤6→d0v .str .bool b s=true→TR b (.mk 2 v s a) d
 | field (v:Val) (s:ByteArray) (a:List Term) (d:Int):d≤6→ix a 0=some (hdT a)→a= [hdT a]→TR b (.mk 3 v s a) d
 | call (v:Val) (s:ByteArray) (a:List Term) (d:Int):d≤6→ArOk s a.length→a.length≤30→(∀x∈a,tchk b x (d+1)=0)→lstB b s (hdT a)=0→zrB v=true→TR b (.mk 4 v s a) d
theorem u2v{b:List (ByteArray×Bool)}{t:Term}{d:Int}(h:tchk b t d=0):TR b t d:=by
 obtain⟨k,v,s,a⟩:=t
 rw [tchk]at h
 cases hd:decide (d>6)with
 | true=>rw [hd]at h;cases h
 | false=>
 have h6:d≤6:=by have:=of_decide_eq_false hd;omega
 rw [hd,cond_false]at h
 cases h1:k==1 with
 | true=>
  have:k=1:=by simpa using h1
  subst this
  rw [h1,cond_true]at h
  cases hz:(!(seq s ⟨#[]⟩)) || decide ((a.length:Int) >0)with
  | true=>rw [hz]at h;cases h
  | false=>
   rw [hz,cond_false]at h
   cases h4:v.kind==4 with
   | true=>rw [h4]at h;cases h
   | false=>rw [h4]at h;exact .const v s a d h6 h
 | false=>
 rw [h1,cond_false]at h
 cases h2:k==2 with
 | true=>
  have:k=2:=by simpa using h2
  subst this
  rw [h2,cond_true]at h
  cases hz:(!zrB v) || decide ((a.length:Int) >0)with
  | true=>rw [hz]at h;cases h
  | false=>
   rw [hz,cond_false]at h
   cases hn: !s0g s with
   | true=>rw [hn]at h;cases h
   | false=>
    rw [hn,cond_false]at h
    cases hm:d0v .str .bool b s with
    | false=>rw [hm]at h;cases h
    | true=>exact .var v s a d h6 hm
 | false=>
 rw [h2,cond_false]at h
 cases h3:k==3 with
 | true=>
  have:k=3:=by simpa using h3
  subst this
  rw [h3,cond_true]at h
  cases hz:(!zrB v) || ((a.length:Int) !=1)with
  | true=>rw [hz]at h;cases h
  | false=>
   rw [Bool.or_eq_false_iff]at hz
   obtain⟨e1,e2⟩:=k2m hz.2
   exact .field v s a d h6 e1 e2
 | false=>
 rw [h3,cond_false]at h
 cases h4:k==4 with
 | false=>rw [h4]at h;cases h
 | true=>
  have:k=4:=by simpa using h4
  subst this
  rw [h4,cond_true]at h
  cases hz:((!(arN s).2) || !zrB v) || (decide ((arN s).1≥0)&& ((a.length:Int) !=(arN s).1))with
  | true=>rw [hz]at h;cases h
  | false=>
   rw [hz,cond_false]at h
   cases h30:decide ((a.length:Int) >30)with
   | true=>rw [h30]at h;cases h
   | false=>
    have hl:=of_decide_eq_false h30
    rw [h30,cond_false]at h
    cases hc:j0q b a (d+1) !=0 with
    | true=>rw [hc,cond_true]at h;rw [h]at hc;cases hc
    | false=>
     rw [hc,cond_false]at h
     have hc0:j0q b a (d+1)=0:=by simpa using hc
     rw [Bool.or_eq_false_iff,Bool.or_eq_false_iff]at hz
     refine .call v s a d h6 ⟨by simpa using hz.1.1,fun hge=> ?_⟩ (by omega) (k2s hc0) h (by simpa using hz.1.2)
     have h2:=hz.2
     rw [decide_eq_true hge,Bool.true_and]at h2
     simpa using h2
theorem c2f{α:Type}{p:Nat→α→Prop}: ∀(l:List α),(∀x∈l,∃N,∀n,N≤n→p n x)→ ∃N,∀n,N≤n→∀x∈l,p n x
 | [],_=>⟨0,fun _ _ x hx=>by cases hx⟩
 | y::r,h=>by
  obtain⟨N1,h1⟩:=h y (by simp)
  obtain⟨N2,h2⟩:=c2f r fun x hx=>h x (by simp [hx])
  refine⟨N1+N2,fun n hn x hx=> ?_⟩
  rcases List.mem_cons.1 hx with rfl | hx
  ·exact h1 n (by omega)
  ·exact h2 n (by omega) x hx
theorem c1g{ρ:Type}(self:Envr×Term×Unit→Option (Val×Unit))(n:Nat)(kr:Unit→Option ρ)(k:(Envr×Unit)×(Term×Unit)×(Val×Unit)×List Val×Unit→Option ρ)(e:Envr)(t:Term)(z:Val):
  ∀(l:List Term) (i:Int) (acc:List Val),(∀x∈l,self (e,x,())=some (tval e.g e.at_ x,()))→acc.length+l.length≤30→a0i (k0n self n kr) k i l ((e,()),(t,()),(z,()),acc,())=k ((e,()),(t,()),(z,()),acc++t0p e.g e.at_ l,())
 | [],i,acc,_,_=>by rw [t0p,List.append_nil];rfl
 | x::r,i,acc,h,hl=>by
  rw [a0i]
  have ih:=c1g self n kr k e t z r (i+1) (acc++ [tval e.g e.at_ x]) (fun y hy=>h y (by simp [hy])) (by simp at hl⊢;omega)
  generalize a0i (k0n self n kr) k (i+1) r=R at ih
  unfold k0n
  dsimp only
  rw [Term.eta2,Term.eta2,show(Envr.mk (Graph.mk e.g.nodes e.g.edges e.g.next) e.at_)=e from rfl,h x (by simp),Option.bind_some]
  dsimp only
  rw [Val.eta,Val.eta,h0j (k2l (by simp at hl⊢;omega) (by omega)),ih,t0p]
  simp
theorem e2t{g:Graph}(hg:GOk g){at_:List (ByteArray×Int)}(ha:atOk at_)(b:List (ByteArray×Bool))(t:Term): ∀d,tOk t→tchk b t d=0→
  (∃N,∀n,N≤n→q35z n (⟨g,at_⟩,t,())=some (tval g at_ t,()))∧Right (tval g at_ t) 1:=by
 induction t using y0i with
 | _ k v s a ih=>
  intro d ht hc
  rw [tOk,m1c]at ht
  have hr:=u2v hc
  cases hr with
  | const v s a d h6 hv=>
   have hR:=o0o v 1 ht.2.1 hv
   refine⟨⟨101,fun n hn=> ?_⟩,by rw [tval];exact hR⟩
   obtain⟨m,rfl⟩: ∃m,n=m+1:=⟨n - 1,by omega⟩
   rw [q35z,tval]
   unfold u0h
   dsimp+instances only [y1j,r1z]
   rw [Val.eta,w0i v 1 m (by omega) (by omega) (by simp;omega) hv]
   simp only [Option.bind_some,beq_self_eq_true,cond_true]
   rw [Val.eta]
  | var v s a d h6 hm=>
   refine⟨⟨101,fun n hn=> ?_⟩,by rw [tval];exact .int _ 1 (k1m s ha)⟩
   obtain⟨m,rfl⟩: ∃m,n=m+1:=⟨n - 1,by omega⟩
   rw [q35z,tval]
   rfl
  | field v s a d h6 e1 e2=>
   refine⟨⟨201,fun n hn=> ?_⟩,by rw [tval];exact(l1e hg at_ _ s 100 (by omega)).2⟩
   obtain⟨m,rfl⟩: ∃m,n=m+1:=⟨n - 1,by omega⟩
   rw [q35z,tval]
   unfold u0h
   dsimp+instances only [y1j,r1z,o1b,d2b]
   rw [e1,Option.bind_some,show(Graph.mk g.nodes g.edges g.next)=g from rfl,(l1e hg at_ _ s m (by omega)).1,Option.bind_some]
   rw [show((3:Int)==1)=false from rfl,show((3:Int)==2)=false from rfl,show((3:Int)==3)=true from rfl]
   simp only [cond_false,cond_true]
   rw [Val.eta]
  | call v s a d h6 har h30 hs _ _=>
   have hall: ∀x∈a,(∃N,∀n,N≤n→q35z n (⟨g,at_⟩,x,())=some (tval g at_ x,()))∧Right (tval g at_ x) 1:=fun x hx=>ih x hx (d+1) (ht.2.2.2.2 x hx) (hs x hx)
   have hR: ∀y∈t0p g at_ a,Right y 1:=by
    rw [q0o]
    intro y hy
    obtain⟨x,hx,rfl⟩:=List.mem_map.1 hy
    exact(hall x hx).2
   have hlen:(t0p g at_ a).length=a.length:=by rw [q0o,List.length_map]
   obtain⟨N,hN⟩:=c2f a fun x hx=>(hall x hx).1
   refine⟨⟨N+lSz (t0p g at_ a)+1001,fun n hn=> ?_⟩,by rw [tval];exact f1f g s _ hR (by omega) hg.types⟩
   obtain⟨m,rfl⟩: ∃m,n=m+1:=⟨n - 1,by omega⟩
   rw [q35z,tval]
   unfold u0h
   dsimp+instances only [y1j,r1z,o1b,d2b]
   rw [show((4:Int)==1)=false from rfl,show((4:Int)==2)=false from rfl,show((4:Int)==3)=false from rfl]
   simp only [cond_false]
   rw [m0k _ m _ _ a m _ _ _ _ (by omega) (by omega)]
   have hlp:=c1g (q35z m) m (fun(_:Unit)=>(none:Option (Val×Unit))) (fun(o17,o18,o19,o20,_)=>(q39z m ((Ev.Envr.mk (Ev.Graph.mk o17.1.g.nodes o17.1.g.edges o17.1.g.next) o17.1.at_),(Ev.Term.mk o18.1.kind (Ev.Val.mk o18.1.v.kind o18.1.v.n o18.1.v.s o18.1.v.l) o18.1.name o18.1.a),o20,())).bind fun(y21,_)=>some ((Ev.Val.mk y21.kind y21.n y21.s y21.l),()))
    ⟨g,at_⟩ (.mk 4 v s a) (.mk 0 0 ⟨#[]⟩ []) a 0 [] (fun x hx=>hN m (by omega) x hx) (by simpa using h30)
   rw [Val.eta]
   refine hlp.trans ?_
   dsimp only
   rw [Term.eta2,List.nil_append,l2u g at_ (.mk 4 v s a) _ m hR (by omega) (by rw [hlen];exact har) hg.riseE.1 hg.riseE.2 (by omega),Option.bind_some]
   dsimp only
   rw [Val.eta]
   rfl
end Pure
namespace Pure
open Esp Ev Go
set_option linter.unusedSimpArgs false
set_option linter.unusedVariables false
theorem e2s(q:Query):Ev.Query.mk q.dots q.arrows q.wher q.items q.dist=q:=rfl
def dtB(d:Ev.Dot):Bool:=(seq d.name ⟨#[]⟩ || s0g d.name)&& (seq d.label ⟨#[]⟩ || nmB d.label)
def arB(a:Ev.Arrow):Bool:=(seq a.name ⟨#[]⟩ || (s0g a.name&& !a.many))&& (seq a.type ⟨#[]⟩ || nmB a.type)
def nmD:List Ev.Dot→List (ByteArray×Bool)→List (ByteArray×Bool)
 | [],m=>m
 | d::r,m=>nmD r (bif !(seq d.name ⟨#[]⟩)then b0s .str .bool m d.name false else m)
def nmA:List Ev.Arrow→List (ByteArray×Bool)→Option (List (ByteArray×Bool))
 | [],m=>some m
 | a::r,m=>bif seq a.name ⟨#[]⟩then nmA r m else bif d0v .str .bool m a.name then none else nmA r (b0s .str .bool m a.name true)
def whF(b:List (ByteArray×Bool)):List Term→Int
 | []=>0
 | t::r=>bif tchk b t 1 !=0 then tchk b t 1 else whF b r
def aggs:List ByteArray:= [(⟨#[]⟩:ByteArray),(⟨#[99,111,117,110,116]⟩:ByteArray),(⟨#[115,117,109]⟩:ByteArray),(⟨#[109,105,110]⟩:ByteArray),(⟨#[109,97,120]⟩:ByteArray)]
def itF(b:List (ByteArray×Bool)):List Ev.Item→List (ByteArray×Bool)→Int
 | [],_=>0
 | i::r,seen=>bif !(s0g i.name)then 6 else bif !(hasL aggs i.agg)then 6 else bif b0c .str .bool false seen i.name then 7 else bif tchk b i.t 1 !=0 then tchk b i.t 1 else itF b r (b0s .str .bool seen i.name true)
def chkQ(q:Query):Int:=
 bif ((((decide (((q.dots.length:Int):Int)<1)) || (decide (((q.dots.length:Int):Int) >5))) || (decide (((q.items.length:Int):Int)<1))) || (decide (((q.items.length:Int):Int) >5))) || (decide (((q.wher.length:Int):Int) >1))then 2
 else bif ((q.arrows.length:Int):Int) !=(q.dots.length:Int) - 1 then 6
 else bif !(q.dots.all dtB)then 6 else bif !(q.arrows.all arB)then 6
 else match nmA q.arrows (nmD q.dots [])with
  | none=>7
  | some b=>bif whF b q.wher !=0 then whF b q.wher else itF b q.items []
theorem n2y{ρ:Type}(n:Nat)(hn:400≤n)(kr:Int×Unit→Option ρ)(K:((Ev.Query×Unit)×Unit)→Option ρ)(q:Query):
  ∀(l:List Ev.Dot) (i:Int),a0i (r0s n kr) K i l ((q,()),())=bif l.all dtB then K ((q,()),())else kr (6,())
 | [],i=>by rw [a0i];rfl
 | d::r,i=>by
  have ih:=n2y n hn kr K q r (i+1)
  rw [a0i,List.all_cons]
  unfold r0s at ih⊢
  unfold dtB at ih⊢
  dsimp only
  rw [x0m d.name n (by omega),h0x d.label n (by omega)]
  simp only [Option.bind_some]
  cases seq d.name ⟨#[]⟩<;>cases s0g d.name<;>cases seq d.label ⟨#[]⟩<;>cases nmB d.label<;>simp only [Bool.not_true,Bool.not_false,cond_true,cond_false,Bool.true_or,Bool.false_or,Bool.true_and,Bool.false_and]<;>first | exact ih | rfl
theorem n2v{ρ:Type}(n:Nat)(hn:400≤n)(kr:Int×Unit→Option ρ)(K:((Ev.Query×Unit)×Unit)→Option ρ)(q:Query):
  ∀(l:List Ev.Arrow) (i:Int),a0i (s0k n kr) K i l ((q,()),())=bif l.all arB then K ((q,()),())else kr (6,())
 | [],i=>by rw [a0i];rfl
 | d::r,i=>by
  have ih:=n2v n hn kr K q r (i+1)
  rw [a0i,List.all_cons]
  unfold s0k at ih⊢
  unfold arB at ih⊢
  dsimp only
  rw [x0m d.name n (by omega),h0x d.type n (by omega)]
  simp only [Option.bind_some]
  cases seq d.name ⟨#[]⟩<;>cases s0g d.name<;>cases d.many<;>cases seq d.type ⟨#[]⟩<;>cases nmB d.type<;>simp only [Bool.not_true,Bool.not_false,cond_true,cond_false,Bool.true_or,Bool.false_or,Bool.or_true,Bool.or_false,Bool.true_and,Bool.false_and,Bool.and_true,Bool.and_false]<;>first | exact ih | rfl
theorem t2c{ρ:Type}(n:Nat)(kr:Unit→Option ρ)(K:((Ev.Query×Unit)×(List (ByteArray×Bool))×Unit)→Option ρ)(q:Query):
  ∀(l:List Ev.Dot) (i:Int) (m:List (ByteArray×Bool)),a0i (p0y n kr) K i l ((q,()),m,())=K ((q,()),nmD l m,())
 | [],i,m=>by rw [a0i];rfl
 | d::r,i,m=>by
  have ih:=fun m=>t2c n kr K q r (i+1) m
  rw [a0i,nmD]
  unfold p0y at ih⊢
  dsimp only
  cases (!(seq d.name ⟨#[]⟩))with
  | true=>rw [cond_true,cond_true];exact ih _
  | false=>rw [cond_false,cond_false];exact ih _
theorem n2o{ρ:Type}(n:Nat)(kr:(List (ByteArray×Bool))×Int×Unit→Option ρ)(K:((List (ByteArray×Bool))×Unit)→Option ρ):
  ∀(l:List Ev.Arrow) (i:Int) (m:List (ByteArray×Bool)),a0i (s0p n kr) K i l (m,())=match nmA l m with | none=>kr ([],7,()) | some b=>K (b,())
 | [],i,m=>by rw [a0i];rfl
 | a::r,i,m=>by
  have ih:=fun m=>n2o n kr K r (i+1) m
  rw [a0i,nmA]
  unfold s0p at ih⊢
  dsimp only
  cases (seq a.name ⟨#[]⟩)with
  | true=>rw [cond_true,cond_true];exact ih _
  | false=>
   rw [cond_false,cond_false]
   cases d0v .str .bool m a.name with
   | true=>rfl
   | false=>rw [cond_false,cond_false];exact ih _
theorem e2d(q:Query)(n:Nat)(h1:q.dots.length≤100)(h2:q.arrows.length≤100)(hn:400≤n):q48z n (q,())=match nmA q.arrows (nmD q.dots [])with | none=>some ([],7,()) | some b=>some (b,0,()):=by
 unfold q48z
 dsimp only
 rw [k0p n _ _ q.dots n _ _ (by omega) (by omega)]
 refine Eq.trans (t2c n _ _ q q.dots 0 []) ?_
 dsimp only
 rw [m0l n _ _ q.arrows n _ (by omega) (by omega)]
 exact n2o n _ _ q.arrows 0 _
theorem r2c{ρ:Type}(n:Nat)(hn:400≤n)(kr:Int×Unit→Option ρ)(K:((List (ByteArray×Bool))×(Ev.Query×Unit)×Unit)→Option ρ)(q:Query)(b:List (ByteArray×Bool)):
  ∀(l:List Term) (i:Int),a0i (s0t n kr) K i l (b,(q,()),())=bif whF b l !=0 then kr (whF b l,())else K (b,(q,()),())
 | [],i=>by rw [a0i];rfl
 | t::r,i=>by
  have ih:=r2c n hn kr K q b r (i+1)
  rw [a0i,whF]
  unfold s0t at ih⊢
  dsimp only
  rw [Term.eta2,z0u b t n (by omega),Option.bind_some]
  dsimp only
  cases h:(tchk b t 1 !=0)with
  | true=>rw [cond_true,cond_true,h,cond_true]
  | false=>rw [cond_false,cond_false];exact ih
theorem t2n{ρ:Type}(n:Nat)(hn:400≤n)(kr:Int×Unit→Option ρ)(K:((List (ByteArray×Bool))×(List (ByteArray×Bool))×Unit)→Option ρ)(hK: ∀b s s',K (b,s,())=K (b,s',()))(b:List (ByteArray×Bool)):
  ∀(l:List Ev.Item) (i:Int) (s:List (ByteArray×Bool)),a0i (p0e n kr) K i l (b,s,())=bif itF b l s !=0 then kr (itF b l s,())else K (b,s,())
 | [],i,s=>by rw [a0i];rfl
 | t::r,i,s=>by
  have ih:=t2n n hn kr K hK b r (i+1) (b0s .str .bool s t.name true)
  rw [a0i,itF]
  unfold p0e at ih⊢
  dsimp only
  rw [x0m t.name n (by omega),Option.bind_some]
  dsimp only
  cases s0g t.name with
  | false=>rfl
  | true=>
   rw [Bool.not_true,cond_false,cond_false,x0u _ t.agg n (by simp) (by omega),Option.bind_some]
   dsimp only
   unfold aggs
   cases hasL [(⟨#[]⟩:ByteArray),(⟨#[99,111,117,110,116]⟩:ByteArray),(⟨#[115,117,109]⟩:ByteArray),(⟨#[109,105,110]⟩:ByteArray),(⟨#[109,97,120]⟩:ByteArray)] t.agg with
   | false=>rfl
   | true=>
    rw [Bool.not_true,cond_false,cond_false]
    cases b0c .str .bool false s t.name with
    | true=>rfl
    | false=>
     rw [cond_false,cond_false,Term.eta2,z0u b t.t n (by omega),Option.bind_some]
     dsimp only
     cases h:(tchk b t.t 1 !=0)with
     | true=>rw [cond_true,cond_true,h,cond_true]
     | false=>rw [cond_false,cond_false];exact ih.trans (by rw [hK b _ s])
theorem h0q(q:Query)(n:Nat)(hn:400≤n):q47z n (q,())=some (chkQ q,()):=by
 unfold q47z chkQ
 dsimp only
 cases hb:((((decide (((q.dots.length:Int):Int)<1)) || (decide (((q.dots.length:Int):Int) >5))) || (decide (((q.items.length:Int):Int)<1))) || (decide (((q.items.length:Int):Int) >5))) || (decide (((q.wher.length:Int):Int) >1))with
 | true=>rfl
 | false=>
  simp only [Bool.or_eq_false_iff,decide_eq_false_iff_not]at hb
  rw [cond_false,cond_false,b0i (by omega) (by omega)]
  cases ha:((q.arrows.length:Int) !=(q.dots.length:Int) - 1)with
  | true=>rfl
  | false=>
   have ha:(q.arrows.length:Int)=(q.dots.length:Int) - 1:=by simpa [bne]using ha
   rw [cond_false,cond_false,l0n n _ _ q.dots n _ (by omega) (by omega)]
   refine Eq.trans (n2y n hn _ _ q q.dots 0) ?_
   cases q.dots.all dtB with
   | false=>rfl
   | true=>
    rw [cond_true,Bool.not_true,cond_false]
    dsimp only
    rw [k0g n _ _ q.arrows n _ (by omega) (by omega)]
    refine Eq.trans (n2v n hn _ _ q q.arrows 0) ?_
    cases q.arrows.all arB with
    | false=>rfl
    | true=>
     rw [cond_true,Bool.not_true,cond_false]
     dsimp only
     rw [e2s,e2d q n (by omega) (by omega) hn]
     cases nmA q.arrows (nmD q.dots [])with
     | none=>rfl
     | some b=>
      dsimp only
      rw [Option.bind_some]
      dsimp only
      rw [show((0:Int) !=0)=false from rfl,cond_false,l0l n _ _ q.wher n _ _ (by omega) (by omega)]
      refine Eq.trans (r2c n hn _ _ q b q.wher 0) ?_
      cases hw:(whF b q.wher !=0)with
      | true=>rw [cond_true,cond_true]
      | false=>
       rw [cond_false,cond_false]
       dsimp only
       rw [l0y n _ _ q.items n _ _ (by omega) (by omega)]
       refine Eq.trans (t2n n hn _ _ (fun _ _ _=>rfl) b q.items 0 []) ?_
       cases hi:(itF b q.items [] !=0)with
       | true=>rfl
       | false=>
        have:itF b q.items []=0:=by simpa [bne]using hi
        rw [this]
        rfl
end Pure

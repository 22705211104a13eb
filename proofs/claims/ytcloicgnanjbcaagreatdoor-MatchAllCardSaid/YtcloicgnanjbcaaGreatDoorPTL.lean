import Derived.Test.YtcloicgnanjbcaaGreatDoorPA
import Derived.KernelRfl
import Derived.Shelf.Bits.Mul64
import Derived.Test.YtcloicgnanjbcaaGreatDoorEvRead6
import Derived.Test.YtcloicgnanjbcaaGreatDoorPCode
import Derived.Test.YtcloicgnanjbcaaGreatDoorPLib
import Derived.Laws.BitsLemmas
import Derived.Laws.RangeAny
noncomputable section
namespace Pure
open Esp Ev Go
set_option linter.unusedSimpArgs false
set_option linter.unusedVariables false
def cmpS(a b:ByteArray):Int:=bif c0w a b then -1 else bif seq a b then 0 else 1
theorem p0u(a b:ByteArray):cmpS a b=0↔a=b:=by
 unfold cmpS;rw [←a0b];have h:=g0b a b;cases h1:c0w a b
 ·cases h2:seq a b<;>simp
 ·have:seq a b=false:=by
   cases h2:seq a b
   ·rfl
   ·have e:=(a0b a b).1 h2
    subst e;rw [h1]at h;simp at h
  simp [this]
theorem n1w(a b:Int):cmpI a b<0↔a<b:=by
 unfold cmpI;by_cases h:a<b
 ·simp [h]
 ·by_cases h2:a>b<;>simp [h,h2]
theorem w1a(a b:Int):cmpI a b=0↔a=b:=by
 unfold cmpI;by_cases h:a<b
 ·simp [h];omega
 ·by_cases h2:a>b
  ·simp [h,h2];omega
  ·simp [h,h2];omega
mutual
def ordV:Val→Val→Int
 | .mk k a s l, .mk k' a' s' l' =>bif cmpI k k' !=0 then cmpI k k' else bif cmpI a a' !=0 then cmpI a a' else bif cmpS s s' !=0 then cmpS s s' else ordL l l'
def ordL:List Val→List Val→Int
 | [], []=>0
 | [],_::_=> -1
 | _::_, []=>1
 | x::r,y::t=>bif ordV x y !=0 then ordV x y else ordL r t
end
theorem bnez{a:Int}(h:a≠0):(a !=0)=true:=by simpa using h
mutual
def vSz:Val→Nat
 | .mk _ _ _ l=>1+lSz l
def lSz:List Val→Nat
 | []=>0
 | x::r=>1+vSz x+lSz r
end
theorem f0i: ∀l:List Val,l.length≤lSz l
 | []=>k2h _
 | x::r=>by have:=f0i r;rw [lSz,k2i];omega
theorem i0y: ∀{l:List Val} {x:Val},x∈l→vSz x<lSz l
 | y::r,x,h=>by
  rw [lSz];rcases k2b.1 h with rfl | h
  ·omega
  ·have:=i0y h;omega
def fdV:List Val→List Val→Option Int
 | x::r,y::t=>bif ordV x y !=0 then some (ordV x y)else fdV r t
 | _,_=>none
theorem j1y: ∀l m:List Val,ordL l m=match fdV l m with | some c=>c | none=>cmpI l.length m.length
 | [], []=>by simp [ordL,fdV,cmpI]
 | [],y::t=>by
  have h:((0:Int)< ((y::t).length:Int)):=by rw [k2i];omega
  simp only [ordL,fdV,cmpI,List.length_nil];rw [show decide (((0:Nat):Int)< ((y::t).length:Int))=true by simp];rfl
 | x::r, []=>by
  have h: ¬(((x::r).length:Int)< (0:Int)):=by rw [k2i];omega
  have h2:(((x::r).length:Int) >(0:Int)):=by rw [k2i];omega
  simp only [ordL,fdV,cmpI,List.length_nil];rw [show decide (((x::r).length:Int)< ((0:Nat):Int))=false from decide_eq_false h,show decide (((x::r).length:Int) >((0:Nat):Int))=true by simp]
  rfl
 | x::r,y::t=>by
  rw [ordL,fdV];by_cases h:ordV x y=0
  ·simp only [h,bne_self_eq_false,cond_false]
   rw [j1y r t];cases fdV r t with
   | some c=>rfl
   | none=>
    simp only [cmpI,k2i];have e1:decide ((((r.length+1:Nat)):Int)< ((t.length+1:Nat):Int))=decide ((r.length:Int)< (t.length:Int)):=by congr 1;apply propext;omega
    have e2:decide ((((r.length+1:Nat)):Int) >((t.length+1:Nat):Int))=decide ((r.length:Int) >(t.length:Int)):=by congr 1;apply propext;omega
    rw [e1,e2]
  ·have:(ordV x y !=0)=true:=by simpa using h
   simp [this]
theorem q0f(s:ByteArray):m0p (d0w s)=s:=by
 unfold m0p d0w;have:Lib.bytesOf (s.data.toList.map fun c=>(c.toNat:Int))=s.data.toList:=by
  unfold Lib.bytesOf;rw [List.map_map]
  conv=>rhs;rw [←List.map_id s.data.toList]
  apply List.map_congr_left;intro c _;simp
 rw [this]
theorem s0d: ∀(x y:List UInt8) (i:Nat),i<x.length→i<y.length→(∀j,j<i→x[j]! =y[j]!)→x[i]! ≠y[i]! →Op.bytesLess x y=decide (x[i]! <y[i]!)
 | [],_,_,h,_,_,_=>by simp at h
 | _::_, [],_,_,h,_,_=>by simp at h
 | a::x,b::y,0,_,_,_,hne=>by
  have hne' :a≠b:=by simpa using hne
  have:(a==b)=false:=by simpa using hne'
  simp [Op.bytesLess,this]
 | a::x,b::y,i+1,hx,hy,hj,hne=>by
  have h0:a=b:=by simpa using hj 0 (by omega)
  subst h0;have:=s0d x y i (by simpa using hx) (by simpa using hy) (fun j h=>by simpa using hj (j+1) (by omega)) (by simpa using hne);have hl: ¬a<a:=by simp
  simp [Op.bytesLess,this]
theorem q0t: ∀(x y:List UInt8),(∀j,j<min x.length y.length→x[j]! =y[j]!)→Op.bytesLess x y=decide (x.length<y.length)
 | [], [],_=>rfl
 | [],_::_,_=>by simp [Op.bytesLess]
 | _::_, [],_=>by simp [Op.bytesLess]
 | a::x,b::y,hj=>by
  have h0:a=b:=by simpa using hj 0 (by simp)
  subst h0;have:=q0t x y fun j h=>by simpa using hj (j+1) (by simp only [k2i];omega)
  simp [Op.bytesLess,this]
theorem same_eq: ∀(x y:List UInt8),(∀j,j<min x.length y.length→x[j]! =y[j]!)→x.length=y.length→x=y
 | [], [],_,_=>rfl
 | [],_::_,_,h=>by simp at h
 | _::_, [],_,h=>by simp at h
 | a::x,b::y,hj,h=>by
  have h0:a=b:=by simpa using hj 0 (by simp)
  rw [h0,same_eq x y (fun j h=>by simpa using hj (j+1) (by simp only [k2i];omega)) (by simpa using h)]
theorem h1b(a:ByteArray)(i:Nat):a[i]! =a.data.toList[i]! :=by
 by_cases h:i<a.size
 ·rw [getElem!_pos a i h,getElem!_pos a.data.toList i (by simpa using h)];rfl
 ·rw [getElem!_neg a i h,getElem!_neg a.data.toList i (by simpa using h)]
theorem cmpx(a b:ByteArray):Extern.BytealgCompare.cmp a b=cmpS a b:=by
 unfold Extern.BytealgCompare.cmp cmpS c0w seq;rw [ByteArray.toList_eq,ByteArray.toList_eq];have ha:a.size=a.data.toList.length:=by simp
 have hb:b.size=b.data.toList.length:=by simp
 split
 ·rename_i i h
  rw [List.find?_range_eq_some]at h;obtain⟨h1,h2,h3⟩:=h;rw [m2e]at h2;rw [h1b,h1b]at h1⊢;have hne:a.data.toList[i]! ≠b.data.toList[i]! :=by simpa using h1
  have hd:=s0d a.data.toList b.data.toList i (by omega) (by omega) (fun j hj=>by
   have:=h3 j hj;rw [h1b,h1b]at this;simpa using this) hne
  rw [hd];have hs:(a.data.toList==b.data.toList)=false:=by
   rw [beq_eq_false_iff_ne];exact fun e=>hne (by rw [e])
  rw [hs];by_cases hl:a.data.toList[i]! <b.data.toList[i]!
  ·rw [if_pos hl];simp only [hl,decide_true,cond_true]
  ·rw [if_neg hl];simp only [hl,decide_false,cond_false]
 ·rename_i h
  rw [List.find?_range_eq_none]at h;have hall: ∀j,j<min a.data.toList.length b.data.toList.length→a.data.toList[j]! =b.data.toList[j]! :=fun j hj=>by
   have:=h j (by omega);rw [h1b,h1b]at this;simpa using this
  rw [q0t _ _ hall,ha,hb];by_cases h1:a.data.toList.length<b.data.toList.length
  ·rw [if_pos h1];simp only [h1,decide_true,cond_true]
  ·rw [if_neg h1]
   simp only [h1,decide_false,cond_false];by_cases h2:a.data.toList.length>b.data.toList.length
   ·have hs:(a.data.toList==b.data.toList)=false:=by
     rw [beq_eq_false_iff_ne];intro e;rw [e]at h2;omega
    rw [if_pos h2,hs];rfl
   ·rw [if_neg h2,same_eq _ _ hall (by omega),beq_self_eq_true];rfl
theorem x0b(a b:ByteArray):q75z (d0w a,d0w b,())=some (cmpS a b,()):=by
 unfold q75z cmpN;simp only [j2r,cmpB,q0f,cmpx]
end Pure
namespace Pure
open Esp Ev Go
set_option linter.unusedSimpArgs false
set_option linter.unusedVariables false
theorem v1x{k n:Int}{s:ByteArray}{l:List Val}(h:vOk (.mk k n s l)):l.length≤maxLen∧∀x∈l,vOk x:=by
 rw [vOk,c0k]at h;exact h.2.2.2
theorem v1k{ρ:Type}(self:Val×Val×Unit→Option Y10)(n:Nat)(v w:Val)(hv:v.l.length≤maxLen)(hs: ∀x∈v.l,∀y∈w.l,self (x,y,())=some (ordV x y,()))(kx:(Val×Unit)×(Val×Unit)×Unit→Option ρ)(kr:Int×Unit→Option ρ):
  ∀(r p r' p' :List Val),v.l=p++r→w.l=p' ++r' →p.length=p'.length→∀fuel,r.length<fuel→
  a0a (fun rc=>i0l self n rc kx kr) fuel ((p.length:Int),(v,()),(w,()),())=match fdV r r' with | some c=>kr (c,()) | none=>kx ((v,()),(w,()),()):=by
 intro r
 induction r with
 | nil=>
  intro p r' p' h1 h2 h3 fuel hf;obtain⟨m,rfl⟩: ∃m,fuel=m+1:=⟨fuel - 1,by omega⟩;have e:decide ((p.length:Int)< (v.l.length:Int))=false:=by rw [decide_eq_false_iff_not,h1];simp
  rw [a0a];unfold i0l;dsimp only;rw [e,l2z,cond_false,fdV,Val.eta,Val.eta];intro x xs y ys h;cases h
 | cons x r ih=>
  intro p r' p' h1 h2 h3 fuel hf;obtain⟨m,rfl⟩: ∃m,fuel=m+1:=⟨fuel - 1,by omega⟩;have hlen:v.l.length=p.length+(r.length+1):=by rw [h1];simp
  have e:decide ((p.length:Int)< (v.l.length:Int))=true:=by rw [decide_eq_true_iff];omega
  rw [a0a];unfold i0l;dsimp only;cases r' with
  | nil=>
   have e2:decide ((p.length:Int)< (w.l.length:Int))=false:=by rw [decide_eq_false_iff_not,h2,h3];simp
   rw [e,e2,l2e,cond_false,fdV,Val.eta,Val.eta];intro x xs y ys _ h;cases h
  | cons y r' =>
   have e2:decide ((p.length:Int)< (w.l.length:Int))=true:=by rw [decide_eq_true_iff,h2,h3];simp;omega
   have e3:ix v.l (p.length:Int)=some x:=a0k (by rw [h1];simp);have e4:ix w.l (p.length:Int)=some y:=by rw [h3];exact a0k (by rw [h2];simp)
   have e5:IntKind.wrap .i64 ((p.length:Int)+1)=((p++ [x]).length:Int):=by unfold maxLen at hv;rw [a0h (by omega) (by omega)];simp
   have i1:=ih (p++ [x]) r' (p' ++ [y]) (by simp [h1]) (by simp [h2]) (by simp [h3]) m (by simp at hf;omega);rw [e,e2,l2e,cond_true,e3,e4,j2r,j2r,Val.eta,Val.eta,hs x (by rw [h1];simp) y (by rw [h2];simp),j2r,Val.eta,Val.eta,e5,fdV];dsimp only;cases hc:ordV x y !=0
   ·exact i1
   ·rfl
theorem q0o(v:Val): ∀(w:Val) (n:Nat),vOk v→vSz v+2≤n→q34z n (v,w,())=some (ordV v w,()):=by
 induction v using e0t with
 | _ k a s l ih=>
  intro w n hok hn;obtain⟨k',a',s',l'⟩:=w;obtain⟨m,rfl⟩: ∃m,n=m+1:=⟨n - 1,by omega⟩;obtain⟨h1,h2⟩:=v1x hok;rw [vSz]at hn;have hl:=f0i l;rw [q34z];unfold d1y;dsimp+instances only [a0t,n_mk,s_mk,l_mk];rw [ordV,x0b];have key:a0a (fun rc15=>i0l (q34z m) m rc15 (fun(z:(Val×Unit)×(Val×Unit)×Unit)=>
 (bif decide (((z.1.1.l.length:Int):Int)< (z.2.1.1.l.length:Int))then some ((-1:Int),())
 else
 (bif decide (((z.1.1.l.length:Int):Int) >(z.2.1.1.l.length:Int))then some (1,())
 else some (0,())))) (fun z=>some (z.1,()))) (m) (0,((Ev.Val.mk k a s l),()),((Ev.Val.mk k' a' s' l'),()),())=some (ordL l l',()):=by
   refine(v1k (q34z m) m (.mk k a s l) (.mk k' a' s' l') h1 (fun x hx y hy=> ?_) _ _ l [] l' [] rfl rfl rfl m (by omega)).trans ?_
   ·exact ih x hx y m (h2 x hx) (by have:=i0y (show x∈l from hx);omega)
   ·rw [j1y]
    cases fdV l l' with
    | some c=>rfl
    | none=>
     dsimp+instances only [l_mk];unfold cmpI;cases decide ((l.length:Int)< (l'.length:Int))
     ·cases decide ((l.length:Int) >(l'.length:Int))<;>rfl
     ·rfl
  have hk:cmpI k k' =0∨cmpI k k' ≠0:=by omega
  rcases hk with hk | hk
  ·have hkk:=(w1a k k').1 hk
   rw [hk];rw [decide_eq_false (show ¬k<k' by omega),decide_eq_false (show ¬k>k' by omega)];simp only [cond_false,bne_self_eq_false];by_cases ha:cmpI a a' =0
   ·have haa:=(w1a a a').1 ha
    rw [ha,decide_eq_false (show ¬a<a' by omega),decide_eq_false (show ¬a>a' by omega)];simp only [cond_false,bne_self_eq_false];by_cases hs:cmpS s s' =0
    ·have hss:=(p0u s s').1 hs
     rw [hs,hss,a0r];simp only [cond_false,bne_self_eq_false,k2e];rw [hss]at key;exact key
    ·have:seq s s' =false:=by
      cases hq:seq s s'
      ·rfl
      ·exact absurd ((p0u s s').2 ((a0b s s').1 hq)) hs
     rw [this,bnez hs];rfl
   ·rw [bnez ha,cond_true]
    unfold cmpI at ha⊢;cases h5:decide (a<a')
    ·cases h6:decide (a>a')
     ·rw [h5,h6]at ha;exact absurd rfl ha
     ·rfl
    ·rfl
  ·rw [bnez hk,cond_true]
   unfold cmpI at hk⊢;cases h5:decide (k<k')
   ·cases h6:decide (k>k')
    ·rw [h5,h6]at hk;exact absurd rfl hk
    ·rfl
   ·rfl
end Pure
namespace Pure
open Esp Ev Go
set_option linter.unusedSimpArgs false
set_option linter.unusedVariables false
theorem i1o(a b:ByteArray):q36z (a,b,())=some (cmpS a b,()):=by
 unfold q36z q56z cmpS;dsimp only;rw [a0r,a0r,j2r,j2r];dsimp only;have h:=g0b b a;cases h1:c0w a b
 ·cases h2:seq a b<;>rfl
 ·rfl
theorem f2d(a b c:Int)(n:Nat)(hn:5≤n):q94z n ([a,b,c],())=some (bif a !=0 then a else bif b !=0 then b else c,()):=by
 unfold q94z;refine(q1p n _ _ [a,b,c] n 0 (by simp) (by simp;omega)).trans ?_;unfold a0c y0v;dsimp only;cases a !=0
 ·rw [cond_false,cond_false]
  unfold a0c;dsimp only;cases b !=0
  ·rw [cond_false,cond_false]
   unfold a0c;dsimp only;cases hc:c !=0
   ·have:c=0:=by simpa using hc
    rw [this];rfl
   ·rfl
  ·rfl
 ·rfl
theorem k1i(cmpf:Val×Val×Unit→Option Y10)(w:List Val): ∀(r p r' :List Val),(∀x∈r,∀y∈w,cmpf (x,y,())=some (ordV x y,()))→(p.length≤w.length→w.drop p.length=r')→p.length≤w.length→
  a0c (fun(i:Int) (x:Val) (u:Unit) (rec:Unit→Option Y10)=>bif decide ((i:Int) ≥(w.length:Int))then some (1,())else(ix w i).bind fun y=>(cmpf (x,y,())).bind fun c=>bif c.1 !=0 then some (c.1,())else rec ())
   (fun _=>bif decide (((p.length+r.length:Nat):Int)< (w.length:Int))then some (-1,())else some (0,())) (p.length:Int) r ()=some (ordL r r',()):=by
 intro r
 induction r with
 | nil=>
  intro p r' _ h2 h3;have h4:=h2 h3;rw [a0c];cases r' with
  | nil=>
   have:w.length≤p.length:=by rw [←List.drop_eq_nil_iff];exact h4
   rw [decide_eq_false (by simp;omega)];rfl
  | cons y r' =>
   have:p.length<w.length:=by
    rcases m2q p.length w.length with h | h
    ·exact h
    ·rw [List.drop_eq_nil_iff.2 h]at h4;cases h4
   rw [decide_eq_true (by simp;omega)];rfl
 | cons x r ih=>
  intro p r' h1 h2 h3;have h4:=h2 h3;rw [a0c];cases r' with
  | nil=>
   have:w.length≤p.length:=by rw [←List.drop_eq_nil_iff];exact h4
   rw [decide_eq_true (by omega)];rfl
  | cons y r' =>
   have hlt:p.length<w.length:=by
    rcases m2q p.length w.length with h | h
    ·exact h
    ·rw [List.drop_eq_nil_iff.2 h]at h4;cases h4
   have hy:w[p.length]? =some y:=by
    have:=congrArg List.head? h4;rw [List.head?_drop]at this;exact this
   have h5:w.drop (p++ [x]).length=r' :=by
    rw [j2y,k2u, ←List.drop_drop,h4];rfl
   have i1:=ih (p++ [x]) r' (fun z hz=>h1 z (by simp [hz])) (fun _=>h5) (by simp;omega);have e1:((p.length:Int)+1)=((p++ [x]).length:Int):=by simp
   have e2:p.length+(x::r).length=(p++ [x]).length+r.length:=by simp;omega
   rw [decide_eq_false (by omega),cond_false,a0k hy,j2r,h1 x (by simp) y (List.mem_of_getElem? hy),j2r,ordL,e1,e2,i1];dsimp only;cases ordV x y !=0<;>rfl
theorem v0v(v:Val): ∀(w:Val) (n:Nat),vOk v→vSz v+6≤n→q90z n (v,w,())=some (ordV v w,()):=by
 induction v using e0t with
 | _ k a s l ih=>
  intro w n hok hn;obtain⟨k',a',s',l'⟩:=w;obtain⟨m,rfl⟩: ∃m,n=m+1:=⟨n - 1,by omega⟩;obtain⟨h1,h2⟩:=v1x hok;rw [vSz]at hn;have hl:=f0i l;rw [q90z];unfold j1n;dsimp+instances only [a0t,n_mk,s_mk,l_mk];have key:q0z (q90z m) m (l,l',())=some (ordL l l',()):=by
   unfold q0z;refine(a0d l (fun i (u:Unit)=>(l,l',l,(l.length:Int),i,())) _ (fun(i:Int) (x:Val) (u:Unit) (rec:Unit→Option Y10)=>bif decide ((i:Int) ≥(l'.length:Int))then some (1,())else(ix l' i).bind fun y=>(q90z m (x,y,())).bind fun c=>bif c.1 !=0 then some (c.1,())else rec ())
    (fun _=>bif decide ((l.length:Int)< (l'.length:Int))then some (-1,())else some (0,())) (fun rec i u=> ?_) (by unfold maxLen at h1;omega) m () (by omega)).trans ?_
   ·unfold r1q
    simp only [Val.eta]
   ·have:=k1i (q90z m) l' l [] l' (fun x hx y hy=>ih x hx y m (h2 x hx) (by have:=i0y (show x∈l from hx);omega)) (fun _=>rfl) (by simp)
    rw [List.length_nil,l2b]at this;exact this
  rw [i0c,i0c,i1o,j2r,key,ordV];dsimp only;cases cmpI k k' !=0
  ·rw [cond_false,cond_false,j2r,j2r,j2r]
   dsimp only;rw [f2d _ _ _ m (by omega)];rfl
  ·rfl
end Pure
namespace Pure
open Esp Ev Go
set_option linter.unusedSimpArgs false
set_option linter.unusedVariables false
def tV(c:Int):Val:=bif c==2 then .mk 0 0 ⟨#[]⟩ []else .mk 1 c ⟨#[]⟩ []
mutual
def smV:Val→Val→Int
 | .mk k a s l, .mk k' a' s' l' =>bif (k==0) || (k' ==0)then 2 else bif (k !=4) || (k' !=4)then(bif ordV (.mk k a s l) (.mk k' a' s' l')==0 then 1 else 0)else bif (l.length:Int) !=(l'.length:Int)then 0 else smL 1 l l'
def smL(acc:Int):List Val→List Val→Int
 | x::r,y::t=>bif smV x y==2 then smL 2 r t else bif smV x y==0 then 0 else smL acc r t
 | _,_=>acc
end
theorem j1b{l:List Val}(h: ∀x∈l,∀y,smV x y=0∨smV x y=1∨smV x y=2): ∀(acc:Int) (m:List Val),(acc=1∨acc=2)→smL acc l m=0∨smL acc l m=1∨smL acc l m=2:=by
 induction l with
 | nil=>intro acc m ha;rw [smL]; · omega
        intro x r y t h;cases h
 | cons x r ih=>
  intro acc m ha;cases m with
  | nil=>rw [smL]; · omega
         intro x r y t _ h;cases h
  | cons y t=>
   rw [smL];have ih' :=ih fun z hz=>h z (by simp [hz]);cases smV x y==2
   ·rw [cond_false]
    cases smV x y==0
    ·rw [cond_false];exact ih' acc t ha
    ·exact .inl rfl
   ·rw [cond_true];exact ih' 2 t (.inr rfl)
theorem i0o(v:Val): ∀w,smV v w=0∨smV v w=1∨smV v w=2:=by
 induction v using e0t with
 | _ k a s l ih=>
  intro w;obtain⟨k',a',s',l'⟩:=w;rw [smV];cases (k==0) || (k' ==0)
  ·rw [cond_false]
   cases (k !=4) || (k' !=4)
   ·rw [cond_false]
    cases (l.length:Int) !=(l'.length:Int)
    ·rw [cond_false];exact j1b ih 1 l' (.inl rfl)
    ·exact .inl rfl
   ·rw [cond_true]
    cases ordV (.mk k a s l) (.mk k' a' s' l')==0
    ·exact .inl rfl
    ·exact .inr (.inl rfl)
  ·exact .inr (.inr rfl)
theorem p1v{c:Int}:((tV c).kind==0)=(c==2):=by
 unfold tV;cases h:c==2<;>rfl
theorem tV_n{c:Int}(h:(c==2)=false):(tV c).n=c:=by
 unfold tV;rw [h];rfl
theorem v1l(c:Int)(h:c=0∨c=1∨c=2)(d:Int):Right (tV c) d:=by
 rcases h with h | h | h
 ·subst h;exact .truth 0 d (.inl rfl)
 ·subst h;exact .truth 1 d (.inr rfl)
 ·subst h;exact .null d
theorem neI{a b:Nat}(h:((a:Int) !=(b:Int))=false):a=b:=by
 have h2:(a:Int)=b:=by simpa using h
 omega
def lsV(v w:Val):Int:=bif (v.kind !=w.kind) || ((v.kind !=2)&& (v.kind !=3))then 2 else bif decide (ordV v w<0)then 1 else 0
theorem z0q(v w:Val):lsV v w=0∨lsV v w=1∨lsV v w=2:=by
 unfold lsV;cases (v.kind !=w.kind) || ((v.kind !=2)&& (v.kind !=3))
 ·cases decide (ordV v w<0)
  ·exact .inl rfl
  ·exact .inr (.inl rfl)
 ·exact .inr (.inr rfl)
end Pure
namespace Pure
open Esp Ev Go
set_option linter.unusedSimpArgs false
set_option linter.unusedVariables false
theorem s0w(b:Bool):q93z (b,())=some (tV (bif b then 1 else 0),()):=by cases b<;>rfl
theorem d0o(c:Int):q51z (c,())=some (tV c,()):=by
 unfold q51z tV;dsimp only;cases c==2<;>rfl
theorem m1g{ρ:Type}(self:Val×Val×Unit→Option (Val×Unit))(n:Nat)(v w:Val)(hv:v.l.length≤maxLen)(hs: ∀x∈v.l,∀y∈w.l,self (x,y,())=some (tV (smV x y),()))(kx:(Val×Unit)×(Val×Unit)×Unit→Option ρ)(kr:(Val×Unit)×Unit→Option ρ):
  ∀(r p r' p' :List Val) (u:Val) (acc:Int),v.l=p++r→w.l=p' ++r' →p.length=p'.length→r.length=r'.length→(acc=1∨acc=2)→ ∀fuel,r.length<fuel→
  ∃u',a0a (fun rc=>i0b self n rc kx kr) fuel ((v.l.length:Int),(p.length:Int),(v,()),(w,()),(u,()),(tV acc,()),())=bif smL acc r r' ==0 then kr ((tV 0,()),())else kx ((u',()),(tV (smL acc r r'),()),()):=by
 intro r
 induction r with
 | nil=>
  intro p r' p' u acc h1 h2 h3 h4 ha fuel hf;obtain⟨m,rfl⟩: ∃m,fuel=m+1:=⟨fuel - 1,by omega⟩;have e:decide ((p.length:Int)< (v.l.length:Int))=false:=by rw [decide_eq_false_iff_not,h1];simp
  have hr:r' = []:=by cases r' with
   | nil=>rfl
   | cons y t=>simp at h4
  subst hr;refine⟨u, ?_⟩;rw [a0a];unfold i0b;dsimp only;rw [e,cond_false,smL]
  ·have:(acc==0)=false:=by rcases ha with rfl | rfl<;>rfl
   rw [this,cond_false];simp only [Val.eta]
  ·intro x xs y ys h;cases h
 | cons x r ih=>
  intro p r' p' u acc h1 h2 h3 h4 ha fuel hf;obtain⟨m,rfl⟩: ∃m,fuel=m+1:=⟨fuel - 1,by omega⟩;cases r' with
  | nil=>simp at h4
  | cons y r' =>
   have hlen:v.l.length=p.length+(r.length+1):=by rw [h1];simp
   have e:decide ((p.length:Int)< (v.l.length:Int))=true:=by rw [decide_eq_true_iff];omega
   have e3:ix v.l (p.length:Int)=some x:=a0k (by rw [h1];simp);have e4:ix w.l (p.length:Int)=some y:=by rw [h3];exact a0k (by rw [h2];simp)
   have e5:IntKind.wrap .i64 ((p.length:Int)+1)=((p++ [x]).length:Int):=by unfold maxLen at hv;rw [a0h (by omega) (by omega)];simp
   have i1:=fun u acc ha=>ih (p++ [x]) r' (p' ++ [y]) u acc (by simp [h1]) (by simp [h2]) (by simp [h3]) (by simpa using h4) ha m (by simp at hf;omega);have hxy:=hs x (by rw [h1];simp) y (by rw [h2];simp);rw [a0a];generalize a0a (fun rc=>i0b self n rc kx kr) m=R at i1⊢;unfold i0b;dsimp only;simp only [e,e3,e4,e5,cond_true,j2r,Val.eta,hxy,smL,p1v];cases hc:smV x y==2
   ·simp only [cond_false]
    rw [tV_n hc];cases hz:smV x y==0
    ·simp only [cond_false]
     exact i1 u acc ha
    ·have hz' :smV x y=0:=by simpa using hz
     rw [hz'];exact⟨u,rfl⟩
   ·have hc' :smV x y=2:=by simpa using hc
    rw [hc'];simp only [cond_true];exact i1 _ 2 (.inr rfl)
theorem g1o(v:Val): ∀(w:Val) (n:Nat),vOk v→vSz v+7≤n→t0m n (v,w,())=some (tV (smV v w),()):=by
 induction v using e0t with
 | _ k a s l ih=>
  intro w n hok hn;obtain⟨k',a',s',l'⟩:=w;obtain⟨m,rfl⟩: ∃m,n=m+1:=⟨n - 1,by omega⟩;obtain⟨h1,h2⟩:=v1x hok;have hord:=v0v (.mk k a s l) (.mk k' a' s' l') m hok (by omega);rw [vSz]at hn;have hl:=f0i l;rw [t0m];unfold c1z;dsimp+instances only [a0t,n_mk,s_mk,l_mk];rw [smV];cases h0:(k==0) || (k' ==0)
  ·simp only [cond_false]
   cases h4:(k !=4) || (k' !=4)
   ·simp only [cond_false]
    cases hll:(l.length:Int) !=(l'.length:Int)
    ·have hll' :l.length=l'.length:=neI hll
     simp only [cond_false];rw [s0w,j2r];dsimp only;obtain⟨u',key⟩:=m1g (ρ:=Val×Unit) (t0m m) m (.mk k a s l) (.mk k' a' s' l') h1 (fun x hx y hy=>ih x hx y m (h2 x hx) (by have:=i0y (show x∈l from hx);omega)) (fun z=>some (z.2.1.1,())) (fun z=>some (z.1.1,())) l [] l' [] (.mk 0 0 ⟨#[]⟩ []) 1 rfl rfl rfl hll' (.inl rfl) m (by omega)
     simp only [Val.eta];refine Eq.trans key ?_;cases hz:smL 1 l l' ==0
     ·rfl
     ·have hz' :smL 1 l l' =0:=by simpa using hz
      rw [hz'];rfl
    ·rfl
   ·simp only [cond_true]
    rw [hord,j2r];dsimp only;rw [s0w];cases ordV (.mk k a s l) (.mk k' a' s' l')==0<;>rfl
  ·rfl
theorem c1c{ρ:Type}(self:Val×Val×Unit→Option (Val×Unit))(n:Nat)(v w o:Val)(hv:v.l.length≤maxLen)(hs: ∀x∈v.l,∀y∈w.l,self (x,y,())=some (tV (smV x y),()))(kx:Bool×(Val×Unit)×Unit→Option ρ)(kr:(Val×Unit)×Unit→Option ρ):
  ∀(r p r' p' :List Val) (u:Bool),v.l=p++r→w.l=p' ++r' →p.length=p'.length→r.length=r'.length→∀fuel,r.length<fuel→
  ∃o',a0a (fun rc=>l0h self n rc kx kr) fuel (u,(v.l.length:Int),(p.length:Int),(v,()),(w,()),(o,()),())=bif smL (bif u then 2 else 1) r r' ==0 then kr ((tV 0,()),())else kx (smL (bif u then 2 else 1) r r' ==2,(o',()),()):=by
 intro r
 induction r with
 | nil=>
  intro p r' p' u h1 h2 h3 h4 fuel hf;obtain⟨m,rfl⟩: ∃m,fuel=m+1:=⟨fuel - 1,by omega⟩;have e:decide ((p.length:Int)< (v.l.length:Int))=false:=by rw [decide_eq_false_iff_not,h1];simp
  have hr:r' = []:=by cases r' with
   | nil=>rfl
   | cons y t=>simp at h4
  subst hr;refine⟨o, ?_⟩;rw [a0a];unfold l0h;dsimp only;rw [e,cond_false,smL]
  ·simp only [Val.eta]
   cases u<;>rfl
  ·intro x xs y ys h;cases h
 | cons x r ih=>
  intro p r' p' u h1 h2 h3 h4 fuel hf;obtain⟨m,rfl⟩: ∃m,fuel=m+1:=⟨fuel - 1,by omega⟩;cases r' with
  | nil=>simp at h4
  | cons y r' =>
   have hlen:v.l.length=p.length+(r.length+1):=by rw [h1];simp
   have e:decide ((p.length:Int)< (v.l.length:Int))=true:=by rw [decide_eq_true_iff];omega
   have e3:ix v.l (p.length:Int)=some x:=a0k (by rw [h1];simp);have e4:ix w.l (p.length:Int)=some y:=by rw [h3];exact a0k (by rw [h2];simp)
   have e5:IntKind.wrap .i64 ((p.length:Int)+1)=((p++ [x]).length:Int):=by unfold maxLen at hv;rw [a0h (by omega) (by omega)];simp
   have i1:=fun u=>ih (p++ [x]) r' (p' ++ [y]) u (by simp [h1]) (by simp [h2]) (by simp [h3]) (by simpa using h4) m (by simp at hf;omega);have hxy:=hs x (by rw [h1];simp) y (by rw [h2];simp);rw [a0a];generalize a0a (fun rc=>l0h self n rc kx kr) m=R at i1⊢;unfold l0h;dsimp only;simp only [e,e3,e4,e5,cond_true,j2r,Val.eta,hxy,smL,p1v];cases hc:smV x y==2
   ·simp only [cond_false]
    rw [tV_n hc];cases hz:smV x y==0
    ·simp only [cond_false]
     exact i1 u
    ·refine⟨o, ?_⟩
     simp only [cond_true];rfl
   ·have hc' :smV x y=2:=by simpa using hc
    rw [hc'];simp only [cond_true];exact i1 true
theorem y0h(v:Val): ∀(w:Val) (n:Nat),vOk v→vSz v+7≤n→q45z n (v,w,())=some (tV (smV v w),()):=by
 induction v using e0t with
 | _ k a s l ih=>
  intro w n hok hn;obtain⟨k',a',s',l'⟩:=w;obtain⟨m,rfl⟩: ∃m,n=m+1:=⟨n - 1,by omega⟩;obtain⟨h1,h2⟩:=v1x hok;have hord:=q0o (.mk k a s l) (.mk k' a' s' l') m hok (by omega);rw [vSz]at hn;have hl:=f0i l;rw [q45z];unfold m1u;dsimp+instances only [a0t,n_mk,s_mk,l_mk];rw [smV];cases h0:(k==0) || (k' ==0)
  ·simp only [cond_false]
   have h4e:((k !=4) || (k' !=4))= !((k==4)&& (k' ==4)):=by
    unfold bne;cases k==4<;>cases k' ==4<;>rfl
   rw [h4e];cases h4:(k==4)&& (k' ==4)
   ·simp only [cond_false,k2w,cond_true]
    unfold q23z;dsimp only;simp only [Val.eta];rw [hord,j2r,j2r];dsimp only;simp only [d0o,j2r,Val.eta];cases ordV (.mk k a s l) (.mk k' a' s' l')==0<;>rfl
   ·simp only [cond_true,k2e,cond_false]
    cases hll:(l.length:Int) !=(l'.length:Int)
    ·have hll' :l.length=l'.length:=neI hll
     simp only [cond_false];obtain⟨o',key⟩:=c1c (ρ:=Val×Unit) (q45z m) m (.mk k a s l) (.mk k' a' s' l') (.mk 0 0 ⟨#[]⟩ []) h1 (fun x hx y hy=>ih x hx y m (h2 x hx) (by have:=i0y (show x∈l from hx);omega)) (fun z=>bif z.1 then some (tV 2,())else some (tV 1,())) (fun z=>some (z.1.1,())) l [] l' [] false rfl rfl rfl hll' m (by omega)
     simp only [Val.eta,d0o,j2r];refine Eq.trans key ?_;rw [cond_false];rcases j1b (l:=l) (fun x _ y=>i0o x y) 1 l' (.inl rfl)with hz | hz | hz<;>rw [hz]<;>rfl
    ·rfl
  ·rfl
theorem l1q(v w:Val)(n:Nat)(hok:vOk v)(hn:vSz v+6≤n):s0y n (v,w,())=some (tV (lsV v w),()):=by
 unfold s0y lsV;dsimp only;cases (v.kind !=w.kind) || ((v.kind !=2)&& (v.kind !=3))
 ·simp only [cond_false,Val.eta,v0v v w n hok hn,j2r,s0w]
 ·rfl
theorem y0s(v w:Val)(n:Nat)(hok:vOk v)(hn:vSz v+6≤n):q42z n (v,w,())=some (tV (lsV v w),()):=by
 unfold q42z lsV;dsimp only;cases (v.kind !=w.kind) || ((v.kind !=2)&& (v.kind !=3))
 ·simp only [cond_false,Val.eta,q0o v w n hok (by omega),j2r,d0o]
  cases decide (ordV v w<0)<;>rfl
 ·simp only [cond_true,d0o,j2r,Val.eta]
end Pure
namespace Pure
open Esp Ev Go
set_option linter.unusedSimpArgs false
set_option linter.unusedVariables false
def inR(x:Int):Bool:=decide (-9223372036854775808≤x)&&decide (x≤9223372036854775807)
theorem z1l(x:Int):IntKind.i64.wrap x=(x+9223372036854775808)%18446744073709551616 - 9223372036854775808:=by rw [IntKind.wrap_i64]
theorem c2n(a b:Int)(ha:inR a=true)(hb:inR b=true):k0r (a,b,())=some (IntKind.wrap .i64 (a+b),inR (a+b),()):=by
 unfold k0r inR at*;dsimp only;rw [z1l];simp only [j2s,decide_eq_true_eq]at ha hb;have:(decide ((a+b+9223372036854775808)%18446744073709551616 - 9223372036854775808>a)==decide (b>0))=(decide (-9223372036854775808≤a+b)&&decide (a+b≤9223372036854775807)):=by
  rw [Bool.eq_iff_iff];simp only [beq_iff_eq,j2s,decide_eq_true_eq,decide_eq_decide];omega
 rw [this]
theorem c2w(a b:Int)(ha:inR a=true)(hb:inR b=true):k0d (a,b,())=some (IntKind.wrap .i64 (a - b),inR (a - b),()):=by
 unfold k0d inR at*;dsimp only;rw [z1l];simp only [j2s,decide_eq_true_eq]at ha hb;have:(decide ((a - b+9223372036854775808)%18446744073709551616 - 9223372036854775808<a)==decide (b>0))=(decide (-9223372036854775808≤a - b)&&decide (a - b≤9223372036854775807)):=by
  rw [Bool.eq_iff_iff];simp only [beq_iff_eq,j2s,decide_eq_true_eq,decide_eq_decide];omega
 rw [this]
theorem shrN(a:Nat):bshr .u64 (a:Int) 32=((a / 4294967296:Nat):Int):=by
 unfold bshr;rw [show(2:Int) ^ (min (32:Int).toNat IntKind.u64.bits)=4294967296 from rfl,m2j _ (by omega)]
 omega
theorem r1g(a:Nat)(ha:a<18446744073709551616):band .u64 (a:Int) 4294967295=((a%4294967296:Nat):Int):=Go.Proofs.Mul64.maskN a ha
theorem u1o(x y:Nat)(hx:x<18446744073709551616)(hy:y<18446744073709551616):q69z (x,y,())=some (((x*y / 18446744073709551616:Nat):Int),((x*y%18446744073709551616:Nat):Int),()):=by
 obtain⟨bd,bt,bw,hhi⟩:=Lib.mul64_hi x y hx hy;have ba:=Lib.half_mul_le (a:=x / 4294967296) (b:=y / 4294967296) (by omega) (by omega);have bb:=Lib.half_mul_le (a:=x / 4294967296) (b:=y%4294967296) (by omega) (by omega);have bc:=Lib.half_mul_le (a:=x%4294967296) (b:=y / 4294967296) (by omega) (by omega);have ba' :x / 4294967296*(y / 4294967296)<18446744073709551616:=by omega
 have bb' :x / 4294967296*(y%4294967296)<18446744073709551616:=by omega
 have bc' :x%4294967296*(y / 4294967296)<18446744073709551616:=by omega
 have bh1:x / 4294967296*(y / 4294967296)+(x / 4294967296*(y%4294967296)+x%4294967296*(y%4294967296) / 4294967296) / 4294967296<18446744073709551616:=by omega
 have bh:x / 4294967296*(y / 4294967296)+(x / 4294967296*(y%4294967296)+x%4294967296*(y%4294967296) / 4294967296) / 4294967296+((x / 4294967296*(y%4294967296)+x%4294967296*(y%4294967296) / 4294967296)%4294967296+x%4294967296*(y / 4294967296)) / 4294967296<18446744073709551616:=by omega
 unfold q69z;dsimp only;simp only [r1g x hx,r1g y hy,shrN,Go.Proofs.Mul64.mulN,Go.Proofs.Mul64.addN,Go.Proofs.Mul64.wrapN _ bd,Go.Proofs.Mul64.wrapN _ bb',Go.Proofs.Mul64.wrapN _ bt,r1g _ bt,Go.Proofs.Mul64.wrapN _ bc',Go.Proofs.Mul64.wrapN _ bw,Go.Proofs.Mul64.wrapN _ ba',Go.Proofs.Mul64.wrapN _ bh1,Go.Proofs.Mul64.wrapN _ bh,Go.Proofs.Mul64.wrapM (x*y)];rw [hhi]
theorem q1k(a:Int)(ha:inR a=true):q92z (a,())=some ((a.natAbs:Int),()):=by
 unfold q92z inR at*;simp only [j2s,decide_eq_true_eq]at ha;dsimp only;simp only [IntKind.wrap_u64];by_cases h:a<0
 ·rw [decide_eq_true h,cond_true]
  congr 2;omega
 ·rw [decide_eq_false h,cond_false]
  congr 2;omega
theorem f2j(a b:Int)(ha:inR a=true)(hb:inR b=true): ∃z,j0c (a,b,())=some (z,inR (a*b),())∧(inR (a*b)=true→z=a*b):=by
 have h1:=q1k a ha;have h2:=q1k b hb;have h3:=u1o a.natAbs b.natAbs (by unfold inR at ha;simp only [j2s,decide_eq_true_eq]at ha;omega) (by unfold inR at hb;simp only [j2s,decide_eq_true_eq]at hb;omega);have hab:(a*b).natAbs=a.natAbs*b.natAbs:=Int.natAbs_mul a b;have hsg:(a<0↔b<0)→0≤a*b:=fun h=>by
  rcases(show a<0∨0≤a by omega)with h1 | h1
  ·exact Int.mul_nonneg_of_nonpos_of_nonpos (by omega) (by have:=h.1 h1;omega)
  ·exact Int.mul_nonneg h1 (by rcases(show b<0∨0≤b by omega)with h2 | h2
                               ·have:=h.2 h2;omega
                               ·exact h2)
 have hsn: ¬(a<0↔b<0)→a*b≤0:=fun h=>by
  rcases(show a<0∨0≤a by omega)with h1 | h1
  ·exact Int.mul_nonpos_of_nonpos_of_nonneg (by omega) (by rcases(show b<0∨0≤b by omega)with h2 | h2
                                                           ·exact absurd ⟨fun _=>h2,fun _=>h1⟩ h
                                                           ·exact h2)
  ·exact Int.mul_nonpos_of_nonneg_of_nonpos h1 (by rcases(show b<0∨0≤b by omega)with h2 | h2
                                                   ·omega
                                                   ·exact absurd ⟨fun h=>by omega,fun h=>by omega⟩ h)
 unfold j0c;dsimp only;rw [h1,h2,j2r,j2r];dsimp only;rw [h3,j2r];dsimp only;rw [←hab];generalize a*b=m at*;have hneg:(decide (a<0)==decide (b<0))=decide (a<0↔b<0):=by
  by_cases h4:a<0<;>by_cases h5:b<0<;>simp [h4,h5]
 rw [hneg];by_cases hs:(a<0↔b<0)
 ·have hm:=hsg hs
  rw [decide_eq_true hs];simp only [k2e,k2w,m2m,cond_false];by_cases hin:m≤9223372036854775807
  ·have e1:inR m=true:=by unfold inR;simp only [j2s,decide_eq_true_eq];omega
   have e2:((((m.natAbs / 18446744073709551616:Nat):Int) !=0) || decide (((m.natAbs%18446744073709551616:Nat):Int) >9223372036854775808) || (((m.natAbs%18446744073709551616:Nat):Int)==9223372036854775808))=false:=by
    simp only [k2c,bne_eq_false_iff_eq,decide_eq_false_iff_not,beq_eq_false_iff_ne];omega
   rw [e2,cond_false,e1];refine⟨_,rfl,fun _=> ?_⟩;rw [a0h (by omega) (by omega)];omega
  ·have e1:inR m=false:=by unfold inR;simp only [m2l,decide_eq_false_iff_not];omega
   have e2:((((m.natAbs / 18446744073709551616:Nat):Int) !=0) || decide (((m.natAbs%18446744073709551616:Nat):Int) >9223372036854775808) || (((m.natAbs%18446744073709551616:Nat):Int)==9223372036854775808))=true:=by
    simp only [m2g,bne_iff_ne,decide_eq_true_eq,beq_iff_eq];omega
   rw [e2,cond_true,e1];exact⟨_,rfl,fun h=>by cases h⟩
 ·have hm:=hsn hs
  rw [decide_eq_false hs];simp only [k2e,k2w,Bool.and_false,l2f,cond_true];by_cases hin: -9223372036854775808≤m
  ·have e1:inR m=true:=by unfold inR;simp only [j2s,decide_eq_true_eq];omega
   have e2:((((m.natAbs / 18446744073709551616:Nat):Int) !=0) || decide (((m.natAbs%18446744073709551616:Nat):Int) >9223372036854775808))=false:=by
    simp only [k2c,bne_eq_false_iff_eq,decide_eq_false_iff_not];omega
   rw [e2,cond_false,e1];refine⟨_,rfl,fun _=> ?_⟩;rw [z1l,IntKind.wrap_u64];omega
  ·have e1:inR m=false:=by unfold inR;simp only [m2l,decide_eq_false_iff_not];omega
   have e2:((((m.natAbs / 18446744073709551616:Nat):Int) !=0) || decide (((m.natAbs%18446744073709551616:Nat):Int) >9223372036854775808))=true:=by
    simp only [m2g,bne_iff_ne,decide_eq_true_eq];omega
   rw [e2,cond_true,e1];exact⟨_,rfl,fun h=>by cases h⟩
def nV(x:Int):Val:= .mk 2 x ⟨#[]⟩ []
def zV:Val:= .mk 0 0 ⟨#[]⟩ []
theorem c2o:seq (⟨#[43]⟩:ByteArray) (⟨#[43]⟩:ByteArray)=true:=a0r _
theorem g2h(a b:Int)(ha:inR a=true)(hb:inR b=true)(n:Nat):q81z n (⟨#[43]⟩,nV a,nV b,())=some (bif inR (a+b)then nV (a+b)else zV,bif inR (a+b)then 0 else 4,()):=by
 unfold q81z;dsimp only;have h:=c2n a b ha hb;rw [c2o,cond_true];unfold nV;dsimp+instances only [a0t,n_mk];rw [h,j2r];dsimp only;cases hi:inR (a+b)
 ·rfl
 ·have:IntKind.wrap .i64 (a+b)=a+b:=by unfold inR at hi;simp only [j2s,decide_eq_true_eq]at hi;exact a0h hi.1 hi.2
  rw [this];rfl
theorem d2h(a b:Int)(ha:inR a=true)(hb:inR b=true)(n:Nat):q81z n (⟨#[45]⟩,nV a,nV b,())=some (bif inR (a - b)then nV (a - b)else zV,bif inR (a - b)then 0 else 4,()):=by
 unfold q81z;dsimp only;have h:=c2w a b ha hb;rw [show seq (⟨#[45]⟩:ByteArray) (⟨#[43]⟩:ByteArray)=false by decide+kernel,show seq (⟨#[45]⟩:ByteArray) (⟨#[45]⟩:ByteArray)=true from a0r _,cond_true,cond_false]
 unfold nV;dsimp+instances only [a0t,n_mk];rw [h,j2r];dsimp only;cases hi:inR (a - b)
 ·rfl
 ·have:IntKind.wrap .i64 (a - b)=a - b:=by unfold inR at hi;simp only [j2s,decide_eq_true_eq]at hi;exact a0h hi.1 hi.2
  rw [this];rfl
theorem e2d(a b:Int)(ha:inR a=true)(hb:inR b=true)(n:Nat):q81z n (⟨#[42]⟩,nV a,nV b,())=some (bif inR (a*b)then nV (a*b)else zV,bif inR (a*b)then 0 else 4,()):=by
 unfold q81z;dsimp only;obtain⟨z,h,hz⟩:=f2j a b ha hb;rw [show seq (⟨#[42]⟩:ByteArray) (⟨#[43]⟩:ByteArray)=false by decide+kernel,show seq (⟨#[42]⟩:ByteArray) (⟨#[45]⟩:ByteArray)=false by decide+kernel,show seq (⟨#[42]⟩:ByteArray) (⟨#[42]⟩:ByteArray)=true from a0r _,cond_true,cond_false,cond_false]
 unfold nV;dsimp+instances only [a0t,n_mk];rw [h,j2r];dsimp only;cases hi:inR (a*b)
 ·rfl
 ·rw [hz hi];rfl
end Pure
namespace Pure
open Esp Ev Go
set_option linter.unusedSimpArgs false
set_option linter.unusedVariables false
theorem l1b{v:Val}{d:Int}(h:Right v d):chk v d=0:=by
 induction h with
 | null d=>rw [chk,a0r];rfl
 | truth a d h=>rcases h with rfl | rfl<;>(rw [chk,a0r];rfl)
 | int a d h=>rw [chk,a0r];rfl
 | text s d h1 h2=>
  rw [chk];rw [show((3:Int)==0)=false from rfl,show((3:Int)==1)=false from rfl,show((3:Int)==2)=false from rfl,show((3:Int)==3)=true from rfl,h2]
  simp only [cond_false,cond_true];rw [show decide ((s.size:Int) >4000)=false by rw [decide_eq_false_iff_not];omega];rfl
 | list l d h1 h2 h3 ih=>
  have hc: ∀(r:List Val),(∀x∈r,chk x (d+1)=0)→chks r (d+1)=0:=by
   intro r
   induction r with
   | nil=>intro _;rfl
   | cons x r ih2=>
    intro hr;rw [chks,hr x (by simp)];exact ih2 fun y hy=>hr y (by simp [hy])
  rw [chk,hc l ih];rw [show((4:Int)==0)=false from rfl,show((4:Int)==1)=false from rfl,show((4:Int)==2)=false from rfl,show((4:Int)==3)=false from rfl,show((4:Int)==4)=true from rfl]
  simp only [cond_false,cond_true];rw [show decide ((l.length:Int) >30)=false by rw [decide_eq_false_iff_not];omega,show decide (d>6)=false by rw [decide_eq_false_iff_not];omega,a0r];rfl
theorem b0h{v:Val}{d:Int}(h:Right v d):vOk v:=by
 induction h with
 | null d=>rw [vOk,c0k];exact⟨by unfold wfI;decide,by unfold wfI;decide,k2o _,k2o _,fun x hx=>by cases hx⟩
 | truth n d h=>
  rw [vOk,c0k];refine⟨by unfold wfI;decide, ?_,k2o _,k2o _,fun x hx=>by cases hx⟩;rcases h with rfl | rfl<;>(unfold wfI;decide)
 | int n d h=>rw [vOk,c0k];exact⟨by unfold wfI;decide,h,k2o _,k2o _,fun x hx=>by cases hx⟩
 | text s d h1 h2=>rw [vOk,c0k];exact⟨by unfold wfI;decide,by unfold wfI;decide,by unfold maxLen;omega,k2o _,fun x hx=>by cases hx⟩
 | list l d h1 h2 h3 ih=>rw [vOk,c0k];exact⟨by unfold wfI;decide,by unfold wfI;decide,k2o _,by unfold maxLen;omega,ih⟩
theorem h1k{v:Val}{d:Int}(h:Right v d): ∀d',d' ≤d→Right v d' :=by
 induction h with
 | null d=>exact fun d' _=> .null d'
 | truth n d h=>exact fun d' _=> .truth n d' h
 | int n d h=>exact fun d' _=> .int n d' h
 | text s d h1 h2=>exact fun d' _=> .text s d' h1 h2
 | list l d h1 h2 h3 ih=>exact fun d' hd=> .list l d' h1 (by omega) fun x hx=>ih x hx (d' +1) (by omega)
theorem b0n{v:Val}{d:Int}(h:Right v d):v.l.length≤30∧v.s.size≤4000:=by
 cases h with
 | null=>exact⟨k2o _,k2o _⟩
 | truth=>exact⟨k2o _,k2o _⟩
 | int=>exact⟨k2o _,k2o _⟩
 | text s d h1 h2=>exact⟨k2o _,h1⟩
 | list l d h1 h2 h3=>exact⟨h1,k2o _⟩
theorem n0g{v:Val}{d:Int}(h:Right v d):v.kind=2→inR v.n=true:=by
 intro hk;cases h with
 | int n d h=>exact h
 | null=>simp [a0t]at hk
 | truth=>simp [a0t]at hk
 | text=>simp [a0t]at hk
 | list=>simp [a0t]at hk
theorem k0j{v:Val}{d:Int}(h:Right v d): ∀x∈v.l,Right x (d+1):=by
 cases h with
 | list l d h1 h2 h3=>exact h3
 | null=>intro x hx;cases hx
 | truth=>intro x hx;cases hx
 | int=>intro x hx;cases hx
 | text=>intro x hx;cases hx
theorem i1j{n b:Nat}(h:n≤1000)(hb:b≤1000):room n b=true:=d0k h hb
theorem k0g{v:Val}(h:Right v 1)(n:Nat)(hn:60≤n):q74z n (v,())=some ((v.kind,v.n,v.s,()),v.l,()):=by
 have hl:=(b0n h).1;have hs:=k0j h;obtain⟨k,a,s,l⟩:=v;unfold q74z;dsimp+instances only [a0t,n_mk,s_mk,l_mk];rw [l_mk]at hl hs;rw [r1p n _ _ l n _ _ _ (by omega) (by omega)];have key: ∀(r p:List Val) (i:Int),(∀x∈r,Right x 2)→p.length+r.length≤30→
   a0c (j0t n (fun _=>none)) (fun(z:Y20×(Val×Unit)×List Val×Unit)=>some ((z.1.1,z.1.2.1,z.1.2.2.1,()),z.2.2.1,())) i r ((k,a,s,()),((.mk 0 0 ⟨#[]⟩ []),()),p,())=some ((k,a,s,()),p++r,()):=by
  intro r
  induction r with
  | nil=>intro p i _ _;simp [a0c]
  | cons x r ih=>
   intro p i hx hl;have h1:=l1b (hx x (by simp));rw [a0c];generalize hR:a0c (j0t n (fun _=>none)) _ (i+1) r=R;unfold j0t;dsimp only;rw [Val.eta,c1v x 2 n (by omega) (by omega) (by simp;omega) h1,j2r];dsimp only;rw [Val.eta,d0h (i1j (by simp at hl⊢;omega) (by omega)), ←hR];refine(ih (p++ [x]) (i+1) (fun y hy=>hx y (by simp [hy])) (by simp at hl⊢;omega)).trans ?_;simp
 exact(key l [] 0 hs (by simp;omega)).trans (by simp)
def gI(z:Int):Val×Int:=(bif inR z then nV z else zV,bif inR z then 0 else 4)
def d0a(sg:ByteArray)(a b:Val):Val×Int:=
 bif (seq sg ⟨#[43]⟩ || seq sg ⟨#[45]⟩) || seq sg ⟨#[42]⟩then
  (bif (a.kind==0) || (b.kind==0)then(zV,0)
  else bif (a.kind==2)&& (b.kind==2)then gI (bif seq sg ⟨#[43]⟩then a.n+b.n else bif seq sg ⟨#[45]⟩then a.n - b.n else a.n*b.n)
  else bif (seq sg ⟨#[43]⟩&& (a.kind==3))&& (b.kind==3)then(bif decide (((a.s.size+b.s.size:Nat):Int) >4000)then(zV,2)else(.mk 3 0 (a.s++b.s) [],0))
  else bif (seq sg ⟨#[43]⟩&& (a.kind==4))&& (b.kind==4)then(bif decide (((a.l.length+b.l.length:Nat):Int) >30)then(zV,2)else(.mk 4 0 ⟨#[]⟩ (a.l++b.l),0))
  else(zV,3))
 else(zV,5)
theorem s1j(sg:ByteArray){a b:Val}(ha:Right a 1)(hb:Right b 1)(n:Nat)(hn:100≤n):q81z n (sg,a,b,())=some ((d0a sg a b).1,(d0a sg a b).2,()):=by
 have la:=b0n ha;have lb:=b0n hb;have ia:=n0g ha;have ib:=n0g hb;have ca:=k0g ha n (by omega);have cb:=k0g hb n (by omega);have w1:IntKind.wrap .i64 ((a.s.size:Int)+(b.s.size:Int))=((a.s.size+b.s.size:Nat):Int):=by rw [a0h (by omega) (by omega)];omega
 have w2:IntKind.wrap .i64 ((a.l.length:Int)+(b.l.length:Int))=((a.l.length+b.l.length:Nat):Int):=by rw [a0h (by omega) (by omega)];omega
 have c1:cat? a.s b.s=some (a.s++b.s):=by unfold cat?;rw [if_pos (by omega)]
 have ints: ∀sg:ByteArray,(a.kind==0 || b.kind==0)=false→(a.kind==2&&b.kind==2)=true→q81z n (sg,a,b,())=q81z n (sg,nV a.n,nV b.n,()):=by
  intro sg h0 h2;unfold q81z nV;dsimp+instances only [a0t,n_mk,s_mk,l_mk];rw [h0,h2];rfl
 by_cases hint:(a.kind==2&&b.kind==2)=true
 ·have h2:=hint
  rw [j2s]at h2;have ka:a.kind=2:=by simpa using h2.1
  have kb:b.kind=2:=by simpa using h2.2
  have h0:(a.kind==0 || b.kind==0)=false:=by rw [ka,kb];rfl
  unfold d0a gI;rw [h0,hint];cases h1:seq sg ⟨#[43]⟩with
  | true=>
   rw [(a0b _ _).1 h1,ints _ h0 hint,g2h a.n b.n (ia ka) (ib kb) n];rfl
  | false=>
   cases h3:seq sg ⟨#[45]⟩with
   | true=>
    rw [(a0b _ _).1 h3,ints _ h0 hint,d2h a.n b.n (ia ka) (ib kb) n];rfl
   | false=>
    cases h4:seq sg ⟨#[42]⟩with
    | true=>
     rw [(a0b _ _).1 h4,ints _ h0 hint,e2d a.n b.n (ia ka) (ib kb) n];rfl
    | false=>
     unfold q81z;dsimp only;rw [h1,h3,h4,h0];rfl
 ·have hi:(a.kind==2&&b.kind==2)=false:=by simpa using hint
  unfold q81z d0a;dsimp only;rw [Val.eta,Val.eta,hi,w1,w2,c1,ca,cb];cases h1:seq sg ⟨#[43]⟩with
  | true=>
   cases h0:(a.kind==0 || b.kind==0)with
   | true=>rfl
   | false=>
    cases h3:((true&&a.kind==3)&&b.kind==3)with
    | true=>
     cases decide (((a.s.size+b.s.size:Nat):Int) >4000)<;>rfl
    | false=>
     cases h4:((true&&a.kind==4)&&b.kind==4)with
     | true=>
      cases decide (((a.l.length+b.l.length:Nat):Int) >30)with
      | true=>rfl
      | false=>
       simp only [cond_true,cond_false,j2r];rw [d0h (i1j (by rw [j2y];omega) (by omega))];rfl
     | false=>rfl
  | false=>
   cases h3:seq sg ⟨#[45]⟩with
   | true=>cases (a.kind==0 || b.kind==0)<;>rfl
   | false=>
    cases h4:seq sg ⟨#[42]⟩with
    | true=>cases (a.kind==0 || b.kind==0)<;>rfl
    | false=>rfl
end Pure
namespace Pure
open Esp Ev Go
set_option linter.unusedSimpArgs false
set_option linter.unusedVariables false
theorem Term.eta(t:Term):Term.mk t.kind t.v t.name t.a=t:=by cases t;rfl
theorem Term.eta2(t:Term):Term.mk t.kind (Val.mk t.v.kind t.v.n t.v.s t.v.l) t.name t.a=t:=by rw [Val.eta,Term.eta]
theorem n0b(k:Int)(v:Val)(s:ByteArray)(l:List Term):(Term.mk k v s l).kind=k:=rfl
theorem n0y(k:Int)(v:Val)(s:ByteArray)(l:List Term):(Term.mk k v s l).v=v:=rfl
theorem n0z(k:Int)(v:Val)(s:ByteArray)(l:List Term):(Term.mk k v s l).name=s:=rfl
theorem u0o(k:Int)(v:Val)(s:ByteArray)(l:List Term):(Term.mk k v s l).a=l:=rfl
mutual
theorem i0d{p:Term→Prop}(h: ∀k v s l,(∀x∈l,p x)→p (.mk k v s l)): ∀t,p t
 | .mk k v s l=>h k v s l (y0f h l)
theorem y0f{p:Term→Prop}(h: ∀k v s l,(∀x∈l,p x)→p (.mk k v s l)): ∀l:List Term,∀x∈l,p x
 | []=>fun _ hx=>by cases hx
 | y::r=>List.forall_mem_cons.2 ⟨i0d h y,y0f h r⟩
end
theorem i0m(l:List ByteArray)(s:ByteArray)(n:Nat)(hl:l.length≤100)(hn:200≤n):q7z n (l,s,())=some (hasL l s,()):=by
 obtain⟨j,h1,h2⟩:=r0g s (fun _=>some (-1,())) rfl l 0 (by omega);have h3:q8z n (l,s,())=some (j,()):=
  (a0y l (fun i (u:Unit)=>(l,s,(l.length:Int),i,())) _ (fun(i:Int) (x:ByteArray) (u:Unit) (rec:Unit→Option Y10)=>bif seq s x then some (i,())else rec u) (fun _=>some (-1,()))
   (fun rec i u=>rfl) (by omega) n () (by omega)).trans h1
 unfold q7z;dsimp only;rw [h3,j2r];dsimp only;rw [h2]
def resB(s:ByteArray):Bool:=((q78z 200 (s,())).getD (false,())).1
theorem b1p(s:ByteArray)(n:Nat)(hn:200≤n):q78z n (s,())=some (resB s,()):=by
 unfold resB;unfold q78z;dsimp only;rw [i0m _ s n (by decide) hn,i0m _ s 200 (by decide) (by omega)];rfl
def h0i(s:ByteArray):Bool:=nmB s&& !resB s
theorem u0u(s:ByteArray)(n:Nat)(hn:200≤n):d0u n (s,())=some (h0i s,()):=by
 unfold d0u h0i;dsimp only;rw [i0n s n (by omega),j2r];cases nmB s with
 | false=>rfl
 | true=>dsimp only;rw [cond_true,b1p s n hn];rfl
def arN(s:ByteArray):Int×Bool:=
 bif ((((((((seq s ⟨#[43]⟩) || seq s ⟨#[45]⟩) || seq s ⟨#[42]⟩) || seq s ⟨#[61]⟩) || seq s ⟨#[60]⟩) || seq s ⟨#[60,61]⟩) || seq s ⟨#[97,110,100]⟩) || seq s ⟨#[111,114]⟩) || seq s ⟨#[105,110]⟩then(2,true)else bif (((((seq s ⟨#[110,111,116]⟩) || seq s ⟨#[110,117,108,108]⟩) || seq s ⟨#[115,105,122,101]⟩) || seq s ⟨#[104,101,97,100]⟩) || seq s ⟨#[105,100]⟩) || seq s ⟨#[116,121,112,101]⟩then(1,true)else bif (seq s ⟨#[99,111,97,108,101,115,99,101]⟩) || seq s ⟨#[108,105,115,116]⟩then(-1,true)else(0,false)
theorem t1y(s:ByteArray):q98z (s,())=some ((arN s).1,(arN s).2,()):=by
 unfold q98z arN;dsimp only;cases h43:seq s ⟨#[43]⟩with
 | true=>simp only [cond_true,cond_false,l2q,l2a,l2f,k2m]
 | false=>
  cases h45:seq s ⟨#[45]⟩with
  | true=>simp only [cond_true,cond_false,l2q,l2a,l2f,k2m]
  | false=>
   cases h42:seq s ⟨#[42]⟩with
   | true=>simp only [cond_true,cond_false,l2q,l2a,l2f,k2m]
   | false=>
    cases h61:seq s ⟨#[61]⟩with
    | true=>simp only [cond_true,cond_false,l2q,l2a,l2f,k2m]
    | false=>
     cases h60:seq s ⟨#[60]⟩with
     | true=>simp only [cond_true,cond_false,l2q,l2a,l2f,k2m]
     | false=>
      cases h6061:seq s ⟨#[60,61]⟩with
      | true=>simp only [cond_true,cond_false,l2q,l2a,l2f,k2m]
      | false=>
       cases h97110100:seq s ⟨#[97,110,100]⟩with
       | true=>simp only [cond_true,cond_false,l2q,l2a,l2f,k2m]
       | false=>
        cases h111114:seq s ⟨#[111,114]⟩with
        | true=>simp only [cond_true,cond_false,l2q,l2a,l2f,k2m]
        | false=>
         cases h105110:seq s ⟨#[105,110]⟩with
         | true=>simp only [cond_true,cond_false,l2q,l2a,l2f,k2m]
         | false=>
          cases h110111116:seq s ⟨#[110,111,116]⟩with
          | true=>simp only [cond_true,cond_false,l2q,l2a,l2f,k2m]
          | false=>
           cases h110117108108:seq s ⟨#[110,117,108,108]⟩with
           | true=>simp only [cond_true,cond_false,l2q,l2a,l2f,k2m]
           | false=>
            cases h115105122101:seq s ⟨#[115,105,122,101]⟩with
            | true=>simp only [cond_true,cond_false,l2q,l2a,l2f,k2m]
            | false=>
             cases h10410197100:seq s ⟨#[104,101,97,100]⟩with
             | true=>simp only [cond_true,cond_false,l2q,l2a,l2f,k2m]
             | false=>
              cases h105100:seq s ⟨#[105,100]⟩with
              | true=>simp only [cond_true,cond_false,l2q,l2a,l2f,k2m]
              | false=>
               cases h116121112101:seq s ⟨#[116,121,112,101]⟩with
               | true=>simp only [cond_true,cond_false,l2q,l2a,l2f,k2m]
               | false=>
                cases h991119710810:seq s ⟨#[99,111,97,108,101,115,99,101]⟩with
                | true=>simp only [cond_true,cond_false,l2q,l2a,l2f,k2m]
                | false=>
                 cases h108105115116:seq s ⟨#[108,105,115,116]⟩with
                 | true=>simp only [cond_true,cond_false,l2q,l2a,l2f,k2m]
                 | false=>
                  rfl
def zrB(v:Val):Bool:=((((v.kind==0)&& (v.n==0))&& (seq v.s ⟨#[]⟩))&& ((v.l.length:Int)==0))
def lstB(b:List Y6)(s:ByteArray)(x:Term):Int:=
 bif seq s ⟨#[105,100]⟩then(bif x.kind !=2 then 3 else 0)
 else bif seq s ⟨#[116,121,112,101]⟩then(bif x.kind !=2 then 3 else bif !(a0g .str .bool false b x.name)then 3 else 0)else 0
def hdT(l:List Term):Term:=l.headD (.mk 0 (.mk 0 0 ⟨#[]⟩ []) ⟨#[]⟩ [])
mutual
def tchk(b:List Y6):Term→Int→Int
 | .mk k v s a,d=>
  bif decide (d>6)then 2
  else bif k==1 then(bif (!(seq s ⟨#[]⟩)) || decide ((a.length:Int) >0)then 6 else bif v.kind==4 then 6 else chk v 1)
  else bif k==2 then(bif (!zrB v) || decide ((a.length:Int) >0)then 6 else bif !h0i s then 6 else bif !a0s .str .bool b s then 5 else 0)
  else bif k==3 then(bif (!zrB v) || ((a.length:Int) !=1)then 6 else bif (hdT a).kind !=2 then 6 else bif !nmB s then 6 else e0d b a (d+1))
  else bif k==4 then(bif ((!(arN s).2) || !zrB v) || (decide ((arN s).1≥0)&& ((a.length:Int) !=(arN s).1))then 6 else bif decide ((a.length:Int) >30)then 2
   else bif e0d b a (d+1) !=0 then e0d b a (d+1)else lstB b s (hdT a))
  else 6
def e0d(b:List Y6):List Term→Int→Int
 | [],_=>0
 | x::r,d=>bif tchk b x d !=0 then tchk b x d else e0d b r d
end
theorem p0c{ρ:Type}(self:Term×List Y6×Int×Unit→Option Y10)(n:Nat)(b:List Y6)(d:Int)(hd:IntKind.wrap .i64 (d+1)=d+1)(o:Term)(kr:Int×Unit→Option ρ)(k:List Y6×Int×(Term×Unit)×Unit→Option ρ):
  ∀(l:List Term) (i:Int),(∀x∈l,self (x,b,d+1,())=some (tchk b x (d+1),()))→a0c (h0h self n kr) k i l (b,d,(o,()),())=bif e0d b l (d+1) !=0 then kr (e0d b l (d+1),())else k (b,d,(o,()),())
 | [],_,_=>rfl
 | x::r,i,h=>by
  rw [a0c];have ih:=p0c self n b d hd o kr k r (i+1) fun y hy=>h y (by simp [hy]);generalize a0c (h0h self n kr) k (i+1) r=R at ih;unfold h0h;dsimp only;rw [Term.eta2,Term.eta2,hd,h x (by simp),j2r,e0d];dsimp only;cases hc:tchk b x (d+1) !=0 with
  | true=>rw [cond_true,cond_true,hc];rfl
  | false=>rw [cond_false,cond_false];exact ih
theorem p1s{l:List Term}(h:((l.length:Int) !=1)=false):ix l 0=some (hdT l)∧l= [hdT l]:=by
 have:l.length=1:=by simp at h;omega
 match l,this with
 | [x],_=>exact⟨rfl,rfl⟩
theorem e1m{s:ByteArray}{l:List Term}{b:Bool}(h:(((!(arN s).2) || b) || (decide ((arN s).1≥0)&& ((l.length:Int) !=(arN s).1)))=false)(h1:(arN s).1=1):ix l 0=some (hdT l)∧l= [hdT l]:=by
 rw [k2c,h1]at h;exact p1s h.2
theorem n1x(b:List Y6)(t:Term): ∀(d:Int) (n:Nat),1≤d→d≤7→300≤n+d.toNat→q99z n (t,b,d,())=some (tchk b t d,()):=by
 induction t using i0d with
 | _ k v s a ih=>
  intro d n h1 h7 hn;obtain⟨m,rfl⟩: ∃m,n=m+1:=⟨n - 1,by omega⟩;rw [q99z,tchk];unfold p1g;dsimp+instances only [n0b,n0y,n0z,u0o];cases hd:decide (d>6)with
  | true=>rfl
  | false=>
   have h6:=of_decide_eq_false hd;have hw:IntKind.wrap .i64 (d+1)=d+1:=a0h (by omega) (by omega);have hs: ∀x∈a,q99z m (x,b,d+1,())=some (tchk b x (d+1),()):=fun x hx=>ih x hx (d+1) m (by omega) (by omega) (by omega);rw [show(((((v.kind:Int)==0)&& ((v.n:Int)==0))&& (seq v.s (⟨#[]⟩:ByteArray)))&& (((v.l.length:Int):Int)==0))=zrB v from rfl]
   cases h1:k==1 with
   | true=>
    cases (!(seq s ⟨#[]⟩)) || decide ((a.length:Int) >0)with
    | true=>rfl
    | false=>
     cases v.kind==4 with
     | true=>rfl
     | false=>
      simp only [cond_true,cond_false];rw [Val.eta,n0s v m (by omega),j2r]
   | false=>
    cases h2:k==2 with
    | true=>
     cases (!zrB v) || decide ((a.length:Int) >0)with
     | true=>rfl
     | false=>
      simp only [cond_true,cond_false];rw [u0u s m (by omega),j2r];cases !h0i s with
      | true=>rfl
      | false=>cases !a0s .str .bool b s<;>rfl
    | false=>
     cases h3:k==3 with
     | true=>
      cases hz:(!zrB v) || ((a.length:Int) !=1)with
      | true=>rfl
      | false=>
       rw [k2c]at hz;obtain⟨e1,e2⟩:=p1s hz.2;simp only [cond_true,cond_false];rw [e1,j2r];cases (hdT a).kind !=2 with
       | true=>rfl
       | false=>
        simp only [cond_true,cond_false];rw [i0n s m (by omega),j2r];cases !nmB s with
        | true=>rfl
        | false=>
         simp only [cond_false];rw [j2r,Term.eta2,hw,hs (hdT a) (by rw [e2];simp [hdT]),j2r];have:e0d b a (d+1)=tchk b (hdT a) (d+1):=by
          conv=>lhs;rw [e2]
          rw [e0d,e0d];cases hc:tchk b (hdT a) (d+1) !=0 with
          | true=>rfl
          | false=>
           have h0:tchk b (hdT a) (d+1)=0:=by simpa using hc
           exact h0.symm
         rw [this]
     | false=>
      cases h4:k==4 with
      | false=>rfl
      | true=>
       simp only [cond_true,cond_false];rw [t1y,j2r];dsimp only;cases hz:((!(arN s).2) || !zrB v) || (decide ((arN s).1≥0)&& ((a.length:Int) !=(arN s).1))with
       | true=>rfl
       | false=>
        cases h30:decide ((a.length:Int) >30)with
        | true=>rfl
        | false=>
         have hl:=of_decide_eq_false h30;simp only [cond_false];rw [p1f _ m _ _ a m _ _ _ (by omega) (by omega),p0c _ m b d hw _ _ _ a 0 hs];cases hc:e0d b a (d+1) !=0 with
         | true=>rfl
         | false=>
          simp only [cond_false];dsimp+instances only [n0b,n0y,n0z,u0o];unfold lstB;cases hid:seq s ⟨#[105,100]⟩with
          | true=>
           have har:(arN s).1=1:=by rw [(a0b _ _).1 hid];kernel_rfl
           obtain⟨e1,e2⟩:=e1m hz har;have hty:seq s (⟨#[116,121,112,101]⟩:ByteArray)=false:=by rw [(a0b _ _).1 hid];kernel_rfl
           simp only [cond_true];rw [e1,j2r,hty];cases (hdT a).kind !=2<;>rfl
          | false=>
           simp only [cond_false];cases hty:seq s (⟨#[116,121,112,101]⟩:ByteArray)with
           | false=>rfl
           | true=>
            have har:(arN s).1=1:=by rw [(a0b _ _).1 hty];kernel_rfl
            obtain⟨e1,e2⟩:=e1m hz har;simp only [cond_true];rw [e1,j2r];cases (hdT a).kind !=2 with
            | true=>rfl
            | false=>
             simp only [cond_false];rw [j2r];cases !a0g .str .bool false b (hdT a).name<;>rfl
theorem w0t(b:List Y6)(t:Term)(n:Nat)(hn:300≤n):q97z n (t,b,())=some (tchk b t 1,()):=by
 unfold q97z;dsimp only;rw [Term.eta2,n1x b t 1 n (by omega) (by omega) (by omega)];rfl
end Pure
namespace Pure
open Esp Ev Go
set_option linter.unusedSimpArgs false
set_option linter.unusedVariables false
theorem p0x: ∀(n:Nat) (l:List UInt8),(∀b∈l,b.toNat<128)→Lib.validGoD n l=true
 | 0,l,_=>rfl
 | n+1, [],_=>rfl
 | n+1,b::r,h=>by
  have hb:=h b (by simp);have hd:Lib.decodeL (b::r)=(b.toNat,1):=by
   have h0:(⟨(b::r).toArray⟩:ByteArray).get! 0=b:=rfl;unfold Lib.decodeL Utf8.decode;simp only [l2b,h0];rw [if_pos (by omega)]
  have h3: ¬((b.toNat,1).1=65533∧(b.toNat,1).2=1):=fun h=>by
   have:=h.1;dsimp only at this;omega
  rw [Lib.validGoD,if_neg (List.cons_ne_nil b r),hd,if_neg h3];exact p0x n r fun x hx=>h x (l2c _ hx)
theorem x0l: ∀(l:List UInt8) (i:Int),nmF i (bi l)=true→∀b∈l,b.toNat<128
 | [],_,_=>fun b hb=>by cases hb
 | c::r,i,h=>by
  rw [t0l,nmF]at h;intro b hb;cases hc:(!(lttI (c.toNat:Int))&& (((i==0) || (decide ((c.toNat:Int)<48))) || (decide ((c.toNat:Int) >57))))with
  | true=>rw [hc]at h;cases h
  | false=>
   rw [hc]at h;rcases k2b.1 hb with rfl | hb
   ·unfold lttI at hc
    simp only [m2l,Bool.not_eq_false',m2g,j2s,decide_eq_true_eq,k2c,decide_eq_false_iff_not,beq_iff_eq]at hc;omega
   ·exact x0l r (i+1) h b hb
theorem e1h{s:ByteArray}(h:nmB s=true):k0x s=true∧s.size≤12:=by
 unfold nmB at h;cases hc:(seq s ⟨#[]⟩) || (decide ((s.size:Int) >12))with
 | true=>rw [hc]at h;cases h
 | false=>
  rw [hc]at h;rw [k2c]at hc;have h12:=of_decide_eq_false hc.2;exact⟨p0x _ _ (x0l _ _ h),by omega⟩
def stV(v:Val):Int:=bif v.kind==1 then(bif v.n==1 then 1 else 0)else 2
def ngS(c:Int):Int:=bif c==2 then 2 else bif c==1 then 0 else 1
def orS(a b:Int):Int:=bif (a==1) || (b==1)then 1 else bif (a==0)&& (b==0)then 0 else 2
theorem g0c(v:Val):stV v=0∨stV v=1∨stV v=2:=by
 unfold stV;cases v.kind==1<;>cases v.n==1<;>simp
theorem m0a{c:Int}:ngS c=0∨ngS c=1∨ngS c=2:=by
 unfold ngS;cases c==2<;>cases c==1<;>simp
theorem l0w{a b:Int}:orS a b=0∨orS a b=1∨orS a b=2:=by
 unfold orS;cases (a==1) || (b==1)<;>cases (a==0)&& (b==0)<;>simp
theorem m0n{c:Int}(h:c=0∨c=1∨c=2):stV (tV c)=c:=by
 rcases h with rfl | rfl | rfl<;>rfl
theorem v0o(b:Bool):p0j (b,())=some (tV (bif b then 1 else 0),()):=by cases b<;>rfl
theorem g0r(v:Val):q88z (v,())=some (tV (ngS (stV v)),()):=by
 unfold q88z v0f stV;dsimp+instances only [a0t,n_mk];cases v.kind==1<;>cases v.n==1<;>rfl
theorem o0b(v w:Val):q87z (v,w,())=some (tV (orS (stV v) (stV w)),()):=by
 unfold q87z v0f stV;dsimp+instances only [a0t,n_mk];cases v.kind==1<;>cases v.n==1<;>cases w.kind==1<;>cases w.n==1<;>rfl
theorem tV_r(c:Int)(h:c=0∨c=1∨c=2):Right (tV c) 1:=v1l c h 1
def inS(x:Val):Int→List Val→Int
 | c, []=>c
 | c,y::r=>inS x (orS c (smV x y)) r
theorem d1n(x:Val): ∀(l:List Val) (c:Int),(c=0∨c=1∨c=2)→inS x c l=0∨inS x c l=1∨inS x c l=2
 | [],c,h=>h
 | y::r,c,_=>d1n x r _ l0w
def coal:List Val→Val
 | []=>zV
 | x::r=>bif x.kind !=0 then x else coal r
def arg0(l:List Val):Val:=l.headD zV
def arg1(l:List Val):Val:=(l.drop 1).headD zV
def b1w(g:Graph)(s:ByteArray)(l:List Val):Val:=
 bif (seq s ⟨#[43]⟩ || seq s ⟨#[45]⟩) || seq s ⟨#[42]⟩then(bif chk (d0a s (arg0 l) (arg1 l)).1 1 !=0 then zV else(d0a s (arg0 l) (arg1 l)).1)
 else bif seq s ⟨#[61]⟩then tV (smV (arg0 l) (arg1 l))
 else bif seq s ⟨#[60]⟩then tV (lsV (arg0 l) (arg1 l))
 else bif seq s ⟨#[60,61]⟩then tV (ngS (lsV (arg1 l) (arg0 l)))
 else bif seq s ⟨#[97,110,100]⟩then tV (ngS (orS (ngS (stV (arg0 l))) (ngS (stV (arg1 l)))))
 else bif seq s ⟨#[111,114]⟩then tV (orS (stV (arg0 l)) (stV (arg1 l)))
 else bif seq s ⟨#[110,111,116]⟩then tV (ngS (stV (arg0 l)))
 else bif seq s ⟨#[110,117,108,108]⟩then tV (bif (arg0 l).kind==0 then 1 else 0)
 else bif seq s ⟨#[105,110]⟩then(bif (arg1 l).kind !=4 then zV else tV (inS (arg0 l) 0 (arg1 l).l))
 else bif seq s ⟨#[115,105,122,101]⟩then(bif (arg0 l).kind==3 then nV ((b0b (arg0 l).s).length:Int)else bif (arg0 l).kind==4 then nV ((arg0 l).l.length:Int)else zV)
 else bif seq s ⟨#[104,101,97,100]⟩then(bif (arg0 l).kind==4 then(arg0 l).l.headD zV else zV)
 else bif seq s ⟨#[99,111,97,108,101,115,99,101]⟩then coal l
 else bif seq s ⟨#[108,105,115,116]⟩then(bif chk (.mk 4 0 ⟨#[]⟩ l) 1==0 then .mk 4 0 ⟨#[]⟩ l else zV)
 else bif seq s ⟨#[105,100]⟩then arg0 l
 else bif seq s ⟨#[116,121,112,101]⟩then(match c0m g.edges (arg0 l).n with | some x=> .mk 3 0 x.type [] | none=>zV)
 else zV
theorem zV_r:Right zV 1:= .null 1
theorem t1d(sg:ByteArray){a b:Val}(ha:Right a 1)(hb:Right b 1):vOk (d0a sg a b).1:=by
 have oa:=b0h ha;have ob:=b0h hb;have la:=b0n ha;have lb:=b0n hb;have hz:vOk zV:=b0h zV_r;have hn: ∀z,vOk (gI z).1:=by
  intro z;unfold gI;cases h:inR z with
  | true=>exact b0h (Right.int z 1 h)
  | false=>exact hz
 unfold d0a;cases (seq sg ⟨#[43]⟩ || seq sg ⟨#[45]⟩) || seq sg ⟨#[42]⟩with
 | false=>exact hz
 | true=>
  cases (a.kind==0) || (b.kind==0)with
  | true=>exact hz
  | false=>
   cases (a.kind==2)&& (b.kind==2)with
   | true=>exact hn _
   | false=>
    cases (seq sg ⟨#[43]⟩&& (a.kind==3))&& (b.kind==3)with
    | true=>
     cases decide (((a.s.size+b.s.size:Nat):Int) >4000)with
     | true=>exact hz
     | false=>
      simp only [cond_true,cond_false];rw [vOk,c0k];exact⟨by unfold wfI;decide,by unfold wfI;decide,by rw [ByteArray.size_append];unfold maxLen;omega,k2o _,fun x hx=>by cases hx⟩
    | false=>
     cases (seq sg ⟨#[43]⟩&& (a.kind==4))&& (b.kind==4)with
     | true=>
      cases decide (((a.l.length+b.l.length:Nat):Int) >30)with
      | true=>exact hz
      | false=>
       simp only [cond_true,cond_false];rw [vOk,c0k];refine⟨by unfold wfI;decide,by unfold wfI;decide,k2o _,by rw [j2y];unfold maxLen;omega,fun y hy=> ?_⟩;rcases l2v.1 hy with hy | hy
       ·exact b0h (k0j ha y hy)
       ·exact b0h (k0j hb y hy)
     | false=>exact hz
theorem r0f(s:ByteArray): ∀(n i:Nat),(f0a s n i).length≤n
 | 0,_=>by simp [f0a]
 | n+1,i=>by
  rw [f0a];split
  ·simpa using r0f s n _
  ·simp
theorem z0w(g:Graph)(s:ByteArray)(l:List Val)(hl: ∀x∈l,Right x 1)(h30:l.length≤30)(hg: ∀x∈g.edges,nmB x.type=true):Right (b1w g s l) 1:=by
 have h0:Right (arg0 l) 1:=by
  unfold arg0;cases l with
  | nil=>exact zV_r
  | cons x r=>exact hl x (by simp)
 have h1:Right (arg1 l) 1:=by
  unfold arg1
  match l,hl with
  | [],_=>exact zV_r
  | [_],_=>exact zV_r
  | _::y::_,hl=>exact hl y (by simp)
 unfold b1w;cases (seq s ⟨#[43]⟩ || seq s ⟨#[45]⟩) || seq s ⟨#[42]⟩with
 | true=>
  simp only [cond_true];cases hc:chk (d0a s (arg0 l) (arg1 l)).1 1 !=0 with
  | true=>exact zV_r
  | false=>exact n0p _ 1 (t1d s h0 h1) (by simpa using hc)
 | false=>
 cases seq s ⟨#[61]⟩with
 | true=>exact tV_r _ (i0o _ _)
 | false=>
 cases seq s ⟨#[60]⟩with
 | true=>exact tV_r _ (z0q _ _)
 | false=>
 cases seq s ⟨#[60,61]⟩with
 | true=>exact tV_r _ m0a
 | false=>
 cases seq s ⟨#[97,110,100]⟩with
 | true=>exact tV_r _ m0a
 | false=>
 cases seq s ⟨#[111,114]⟩with
 | true=>exact tV_r _ l0w
 | false=>
 cases seq s ⟨#[110,111,116]⟩with
 | true=>exact tV_r _ m0a
 | false=>
 cases seq s ⟨#[110,117,108,108]⟩with
 | true=>exact tV_r _ (by cases (arg0 l).kind==0<;>simp)
 | false=>
 cases seq s ⟨#[105,110]⟩with
 | true=>
  simp only [cond_true,cond_false];cases (arg1 l).kind !=4 with
  | true=>exact zV_r
  | false=>exact tV_r _ (d1n _ _ _ (.inl rfl))
 | false=>
 cases seq s ⟨#[115,105,122,101]⟩with
 | true=>
  have l0:=b0n h0;have hr:(b0b (arg0 l).s).length≤4000:=k2x (r0f _ _ _) l0.2;have hn: ∀k:Nat,k≤4000→Right (nV (k:Int)) 1:=fun k hk=> .int _ 1 (by
   have h:inR (k:Int)=true:=by unfold inR;rw [j2s,decide_eq_true_eq,decide_eq_true_eq];omega
   exact h)
  simp only [cond_true,cond_false];cases (arg0 l).kind==3 with
  | true=>exact hn _ hr
  | false=>
   cases (arg0 l).kind==4 with
   | true=>exact hn _ (by omega)
   | false=>exact zV_r
 | false=>
 cases seq s ⟨#[104,101,97,100]⟩with
 | true=>
  simp only [cond_true,cond_false];cases (arg0 l).kind==4 with
  | false=>exact zV_r
  | true=>
   have hs:=k0j h0;cases hl0:(arg0 l).l with
   | nil=>exact zV_r
   | cons x r=>exact h1k (hs x (by rw [hl0];simp)) 1 (by omega)
 | false=>
 cases seq s ⟨#[99,111,97,108,101,115,99,101]⟩with
 | true=>
  simp only [cond_true,cond_false];clear h0 h1 h30
  induction l with
  | nil=>exact zV_r
  | cons x r ih=>
   rw [coal];cases x.kind !=0 with
   | true=>exact hl x (by simp)
   | false=>exact ih fun y hy=>hl y (by simp [hy])
 | false=>
 cases seq s ⟨#[108,105,115,116]⟩with
 | true=>
  simp only [cond_true,cond_false];cases hc:chk (.mk 4 0 ⟨#[]⟩ l) 1==0 with
  | false=>exact zV_r
  | true=>
   simp only [cond_true];refine n0p _ 1 ?_ (by simpa using hc);rw [vOk,c0k];exact⟨by unfold wfI;decide,by unfold wfI;decide,k2o _,by unfold maxLen;omega,fun x hx=>b0h (hl x hx)⟩
 | false=>
 cases seq s ⟨#[105,100]⟩with
 | true=>exact h0
 | false=>
 cases seq s ⟨#[116,121,112,101]⟩with
 | true=>
  simp only [cond_true,cond_false];cases he:c0m g.edges (arg0 l).n with
  | none=>exact zV_r
  | some x=>
   have hm:=hg x (l0l he);have:=e1h hm;exact .text _ 1 (by omega) this.1
 | false=>exact zV_r
end Pure
namespace Pure
open Esp Ev Go
set_option linter.unusedSimpArgs false
set_option linter.unusedVariables false
theorem ar2{l:List Val}(h:l.length=2):ix l 0=some (arg0 l)∧ix l 1=some (arg1 l)∧arg0 l∈l∧arg1 l∈l:=by
 match l,h with
 | [x,y],_=>exact⟨rfl,rfl,by simp [arg0],by simp [arg1]⟩
theorem ar1{l:List Val}(h:l.length=1):ix l 0=some (arg0 l)∧arg0 l∈l:=by
 match l,h with
 | [x],_=>exact⟨rfl,by simp [arg0]⟩
def ArOk(s:ByteArray)(k:Nat):Prop:=(arN s).2=true∧((arN s).1≥0→(k:Int)=(arN s).1)
theorem ArOk.two{s:ByteArray}{k:Nat}(h:ArOk s k)(h2:arN s=(2,true)):k=2:=by
 have:=h.2 (by rw [h2];decide);rw [h2]at this;simp at this;omega
theorem ArOk.one{s:ByteArray}{k:Nat}(h:ArOk s k)(h2:arN s=(1,true)):k=1:=by
 have:=h.2 (by rw [h2];decide);rw [h2]at this;simp at this;omega
theorem m1p{ρ:Type}(n:Nat)(kr:Unit→Option ρ)(k:List Val×(Val×Unit)×(Val×Unit)×Unit→Option ρ)(args:List Val)(x:Val)(h0:ix args 0=some x)(hx:vOk x)(hn:vSz x+7≤n)(o:Val):
  ∀(l:List Val) (i:Int) (c:Int),(c=0∨c=1∨c=2)→a0c (g0y n kr) k i l (args,(o,()),(tV c,()),())=k (args,(o,()),(tV (inS x c l),()),())
 | [],_,_,_=>rfl
 | y::r,i,c,hc=>by
  rw [a0c];have ih:=m1p n kr k args x h0 hx hn o r (i+1) (orS c (smV x y)) l0w;generalize a0c (g0y n kr) k (i+1) r=R at ih;unfold g0y;dsimp only;rw [h0,j2r];rw [Val.eta,Val.eta,Val.eta,Val.eta,g1o x y n hx hn,j2r];dsimp only;rw [Val.eta,o0b,j2r,m0n hc,m0n (i0o x y)];dsimp only;rw [Val.eta];exact ih
theorem w0r(n:Nat)(k:(Val×Unit)×Unit→Option (Val×Unit))(o:Val)(hk:k ((o,()),())=some (zV,())):
  ∀(l:List Val) (i:Int),a0c (j0h n (fun(o81,_)=>some ((Ev.Val.mk o81.1.kind o81.1.n o81.1.s o81.1.l),()))) k i l ((o,()),())=some (coal l,())
 | [],_=>hk
 | y::r,i=>by
  rw [a0c];have ih:=w0r n k o hk r (i+1);generalize a0c (j0h n (fun(o81,_)=>some ((Ev.Val.mk o81.1.kind o81.1.n o81.1.s o81.1.l),()))) k (i+1) r=R at ih;unfold j0h;dsimp only;rw [coal];cases y.kind !=0 with
  | true=>
   simp only [cond_true];rw [Val.eta,Val.eta]
  | false=>
   simp only [cond_false];rw [Val.eta];exact ih
theorem y1g(g:Graph)(at_:List Y2)(t:Term)(l:List Val)(n:Nat)(hl: ∀x∈l,Right x 1)(h30:l.length≤30)(har:ArOk t.name l.length)(hr:Rise Edg.id g.edges)(h60:g.edges.length≤60)
  (hn:lSz l+1000≤n):q77z n (⟨g,at_⟩,t,l,())=some (b1w g t.name l,()):=by
 obtain⟨k0,v0,s,a0⟩:=t;rw [n0z]at har⊢;have sz: ∀x∈l,vSz x+900≤n:=fun x hx=>by have:=i0y hx;omega
 unfold q77z b1w;dsimp+instances only [n0z];have reck:arN s=(2,true)→((ix l 0).bind fun x7=>(ix l 1).bind fun x8=>(q81z n (s,(Ev.Val.mk x7.kind x7.n x7.s x7.l),(Ev.Val.mk x8.kind x8.n x8.s x8.l),())).bind fun(y9,y10,_)=>(q89z n ((Ev.Val.mk y9.kind y9.n y9.s y9.l),())).bind fun(y11,_)=>
   (bif (y11:Int) !=0 then some ((Ev.Val.mk 0 0 (⟨#[]⟩:ByteArray) ([]:List Ev.Val)),())else some ((Ev.Val.mk y9.kind y9.n y9.s y9.l),())))=some (bif chk (d0a s (arg0 l) (arg1 l)).1 1 !=0 then zV else(d0a s (arg0 l) (arg1 l)).1,()):=by
  intro h2;obtain⟨e0,e1,m0,m1⟩:=ar2 (har.two h2);rw [e0,j2r,e1,j2r,Val.eta,Val.eta,s1j s (hl _ m0) (hl _ m1) n (by omega),j2r];dsimp only;rw [Val.eta,n0s _ n (by omega),j2r];dsimp only;cases chk (d0a s (arg0 l) (arg1 l)).1 1 !=0<;>rfl
 cases h1:seq s ⟨#[43]⟩with
 | true=>
  simp only [cond_true,l2a];exact reck (by rw [(a0b _ _).1 h1];kernel_rfl)
 | false=>
 cases h2:seq s ⟨#[45]⟩with
 | true=>
  simp only [cond_true,cond_false,l2a,k2m];exact reck (by rw [(a0b _ _).1 h2];kernel_rfl)
 | false=>
 cases h3:seq s ⟨#[42]⟩with
 | true=>
  simp only [cond_true,cond_false,l2a,k2m];exact reck (by rw [(a0b _ _).1 h3];kernel_rfl)
 | false=>
 simp only [cond_false,k2m];cases h4:seq s ⟨#[61]⟩with
 | true=>
  simp only [cond_true];obtain⟨e0,e1,m0,m1⟩:=ar2 (har.two (by rw [(a0b _ _).1 h4];kernel_rfl));rw [e0,j2r,e1,j2r,Val.eta,Val.eta,g1o _ _ n (b0h (hl _ m0)) (by have:=sz _ m0;omega),j2r];dsimp only;rw [Val.eta]
 | false=>
 cases h5:seq s ⟨#[60]⟩with
 | true=>
  simp only [cond_true,cond_false];obtain⟨e0,e1,m0,m1⟩:=ar2 (har.two (by rw [(a0b _ _).1 h5];kernel_rfl));rw [e0,j2r,e1,j2r,Val.eta,Val.eta,l1q _ _ n (b0h (hl _ m0)) (by have:=sz _ m0;omega),j2r];dsimp only;rw [Val.eta]
 | false=>
 cases h6:seq s ⟨#[60,61]⟩with
 | true=>
  simp only [cond_true,cond_false];obtain⟨e0,e1,m0,m1⟩:=ar2 (har.two (by rw [(a0b _ _).1 h6];kernel_rfl));rw [e1,j2r,e0,j2r,Val.eta,Val.eta,l1q _ _ n (b0h (hl _ m1)) (by have:=sz _ m1;omega),j2r];dsimp only;rw [Val.eta,g0r,j2r,m0n (z0q _ _)];dsimp only;rw [Val.eta]
 | false=>
 cases h7:seq s ⟨#[97,110,100]⟩with
 | true=>
  simp only [cond_true,cond_false];obtain⟨e0,e1,m0,m1⟩:=ar2 (har.two (by rw [(a0b _ _).1 h7];kernel_rfl));rw [e0,j2r,Val.eta,g0r,j2r,e1,j2r,Val.eta,g0r,j2r];dsimp only;rw [Val.eta,Val.eta,o0b,j2r,m0n m0a,m0n m0a];dsimp only;rw [Val.eta,g0r,j2r,m0n l0w];dsimp only;rw [Val.eta]
 | false=>
 cases h8:seq s ⟨#[111,114]⟩with
 | true=>
  simp only [cond_true,cond_false];obtain⟨e0,e1,m0,m1⟩:=ar2 (har.two (by rw [(a0b _ _).1 h8];kernel_rfl));rw [e0,j2r,e1,j2r,Val.eta,Val.eta,o0b,j2r];dsimp only;rw [Val.eta]
 | false=>
 cases h9:seq s ⟨#[110,111,116]⟩with
 | true=>
  simp only [cond_true,cond_false];obtain⟨e0,m0⟩:=ar1 (har.one (by rw [(a0b _ _).1 h9];kernel_rfl));rw [e0,j2r,Val.eta,g0r,j2r];dsimp only;rw [Val.eta]
 | false=>
 cases h10:seq s ⟨#[110,117,108,108]⟩with
 | true=>
  simp only [cond_true,cond_false];obtain⟨e0,m0⟩:=ar1 (har.one (by rw [(a0b _ _).1 h10];kernel_rfl));rw [e0,j2r,v0o,j2r];dsimp only;rw [Val.eta]
 | false=>
 cases h11:seq s ⟨#[105,110]⟩with
 | true=>
  simp only [cond_true,cond_false];obtain⟨e0,e1,m0,m1⟩:=ar2 (har.two (by rw [(a0b _ _).1 h11];kernel_rfl));have l1:=(b0n (hl _ m1)).1;rw [e1,j2r];cases (arg1 l).kind !=4 with
  | true=>rfl
  | false=>
   simp only [cond_false];rw [v0o,j2r,j2r];dsimp only;rw [o1h n _ _ _ n _ _ _ (by omega) (by omega)];have:=m1p n (fun(_:Unit)=>(none:Option (Val×Unit))) (fun(v53,o57,o58,_)=>some ((Ev.Val.mk o58.1.kind o58.1.n o58.1.s o58.1.l),())) l (arg0 l) e0 (b0h (hl _ m0)) (by have:=sz _ m0;omega) (.mk 0 0 ⟨#[]⟩ []) (arg1 l).l 0 0 (.inl rfl);refine this.trans ?_;dsimp only;rw [Val.eta]
 | false=>
 cases h12:seq s ⟨#[115,105,122,101]⟩with
 | true=>
  simp only [cond_true,cond_false];obtain⟨e0,m0⟩:=ar1 (har.one (by rw [(a0b _ _).1 h12];kernel_rfl));rw [e0,j2r];cases (arg0 l).kind==3 with
  | true=>rfl
  | false=>cases (arg0 l).kind==4<;>rfl
 | false=>
 cases h13:seq s ⟨#[104,101,97,100]⟩with
 | true=>
  simp only [cond_true,cond_false];obtain⟨e0,m0⟩:=ar1 (har.one (by rw [(a0b _ _).1 h13];kernel_rfl));rw [e0,j2r];cases (arg0 l).kind==4 with
  | false=>rfl
  | true=>
   simp only [cond_true];rw [j2r];cases hll:(arg0 l).l with
   | nil=>rfl
   | cons x r=>
    have:decide (((x::r).length:Int) >0)=true:=by simp
    rw [this];simp only [cond_true];rw [j2r,hll];show some (Val.mk x.kind x.n x.s x.l,())=some (x,());rw [Val.eta]
 | false=>
 cases h14:seq s ⟨#[99,111,97,108,101,115,99,101]⟩with
 | true=>
  simp only [cond_true,cond_false];rw [p1z n _ _ l n _ (by omega) (by omega)];exact w0r n _ _ rfl l 0
 | false=>
 cases h15:seq s ⟨#[108,105,115,116]⟩with
 | true=>
  simp only [cond_true,cond_false];rw [n0s _ n (by omega),j2r];dsimp only;cases chk (.mk 4 0 ⟨#[]⟩ l) 1==0<;>rfl
 | false=>
 cases h16:seq s ⟨#[105,100]⟩with
 | true=>
  simp only [cond_true,cond_false];obtain⟨e0,m0⟩:=ar1 (har.one (by rw [(a0b _ _).1 h16];kernel_rfl));rw [e0,j2r,Val.eta]
 | false=>
 cases h17:seq s ⟨#[116,121,112,101]⟩with
 | true=>
  simp only [cond_true,cond_false];obtain⟨e0,m0⟩:=ar1 (har.one (by rw [(a0b _ _).1 h17];kernel_rfl));rw [e0,j2r];obtain⟨k,hk,hf⟩:=f1f g (arg0 l).n n hr h60 (by omega);rw [show(Graph.mk g.nodes g.edges g.next)=g from rfl,hk,j2r]
  dsimp only;rw [hf.ge];rcases hf with⟨_,hnn⟩ | ⟨_,x,hx,hs⟩
  ·rw [hnn];rfl
  ·rw [hs,hx];rfl
 | false=>rfl
end Pure
namespace Pure
open Esp Ev Go
set_option linter.unusedSimpArgs false
set_option linter.unusedVariables false
def fldV(g:Graph)(id:Int)(s:ByteArray):Val:=
 match b0d g.nodes id with
 | some x=>f0l x.props s
 | none=>match c0m g.edges id with
  | some x=>f0l x.props s
  | none=>zV
mutual
def tval(g:Graph)(at_:List Y2):Term→Val
 | .mk k v s a=>bif k==1 then v else bif k==2 then .mk 2 (a0g .str .i64 0 at_ s) ⟨#[]⟩ []else bif k==3 then fldV g (a0g .str .i64 0 at_ (hdT a).name) s else b1w g s (d0d g at_ a)
def d0d(g:Graph)(at_:List Y2):List Term→List Val
 | []=> []
 | x::r=>tval g at_ x::d0d g at_ r
end
theorem d0e(g:Graph)(at_:List Y2): ∀l:List Term,d0d g at_ l=l.map (tval g at_)
 | []=>rfl
 | x::r=>by rw [d0d,d0e g at_ r];rfl
structure GOk(g:Graph):Prop where
 ok:gOk g
 cg:chkG g=0
theorem GOk.riseN{g:Graph}(h:GOk g):Rise Ev.Node.id g.nodes∧g.nodes.length≤40:=⟨(g0k (f0c h.cg).2.2.1).2.1,(f0c h.cg).1⟩
theorem GOk.riseE{g:Graph}(h:GOk g):Rise Edg.id g.edges∧g.edges.length≤60:=⟨(o0k (f0c h.cg).2.2.2).2.1,(f0c h.cg).2.1⟩
theorem x0r{nodes:List Ev.Node}: ∀{l:List Edg} {last:Int},edgF nodes last l=0→∀x∈l,nmB x.type=true
 | [],_,_=>fun x hx=>(by cases hx)
 | y::r,last,h=>by
  rw [edgF]at h;cases h1:decide (y.id≤last)with
  | true=>rw [h1]at h;cases h
  | false=>
  rw [h1,cond_false]at h;cases h2:(b0d nodes y.id).isSome with
  | true=>rw [h2]at h;cases h
  | false=>
  rw [h2,cond_false]at h;cases h3:nmB y.type with
  | false=>rw [h3]at h;cases h
  | true=>
  rw [h3,k2e,cond_false]at h;cases h4:(b0d nodes y.src).isNone with
  | true=>rw [h4]at h;cases h
  | false=>
  rw [h4,cond_false]at h;cases h5:(b0d nodes y.dst).isNone with
  | true=>rw [h5]at h;cases h
  | false=>
  rw [h5,cond_false]at h;cases h6:prpE y.props !=0 with
  | true=>rw [h6,cond_true]at h;rw [h]at h6;cases h6
  | false=>
  rw [h6,cond_false]at h;intro x hx;rcases k2b.1 hx with rfl | hx
  ·exact h3
  ·exact x0r h x hx
theorem GOk.types{g:Graph}(h:GOk g): ∀x∈g.edges,nmB x.type=true:=x0r (f0c h.cg).2.2.2
theorem GOk.propsN{g:Graph}(h:GOk g){x:Ev.Node}(hx:x∈g.nodes):x.props.length≤6∧(∀p∈x.props,chk p.val 1=0)∧ ∀p∈x.props,vOk p.val:=
 have h1:=w1r (f1y (f0c h.cg).2.2.1 x hx).2
 ⟨h1.1,h1.2,fun p hp=>((h.ok.1.2 x hx).2.2.2 p hp).2⟩
theorem GOk.propsE{g:Graph}(h:GOk g){x:Edg}(hx:x∈g.edges):x.props.length≤6∧(∀p∈x.props,chk p.val 1=0)∧ ∀p∈x.props,vOk p.val:=
 have h1:=w1r (e1c (f0c h.cg).2.2.2 x hx).1
 ⟨h1.1,h1.2,fun p hp=>((h.ok.2.1.2 x hx).2.2.2.2.2 p hp).2⟩
theorem m0z{l:List Prp}(h1: ∀p∈l,chk p.val 1=0)(h2: ∀p∈l,vOk p.val)(s:ByteArray):Right (f0l l s) 1:=by
 rcases r0i s l with h | ⟨x,hx,h⟩
 ·rw [h];exact .null 1
 ·rw [h];exact n0p _ 1 (h2 x hx) (h1 x hx)
theorem f1m{g:Graph}(h:GOk g)(at_:List Y2)(i:Int)(s:ByteArray)(n:Nat)(hn:100≤n):q73z n (⟨g,at_⟩,i,s,())=some (fldV g i s,())∧Right (fldV g i s) 1:=by
 obtain⟨k,hk,hf⟩:=t0t g i n h.riseN.1 h.riseN.2 (by omega);obtain⟨k',hk',hf'⟩:=f1f g i n h.riseE.1 h.riseE.2 (by omega);unfold q73z fldV;dsimp only;rw [show(Graph.mk g.nodes g.edges g.next)=g from rfl,hk,j2r]
 dsimp only;rw [hf.ge];rcases hf with⟨_,hnn⟩ | ⟨_,x,hx,hs⟩
 ·rw [hnn]
  simp only [Option.isSome_none,cond_false];rw [hk',j2r];dsimp only;rw [hf'.ge];rcases hf' with⟨_,hnn'⟩ | ⟨_,x,hx,hs⟩
  ·rw [hnn'];exact⟨rfl, .null 1⟩
  ·have hm:=l0l hs
   have hp:=h.propsE hm;rw [hs,hx];simp only [Option.isSome_some,cond_true,j2r];rw [w1q x.props s n (by omega) hp.1 hp.2.1,j2r];dsimp only;rw [Val.eta];exact⟨rfl,m0z hp.2.1 hp.2.2 s⟩
 ·have hm:=r0r hs
  have hp:=h.propsN hm;rw [hs,hx];simp only [Option.isSome_some,cond_true,j2r];rw [w1q x.props s n (by omega) hp.1 hp.2.1,j2r];dsimp only;rw [Val.eta];exact⟨rfl,m0z hp.2.1 hp.2.2 s⟩
def atOk(at_:List Y2):Prop:=∀p∈at_,wfI .i64 p.2
theorem e1l(s:ByteArray): ∀{at_:List Y2},atOk at_→wfI .i64 (a0g .str .i64 0 at_ s)
 | [],_=>by show wfI .i64 0;unfold wfI;decide
 | p::r,h=>by
  rw [a0g];cases b0g .str s p.1 with
  | true=>exact h p (by simp)
  | false=>exact e1l s fun q hq=>h q (by simp [hq])
theorem o1k{b:List Y6}{l:List Term}{d:Int}(h:e0d b l d=0): ∀x∈l,tchk b x d=0:=by
 induction l with
 | nil=>intro x hx;cases hx
 | cons y r ih=>
  rw [e0d]at h;cases hc:tchk b y d !=0
  ·rw [hc]at h
   have hc0:tchk b y d=0:=by simpa using hc
   intro x hx;rcases k2b.1 hx with rfl | hx
   ·exact hc0
   ·exact ih h x hx
  ·rw [hc,cond_true]at h
   rw [h]at hc;cases hc
inductive TR(b:List Y6):Term→Int→Prop
 | const (v:Val) (s:ByteArray) (a:List Term) (d:Int):d≤6→chk v 1=0→TR b (.mk 1 v s a) d
 | var (v:Val) (s:ByteArray) (a:List Term) (d:Int):d≤6→a0s .str .bool b s=true→TR b (.mk 2 v s a) d
 | field (v:Val) (s:ByteArray) (a:List Term) (d:Int):d≤6→ix a 0=some (hdT a)→a= [hdT a]→TR b (.mk 3 v s a) d
 | call (v:Val) (s:ByteArray) (a:List Term) (d:Int):d≤6→ArOk s a.length→a.length≤30→(∀x∈a,tchk b x (d+1)=0)→lstB b s (hdT a)=0→zrB v=true→TR b (.mk 4 v s a) d
theorem r1z{b:List Y6}{t:Term}{d:Int}(h:tchk b t d=0):TR b t d:=by
 obtain⟨k,v,s,a⟩:=t;rw [tchk]at h;cases hd:decide (d>6)with
 | true=>rw [hd]at h;cases h
 | false=>
 have h6:d≤6:=by have:=of_decide_eq_false hd;omega
 rw [hd,cond_false]at h;cases h1:k==1 with
 | true=>
  have:k=1:=by simpa using h1
  subst this;rw [h1,cond_true]at h;cases hz:(!(seq s ⟨#[]⟩)) || decide ((a.length:Int) >0)with
  | true=>rw [hz]at h;cases h
  | false=>
   rw [hz,cond_false]at h;cases h4:v.kind==4 with
   | true=>rw [h4]at h;cases h
   | false=>rw [h4]at h;exact .const v s a d h6 h
 | false=>
 rw [h1,cond_false]at h;cases h2:k==2 with
 | true=>
  have:k=2:=by simpa using h2
  subst this;rw [h2,cond_true]at h;cases hz:(!zrB v) || decide ((a.length:Int) >0)with
  | true=>rw [hz]at h;cases h
  | false=>
   rw [hz,cond_false]at h;cases hn: !h0i s with
   | true=>rw [hn]at h;cases h
   | false=>
    rw [hn,cond_false]at h;cases hm:a0s .str .bool b s with
    | false=>rw [hm]at h;cases h
    | true=>exact .var v s a d h6 hm
 | false=>
 rw [h2,cond_false]at h;cases h3:k==3 with
 | true=>
  have:k=3:=by simpa using h3
  subst this;rw [h3,cond_true]at h;cases hz:(!zrB v) || ((a.length:Int) !=1)with
  | true=>rw [hz]at h;cases h
  | false=>
   rw [k2c]at hz;obtain⟨e1,e2⟩:=p1s hz.2;exact .field v s a d h6 e1 e2
 | false=>
 rw [h3,cond_false]at h;cases h4:k==4 with
 | false=>rw [h4]at h;cases h
 | true=>
  have:k=4:=by simpa using h4
  subst this;rw [h4,cond_true]at h;cases hz:((!(arN s).2) || !zrB v) || (decide ((arN s).1≥0)&& ((a.length:Int) !=(arN s).1))with
  | true=>rw [hz]at h;cases h
  | false=>
   rw [hz,cond_false]at h;cases h30:decide ((a.length:Int) >30)with
   | true=>rw [h30]at h;cases h
   | false=>
    have hl:=of_decide_eq_false h30;rw [h30,cond_false]at h;cases hc:e0d b a (d+1) !=0 with
    | true=>rw [hc,cond_true]at h;rw [h]at hc;cases hc
    | false=>
     rw [hc,cond_false]at h;have hc0:e0d b a (d+1)=0:=by simpa using hc
     rw [k2c,k2c]at hz;refine .call v s a d h6 ⟨by simpa using hz.1.1,fun hge=> ?_⟩ (by omega) (o1k hc0) h (by simpa using hz.1.2);have h2:=hz.2;rw [decide_eq_true hge,l2e]at h2;simpa using h2
theorem c1n{α:Type}{p:Nat→α→Prop}: ∀(l:List α),(∀x∈l,∃N,∀n,N≤n→p n x)→ ∃N,∀n,N≤n→∀x∈l,p n x
 | [],_=>⟨0,fun _ _ x hx=>by cases hx⟩
 | y::r,h=>by
  obtain⟨N1,h1⟩:=h y (by simp);obtain⟨N2,h2⟩:=c1n r fun x hx=>h x (by simp [hx]);refine⟨N1+N2,fun n hn x hx=> ?_⟩;rcases k2b.1 hx with rfl | hx
  ·exact h1 n (by omega)
  ·exact h2 n (by omega) x hx
theorem w0i{ρ:Type}(self:Envr×Term×Unit→Option (Val×Unit))(n:Nat)(kr:Unit→Option ρ)(k:(Envr×Unit)×(Term×Unit)×(Val×Unit)×List Val×Unit→Option ρ)(e:Envr)(t:Term)(z:Val):
  ∀(l:List Term) (i:Int) (acc:List Val),(∀x∈l,self (e,x,())=some (tval e.g e.at_ x,()))→acc.length+l.length≤30→a0c (g0u self n kr) k i l ((e,()),(t,()),(z,()),acc,())=k ((e,()),(t,()),(z,()),acc++d0d e.g e.at_ l,())
 | [],i,acc,_,_=>by rw [d0d,k2y];rfl
 | x::r,i,acc,h,hl=>by
  rw [a0c];have ih:=w0i self n kr k e t z r (i+1) (acc++ [tval e.g e.at_ x]) (fun y hy=>h y (by simp [hy])) (by simp at hl⊢;omega);generalize a0c (g0u self n kr) k (i+1) r=R at ih;unfold g0u;dsimp only;rw [Term.eta2,Term.eta2,show(Envr.mk (Graph.mk e.g.nodes e.g.edges e.g.next) e.at_)=e from rfl,h x (by simp),j2r]
  dsimp only;rw [Val.eta,Val.eta,d0h (i1j (by simp at hl⊢;omega) (by omega)),ih,d0d];simp
theorem t0f{g:Graph}(hg:GOk g){at_:List Y2}(ha:atOk at_)(b:List Y6)(t:Term): ∀d,tOk t→tchk b t d=0→
  (∃N,∀n,N≤n→q72z n (⟨g,at_⟩,t,())=some (tval g at_ t,()))∧Right (tval g at_ t) 1:=by
 induction t using i0d with
 | _ k v s a ih=>
  intro d ht hc;rw [tOk,u0e]at ht;have hr:=r1z hc;cases hr with
  | const v s a d h6 hv=>
   have hR:=n0p v 1 ht.2.1 hv;refine⟨⟨101,fun n hn=> ?_⟩,by rw [tval];exact hR⟩;obtain⟨m,rfl⟩: ∃m,n=m+1:=⟨n - 1,by omega⟩;rw [q72z,tval];unfold y0d;dsimp+instances only [n0b,n0y];rw [Val.eta,c1v v 1 m (by omega) (by omega) (by simp;omega) hv];simp only [j2r,beq_self_eq_true,cond_true];rw [Val.eta]
  | var v s a d h6 hm=>
   refine⟨⟨101,fun n hn=> ?_⟩,by rw [tval];exact .int _ 1 (e1l s ha)⟩;obtain⟨m,rfl⟩: ∃m,n=m+1:=⟨n - 1,by omega⟩;rw [q72z,tval];rfl
  | field v s a d h6 e1 e2=>
   refine⟨⟨201,fun n hn=> ?_⟩,by rw [tval];exact(f1m hg at_ _ s 100 (by omega)).2⟩;obtain⟨m,rfl⟩: ∃m,n=m+1:=⟨n - 1,by omega⟩;rw [q72z,tval];unfold y0d;dsimp+instances only [n0b,n0y,n0z,u0o];rw [e1,j2r,show(Graph.mk g.nodes g.edges g.next)=g from rfl,(f1m hg at_ _ s m (by omega)).1,j2r]
   rw [show((3:Int)==1)=false from rfl,show((3:Int)==2)=false from rfl,show((3:Int)==3)=true from rfl]
   simp only [cond_false,cond_true];rw [Val.eta]
  | call v s a d h6 har h30 hs _ _=>
   have hall: ∀x∈a,(∃N,∀n,N≤n→q72z n (⟨g,at_⟩,x,())=some (tval g at_ x,()))∧Right (tval g at_ x) 1:=fun x hx=>ih x hx (d+1) (ht.2.2.2.2 x hx) (hs x hx);have hR: ∀y∈d0d g at_ a,Right y 1:=by
    rw [d0e];intro y hy;obtain⟨x,hx,rfl⟩:=k2s.1 hy;exact(hall x hx).2
   have hlen:(d0d g at_ a).length=a.length:=by rw [d0e,k2v]
   obtain⟨N,hN⟩:=c1n a fun x hx=>(hall x hx).1;refine⟨⟨N+lSz (d0d g at_ a)+1001,fun n hn=> ?_⟩,by rw [tval];exact z0w g s _ hR (by omega) hg.types⟩;obtain⟨m,rfl⟩: ∃m,n=m+1:=⟨n - 1,by omega⟩;rw [q72z,tval];unfold y0d;dsimp+instances only [n0b,n0y,n0z,u0o];rw [show((4:Int)==1)=false from rfl,show((4:Int)==2)=false from rfl,show((4:Int)==3)=false from rfl]
   simp only [cond_false];rw [o1m _ m _ _ a m _ _ _ _ (by omega) (by omega)];have hlp:=w0i (q72z m) m (fun(_:Unit)=>(none:Option (Val×Unit))) (fun(o17,o18,o19,o20,_)=>(q77z m ((Ev.Envr.mk (Ev.Graph.mk o17.1.g.nodes o17.1.g.edges o17.1.g.next) o17.1.at_),(Ev.Term.mk o18.1.kind (Ev.Val.mk o18.1.v.kind o18.1.v.n o18.1.v.s o18.1.v.l) o18.1.name o18.1.a),o20,())).bind fun(y21,_)=>some ((Ev.Val.mk y21.kind y21.n y21.s y21.l),()))
    ⟨g,at_⟩ (.mk 4 v s a) (.mk 0 0 ⟨#[]⟩ []) a 0 [] (fun x hx=>hN m (by omega) x hx) (by simpa using h30)
   rw [Val.eta];refine hlp.trans ?_;dsimp only;rw [Term.eta2,l2j,y1g g at_ (.mk 4 v s a) _ m hR (by omega) (by rw [hlen];exact har) hg.riseE.1 hg.riseE.2 (by omega),j2r];dsimp only;rw [Val.eta];rfl
end Pure
namespace Pure
open Esp Ev Go
set_option linter.unusedSimpArgs false
set_option linter.unusedVariables false
theorem keyS(s:ByteArray):b0g .str s s=true:=by
 show(s==s)=true;show(s.data==s.data)=true;simp
def envF(g:Graph):List Y2→List Y6→List Y2→Int×List Y6×List Y2
 | [],b,a=>(0,b,a)
 | p::r,b,a=>bif a0s .str .bool b p.1 then(7,b,a)else bif (b0d g.nodes p.2).isNone&& (c0m g.edges p.2).isNone then(5,b,a)
  else envF g r (a0e .str .bool b p.1 (c0m g.edges p.2).isSome) (a0e .str .i64 a p.1 p.2)
def setR(g:Graph)(names:List ByteArray)(ids:List Int):Int×List Y6×List Y2:=
 bif chkG g !=0 then(chkG g, [], [])else bif ((names.length:Int) !=(ids.length:Int)) || decide ((names.length:Int) >30)then(2, [], [])else envF g (names.zip ids) [] []
structure EvOk(g:Graph)(names:List ByteArray)(ids:List Int)(t:Term):Prop where
 gk:GOk g
 at_:atOk (setR g names ids).2.2
 z:(setR g names ids).1=0
 c:tchk (setR g names ids).2.1 t 1=0
end Pure
namespace Pure
open Esp Ev Go
set_option linter.unusedSimpArgs false
set_option linter.unusedVariables false
theorem s1s(q:Query):Ev.Query.mk q.dots q.arrows q.wher q.items q.dist=q:=rfl
def dtB(d:Ev.Dot):Bool:=(seq d.name ⟨#[]⟩ || h0i d.name)&& (seq d.label ⟨#[]⟩ || nmB d.label)
def arB(a:Ev.Arrow):Bool:=(seq a.name ⟨#[]⟩ || (h0i a.name&& !a.many))&& (seq a.type ⟨#[]⟩ || nmB a.type)
def nmD:List Ev.Dot→List Y6→List Y6
 | [],m=>m
 | d::r,m=>nmD r (bif !(seq d.name ⟨#[]⟩)then a0e .str .bool m d.name false else m)
def nmA:List Ev.Arrow→List Y6→Option Y16
 | [],m=>some m
 | a::r,m=>bif seq a.name ⟨#[]⟩then nmA r m else bif a0s .str .bool m a.name then none else nmA r (a0e .str .bool m a.name true)
def whF(b:List Y6):List Term→Int
 | []=>0
 | t::r=>bif tchk b t 1 !=0 then tchk b t 1 else whF b r
def aggs:List ByteArray:= [(⟨#[]⟩:ByteArray),(⟨#[99,111,117,110,116]⟩:ByteArray),(⟨#[115,117,109]⟩:ByteArray),(⟨#[109,105,110]⟩:ByteArray),(⟨#[109,97,120]⟩:ByteArray)]
def itF(b:List Y6):List Ev.Item→List Y6→Int
 | [],_=>0
 | i::r,seen=>bif !(h0i i.name)then 6 else bif !(hasL aggs i.agg)then 6 else bif a0g .str .bool false seen i.name then 7 else bif tchk b i.t 1 !=0 then tchk b i.t 1 else itF b r (a0e .str .bool seen i.name true)
def chkQ(q:Query):Int:=
 bif ((((decide (((q.dots.length:Int):Int)<1)) || (decide (((q.dots.length:Int):Int) >5))) || (decide (((q.items.length:Int):Int)<1))) || (decide (((q.items.length:Int):Int) >5))) || (decide (((q.wher.length:Int):Int) >1))then 2
 else bif ((q.arrows.length:Int):Int) !=(q.dots.length:Int) - 1 then 6
 else bif !(q.dots.all dtB)then 6 else bif !(q.arrows.all arB)then 6
 else match nmA q.arrows (nmD q.dots [])with
  | none=>7
  | some b=>bif whF b q.wher !=0 then whF b q.wher else itF b q.items []
theorem e2y{ρ:Type}(n:Nat)(hn:400≤n)(kr:Int×Unit→Option ρ)(K:(Y4×Unit)→Option ρ)(q:Query):
  ∀(l:List Ev.Dot) (i:Int),a0c (l0e n kr) K i l ((q,()),())=bif l.all dtB then K ((q,()),())else kr (6,())
 | [],i=>by rw [a0c];rfl
 | d::r,i=>by
  have ih:=e2y n hn kr K q r (i+1);rw [a0c,List.all_cons];unfold l0e at ih⊢;unfold dtB at ih⊢;dsimp only;rw [u0u d.name n (by omega),i0n d.label n (by omega)];simp only [j2r];cases seq d.name ⟨#[]⟩<;>cases h0i d.name<;>cases seq d.label ⟨#[]⟩<;>cases nmB d.label<;>simp only [k2e,k2w,cond_true,cond_false,l2a,k2m,l2e,l2z]<;>first | exact ih | rfl
theorem c2k{ρ:Type}(n:Nat)(hn:400≤n)(kr:Int×Unit→Option ρ)(K:(Y4×Unit)→Option ρ)(q:Query):
  ∀(l:List Ev.Arrow) (i:Int),a0c (k0a n kr) K i l ((q,()),())=bif l.all arB then K ((q,()),())else kr (6,())
 | [],i=>by rw [a0c];rfl
 | d::r,i=>by
  have ih:=c2k n hn kr K q r (i+1);rw [a0c,List.all_cons];unfold k0a at ih⊢;unfold arB at ih⊢;dsimp only;rw [u0u d.name n (by omega),i0n d.type n (by omega)];simp only [j2r];cases seq d.name ⟨#[]⟩<;>cases h0i d.name<;>cases d.many<;>cases seq d.type ⟨#[]⟩<;>cases nmB d.type<;>simp only [k2e,k2w,cond_true,cond_false,l2a,k2m,l2q,l2f,l2e,l2z,m2m,Bool.and_false]<;>first | exact ih | rfl
theorem h2i{ρ:Type}(n:Nat)(kr:Unit→Option ρ)(K:(Y4×Y16×Unit)→Option ρ)(q:Query):
  ∀(l:List Ev.Dot) (i:Int) (m:List Y6),a0c (j0j n kr) K i l ((q,()),m,())=K ((q,()),nmD l m,())
 | [],i,m=>by rw [a0c];rfl
 | d::r,i,m=>by
  have ih:=fun m=>h2i n kr K q r (i+1) m;rw [a0c,nmD];unfold j0j at ih⊢;dsimp only;cases (!(seq d.name ⟨#[]⟩))with
  | true=>rw [cond_true,cond_true];exact ih _
  | false=>rw [cond_false,cond_false];exact ih _
theorem g2c{ρ:Type}(n:Nat)(kr:Y16×Int×Unit→Option ρ)(K:(Y16×Unit)→Option ρ):
  ∀(l:List Ev.Arrow) (i:Int) (m:List Y6),a0c (j0z n kr) K i l (m,())=match nmA l m with | none=>kr ([],7,()) | some b=>K (b,())
 | [],i,m=>by rw [a0c];rfl
 | a::r,i,m=>by
  have ih:=fun m=>g2c n kr K r (i+1) m;rw [a0c,nmA];unfold j0z at ih⊢;dsimp only;cases (seq a.name ⟨#[]⟩)with
  | true=>rw [cond_true,cond_true];exact ih _
  | false=>
   rw [cond_false,cond_false];cases a0s .str .bool m a.name with
   | true=>rfl
   | false=>rw [cond_false,cond_false];exact ih _
theorem s1l(q:Query)(n:Nat)(h1:q.dots.length≤100)(h2:q.arrows.length≤100)(hn:400≤n):q86z n (q,())=match nmA q.arrows (nmD q.dots [])with | none=>some ([],7,()) | some b=>some (b,0,()):=by
 unfold q86z;dsimp only;rw [m1z n _ _ q.dots n _ _ (by omega) (by omega)];refine Eq.trans (h2i n _ _ q q.dots 0 []) ?_;dsimp only;rw [n1k n _ _ q.arrows n _ (by omega) (by omega)];exact g2c n _ _ q.arrows 0 _
theorem h2b{ρ:Type}(n:Nat)(hn:400≤n)(kr:Int×Unit→Option ρ)(K:(Y16×Y4×Unit)→Option ρ)(q:Query)(b:List Y6):
  ∀(l:List Term) (i:Int),a0c (j0x n kr) K i l (b,(q,()),())=bif whF b l !=0 then kr (whF b l,())else K (b,(q,()),())
 | [],i=>by rw [a0c];rfl
 | t::r,i=>by
  have ih:=h2b n hn kr K q b r (i+1);rw [a0c,whF];unfold j0x at ih⊢;dsimp only;rw [Term.eta2,w0t b t n (by omega),j2r];dsimp only;cases h:(tchk b t 1 !=0)with
  | true=>rw [cond_true,cond_true,h,cond_true]
  | false=>rw [cond_false,cond_false];exact ih
theorem e2j{ρ:Type}(n:Nat)(hn:400≤n)(kr:Int×Unit→Option ρ)(K:(Y16×Y16×Unit)→Option ρ)(hK: ∀b s s',K (b,s,())=K (b,s',()))(b:List Y6):
  ∀(l:List Ev.Item) (i:Int) (s:List Y6),a0c (k0v n kr) K i l (b,s,())=bif itF b l s !=0 then kr (itF b l s,())else K (b,s,())
 | [],i,s=>by rw [a0c];rfl
 | t::r,i,s=>by
  have ih:=e2j n hn kr K hK b r (i+1) (a0e .str .bool s t.name true);rw [a0c,itF];unfold k0v at ih⊢;dsimp only;rw [u0u t.name n (by omega),j2r];dsimp only;cases h0i t.name with
  | false=>rfl
  | true=>
   rw [k2e,cond_false,cond_false,i0m _ t.agg n (by simp) (by omega),j2r];dsimp only;unfold aggs;cases hasL [(⟨#[]⟩:ByteArray),(⟨#[99,111,117,110,116]⟩:ByteArray),(⟨#[115,117,109]⟩:ByteArray),(⟨#[109,105,110]⟩:ByteArray),(⟨#[109,97,120]⟩:ByteArray)] t.agg with
   | false=>rfl
   | true=>
    rw [k2e,cond_false,cond_false];cases a0g .str .bool false s t.name with
    | true=>rfl
    | false=>
     rw [cond_false,cond_false,Term.eta2,w0t b t.t n (by omega),j2r];dsimp only;cases h:(tchk b t.t 1 !=0)with
     | true=>rw [cond_true,cond_true,h,cond_true]
     | false=>rw [cond_false,cond_false];exact ih.trans (by rw [hK b _ s])
theorem j0q(q:Query)(n:Nat)(hn:400≤n):q85z n (q,())=some (chkQ q,()):=by
 unfold q85z chkQ;dsimp only;cases hb:((((decide (((q.dots.length:Int):Int)<1)) || (decide (((q.dots.length:Int):Int) >5))) || (decide (((q.items.length:Int):Int)<1))) || (decide (((q.items.length:Int):Int) >5))) || (decide (((q.wher.length:Int):Int) >1))with
 | true=>rfl
 | false=>
  simp only [k2c,decide_eq_false_iff_not]at hb;rw [cond_false,cond_false,a0h (by omega) (by omega)];cases ha:((q.arrows.length:Int) !=(q.dots.length:Int) - 1)with
  | true=>rfl
  | false=>
   have ha:(q.arrows.length:Int)=(q.dots.length:Int) - 1:=by simpa [bne]using ha
   rw [cond_false,cond_false,k1e n _ _ q.dots n _ (by omega) (by omega)];refine Eq.trans (e2y n hn _ _ q q.dots 0) ?_;cases q.dots.all dtB with
   | false=>rfl
   | true=>
    rw [cond_true,k2e,cond_false];dsimp only;rw [n1j n _ _ q.arrows n _ (by omega) (by omega)];refine Eq.trans (c2k n hn _ _ q q.arrows 0) ?_;cases q.arrows.all arB with
    | false=>rfl
    | true=>
     rw [cond_true,k2e,cond_false];dsimp only;rw [s1s,s1l q n (by omega) (by omega) hn];cases nmA q.arrows (nmD q.dots [])with
     | none=>rfl
     | some b=>
      dsimp only;rw [j2r];dsimp only;rw [show((0:Int) !=0)=false from rfl,cond_false,l1h n _ _ q.wher n _ _ (by omega) (by omega)]
      refine Eq.trans (h2b n hn _ _ q b q.wher 0) ?_;cases hw:(whF b q.wher !=0)with
      | true=>rw [cond_true,cond_true]
      | false=>
       rw [cond_false,cond_false];dsimp only;rw [r1w n _ _ q.items n _ _ (by omega) (by omega)];refine Eq.trans (e2j n hn _ _ (fun _ _ _=>rfl) b q.items 0 []) ?_;cases hi:(itF b q.items [] !=0)with
       | true=>rfl
       | false=>
        have:itF b q.items []=0:=by simpa [bne]using hi
        rw [this];rfl
end Pure
namespace Pure
open Esp Ev Go
set_option linter.unusedSimpArgs false
set_option linter.unusedVariables false
def wv:List Int→Int
 | []=>0
 | w::r=>w+4294967296*wv r
def Wd(l:List Int):Prop:=∀w∈l,0≤w∧w<4294967296
def Nm(l:List Int):Prop:=∀w,l.getLast? =some w→w≠0
theorem wU32(x:Int):IntKind.wrap .u32 x=x%4294967296:=by simp only [IntKind.wrap,IntKind.bits,IntKind.signed];simp
theorem wU64(x:Int):IntKind.wrap .u64 x=x%18446744073709551616:=by simp only [IntKind.wrap,IntKind.bits,IntKind.signed];simp
theorem p0l(x:Int):bshr .u64 x 32=x / 4294967296:=by
 unfold bshr;rw [show(2:Int) ^ (min (32:Int).toNat IntKind.u64.bits)=4294967296 from rfl,m2j _ (by omega)]
theorem f2b(x:Int):bshr .u64 x 63=x / 9223372036854775808:=by
 unfold bshr;rw [show(2:Int) ^ (min (63:Int).toNat IntKind.u64.bits)=9223372036854775808 from rfl,m2j _ (by omega)]
theorem l1a(w:Int): ∀l:List Int,w=0→wv (l++ [w])=wv l
 | [],h=>by subst h;simp [wv]
 | x::r,h=>by rw [List.cons_append,wv,wv,l1a w r h]
theorem lsl0(l:List Int)(k:Nat)(h:k≤l.length):lsl l 0 (k:Int)=some (l.take k):=by
 unfold lsl;rw [if_pos ⟨by omega,by omega,by omega⟩];simp
theorem a1r(n:Nat)(l:List Int)(hl:l.length≤1000)(hn:l.length<n): ∃t,q57z n (l,())=some (t,())∧wv t=wv l∧Nm t∧(∃m,t=l.take m):=by
 have key: ∀(k fuel:Nat),k≤l.length→k<fuel→wv (l.take k)=wv l→
   ∃t,a0a (fun rc8=>o0x n rc8 (fun(v5,v6,_)=>(lsl v5 0 v6).bind fun l7=>some (l7,())) (fun(_)=>none)) fuel (l,(k:Int),())=some (t,())∧wv t=wv l∧Nm t∧(∃m,t=l.take m):=by
  intro k
  induction k with
  | zero=>
   intro fuel h1 h2 h3;obtain⟨f,rfl⟩: ∃f,fuel=f+1:=⟨fuel - 1,by omega⟩;refine⟨[], ?_,h3,(fun w h=>by cases h),0,rfl⟩;rw [a0a];unfold o0x;dsimp only;rw [decide_eq_false (show ¬(((0:Nat):Int) >0)by omega),cond_false,lsl0 l 0 (by omega)];rfl
  | succ k ih=>
   intro fuel h1 h2 h3;obtain⟨f,rfl⟩: ∃f,fuel=f+1:=⟨fuel - 1,by omega⟩;have hw:IntKind.wrap .i64 (((k+1:Nat):Int) - 1)=(k:Int):=by rw [a0h (by omega) (by omega)];omega
   have hx:l[k]? =some l[k]:=j2x (by omega);have ht:l.take (k+1)=l.take k++ [l[k]]:=List.take_succ_eq_append_getElem (by omega);rw [a0a];generalize hR:a0a _ f=R;unfold o0x;dsimp only;rw [decide_eq_true (show(((k+1:Nat):Int) >0)by omega),cond_true,hw,a0k hx,j2r];cases h0:l[k]==0 with
   | true=>
    have h0' :l[k]=0:=by simpa using h0
    rw [cond_true, ←hR];exact ih f (by omega) (by omega) (by rw [←h3,ht,l1a _ _ h0'])
   | false=>
    rw [cond_false,lsl0 l (k+1) (by omega)];refine⟨l.take (k+1),rfl,h3,fun w h=> ?_,k+1,rfl⟩;rw [ht,List.getLast?_concat]at h;cases h;simpa using h0
 unfold q57z;exact key l.length n (k2h _) hn (by rw [List.take_length])
def mS(c x y e:Int):Int:=IntKind.wrap .u64 (c+(IntKind.wrap .u64 ((IntKind.wrap .u64 ((IntKind.wrap .u64 x)*(IntKind.wrap .u64 y)))+(IntKind.wrap .u64 e))))
def lo(t:Int):Int:=IntKind.wrap .u32 t
def hi(t:Int):Int:=bshr .u64 t 32
theorem t0k{c x y e:Int}(hc:0≤c∧c<4294967296)(hx:0≤x∧x<4294967296)(hy:0≤y∧y<4294967296)(he:0≤e∧e<4294967296):
  mS c x y e=c+x*y+e∧0≤mS c x y e∧mS c x y e<18446744073709551616:=by
 have h1:x*y≤4294967295*4294967295:=Int.mul_le_mul (by omega) (by omega) hy.1 (by omega);have h0:0≤x*y:=Int.mul_nonneg hx.1 hy.1;have e1:mS c x y e=c+x*y+e:=by
  unfold mS;rw [b0u hx.1 (by omega),b0u hy.1 (by omega),b0u he.1 (by omega),b0u h0 (by omega),b0u (x:=x*y+e) (by omega) (by omega),b0u (by omega) (by omega)];omega
 rw [e1];exact⟨rfl,by omega,by omega⟩
theorem lohi{t:Int}(h0:0≤t)(h1:t<18446744073709551616):t=lo t+4294967296*hi t∧(0≤lo t∧lo t<4294967296)∧0≤hi t∧hi t<4294967296:=by
 unfold lo hi;rw [wU32,p0l];omega
theorem d0q{t:Int}(h0:0≤t)(h1:t<4294967296):lo t=t:=by
 unfold lo;rw [wU32];omega
theorem j2h(m:Nat)(a0 b0:Int):q65z (m+9) ([a0], [b0],())=(q57z (m+9) ([lo (mS 0 a0 b0 0),lo (hi (mS 0 a0 b0 0))],())).bind fun(y29,_)=>some (y29,()):=by kernel_rfl
theorem i2z(m:Nat)(a0 b0 b1:Int):q65z (m+9) ([a0], [b0,b1],())=(q57z (m+9) ([lo (mS 0 a0 b0 0),lo (mS (hi (mS 0 a0 b0 0)) a0 b1 0),lo (hi (mS (hi (mS 0 a0 b0 0)) a0 b1 0))],())).bind fun(y29,_)=>some (y29,()):=by kernel_rfl
theorem i2v(m:Nat)(a0 a1 b0:Int):q65z (m+9) ([a0,a1], [b0],())=(q57z (m+9) ([lo (mS 0 a0 b0 0),lo (mS 0 a1 b0 (lo (hi (mS 0 a0 b0 0)))),lo (hi (mS 0 a1 b0 (lo (hi (mS 0 a0 b0 0)))))],())).bind fun(y29,_)=>some (y29,()):=by kernel_rfl
theorem j2i(m:Nat)(a0 a1 b0 b1:Int):q65z (m+9) ([a0,a1], [b0,b1],())=
  (q57z (m+9) ([lo (mS 0 a0 b0 0),lo (mS 0 a1 b0 (lo (mS (hi (mS 0 a0 b0 0)) a0 b1 0))),lo (mS (hi (mS 0 a1 b0 (lo (mS (hi (mS 0 a0 b0 0)) a0 b1 0)))) a1 b1 (lo (hi (mS (hi (mS 0 a0 b0 0)) a0 b1 0)))),
   lo (hi (mS (hi (mS 0 a1 b0 (lo (mS (hi (mS 0 a0 b0 0)) a0 b1 0)))) a1 b1 (lo (hi (mS (hi (mS 0 a0 b0 0)) a0 b1 0)))))],())).bind fun(y29,_)=>some (y29,()):=by kernel_rfl
theorem Wd.take{l:List Int}(h:Wd l)(m:Nat):Wd (l.take m):=fun w hw=>h w (List.mem_of_mem_take hw)
theorem m1q(n:Nat)(hn:20≤n)(a b:List Int)(ha:Wd a)(hb:Wd b)(la:a.length≤2)(lb:b.length≤2):
  ∃t,q65z n (a,b,())=some (t,())∧wv t=wv a*wv b∧Wd t∧Nm t∧t.length≤4:=by
 obtain⟨m,rfl⟩: ∃m,n=m+9:=⟨n - 9,by omega⟩;have fin: ∀l:List Int,Wd l→l.length≤4→wv l=wv a*wv b→q65z (m+9) (a,b,())=(q57z (m+9) (l,())).bind (fun(y29,_)=>some (y29,()))→
   ∃t,q65z (m+9) (a,b,())=some (t,())∧wv t=wv a*wv b∧Wd t∧Nm t∧t.length≤4:=by
  intro l h1 h2 h3 h4;obtain⟨t,t1,t2,t3,k,t4⟩:=a1r (m+9) l (by omega) (by omega);refine⟨t,by rw [h4,t1];rfl,by rw [t2,h3],by rw [t4];exact h1.take k,t3, ?_⟩;rw [t4,k2g];omega
 match a,b,la,lb with
 | [],b,_,_=>exact⟨[],rfl,by simp [wv],(fun w h=>by cases h),(fun w h=>by cases h),by simp⟩
 | a0::ar, [],_,_=>
  refine⟨[], ?_,by simp [wv],(fun w h=>by cases h),(fun w h=>by cases h),by simp⟩;unfold q65z;simp
 | [a0], [b0],_,_=>
  have h0:=ha a0 (by simp);have g0:=hb b0 (by simp);obtain⟨q1,q2,q3⟩:=t0k (c:=0) (e:=0) (by omega) h0 g0 (by omega);obtain⟨r1,r2,r3⟩:=lohi q2 q3;refine fin _ ?_ (by simp) ?_ (j2h m a0 b0)
  ·intro w hw
   simp only [k2b,l2g,or_false]at hw;rcases hw with rfl | rfl
   ·exact r2
   ·rw [d0q r3.1 r3.2];exact r3
  ·rw [d0q r3.1 r3.2]
   simp only [wv];rw [show(a0+4294967296*0)*(b0+4294967296*0)=a0*b0 by simp];generalize a0*b0=P at*;omega
 | [a0], [b0,b1],_,_=>
  have h0:=ha a0 (by simp);have g0:=hb b0 (by simp);have g1:=hb b1 (by simp);obtain⟨q1,q2,q3⟩:=t0k (c:=0) (e:=0) (by omega) h0 g0 (by omega);obtain⟨r1,r2,r3⟩:=lohi q2 q3;obtain⟨s1,s2,s3⟩:=t0k (e:=0) r3 h0 g1 (by omega);obtain⟨u1,u2,u3⟩:=lohi s2 s3;refine fin _ ?_ (by simp) ?_ (i2z m a0 b0 b1)
  ·intro w hw
   simp only [k2b,l2g,or_false]at hw;rcases hw with rfl | rfl | rfl
   ·exact r2
   ·exact u2
   ·rw [d0q u3.1 u3.2];exact u3
  ·rw [d0q u3.1 u3.2]
   simp only [wv];rw [show(a0+4294967296*0)*(b0+4294967296*(b1+4294967296*0))=a0*b0+4294967296*(a0*b1)by simp [Int.mul_add,Int.mul_left_comm]];generalize a0*b0=P at*;generalize a0*b1=Q at*;omega
 | [a0,a1], [b0],_,_=>
  have h0:=ha a0 (by simp);have h1:=ha a1 (by simp);have g0:=hb b0 (by simp);obtain⟨q1,q2,q3⟩:=t0k (c:=0) (e:=0) (by omega) h0 g0 (by omega);obtain⟨r1,r2,r3⟩:=lohi q2 q3;have e1:=d0q r3.1 r3.2;obtain⟨s1,s2,s3⟩:=t0k (c:=0) (e:=hi (mS 0 a0 b0 0)) (by omega) h1 g0 r3;obtain⟨u1,u2,u3⟩:=lohi s2 s3;refine fin _ ?_ (by simp) ?_ (i2v m a0 a1 b0)
  ·intro w hw
   rw [e1]at hw;simp only [k2b,l2g,or_false]at hw;rcases hw with rfl | rfl | rfl
   ·exact r2
   ·exact u2
   ·rw [d0q u3.1 u3.2];exact u3
  ·rw [e1,d0q u3.1 u3.2]
   simp only [wv];rw [show(a0+4294967296*(a1+4294967296*0))*(b0+4294967296*0)=a0*b0+4294967296*(a1*b0)by simp [Int.add_mul,Int.mul_assoc]];generalize a0*b0=P at*;generalize a1*b0=Q at*;omega
 | [a0,a1], [b0,b1],_,_=>
  have h0:=ha a0 (by simp);have h1:=ha a1 (by simp);have g0:=hb b0 (by simp);have g1:=hb b1 (by simp);obtain⟨q1,q2,q3⟩:=t0k (c:=0) (e:=0) (by omega) h0 g0 (by omega);obtain⟨r1,r2,r3⟩:=lohi q2 q3;obtain⟨s1,s2,s3⟩:=t0k (e:=0) r3 h0 g1 (by omega);obtain⟨u1,u2,u3⟩:=lohi s2 s3;have e1:=d0q u3.1 u3.2;obtain⟨v1,v2,v3⟩:=t0k (c:=0) (by omega) h1 g0 u2;obtain⟨w1,w2,w3⟩:=lohi v2 v3;obtain⟨x1,x2,x3⟩:=t0k w3 h1 g1 u3;obtain⟨y1,y2,y3⟩:=lohi x2 x3;have e2:=d0q y3.1 y3.2;refine fin _ ?_ (by simp) ?_ (j2i m a0 a1 b0 b1)
  ·intro w hw
   rw [e1,e2]at hw;simp only [k2b,l2g,or_false]at hw;rcases hw with rfl | rfl | rfl | rfl
   ·exact r2
   ·exact w2
   ·exact y2
   ·exact y3
  ·rw [e1,e2]
   simp only [wv];rw [show(a0+4294967296*(a1+4294967296*0))*(b0+4294967296*(b1+4294967296*0))=a0*b0+4294967296*(a0*b1+a1*b0+4294967296*(a1*b1))by
    simp only [Int.mul_zero,Int.add_zero,Int.add_mul,Int.mul_add];rw [Int.mul_assoc 4294967296 a1 b0,Int.mul_left_comm a0 4294967296 b1,Int.mul_assoc 4294967296 a1 (4294967296*b1),Int.mul_left_comm a1 4294967296 b1];omega]
   generalize a0*b0=P at*;generalize a0*b1=Q at*;generalize a1*b0=R at*;generalize a1*b1=S at*;omega
 | _::_::_::_,_,h,_=>simp at h
 | _,_::_::_::_,_,h=>simp at h
theorem v1y(a b:Int)(ha:0≤a∧a<4294967296)(hb:0≤b∧b<4294967296):bor .u64 (IntKind.wrap .u64 a) (bshl .u64 (IntKind.wrap .u64 b) 32)=a+4294967296*b:=by
 obtain⟨x,rfl⟩: ∃x:Nat,a=x:=⟨a.toNat,by omega⟩;obtain⟨y,rfl⟩: ∃y:Nat,b=y:=⟨b.toNat,by omega⟩;rw [b0u ha.1 (by omega),b0u hb.1 (by omega)];have e1:bshl .u64 (y:Int) 32=((y*4294967296:Nat):Int):=by
  unfold bshl;rw [show(2:Int) ^ (min (32:Int).toNat IntKind.u64.bits)=4294967296 from rfl,b0u (by omega) (by omega)]
  omega
 rw [e1];unfold bor;show IntKind.wrap .u64 (((BitVec.ofInt 64 ((x:Nat):Int) ||| BitVec.ofInt 64 ((y*4294967296:Nat):Int):BitVec 64)).toNat:Int)=_
 rw [BitVec.toNat_or,BitVec.ofInt_natCast,BitVec.ofInt_natCast,BitVec.toNat_ofNat,BitVec.toNat_ofNat,m2s (by omega),m2s (by omega)];have e3:x ||| y*4294967296=y*4294967296+x:=by
  rw [Nat.or_comm,show y*4294967296=y<<<32 by rw [Nat.shiftLeft_eq], ←Nat.shiftLeft_add_eq_or_of_lt (by omega)]
 rw [e3,b0u (by omega) (by omega)];omega
theorem j0p: ∀{l:List Int},Wd l→0≤wv l
 | [],_=>Int.le_refl _
 | w::r,h=>by
  have h1:=h w (by simp);have h2:=j0p (l:=r) fun x hx=>h x (by simp [hx]);rw [wv];omega
def bv(s:Bool)(t:List Int):Int:=if s=true then - wv t else wv t
theorem f0f(n:Nat)(hn:10≤n)(x:Int)(h0: -9223372036854775808≤x)(h1:x≤9223372036854775807):
  ∃t,q37z n (x,())=some ((decide (x<0),t,()),())∧bv (decide (x<0)) t=x∧Wd t∧Nm t∧t.length≤2:=by
 have words: ∀u:Int,0≤u→u<18446744073709551616→∃t,q47z n (u,())=some (t,())∧wv t=u∧Wd t∧Nm t∧t.length≤2:=by
  intro u h0 h1;obtain⟨t,t1,t2,t3,k,t4⟩:=a1r n [IntKind.wrap .u32 u,IntKind.wrap .u32 (bshr .u64 u 32)] (by simp) (by simp;omega);refine⟨t, ?_, ?_, ?_,t3, ?_⟩
  ·unfold q47z
   dsimp only;rw [t1];rfl
  ·rw [t2]
   simp only [wv,wU32,p0l];omega
  ·rw [t4]
   refine Wd.take (fun w hw=> ?_) k;simp only [k2b,l2g,or_false,wU32,p0l]at hw;omega
  ·rw [t4,k2g]
   simp only [k2i,List.length_nil];omega
 cases hx:decide (x<0)with
 | true=>
  have hx' :=of_decide_eq_true hx;obtain⟨t,t1,t2,t3,t4,t5⟩:=words (-x) (by omega) (by omega);have e:IntKind.wrap .u64 (0 - IntKind.wrap .u64 x)= -x:=by rw [wU64,wU64];omega
  refine⟨t, ?_, ?_,t3,t4,t5⟩
  ·unfold q37z q9z
   dsimp only;rw [hx,cond_true,e,t1,j2r];unfold q25z;dsimp only;have:decide ((t.length:Int) >0)=true:=by
    rw [decide_eq_true_eq];cases t with
    | nil=>simp [wv]at t2<;>omega
    | cons a r=>simp
   rw [this];rfl
  ·unfold bv
   rw [if_pos rfl,t2];omega
 | false=>
  have hx' :=of_decide_eq_false hx;obtain⟨t,t1,t2,t3,t4,t5⟩:=words x (by omega) (by omega);have e:IntKind.wrap .u64 x=x:=by rw [wU64];omega
  refine⟨t, ?_, ?_,t3,t4,t5⟩
  ·unfold q37z q9z
   dsimp only;rw [hx,cond_false,e,t1,j2r];rfl
  ·unfold bv
   rw [if_neg (by simp),t2]
theorem shr1(x:Int):bshr .u32 x 1=x / 2:=by
 unfold bshr;rw [show(2:Int) ^ (min (1:Int).toNat IntKind.u32.bits)=2 from rfl,m2j _ (by omega)]
theorem v1n(n:Nat)(v3:List Int)(K:List Int×Int×Unit→Option Y10)(kr:Unit→Option Y10): ∀(k fuel:Nat) (c x:Int),0≤x→x<2 ^ k→k≤40→k<fuel→0≤c→c+k≤1000→
  ∃b:Nat,b≤k∧(∀j:Nat,b≤j↔x<2 ^ j)∧a0a (fun rc=>l0z n rc K kr) fuel (v3,c,x,())=K (v3,c+b,()):=by
 intro k
 induction k with
 | zero=>
  intro fuel c x h0 h1 hk hf hc hc2;obtain⟨f,rfl⟩: ∃f,fuel=f+1:=⟨fuel - 1,by omega⟩;have hx:x=0:=by simp at h1;omega
  refine⟨0,k2h _,fun j=>⟨fun _=>by rw [hx];exact Int.pow_pos (by omega),fun _=>k2o _⟩, ?_⟩;rw [a0a];unfold l0z;dsimp only;rw [hx,show((0:Int) !=0)=false from rfl,cond_false]
  simp
 | succ k ih=>
  intro fuel c x h0 h1 hk hf hc hc2;obtain⟨f,rfl⟩: ∃f,fuel=f+1:=⟨fuel - 1,by omega⟩;by_cases hx:x=0
  ·refine⟨0,by omega,fun j=>⟨fun _=>by rw [hx];exact Int.pow_pos (by omega),fun _=>k2o _⟩, ?_⟩
   rw [a0a];unfold l0z;dsimp only;rw [hx,show((0:Int) !=0)=false from rfl,cond_false]
   simp
  ·have h2:x / 2<2 ^ k:=by rw [Int.pow_succ]at h1;omega
   obtain⟨b,b1,b2,b3⟩:=ih f (c+1) (x / 2) (by omega) h2 (by omega) (by omega) (by omega) (by omega);refine⟨b+1,by omega,fun j=> ?_, ?_⟩
   ·cases j with
    | zero=>simp;omega
    | succ j=>
     rw [Int.pow_succ];have:=b2 j;constructor
     ·intro h;have:=this.1 (by omega);omega
     ·intro h;have:=this.2 (by omega);omega
   ·rw [a0a]
    generalize hR:a0a _ f=R;unfold l0z;dsimp only;rw [show(x !=0)=true by simpa using hx,cond_true,shr1,a0h (by omega) (by omega), ←hR];refine b3.trans ?_;rw [show c+1+(b:Int)=c+((b+1:Nat):Int)by omega]
theorem j0k(n:Nat)(hn:60≤n)(r:List Int)(w:Int)(hw:0<w∧w<4294967296)(hl:r.length≤10):
  ∃b:Nat,1≤b∧b≤32∧(b≤31↔w<2147483648)∧q38z n (r++ [w],())=some (32*(r.length:Int)+b,()):=by
 obtain⟨b,b1,b2,b3⟩:=v1n n (r++ [w]) (fun(v6,v7,_)=>some (IntKind.wrap .i64 ((IntKind.wrap .i64 ((IntKind.wrap .i64 ((v6.length:Int) - 1))*32))+v7),())) (fun _=>none) 32 n 0 w (by omega) (by simpa using hw.2) (by omega) (by omega) (by omega) (by omega);have hb:1≤b:=by
  rcases Nat.eq_zero_or_pos b with h | h
  ·have:=(b2 0).1 (by omega);simp at this;omega
  ·exact h
 refine⟨b,hb,b1,by simpa using b2 31, ?_⟩;unfold q38z;dsimp only;rw [j2y,k2u,show(((r.length+1:Nat):Int)==0)=false by simp;omega,cond_false,
  a0h (by omega) (by omega),show((r.length+1:Nat):Int) - 1=(r.length:Int)by omega,a0k (show(r++ [w])[r.length]? =some w by simp),j2r]
 refine b3.trans ?_;dsimp only;rw [j2y,k2u,show((r.length+1:Nat):Int) - 1=(r.length:Int)by omega,a0h (x:=(r.length:Int)) (by omega) (by omega),a0h (x:=(r.length:Int)*32) (by omega) (by omega),a0h (by omega) (by omega)];congr 2;omega
theorem w1c(w0 w1:Int)(h0:0≤w0∧w0<4294967296)(h1:0≤w1∧w1<4294967296)(i:Nat)(hi:i<64):
  q63z ([w0,w1],(i:Int),())=some ((bif Nat.blt i 32 then w0 / 2 ^ i else w1 / 2 ^ (i - 32))%2,()):=by
 have and1: ∀y:Int,0≤y→y<4294967296→band .u64 (IntKind.wrap .u64 y) 1=y%2:=by
  intro y g0 g1;obtain⟨z,rfl⟩: ∃z:Nat,y=z:=⟨y.toNat,by omega⟩;rw [b0u g0 (by omega)];unfold band;show IntKind.wrap .u64 (((BitVec.ofInt 64 ((z:Nat):Int) &&&BitVec.ofInt 64 ((1:Nat):Int):BitVec 64)).toNat:Int)=_;rw [BitVec.toNat_and,BitVec.ofInt_natCast,BitVec.ofInt_natCast,BitVec.toNat_ofNat,BitVec.toNat_ofNat,m2s (by omega),m2s (by omega),Nat.and_one_is_mod,b0u (by omega) (by omega)];omega
 have sh: ∀(x:Int) (q:Nat),0≤x→x<4294967296→q<32→bshr .u32 x (q:Int)=x / 2 ^ q∧0≤x / 2 ^ q∧x / 2 ^ q<4294967296:=by
  intro x q g0 g1 g2;have hp:(0:Int)<2 ^ q:=Int.pow_pos (by omega);refine⟨?_,Int.ediv_nonneg g0 (by omega), ?_⟩
  ·unfold bshr
   rw [show min ((q:Int)).toNat IntKind.u32.bits=q by simp [IntKind.bits];omega,m2j _ (by omega)]
  ·have:=Int.ediv_le_self (2 ^ q) g0
   omega
 unfold q63z;dsimp only;have e1:bquo .i64 (i:Int) 32=((i / 32:Nat):Int):=by
  unfold bquo;rw [Int.tdiv_eq_ediv_of_nonneg (by omega),a0h (by omega) (by omega)];omega
 have e2:brem .u64 (IntKind.wrap .u64 (i:Int)) 32=((i%32:Nat):Int):=by
  unfold brem;rw [b0u (by omega) (by omega),Int.tmod_eq_emod_of_nonneg (by omega)];omega
 rw [e1,e2,decide_eq_false (show ¬((i:Int)<0)by omega),decide_eq_false (show ¬(((i / 32:Nat):Int) ≥(([w0,w1]:List Int).length:Int))by simp;omega),Bool.or_self,cond_false];have e3:d1d ((i%32:Nat):Int)=some ((i%32:Nat):Int):=by unfold d1d;rw [if_pos (by omega)]
 cases hb:Nat.blt i 32 with
 | true=>
  have hlt:=a0j hb;rw [a0k (show([w0,w1]:List Int)[i / 32]? =some w0 by rw [show i / 32=0 by omega];rfl),j2r,e3,j2r];obtain⟨s1,s2,s3⟩:=sh w0 (i%32) h0.1 h0.2 (by omega);rw [s1,and1 _ s2 s3,cond_true,show i%32=i by omega]
 | false=>
  have hge:32≤i:=by
   rcases m2q i 32 with h | h
   ·rw [show Nat.blt i 32=true from k2k h]at hb;cases hb
   ·exact h
  rw [a0k (show([w0,w1]:List Int)[i / 32]? =some w1 by rw [show i / 32=1 by omega];rfl),j2r,e3,j2r];obtain⟨s1,s2,s3⟩:=sh w1 (i%32) h1.1 h1.2 (by omega);rw [s1,and1 _ s2 s3,cond_false,show i%32=i - 32 by omega]
theorem c1k: ∀(k:Nat) (x:Int),0<x→x<2 ^ k→∃j,j<k∧x / 2 ^ j%2=1
 | 0,x,h0,h1=>by simp at h1;omega
 | k+1,x,h0,h1=>by
  by_cases hx:x%2=1
  ·exact⟨0,by omega,by simpa using hx⟩
  ·rw [Int.pow_succ]at h1
   obtain⟨j,j1,j2⟩:=c1k k (x / 2) (by omega) (by omega);refine⟨j+1,by omega, ?_⟩;rw [Int.pow_succ,Int.mul_comm, ←Int.ediv_ediv_of_nonneg (by omega)];exact j2
theorem y1l(n:Nat)(s:Bool)(w0 w1:Int)(h0:0≤w0∧w0<4294967296)(h1:0≤w1∧w1<4294967296)(j:Nat)(hj:j<64)(hb:(bif Nat.blt j 32 then w0 / 2 ^ j else w1 / 2 ^ (j - 32))%2=1)
  (K:Int×(Bool×List Int×Unit)×Unit→Option (Int×(Bool×List Int×Unit)×Unit))(kr:Unit→Option (Int×(Bool×List Int×Unit)×Unit)):
  ∀(d fuel i:Nat),i+d=j→d<fuel→∃k:Nat,k≤j∧a0a (fun rc=>r0b n rc K kr) fuel ((i:Int),(s, [w0,w1],()),())=K ((k:Int),(s, [w0,w1],()),()):=by
 intro d
 induction d with
 | zero=>
  intro fuel i hi hf;obtain⟨f,rfl⟩: ∃f,fuel=f+1:=⟨fuel - 1,by omega⟩;refine⟨i,by omega, ?_⟩;have:i=j:=by omega
  subst this;rw [a0a];unfold r0b;dsimp only;rw [a0h (by omega) (by omega),w1c w0 w1 h0 h1 i hj,j2r];dsimp only;rw [hb];rfl
 | succ d ih=>
  intro fuel i hi hf;obtain⟨f,rfl⟩: ∃f,fuel=f+1:=⟨fuel - 1,by omega⟩;rw [a0a];obtain⟨k,k1,k2⟩:=ih f (i+1) (by omega) (by omega);generalize a0a (fun rc=>r0b n rc K kr) f=R at k2⊢;unfold r0b;dsimp only;rw [a0h (by omega) (by omega),w1c w0 w1 h0 h1 i (by omega),j2r];dsimp only;cases hz:(bif Nat.blt i 32 then w0 / 2 ^ i else w1 / 2 ^ (i - 32))%2==0 with
  | true=>
   refine⟨k,k1, ?_⟩;rw [cond_true,b0u (by omega) (by omega),show(i:Int)+1=((i+1:Nat):Int)by omega];exact k2
  | false=>exact⟨i,by omega,by rw [cond_false]⟩
theorem c2d(m:Nat):q4z (m+70) ((true, [0,2147483648],()),())=some (63,(true, [0,2147483648],()),()):=by kernel_rfl
theorem j2o(n:Nat)(hn:100≤n)(w0 w1:Int)(h0:0≤w0∧w0<4294967296)(h1:2147483648≤w1∧w1<4294967296):
  ∃k:Int,(k==63)=(decide (w0=0)&&decide (w1=2147483648))∧q4z n ((true, [w0,w1],()),())=some (k,(true, [w0,w1],()),()):=by
 by_cases ht:w0=0∧w1=2147483648
 ·obtain⟨rfl,rfl⟩:=ht
  obtain⟨m,rfl⟩: ∃m,n=m+70:=⟨n - 70,by omega⟩;exact⟨63,by simp,c2d m⟩
 ·have hj: ∃j:Nat,j<63∧(bif Nat.blt j 32 then w0 / 2 ^ j else w1 / 2 ^ (j - 32))%2=1:=by
   by_cases hw:w0=0
   ·have hw1:w1≠2147483648:=fun h=>ht ⟨hw,h⟩
    obtain⟨j,j1,j2⟩:=c1k 31 (w1 - 2147483648) (by omega) (by have:(2:Int) ^ 31=2147483648:=rfl;omega);refine⟨j+32,by omega, ?_⟩;have hb:Nat.blt (j+32) 32=false:=by
     cases h:Nat.blt (j+32) 32 with
     | false=>rfl
     | true=>have:=a0j h;omega
    rw [hb,cond_false,Nat.add_sub_cancel];have e:w1=(w1 - 2147483648)+2 ^ (31 - j)*2 ^ j:=by rw [←Int.pow_add,show 31 - j+j=31 by omega];omega
    have hp:(0:Int)<2 ^ j:=Int.pow_pos (by omega);rw [e,Int.add_mul_ediv_right _ _ (by omega),show 31 - j=(30 - j)+1 by omega,Int.pow_succ];omega
   ·obtain⟨j,j1,j2⟩:=c1k 32 w0 (by omega) (by have:(2:Int) ^ 32=4294967296:=rfl;omega)
    refine⟨j,by omega, ?_⟩;rw [show Nat.blt j 32=true from k2k (by omega),cond_true]
    exact j2
  obtain⟨j,j1,j2⟩:=hj;obtain⟨k,k1,k2⟩:=y1l n true w0 w1 h0 (by omega) j (by omega) j2 (fun(v5,o6,_)=>some (v5,(o6.1,o6.2.1,()),())) (fun _=>none) j n 0 (by omega) (by omega);refine⟨(k:Int), ?_, ?_⟩
  ·rw [show((k:Int)==63)=false by simp;omega]
   have: ¬(w0=0∧w1=2147483648):=ht;cases hd:decide (w0=0)with
   | false=>rfl
   | true=>
    rw [l2e];exact(decide_eq_false fun h=>this ⟨of_decide_eq_true hd,h⟩).symm
  ·unfold q4z
   dsimp only;rw [show((([w0,w1]:List Int).length:Int)==0)=false from rfl,cond_false]
   exact k2
def inG(x:Int):Bool:=decide (-9223372036854775808≤x)&&decide (x≤9223372036854775807)
theorem h2t{x:Int}(h0: -9223372036854775808≤x)(h1:x≤9223372036854775807):inG x=true:=by
 unfold inG;rw [decide_eq_true h0,decide_eq_true h1];rfl
theorem s1m{x:Int}(h: ¬(-9223372036854775808≤x∧x≤9223372036854775807)):inG x=false:=by
 unfold inG;rw [m2l,decide_eq_false_iff_not,decide_eq_false_iff_not];omega
theorem t0g(n:Nat)(hn:100≤n)(s:Bool)(t:List Int)(ht:Wd t)(hm:Nm t)(hl:t.length≤4):q10z n ((s,t,()),())=some (inG (bv s t),(s,t,()),()):=by
 have top: ∀(r:List Int) (w:Int),t=r++ [w]→0<w∧w<4294967296:=fun r w e=>by
  have h1:=ht w (by rw [e];simp);have h2:=hm w (by rw [e];simp);omega
 unfold q10z;dsimp only
 match t,ht,hm,hl,top with
 | [],_,_,_,_=>
  rw [show inG (bv s [])=true by cases s<;>rfl];rfl
 | [w],ht,_,_,top=>
  have hw:=top [] w rfl;obtain⟨b,b1,b2,b3,b4⟩:=j0k n (by omega) [] w hw (by simp);rw [show([w]:List Int)= []++ [w]from rfl,b4,j2r]
  dsimp only;rw [decide_eq_true (show 32*(([]:List Int).length:Int)+(b:Int)<64 by simp;omega),cond_true];rw [h2t (by unfold bv;cases s<;>simp [wv]<;>omega) (by unfold bv;cases s<;>simp [wv]<;>omega)]
 | [w0,w],ht,_,_,top=>
  have hw:=top [w0] w rfl;have h0:=ht w0 (by simp);obtain⟨b,b1,b2,b3,b4⟩:=j0k n (by omega) [w0] w hw (by simp);rw [show([w0,w]:List Int)= [w0]++ [w]from rfl,b4,j2r]
  dsimp only;have e:bv s ([w0]++ [w])=if s=true then -(w0+4294967296*w)else w0+4294967296*w:=by
   unfold bv;simp [wv]
  by_cases hb:b≤31
  ·have:=b3.1 hb
   rw [decide_eq_true (show 32*(([w0]:List Int).length:Int)+(b:Int)<64 by simp;omega),cond_true];rw [h2t (by rw [e];cases s<;>simp<;>omega) (by rw [e];cases s<;>simp<;>omega)]
  ·have hge: ¬w<2147483648:=fun h=>hb (b3.2 h)
   rw [decide_eq_false (show ¬(32*(([w0]:List Int).length:Int)+(b:Int)<64)by simp;omega),cond_false,
    show(32*(([w0]:List Int).length:Int)+(b:Int)==64)=true by simp;omega,l2e]
   cases s with
   | false=>
    rw [cond_false,s1m (by rw [e];simp;omega)]
   | true=>
    obtain⟨k,k1,k2⟩:=j2o n hn w0 w h0 (by omega);rw [cond_true,show q4z n ((true, [w0]++ [w],()),())=_ from k2,j2r]
    dsimp only;rw [k1];congr 2;rw [e];by_cases hx:w0=0∧w=2147483648
    ·obtain⟨rfl,rfl⟩:=hx
     rfl
    ·rw [s1m (by simp;omega)]
     cases hd:decide (w0=0)with
     | false=>rfl
     | true=>
      rw [l2e];exact decide_eq_false fun h=>hx ⟨of_decide_eq_true hd,h⟩
 | [w0,w1,w],ht,_,_,top=>
  have hw:=top [w0,w1] w rfl;have h0:=ht w0 (by simp);have h1:=ht w1 (by simp);obtain⟨b,b1,b2,b3,b4⟩:=j0k n (by omega) [w0,w1] w hw (by simp);rw [show([w0,w1,w]:List Int)= [w0,w1]++ [w]from rfl,b4,j2r]
  dsimp only;rw [decide_eq_false (show ¬(32*(([w0,w1]:List Int).length:Int)+(b:Int)<64)by simp;omega),cond_false,
      show(32*(([w0,w1]:List Int).length:Int)+(b:Int)==64)=false by simp;omega,l2z,cond_false]
  rw [s1m (by unfold bv;cases s<;>simp [wv]<;>omega)]
 | [w0,w1,w2,w],ht,_,_,top=>
  have hw:=top [w0,w1,w2] w rfl;have h0:=ht w0 (by simp);have h1:=ht w1 (by simp);have h2:=ht w2 (by simp);obtain⟨b,b1,b2,b3,b4⟩:=j0k n (by omega) [w0,w1,w2] w hw (by simp);rw [show([w0,w1,w2,w]:List Int)= [w0,w1,w2]++ [w]from rfl,b4,j2r]
  dsimp only;rw [decide_eq_false (show ¬(32*(([w0,w1,w2]:List Int).length:Int)+(b:Int)<64)by simp;omega),cond_false,
      show(32*(([w0,w1,w2]:List Int).length:Int)+(b:Int)==64)=false by simp;omega,l2z,cond_false]
  rw [s1m (by unfold bv;cases s<;>simp [wv]<;>omega)]
 | _::_::_::_::_::_,_,_,h,_=>simp at h
theorem s0k(s:Bool)(t:List Int)(ht:Wd t)(hm:Nm t)(hg:inG (bv s t)=true):q20z ((s,t,()),())=some (bv s t,(s,t,()),()):=by
 have hg' : -9223372036854775808≤bv s t∧bv s t≤9223372036854775807:=by
  unfold inG at hg;simpa using hg
 have hU:wv t<18446744073709551616∧0≤wv t:=by
  have h0:=j0p ht;unfold bv at hg';cases s<;>simp at hg' <;>omega
 have hu:q13z ((s,t,()),())=some (wv t,(s,t,()),()):=by
  unfold q13z;dsimp only
  match t,ht,hm,hU with
  | [],_,_,_=>rfl
  | [w],ht,_,_=>
   have h0:=ht w (by simp);have e:IntKind.wrap .u64 w=wv [w]:=by rw [b0u h0.1 (by omega)];simp [wv]
   rw [←e];rfl
  | [w0,w1],ht,_,_=>
   have h0:=ht w0 (by simp);have h1:=ht w1 (by simp);have e:bor .u64 (IntKind.wrap .u64 w0) (bshl .u64 (IntKind.wrap .u64 w1) 32)=wv [w0,w1]:=by rw [v1y w0 w1 h0 h1];simp [wv]
   rw [←e];rfl
  | w0::w1::w2::r,ht,hm,hU=>
   exfalso;have h0:=ht w0 (by simp);have h1:=ht w1 (by simp);have hr:0<wv (w2::r):=by
    have pos: ∀(l:List Int),Wd l→Nm l→l≠ []→0<wv l:=by
     intro l
     induction l with
     | nil=>intro _ _ h;exact absurd rfl h
     | cons a r ih=>
      intro h1 h2 _;have g:=h1 a (by simp);cases r with
      | nil=>
       have:=h2 a (by simp);simp [wv];omega
      | cons b q=>
       have:=ih (fun x hx=>h1 x (by simp [hx])) (fun w hw=>h2 w (by rw [List.getLast?_cons_cons];exact hw)) (by simp);rw [wv];omega
    exact pos _ (fun v hv=>ht v (by simp only [k2b]at hv⊢;exact .inr (.inr hv))) (fun w hw=>hm w (by rw [List.getLast?_cons_cons,List.getLast?_cons_cons];exact hw)) (by simp)
   rw [wv,wv]at hU;omega
 unfold q20z;dsimp only;rw [hu,j2r];dsimp only;unfold bv at hg' ⊢;cases s with
 | true=>
  rw [cond_true];simp only [if_true]at hg' ⊢;rw [IntKind.wrap_i64,IntKind.wrap_i64];congr 2;omega
 | false=>
  rw [cond_false];simp only [m2o,if_false]at hg' ⊢;rw [IntKind.wrap_i64];congr 2;omega
theorem x1t(n:Nat)(hn:100≤n)(x y:Int)(hx: -9223372036854775808≤x∧x≤9223372036854775807)(hy: -9223372036854775808≤y∧y≤9223372036854775807)(s1 s2:ByteArray)(l1 l2:List Val):
  q28z n (⟨#[42]⟩, .mk 2 x s1 l1, .mk 2 y s2 l2,())=bif inG (x*y)then some (.mk 2 (x*y) ⟨#[]⟩ [],0,())else some (.mk 0 0 ⟨#[]⟩ [],4,()):=by
 obtain⟨a,a1,a2,a3,a4,a5⟩:=f0f n (by omega) x hx.1 hx.2;obtain⟨b,b1,b2,b3,b4,b5⟩:=f0f n (by omega) y hy.1 hy.2;obtain⟨t,t1,t2,t3,t4,t5⟩:=m1q n (by omega) a b a3 b3 a5 b5;unfold q28z;dsimp+instances only [a0t,n_mk,s_mk,l_mk];have q1:seq (⟨#[42]⟩:ByteArray) (⟨#[43]⟩:ByteArray)=false:=by decide+kernel
 have q2:seq (⟨#[42]⟩:ByteArray) (⟨#[45]⟩:ByteArray)=false:=by decide+kernel
 have q3:seq (⟨#[42]⟩:ByteArray) (⟨#[42]⟩:ByteArray)=true:=by decide+kernel
 rw [q1,q2,q3];simp only [k2e,k2w,Bool.and_false,cond_false,show((2:Int)==0)=false from rfl,Bool.or_self,show((2:Int)==2)=true from rfl,Bool.and_self,cond_true]
 rw [a1,j2r,b1,j2r];unfold q30z;dsimp only;rw [t1,j2r];unfold q25z;dsimp only;rw [j2r,j2r];dsimp only;generalize hs:(!(decide (x<0)==decide (y<0))&&decide ((t.length:Int) >0))=s;have hv:bv s t=x*y:=by
  rw [←a2, ←b2, ←hs];unfold bv;cases t with
  | nil=>
   simp [wv]at t2;have:wv a=0∨wv b=0:=Int.mul_eq_zero.1 t2.symm;rcases this with h | h<;>simp [h,wv]
  | cons w r=>
   rw [show decide ((((w::r).length:Nat):Int) >0)=true by simp,m2m,t2];cases decide (x<0)<;>cases decide (y<0)<;>simp [Int.neg_mul,Int.mul_neg]
 rw [t0g n hn s t t3 t4 t5,hv,j2r];dsimp only;cases hg:inG (x*y)with
 | false=>rfl
 | true=>
  rw [show(!true)=false from rfl,cond_false,cond_true,s0k s t t3 t4 (by rw [hv];exact hg),j2r,hv]
end Pure
namespace Pure
open Esp Ev Go
set_option linter.unusedSimpArgs false
set_option linter.unusedVariables false
theorem i2x(m:Nat):q64z (m+9) ([], [],())=some (0,()):=by kernel_rfl
theorem j2g(m:Nat)(a0 b0:Int):q64z (m+9) ([a0], [b0],())=(bif (a0:Int) !=b0 then(bif decide ((a0:Int)<b0)then some (-1,())else some (1,()))else some (0,())):=by kernel_rfl
theorem i2k(m:Nat)(a0 a1 b0 b1:Int):q64z (m+9) ([a0,a1], [b0,b1],())=(bif (a1:Int) !=b1 then(bif decide ((a1:Int)<b1)then some (-1,())else some (1,()))else(bif (a0:Int) !=b0 then(bif decide ((a0:Int)<b0)then some (-1,())else some (1,()))else some (0,()))):=by kernel_rfl
theorem Nm.last{r:List Int}{w:Int}(h:Nm (r++ [w])):w≠0:=h w (by simp)
theorem r1l(n:Nat)(hn:20≤n)(a b:List Int)(ha:Wd a)(hb:Wd b)(na:Nm a)(nb:Nm b)(la:a.length≤2)(lb:b.length≤2):
  ∃c:Int,q64z n (a,b,())=some (c,())∧(decide (c≥0)=true→wv b≤wv a∧b.length≤a.length)∧(decide (c≥0)=false→wv a≤wv b∧a.length≤b.length):=by
 obtain⟨m,rfl⟩: ∃m,n=m+9:=⟨n - 9,by omega⟩
 match a,b,la,lb with
 | [], [],_,_=>exact⟨0,i2x m,by simp,by simp⟩
 | [],b0::r,_,_=>exact⟨-1,(by
   unfold q64z;dsimp only;rw [show((([]:List Int).length:Int) !=((b0::r).length:Int))=true by rw [bne_iff_ne];simp;omega,cond_true,decide_eq_true (show(([]:List Int).length:Int)< ((b0::r).length:Int)by simp<;>omega),cond_true]),by simp,fun _=>⟨by rw [wv];exact j0p hb,by simp⟩⟩
 | a0::r, [],_,_=>exact⟨1,(by
   unfold q64z;dsimp only;rw [show(((a0::r).length:Int) !=(([]:List Int).length:Int))=true by rw [bne_iff_ne];simp;omega,cond_true,decide_eq_false (show ¬(((a0::r).length:Int)< (([]:List Int).length:Int))by simp;omega),cond_false]),fun _=>⟨by rw [show wv []=0 from rfl];exact j0p ha,by simp⟩,by simp⟩
 | [a0], [b0],_,_=>
  rw [j2g];cases h1:a0 !=b0 with
  | false=>
   have:a0=b0:=by simpa using h1
   subst this;exact⟨0,rfl,by simp,by simp⟩
  | true=>
   rw [cond_true];cases h2:decide (a0<b0)with
   | true=>exact⟨-1,rfl,by simp,fun _=>⟨by have:=of_decide_eq_true h2;simp [wv];omega,by simp⟩⟩
   | false=>exact⟨1,rfl,fun _=>⟨by have:=of_decide_eq_false h2;simp [wv];omega,by simp⟩,by simp⟩
 | [a0], [b0,b1],_,_=>
  have h0:=ha a0 (by simp);have g0:=hb b0 (by simp);have g1:=hb b1 (by simp);have g2:b1≠0:=Nm.last (r:= [b0]) nb;exact⟨-1,by unfold q64z;simp,by simp,fun _=>⟨by simp [wv];omega,by simp⟩⟩
 | [a0,a1], [b0],_,_=>
  have h0:=ha a0 (by simp);have h1:=ha a1 (by simp);have g0:=hb b0 (by simp);have g2:a1≠0:=Nm.last (r:= [a0]) na;exact⟨1,by unfold q64z;simp,fun _=>⟨by simp [wv];omega,by simp⟩,by simp⟩
 | [a0,a1], [b0,b1],_,_=>
  have h0:=ha a0 (by simp);have h1:=ha a1 (by simp);have g0:=hb b0 (by simp);have g1:=hb b1 (by simp);rw [i2k];cases e1:a1 !=b1 with
  | true=>
   have e1' :a1≠b1:=by simpa using e1
   rw [cond_true];cases h2:decide (a1<b1)with
   | true=>exact⟨-1,rfl,by simp,fun _=>⟨by have:=of_decide_eq_true h2;simp [wv];omega,by simp⟩⟩
   | false=>exact⟨1,rfl,fun _=>⟨by have:=of_decide_eq_false h2;simp [wv];omega,by simp⟩,by simp⟩
  | false=>
   have e1' :a1=b1:=by simpa using e1
   rw [cond_false];cases e0:a0 !=b0 with
   | false=>
    have:a0=b0:=by simpa using e0
    subst this;subst e1';exact⟨0,rfl,by simp,by simp⟩
   | true=>
    rw [cond_true];cases h2:decide (a0<b0)with
    | true=>exact⟨-1,rfl,by simp,fun _=>⟨by have:=of_decide_eq_true h2;simp [wv];omega,by simp⟩⟩
    | false=>exact⟨1,rfl,fun _=>⟨by have:=of_decide_eq_false h2;simp [wv];omega,by simp⟩,by simp⟩
 | _::_::_::_,_,h,_=>simp at h
 | _,_::_::_::_,_,h=>simp at h
def a1S(c x:Int):Int:=IntKind.wrap .u64 (c+(IntKind.wrap .u64 x))
def a2S(c x y:Int):Int:=IntKind.wrap .u64 ((IntKind.wrap .u64 (c+(IntKind.wrap .u64 x)))+(IntKind.wrap .u64 y))
noncomputable abbrev f0x(m:Nat)(l:List Int):Option (List Int×Unit):=(q57z (m+9) (l,())).bind fun(y29,_)=>some (y29,())
theorem j2n(m:Nat):q62z (m+9) ([], [],())=f0x m [lo 0]:=by kernel_rfl
theorem j2c(m:Nat)(a0:Int):q62z (m+9) ([a0], [],())=f0x m [lo (a1S 0 a0),lo (hi (a1S 0 a0))]:=by kernel_rfl
theorem i2f(m:Nat)(a0:Int):q62z (m+9) ([], [a0],())=f0x m [lo (a1S 0 a0),lo (hi (a1S 0 a0))]:=by kernel_rfl
theorem i2o(m:Nat)(a0 b0:Int):q62z (m+9) ([a0], [b0],())=f0x m [lo (a2S 0 a0 b0),lo (hi (a2S 0 a0 b0))]:=by kernel_rfl
theorem i2w(m:Nat)(a0 a1:Int):q62z (m+9) ([a0,a1], [],())=f0x m [lo (a1S 0 a0),lo (a1S (hi (a1S 0 a0)) a1),lo (hi (a1S (hi (a1S 0 a0)) a1))]:=by kernel_rfl
theorem i2t(m:Nat)(a0 a1:Int):q62z (m+9) ([], [a0,a1],())=f0x m [lo (a1S 0 a0),lo (a1S (hi (a1S 0 a0)) a1),lo (hi (a1S (hi (a1S 0 a0)) a1))]:=by kernel_rfl
theorem i2b(m:Nat)(a0 a1 b0:Int):q62z (m+9) ([a0,a1], [b0],())=f0x m [lo (a2S 0 a0 b0),lo (a1S (hi (a2S 0 a0 b0)) a1),lo (hi (a1S (hi (a2S 0 a0 b0)) a1))]:=by kernel_rfl
theorem j2a(m:Nat)(a0 a1 b0:Int):q62z (m+9) ([b0], [a0,a1],())=f0x m [lo (a2S 0 a0 b0),lo (a1S (hi (a2S 0 a0 b0)) a1),lo (hi (a1S (hi (a2S 0 a0 b0)) a1))]:=by kernel_rfl
theorem j2b(m:Nat)(a0 a1 b0 b1:Int):q62z (m+9) ([a0,a1], [b0,b1],())=f0x m [lo (a2S 0 a0 b0),lo (a2S (hi (a2S 0 a0 b0)) a1 b1),lo (hi (a2S (hi (a2S 0 a0 b0)) a1 b1))]:=by kernel_rfl
theorem g1c(m:Nat)(l:List Int)(hw:Wd l)(hl:l.length≤3): ∃t,f0x m l=some (t,())∧wv t=wv l∧Wd t∧Nm t∧t.length≤l.length:=by
 obtain⟨t,t1,t2,t3,k,t4⟩:=a1r (m+9) l (by omega) (by omega);refine⟨t,by unfold f0x;rw [t1];rfl,t2,by rw [t4];exact hw.take k,t3, ?_⟩;rw [t4,k2g];omega
theorem q1u(n:Nat)(hn:20≤n)(a b:List Int)(ha:Wd a)(hb:Wd b)(la:a.length≤2)(lb:b.length≤2):
  ∃t,q62z n (a,b,())=some (t,())∧wv t=wv a+wv b∧Wd t∧Nm t∧t.length≤3:=by
 obtain⟨m,rfl⟩: ∃m,n=m+9:=⟨n - 9,by omega⟩;have fin: ∀l:List Int,Wd l→l.length≤3→wv l=wv a+wv b→q62z (m+9) (a,b,())=f0x m l→
   ∃t,q62z (m+9) (a,b,())=some (t,())∧wv t=wv a+wv b∧Wd t∧Nm t∧t.length≤3:=by
  intro l h1 h2 h3 h4;obtain⟨t,t1,t2,t3,t4,t5⟩:=g1c m l h1 h2;exact⟨t,by rw [h4,t1],by rw [t2,h3],t3,t4,by omega⟩
 have wd: ∀{l:List Int},(∀w∈l,∃x,w=lo x)→Wd l:=fun h w hw=>by
  obtain⟨x,rfl⟩:=h w hw;unfold lo;rw [wU32];omega
 match a,b,la,lb with
 | [], [],_,_=>exact fin _ (wd (fun w hw=>by simp only [k2b,l2g,or_false]at hw;rcases hw with rfl | rfl | rfl<;>exact⟨_,rfl⟩)) (by simp) (by simp [wv,lo];rfl) (j2n m)
 | [a0], [],_,_=>
  have h0:=ha a0 (by simp);exact fin _ (wd (fun w hw=>by simp only [k2b,l2g,or_false]at hw;rcases hw with rfl | rfl | rfl<;>exact⟨_,rfl⟩)) (by simp) (by simp only [wv,lo,hi,a1S,wU32,wU64,p0l];omega) (j2c m a0)
 | [], [a0],_,_=>
  have h0:=hb a0 (by simp);exact fin _ (wd (fun w hw=>by simp only [k2b,l2g,or_false]at hw;rcases hw with rfl | rfl | rfl<;>exact⟨_,rfl⟩)) (by simp) (by simp only [wv,lo,hi,a1S,wU32,wU64,p0l];omega) (i2f m a0)
 | [a0], [b0],_,_=>
  have h0:=ha a0 (by simp);have g0:=hb b0 (by simp);exact fin _ (wd (fun w hw=>by simp only [k2b,l2g,or_false]at hw;rcases hw with rfl | rfl | rfl<;>exact⟨_,rfl⟩)) (by simp) (by simp only [wv,lo,hi,a2S,wU32,wU64,p0l];omega) (i2o m a0 b0)
 | [a0,a1], [],_,_=>
  have h0:=ha a0 (by simp);have h1:=ha a1 (by simp);exact fin _ (wd (fun w hw=>by simp only [k2b,l2g,or_false]at hw;rcases hw with rfl | rfl | rfl<;>exact⟨_,rfl⟩)) (by simp) (by simp only [wv,lo,hi,a1S,wU32,wU64,p0l];omega) (i2w m a0 a1)
 | [], [a0,a1],_,_=>
  have h0:=hb a0 (by simp);have h1:=hb a1 (by simp);exact fin _ (wd (fun w hw=>by simp only [k2b,l2g,or_false]at hw;rcases hw with rfl | rfl | rfl<;>exact⟨_,rfl⟩)) (by simp) (by simp only [wv,lo,hi,a1S,wU32,wU64,p0l];omega) (i2t m a0 a1)
 | [a0,a1], [b0],_,_=>
  have h0:=ha a0 (by simp);have h1:=ha a1 (by simp);have g0:=hb b0 (by simp);exact fin _ (wd (fun w hw=>by simp only [k2b,l2g,or_false]at hw;rcases hw with rfl | rfl | rfl<;>exact⟨_,rfl⟩)) (by simp) (by simp only [wv,lo,hi,a1S,a2S,wU32,wU64,p0l];omega) (i2b m a0 a1 b0)
 | [b0], [a0,a1],_,_=>
  have h0:=hb a0 (by simp);have h1:=hb a1 (by simp);have g0:=ha b0 (by simp);exact fin _ (wd (fun w hw=>by simp only [k2b,l2g,or_false]at hw;rcases hw with rfl | rfl | rfl<;>exact⟨_,rfl⟩)) (by simp) (by simp only [wv,lo,hi,a1S,a2S,wU32,wU64,p0l];omega) (j2a m a0 a1 b0)
 | [a0,a1], [b0,b1],_,_=>
  have h0:=ha a0 (by simp);have h1:=ha a1 (by simp);have g0:=hb b0 (by simp);have g1:=hb b1 (by simp);exact fin _ (wd (fun w hw=>by simp only [k2b,l2g,or_false]at hw;rcases hw with rfl | rfl | rfl<;>exact⟨_,rfl⟩)) (by simp) (by simp only [wv,lo,hi,a2S,wU32,wU64,p0l];omega) (j2b m a0 a1 b0 b1)
 | _::_::_::_,_,h,_=>simp at h
 | _,_::_::_::_,_,h=>simp at h
def s1S(c x:Int):Int:=IntKind.wrap .u64 ((IntKind.wrap .u64 x) - c)
def s2S(c x y:Int):Int:=IntKind.wrap .u64 ((IntKind.wrap .u64 ((IntKind.wrap .u64 x) - c)) - (IntKind.wrap .u64 y))
def bo(t:Int):Int:=bshr .u64 t 63
theorem i2j(m:Nat):q66z (m+9) ([], [],())=f0x m []:=by kernel_rfl
theorem i2i(m:Nat)(a0:Int):q66z (m+9) ([a0], [],())=f0x m [lo (s1S 0 a0)]:=by kernel_rfl
theorem i2m(m:Nat)(a0 b0:Int):q66z (m+9) ([a0], [b0],())=f0x m [lo (s2S 0 a0 b0)]:=by kernel_rfl
theorem h2z(m:Nat)(a0 a1:Int):q66z (m+9) ([a0,a1], [],())=f0x m [lo (s1S 0 a0),lo (s1S (bo (s1S 0 a0)) a1)]:=by kernel_rfl
theorem h2x(m:Nat)(a0 a1 b0:Int):q66z (m+9) ([a0,a1], [b0],())=f0x m [lo (s2S 0 a0 b0),lo (s1S (bo (s2S 0 a0 b0)) a1)]:=by kernel_rfl
theorem i2e(m:Nat)(a0 a1 b0 b1:Int):q66z (m+9) ([a0,a1], [b0,b1],())=f0x m [lo (s2S 0 a0 b0),lo (s2S (bo (s2S 0 a0 b0)) a1 b1)]:=by kernel_rfl
theorem z1y{c x y:Int}(hc:0≤c∧c≤1)(hx:0≤x∧x<4294967296)(hy:0≤y∧y<4294967296):lo (s2S c x y)=x - c - y+4294967296*bo (s2S c x y)∧(0≤bo (s2S c x y)∧bo (s2S c x y)≤1)∧0≤lo (s2S c x y)∧lo (s2S c x y)<4294967296:=by
 have e:s2S c x y=(x - c - y)%18446744073709551616:=by
  unfold s2S;rw [wU64,wU64,wU64,wU64];omega
 rw [e];unfold lo bo;rw [wU32,f2b];omega
theorem z1q{c x:Int}(hc:0≤c∧c≤1)(hx:0≤x∧x<4294967296):lo (s1S c x)=x - c+4294967296*bo (s1S c x)∧(0≤bo (s1S c x)∧bo (s1S c x)≤1)∧0≤lo (s1S c x)∧lo (s1S c x)<4294967296:=by
 have e:s1S c x=(x - c)%18446744073709551616:=by
  unfold s1S;rw [wU64,wU64];omega
 rw [e];unfold lo bo;rw [wU32,f2b];omega
theorem v0p(n:Nat)(hn:20≤n)(a b:List Int)(ha:Wd a)(hb:Wd b)(la:a.length≤2)(lb:b.length≤a.length)(hge:wv b≤wv a):
  ∃t,q66z n (a,b,())=some (t,())∧wv t=wv a - wv b∧Wd t∧Nm t∧t.length≤3:=by
 obtain⟨m,rfl⟩: ∃m,n=m+9:=⟨n - 9,by omega⟩;have fin: ∀l:List Int,Wd l→l.length≤3→wv l=wv a - wv b→q66z (m+9) (a,b,())=f0x m l→
   ∃t,q66z (m+9) (a,b,())=some (t,())∧wv t=wv a - wv b∧Wd t∧Nm t∧t.length≤3:=by
  intro l h1 h2 h3 h4;obtain⟨t,t1,t2,t3,t4,t5⟩:=g1c m l h1 h2;exact⟨t,by rw [h4,t1],by rw [t2,h3],t3,t4,by omega⟩
 have wd: ∀{l:List Int},(∀w∈l,∃x,w=lo x)→Wd l:=fun h w hw=>by
  obtain⟨x,rfl⟩:=h w hw;unfold lo;rw [wU32];omega
 match a,b,la,lb,hge with
 | [], [],_,_,_=>exact fin _ (fun w h=>by cases h) (by simp) (by simp [wv]) (i2j m)
 | [a0], [],_,_,_=>
  have h0:=ha a0 (by simp);exact fin _ (wd (fun w hw=>by simp only [k2b,l2g,or_false]at hw;rcases hw with rfl | rfl | rfl<;>exact⟨_,rfl⟩)) (by simp) (by simp only [wv,lo,s1S,wU32,wU64];omega) (i2i m a0)
 | [a0], [b0],_,_,hge=>
  have h0:=ha a0 (by simp);have g0:=hb b0 (by simp);simp only [wv]at hge;exact fin _ (wd (fun w hw=>by simp only [k2b,l2g,or_false]at hw;rcases hw with rfl | rfl | rfl<;>exact⟨_,rfl⟩)) (by simp) (by simp only [wv,lo,s2S,wU32,wU64];omega) (i2m m a0 b0)
 | [a0,a1], [],_,_,_=>
  have h0:=ha a0 (by simp);have h1:=ha a1 (by simp);exact fin _ (wd (fun w hw=>by simp only [k2b,l2g,or_false]at hw;rcases hw with rfl | rfl | rfl<;>exact⟨_,rfl⟩)) (by simp) (by
   have q0:=z1q (c:=0) (by omega) h0;have q1:=z1q q0.2.1 h1;simp only [wv];omega) (h2z m a0 a1)
 | [a0,a1], [b0],_,_,hge=>
  have h0:=ha a0 (by simp);have h1:=ha a1 (by simp);have g0:=hb b0 (by simp);simp only [wv]at hge;exact fin _ (wd (fun w hw=>by simp only [k2b,l2g,or_false]at hw;rcases hw with rfl | rfl | rfl<;>exact⟨_,rfl⟩)) (by simp) (by
   have q0:=z1y (c:=0) (by omega) h0 g0;have q1:=z1q q0.2.1 h1;simp only [wv];omega) (h2x m a0 a1 b0)
 | [a0,a1], [b0,b1],_,_,hge=>
  have h0:=ha a0 (by simp);have h1:=ha a1 (by simp);have g0:=hb b0 (by simp);have g1:=hb b1 (by simp);simp only [wv]at hge;exact fin _ (wd (fun w hw=>by simp only [k2b,l2g,or_false]at hw;rcases hw with rfl | rfl | rfl<;>exact⟨_,rfl⟩)) (by simp) (by
   have q0:=z1y (c:=0) (by omega) h0 g0;have q1:=z1y q0.2.1 h1 g1;simp only [wv];omega) (i2e m a0 a1 b0 b1)
 | _::_::_::_,_,h,_,_=>simp at h
 | [],_::_,_,h,_=>simp at h
 | [_],_::_::_,_,h,_=>simp at h
 | [_,_],_::_::_::_,_,h,_=>simp at h
theorem w0c(n:Nat)(hn:20≤n)(s1 s2:Bool)(a b:List Int)(ha:Wd a)(hb:Wd b)(na:Nm a)(nb:Nm b)(la:a.length≤2)(lb:b.length≤2):
  ∃s t,q67z n (s1,a,s2,b,())=some (s,t,())∧bv s t=bv s1 a+bv s2 b∧Wd t∧Nm t∧t.length≤3:=by
 unfold q67z;dsimp only;cases h:s1==s2 with
 | true=>
  have:s1=s2:=by simpa using h
  subst this;obtain⟨t,t1,t2,t3,t4,t5⟩:=q1u n hn a b ha hb la lb;refine⟨s1,t,by rw [cond_true,t1];rfl, ?_,t3,t4,t5⟩;unfold bv;rw [t2];cases s1<;>simp<;>omega
 | false=>
  have hne:s2= !s1:=by cases s1<;>cases s2<;>simp_all
  subst hne;obtain⟨c,c1,c2,c3⟩:=r1l n hn a b ha hb na nb la lb;rw [cond_false,c1,j2r];dsimp only;cases hc:decide (c≥0)with
  | true=>
   obtain⟨d1,d2⟩:=c2 hc;obtain⟨t,t1,t2,t3,t4,t5⟩:=v0p n hn a b ha hb la d2 d1;refine⟨s1,t,by rw [cond_true,t1];rfl, ?_,t3,t4,t5⟩;unfold bv;rw [t2];cases s1<;>simp<;>omega
  | false=>
   obtain⟨d1,d2⟩:=c3 hc;obtain⟨t,t1,t2,t3,t4,t5⟩:=v0p n hn b a hb ha lb d2 d1;refine⟨!s1,t,by rw [cond_false,t1];rfl, ?_,t3,t4,t5⟩;unfold bv;rw [t2];cases s1<;>simp<;>omega
theorem q1y(s:Bool)(t:List Int):bv (s&&decide ((t.length:Int) >0)) t=bv s t:=by
 cases t with
 | nil=>unfold bv;cases s<;>simp [wv]
 | cons a r=>rw [show decide ((((a::r).length:Nat):Int) >0)=true by simp,m2m]
theorem f2w(s:Bool)(t:List Int):bv (!s) t= - bv s t:=by unfold bv;cases s<;>simp
def told(z:Int):Option (Val×Int×Unit):=bif inG z then some (.mk 2 z ⟨#[]⟩ [],0,())else some (.mk 0 0 ⟨#[]⟩ [],4,())
theorem b2x(n:Nat)(hn:100≤n)(x y:Int)(hx: -9223372036854775808≤x∧x≤9223372036854775807)(hy: -9223372036854775808≤y∧y≤9223372036854775807)(s1 s2:ByteArray)(l1 l2:List Val):
  q28z n (⟨#[43]⟩, .mk 2 x s1 l1, .mk 2 y s2 l2,())=told (x+y):=by
 obtain⟨a,a1,a2,a3,a4,a5⟩:=f0f n (by omega) x hx.1 hx.2;obtain⟨b,b1,b2,b3,b4,b5⟩:=f0f n (by omega) y hy.1 hy.2;obtain⟨s,t,t1,t2,t3,t4,t5⟩:=w0c n (by omega) (decide (x<0)) (decide (y<0)) a b a3 b3 a4 b4 a5 b5;unfold q28z told;dsimp+instances only [a0t,n_mk,s_mk,l_mk];have q1:seq (⟨#[43]⟩:ByteArray) (⟨#[43]⟩:ByteArray)=true:=by decide+kernel
 rw [q1];simp only [k2e,l2z,cond_false,show((2:Int)==0)=false from rfl,Bool.or_self,show((2:Int)==2)=true from rfl,Bool.and_self,cond_true]
 rw [a1,j2r,b1,j2r];unfold q29z;dsimp only;rw [t1,j2r];unfold q25z;dsimp only;rw [j2r,j2r];dsimp only;have hv:bv (s&&decide ((t.length:Int) >0)) t=x+y:=by rw [q1y,t2,a2,b2]
 generalize (s&&decide ((t.length:Int) >0))=s at*;rw [t0g n hn s t t3 t4 (by omega),hv,j2r];dsimp only;cases hg:inG (x+y)with
 | false=>rfl
 | true=>
  rw [show(!true)=false from rfl,cond_false,cond_true,s0k s t t3 t4 (by rw [hv];exact hg),j2r,hv]
theorem x1d(n:Nat)(hn:100≤n)(x y:Int)(hx: -9223372036854775808≤x∧x≤9223372036854775807)(hy: -9223372036854775808≤y∧y≤9223372036854775807)(s1 s2:ByteArray)(l1 l2:List Val):
  q28z n (⟨#[45]⟩, .mk 2 x s1 l1, .mk 2 y s2 l2,())=told (x - y):=by
 obtain⟨a,a1,a2,a3,a4,a5⟩:=f0f n (by omega) x hx.1 hx.2;obtain⟨b,b1,b2,b3,b4,b5⟩:=f0f n (by omega) y hy.1 hy.2;obtain⟨s,t,t1,t2,t3,t4,t5⟩:=w0c n (by omega) (decide (x<0)) (!decide (y<0)) a b a3 b3 a4 b4 a5 b5;unfold q28z told;dsimp+instances only [a0t,n_mk,s_mk,l_mk];have q1:seq (⟨#[45]⟩:ByteArray) (⟨#[43]⟩:ByteArray)=false:=by decide+kernel
 have q2:seq (⟨#[45]⟩:ByteArray) (⟨#[45]⟩:ByteArray)=true:=by decide+kernel
 rw [q1,q2];simp only [k2e,k2w,Bool.and_false,l2z,cond_false,show((2:Int)==0)=false from rfl,Bool.or_self,show((2:Int)==2)=true from rfl,Bool.and_self,cond_true]
 rw [a1,j2r,b1,j2r];unfold q31z;dsimp only;rw [t1,j2r];unfold q25z;dsimp only;rw [j2r,j2r];dsimp only;have hv:bv (s&&decide ((t.length:Int) >0)) t=x - y:=by rw [q1y,t2,f2w,a2,b2];omega
 generalize (s&&decide ((t.length:Int) >0))=s at*;rw [t0g n hn s t t3 t4 (by omega),hv,j2r];dsimp only;cases hg:inG (x - y)with
 | false=>rfl
 | true=>
  rw [show(!true)=false from rfl,cond_false,cond_true,s0k s t t3 t4 (by rw [hv];exact hg),j2r,hv]
end Pure
namespace Pure
open Esp Ev Go
set_option linter.unusedSimpArgs false
set_option linter.unusedVariables false
theorem m1w(sg:ByteArray){a b:Val}(ha:Right a 1)(hb:Right b 1)(n:Nat)(hn:100≤n):q28z n (sg,a,b,())=some ((d0a sg a b).1,(d0a sg a b).2,()):=by
 have la:=b0n ha;have lb:=b0n hb;have ia:=n0g ha;have ib:=n0g hb;have w2:IntKind.wrap .i64 ((a.l.length:Int)+(b.l.length:Int))=((a.l.length+b.l.length:Nat):Int):=by rw [a0h (by omega) (by omega)];omega
 have c1:cat? a.s b.s=some (a.s++b.s):=by unfold cat?;rw [if_pos (by omega)]
 have told_g: ∀z:Int,told z=some ((gI z).1,(gI z).2,()):=by
  intro z;unfold told gI;rw [show inG z=inR z from rfl]
  cases inR z<;>rfl
 by_cases hint:(a.kind==2&&b.kind==2)=true
 ·have h2:=hint
  rw [j2s]at h2;have ka:a.kind=2:=by simpa using h2.1
  have kb:b.kind=2:=by simpa using h2.2
  have h0:(a.kind==0 || b.kind==0)=false:=by rw [ka,kb];rfl
  have ra:=ia ka;have rb:=ib kb;obtain⟨k,x,s,l⟩:=a;obtain⟨k',x',s',l'⟩:=b;rw [a0t]at ka kb;subst ka;subst kb;rw [n_mk]at ra rb;unfold inR at ra rb;rw [j2s,decide_eq_true_eq,decide_eq_true_eq]at ra rb;unfold d0a;dsimp+instances only [a0t,n_mk,s_mk,l_mk]at h0 hint⊢;rw [h0,hint];cases h1:seq sg ⟨#[43]⟩with
  | true=>
   rw [(a0b _ _).1 h1,b2x n hn x x' ra rb s s' l l',told_g];rfl
  | false=>
   cases h3:seq sg ⟨#[45]⟩with
   | true=>
    rw [(a0b _ _).1 h3,x1d n hn x x' ra rb s s' l l',told_g];rfl
   | false=>
    cases h4:seq sg ⟨#[42]⟩with
    | true=>
     rw [(a0b _ _).1 h4,x1t n hn x x' ra rb s s' l l'];exact told_g (x*x')
    | false=>
     unfold q28z;dsimp only;rw [h1,h3,h4];rfl
 ·have hi:(a.kind==2&&b.kind==2)=false:=by simpa using hint
  unfold q28z d0a;dsimp only;rw [hi,w2,c1];cases h1:seq sg ⟨#[43]⟩with
  | false=>
   cases h3:seq sg ⟨#[45]⟩with
   | true=>cases (a.kind==0 || b.kind==0)<;>rfl
   | false=>
    cases h4:seq sg ⟨#[42]⟩with
    | true=>cases (a.kind==0 || b.kind==0)<;>rfl
    | false=>rfl
  | true=>
   cases h0:(a.kind==0 || b.kind==0)with
   | true=>rfl
   | false=>
    by_cases h3:a.kind=3∧b.kind=3
    ·rw [h3.1,h3.2,j2r,show(((a.s++b.s).size:Int))=((a.s.size+b.s.size:Nat):Int)by rw [ByteArray.size_append]]
     cases decide (((a.s.size+b.s.size:Nat):Int) >4000)<;>rfl
    ·by_cases h4:a.kind=4∧b.kind=4
     ·rw [h4.1,h4.2]
      cases hb:decide (((a.l.length+b.l.length:Nat):Int) >30)with
      | true=>rfl
      | false=>
       simp only [cond_true,cond_false,l2j];rw [d0h (i1j (n:=a.l.length) (by omega) (by omega)),d0h (i1j (by rw [j2y];omega) (by omega))];rfl
     ·have n3:((true&&a.kind==3)&&b.kind==3)=false:=by
       rw [l2e,m2l];by_cases g1:a.kind=3
       ·exact .inr (by simpa using fun g2=>h3 ⟨g1,g2⟩)
       ·exact .inl (by simpa using g1)
      have n4:((true&&a.kind==4)&&b.kind==4)=false:=by
       rw [l2e,m2l];by_cases g1:a.kind=4
       ·exact .inr (by simpa using fun g2=>h4 ⟨g1,g2⟩)
       ·exact .inl (by simpa using g1)
      have nn:(((!true) || (a.kind !=b.kind)) || ((a.kind !=3)&& (a.kind !=4)))=true:=by
       rw [k2e,k2m,m2g,bne_iff_ne,j2s,bne_iff_ne,bne_iff_ne];by_cases g:a.kind=b.kind
       ·exact .inr ⟨fun g1=>h3 ⟨g1,g▸g1⟩,fun g1=>h4 ⟨g1,g▸g1⟩⟩
       ·exact .inl g
      rw [n3,n4,nn];rfl
theorem x0y(v:Val)(n:Nat)(hn:40≤n):q50z n (v,())=some (chk v 1==0,()):=by
 unfold q50z;dsimp only;rw [Val.eta,p0t v 1 n (by omega) (by omega) (by omega)];rfl
theorem b0e(a b:ByteArray):b0g .str a b=seq a b:=by
 cases h:seq a b with
 | true=>rw [(a0b a b).1 h];exact keyS b
 | false=>
  cases h2:b0g .str a b with
  | false=>rfl
  | true=>
   have:=e1d (kt:= .str) rfl h2;subst this;rw [a0r]at h;cases h
theorem d1r: ∀(l s r:List UInt8),(∀c∈s,c≠32)→l=s++32::r→s=l.takeWhile (fun c=>c !=32)
 | l, [],r,_,h=>by subst h;rfl
 | l,c::s,r,hs,h=>by
  subst h;have hc:(c !=32)=true:=by simpa using hs c (by simp)
  rw [List.cons_append,List.takeWhile_cons,if_pos hc];exact congrArg (c:: ·) (d1r (s++32::r) s r (fun x hx=>hs x (by simp [hx])) rfl)
theorem p0d: ∀(l sub:List UInt8),0≤Lib.index l sub→∃i,sub.isPrefixOf (l.drop i)=true
 | [],sub,h=>by
  unfold Lib.index at h;split at h
  ·rename_i h1
   exact⟨0,by cases sub<;>simp_all⟩
  ·omega
 | b::l,sub,h=>by
  unfold Lib.index at h;split at h
  ·rename_i h1
   exact⟨0,h1⟩
  ·split at h
   ·omega
   ·rename_i h2
    obtain⟨i,hi⟩:=p0d l sub (by
     have:=Lib.index_ge l sub;simp at h2;omega)
    exact⟨i+1,hi⟩
def wordsB:ByteArray:=⟨#[32,109,97,116,99,104,32,119,104,101,114,101,32,114,101,116,117,114,110,32,100,105,115,116,105,110,99,116,32,97,115,32,97,110,100,32,111,114,32,110,111,116,32,105,110,32,105,115,32,110,117,108,108,32,116,114,117,101,32,102,97,108,115,101,32,99,111,117,110,116,32,115,117,109,32,109,105,110,32,109,97,120,32,115,105,122,101,32,104,101,97,100,32,99,111,97,108,101,115,99,101,32,105,100,32,116,121,112,101,32]⟩
theorem s1n:(List.range 111).all (fun i=>match wordsB.data.toList.drop i with
  | 32::r=>(r.takeWhile (fun c=>c !=32)).isEmpty || resB ⟨(r.takeWhile (fun c=>c !=32)).toArray⟩
  | _=>true)=true:=by kernel_rfl
theorem r1a:([[109,97,116,99,104], [119,104,101,114,101], [114,101,116,117,114,110], [100,105,115,116,105,110,99,116], [97,115], [97,110,100], [111,114], [110,111,116], [105,110], [105,115], [110,117,108,108], [116,114,117,101], [102,97,108,115,101], [99,111,117,110,116], [115,117,109], [109,105,110], [109,97,120], [115,105,122,101], [104,101,97,100], [99,111,97,108,101,115,99,101], [105,100], [116,121,112,101]]:List (List UInt8)).all (fun w=>t0j wordsB ⟨(32::(w++ [32])).toArray⟩)=true:=by kernel_rfl
theorem t1r(s:ByteArray):resB s=([[109,97,116,99,104], [119,104,101,114,101], [114,101,116,117,114,110], [100,105,115,116,105,110,99,116], [97,115], [97,110,100], [111,114], [110,111,116], [105,110], [105,115], [110,117,108,108], [116,114,117,101], [102,97,108,115,101], [99,111,117,110,116], [115,117,109], [109,105,110], [109,97,120], [115,105,122,101], [104,101,97,100], [99,111,97,108,101,115,99,101], [105,100], [116,121,112,101]]:List (List UInt8)).any (fun w=>seq s ⟨w.toArray⟩):=by
 unfold resB;unfold q78z;dsimp only;rw [i0m _ s 200 (by decide) (by omega)];rfl
theorem i1q{s:ByteArray}(hs: ∀c∈s.data.toList,c≠32)(hne:s.data.toList≠ []):t0j wordsB ⟨(32::(s.data.toList++ [32])).toArray⟩=resB s:=by
 have hself:(⟨s.data.toList.toArray⟩:ByteArray)=s:=by cases s;simp
 cases hc:t0j wordsB ⟨(32::(s.data.toList++ [32])).toArray⟩with
 | true=>
  unfold t0j Lib.contains at hc;simp only [decide_eq_true_eq]at hc;obtain⟨i,hi⟩:=p0d _ _ hc;have hi2:(32::(s.data.toList++ [32])).isPrefixOf (wordsB.data.toList.drop i)=true:=by simpa using hi
  obtain⟨r,hr⟩:=List.isPrefixOf_iff_prefix.1 hi2;have hlt:i<111:=by
   by_cases h:i<111
   ·exact h
   ·have hlen:wordsB.data.toList.length=110:=by kernel_rfl
    have:wordsB.data.toList.drop i= []:=m2k (by rw [hlen];omega);rw [this]at hr;simp at hr
  have hw:=k2f.1 s1n i (m2e.2 hlt);have hd:wordsB.data.toList.drop i=32::(s.data.toList++32::r):=by rw [←hr];simp
  rw [hd]at hw;have hw:(((s.data.toList++32::r).takeWhile (fun c=>c !=32)).isEmpty || resB ⟨((s.data.toList++32::r).takeWhile (fun c=>c !=32)).toArray⟩)=true:=hw
  rw [←d1r _ s.data.toList r hs rfl,hself,m2g]at hw;rcases hw with h | h
  ·exact absurd (List.isEmpty_iff.1 h) hne
  ·exact h.symm
 | false=>
  cases hr:resB s with
  | false=>rfl
  | true=>
   rw [t1r,List.any_eq_true]at hr;obtain⟨w,hw,he⟩:=hr;have h2:=k2f.1 r1a w hw;have hs2:s.data.toList=w:=by rw [(a0b _ _).1 he]
   rw [hs2]at hc;rw [hc]at h2;cases h2
theorem u1i{s:ByteArray}(h:nmB s=true):(∀c∈s.data.toList,c≠32)∧s.data.toList≠ []∧s.size≤12:=by
 have hsz:=(e1h h).2;unfold nmB at h;cases hc:(seq s ⟨#[]⟩) || (decide ((s.size:Int) >12))with
 | true=>rw [hc]at h;cases h
 | false=>
  rw [hc,cond_false]at h;rw [k2c]at hc;refine⟨?_,fun hn=> ?_,hsz⟩
  ·have: ∀(l:List UInt8) (i:Int),nmF i (bi l)=true→∀b∈l,b≠32:=by
    intro l
    induction l with
    | nil=>intro i _ b hb;cases hb
    | cons c r ih=>
     intro i h b hb;rw [t0l,nmF]at h;cases hk:(!(lttI (c.toNat:Int))&& (((i==0) || (decide ((c.toNat:Int)<48))) || (decide ((c.toNat:Int) >57))))with
     | true=>rw [hk]at h;cases h
     | false=>
      rw [hk,cond_false]at h;rcases k2b.1 hb with rfl | hb
      ·rintro rfl
       cases hi:(i==0)<;>(rw [hi]at hk;revert hk;decide)
      ·exact ih (i+1) h b hb
   exact this _ _ h
  ·have:s=⟨#[]⟩:=by cases s with | mk d=>simp at hn;subst hn;rfl
   rw [this,a0r]at hc;cases hc.1
theorem k0e(s:ByteArray):q40z (s,())=some (h0i s,()):=by
 unfold q40z h0i;dsimp only;rw [d0y,j2r];cases hn:nmB s with
 | false=>rfl
 | true=>
  obtain⟨h1,h2,h3⟩:=u1i hn;have hne:seq s ⟨#[]⟩=false:=by
   cases h:seq s ⟨#[]⟩with
   | false=>rfl
   | true=>rw [(a0b _ _).1 h]at h2;exact absurd rfl h2
  have hb:t0j s ⟨#[32]⟩=false:=by
   cases h:t0j s ⟨#[32]⟩with
   | false=>rfl
   | true=>
    unfold t0j Lib.contains at h;simp only [decide_eq_true_eq]at h;obtain⟨i,hi⟩:=p0d _ _ h;obtain⟨r,hr⟩:=List.isPrefixOf_iff_prefix.1 hi;have hm:(32:UInt8)∈s.data.toList:=List.mem_of_mem_drop (i:=i) (by rw [←hr];simp);exact absurd rfl (h1 32 hm)
  have c0:d0f (s,(⟨#[32]⟩:ByteArray),())=some (false,()):=by
   unfold d0f;dsimp only;rw [show Nat.blt s.size 4294967281=true from k2k (by omega),hb]
   rfl
  have k1:cat? (⟨#[32]⟩:ByteArray) s=some (⟨#[32]⟩++s):=by
   unfold cat?;have:(⟨#[32]⟩:ByteArray).size=1:=rfl;rw [if_pos (by omega)]
  have z1:((⟨#[32]⟩:ByteArray)++s).size=1+s.size:=by rw [ByteArray.size_append];rfl
  have k2:cat? ((⟨#[32]⟩:ByteArray)++s) ⟨#[32]⟩=some (((⟨#[32]⟩:ByteArray)++s)++⟨#[32]⟩):=by
   unfold cat?;have:(⟨#[32]⟩:ByteArray).size=1:=rfl;rw [if_pos (by omega)]
  have e2:(((⟨#[32]⟩:ByteArray)++s)++⟨#[32]⟩)=⟨(32::(s.data.toList++ [32])).toArray⟩:=by
   apply ByteArray.ext;rw [ByteArray.data_append,ByteArray.data_append];simp
  have c2:d0f (wordsB,(((⟨#[32]⟩:ByteArray)++s)++⟨#[32]⟩),())=some (resB s,()):=by
   unfold d0f;dsimp only;rw [show Nat.blt wordsB.size 4294967281=true by kernel_rfl,e2,i1q h1 h2];rfl
  unfold q19z;dsimp only;rw [hne,c0];simp only [k2w,cond_true,j2r];rw [k1,j2r,k2,j2r,show(⟨#[32,109,97,116,99,104,32,119,104,101,114,101,32,114,101,116,117,114,110,32,100,105,115,116,105,110,99,116,32,97,115,32,97,110,100,32,111,114,32,110,111,116,32,105,110,32,105,115,32,110,117,108,108,32,116,114,117,101,32,102,97,108,115,101,32,99,111,117,110,116,32,115,117,109,32,109,105,110,32,109,97,120,32,115,105,122,101,32,104,101,97,100,32,99,111,97,108,101,115,99,101,32,105,100,32,116,121,112,101,32]⟩:ByteArray)=wordsB from rfl,c2]
  rfl
end Pure
namespace Pure
open Esp Ev Go
set_option linter.unusedSimpArgs false
set_option linter.unusedVariables false
theorem a0i{vt:Ev.Ty}(z:vt.den)(k:ByteArray)(v:vt.den)(s:ByteArray): ∀l:List (ByteArray×vt.den),a0g .str vt z (a0e .str vt l k v) s=bif seq s k then v else a0g .str vt z l s
 | []=>by
  show(bif b0g .str s k then v else z)=bif seq s k then v else z
  rw [b0e]
 | p::r=>by
  rw [a0e];cases hk:b0g .str k p.1 with
  | true=>
   rw [b0e]at hk;have:=(a0b _ _).1 hk;rw [cond_true,a0g,a0g,b0e,b0e, ←this];cases seq s k<;>rfl
  | false=>
   rw [cond_false,a0g,a0g,a0i z k v s r,b0e];cases h1:seq s p.1 with
   | false=>rfl
   | true=>
    cases h2:seq s k with
    | false=>rfl
    | true=>
     rw [b0e]at hk;rw [(a0b _ _).1 h1]at h2;rw [(a0b _ _).1 h2,a0r]at hk;cases hk
theorem f0j{vt:Ev.Ty}(k:ByteArray)(v:vt.den)(s:ByteArray): ∀l:List (ByteArray×vt.den),a0s .str vt (a0e .str vt l k v) s=bif seq s k then true else a0s .str vt l s
 | []=>by
  show(bif b0g .str s k then true else false)=bif seq s k then true else false
  rw [b0e]
 | p::r=>by
  rw [a0e];cases hk:b0g .str k p.1 with
  | true=>
   rw [b0e]at hk;have:=(a0b _ _).1 hk;rw [cond_true,a0s,a0s,b0e,b0e, ←this];cases seq s k<;>rfl
  | false=>
   rw [cond_false,a0s,a0s,f0j k v s r,b0e];cases h1:seq s p.1<;>cases h2:seq s k<;>rfl
theorem s0m{vt:Ev.Ty}(z:vt.den)(s:ByteArray): ∀l:List (ByteArray×vt.den),a0s .str vt l s=false→a0g .str vt z l s=z
 | [],_=>rfl
 | p::r,h=>by
  rw [a0s]at h;rw [a0g];cases hk:b0g .str s p.1 with
  | true=>rw [hk]at h;cases h
  | false=>rw [hk]at h;exact s0m z s r h
def tkN(s:ByteArray):Int:=bif (arN s).2 then(arN s).1 else 0
theorem s1b(s:ByteArray):a0g .str .i64 0 (a0e .str .i64 (a0e .str .i64 (a0e .str .i64 (a0e .str .i64 (a0e .str .i64 (a0e .str .i64 (a0e .str .i64 (a0e .str .i64 (a0e .str .i64 (a0e .str .i64 (a0e .str .i64 (a0e .str .i64 (a0e .str .i64 (a0e .str .i64 (a0e .str .i64 (a0e .str .i64 (a0e .str .i64 ([]:List Y2) (⟨#[43]⟩:ByteArray) 2) (⟨#[45]⟩:ByteArray) 2) (⟨#[42]⟩:ByteArray) 2) (⟨#[61]⟩:ByteArray) 2) (⟨#[60]⟩:ByteArray) 2) (⟨#[60,61]⟩:ByteArray) 2) (⟨#[97,110,100]⟩:ByteArray) 2) (⟨#[111,114]⟩:ByteArray) 2) (⟨#[105,110]⟩:ByteArray) 2) (⟨#[110,111,116]⟩:ByteArray) 1) (⟨#[110,117,108,108]⟩:ByteArray) 1) (⟨#[115,105,122,101]⟩:ByteArray) 1) (⟨#[104,101,97,100]⟩:ByteArray) 1) (⟨#[105,100]⟩:ByteArray) 1) (⟨#[116,121,112,101]⟩:ByteArray) 1) (⟨#[99,111,97,108,101,115,99,101]⟩:ByteArray) (-1)) (⟨#[108,105,115,116]⟩:ByteArray) (-1)) s=tkN s:=by
 cases h0:seq s ⟨#[43]⟩with
 | true=>rw [(a0b _ _).1 h0];kernel_rfl
 | false=>
 cases h1:seq s ⟨#[45]⟩with
 | true=>rw [(a0b _ _).1 h1];kernel_rfl
 | false=>
 cases h2:seq s ⟨#[42]⟩with
 | true=>rw [(a0b _ _).1 h2];kernel_rfl
 | false=>
 cases h3:seq s ⟨#[61]⟩with
 | true=>rw [(a0b _ _).1 h3];kernel_rfl
 | false=>
 cases h4:seq s ⟨#[60]⟩with
 | true=>rw [(a0b _ _).1 h4];kernel_rfl
 | false=>
 cases h5:seq s ⟨#[60,61]⟩with
 | true=>rw [(a0b _ _).1 h5];kernel_rfl
 | false=>
 cases h6:seq s ⟨#[97,110,100]⟩with
 | true=>rw [(a0b _ _).1 h6];kernel_rfl
 | false=>
 cases h7:seq s ⟨#[111,114]⟩with
 | true=>rw [(a0b _ _).1 h7];kernel_rfl
 | false=>
 cases h8:seq s ⟨#[105,110]⟩with
 | true=>rw [(a0b _ _).1 h8];kernel_rfl
 | false=>
 cases h9:seq s ⟨#[110,111,116]⟩with
 | true=>rw [(a0b _ _).1 h9];kernel_rfl
 | false=>
 cases h10:seq s ⟨#[110,117,108,108]⟩with
 | true=>rw [(a0b _ _).1 h10];kernel_rfl
 | false=>
 cases h11:seq s ⟨#[115,105,122,101]⟩with
 | true=>rw [(a0b _ _).1 h11];kernel_rfl
 | false=>
 cases h12:seq s ⟨#[104,101,97,100]⟩with
 | true=>rw [(a0b _ _).1 h12];kernel_rfl
 | false=>
 cases h13:seq s ⟨#[105,100]⟩with
 | true=>rw [(a0b _ _).1 h13];kernel_rfl
 | false=>
 cases h14:seq s ⟨#[116,121,112,101]⟩with
 | true=>rw [(a0b _ _).1 h14];kernel_rfl
 | false=>
 cases h15:seq s ⟨#[99,111,97,108,101,115,99,101]⟩with
 | true=>rw [(a0b _ _).1 h15];kernel_rfl
 | false=>
 cases h16:seq s ⟨#[108,105,115,116]⟩with
 | true=>rw [(a0b _ _).1 h16];kernel_rfl
 | false=>
 rw [a0i,a0i,a0i,a0i,a0i,a0i,a0i,a0i,a0i,a0i,a0i,a0i,a0i,a0i,a0i,a0i,a0i];unfold tkN arN;rw [h0,h1,h2,h3,h4,h5,h6,h7,h8,h9,h10,h11,h12,h13,h14,h15,h16];rfl
theorem z1o(s:ByteArray)(z:Bool)(m:Nat):(((!z) || (tkN s==0)) || (decide (tkN s>0)&& ((m:Int) !=tkN s)))=(((!(arN s).2) || !z) || (decide ((arN s).1≥0)&& ((m:Int) !=(arN s).1))):=by
 have h:arN s=(2,true)∨arN s=(1,true)∨arN s=(-1,true)∨arN s=(0,false):=by
  unfold arN;generalize (((((((((seq s ⟨#[43]⟩) || seq s ⟨#[45]⟩) || seq s ⟨#[42]⟩) || seq s ⟨#[61]⟩) || seq s ⟨#[60]⟩) || seq s ⟨#[60,61]⟩) || seq s ⟨#[97,110,100]⟩) || seq s ⟨#[111,114]⟩) || seq s ⟨#[105,110]⟩)=x
  generalize ((((((seq s ⟨#[110,111,116]⟩) || seq s ⟨#[110,117,108,108]⟩) || seq s ⟨#[115,105,122,101]⟩) || seq s ⟨#[104,101,97,100]⟩) || seq s ⟨#[105,100]⟩) || seq s ⟨#[116,121,112,101]⟩)=y
  generalize ((seq s ⟨#[99,111,97,108,101,115,99,101]⟩) || seq s ⟨#[108,105,115,116]⟩)=w
  cases x<;>cases y<;>cases w<;>simp
 unfold tkN;rcases h with h | h | h | h<;>rw [h]<;>cases z<;>simp<;>decide
def RB(B:List Y2)(b:List Y6):Prop:=∀s,a0g .str .i64 0 B s=bif a0s .str .bool b s then(bif a0g .str .bool false b s then 2 else 1)else 0
theorem RB.put{B:List Y2}{b:List Y6}(h:RB B b)(k:ByteArray)(e:Bool):RB (a0e .str .i64 B k (bif e then 2 else 1)) (a0e .str .bool b k e):=by
 intro s;rw [a0i (vt:= .i64),a0i (vt:= .bool),f0j (vt:= .bool),h s];cases seq s k<;>rfl
theorem RB.has{B:List Y2}{b:List Y6}(h:RB B b)(s:ByteArray):(a0g .str .i64 0 B s==0)= !a0s .str .bool b s:=by
 rw [h s];cases a0s .str .bool b s<;>cases a0g .str .bool false b s<;>rfl
theorem RB.edge{B:List Y2}{b:List Y6}(h:RB B b)(s:ByteArray):(a0g .str .i64 0 B s !=2)= !a0g .str .bool false b s:=by
 rw [h s];cases h1:a0s .str .bool b s with
 | true=>cases a0g .str .bool false b s<;>rfl
 | false=>rw [s0m (vt:= .bool) false s b h1];rfl
theorem u1v(v:Val)(n:Nat)(hn:2≤n):q23z n (v, .mk 0 0 ⟨#[]⟩ [],())=some (zrB v,()):=by
 obtain⟨k,a,s,l⟩:=v;obtain⟨j,rfl⟩: ∃j,n=j+2:=⟨n - 2,by omega⟩;unfold q23z zrB;dsimp+instances only [a0t,n_mk,s_mk,l_mk];rw [q34z];unfold d1y;dsimp+instances only [a0t,n_mk,s_mk,l_mk];rw [x0b];by_cases h1:k<0
 ·rw [decide_eq_true h1,show(k==0)=false by rw [beq_eq_false_iff_ne];omega]
  rfl
 ·rw [decide_eq_false h1]
  by_cases h2:k>0
  ·rw [decide_eq_true h2,show(k==0)=false by rw [beq_eq_false_iff_ne];omega]
   rfl
  ·rw [decide_eq_false h2,show(k==0)=true by rw [beq_iff_eq];omega]
   by_cases h3:a<0
   ·rw [decide_eq_true h3,show(a==0)=false by rw [beq_eq_false_iff_ne];omega]
    rfl
   ·rw [decide_eq_false h3]
    by_cases h4:a>0
    ·rw [decide_eq_true h4,show(a==0)=false by rw [beq_eq_false_iff_ne];omega]
     rfl
    ·rw [decide_eq_false h4,show(a==0)=true by rw [beq_iff_eq];omega]
     cases h5:seq s ⟨#[]⟩with
     | false=>
      have:cmpS s ⟨#[]⟩≠0:=fun h=>by
       rw [p0u]at h;rw [h,a0r]at h5;cases h5
      simp only [cond_false,k2w,cond_true,j2r];rw [show(cmpS s ⟨#[]⟩==0)=false by rw [beq_eq_false_iff_ne];exact this];rfl
     | true=>
      simp only [cond_false,k2e];rw [a0a];unfold i0l;dsimp+instances only [a0t,n_mk,s_mk,l_mk];have e:decide ((0:Int)< (([]:List Val).length:Int))=false:=rfl;have e2:decide ((l.length:Int)< (([]:List Val).length:Int))=false:=by rw [decide_eq_false_iff_not];simp
      rw [e,Bool.and_false,e2];simp only [cond_false];cases l with
      | nil=>rfl
      | cons x r=>
       have e3:decide (((x::r).length:Int) >(([]:List Val).length:Int))=true:=by rw [decide_eq_true_iff];simp
       rw [e3];have e4:(((x::r).length:Int)==0)=false:=by rw [beq_eq_false_iff_ne,k2i];omega
       rw [e4];rfl
theorem e2l{α:Type}(l:List α):((l.length:Int) !=0)=decide ((l.length:Int) >0):=by
 cases l with
 | nil=>rfl
 | cons x r=>
  rw [decide_eq_true (by simp),bne_iff_ne];simp;omega
theorem m0x{ρ:Type}(self:Term×List Y2×Int×Unit→Option Y10)(n:Nat)(B:List Y2)(b:List Y6)(d:Int)(hd:IntKind.wrap .i64 (d+1)=d+1)(o:Term)(kr:Int×Unit→Option ρ)(k:List Y2×Int×(Term×Unit)×Unit→Option ρ):
  ∀(l:List Term) (i:Int),(∀x∈l,self (x,B,d+1,())=some (tchk b x (d+1),()))→a0c (g0w self n kr) k i l (B,d,(o,()),())=bif e0d b l (d+1) !=0 then kr (e0d b l (d+1),())else k (B,d,(o,()),())
 | [],_,_=>rfl
 | x::r,i,h=>by
  rw [a0c];have ih:=m0x self n B b d hd o kr k r (i+1) fun y hy=>h y (by simp [hy]);generalize a0c (g0w self n kr) k (i+1) r=R at ih;unfold g0w;dsimp only;rw [Term.eta2,Term.eta2,hd,h x (by simp),j2r,e0d];dsimp only;cases hc:tchk b x (d+1) !=0 with
  | true=>rw [cond_true,cond_true,hc];rfl
  | false=>rw [cond_false,cond_false];exact ih
theorem s0a{B:List Y2}{b:List Y6}(hB:RB B b)(t:Term): ∀(d:Int) (n:Nat),1≤d→d≤7→300≤n+d.toNat→q22z n (t,B,d,())=some (tchk b t d,()):=by
 induction t using i0d with
 | _ k v s a ih=>
  intro d n h1 h7 hn;obtain⟨m,rfl⟩: ∃m,n=m+1:=⟨n - 1,by omega⟩;rw [q22z,tchk];unfold p1u;dsimp+instances only [n0b,n0y,n0z,u0o];cases hd:decide (d>6)with
  | true=>rfl
  | false=>
   have h6:=of_decide_eq_false hd;have hw:IntKind.wrap .i64 (d+1)=d+1:=a0h (by omega) (by omega);have hs: ∀x∈a,q22z m (x,B,d+1,())=some (tchk b x (d+1),()):=fun x hx=>ih x hx (d+1) m (by omega) (by omega) (by omega);simp only [cond_false];rw [Val.eta,u1v v m (by omega),j2r];dsimp only;rw [e2l];cases h1:k==1 with
   | true=>
    simp only [cond_true];cases (!(seq s ⟨#[]⟩)) || decide ((a.length:Int) >0)with
    | true=>rfl
    | false=>
     cases v.kind==4 with
     | true=>rfl
     | false=>
      simp only [cond_false,l2f];rw [p0t v 1 m (by omega) (by omega) (by omega),j2r]
   | false=>
    cases h2:k==2 with
    | true=>
     simp only [cond_true,cond_false];cases (!zrB v) || decide ((a.length:Int) >0)with
     | true=>rfl
     | false=>
      simp only [cond_true,cond_false];rw [k0e s,j2r,hB.has];cases !h0i s with
      | true=>rfl
      | false=>cases !a0s .str .bool b s<;>rfl
    | false=>
     cases h3:k==3 with
     | true=>
      simp only [cond_true,cond_false];cases hz:(!zrB v) || ((a.length:Int) !=1)with
      | true=>rfl
      | false=>
       rw [k2c]at hz;obtain⟨e1,e2⟩:=p1s hz.2;simp only [cond_true,cond_false];rw [e1,j2r];cases (hdT a).kind !=2 with
       | true=>rfl
       | false=>
        simp only [cond_true,cond_false];rw [d0y,j2r];cases !nmB s with
        | true=>rfl
        | false=>
         simp only [cond_false];rw [j2r,Term.eta2,hw,hs (hdT a) (by rw [e2];simp [hdT]),j2r];have:e0d b a (d+1)=tchk b (hdT a) (d+1):=by
          conv=>lhs;rw [e2]
          rw [e0d,e0d];cases hc:tchk b (hdT a) (d+1) !=0 with
          | true=>rfl
          | false=>
           have h0:tchk b (hdT a) (d+1)=0:=by simpa using hc
           exact h0.symm
         rw [this]
     | false=>
      cases h4:k==4 with
      | false=>rfl
      | true=>
       simp only [cond_true,cond_false];rw [s1b,z1o];cases hz:((!(arN s).2) || !zrB v) || (decide ((arN s).1≥0)&& ((a.length:Int) !=(arN s).1))with
       | true=>rfl
       | false=>
        cases h30:decide ((a.length:Int) >30)with
        | true=>rfl
        | false=>
         have hl:=of_decide_eq_false h30;simp only [cond_false];rw [q1n _ m _ _ a m _ _ _ (by omega) (by omega),m0x _ m B b d hw _ _ _ a 0 hs];cases hc:e0d b a (d+1) !=0 with
         | true=>rfl
         | false=>
          simp only [cond_false];dsimp+instances only [n0b,n0y,n0z,u0o];unfold lstB;cases hid:seq s ⟨#[105,100]⟩with
          | true=>
           have har:(arN s).1=1:=by rw [(a0b _ _).1 hid];kernel_rfl
           obtain⟨e1,e2⟩:=e1m hz har;have hty:seq s (⟨#[116,121,112,101]⟩:ByteArray)=false:=by rw [(a0b _ _).1 hid];kernel_rfl
           simp only [cond_true];rw [e1,j2r,hty];cases (hdT a).kind !=2<;>rfl
          | false=>
           simp only [cond_false];cases hty:seq s (⟨#[116,121,112,101]⟩:ByteArray)with
           | false=>rfl
           | true=>
            have har:(arN s).1=1:=by rw [(a0b _ _).1 hty];kernel_rfl
            obtain⟨e1,e2⟩:=e1m hz har;simp only [cond_true];rw [e1,j2r];cases (hdT a).kind !=2 with
            | true=>rfl
            | false=>
             simp only [cond_false];rw [j2r,hB.edge];cases !a0g .str .bool false b (hdT a).name<;>rfl
end Pure
namespace Pure
open Esp Ev Go
set_option linter.unusedSimpArgs false
set_option linter.unusedVariables false
theorem e0k{v:Val}(h:Right v 1):q52z (v,())=some (stV v,()):=by
 cases h with
 | null=>rfl
 | truth a _ h=>
  unfold q52z stV;dsimp+instances only [a0t,n_mk];have:a=0∨a=1:=by omega
  rcases this with rfl | rfl<;>rfl
 | int=>rfl
 | text=>rfl
 | list=>rfl
theorem v1f{v:Val}(h:Right v 1)(h4:(v.kind==4)=false):v.l= []:=by
 cases h with
 | null=>rfl
 | truth a _ h=>rfl
 | int=>rfl
 | text=>rfl
 | list=>cases h4
def rkS(c:Int):Int:=bif c==1 then 2 else bif c==2 then 1 else 0
theorem m1n{c:Int}(h:c=0∨c=1∨c=2):ix ([0,2,1]:List Int) c=some (rkS c):=by
 rcases h with rfl | rfl | rfl<;>rfl
theorem c1u{c:Int}(h:c=0∨c=1∨c=2):ix ([0,2,1]:List Int) (rkS c)=some c:=by
 rcases h with rfl | rfl | rfl<;>rfl
theorem g2a{a b:Int}(ha:a=0∨a=1∨a=2)(hb:b=0∨b=1∨b=2):(if rkS b>rkS a then rkS b else rkS a)=rkS (orS a b):=by
 rcases ha with rfl | rfl | rfl<;>rcases hb with rfl | rfl | rfl<;>rfl
theorem f2k{a b:Int}(ha:a=0∨a=1∨a=2)(hb:b=0∨b=1∨b=2):(if rkS b<rkS a then rkS b else rkS a)=rkS (ngS (orS (ngS a) (ngS b))):=by
 rcases ha with rfl | rfl | rfl<;>rcases hb with rfl | rfl | rfl<;>rfl
theorem y1c{c:Int}(h:c=0∨c=1∨c=2):ix ([1,0,2]:List Int) c=some (ngS c)∧([1,0,2]:List Int)[c.toNat]? =some (ngS c):=by
 rcases h with rfl | rfl | rfl<;>exact⟨rfl,rfl⟩
theorem q0m{ρ:Type}(self:Graph×List Y2×Term×Unit→Option (Val×Unit))(n:Nat)(kr:Unit→Option ρ)(k:List Y2×(Graph×Unit)×(Term×Unit)×(Val×Unit)×List Val×Unit→Option ρ)(g:Graph)(at_:List Y2)(t:Term)(z:Val):
  ∀(l:List Term) (i:Int) (acc:List Val),(∀x∈l,self (g,at_,x,())=some (tval g at_ x,()))→acc.length+l.length≤30→a0c (h0c self n kr) k i l (at_,(g,()),(t,()),(z,()),acc,())=k (at_,(g,()),(t,()),(z,()),acc++d0d g at_ l,())
 | [],i,acc,_,_=>by rw [d0d,k2y];rfl
 | x::r,i,acc,h,hl=>by
  rw [a0c];have ih:=q0m self n kr k g at_ t z r (i+1) (acc++ [tval g at_ x]) (fun y hy=>h y (by simp [hy])) (by simp at hl⊢;omega);generalize a0c (h0c self n kr) k (i+1) r=R at ih;unfold h0c;dsimp only;rw [Term.eta2,Term.eta2,show(Graph.mk g.nodes g.edges g.next)=g from rfl,h x (by simp),j2r]
  dsimp only;rw [Val.eta,Val.eta,d0h (i1j (by simp at hl⊢;omega) (by omega)),ih,d0d];simp
theorem e1e{ρ:Type}(self:Graph×List Y2×Term×Unit→Option (Val×Unit))(n:Nat)(kr:Unit→Option ρ)(k:List Val×List Int×List Int×Int×(Val×Unit)×Unit→Option ρ)(args:List Val)(x:Val)(h0:ix args 0=some x)(hx:vOk x)(hn:vSz x+7≤n)(o:Val):
  ∀(l:List Val) (i:Int) (c:Int),(c=0∨c=1∨c=2)→a0c (h0o self n kr) k i l (args, [0,2,1], [0,2,1],rkS c,(o,()),())=k (args, [0,2,1], [0,2,1],rkS (inS x c l),(o,()),())
 | [],_,_,_=>rfl
 | y::r,i,c,hc=>by
  rw [a0c];have ih:=e1e self n kr k args x h0 hx hn o r (i+1) (orS c (smV x y)) l0w;generalize a0c (h0o self n kr) k (i+1) r=R at ih;unfold h0o;dsimp only;rw [h0,j2r];rw [Val.eta,Val.eta,Val.eta,y0h x y n hx hn,j2r];dsimp only;rw [Val.eta,e0k (tV_r _ (i0o x y)),j2r,m0n (i0o x y)];dsimp only;rw [m1n (i0o x y),j2r,g2a hc (i0o x y)];exact ih
theorem w0x(s:ByteArray)(pos:Nat)(h:pos<s.size):1≤(Utf8.decode s pos).2:=by
 by_cases ha:(s[pos]'h).toNat<128
 ·rw [Go.decode_ascii s pos h ha]
  exact k2h _
 ·exact(Go.decode_high s pos h (by omega)).2
theorem d2b{a b:Nat}(h: ¬a<b):Nat.blt a b=false:=by
 cases hb:Nat.blt a b with
 | false=>rfl
 | true=>exact absurd (k2d hb) h
theorem h1x{ρ:Type}(self:Graph×List Y2×Term×Unit→Option (Val×Unit))(n:Nat)(kx:Int×(Val×Unit)×Unit→Option ρ)(kr:Unit→Option ρ)(o:Val)(s:ByteArray):
  ∀(b pos c fuel:Nat),s.size≤pos+b→b<fuel→c+b≤1000000→a0a (fun rc=>g0p self n rc kx kr) fuel ((c:Int),(o,()),(s,pos),())=kx (((c+(f0a s b pos).length:Nat):Int),(o,()),()):=by
 intro b
 induction b with
 | zero=>
  intro pos c fuel h1 h2 h3;obtain⟨m,rfl⟩: ∃m,fuel=m+1:=⟨fuel - 1,by omega⟩;rw [a0a];unfold g0p;dsimp only;rw [show Nat.blt pos s.size=false from d2b (by omega),f0a,Val.eta]
  rfl
 | succ b ih=>
  intro pos c fuel h1 h2 h3;obtain⟨m,rfl⟩: ∃m,fuel=m+1:=⟨fuel - 1,by omega⟩;rw [a0a];have ih' :=fun(h:pos<s.size)=>ih (pos+(Utf8.decode s pos).2) (c+1) m (by have:=w0x s pos h;omega) (by omega) (by omega);generalize a0a (fun rc=>g0p self n rc kx kr) m=R at ih';unfold g0p;dsimp only;rw [f0a];by_cases hp:pos<s.size
  ·have hw:=w0x s pos hp
   rw [show Nat.blt pos s.size=true from k2k hp,if_pos hp,Val.eta,cond_true,show IntKind.wrap .i64 ((c:Int)+1)=((c+1:Nat):Int)by rw [a0h (by omega) (by omega)];omega]
   rw [ih' hp,k2i,show c+1+(f0a s b (pos+(Utf8.decode s pos).2)).length=c+((f0a s b (pos+(Utf8.decode s pos).2)).length+1)by omega]
  ·rw [show Nat.blt pos s.size=false from d2b (by omega),if_neg hp,Val.eta]
   rfl
theorem r0w(self:Graph×List Y2×Term×Unit→Option (Val×Unit))(n:Nat)(k:(Val×Unit)×Unit→Option (Val×Unit))(o:Val)(hk:k ((o,()),())=some (zV,())):
  ∀(l:List Val) (i:Int),a0c (h0b self n (fun(o81,_)=>some ((Ev.Val.mk o81.1.kind o81.1.n o81.1.s o81.1.l),()))) k i l ((o,()),())=some (coal l,())
 | [],_=>hk
 | y::r,i=>by
  rw [a0c];have ih:=r0w self n k o hk r (i+1);generalize a0c (h0b self n (fun(o81,_)=>some ((Ev.Val.mk o81.1.kind o81.1.n o81.1.s o81.1.l),()))) k (i+1) r=R at ih;unfold h0b;dsimp only;rw [coal];cases y.kind !=0 with
  | true=>
   simp only [cond_true];rw [Val.eta,Val.eta]
  | false=>
   simp only [cond_false];rw [Val.eta];exact ih
theorem gI_z{z:Int}(h:(gI z).2≠0):(gI z).1=zV:=by
 unfold gI at h⊢;cases hi:inR z with
 | true=>rw [hi]at h;exact absurd rfl h
 | false=>rfl
theorem a2a{s:ByteArray}{a b:Val}(h:(d0a s a b).2≠0):(d0a s a b).1=zV:=by
 unfold d0a at h⊢;cases h1:(seq s ⟨#[43]⟩ || seq s ⟨#[45]⟩) || seq s ⟨#[42]⟩with
 | false=>rfl
 | true=>
  rw [h1,cond_true]at h;simp only [cond_true];cases h2:(a.kind==0) || (b.kind==0)with
  | true=>rfl
  | false=>
   rw [h2,cond_false]at h;simp only [cond_false];cases h3:(a.kind==2)&& (b.kind==2)with
   | true=>rw [h3,cond_true]at h;simp only [cond_true];exact gI_z h
   | false=>
    rw [h3,cond_false]at h;simp only [cond_false];cases h4:(seq s ⟨#[43]⟩&& (a.kind==3))&& (b.kind==3)with
    | true=>
     rw [h4,cond_true]at h;cases h5:decide (((a.s.size+b.s.size:Nat):Int) >4000)with
     | true=>rfl
     | false=>rw [h5]at h;exact absurd rfl h
    | false=>
     rw [h4,cond_false]at h;simp only [cond_false];cases h6:(seq s ⟨#[43]⟩&& (a.kind==4))&& (b.kind==4)with
     | true=>
      rw [h6,cond_true]at h;cases h5:decide (((a.l.length+b.l.length:Nat):Int) >30)with
      | true=>rfl
      | false=>rw [h5]at h;exact absurd rfl h
     | false=>rfl
end Pure
namespace Pure
open Esp Ev Go
set_option linter.unusedSimpArgs false
set_option linter.unusedVariables false
def EB(g:Graph)(b:List Y6)(at_:List Y2):Prop:=∀s,a0g .str .bool false b s=true→(c0m g.edges (a0g .str .i64 0 at_ s)).isSome=true
set_option maxHeartbeats 2000000 in
theorem u1u{g:Graph}(hg:GOk g)(at_:List Y2)(v0:Val)(s:ByteArray)(a:List Term)(m:Nat)(h30:a.length≤30)(hs: ∀x∈a,q24z m (g,at_,x,())=some (tval g at_ x,()))
  (hl: ∀x∈d0d g at_ a,Right x 1)(har:ArOk s (d0d g at_ a).length)(hn:lSz (d0d g at_ a)+5000≤m)(hty:seq s ⟨#[116,121,112,101]⟩=true→(c0m g.edges (arg0 (d0d g at_ a)).n).isSome=true):
  q24z (m+1) (g,at_, .mk 4 v0 s a,())=some (b1w g s (d0d g at_ a),()):=by
 have sz: ∀x∈d0d g at_ a,vSz x+900≤m:=fun x hx=>by have:=i0y hx;omega
 have hlen:(d0d g at_ a).length≤30:=by rw [d0e,k2v];exact h30
 rw [q24z];unfold y0l;dsimp+instances only [n0b,n0y,n0z,u0o];rw [show((4:Int)==1)=false from rfl,show((4:Int)==2)=false from rfl,show((4:Int)==3)=false from rfl]
 simp only [cond_false];rw [o1v _ m _ _ a m _ _ _ _ _ (by omega) (by omega),Val.eta];refine(q0m (q24z m) m _ _ g at_ (.mk 4 v0 s a) (.mk 0 0 ⟨#[]⟩ []) a 0 [] hs (by simpa using h30)).trans ?_;rw [l2j];generalize d0d g at_ a=l at hl har hn hty sz hlen;dsimp+instances only [n0b,n0y,n0z,u0o];unfold b1w;have reck:arN s=(2,true)→((ix l 0).bind fun x7=>(ix l 1).bind fun x8=>(q28z m (s,(Ev.Val.mk x7.kind x7.n x7.s x7.l),(Ev.Val.mk x8.kind x8.n x8.s x8.l),())).bind fun(y9,y10,_)=>(bif (y10:Int) !=0 then some ((Ev.Val.mk 0 0 (⟨#[]⟩:ByteArray) ([]:List Ev.Val)),())else(q50z m ((Ev.Val.mk y9.kind y9.n y9.s y9.l),())).bind fun(y11,_)=>
   (bif !y11 then some ((Ev.Val.mk 0 0 (⟨#[]⟩:ByteArray) ([]:List Ev.Val)),())else some ((Ev.Val.mk y9.kind y9.n y9.s y9.l),()))))=some (bif chk (d0a s (arg0 l) (arg1 l)).1 1 !=0 then zV else(d0a s (arg0 l) (arg1 l)).1,()):=by
  intro h2;obtain⟨e0,e1,m0,m1⟩:=ar2 (har.two h2);rw [e0,j2r,e1,j2r,Val.eta,Val.eta,m1w s (hl _ m0) (hl _ m1) m (by omega),j2r];dsimp only;cases hc:(d0a s (arg0 l) (arg1 l)).2 !=0 with
  | true=>
   rw [a2a (by simpa using hc)];cases chk zV 1 !=0<;>rfl
  | false=>
   simp only [cond_false];rw [Val.eta,x0y _ m (by omega),j2r];dsimp only;show(bif !(chk (d0a s (arg0 l) (arg1 l)).1 1==0)then some ((Ev.Val.mk 0 0 (⟨#[]⟩:ByteArray) ([]:List Ev.Val)),())else some ((d0a s (arg0 l) (arg1 l)).1,()))=_
   show(bif chk (d0a s (arg0 l) (arg1 l)).1 1 !=0 then some ((Ev.Val.mk 0 0 (⟨#[]⟩:ByteArray) ([]:List Ev.Val)),())else some ((d0a s (arg0 l) (arg1 l)).1,()))=_
   cases chk (d0a s (arg0 l) (arg1 l)).1 1 !=0<;>rfl
 cases h1:seq s ⟨#[43]⟩with
 | true=>
  simp only [cond_true,l2a];exact reck (by rw [(a0b _ _).1 h1];kernel_rfl)
 | false=>
 cases h2:seq s ⟨#[45]⟩with
 | true=>
  simp only [cond_true,cond_false,l2a,k2m];exact reck (by rw [(a0b _ _).1 h2];kernel_rfl)
 | false=>
 cases h3:seq s ⟨#[42]⟩with
 | true=>
  simp only [cond_true,cond_false,l2a,k2m];exact reck (by rw [(a0b _ _).1 h3];kernel_rfl)
 | false=>
 simp only [cond_false,k2m];cases h4:seq s ⟨#[61]⟩with
 | true=>
  simp only [cond_true];obtain⟨e0,e1,m0,m1⟩:=ar2 (har.two (by rw [(a0b _ _).1 h4];kernel_rfl));rw [e0,j2r,e1,j2r,Val.eta,Val.eta,y0h _ _ m (b0h (hl _ m0)) (by have:=sz _ m0;omega),j2r];dsimp only;rw [Val.eta]
 | false=>
 cases h5:seq s ⟨#[60]⟩with
 | true=>
  simp only [cond_true,cond_false];obtain⟨e0,e1,m0,m1⟩:=ar2 (har.two (by rw [(a0b _ _).1 h5];kernel_rfl));rw [e0,j2r,e1,j2r,Val.eta,Val.eta,y0s _ _ m (b0h (hl _ m0)) (by have:=sz _ m0;omega),j2r];dsimp only;rw [Val.eta]
 | false=>
 cases h6:seq s ⟨#[60,61]⟩with
 | true=>
  simp only [cond_true,cond_false];obtain⟨e0,e1,m0,m1⟩:=ar2 (har.two (by rw [(a0b _ _).1 h6];kernel_rfl));have hr:=z0q (arg1 l) (arg0 l);rw [e1,j2r,e0,j2r,Val.eta,Val.eta,y0s _ _ m (b0h (hl _ m1)) (by have:=sz _ m1;omega),j2r];dsimp only;rw [Val.eta,e0k (tV_r _ hr),j2r,m0n hr];dsimp only;rw [(y1c hr).1,j2r,(y1c hr).2,j2r,d0o,j2r];dsimp only;rw [Val.eta]
 | false=>
 cases h9:seq s ⟨#[110,111,116]⟩with
 | true=>
  have k7:seq s ⟨#[97,110,100]⟩=false:=by rw [(a0b _ _).1 h9];kernel_rfl
  have k8:seq s ⟨#[111,114]⟩=false:=by rw [(a0b _ _).1 h9];kernel_rfl
  rw [k7,k8];simp only [cond_true,cond_false];obtain⟨e0,m0⟩:=ar1 (har.one (by rw [(a0b _ _).1 h9];kernel_rfl));rw [e0,j2r,Val.eta,e0k (hl _ m0),j2r];dsimp only;rw [(y1c (g0c _)).1,j2r,d0o,j2r];dsimp only;rw [Val.eta]
 | false=>
 cases h8:seq s ⟨#[111,114]⟩with
 | true=>
  have k7:seq s ⟨#[97,110,100]⟩=false:=by rw [(a0b _ _).1 h8];kernel_rfl
  rw [k7];simp only [cond_true,cond_false];obtain⟨e0,e1,m0,m1⟩:=ar2 (har.two (by rw [(a0b _ _).1 h8];kernel_rfl));rw [e0,j2r,Val.eta,e0k (hl _ m0),j2r];dsimp only;rw [m1n (g0c _),j2r,e1,j2r,Val.eta,e0k (hl _ m1),j2r];dsimp only;rw [m1n (g0c _),j2r,g2a (g0c _) (g0c _),c1u l0w,j2r,d0o,j2r];dsimp only;rw [Val.eta]
 | false=>
 cases h7:seq s ⟨#[97,110,100]⟩with
 | true=>
  simp only [cond_true,cond_false];obtain⟨e0,e1,m0,m1⟩:=ar2 (har.two (by rw [(a0b _ _).1 h7];kernel_rfl));rw [e0,j2r,Val.eta,e0k (hl _ m0),j2r];dsimp only;rw [m1n (g0c _),j2r,e1,j2r,Val.eta,e0k (hl _ m1),j2r];dsimp only;rw [m1n (g0c _),j2r,f2k (g0c _) (g0c _),c1u m0a,j2r,d0o,j2r];dsimp only;rw [Val.eta]
 | false=>
 simp only [cond_false];cases h10:seq s ⟨#[110,117,108,108]⟩with
 | true=>
  simp only [cond_true,cond_false];obtain⟨e0,m0⟩:=ar1 (har.one (by rw [(a0b _ _).1 h10];kernel_rfl));rw [e0,j2r];cases (arg0 l).kind==0<;>rfl
 | false=>
 cases h11:seq s ⟨#[105,110]⟩with
 | true=>
  simp only [cond_true,cond_false];obtain⟨e0,e1,m0,m1⟩:=ar2 (har.two (by rw [(a0b _ _).1 h11];kernel_rfl));have l1:=(b0n (hl _ m1)).1;rw [e1,j2r];cases (arg1 l).kind !=4 with
  | true=>rfl
  | false=>
   simp only [cond_false];rw [j2r,q1t _ m _ _ _ m _ _ _ _ _ (by omega) (by omega)];refine(e1e (q24z m) m _ _ l (arg0 l) e0 (b0h (hl _ m0)) (by have:=sz _ m0;omega) _ (arg1 l).l 0 0 (.inl rfl)).trans ?_;dsimp only;rw [c1u (d1n _ _ _ (.inl rfl)),j2r,d0o,j2r];dsimp only;rw [Val.eta]
 | false=>
 cases h12:seq s ⟨#[115,105,122,101]⟩with
 | true=>
  simp only [cond_true,cond_false];obtain⟨e0,m0⟩:=ar1 (har.one (by rw [(a0b _ _).1 h12];kernel_rfl));have ls:=(b0n (hl _ m0)).2;rw [e0,j2r];cases (arg0 l).kind==3 with
  | true=>
   simp only [cond_true];rw [j2r,Val.eta];refine(h1x (q24z m) m _ _ _ (arg0 l).s (arg0 l).s.size 0 0 m (by omega) (by omega) (by omega)).trans ?_;rw [l2b];rfl
  | false=>
   simp only [cond_false];rw [j2r];cases (arg0 l).kind==4<;>rfl
 | false=>
 cases h13:seq s ⟨#[104,101,97,100]⟩with
 | true=>
  simp only [cond_true,cond_false];obtain⟨e0,m0⟩:=ar1 (har.one (by rw [(a0b _ _).1 h13];kernel_rfl));rw [e0,j2r];cases h4k:(arg0 l).kind==4 with
  | false=>
   rw [v1f (hl _ m0) h4k];rfl
  | true=>
   simp only [cond_true];cases hll:(arg0 l).l with
   | nil=>rfl
   | cons x r=>
    have:decide (((x::r).length:Int) >0)=true:=by simp
    rw [this];simp only [cond_true];rw [j2r,hll];show some (Val.mk x.kind x.n x.s x.l,())=some (x,());rw [Val.eta]
 | false=>
 cases h14:seq s ⟨#[99,111,97,108,101,115,99,101]⟩with
 | true=>
  simp only [cond_true,cond_false];rw [o1a _ m _ _ l m _ (by omega) (by omega)];exact r0w _ m _ _ rfl l 0
 | false=>
 cases h15:seq s ⟨#[108,105,115,116]⟩with
 | true=>
  simp only [cond_true,cond_false];rw [x0y _ m (by omega),j2r];dsimp only;cases chk (.mk 4 0 ⟨#[]⟩ l) 1==0<;>rfl
 | false=>
 cases h16:seq s ⟨#[105,100]⟩with
 | true=>
  simp only [cond_true,cond_false];obtain⟨e0,m0⟩:=ar1 (har.one (by rw [(a0b _ _).1 h16];kernel_rfl));rw [e0,j2r,Val.eta]
 | false=>
 cases h17:seq s ⟨#[116,121,112,101]⟩with
 | true=>
  simp only [cond_true,cond_false];obtain⟨e0,m0⟩:=ar1 (har.one (by rw [(a0b _ _).1 h17];kernel_rfl));have he:=hty h17;rw [e0,j2r,z0d _ _ m hg.riseE.2 (by omega),j2r];dsimp only;cases hx:c0m g.edges (arg0 l).n with
  | none=>rw [hx]at he;cases he
  | some x=>rfl
 | false=>rfl
theorem m1i{g:Graph}(hg:GOk g){at_:List Y2}(ha:atOk at_){b:List Y6}(hb:EB g b at_)(t:Term): ∀d,tOk t→tchk b t d=0→
  ∃N,∀n,N≤n→q24z n (g,at_,t,())=some (tval g at_ t,()):=by
 induction t using i0d with
 | _ k v s a ih=>
  intro d ht hc;have ht0:=ht;rw [tOk,u0e]at ht;have hr:=r1z hc;cases hr with
  | const v s a d h6 hv=>
   refine⟨1,fun n hn=> ?_⟩;obtain⟨m,rfl⟩: ∃m,n=m+1:=⟨n - 1,by omega⟩;rw [q24z,tval];unfold y0l;dsimp+instances only [n0b,n0y];rw [Val.eta];rfl
  | var v s a d h6 hm=>
   refine⟨1,fun n hn=> ?_⟩;obtain⟨m,rfl⟩: ∃m,n=m+1:=⟨n - 1,by omega⟩;rw [q24z,tval];rfl
  | field v s a d h6 e1 e2=>
   refine⟨201,fun n hn=> ?_⟩;obtain⟨m,rfl⟩: ∃m,n=m+1:=⟨n - 1,by omega⟩;rw [q24z,tval];unfold y0l;dsimp+instances only [n0b,n0y,n0z,u0o];rw [show((3:Int)==1)=false from rfl,show((3:Int)==2)=false from rfl,show((3:Int)==3)=true from rfl]
   simp only [cond_false,cond_true];rw [e1,j2r,show(Graph.mk g.nodes g.edges g.next)=g from rfl,j0i _ _ m hg.riseN.2 (by omega),j2r,z0d _ _ m hg.riseE.2 (by omega),j2r]
   dsimp only;unfold fldV;cases h1:b0d g.nodes (a0g .str .i64 0 at_ (hdT a).name)with
   | some x=>
    have hp:=hg.propsN (r0r h1);show((q44z m (x.props,s,())).bind _)=_;rw [y0o _ _ m (by omega) hp.1,j2r];dsimp only;rw [Val.eta]
   | none=>
    cases h2:c0m g.edges (a0g .str .i64 0 at_ (hdT a).name)with
    | none=>rfl
    | some x=>
     have hp:=hg.propsE (l0l h2);show((q44z m (x.props,s,())).bind _)=_;rw [y0o _ _ m (by omega) hp.1,j2r];dsimp only;rw [Val.eta]
  | call v s a d h6 har h30 hs hlst hz=>
   have hall: ∀x∈a,∃N,∀n,N≤n→q24z n (g,at_,x,())=some (tval g at_ x,()):=fun x hx=>ih x hx (d+1) (ht.2.2.2.2 x hx) (hs x hx);have hR: ∀y∈d0d g at_ a,Right y 1:=by
    rw [d0e];intro y hy;obtain⟨x,hx,rfl⟩:=k2s.1 hy;exact(t0f hg ha b x (d+1) (ht.2.2.2.2 x hx) (hs x hx)).2
   have hlen:(d0d g at_ a).length=a.length:=by rw [d0e,k2v]
   obtain⟨N,hN⟩:=c1n a hall;refine⟨N+lSz (d0d g at_ a)+5001,fun n hn=> ?_⟩;obtain⟨m,rfl⟩: ∃m,n=m+1:=⟨n - 1,by omega⟩;rw [tval];refine u1u hg at_ v s a m h30 (fun x hx=>hN m (by omega) x hx) hR (by rw [hlen];exact har) (by omega) fun hty=> ?_;have ha1:a.length=1:=har.one (by rw [(a0b _ _).1 hty];kernel_rfl);obtain⟨x,rfl⟩: ∃x,a= [x]:=by
    match a,ha1 with
    | [x],_=>exact⟨x,rfl⟩
   unfold lstB at hlst;rw [show seq s ⟨#[105,100]⟩=false by rw [(a0b _ _).1 hty];kernel_rfl,hty]at hlst;simp only [cond_true,cond_false]at hlst;have hx:hdT [x]=x:=rfl;rw [hx]at hlst;cases hk:x.kind !=2 with
   | true=>rw [hk]at hlst;cases hlst
   | false=>
    rw [hk,cond_false]at hlst;cases hge:a0g .str .bool false b x.name with
    | false=>rw [hge]at hlst;cases hlst
    | true=>
     have:=hb _ hge;obtain⟨k',v',s',a'⟩:=x;rw [n0b]at hk;have hk2:k' =2:=by simpa using hk
     subst hk2;exact this
end Pure
